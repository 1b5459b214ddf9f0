/- The abstract machine, printed functions of the program, and what they are shown to be. -/
import Derived.Test.YtpigmhokjbbffaaGreatDoorHA2M3
import Derived.KernelRfl
namespace Go.Am.X
set_option maxRecDepth 1000000
set_option linter.unusedVariables false
abbrev iR (n : Nat) (o : AOp) (a : List O) : Ins := ⟨some n, none, o, a, none⟩
abbrev iG (n g : Nat) (b : Bool) (o : AOp) (a : List O) : Ins := ⟨some n, some (g, b), o, a, none⟩
abbrev f_law5_HeadersAsk : Nat := 3
abbrev f_keep_FewHeaders : Nat := 5
abbrev f_keep_Few : Nat := 6
abbrev f_book_Roomy_Header : Nat := 7
abbrev f_law5_h : Nat := 8
abbrev f_headers_Value : Nat := 9
abbrev f_ref5_Value : Nat := 10
abbrev f_headers_Get : Nat := 11
abbrev f_ref5_Get : Nat := 12
abbrev f_headers_Split : Nat := 13
abbrev f_ref5_Split : Nat := 14
abbrev f_headers_Range : Nat := 15
abbrev f_ref5_Range : Nat := 16
abbrev f_book_Same_string : Nat := 17
abbrev f_book_Same_Header : Nat := 18
abbrev f_headers_Sorted : Nat := 19
abbrev f_ref5_Sorted : Nat := 20
abbrev f_headers_Forbidden : Nat := 21
abbrev f_ref5_Forbidden : Nat := 22
abbrev f_headers_Safe : Nat := 23
abbrev f_ref5_Safe : Nat := 24
abbrev f_book_Intact_Header : Nat := 25
abbrev f_law5_known : Nat := 26
abbrev f_strings_Trim : Nat := 36
abbrev f_strings_ContainsAny : Nat := 37
abbrev f_ref1_Trim : Nat := 38
abbrev f_headers_is : Nat := 39
abbrev f_strings_Join : Nat := 40
abbrev f_ref5_Named : Nat := 41
abbrev f_strings_CutPrefix : Nat := 42
abbrev f_strings_Cut : Nat := 43
abbrev f_headers_told : Nat := 44
abbrev f_ref1_Begins : Nat := 45
abbrev f_ref1_Part : Nat := 46
abbrev f_ref1_Int : Nat := 47
abbrev f_infra_Lower : Nat := 48
abbrev f_slices_Sort_string : Nat := 49
abbrev f_slices_Compact_string : Nat := 50
abbrev f_ref1_Lower : Nat := 51
abbrev f_ref1_Sorted : Nat := 52
abbrev f_strings_HasPrefix : Nat := 53
abbrev f_ref1_Has : Nat := 54
abbrev f_headers_unsafe : Nat := 55
abbrev f_headers_tongues : Nat := 56
abbrev f_infra_Strip : Nat := 57
abbrev f_ref5_unsafe : Nat := 58
abbrev f_ref5_language : Nat := 59
abbrev f_ref1_Strip : Nat := 60
abbrev f_strings_trimLeftByte : Nat := 69
abbrev f_strings_trimRightByte : Nat := 70
abbrev f_strings_makeASCIISet : Nat := 71
abbrev f_strings_trimLeftASCII : Nat := 72
abbrev f_strings_trimRightASCII : Nat := 73
abbrev f_strings_trimLeftUnicode : Nat := 74
abbrev f_strings_trimRightUnicode : Nat := 75
abbrev f_strings_IndexAny : Nat := 76
abbrev f_ref1_ends : Nat := 77
abbrev f_stringslite_CutPrefix : Nat := 81
abbrev f_stringslite_Cut : Nat := 82
abbrev f_infra_Int : Nat := 83
abbrev f_ref1_Digit : Nat := 84
abbrev f_infra_mapped : Nat := 85
abbrev f_infra_Lower_1 : Nat := 86
abbrev f_stringslite_HasPrefix : Nat := 89
abbrev f_strings_IndexByte : Nat := 90
abbrev f_ref1_Letter : Nat := 91
abbrev f_ref1_Blank : Nat := 92
abbrev f_asciiSet_contains : Nat := 94
abbrev f_utf8_DecodeRuneInString : Nat := 95
abbrev f_strings_ContainsRune : Nat := 96
abbrev f_utf8_DecodeLastRuneInString : Nat := 97
abbrev f_strings_IndexRune : Nat := 98
abbrev f_strings_shouldUseASCIISet : Nat := 99
abbrev f_stringslite_Index : Nat := 102
abbrev f_stringslite_IndexByte : Nat := 114
abbrev f_utf8_decodeRuneInStringSlow : Nat := 115
abbrev f_utf8_RuneStart : Nat := 116
abbrev f_utf8_ValidRune : Nat := 117
abbrev f_bytealg_Cutover : Nat := 118
abbrev f_bytealg_IndexRabinKarp_string : Nat := 122
abbrev f_bytealg_hashStr_string : Nat := 130
/-- ostiary/ostiarylaw5.HeadersAsk -/
def fn_law5_HeadersAsk : Fun := ⟨3, (.seq (.reg [iR 6 (.p .mv) [(.c (.bool false))]]) (.keep [0, 1, 2] (.seq (.reg [iR 27 (.p .mv) [(.t 0)], iR 28 (.call 5) [(.t 27), (.c (.int .i64 (.ofNat 20))), (.c (.int .i64 (.ofNat 300)))], iR 0 (.p .mv) [(.t 28)]]) (.keep [0, 1, 2] (.seq (.reg [iR 29 (.p .mv) [(.t 1)], iR 30 (.call 6) [(.t 29), (.c (.int .i64 (.ofNat 100)))], iR 1 (.p .mv) [(.t 30)]]) (.keep [0, 1, 2] (.seq (.reg [iR 31 (.p .mv) [(.t 2)], iR 32 (.call 6) [(.t 31), (.c (.int .i64 (.ofNat 300)))], iR 2 (.p .mv) [(.t 32)]]) (.keep [0, 1, 2] (.seq (.reg [iR 33 (.p .mv) [(.t 0)], iR 34 (.call 8) [(.c (.str (bs [45]))), (.c (.str (bs [45])))], iR 35 (.call 7) [(.t 33), (.t 34)], iR 7 (.p .mv) [(.t 35)]]) (.keep [0, 1, 2, 7] (.seq (.reg [iR 36 (.p .mv) [(.t 7)], iR 37 (.p .mv) [(.t 0)], iR 38 (.p .len) [(.t 37)], iR 39 (.p (.slSlice 2 false true false)) [(.t 36), (.t 38)],
    iR 8 (.p .mv) [(.t 39)]]) (.keep [0, 1, 2, 7, 8] (.seq (.reg [iR 41 (.p .mv) [(.t 2)], iR 42 (.call 9) [(.t 41)], iR 40 (.p .mv) [(.t 42)], iR 43 (.p (.extract 0)) [(.t 40)], iR 44 (.p (.extract 1)) [(.t 40)], iR 9 (.p .mv) [(.t 43)], iR 10 (.p .mv) [(.t 44)]]) (.keep [0, 1, 2, 7, 8, 9, 10] (.seq (.reg [iR 46 (.p .mv) [(.t 2)], iR 47 (.call 10) [(.t 46)], iR 45 (.p .mv) [(.t 47)], iR 48 (.p (.extract 0)) [(.t 45)], iR 49 (.p (.extract 1)) [(.t 45)], iR 11 (.p .mv) [(.t 48)], iR 12 (.p .mv) [(.t 49)]]) (.keep [0, 1, 2, 7, 8, 9, 10, 11, 12] (.seq (.reg [iR 51 (.p .mv) [(.t 8)], iR 52 (.p .mv) [(.t 1)], iR 53 (.call 11) [(.t 51), (.t 52)], iR 50 (.p .mv) [(.t 53)], iR 54 (.p (.extract 0)) [(.t 50)], iR 55 (.p (.extract 1)) [(.t 50)], iR 13 (.p .mv) [(.t 54)], iR 14 (.p .mv) [(.t 55)]]) (.keep [0, 1, 2, 7, 8, 9, 10, 11, 12, 13, 14] (.seq (.reg [iR 57 (.p .mv) [(.t 0)],
    iR 58 (.p .mv) [(.t 1)], iR 59 (.call 12) [(.t 57), (.t 58)], iR 56 (.p .mv) [(.t 59)], iR 60 (.p (.extract 0)) [(.t 56)], iR 61 (.p (.extract 1)) [(.t 56)], iR 15 (.p .mv) [(.t 60)], iR 16 (.p .mv) [(.t 61)]]) (.keep [0, 1, 2, 7, 8, 9, 10, 11, 12, 13, 14, 15, 16] (.seq (.reg [iR 63 (.p .mv) [(.t 8)], iR 64 (.p .mv) [(.t 1)], iR 65 (.call 13) [(.t 63), (.t 64)], iR 62 (.p .mv) [(.t 65)], iR 66 (.p (.extract 0)) [(.t 62)], iR 67 (.p (.extract 1)) [(.t 62)], iR 17 (.p .mv) [(.t 66)], iR 18 (.p .mv) [(.t 67)]]) (.keep [0, 1, 2, 7, 8, 9, 10, 11, 12, 13, 14, 15, 16, 17, 18] (.seq (.reg [iR 69 (.p .mv) [(.t 0)], iR 70 (.p .mv) [(.t 1)], iR 71 (.call 14) [(.t 69), (.t 70)], iR 68 (.p .mv) [(.t 71)], iR 72 (.p (.extract 0)) [(.t 68)], iR 73 (.p (.extract 1)) [(.t 68)], iR 19 (.p .mv) [(.t 72)], iR 20 (.p .mv) [(.t 73)]])
    (.keep [0, 1, 2, 7, 8, 9, 10, 11, 12, 13, 14, 15, 16, 17, 18, 19, 20] (.seq (.reg [iR 75 (.p .mv) [(.t 2)], iR 76 (.call 15) [(.t 75)], iR 74 (.p .mv) [(.t 76)], iR 77 (.p (.extract 0)) [(.t 74)], iR 78 (.p (.extract 1)) [(.t 74)], iR 79 (.p (.extract 2)) [(.t 74)], iR 21 (.p .mv) [(.t 77)], iR 22 (.p .mv) [(.t 78)], iR 23 (.p .mv) [(.t 79)]]) (.keep [0, 1, 2, 7, 8, 9, 10, 11, 12, 13, 14, 15, 16, 17, 18, 19, 20, 21, 22, 23] (.seq (.reg [iR 81 (.p .mv) [(.t 2)], iR 82 (.call 16) [(.t 81)], iR 80 (.p .mv) [(.t 82)], iR 83 (.p (.extract 0)) [(.t 80)], iR 84 (.p (.extract 1)) [(.t 80)], iR 85 (.p (.extract 2)) [(.t 80)], iR 24 (.p .mv) [(.t 83)], iR 25 (.p .mv) [(.t 84)], iR 26 (.p .mv) [(.t 85)]]) (.keep [0, 1, 2, 7, 8, 9, 10, 11, 12, 13, 14, 15, 16, 17, 18, 19, 20, 21, 22, 23, 24, 25, 26] (.seq (.reg [iR 86 (.p .mv) [(.t 9)], iR 87 (.p .mv) [(.t 11)],
    iR 88 (.p (.bin .eql)) [(.t 86), (.t 87)], iR 89 (.p .mv) [(.t 88)], iG 90 89 true (.p .mv) [(.t 10)], iG 91 89 true (.p .mv) [(.t 12)], iG 92 89 true (.p (.eq false .bool)) [(.t 90), (.t 91)], iR 93 (.p .pick) [(.t 89), (.t 92), (.c (.bool false))], iR 94 (.p .mv) [(.t 93)], iG 95 94 true (.p .mv) [(.t 13)], iG 96 94 true (.p .mv) [(.t 15)], iG 97 94 true (.p (.bin .eql)) [(.t 95), (.t 96)], iR 98 (.p .pick) [(.t 94), (.t 97), (.c (.bool false))], iR 99 (.p .mv) [(.t 98)], iG 100 99 true (.p .mv) [(.t 14)], iG 101 99 true (.p .mv) [(.t 16)], iG 102 99 true (.p (.eq false .bool)) [(.t 100), (.t 101)], iR 103 (.p .pick) [(.t 99), (.t 102), (.c (.bool false))], iR 104 (.p .mv) [(.t 103)], iG 105 104 true (.p .mv) [(.t 17)], iG 106 104 true (.p .mv) [(.t 19)], iG 107 104 true (.call 17) [(.t 105), (.t 106)], iR 108 (.p .pick) [(.t 104), (.t 107), (.c (.bool false))],
    iR 109 (.p .mv) [(.t 108)], iG 110 109 true (.p .mv) [(.t 18)], iG 111 109 true (.p .mv) [(.t 20)], iG 112 109 true (.p (.eq false .bool)) [(.t 110), (.t 111)], iR 113 (.p .pick) [(.t 109), (.t 112), (.c (.bool false))], iR 114 (.p .mv) [(.t 113)], iG 115 114 true (.p .mv) [(.t 21)], iG 116 114 true (.p .mv) [(.t 24)], iG 117 114 true (.p (.bin .eql)) [(.t 115), (.t 116)], iR 118 (.p .pick) [(.t 114), (.t 117), (.c (.bool false))], iR 119 (.p .mv) [(.t 118)], iG 120 119 true (.p .mv) [(.t 22)], iG 121 119 true (.p .mv) [(.t 25)], iG 122 119 true (.p (.bin .eql)) [(.t 120), (.t 121)], iR 123 (.p .pick) [(.t 119), (.t 122), (.c (.bool false))], iR 124 (.p .mv) [(.t 123)], iG 125 124 true (.p .mv) [(.t 23)], iG 126 124 true (.p .mv) [(.t 26)], iG 127 124 true (.p (.eq false .bool)) [(.t 125), (.t 126)], iR 128 (.p .pick) [(.t 124), (.t 127), (.c (.bool false))],
    iR 129 (.p .mv) [(.t 128)], iG 130 129 true (.p .mv) [(.t 8)], iG 131 129 true (.call 19) [(.t 130)], iG 132 129 true (.p .mv) [(.t 0)], iG 133 129 true (.call 20) [(.t 132)], iG 134 129 true (.call 18) [(.t 131), (.t 133)], iR 135 (.p .pick) [(.t 129), (.t 134), (.c (.bool false))], iR 136 (.p .mv) [(.t 135)], iG 137 136 true (.p .mv) [(.t 1)], iG 138 136 true (.call 21) [(.t 137)], iG 139 136 true (.p .mv) [(.t 1)], iG 140 136 true (.call 22) [(.t 139)], iG 141 136 true (.p (.eq false .bool)) [(.t 138), (.t 140)], iR 142 (.p .pick) [(.t 136), (.t 141), (.c (.bool false))], iR 143 (.p .mv) [(.t 142)], iG 144 143 true (.p .mv) [(.t 1)], iG 145 143 true (.p .mv) [(.t 2)], iG 146 143 true (.call 23) [(.t 144), (.t 145)], iG 147 143 true (.p .mv) [(.t 1)], iG 148 143 true (.p .mv) [(.t 2)], iG 149 143 true (.call 24) [(.t 147), (.t 148)],
    iG 150 143 true (.p (.eq false .bool)) [(.t 146), (.t 149)], iR 151 (.p .pick) [(.t 143), (.t 150), (.c (.bool false))], iR 152 (.p .mv) [(.t 151)], iG 153 152 true (.p .mv) [(.t 7)], iG 154 152 true (.p .mv) [(.t 0)], iG 155 152 true (.call 8) [(.c (.str (bs [45]))), (.c (.str (bs [45])))], iG 156 152 true (.call 25) [(.t 153), (.t 154), (.t 155)], iR 157 (.p .pick) [(.t 152), (.t 156), (.c (.bool false))], iR 158 (.p .mv) [(.t 157)], iG 159 158 true (.call 26) [], iR 160 (.p .pick) [(.t 158), (.t 159), (.c (.bool false))], iR 6 (.p .mv) [(.t 160)]]) (.keep [6] (.keep [6] .ret))))))))))))))))))))))))))))))), [(.t 6)]⟩
def s_law5_HeadersAsk (call : CallK) (N : Nat) (a0 a1 a2 : V) (H : Heap) (τ : Tape) (q : KV) : Ans := call f_keep_FewHeaders [a0, (.int .i64 (.ofNat 20)), (.int .i64 (.ofNat 300))] H τ fun v0 H1 τ2 => call f_keep_Few [a1, (.int .i64 (.ofNat 100))] H1 τ2 fun v3 H4 τ5 => call f_keep_Few [a2, (.int .i64 (.ofNat 300))] H4 τ5 fun v6 H7 τ8 => call f_law5_h [(.str (bs [45])), (.str (bs [45]))] H7 τ8 fun v9 H10 τ11 => call f_book_Roomy_Header [v0, v9] H10 τ11 fun v12 H13 τ14 => someK (pLen [v0]) fun v15 => someK (pSlSlice 2 false true false [v12, v15]) fun v16 => call f_headers_Value [v6] H13 τ14 fun v17 H18 τ19 => someK (pExtract 0 [v17]) fun v20 => someK (pExtract 1 [v17]) fun v21 => call f_ref5_Value [v6] H18 τ19 fun v22 H23 τ24 => someK (pExtract 0 [v22]) fun v25 => someK (pExtract 1 [v22]) fun v26 => call f_headers_Get [v16, v3] H23 τ24 fun v27 H28 τ29 =>
    someK (pExtract 0 [v27]) fun v30 => someK (pExtract 1 [v27]) fun v31 => call f_ref5_Get [v0, v3] H28 τ29 fun v32 H33 τ34 => someK (pExtract 0 [v32]) fun v35 => someK (pExtract 1 [v32]) fun v36 => call f_headers_Split [v16, v3] H33 τ34 fun v37 H38 τ39 => someK (pExtract 0 [v37]) fun v40 => someK (pExtract 1 [v37]) fun v41 => call f_ref5_Split [v0, v3] H38 τ39 fun v42 H43 τ44 => someK (pExtract 0 [v42]) fun v45 => someK (pExtract 1 [v42]) fun v46 => call f_headers_Range [v6] H43 τ44 fun v47 H48 τ49 => someK (pExtract 0 [v47]) fun v50 => someK (pExtract 1 [v47]) fun v51 => someK (pExtract 2 [v47]) fun v52 => call f_ref5_Range [v6] H48 τ49 fun v53 H54 τ55 => someK (pExtract 0 [v53]) fun v56 => someK (pExtract 1 [v53]) fun v57 => someK (pExtract 2 [v53]) fun v58 => binK .eql v20 v25 fun v59 => gK v59 true (fun q' => q' v21 H54 τ55) H54 τ55 fun v60 H61 τ62 =>
    gK v59 true (fun q' => q' v26 H61 τ62) H61 τ62 fun v63 H64 τ65 => gK v59 true (fun q' => someK (pEq false .bool [v60, v63]) fun v => q' v H64 τ65) H64 τ65 fun v66 H67 τ68 => someK (pPick [v59, v66, (.bool false)]) fun v69 => gK v69 true (fun q' => q' v30 H67 τ68) H67 τ68 fun v70 H71 τ72 => gK v69 true (fun q' => q' v35 H71 τ72) H71 τ72 fun v73 H74 τ75 => gK v69 true (fun q' => binK .eql v70 v73 fun v => q' v H74 τ75) H74 τ75 fun v76 H77 τ78 => someK (pPick [v69, v76, (.bool false)]) fun v79 => gK v79 true (fun q' => q' v31 H77 τ78) H77 τ78 fun v80 H81 τ82 => gK v79 true (fun q' => q' v36 H81 τ82) H81 τ82 fun v83 H84 τ85 => gK v79 true (fun q' => someK (pEq false .bool [v80, v83]) fun v => q' v H84 τ85) H84 τ85 fun v86 H87 τ88 => someK (pPick [v79, v86, (.bool false)]) fun v89 => gK v89 true (fun q' => q' v40 H87 τ88) H87 τ88 fun v90 H91 τ92 =>
    gK v89 true (fun q' => q' v45 H91 τ92) H91 τ92 fun v93 H94 τ95 => gK v89 true (fun q' => call f_book_Same_string [v90, v93] H94 τ95 q') H94 τ95 fun v96 H97 τ98 => someK (pPick [v89, v96, (.bool false)]) fun v99 => gK v99 true (fun q' => q' v41 H97 τ98) H97 τ98 fun v100 H101 τ102 => gK v99 true (fun q' => q' v46 H101 τ102) H101 τ102 fun v103 H104 τ105 => gK v99 true (fun q' => someK (pEq false .bool [v100, v103]) fun v => q' v H104 τ105) H104 τ105 fun v106 H107 τ108 => someK (pPick [v99, v106, (.bool false)]) fun v109 => gK v109 true (fun q' => q' v50 H107 τ108) H107 τ108 fun v110 H111 τ112 => gK v109 true (fun q' => q' v56 H111 τ112) H111 τ112 fun v113 H114 τ115 => gK v109 true (fun q' => binK .eql v110 v113 fun v => q' v H114 τ115) H114 τ115 fun v116 H117 τ118 => someK (pPick [v109, v116, (.bool false)]) fun v119 =>
    gK v119 true (fun q' => q' v51 H117 τ118) H117 τ118 fun v120 H121 τ122 => gK v119 true (fun q' => q' v57 H121 τ122) H121 τ122 fun v123 H124 τ125 => gK v119 true (fun q' => binK .eql v120 v123 fun v => q' v H124 τ125) H124 τ125 fun v126 H127 τ128 => someK (pPick [v119, v126, (.bool false)]) fun v129 => gK v129 true (fun q' => q' v52 H127 τ128) H127 τ128 fun v130 H131 τ132 => gK v129 true (fun q' => q' v58 H131 τ132) H131 τ132 fun v133 H134 τ135 => gK v129 true (fun q' => someK (pEq false .bool [v130, v133]) fun v => q' v H134 τ135) H134 τ135 fun v136 H137 τ138 => someK (pPick [v129, v136, (.bool false)]) fun v139 => gK v139 true (fun q' => q' v16 H137 τ138) H137 τ138 fun v140 H141 τ142 => gK v139 true (fun q' => call f_headers_Sorted [v140] H141 τ142 q') H141 τ142 fun v143 H144 τ145 => gK v139 true (fun q' => q' v0 H144 τ145) H144 τ145 fun v146 H147 τ148 =>
    gK v139 true (fun q' => call f_ref5_Sorted [v146] H147 τ148 q') H147 τ148 fun v149 H150 τ151 => gK v139 true (fun q' => call f_book_Same_Header [v143, v149] H150 τ151 q') H150 τ151 fun v152 H153 τ154 => someK (pPick [v139, v152, (.bool false)]) fun v155 => gK v155 true (fun q' => q' v3 H153 τ154) H153 τ154 fun v156 H157 τ158 => gK v155 true (fun q' => call f_headers_Forbidden [v156] H157 τ158 q') H157 τ158 fun v159 H160 τ161 => gK v155 true (fun q' => q' v3 H160 τ161) H160 τ161 fun v162 H163 τ164 => gK v155 true (fun q' => call f_ref5_Forbidden [v162] H163 τ164 q') H163 τ164 fun v165 H166 τ167 => gK v155 true (fun q' => someK (pEq false .bool [v159, v165]) fun v => q' v H166 τ167) H166 τ167 fun v168 H169 τ170 => someK (pPick [v155, v168, (.bool false)]) fun v171 => gK v171 true (fun q' => q' v3 H169 τ170) H169 τ170 fun v172 H173 τ174 =>
    gK v171 true (fun q' => q' v6 H173 τ174) H173 τ174 fun v175 H176 τ177 => gK v171 true (fun q' => call f_headers_Safe [v172, v175] H176 τ177 q') H176 τ177 fun v178 H179 τ180 => gK v171 true (fun q' => q' v3 H179 τ180) H179 τ180 fun v181 H182 τ183 => gK v171 true (fun q' => q' v6 H182 τ183) H182 τ183 fun v184 H185 τ186 => gK v171 true (fun q' => call f_ref5_Safe [v181, v184] H185 τ186 q') H185 τ186 fun v187 H188 τ189 => gK v171 true (fun q' => someK (pEq false .bool [v178, v187]) fun v => q' v H188 τ189) H188 τ189 fun v190 H191 τ192 => someK (pPick [v171, v190, (.bool false)]) fun v193 => gK v193 true (fun q' => q' v12 H191 τ192) H191 τ192 fun v194 H195 τ196 => gK v193 true (fun q' => q' v0 H195 τ196) H195 τ196 fun v197 H198 τ199 => gK v193 true (fun q' => call f_law5_h [(.str (bs [45])), (.str (bs [45]))] H198 τ199 q') H198 τ199 fun v200 H201 τ202 =>
    gK v193 true (fun q' => call f_book_Intact_Header [v194, v197, v200] H201 τ202 q') H201 τ202 fun v203 H204 τ205 => someK (pPick [v193, v203, (.bool false)]) fun v206 => gK v206 true (fun q' => call f_law5_known [] H204 τ205 q') H204 τ205 fun v207 H208 τ209 => someK (pPick [v206, v207, (.bool false)]) fun v210 => q v210 H208 τ209
theorem s_law5_HeadersAsk_eq (call : CallK) (N : Nat) (a0 a1 a2 : V) (H : Heap) (τ : Tape) (q : KV) : s_law5_HeadersAsk call N a0 a1 a2 H τ q = funK call N fn_law5_HeadersAsk [a0, a1, a2] H τ q := by kernel_rfl
def e_law5_HeadersAsk (call : CallK) (N : Nat) (vs : List V) (H : Heap) (τ : Tape) (q : KV) : Ans := match vs with | [a0, a1, a2] => s_law5_HeadersAsk call N a0 a1 a2 H τ q | _ => none
theorem e_law5_HeadersAsk_ok : EntOk fn_law5_HeadersAsk e_law5_HeadersAsk := by
  intro call N vs H τ q r h
  unfold e_law5_HeadersAsk at h
  split at h
  · rw [s_law5_HeadersAsk_eq] at h; exact h
  · cases h
theorem e_law5_HeadersAsk_nat : EntNat e_law5_HeadersAsk := by
  intro c hn N vs H τ q
  unfold e_law5_HeadersAsk
  split
  · rw [s_law5_HeadersAsk_eq, s_law5_HeadersAsk_eq]; exact funK_ent hn _ _ _ _ _ _
  · rfl
/-- ostiary/ostiarykeep.FewHeaders -/
def fn_keep_FewHeaders : Fun := ⟨3, (.seq (.reg [iR 6 (.p .mv) [(.c .nils)]]) (.keep [0, 1, 2] (.seq (.reg [iR 7 (.p .mv) [(.c .nils)]]) (.keep [0, 1, 2, 7] (.seq (.seq (.reg [iR 8 (.p .mv) [(.c (.int .i64 (.ofNat 0)))]]) (.keep [0, 1, 2, 7, 8] (.block 0 (.loop (.keep [0, 1, 2, 7, 8] (.seq (.seq (.reg [iR 9 (.p .mv) [(.t 8)], iR 10 (.p .mv) [(.t 0)], iR 11 (.p .len) [(.t 10)], iR 12 (.p (.bin .lss)) [(.t 9), (.t 11)], iR 13 (.p .mv) [(.t 12)], iG 14 13 true (.p .mv) [(.t 8)], iG 15 13 true (.p .mv) [(.t 1)], iG 16 13 true (.p (.bin .lss)) [(.t 14), (.t 15)], iR 17 (.p .pick) [(.t 13), (.t 16), (.c (.bool false))]]) (.keep [0, 1, 2, 7, 8, 17] (.cond (.t 17) .skip (.keep [7] (.exit 0))))) (.keep [0, 1, 2, 7, 8] (.seq (.block 1 (.draw [iR 20 (.p .mv) [(.t 7)], iR 21 (.p .mv) [(.t 0)], iR 22 (.p .mv) [(.t 8)], iR 23 (.p (.slIdx 2)) [(.t 21), (.t 22)],
    iR 24 (.p (.fieldAddr 0)) [(.t 23)], iR 25 (.l (.load none)) [(.t 24)], iR 26 (.p .mv) [(.t 2)], iR 27 (.call 6) [(.t 25), (.t 26)], iR 28 (.p .mv) [(.t 0)], iR 29 (.p .mv) [(.t 8)], iR 30 (.p (.slIdx 2)) [(.t 28), (.t 29)], iR 31 (.p (.fieldAddr 1)) [(.t 30)], ⟨(some 32), none, (.l (.load none)), [(.t 31)], some (0, 1)⟩, iR 33 (.p .mv) [(.t 2)], iR 34 (.call 6) [(.t 32), (.t 33)], iR 35 (.p (.build [(.str []), (.str [])] [(0, 1), (1, 1)])) [(.t 27), (.t 34)], iR 36 (.e (.buildSlice 1 2 [(.str []), (.str [])] [(0, 2)])) [(.t 35)], iR 37 (.e (.append 2 32)) [(.t 20), (.t 36)], iR 7 (.p .mv) [(.t 37)]])) (.keep [0, 1, 2, 7, 8] (.reg [iR 18 (.p .mv) [(.t 8)], iR 19 (.p (.bin .add)) [(.t 18), (.c (.int .i64 (.ofNat 1)))], iR 8 (.p .mv) [(.t 19)]])))))))))) (.keep [7] (.seq (.reg [iR 38 (.p .mv) [(.t 7)], iR 6 (.p .mv) [(.t 38)]]) (.keep [6] (.keep [6] .ret))))))))), [(.t 6)]⟩
def s_keep_FewHeaders_j0 (call : CallK) (N : Nat) (q : KV) (st : St) (τ : Tape) : Ans := match st with
  | ⟨fr, H⟩ => getK fr 7 fun t7 => q t7 H τ
def s_keep_FewHeaders_l1 (call : CallK) (N : Nat) (st : St) (τ : Tape) (k : KC) : Ans := match st with
  | ⟨fr, H⟩ => getK fr 0 fun t0 => getK fr 1 fun t1 => getK fr 2 fun t2 => getK fr 7 fun t7 => getK fr 8 fun t8 => someK (pLen [t0]) fun v0 => binK .lss t8 v0 fun v1 => gK v1 true (fun q' => q' t8 H τ) H τ fun v2 H3 τ4 => gK v1 true (fun q' => q' t1 H3 τ4) H3 τ4 fun v5 H6 τ7 => gK v1 true (fun q' => binK .lss v2 v5 fun v => q' v H6 τ7) H6 τ7 fun v8 H9 τ10 => someK (pPick [v1, v8, (.bool false)]) fun v11 => condK v11 (someK (pSlIdx 2 [t0, t8]) fun v12 => someK (pFieldAddr 0 [v12]) fun v13 => someK (lLoad1 [v13] H9) fun v14 => call f_keep_Few [v14, t2] H9 τ10 fun v15 H16 τ17 => someK (pSlIdx 2 [t0, t8]) fun v18 => someK (pFieldAddr 1 [v18]) fun v19 => someK (lLoad1 [v19] H16) fun v20 => call f_keep_Few [v20, t2] H16 τ17 fun v21 H22 τ23 => someK (pBuild [(.str []), (.str [])] [(0, 1), (1, 1)] [v15, v21]) fun v24 =>
    effK (eBuildSlice 1 2 [(.str []), (.str [])] [(0, 2)] [v24] H22 τ23) fun v25 H26 τ27 => effK (eAppend 2 32 [t7, v25] H26 τ27) fun v28 H29 τ30 => bif chkLoads [H9, H16, H22, H26, H29] (((.load none), [v19], 0, 1) :: []) then binK .add t8 (.int .i64 (.ofNat 1)) fun v31 => k .normal ⟨(T.set (T.set (T.set (T.set (T.set (T.set (T.set (T.set .leaf 0 t0) 1 t1) 2 t2) 7 v28) 8 t8) 18 t8) 19 v31) 8 v31), H29⟩ τ30 else none) (k (.exit 0) ⟨(T.set .leaf 7 t7), H9⟩ τ10)
def s_keep_FewHeaders (call : CallK) (N : Nat) (a0 a1 a2 : V) (H : Heap) (τ : Tape) (q : KV) : Ans := loopK (s_keep_FewHeaders_l1 call N) N ⟨(T.set (T.set (T.set (T.set (T.set .leaf 0 a0) 1 a1) 2 a2) 7 .nils) 8 (.int .i64 (.ofNat 0))), H⟩ τ (blockK 0 (seqK (s_keep_FewHeaders_j0 call N q) (endK [(.t 6)] q)))
theorem s_keep_FewHeaders_eq (call : CallK) (N : Nat) (a0 a1 a2 : V) (H : Heap) (τ : Tape) (q : KV) : s_keep_FewHeaders call N a0 a1 a2 H τ q = funK call N fn_keep_FewHeaders [a0, a1, a2] H τ q := by kernel_rfl
def e_keep_FewHeaders (call : CallK) (N : Nat) (vs : List V) (H : Heap) (τ : Tape) (q : KV) : Ans := match vs with | [a0, a1, a2] => s_keep_FewHeaders call N a0 a1 a2 H τ q | _ => none
theorem e_keep_FewHeaders_ok : EntOk fn_keep_FewHeaders e_keep_FewHeaders := by
  intro call N vs H τ q r h
  unfold e_keep_FewHeaders at h
  split at h
  · rw [s_keep_FewHeaders_eq] at h; exact h
  · cases h
theorem e_keep_FewHeaders_nat : EntNat e_keep_FewHeaders := by
  intro c hn N vs H τ q
  unfold e_keep_FewHeaders
  split
  · rw [s_keep_FewHeaders_eq, s_keep_FewHeaders_eq]; exact funK_ent hn _ _ _ _ _ _
  · rfl
/-- ostiary/ostiarykeep.Few -/
def fn_keep_Few : Fun := ⟨2, (.seq (.reg [iR 4 (.p .mv) [(.c (.str []))]]) (.keep [0, 1] (.seq (.seq (.reg [iR 5 (.p .mv) [(.t 0)], iR 6 (.p .lenS) [(.t 5)], iR 7 (.p .mv) [(.t 1)], iR 8 (.p (.bin .gtr)) [(.t 6), (.t 7)]]) (.keep [0, 1, 8] (.cond (.t 8) (.seq (.reg [iR 9 (.p .mv) [(.t 0)], iR 10 (.p .mv) [(.t 1)], iR 11 (.p (.strSlice false true)) [(.t 9), (.t 10)], iR 4 (.p .mv) [(.t 11)]]) (.keep [4] (.keep [4] .ret))) .skip))) (.keep [0] (.seq (.reg [iR 12 (.p .mv) [(.t 0)], iR 4 (.p .mv) [(.t 12)]]) (.keep [4] (.keep [4] .ret))))))), [(.t 4)]⟩
def s_keep_Few (call : CallK) (N : Nat) (a0 a1 : V) (H : Heap) (τ : Tape) (q : KV) : Ans := someK (pLenS [a0]) fun v0 => binK .gtr v0 a1 fun v1 => condK v1 (someK (pStrSlice false true [a0, a1]) fun v2 => q v2 H τ) (q a0 H τ)
theorem s_keep_Few_eq (call : CallK) (N : Nat) (a0 a1 : V) (H : Heap) (τ : Tape) (q : KV) : s_keep_Few call N a0 a1 H τ q = funK call N fn_keep_Few [a0, a1] H τ q := by kernel_rfl
def e_keep_Few (call : CallK) (N : Nat) (vs : List V) (H : Heap) (τ : Tape) (q : KV) : Ans := match vs with | [a0, a1] => s_keep_Few call N a0 a1 H τ q | _ => none
theorem e_keep_Few_ok : EntOk fn_keep_Few e_keep_Few := by
  intro call N vs H τ q r h
  unfold e_keep_Few at h
  split at h
  · rw [s_keep_Few_eq] at h; exact h
  · cases h
theorem e_keep_Few_nat : EntNat e_keep_Few := by
  intro c hn N vs H τ q
  unfold e_keep_Few
  split
  · rw [s_keep_Few_eq, s_keep_Few_eq]; exact funK_ent hn _ _ _ _ _ _
  · rfl
/-- ostiary/ostiarybook.Roomy[ostiary/api.Header] -/
def fn_book_Roomy_Header : Fun := ⟨2, (.seq (.reg [iR 3 (.e .box) [(.t 1)], iR 4 (.p .mv) [(.c .nils)]]) (.keep [0, 3] (.seq (.reg [iR 7 (.p .mv) [(.t 0)], iR 8 (.p .len) [(.t 7)], iR 9 (.p (.bin .add)) [(.t 8), (.c (.int .i64 (.ofNat 80)))], iR 10 (.e (.makeSlice 2 32 [(.str []), (.str [])])) [(.t 9), (.t 9)], iR 5 (.p .mv) [(.t 10)]]) (.keep [0, 3, 5] (.seq (.reg [iR 11 (.p .mv) [(.t 5)], iR 12 (.p .mv) [(.t 0)], iR 13 (.e (.copy 2)) [(.t 11), (.t 12)]]) (.keep [0, 3, 5] (.seq (.seq (.reg [iR 14 (.p .mv) [(.t 0)], iR 15 (.p .len) [(.t 14)], iR 6 (.p .mv) [(.t 15)]]) (.keep [3, 5, 6] (.block 0 (.loop (.keep [3, 5, 6] (.seq (.seq (.reg [iR 16 (.p .mv) [(.t 6)], iR 17 (.p .mv) [(.t 5)], iR 18 (.p .len) [(.t 17)], iR 19 (.p (.bin .lss)) [(.t 16), (.t 18)]]) (.keep [3, 5, 6, 19] (.cond (.t 19) .skip (.keep [5] (.exit 0))))) (.keep [3, 5, 6] (.seq (.block 1
    (.reg [iR 22 (.p .mv) [(.t 5)], iR 23 (.p .mv) [(.t 6)], iR 24 (.l (.load (some 2))) [(.t 3)], iR 25 (.p (.slIdx 2)) [(.t 22), (.t 23)], ⟨none, none, (.e (.store 2)), [(.t 25), (.t 24)], none⟩])) (.keep [3, 5, 6] (.reg [iR 20 (.p .mv) [(.t 6)], iR 21 (.p (.bin .add)) [(.t 20), (.c (.int .i64 (.ofNat 1)))], iR 6 (.p .mv) [(.t 21)]])))))))))) (.keep [5] (.seq (.reg [iR 26 (.p .mv) [(.t 5)], iR 4 (.p .mv) [(.t 26)]]) (.keep [4] (.keep [4] .ret))))))))))), [(.t 4)]⟩
def s_book_Roomy_Header_j0 (call : CallK) (N : Nat) (q : KV) (st : St) (τ : Tape) : Ans := match st with
  | ⟨fr, H⟩ => getK fr 5 fun t5 => q t5 H τ
def s_book_Roomy_Header_l1 (call : CallK) (N : Nat) (st : St) (τ : Tape) (k : KC) : Ans := match st with
  | ⟨fr, H⟩ => getK fr 3 fun t3 => getK fr 5 fun t5 => getK fr 6 fun t6 => someK (pLen [t5]) fun v12 => binK .lss t6 v12 fun v13 => condK v13 (someK (lLoadN 2 [t3] H) fun v14 => someK (pSlIdx 2 [t5, t6]) fun v15 => effK (eStore 2 [v15, v14] H τ) fun v16 H17 τ18 => binK .add t6 (.int .i64 (.ofNat 1)) fun v19 => k .normal ⟨(T.set (T.set (T.set (T.set (T.set (T.set .leaf 3 t3) 5 t5) 6 t6) 20 t6) 21 v19) 6 v19), H17⟩ τ18) (k (.exit 0) ⟨(T.set .leaf 5 t5), H⟩ τ)
def s_book_Roomy_Header (call : CallK) (N : Nat) (a0 a1 : V) (H : Heap) (τ : Tape) (q : KV) : Ans := effK (eBox [a1] H τ) fun v0 H1 τ2 => someK (pLen [a0]) fun v3 => binK .add v3 (.int .i64 (.ofNat 80)) fun v4 => effK (eMakeSlice 2 32 [(.str []), (.str [])] [v4, v4] H1 τ2) fun v5 H6 τ7 => effK (eCopy 2 [v5, a0] H6 τ7) fun v8 H9 τ10 => someK (pLen [a0]) fun v11 => loopK (s_book_Roomy_Header_l1 call N) N ⟨(T.set (T.set (T.set .leaf 3 v0) 5 v5) 6 v11), H9⟩ τ10 (blockK 0 (seqK (s_book_Roomy_Header_j0 call N q) (endK [(.t 4)] q)))
theorem s_book_Roomy_Header_eq (call : CallK) (N : Nat) (a0 a1 : V) (H : Heap) (τ : Tape) (q : KV) : s_book_Roomy_Header call N a0 a1 H τ q = funK call N fn_book_Roomy_Header [a0, a1] H τ q := by kernel_rfl
def e_book_Roomy_Header (call : CallK) (N : Nat) (vs : List V) (H : Heap) (τ : Tape) (q : KV) : Ans := match vs with | [a0, a1] => s_book_Roomy_Header call N a0 a1 H τ q | _ => none
theorem e_book_Roomy_Header_ok : EntOk fn_book_Roomy_Header e_book_Roomy_Header := by
  intro call N vs H τ q r h
  unfold e_book_Roomy_Header at h
  split at h
  · rw [s_book_Roomy_Header_eq] at h; exact h
  · cases h
theorem e_book_Roomy_Header_nat : EntNat e_book_Roomy_Header := by
  intro c hn N vs H τ q
  unfold e_book_Roomy_Header
  split
  · rw [s_book_Roomy_Header_eq, s_book_Roomy_Header_eq]; exact funK_ent hn _ _ _ _ _ _
  · rfl
/-- ostiary/ostiarylaw5.h -/
def fn_law5_h : Fun := ⟨2, (.seq (.reg [iR 4 (.e (.alloc [(.str []), (.str [])])) []]) (.keep [0, 1, 4] (.seq (.reg [iR 5 (.p .mv) [(.t 0)], iR 6 (.p .mv) [(.t 1)], iR 7 (.p (.build [(.str []), (.str [])] [(0, 1), (1, 1)])) [(.t 5), (.t 6)], ⟨none, none, (.e (.store 2)), [(.t 4), (.t 7)], none⟩]) (.keep [4] (.keep [4] .ret))))), [(.cell 4 (some 2))]⟩
def s_law5_h (call : CallK) (N : Nat) (a0 a1 : V) (H : Heap) (τ : Tape) (q : KV) : Ans := effK (eAlloc [(.str []), (.str [])] [] H τ) fun v0 H1 τ2 => someK (pBuild [(.str []), (.str [])] [(0, 1), (1, 1)] [a0, a1]) fun v3 => effK (eStore 2 [v0, v3] H1 τ2) fun v4 H5 τ6 => someK (results ⟨(T.set .leaf 4 v0), H5⟩ [(.cell 4 (some 2))]) fun v => q v H5 τ6
theorem s_law5_h_eq (call : CallK) (N : Nat) (a0 a1 : V) (H : Heap) (τ : Tape) (q : KV) : s_law5_h call N a0 a1 H τ q = funK call N fn_law5_h [a0, a1] H τ q := by kernel_rfl
def e_law5_h (call : CallK) (N : Nat) (vs : List V) (H : Heap) (τ : Tape) (q : KV) : Ans := match vs with | [a0, a1] => s_law5_h call N a0 a1 H τ q | _ => none
theorem e_law5_h_ok : EntOk fn_law5_h e_law5_h := by
  intro call N vs H τ q r h
  unfold e_law5_h at h
  split at h
  · rw [s_law5_h_eq] at h; exact h
  · cases h
theorem e_law5_h_nat : EntNat e_law5_h := by
  intro c hn N vs H τ q
  unfold e_law5_h
  split
  · rw [s_law5_h_eq, s_law5_h_eq]; exact funK_ent hn _ _ _ _ _ _
  · rfl
/-- ostiary/headers.Value -/
def fn_headers_Value : Fun := ⟨1, (.seq (.reg [iR 2 (.p .mv) [(.c (.str []))], iR 3 (.p .mv) [(.c (.bool false))]]) (.keep [0] (.seq (.reg [iR 4 (.p .mv) [(.t 0)], iR 5 (.call 36) [(.t 4), (.c (.str (bs [9, 10, 13, 32])))], iR 0 (.p .mv) [(.t 5)]]) (.keep [0] (.seq (.seq (.reg [iR 6 (.p .mv) [(.t 0)], iR 7 (.call 37) [(.t 6), (.c (.str (bs [0, 10, 13])))]]) (.keep [0, 7] (.cond (.t 7) (.seq (.reg [iR 2 (.p .mv) [(.c (.str []))], iR 3 (.p .mv) [(.c (.bool false))]]) (.keep [2, 3] (.keep [2, 3] .ret))) .skip))) (.keep [0] (.seq (.reg [iR 8 (.p .mv) [(.t 0)], iR 2 (.p .mv) [(.t 8)], iR 3 (.p .mv) [(.c (.bool true))]]) (.keep [2, 3] (.keep [2, 3] .ret))))))))), [(.t 2), (.t 3)]⟩
def s_headers_Value (call : CallK) (N : Nat) (a0 : V) (H : Heap) (τ : Tape) (q : KV) : Ans := call f_strings_Trim [a0, (.str (bs [9, 10, 13, 32]))] H τ fun v0 H1 τ2 => call f_strings_ContainsAny [v0, (.str (bs [0, 10, 13]))] H1 τ2 fun v3 H4 τ5 => condK v3 (q (.tup [(.str []), (.bool false)]) H4 τ5) (q (.tup [v0, (.bool true)]) H4 τ5)
theorem s_headers_Value_eq (call : CallK) (N : Nat) (a0 : V) (H : Heap) (τ : Tape) (q : KV) : s_headers_Value call N a0 H τ q = funK call N fn_headers_Value [a0] H τ q := by kernel_rfl
def e_headers_Value (call : CallK) (N : Nat) (vs : List V) (H : Heap) (τ : Tape) (q : KV) : Ans := match vs with | [a0] => s_headers_Value call N a0 H τ q | _ => none
theorem e_headers_Value_ok : EntOk fn_headers_Value e_headers_Value := by
  intro call N vs H τ q r h
  unfold e_headers_Value at h
  split at h
  · rw [s_headers_Value_eq] at h; exact h
  · cases h
theorem e_headers_Value_nat : EntNat e_headers_Value := by
  intro c hn N vs H τ q
  unfold e_headers_Value
  split
  · rw [s_headers_Value_eq, s_headers_Value_eq]; exact funK_ent hn _ _ _ _ _ _
  · rfl
/-- ostiary/ostiaryref5.Value -/
def fn_ref5_Value : Fun := ⟨1, (.seq (.reg [iR 2 (.p .mv) [(.c (.str []))], iR 3 (.p .mv) [(.c (.bool false))]]) (.keep [0] (.seq (.reg [iR 5 (.p .mv) [(.t 0)], iR 6 (.call 38) [(.t 5), (.c (.bool false))], iR 0 (.p .mv) [(.t 6)]]) (.keep [0] (.seq (.seq (.reg [iR 4 (.p .mv) [(.c (.int .i64 (.ofNat 0)))]]) (.keep [0, 4] (.block 0 (.loop (.keep [0, 4] (.seq (.seq (.reg [iR 7 (.p .mv) [(.t 4)], iR 8 (.p .mv) [(.t 0)], iR 9 (.p .lenS) [(.t 8)], iR 10 (.p (.bin .lss)) [(.t 7), (.t 9)]]) (.keep [0, 4, 10] (.cond (.t 10) .skip (.keep [0] (.exit 0))))) (.keep [0, 4] (.seq (.block 1 (.seq (.reg [iR 13 (.p .mv) [(.t 0)], iR 14 (.p .mv) [(.t 4)], iR 15 (.p .strIndex) [(.t 13), (.t 14)], iR 16 (.p (.bin .eql)) [(.t 15), (.c (.int .u8 (.ofNat 0)))], iR 17 (.p .mv) [(.t 16)], iG 18 17 false (.p .mv) [(.t 0)], iG 19 17 false (.p .mv) [(.t 4)], iG 20 17 false (.p .strIndex) [(.t 18), (.t 19)],
    iG 21 17 false (.p (.bin .eql)) [(.t 20), (.c (.int .u8 (.ofNat 10)))], iR 22 (.p .pick) [(.t 17), (.c (.bool true)), (.t 21)], iR 23 (.p .mv) [(.t 22)], iG 24 23 false (.p .mv) [(.t 0)], iG 25 23 false (.p .mv) [(.t 4)], iG 26 23 false (.p .strIndex) [(.t 24), (.t 25)], iG 27 23 false (.p (.bin .eql)) [(.t 26), (.c (.int .u8 (.ofNat 13)))], iR 28 (.p .pick) [(.t 23), (.c (.bool true)), (.t 27)]]) (.keep [0, 4, 28] (.cond (.t 28) (.seq (.reg [iR 2 (.p .mv) [(.c (.str []))], iR 3 (.p .mv) [(.c (.bool false))]]) (.keep [2, 3] (.keep [2, 3] .ret))) .skip)))) (.keep [0, 4] (.reg [iR 11 (.p .mv) [(.t 4)], iR 12 (.p (.bin .add)) [(.t 11), (.c (.int .i64 (.ofNat 1)))], iR 4 (.p .mv) [(.t 12)]])))))))))) (.keep [0] (.seq (.reg [iR 29 (.p .mv) [(.t 0)], iR 2 (.p .mv) [(.t 29)], iR 3 (.p .mv) [(.c (.bool true))]]) (.keep [2, 3] (.keep [2, 3] .ret))))))))), [(.t 2), (.t 3)]⟩
def s_ref5_Value_j0 (call : CallK) (N : Nat) (q : KV) (st : St) (τ : Tape) : Ans := match st with
  | ⟨fr, H⟩ => getK fr 0 fun t0 => q (.tup [t0, (.bool true)]) H τ
def s_ref5_Value_l1 (call : CallK) (N : Nat) (st : St) (τ : Tape) (k : KC) : Ans := match st with
  | ⟨fr, H⟩ => getK fr 0 fun t0 => getK fr 4 fun t4 => someK (pLenS [t0]) fun v3 => binK .lss t4 v3 fun v4 => condK v4 (someK (pStrIndex [t0, t4]) fun v5 => binK .eql v5 (.int .u8 (.ofNat 0)) fun v6 => gK v6 false (fun q' => q' t0 H τ) H τ fun v7 H8 τ9 => gK v6 false (fun q' => q' t4 H8 τ9) H8 τ9 fun v10 H11 τ12 => gK v6 false (fun q' => someK (pStrIndex [v7, v10]) fun v => q' v H11 τ12) H11 τ12 fun v13 H14 τ15 => gK v6 false (fun q' => binK .eql v13 (.int .u8 (.ofNat 10)) fun v => q' v H14 τ15) H14 τ15 fun v16 H17 τ18 => someK (pPick [v6, (.bool true), v16]) fun v19 => gK v19 false (fun q' => q' t0 H17 τ18) H17 τ18 fun v20 H21 τ22 => gK v19 false (fun q' => q' t4 H21 τ22) H21 τ22 fun v23 H24 τ25 => gK v19 false (fun q' => someK (pStrIndex [v20, v23]) fun v => q' v H24 τ25) H24 τ25 fun v26 H27 τ28 =>
    gK v19 false (fun q' => binK .eql v26 (.int .u8 (.ofNat 13)) fun v => q' v H27 τ28) H27 τ28 fun v29 H30 τ31 => someK (pPick [v19, (.bool true), v29]) fun v32 => condK v32 (k .ret ⟨(T.set (T.set .leaf 2 (.str [])) 3 (.bool false)), H30⟩ τ31) (binK .add t4 (.int .i64 (.ofNat 1)) fun v33 => k .normal ⟨(T.set (T.set (T.set (T.set (T.set .leaf 0 t0) 4 t4) 11 t4) 12 v33) 4 v33), H30⟩ τ31)) (k (.exit 0) ⟨(T.set .leaf 0 t0), H⟩ τ)
def s_ref5_Value (call : CallK) (N : Nat) (a0 : V) (H : Heap) (τ : Tape) (q : KV) : Ans := call f_ref1_Trim [a0, (.bool false)] H τ fun v0 H1 τ2 => loopK (s_ref5_Value_l1 call N) N ⟨(T.set (T.set .leaf 0 v0) 4 (.int .i64 (.ofNat 0))), H1⟩ τ2 (blockK 0 (seqK (s_ref5_Value_j0 call N q) (endK [(.t 2), (.t 3)] q)))
theorem s_ref5_Value_eq (call : CallK) (N : Nat) (a0 : V) (H : Heap) (τ : Tape) (q : KV) : s_ref5_Value call N a0 H τ q = funK call N fn_ref5_Value [a0] H τ q := by kernel_rfl
def e_ref5_Value (call : CallK) (N : Nat) (vs : List V) (H : Heap) (τ : Tape) (q : KV) : Ans := match vs with | [a0] => s_ref5_Value call N a0 H τ q | _ => none
theorem e_ref5_Value_ok : EntOk fn_ref5_Value e_ref5_Value := by
  intro call N vs H τ q r h
  unfold e_ref5_Value at h
  split at h
  · rw [s_ref5_Value_eq] at h; exact h
  · cases h
theorem e_ref5_Value_nat : EntNat e_ref5_Value := by
  intro c hn N vs H τ q
  unfold e_ref5_Value
  split
  · rw [s_ref5_Value_eq, s_ref5_Value_eq]; exact funK_ent hn _ _ _ _ _ _
  · rfl
/-- ostiary/headers.Get -/
def fn_headers_Get : Fun := ⟨2, (.seq (.reg [iR 4 (.p .mv) [(.c (.str []))], iR 5 (.p .mv) [(.c (.bool false))]]) (.keep [0, 1] (.seq (.reg [iR 6 (.p .mv) [(.c .nils)]]) (.keep [0, 1, 6] (.seq (.seq (.reg [iR 9 (.p .mv) [(.t 0)], iR 10 (.p .len) [(.t 9)], iR 11 (.p .mv) [(.c (.int .i64 (.ofNat 0)))]]) (.keep [1, 6, 9, 10, 11] (.block 0 (.loop (.keep [1, 6, 9, 10, 11] (.seq (.reg [iR 12 (.p (.bin .lss)) [(.t 11), (.t 10)]]) (.keep [1, 6, 9, 10, 11, 12] (.seq (.cond (.t 12) .skip (.keep [6] (.exit 0))) (.keep [1, 6, 9, 10, 11] (.seq (.block 1 (.seq (.reg [iR 13 (.p (.slIdx 2)) [(.t 9), (.t 11)], iR 14 (.l (.load (some 2))) [(.t 13)], iR 8 (.e (.alloc [(.str []), (.str [])])) [], ⟨none, none, (.e (.store 2)), [(.t 8), (.t 14)], none⟩]) (.keep [1, 6, 8, 9, 10, 11] (.seq (.reg [iR 15 (.l (.load (some 2))) [(.t 8)], iR 16 (.p .mv) [(.t 1)], iR 17 (.call 39) [(.t 15), (.t 16)]])
    (.keep [1, 6, 8, 9, 10, 11, 17] (.cond (.t 17) (.reg [iR 18 (.p .mv) [(.t 6)], iR 19 (.p (.fieldAddr 1)) [(.t 8)], iR 20 (.l (.load none)) [(.t 19)], iR 21 (.e (.buildSlice 1 1 [(.str [])] [(0, 1)])) [(.t 20)], iR 22 (.e (.append 1 16)) [(.t 18), (.t 21)], iR 6 (.p .mv) [(.t 22)]]) .skip)))))) (.keep [1, 6, 9, 10, 11] (.reg [iR 23 (.p (.bin .add)) [(.t 11), (.c (.int .i64 (.ofNat 1)))], iR 11 (.p .mv) [(.t 23)]])))))))))))) (.keep [6] (.seq (.reg [iR 24 (.p .mv) [(.t 6)], iR 25 (.call 40) [(.t 24), (.c (.str (bs [44, 32])))], iR 26 (.p .mv) [(.t 6)], iR 27 (.p .len) [(.t 26)], iR 28 (.p (.bin .gtr)) [(.t 27), (.c (.int .i64 (.ofNat 0)))], iR 4 (.p .mv) [(.t 25)], iR 5 (.p .mv) [(.t 28)]]) (.keep [4, 5] (.keep [4, 5] .ret))))))))), [(.t 4), (.t 5)]⟩
def s_headers_Get_j0 (call : CallK) (N : Nat) (q : KV) (st : St) (τ : Tape) : Ans := match st with
  | ⟨fr, H⟩ => getK fr 6 fun t6 => call f_strings_Join [t6, (.str (bs [44, 32]))] H τ fun v1 H2 τ3 => someK (pLen [t6]) fun v4 => binK .gtr v4 (.int .i64 (.ofNat 0)) fun v5 => q (.tup [v1, v5]) H2 τ3
def s_headers_Get_j2 (call : CallK) (N : Nat) (k : KC) (st : St) (τ : Tape) : Ans := match st with
  | ⟨fr, H⟩ => getK fr 1 fun t1 => getK fr 6 fun t6 => getK fr 9 fun t9 => getK fr 10 fun t10 => getK fr 11 fun t11 => binK .add t11 (.int .i64 (.ofNat 1)) fun v7 => k .normal ⟨(T.set (T.set (T.set (T.set (T.set (T.set (T.set .leaf 1 t1) 6 t6) 9 t9) 10 t10) 11 t11) 23 v7) 11 v7), H⟩ τ
def s_headers_Get_l1 (call : CallK) (N : Nat) (st : St) (τ : Tape) (k : KC) : Ans := match st with
  | ⟨fr, H⟩ => getK fr 1 fun t1 => getK fr 6 fun t6 => getK fr 9 fun t9 => getK fr 10 fun t10 => getK fr 11 fun t11 => binK .lss t11 t10 fun v6 => condK v6 (someK (pSlIdx 2 [t9, t11]) fun v8 => someK (lLoadN 2 [v8] H) fun v9 => effK (eAlloc [(.str []), (.str [])] [] H τ) fun v10 H11 τ12 => effK (eStore 2 [v10, v9] H11 τ12) fun v13 H14 τ15 => someK (lLoadN 2 [v10] H14) fun v16 => call f_headers_is [v16, t1] H14 τ15 fun v17 H18 τ19 => condK v17 (someK (pFieldAddr 1 [v10]) fun v20 => someK (lLoad1 [v20] H18) fun v21 => effK (eBuildSlice 1 1 [(.str [])] [(0, 1)] [v21] H18 τ19) fun v22 H23 τ24 => effK (eAppend 1 16 [t6, v22] H23 τ24) fun v25 H26 τ27 => s_headers_Get_j2 call N k ⟨(T.set (T.set (T.set (T.set (T.set (T.set (T.set (T.set (T.set (T.set (T.set (T.set (T.set .leaf 1 t1) 6 t6) 8 v10) 9 t9) 10 t10) 11 t11) 17 v17) 18 t6) 19 v20) 20 v21) 21 v22) 22 v25) 6 v25), H26⟩ τ27)
    (s_headers_Get_j2 call N k ⟨(T.set (T.set (T.set (T.set (T.set (T.set (T.set .leaf 1 t1) 6 t6) 8 v10) 9 t9) 10 t10) 11 t11) 17 v17), H18⟩ τ19)) (k (.exit 0) ⟨(T.set .leaf 6 t6), H⟩ τ)
def s_headers_Get (call : CallK) (N : Nat) (a0 a1 : V) (H : Heap) (τ : Tape) (q : KV) : Ans := someK (pLen [a0]) fun v0 => loopK (s_headers_Get_l1 call N) N ⟨(T.set (T.set (T.set (T.set (T.set .leaf 1 a1) 6 .nils) 9 a0) 10 v0) 11 (.int .i64 (.ofNat 0))), H⟩ τ (blockK 0 (seqK (s_headers_Get_j0 call N q) (endK [(.t 4), (.t 5)] q)))
theorem s_headers_Get_eq (call : CallK) (N : Nat) (a0 a1 : V) (H : Heap) (τ : Tape) (q : KV) : s_headers_Get call N a0 a1 H τ q = funK call N fn_headers_Get [a0, a1] H τ q := by kernel_rfl
def e_headers_Get (call : CallK) (N : Nat) (vs : List V) (H : Heap) (τ : Tape) (q : KV) : Ans := match vs with | [a0, a1] => s_headers_Get call N a0 a1 H τ q | _ => none
theorem e_headers_Get_ok : EntOk fn_headers_Get e_headers_Get := by
  intro call N vs H τ q r h
  unfold e_headers_Get at h
  split at h
  · rw [s_headers_Get_eq] at h; exact h
  · cases h
theorem e_headers_Get_nat : EntNat e_headers_Get := by
  intro c hn N vs H τ q
  unfold e_headers_Get
  split
  · rw [s_headers_Get_eq, s_headers_Get_eq]; exact funK_ent hn _ _ _ _ _ _
  · rfl
/-- ostiary/ostiaryref5.Get -/
def fn_ref5_Get : Fun := ⟨2, (.seq (.reg [iR 4 (.p .mv) [(.c (.str []))], iR 5 (.p .mv) [(.c (.bool false))]]) (.keep [0, 1] (.seq (.reg [iR 6 (.p .mv) [(.c (.str []))]]) (.keep [0, 1, 6] (.seq (.reg [iR 7 (.p .mv) [(.c (.bool false))]]) (.keep [0, 1, 6, 7] (.seq (.seq (.reg [iR 8 (.p .mv) [(.c (.int .i64 (.ofNat 0)))]]) (.keep [0, 1, 6, 7, 8] (.block 0 (.loop (.keep [0, 1, 6, 7, 8] (.seq (.seq (.reg [iR 9 (.p .mv) [(.t 8)], iR 10 (.p .mv) [(.t 0)], iR 11 (.p .len) [(.t 10)], iR 12 (.p (.bin .lss)) [(.t 9), (.t 11)]]) (.keep [0, 1, 6, 7, 8, 12] (.cond (.t 12) .skip (.keep [6, 7] (.exit 0))))) (.keep [0, 1, 6, 7, 8] (.seq (.block 1 (.seq (.seq (.reg [iR 15 (.p .mv) [(.t 0)], iR 16 (.p .mv) [(.t 8)], iR 17 (.p (.slIdx 2)) [(.t 15), (.t 16)], iR 18 (.l (.load (some 2))) [(.t 17)], iR 19 (.p .mv) [(.t 1)], iR 20 (.call 41) [(.t 18), (.t 19)], iR 21 (.p (.un .not)) [(.t 20)]])
    (.keep [0, 1, 6, 7, 8, 21] (.cond (.t 21) (.keep [0, 1, 6, 7, 8] (.exit 1)) .skip))) (.keep [0, 1, 6, 7, 8] (.seq (.seq (.reg [iR 22 (.p .mv) [(.t 7)]]) (.keep [0, 1, 6, 8, 22] (.cond (.t 22) (.reg [iR 23 (.p .mv) [(.t 6)], iR 24 (.p (.bin .add)) [(.t 23), (.c (.str (bs [44, 32])))], iR 6 (.p .mv) [(.t 24)]]) .skip))) (.keep [0, 1, 6, 8] (.seq (.reg [iR 25 (.p .mv) [(.t 6)], iR 26 (.p .mv) [(.t 0)], iR 27 (.p .mv) [(.t 8)], iR 28 (.p (.slIdx 2)) [(.t 26), (.t 27)], iR 29 (.p (.fieldAddr 1)) [(.t 28)], iR 30 (.l (.load none)) [(.t 29)], iR 31 (.p (.bin .add)) [(.t 25), (.t 30)], iR 6 (.p .mv) [(.t 31)]]) (.keep [0, 1, 6, 8] (.reg [iR 7 (.p .mv) [(.c (.bool true))]])))))))) (.keep [0, 1, 6, 7, 8] (.reg [iR 13 (.p .mv) [(.t 8)], iR 14 (.p (.bin .add)) [(.t 13), (.c (.int .i64 (.ofNat 1)))], iR 8 (.p .mv) [(.t 14)]])))))))))) (.keep [6, 7] (.seq (.reg [iR 32 (.p .mv) [(.t 6)],
    iR 33 (.p .mv) [(.t 7)], iR 4 (.p .mv) [(.t 32)], iR 5 (.p .mv) [(.t 33)]]) (.keep [4, 5] (.keep [4, 5] .ret))))))))))), [(.t 4), (.t 5)]⟩
def s_ref5_Get_j0 (call : CallK) (N : Nat) (q : KV) (st : St) (τ : Tape) : Ans := match st with
  | ⟨fr, H⟩ => getK fr 6 fun t6 => getK fr 7 fun t7 => q (.tup [t6, t7]) H τ
def s_ref5_Get_j2 (call : CallK) (N : Nat) (k : KC) (st : St) (τ : Tape) : Ans := match st with
  | ⟨fr, H⟩ => getK fr 0 fun t0 => getK fr 1 fun t1 => getK fr 6 fun t6 => getK fr 7 fun t7 => getK fr 8 fun t8 => binK .add t8 (.int .i64 (.ofNat 1)) fun v2 => k .normal ⟨(T.set (T.set (T.set (T.set (T.set (T.set (T.set (T.set .leaf 0 t0) 1 t1) 6 t6) 7 t7) 8 t8) 13 t8) 14 v2) 8 v2), H⟩ τ
def s_ref5_Get_j3 (call : CallK) (N : Nat) (k : KC) (st : St) (τ : Tape) : Ans := match st with
  | ⟨fr, H⟩ => getK fr 0 fun t0 => getK fr 1 fun t1 => getK fr 6 fun t6 => getK fr 8 fun t8 => someK (pSlIdx 2 [t0, t8]) fun v9 => someK (pFieldAddr 1 [v9]) fun v10 => someK (lLoad1 [v10] H) fun v11 => binK .add t6 v11 fun v12 => s_ref5_Get_j2 call N k ⟨(T.set (T.set (T.set (T.set (T.set .leaf 0 t0) 1 t1) 6 v12) 8 t8) 7 (.bool true)), H⟩ τ
def s_ref5_Get_l1 (call : CallK) (N : Nat) (st : St) (τ : Tape) (k : KC) : Ans := match st with
  | ⟨fr, H⟩ => getK fr 0 fun t0 => getK fr 1 fun t1 => getK fr 6 fun t6 => getK fr 7 fun t7 => getK fr 8 fun t8 => someK (pLen [t0]) fun v0 => binK .lss t8 v0 fun v1 => condK v1 (someK (pSlIdx 2 [t0, t8]) fun v3 => someK (lLoadN 2 [v3] H) fun v4 => call f_ref5_Named [v4, t1] H τ fun v5 H6 τ7 => unK .not v5 fun v8 => condK v8 (s_ref5_Get_j2 call N k ⟨(T.set (T.set (T.set (T.set (T.set .leaf 0 t0) 1 t1) 6 t6) 7 t7) 8 t8), H6⟩ τ7) (condK t7 (binK .add t6 (.str (bs [44, 32])) fun v13 => s_ref5_Get_j3 call N k ⟨(T.set (T.set (T.set (T.set (T.set (T.set (T.set (T.set .leaf 0 t0) 1 t1) 6 t6) 8 t8) 22 t7) 23 t6) 24 v13) 6 v13), H6⟩ τ7) (s_ref5_Get_j3 call N k ⟨(T.set (T.set (T.set (T.set (T.set .leaf 0 t0) 1 t1) 6 t6) 8 t8) 22 t7), H6⟩ τ7))) (k (.exit 0) ⟨(T.set (T.set .leaf 6 t6) 7 t7), H⟩ τ)
def s_ref5_Get (call : CallK) (N : Nat) (a0 a1 : V) (H : Heap) (τ : Tape) (q : KV) : Ans := loopK (s_ref5_Get_l1 call N) N ⟨(T.set (T.set (T.set (T.set (T.set .leaf 0 a0) 1 a1) 6 (.str [])) 7 (.bool false)) 8 (.int .i64 (.ofNat 0))), H⟩ τ (blockK 0 (seqK (s_ref5_Get_j0 call N q) (endK [(.t 4), (.t 5)] q)))
theorem s_ref5_Get_eq (call : CallK) (N : Nat) (a0 a1 : V) (H : Heap) (τ : Tape) (q : KV) : s_ref5_Get call N a0 a1 H τ q = funK call N fn_ref5_Get [a0, a1] H τ q := by kernel_rfl
def e_ref5_Get (call : CallK) (N : Nat) (vs : List V) (H : Heap) (τ : Tape) (q : KV) : Ans := match vs with | [a0, a1] => s_ref5_Get call N a0 a1 H τ q | _ => none
theorem e_ref5_Get_ok : EntOk fn_ref5_Get e_ref5_Get := by
  intro call N vs H τ q r h
  unfold e_ref5_Get at h
  split at h
  · rw [s_ref5_Get_eq] at h; exact h
  · cases h
theorem e_ref5_Get_nat : EntNat e_ref5_Get := by
  intro c hn N vs H τ q
  unfold e_ref5_Get
  split
  · rw [s_ref5_Get_eq, s_ref5_Get_eq]; exact funK_ent hn _ _ _ _ _ _
  · rfl
/-- ostiary/headers.Split -/
def fn_headers_Split : Fun := ⟨2, (.seq (.reg [iR 4 (.p .mv) [(.c .nils)], iR 5 (.p .mv) [(.c (.bool false))]]) (.keep [0, 1] (.seq (.reg [iR 13 (.p .mv) [(.t 0)], iR 14 (.p .mv) [(.t 1)], iR 15 (.call 11) [(.t 13), (.t 14)], iR 12 (.p .mv) [(.t 15)], iR 16 (.p (.extract 0)) [(.t 12)], iR 17 (.p (.extract 1)) [(.t 12)], iR 6 (.p .mv) [(.t 16)], iR 7 (.p .mv) [(.t 17)]]) (.keep [6, 7] (.seq (.seq (.reg [iR 18 (.p .mv) [(.t 7)], iR 19 (.p (.un .not)) [(.t 18)]]) (.keep [6, 19] (.cond (.t 19) (.seq (.reg [iR 4 (.p .mv) [(.c .nils)], iR 5 (.p .mv) [(.c (.bool false))]]) (.keep [4, 5] (.keep [4, 5] .ret))) .skip))) (.keep [6] (.seq (.reg [iR 8 (.p .mv) [(.c .nils)]]) (.keep [6, 8] (.seq (.reg [iR 9 (.p .mv) [(.c (.bool false))], iR 10 (.p .mv) [(.c (.int .i64 (.ofNat 0)))]]) (.keep [6, 8, 9, 10] (.seq (.seq (.reg [iR 11 (.p .mv) [(.c (.int .i64 (.ofNat 0)))]])
    (.keep [6, 8, 9, 10, 11] (.block 0 (.loop (.keep [6, 8, 9, 10, 11] (.seq (.seq (.reg [iR 20 (.p .mv) [(.t 11)], iR 21 (.p .mv) [(.t 6)], iR 22 (.p .lenS) [(.t 21)], iR 23 (.p (.bin .lss)) [(.t 20), (.t 22)]]) (.keep [6, 8, 9, 10, 11, 23] (.cond (.t 23) .skip (.keep [6, 8, 10] (.exit 0))))) (.keep [6, 8, 9, 10, 11] (.seq (.block 1 (.block 2 (.seq (.reg [iR 27 (.p .mv) [(.t 6)], iR 28 (.p .mv) [(.t 11)], iR 29 (.p .strIndex) [(.t 27), (.t 28)], iR 30 (.p (.bin .eql)) [(.t 29), (.c (.int .u8 (.ofNat 34)))], iR 26 (.p .mv) [(.t 30)]]) (.keep [6, 8, 9, 10, 11, 26] (.cond (.t 26) (.reg [iR 31 (.p .mv) [(.t 9)], iR 32 (.p (.un .not)) [(.t 31)], iR 9 (.p .mv) [(.t 32)]]) (.seq (.reg [iR 34 (.p .mv) [(.t 9)], iR 35 (.p .mv) [(.t 34)], iG 36 35 true (.p .mv) [(.t 6)], iG 37 35 true (.p .mv) [(.t 11)], iG 38 35 true (.p .strIndex) [(.t 36), (.t 37)],
    iG 39 35 true (.p (.bin .eql)) [(.t 38), (.c (.int .u8 (.ofNat 92)))], iR 40 (.p .pick) [(.t 35), (.t 39), (.c (.bool false))], iR 33 (.p .mv) [(.t 40)]]) (.keep [6, 8, 9, 10, 11, 33] (.cond (.t 33) (.reg [iR 41 (.p .mv) [(.t 11)], iR 42 (.p (.bin .add)) [(.t 41), (.c (.int .i64 (.ofNat 1)))], iR 11 (.p .mv) [(.t 42)]]) (.seq (.reg [iR 44 (.p .mv) [(.t 9)], iR 45 (.p (.un .not)) [(.t 44)], iR 46 (.p .mv) [(.t 45)], iG 47 46 true (.p .mv) [(.t 6)], iG 48 46 true (.p .mv) [(.t 11)], iG 49 46 true (.p .strIndex) [(.t 47), (.t 48)], iG 50 46 true (.p (.bin .eql)) [(.t 49), (.c (.int .u8 (.ofNat 44)))], iR 51 (.p .pick) [(.t 46), (.t 50), (.c (.bool false))], iR 43 (.p .mv) [(.t 51)]]) (.keep [6, 8, 9, 10, 11, 43] (.cond (.t 43) (.seq (.reg [iR 52 (.p .mv) [(.t 8)], iR 53 (.p .mv) [(.t 6)], iR 54 (.p .mv) [(.t 10)], iR 55 (.p .mv) [(.t 11)],
    iR 56 (.p (.strSlice true true)) [(.t 53), (.t 54), (.t 55)], iR 57 (.call 36) [(.t 56), (.c (.str (bs [9, 32])))], iR 58 (.e (.buildSlice 1 1 [(.str [])] [(0, 1)])) [(.t 57)], iR 59 (.e (.append 1 16)) [(.t 52), (.t 58)], iR 8 (.p .mv) [(.t 59)]]) (.keep [6, 8, 9, 11] (.reg [iR 60 (.p .mv) [(.t 11)], iR 61 (.p (.bin .add)) [(.t 60), (.c (.int .i64 (.ofNat 1)))], iR 10 (.p .mv) [(.t 61)]]))) .skip))))))))))) (.keep [6, 8, 9, 10, 11] (.reg [iR 24 (.p .mv) [(.t 11)], iR 25 (.p (.bin .add)) [(.t 24), (.c (.int .i64 (.ofNat 1)))], iR 11 (.p .mv) [(.t 25)]])))))))))) (.keep [6, 8, 10] (.seq (.reg [iR 62 (.p .mv) [(.t 8)], iR 63 (.p .mv) [(.t 6)], iR 64 (.p .mv) [(.t 10)], iR 65 (.p (.strSlice true false)) [(.t 63), (.t 64)], iR 66 (.call 36) [(.t 65), (.c (.str (bs [9, 32])))], iR 67 (.e (.buildSlice 1 1 [(.str [])] [(0, 1)])) [(.t 66)], iR 68 (.e (.append 1 16)) [(.t 62), (.t 67)],
    iR 4 (.p .mv) [(.t 68)], iR 5 (.p .mv) [(.c (.bool true))]]) (.keep [4, 5] (.keep [4, 5] .ret))))))))))))))), [(.t 4), (.t 5)]⟩
def s_headers_Split_j0 (call : CallK) (N : Nat) (q : KV) (st : St) (τ : Tape) : Ans := match st with
  | ⟨fr, H⟩ => getK fr 6 fun t6 => getK fr 8 fun t8 => getK fr 10 fun t10 => someK (pStrSlice true false [t6, t10]) fun v6 => call f_strings_Trim [v6, (.str (bs [9, 32]))] H τ fun v7 H8 τ9 => effK (eBuildSlice 1 1 [(.str [])] [(0, 1)] [v7] H8 τ9) fun v10 H11 τ12 => effK (eAppend 1 16 [t8, v10] H11 τ12) fun v13 H14 τ15 => q (.tup [v13, (.bool true)]) H14 τ15
def s_headers_Split_j2 (call : CallK) (N : Nat) (k : KC) (st : St) (τ : Tape) : Ans := match st with
  | ⟨fr, H⟩ => getK fr 6 fun t6 => getK fr 8 fun t8 => getK fr 9 fun t9 => getK fr 10 fun t10 => getK fr 11 fun t11 => binK .add t11 (.int .i64 (.ofNat 1)) fun v18 => k .normal ⟨(T.set (T.set (T.set (T.set (T.set (T.set (T.set (T.set .leaf 6 t6) 8 t8) 9 t9) 10 t10) 11 t11) 24 t11) 25 v18) 11 v18), H⟩ τ
def s_headers_Split_l1 (call : CallK) (N : Nat) (st : St) (τ : Tape) (k : KC) : Ans := match st with
  | ⟨fr, H⟩ => getK fr 6 fun t6 => getK fr 8 fun t8 => getK fr 9 fun t9 => getK fr 10 fun t10 => getK fr 11 fun t11 => someK (pLenS [t6]) fun v16 => binK .lss t11 v16 fun v17 => condK v17 (someK (pStrIndex [t6, t11]) fun v19 => binK .eql v19 (.int .u8 (.ofNat 34)) fun v20 => condK v20 (unK .not t9 fun v21 => s_headers_Split_j2 call N k ⟨(T.set (T.set (T.set (T.set (T.set (T.set (T.set (T.set (T.set .leaf 6 t6) 8 t8) 9 t9) 10 t10) 11 t11) 26 v20) 31 t9) 32 v21) 9 v21), H⟩ τ) (gK t9 true (fun q' => q' t6 H τ) H τ fun v22 H23 τ24 => gK t9 true (fun q' => q' t11 H23 τ24) H23 τ24 fun v25 H26 τ27 => gK t9 true (fun q' => someK (pStrIndex [v22, v25]) fun v => q' v H26 τ27) H26 τ27 fun v28 H29 τ30 => gK t9 true (fun q' => binK .eql v28 (.int .u8 (.ofNat 92)) fun v => q' v H29 τ30) H29 τ30 fun v31 H32 τ33 => someK (pPick [t9, v31, (.bool false)]) fun v34 => condK v34
    (binK .add t11 (.int .i64 (.ofNat 1)) fun v35 => s_headers_Split_j2 call N k ⟨(T.set (T.set (T.set (T.set (T.set (T.set (T.set (T.set (T.set .leaf 6 t6) 8 t8) 9 t9) 10 t10) 11 t11) 33 v34) 41 t11) 42 v35) 11 v35), H32⟩ τ33) (unK .not t9 fun v36 => gK v36 true (fun q' => q' t6 H32 τ33) H32 τ33 fun v37 H38 τ39 => gK v36 true (fun q' => q' t11 H38 τ39) H38 τ39 fun v40 H41 τ42 => gK v36 true (fun q' => someK (pStrIndex [v37, v40]) fun v => q' v H41 τ42) H41 τ42 fun v43 H44 τ45 => gK v36 true (fun q' => binK .eql v43 (.int .u8 (.ofNat 44)) fun v => q' v H44 τ45) H44 τ45 fun v46 H47 τ48 => someK (pPick [v36, v46, (.bool false)]) fun v49 => condK v49 (someK (pStrSlice true true [t6, t10, t11]) fun v50 => call f_strings_Trim [v50, (.str (bs [9, 32]))] H47 τ48 fun v51 H52 τ53 => effK (eBuildSlice 1 1 [(.str [])] [(0, 1)] [v51] H52 τ53) fun v54 H55 τ56 =>
    effK (eAppend 1 16 [t8, v54] H55 τ56) fun v57 H58 τ59 => binK .add t11 (.int .i64 (.ofNat 1)) fun v60 => s_headers_Split_j2 call N k ⟨(T.set (T.set (T.set (T.set (T.set (T.set (T.set .leaf 6 t6) 8 v57) 9 t9) 11 t11) 60 t11) 61 v60) 10 v60), H58⟩ τ59) (s_headers_Split_j2 call N k ⟨(T.set (T.set (T.set (T.set (T.set (T.set .leaf 6 t6) 8 t8) 9 t9) 10 t10) 11 t11) 43 v49), H47⟩ τ48)))) (k (.exit 0) ⟨(T.set (T.set (T.set .leaf 6 t6) 8 t8) 10 t10), H⟩ τ)
def s_headers_Split (call : CallK) (N : Nat) (a0 a1 : V) (H : Heap) (τ : Tape) (q : KV) : Ans := call f_headers_Get [a0, a1] H τ fun v0 H1 τ2 => someK (pExtract 0 [v0]) fun v3 => someK (pExtract 1 [v0]) fun v4 => unK .not v4 fun v5 => condK v5 (q (.tup [.nils, (.bool false)]) H1 τ2) (loopK (s_headers_Split_l1 call N) N ⟨(T.set (T.set (T.set (T.set (T.set .leaf 6 v3) 8 .nils) 9 (.bool false)) 10 (.int .i64 (.ofNat 0))) 11 (.int .i64 (.ofNat 0))), H1⟩ τ2 (blockK 0 (seqK (s_headers_Split_j0 call N q) (endK [(.t 4), (.t 5)] q))))
theorem s_headers_Split_eq (call : CallK) (N : Nat) (a0 a1 : V) (H : Heap) (τ : Tape) (q : KV) : s_headers_Split call N a0 a1 H τ q = funK call N fn_headers_Split [a0, a1] H τ q := by kernel_rfl
def e_headers_Split (call : CallK) (N : Nat) (vs : List V) (H : Heap) (τ : Tape) (q : KV) : Ans := match vs with | [a0, a1] => s_headers_Split call N a0 a1 H τ q | _ => none
theorem e_headers_Split_ok : EntOk fn_headers_Split e_headers_Split := by
  intro call N vs H τ q r h
  unfold e_headers_Split at h
  split at h
  · rw [s_headers_Split_eq] at h; exact h
  · cases h
theorem e_headers_Split_nat : EntNat e_headers_Split := by
  intro c hn N vs H τ q
  unfold e_headers_Split
  split
  · rw [s_headers_Split_eq, s_headers_Split_eq]; exact funK_ent hn _ _ _ _ _ _
  · rfl
/-- ostiary/ostiaryref5.Split -/
def fn_ref5_Split : Fun := ⟨2, (.seq (.reg [iR 4 (.p .mv) [(.c .nils)], iR 5 (.p .mv) [(.c (.bool false))]]) (.keep [0, 1] (.seq (.reg [iR 13 (.p .mv) [(.t 0)], iR 14 (.p .mv) [(.t 1)], iR 15 (.call 12) [(.t 13), (.t 14)], iR 12 (.p .mv) [(.t 15)], iR 16 (.p (.extract 0)) [(.t 12)], iR 17 (.p (.extract 1)) [(.t 12)], iR 6 (.p .mv) [(.t 16)], iR 7 (.p .mv) [(.t 17)]]) (.keep [6, 7] (.seq (.seq (.reg [iR 18 (.p .mv) [(.t 7)], iR 19 (.p (.un .not)) [(.t 18)]]) (.keep [6, 19] (.cond (.t 19) (.seq (.reg [iR 4 (.p .mv) [(.c .nils)], iR 5 (.p .mv) [(.c (.bool false))]]) (.keep [4, 5] (.keep [4, 5] .ret))) .skip))) (.keep [6] (.seq (.reg [iR 8 (.p .mv) [(.c .nils)]]) (.keep [6, 8] (.seq (.reg [iR 9 (.p .mv) [(.c (.int .i64 (.ofNat 0)))]]) (.keep [6, 8, 9] (.seq (.reg [iR 10 (.p .mv) [(.c (.bool false))]]) (.keep [6, 8, 9, 10] (.seq (.seq (.reg [iR 11 (.p .mv) [(.c (.int .i64 (.ofNat 0)))]])
    (.keep [6, 8, 9, 10, 11] (.block 0 (.loop (.keep [6, 8, 9, 10, 11] (.seq (.seq (.reg [iR 20 (.p .mv) [(.t 11)], iR 21 (.p .mv) [(.t 6)], iR 22 (.p .lenS) [(.t 21)], iR 23 (.p (.bin .leq)) [(.t 20), (.t 22)]]) (.keep [6, 8, 9, 10, 11, 23] (.cond (.t 23) .skip (.keep [8] (.exit 0))))) (.keep [6, 8, 9, 10, 11] (.seq (.block 1 (.seq (.seq (.reg [iR 26 (.p .mv) [(.t 11)], iR 27 (.p .mv) [(.t 6)], iR 28 (.p .lenS) [(.t 27)], iR 29 (.p (.bin .eql)) [(.t 26), (.t 28)], iR 30 (.p .mv) [(.t 29)], iG 31 30 false (.p .mv) [(.t 6)], iG 32 30 false (.p .mv) [(.t 11)], iG 33 30 false (.p .strIndex) [(.t 31), (.t 32)], iG 34 30 false (.p (.bin .eql)) [(.t 33), (.c (.int .u8 (.ofNat 44)))], iG 35 30 false (.p .mv) [(.t 34)], iG 36 35 true (.p .mv) [(.t 10)], iG 37 35 true (.p (.un .not)) [(.t 36)], iG 38 30 false (.p .pick) [(.t 35), (.t 37), (.c (.bool false))],
    iR 39 (.p .pick) [(.t 30), (.c (.bool true)), (.t 38)]]) (.keep [6, 8, 9, 10, 11, 39] (.cond (.t 39) (.seq (.reg [iR 40 (.p .mv) [(.t 8)], iR 41 (.p .mv) [(.t 6)], iR 42 (.p .mv) [(.t 9)], iR 43 (.p .mv) [(.t 11)], iR 44 (.p (.strSlice true true)) [(.t 41), (.t 42), (.t 43)], iR 45 (.call 38) [(.t 44), (.c (.bool true))], iR 46 (.e (.buildSlice 1 1 [(.str [])] [(0, 1)])) [(.t 45)], iR 47 (.e (.append 1 16)) [(.t 40), (.t 46)], iR 8 (.p .mv) [(.t 47)]]) (.keep [6, 8, 10, 11] (.seq (.reg [iR 48 (.p .mv) [(.t 11)], iR 49 (.p (.bin .add)) [(.t 48), (.c (.int .i64 (.ofNat 1)))], iR 9 (.p .mv) [(.t 49)]]) (.keep [6, 8, 9, 10, 11] (.keep [6, 8, 9, 10, 11] (.exit 1)))))) .skip))) (.keep [6, 8, 9, 10, 11] (.seq (.seq (.reg [iR 50 (.p .mv) [(.t 6)], iR 51 (.p .mv) [(.t 11)], iR 52 (.p .strIndex) [(.t 50), (.t 51)], iR 53 (.p (.bin .eql)) [(.t 52), (.c (.int .u8 (.ofNat 92)))],
    iR 54 (.p .mv) [(.t 53)], iG 55 54 true (.p .mv) [(.t 10)], iR 56 (.p .pick) [(.t 54), (.t 55), (.c (.bool false))]]) (.keep [6, 8, 9, 10, 11, 56] (.cond (.t 56) (.seq (.reg [iR 57 (.p .mv) [(.t 11)], iR 58 (.p (.bin .add)) [(.t 57), (.c (.int .i64 (.ofNat 1)))], iR 11 (.p .mv) [(.t 58)]]) (.keep [6, 8, 9, 10, 11] (.seq (.seq (.reg [iR 59 (.p .mv) [(.t 11)], iR 60 (.p .mv) [(.t 6)], iR 61 (.p .lenS) [(.t 60)], iR 62 (.p (.bin .geq)) [(.t 59), (.t 61)]]) (.keep [6, 8, 9, 10, 11, 62] (.cond (.t 62) (.reg [iR 63 (.p .mv) [(.t 6)], iR 64 (.p .lenS) [(.t 63)], iR 65 (.p (.bin .sub)) [(.t 64), (.c (.int .i64 (.ofNat 1)))], iR 11 (.p .mv) [(.t 65)]]) .skip))) (.keep [6, 8, 9, 10, 11] (.keep [6, 8, 9, 10, 11] (.exit 1)))))) .skip))) (.keep [6, 8, 9, 10, 11] (.seq (.reg [iR 66 (.p .mv) [(.t 6)], iR 67 (.p .mv) [(.t 11)], iR 68 (.p .strIndex) [(.t 66), (.t 67)],
    iR 69 (.p (.bin .eql)) [(.t 68), (.c (.int .u8 (.ofNat 34)))]]) (.keep [6, 8, 9, 10, 11, 69] (.cond (.t 69) (.reg [iR 70 (.p .mv) [(.t 10)], iR 71 (.p (.un .not)) [(.t 70)], iR 10 (.p .mv) [(.t 71)]]) .skip)))))))) (.keep [6, 8, 9, 10, 11] (.reg [iR 24 (.p .mv) [(.t 11)], iR 25 (.p (.bin .add)) [(.t 24), (.c (.int .i64 (.ofNat 1)))], iR 11 (.p .mv) [(.t 25)]])))))))))) (.keep [8] (.seq (.reg [iR 72 (.p .mv) [(.t 8)], iR 4 (.p .mv) [(.t 72)], iR 5 (.p .mv) [(.c (.bool true))]]) (.keep [4, 5] (.keep [4, 5] .ret))))))))))))))))), [(.t 4), (.t 5)]⟩
def s_ref5_Split_j0 (call : CallK) (N : Nat) (q : KV) (st : St) (τ : Tape) : Ans := match st with
  | ⟨fr, H⟩ => getK fr 8 fun t8 => q (.tup [t8, (.bool true)]) H τ
def s_ref5_Split_j2 (call : CallK) (N : Nat) (k : KC) (st : St) (τ : Tape) : Ans := match st with
  | ⟨fr, H⟩ => getK fr 6 fun t6 => getK fr 8 fun t8 => getK fr 9 fun t9 => getK fr 10 fun t10 => getK fr 11 fun t11 => binK .add t11 (.int .i64 (.ofNat 1)) fun v8 => k .normal ⟨(T.set (T.set (T.set (T.set (T.set (T.set (T.set (T.set .leaf 6 t6) 8 t8) 9 t9) 10 t10) 11 t11) 24 t11) 25 v8) 11 v8), H⟩ τ
def s_ref5_Split_j3 (call : CallK) (N : Nat) (k : KC) (st : St) (τ : Tape) : Ans := match st with
  | ⟨fr, H⟩ => getK fr 6 fun t6 => getK fr 8 fun t8 => getK fr 9 fun t9 => getK fr 10 fun t10 => getK fr 11 fun t11 => someK (pStrIndex [t6, t11]) fun v56 => binK .eql v56 (.int .u8 (.ofNat 34)) fun v57 => condK v57 (unK .not t10 fun v58 => s_ref5_Split_j2 call N k ⟨(T.set (T.set (T.set (T.set (T.set (T.set (T.set (T.set (T.set .leaf 6 t6) 8 t8) 9 t9) 10 t10) 11 t11) 69 v57) 70 t10) 71 v58) 10 v58), H⟩ τ) (s_ref5_Split_j2 call N k ⟨(T.set (T.set (T.set (T.set (T.set (T.set .leaf 6 t6) 8 t8) 9 t9) 10 t10) 11 t11) 69 v57), H⟩ τ)
def s_ref5_Split_j4 (call : CallK) (N : Nat) (k : KC) (st : St) (τ : Tape) : Ans := match st with
  | ⟨fr, H⟩ => getK fr 6 fun t6 => getK fr 8 fun t8 => getK fr 9 fun t9 => getK fr 10 fun t10 => getK fr 11 fun t11 => s_ref5_Split_j2 call N k ⟨(T.set (T.set (T.set (T.set (T.set .leaf 6 t6) 8 t8) 9 t9) 10 t10) 11 t11), H⟩ τ
def s_ref5_Split_l1 (call : CallK) (N : Nat) (st : St) (τ : Tape) (k : KC) : Ans := match st with
  | ⟨fr, H⟩ => getK fr 6 fun t6 => getK fr 8 fun t8 => getK fr 9 fun t9 => getK fr 10 fun t10 => getK fr 11 fun t11 => someK (pLenS [t6]) fun v6 => binK .leq t11 v6 fun v7 => condK v7 (someK (pLenS [t6]) fun v9 => binK .eql t11 v9 fun v10 => gK v10 false (fun q' => q' t6 H τ) H τ fun v11 H12 τ13 => gK v10 false (fun q' => q' t11 H12 τ13) H12 τ13 fun v14 H15 τ16 => gK v10 false (fun q' => someK (pStrIndex [v11, v14]) fun v => q' v H15 τ16) H15 τ16 fun v17 H18 τ19 => gK v10 false (fun q' => binK .eql v17 (.int .u8 (.ofNat 44)) fun v => q' v H18 τ19) H18 τ19 fun v20 H21 τ22 => gK v10 false (fun q' => q' v20 H21 τ22) H21 τ22 fun v23 H24 τ25 => gK v23 true (fun q' => q' t10 H24 τ25) H24 τ25 fun v26 H27 τ28 => gK v23 true (fun q' => unK .not v26 fun v => q' v H27 τ28) H27 τ28 fun v29 H30 τ31 =>
    gK v10 false (fun q' => someK (pPick [v23, v29, (.bool false)]) fun v => q' v H30 τ31) H30 τ31 fun v32 H33 τ34 => someK (pPick [v10, (.bool true), v32]) fun v35 => condK v35 (someK (pStrSlice true true [t6, t9, t11]) fun v36 => call f_ref1_Trim [v36, (.bool true)] H33 τ34 fun v37 H38 τ39 => effK (eBuildSlice 1 1 [(.str [])] [(0, 1)] [v37] H38 τ39) fun v40 H41 τ42 => effK (eAppend 1 16 [t8, v40] H41 τ42) fun v43 H44 τ45 => binK .add t11 (.int .i64 (.ofNat 1)) fun v46 => s_ref5_Split_j2 call N k ⟨(T.set (T.set (T.set (T.set (T.set .leaf 6 t6) 8 v43) 9 v46) 10 t10) 11 t11), H44⟩ τ45) (someK (pStrIndex [t6, t11]) fun v47 => binK .eql v47 (.int .u8 (.ofNat 92)) fun v48 => gK v48 true (fun q' => q' t10 H33 τ34) H33 τ34 fun v49 H50 τ51 => someK (pPick [v48, v49, (.bool false)]) fun v52 => condK v52 (binK .add t11 (.int .i64 (.ofNat 1)) fun v53 => someK (pLenS [t6]) fun v54 =>
    binK .geq v53 v54 fun v55 => condK v55 (someK (pLenS [t6]) fun v59 => binK .sub v59 (.int .i64 (.ofNat 1)) fun v60 => s_ref5_Split_j4 call N k ⟨(T.set (T.set (T.set (T.set (T.set (T.set (T.set (T.set (T.set (T.set .leaf 6 t6) 8 t8) 9 t9) 10 t10) 11 v53) 62 v55) 63 t6) 64 v59) 65 v60) 11 v60), H50⟩ τ51) (s_ref5_Split_j4 call N k ⟨(T.set (T.set (T.set (T.set (T.set (T.set .leaf 6 t6) 8 t8) 9 t9) 10 t10) 11 v53) 62 v55), H50⟩ τ51)) (someK (pStrIndex [t6, t11]) fun v61 => binK .eql v61 (.int .u8 (.ofNat 34)) fun v62 => condK v62 (unK .not t10 fun v63 => s_ref5_Split_j2 call N k ⟨(T.set (T.set (T.set (T.set (T.set (T.set (T.set (T.set (T.set .leaf 6 t6) 8 t8) 9 t9) 10 t10) 11 t11) 69 v62) 70 t10) 71 v63) 10 v63), H50⟩ τ51) (s_ref5_Split_j2 call N k ⟨(T.set (T.set (T.set (T.set (T.set (T.set .leaf 6 t6) 8 t8) 9 t9) 10 t10) 11 t11) 69 v62), H50⟩ τ51))))
    (k (.exit 0) ⟨(T.set .leaf 8 t8), H⟩ τ)
def s_ref5_Split (call : CallK) (N : Nat) (a0 a1 : V) (H : Heap) (τ : Tape) (q : KV) : Ans := call f_ref5_Get [a0, a1] H τ fun v0 H1 τ2 => someK (pExtract 0 [v0]) fun v3 => someK (pExtract 1 [v0]) fun v4 => unK .not v4 fun v5 => condK v5 (q (.tup [.nils, (.bool false)]) H1 τ2) (loopK (s_ref5_Split_l1 call N) N ⟨(T.set (T.set (T.set (T.set (T.set .leaf 6 v3) 8 .nils) 9 (.int .i64 (.ofNat 0))) 10 (.bool false)) 11 (.int .i64 (.ofNat 0))), H1⟩ τ2 (blockK 0 (seqK (s_ref5_Split_j0 call N q) (endK [(.t 4), (.t 5)] q))))
theorem s_ref5_Split_eq (call : CallK) (N : Nat) (a0 a1 : V) (H : Heap) (τ : Tape) (q : KV) : s_ref5_Split call N a0 a1 H τ q = funK call N fn_ref5_Split [a0, a1] H τ q := by kernel_rfl
def e_ref5_Split (call : CallK) (N : Nat) (vs : List V) (H : Heap) (τ : Tape) (q : KV) : Ans := match vs with | [a0, a1] => s_ref5_Split call N a0 a1 H τ q | _ => none
theorem e_ref5_Split_ok : EntOk fn_ref5_Split e_ref5_Split := by
  intro call N vs H τ q r h
  unfold e_ref5_Split at h
  split at h
  · rw [s_ref5_Split_eq] at h; exact h
  · cases h
theorem e_ref5_Split_nat : EntNat e_ref5_Split := by
  intro c hn N vs H τ q
  unfold e_ref5_Split
  split
  · rw [s_ref5_Split_eq, s_ref5_Split_eq]; exact funK_ent hn _ _ _ _ _ _
  · rfl
/-- ostiary/headers.Range -/
def fn_headers_Range : Fun := ⟨1, (.seq (.reg [iR 2 (.p .mv) [(.c (.int .i64 (.ofNat 0)))], iR 3 (.p .mv) [(.c (.int .i64 (.ofNat 0)))], iR 4 (.p .mv) [(.c (.bool false))]]) (.keep [0] (.seq (.reg [iR 15 (.p .mv) [(.t 0)], iR 16 (.call 42) [(.t 15), (.c (.str (bs [98, 121, 116, 101, 115, 61])))], iR 14 (.p .mv) [(.t 16)], iR 17 (.p (.extract 0)) [(.t 14)], iR 18 (.p (.extract 1)) [(.t 14)], iR 5 (.p .mv) [(.t 17)], iR 6 (.p .mv) [(.t 18)]]) (.keep [5, 6] (.seq (.reg [iR 20 (.p .mv) [(.t 5)], iR 21 (.call 43) [(.t 20), (.c (.str (bs [45])))], iR 19 (.p .mv) [(.t 21)], iR 22 (.p (.extract 0)) [(.t 19)], iR 23 (.p (.extract 1)) [(.t 19)], iR 24 (.p (.extract 2)) [(.t 19)], iR 7 (.p .mv) [(.t 22)], iR 8 (.p .mv) [(.t 23)], iR 9 (.p .mv) [(.t 24)]]) (.keep [6, 7, 8, 9] (.seq (.reg [iR 26 (.p .mv) [(.t 7)], iR 27 (.call 44) [(.t 26)], iR 25 (.p .mv) [(.t 27)],
    iR 28 (.p (.extract 0)) [(.t 25)], iR 29 (.p (.extract 1)) [(.t 25)], iR 10 (.p .mv) [(.t 28)], iR 11 (.p .mv) [(.t 29)]]) (.keep [6, 8, 9, 10, 11] (.seq (.reg [iR 31 (.p .mv) [(.t 8)], iR 32 (.call 44) [(.t 31)], iR 30 (.p .mv) [(.t 32)], iR 33 (.p (.extract 0)) [(.t 30)], iR 34 (.p (.extract 1)) [(.t 30)], iR 12 (.p .mv) [(.t 33)], iR 13 (.p .mv) [(.t 34)]]) (.keep [6, 9, 10, 11, 12, 13] (.seq (.seq (.reg [iR 35 (.p .mv) [(.t 6)], iR 36 (.p (.un .not)) [(.t 35)], iR 37 (.p .mv) [(.t 36)], iG 38 37 false (.p .mv) [(.t 9)], iG 39 37 false (.p (.un .not)) [(.t 38)], iR 40 (.p .pick) [(.t 37), (.c (.bool true)), (.t 39)], iR 41 (.p .mv) [(.t 40)], iG 42 41 false (.p .mv) [(.t 11)], iG 43 41 false (.p (.un .not)) [(.t 42)], iR 44 (.p .pick) [(.t 41), (.c (.bool true)), (.t 43)], iR 45 (.p .mv) [(.t 44)], iG 46 45 false (.p .mv) [(.t 13)], iG 47 45 false (.p (.un .not)) [(.t 46)],
    iR 48 (.p .pick) [(.t 45), (.c (.bool true)), (.t 47)], iR 49 (.p .mv) [(.t 48)], iG 50 49 false (.p .mv) [(.t 10)], iG 51 49 false (.p (.bin .lss)) [(.t 50), (.c (.int .i64 (.ofNat 0)))], iG 52 49 false (.p .mv) [(.t 51)], iG 53 52 true (.p .mv) [(.t 12)], iG 54 52 true (.p (.bin .lss)) [(.t 53), (.c (.int .i64 (.ofNat 0)))], iG 55 49 false (.p .pick) [(.t 52), (.t 54), (.c (.bool false))], iR 56 (.p .pick) [(.t 49), (.c (.bool true)), (.t 55)], iR 57 (.p .mv) [(.t 56)], iG 58 57 false (.p .mv) [(.t 10)], iG 59 57 false (.p (.bin .geq)) [(.t 58), (.c (.int .i64 (.ofNat 0)))], iG 60 57 false (.p .mv) [(.t 59)], iG 61 60 true (.p .mv) [(.t 12)], iG 62 60 true (.p (.bin .geq)) [(.t 61), (.c (.int .i64 (.ofNat 0)))], iG 63 57 false (.p .pick) [(.t 60), (.t 62), (.c (.bool false))], iG 64 57 false (.p .mv) [(.t 63)], iG 65 64 true (.p .mv) [(.t 10)], iG 66 64 true (.p .mv) [(.t 12)],
    iG 67 64 true (.p (.bin .gtr)) [(.t 65), (.t 66)], iG 68 57 false (.p .pick) [(.t 64), (.t 67), (.c (.bool false))], iR 69 (.p .pick) [(.t 57), (.c (.bool true)), (.t 68)]]) (.keep [10, 12, 69] (.cond (.t 69) (.seq (.reg [iR 2 (.p .mv) [(.c (.int .i64 (.ofNat 0)))], iR 3 (.p .mv) [(.c (.int .i64 (.ofNat 0)))], iR 4 (.p .mv) [(.c (.bool false))]]) (.keep [2, 3, 4] (.keep [2, 3, 4] .ret))) .skip))) (.keep [10, 12] (.seq (.reg [iR 70 (.p .mv) [(.t 10)], iR 71 (.p .mv) [(.t 12)], iR 2 (.p .mv) [(.t 70)], iR 3 (.p .mv) [(.t 71)], iR 4 (.p .mv) [(.c (.bool true))]]) (.keep [2, 3, 4] (.keep [2, 3, 4] .ret))))))))))))))), [(.t 2), (.t 3), (.t 4)]⟩
def s_headers_Range (call : CallK) (N : Nat) (a0 : V) (H : Heap) (τ : Tape) (q : KV) : Ans := call f_strings_CutPrefix [a0, (.str (bs [98, 121, 116, 101, 115, 61]))] H τ fun v0 H1 τ2 => someK (pExtract 0 [v0]) fun v3 => someK (pExtract 1 [v0]) fun v4 => call f_strings_Cut [v3, (.str (bs [45]))] H1 τ2 fun v5 H6 τ7 => someK (pExtract 0 [v5]) fun v8 => someK (pExtract 1 [v5]) fun v9 => someK (pExtract 2 [v5]) fun v10 => call f_headers_told [v8] H6 τ7 fun v11 H12 τ13 => someK (pExtract 0 [v11]) fun v14 => someK (pExtract 1 [v11]) fun v15 => call f_headers_told [v9] H12 τ13 fun v16 H17 τ18 => someK (pExtract 0 [v16]) fun v19 => someK (pExtract 1 [v16]) fun v20 => unK .not v4 fun v21 => gK v21 false (fun q' => q' v10 H17 τ18) H17 τ18 fun v22 H23 τ24 => gK v21 false (fun q' => unK .not v22 fun v => q' v H23 τ24) H23 τ24 fun v25 H26 τ27 => someK (pPick [v21, (.bool true), v25]) fun v28 =>
    gK v28 false (fun q' => q' v15 H26 τ27) H26 τ27 fun v29 H30 τ31 => gK v28 false (fun q' => unK .not v29 fun v => q' v H30 τ31) H30 τ31 fun v32 H33 τ34 => someK (pPick [v28, (.bool true), v32]) fun v35 => gK v35 false (fun q' => q' v20 H33 τ34) H33 τ34 fun v36 H37 τ38 => gK v35 false (fun q' => unK .not v36 fun v => q' v H37 τ38) H37 τ38 fun v39 H40 τ41 => someK (pPick [v35, (.bool true), v39]) fun v42 => gK v42 false (fun q' => q' v14 H40 τ41) H40 τ41 fun v43 H44 τ45 => gK v42 false (fun q' => binK .lss v43 (.int .i64 (.ofNat 0)) fun v => q' v H44 τ45) H44 τ45 fun v46 H47 τ48 => gK v42 false (fun q' => q' v46 H47 τ48) H47 τ48 fun v49 H50 τ51 => gK v49 true (fun q' => q' v19 H50 τ51) H50 τ51 fun v52 H53 τ54 => gK v49 true (fun q' => binK .lss v52 (.int .i64 (.ofNat 0)) fun v => q' v H53 τ54) H53 τ54 fun v55 H56 τ57 =>
    gK v42 false (fun q' => someK (pPick [v49, v55, (.bool false)]) fun v => q' v H56 τ57) H56 τ57 fun v58 H59 τ60 => someK (pPick [v42, (.bool true), v58]) fun v61 => gK v61 false (fun q' => q' v14 H59 τ60) H59 τ60 fun v62 H63 τ64 => gK v61 false (fun q' => binK .geq v62 (.int .i64 (.ofNat 0)) fun v => q' v H63 τ64) H63 τ64 fun v65 H66 τ67 => gK v61 false (fun q' => q' v65 H66 τ67) H66 τ67 fun v68 H69 τ70 => gK v68 true (fun q' => q' v19 H69 τ70) H69 τ70 fun v71 H72 τ73 => gK v68 true (fun q' => binK .geq v71 (.int .i64 (.ofNat 0)) fun v => q' v H72 τ73) H72 τ73 fun v74 H75 τ76 => gK v61 false (fun q' => someK (pPick [v68, v74, (.bool false)]) fun v => q' v H75 τ76) H75 τ76 fun v77 H78 τ79 => gK v61 false (fun q' => q' v77 H78 τ79) H78 τ79 fun v80 H81 τ82 => gK v80 true (fun q' => q' v14 H81 τ82) H81 τ82 fun v83 H84 τ85 =>
    gK v80 true (fun q' => q' v19 H84 τ85) H84 τ85 fun v86 H87 τ88 => gK v80 true (fun q' => binK .gtr v83 v86 fun v => q' v H87 τ88) H87 τ88 fun v89 H90 τ91 => gK v61 false (fun q' => someK (pPick [v80, v89, (.bool false)]) fun v => q' v H90 τ91) H90 τ91 fun v92 H93 τ94 => someK (pPick [v61, (.bool true), v92]) fun v95 => condK v95 (q (.tup [(.int .i64 (.ofNat 0)), (.int .i64 (.ofNat 0)), (.bool false)]) H93 τ94) (q (.tup [v14, v19, (.bool true)]) H93 τ94)
theorem s_headers_Range_eq (call : CallK) (N : Nat) (a0 : V) (H : Heap) (τ : Tape) (q : KV) : s_headers_Range call N a0 H τ q = funK call N fn_headers_Range [a0] H τ q := by kernel_rfl
def e_headers_Range (call : CallK) (N : Nat) (vs : List V) (H : Heap) (τ : Tape) (q : KV) : Ans := match vs with | [a0] => s_headers_Range call N a0 H τ q | _ => none
theorem e_headers_Range_ok : EntOk fn_headers_Range e_headers_Range := by
  intro call N vs H τ q r h
  unfold e_headers_Range at h
  split at h
  · rw [s_headers_Range_eq] at h; exact h
  · cases h
theorem e_headers_Range_nat : EntNat e_headers_Range := by
  intro c hn N vs H τ q
  unfold e_headers_Range
  split
  · rw [s_headers_Range_eq, s_headers_Range_eq]; exact funK_ent hn _ _ _ _ _ _
  · rfl
/-- ostiary/ostiaryref5.Range -/
def fn_ref5_Range : Fun := ⟨1, (.seq (.reg [iR 2 (.p .mv) [(.c (.int .i64 (.ofNat 0)))], iR 3 (.p .mv) [(.c (.int .i64 (.ofNat 0)))], iR 4 (.p .mv) [(.c (.bool false))]]) (.keep [0] (.seq (.seq (.reg [iR 11 (.p .mv) [(.t 0)], iR 12 (.call 45) [(.t 11), (.c (.str (bs [98, 121, 116, 101, 115, 61])))], iR 13 (.p (.un .not)) [(.t 12)]]) (.keep [0, 13] (.cond (.t 13) (.seq (.reg [iR 2 (.p .mv) [(.c (.int .i64 (.ofNat 0)))], iR 3 (.p .mv) [(.c (.int .i64 (.ofNat 0)))], iR 4 (.p .mv) [(.c (.bool false))]]) (.keep [2, 3, 4] (.keep [2, 3, 4] .ret))) .skip))) (.keep [0] (.seq (.reg [iR 15 (.p .mv) [(.t 0)], iR 16 (.p (.strSlice true false)) [(.t 15), (.c (.int .i64 (.ofNat 6)))], iR 17 (.call 46) [(.t 16), (.c (.int .u8 (.ofNat 45)))], iR 14 (.p .mv) [(.t 17)], iR 18 (.p (.extract 0)) [(.t 14)], iR 19 (.p (.extract 1)) [(.t 14)], iR 20 (.p (.extract 2)) [(.t 14)], iR 5 (.p .mv) [(.t 18)],
    iR 6 (.p .mv) [(.t 19)], iR 7 (.p .mv) [(.t 20)]]) (.keep [5, 6, 7] (.seq (.seq (.reg [iR 21 (.p .mv) [(.t 7)], iR 22 (.p (.un .not)) [(.t 21)], iR 23 (.p .mv) [(.t 22)], iG 24 23 false (.p .mv) [(.t 5)], iG 25 23 false (.p (.bin .eql)) [(.t 24), (.c (.str []))], iG 26 23 false (.p .mv) [(.t 25)], iG 27 26 true (.p .mv) [(.t 6)], iG 28 26 true (.p (.bin .eql)) [(.t 27), (.c (.str []))], iG 29 23 false (.p .pick) [(.t 26), (.t 28), (.c (.bool false))], iR 30 (.p .pick) [(.t 23), (.c (.bool true)), (.t 29)]]) (.keep [5, 6, 7, 30] (.cond (.t 30) (.seq (.reg [iR 2 (.p .mv) [(.c (.int .i64 (.ofNat 0)))], iR 3 (.p .mv) [(.c (.int .i64 (.ofNat 0)))], iR 4 (.p .mv) [(.c (.bool false))]]) (.keep [2, 3, 4] (.keep [2, 3, 4] .ret))) .skip))) (.keep [5, 6, 7] (.seq (.reg [iR 8 (.p .mv) [(.c (.int .i64 (.negSucc 0)))]])
    (.keep [5, 6, 7, 8] (.seq (.reg [iR 9 (.p .mv) [(.c (.int .i64 (.negSucc 0)))]]) (.keep [5, 6, 7, 8, 9] (.seq (.seq (.reg [iR 31 (.p .mv) [(.t 5)], iR 32 (.p (.bin .neq)) [(.t 31), (.c (.str []))]]) (.keep [5, 6, 7, 8, 9, 32] (.cond (.t 32) (.reg [iR 34 (.p .mv) [(.t 5)], iR 35 (.call 47) [(.t 34)], iR 33 (.p .mv) [(.t 35)], iR 36 (.p (.extract 0)) [(.t 33)], iR 37 (.p (.extract 1)) [(.t 33)], iR 8 (.p .mv) [(.t 36)], iR 7 (.p .mv) [(.t 37)]]) .skip))) (.keep [6, 7, 8, 9] (.seq (.reg [iR 10 (.p .mv) [(.c (.bool true))]]) (.keep [6, 7, 8, 9, 10] (.seq (.seq (.reg [iR 38 (.p .mv) [(.t 6)], iR 39 (.p (.bin .neq)) [(.t 38), (.c (.str []))]]) (.keep [6, 7, 8, 9, 10, 39] (.cond (.t 39) (.reg [iR 41 (.p .mv) [(.t 6)], iR 42 (.call 47) [(.t 41)], iR 40 (.p .mv) [(.t 42)], iR 43 (.p (.extract 0)) [(.t 40)], iR 44 (.p (.extract 1)) [(.t 40)], iR 9 (.p .mv) [(.t 43)],
    iR 10 (.p .mv) [(.t 44)]]) .skip))) (.keep [7, 8, 9, 10] (.seq (.seq (.reg [iR 45 (.p .mv) [(.t 7)], iR 46 (.p (.un .not)) [(.t 45)], iR 47 (.p .mv) [(.t 46)], iG 48 47 false (.p .mv) [(.t 10)], iG 49 47 false (.p (.un .not)) [(.t 48)], iR 50 (.p .pick) [(.t 47), (.c (.bool true)), (.t 49)], iR 51 (.p .mv) [(.t 50)], iG 52 51 false (.p .mv) [(.t 8)], iG 53 51 false (.p (.bin .geq)) [(.t 52), (.c (.int .i64 (.ofNat 0)))], iG 54 51 false (.p .mv) [(.t 53)], iG 55 54 true (.p .mv) [(.t 9)], iG 56 54 true (.p (.bin .geq)) [(.t 55), (.c (.int .i64 (.ofNat 0)))], iG 57 51 false (.p .pick) [(.t 54), (.t 56), (.c (.bool false))], iG 58 51 false (.p .mv) [(.t 57)], iG 59 58 true (.p .mv) [(.t 8)], iG 60 58 true (.p .mv) [(.t 9)], iG 61 58 true (.p (.bin .gtr)) [(.t 59), (.t 60)], iG 62 51 false (.p .pick) [(.t 58), (.t 61), (.c (.bool false))],
    iR 63 (.p .pick) [(.t 51), (.c (.bool true)), (.t 62)]]) (.keep [8, 9, 63] (.cond (.t 63) (.seq (.reg [iR 2 (.p .mv) [(.c (.int .i64 (.ofNat 0)))], iR 3 (.p .mv) [(.c (.int .i64 (.ofNat 0)))], iR 4 (.p .mv) [(.c (.bool false))]]) (.keep [2, 3, 4] (.keep [2, 3, 4] .ret))) .skip))) (.keep [8, 9] (.seq (.reg [iR 64 (.p .mv) [(.t 8)], iR 65 (.p .mv) [(.t 9)], iR 2 (.p .mv) [(.t 64)], iR 3 (.p .mv) [(.t 65)], iR 4 (.p .mv) [(.c (.bool true))]]) (.keep [2, 3, 4] (.keep [2, 3, 4] .ret))))))))))))))))))))))), [(.t 2), (.t 3), (.t 4)]⟩
def s_ref5_Range_j1 (call : CallK) (N : Nat) (q : KV) (st : St) (τ : Tape) : Ans := match st with
  | ⟨fr, H⟩ => getK fr 7 fun t7 => getK fr 8 fun t8 => getK fr 9 fun t9 => getK fr 10 fun t10 => unK .not t7 fun v33 => gK v33 false (fun q' => q' t10 H τ) H τ fun v34 H35 τ36 => gK v33 false (fun q' => unK .not v34 fun v => q' v H35 τ36) H35 τ36 fun v37 H38 τ39 => someK (pPick [v33, (.bool true), v37]) fun v40 => gK v40 false (fun q' => q' t8 H38 τ39) H38 τ39 fun v41 H42 τ43 => gK v40 false (fun q' => binK .geq v41 (.int .i64 (.ofNat 0)) fun v => q' v H42 τ43) H42 τ43 fun v44 H45 τ46 => gK v40 false (fun q' => q' v44 H45 τ46) H45 τ46 fun v47 H48 τ49 => gK v47 true (fun q' => q' t9 H48 τ49) H48 τ49 fun v50 H51 τ52 => gK v47 true (fun q' => binK .geq v50 (.int .i64 (.ofNat 0)) fun v => q' v H51 τ52) H51 τ52 fun v53 H54 τ55 => gK v40 false (fun q' => someK (pPick [v47, v53, (.bool false)]) fun v => q' v H54 τ55) H54 τ55 fun v56 H57 τ58 =>
    gK v40 false (fun q' => q' v56 H57 τ58) H57 τ58 fun v59 H60 τ61 => gK v59 true (fun q' => q' t8 H60 τ61) H60 τ61 fun v62 H63 τ64 => gK v59 true (fun q' => q' t9 H63 τ64) H63 τ64 fun v65 H66 τ67 => gK v59 true (fun q' => binK .gtr v62 v65 fun v => q' v H66 τ67) H66 τ67 fun v68 H69 τ70 => gK v40 false (fun q' => someK (pPick [v59, v68, (.bool false)]) fun v => q' v H69 τ70) H69 τ70 fun v71 H72 τ73 => someK (pPick [v40, (.bool true), v71]) fun v74 => condK v74 (q (.tup [(.int .i64 (.ofNat 0)), (.int .i64 (.ofNat 0)), (.bool false)]) H72 τ73) (q (.tup [t8, t9, (.bool true)]) H72 τ73)
def s_ref5_Range_j0 (call : CallK) (N : Nat) (q : KV) (st : St) (τ : Tape) : Ans := match st with
  | ⟨fr, H⟩ => getK fr 6 fun t6 => getK fr 7 fun t7 => getK fr 8 fun t8 => getK fr 9 fun t9 => binK .neq t6 (.str []) fun v32 => condK v32 (call f_ref1_Int [t6] H τ fun v75 H76 τ77 => someK (pExtract 0 [v75]) fun v78 => someK (pExtract 1 [v75]) fun v79 => s_ref5_Range_j1 call N q ⟨(T.set (T.set (T.set (T.set (T.set (T.set (T.set (T.set (T.set (T.set (T.set (T.set (T.set .leaf 6 t6) 7 t7) 8 t8) 9 t9) 10 (.bool true)) 39 v32) 41 t6) 42 v75) 40 v75) 43 v78) 44 v79) 9 v78) 10 v79), H76⟩ τ77) (s_ref5_Range_j1 call N q ⟨(T.set (T.set (T.set (T.set (T.set (T.set .leaf 6 t6) 7 t7) 8 t8) 9 t9) 10 (.bool true)) 39 v32), H⟩ τ)
def s_ref5_Range (call : CallK) (N : Nat) (a0 : V) (H : Heap) (τ : Tape) (q : KV) : Ans := call f_ref1_Begins [a0, (.str (bs [98, 121, 116, 101, 115, 61]))] H τ fun v0 H1 τ2 => unK .not v0 fun v3 => condK v3 (q (.tup [(.int .i64 (.ofNat 0)), (.int .i64 (.ofNat 0)), (.bool false)]) H1 τ2) (someK (pStrSlice true false [a0, (.int .i64 (.ofNat 6))]) fun v4 => call f_ref1_Part [v4, (.int .u8 (.ofNat 45))] H1 τ2 fun v5 H6 τ7 => someK (pExtract 0 [v5]) fun v8 => someK (pExtract 1 [v5]) fun v9 => someK (pExtract 2 [v5]) fun v10 => unK .not v10 fun v11 => gK v11 false (fun q' => q' v8 H6 τ7) H6 τ7 fun v12 H13 τ14 => gK v11 false (fun q' => binK .eql v12 (.str []) fun v => q' v H13 τ14) H13 τ14 fun v15 H16 τ17 => gK v11 false (fun q' => q' v15 H16 τ17) H16 τ17 fun v18 H19 τ20 => gK v18 true (fun q' => q' v9 H19 τ20) H19 τ20 fun v21 H22 τ23 =>
    gK v18 true (fun q' => binK .eql v21 (.str []) fun v => q' v H22 τ23) H22 τ23 fun v24 H25 τ26 => gK v11 false (fun q' => someK (pPick [v18, v24, (.bool false)]) fun v => q' v H25 τ26) H25 τ26 fun v27 H28 τ29 => someK (pPick [v11, (.bool true), v27]) fun v30 => condK v30 (q (.tup [(.int .i64 (.ofNat 0)), (.int .i64 (.ofNat 0)), (.bool false)]) H28 τ29) (binK .neq v8 (.str []) fun v31 => condK v31 (call f_ref1_Int [v8] H28 τ29 fun v80 H81 τ82 => someK (pExtract 0 [v80]) fun v83 => someK (pExtract 1 [v80]) fun v84 => s_ref5_Range_j0 call N q ⟨(T.set (T.set (T.set (T.set (T.set (T.set (T.set (T.set (T.set (T.set (T.set (T.set (T.set .leaf 5 v8) 6 v9) 7 v10) 8 (.int .i64 (.negSucc 0))) 9 (.int .i64 (.negSucc 0))) 32 v31) 34 v8) 35 v80) 33 v80) 36 v83) 37 v84) 8 v83) 7 v84), H81⟩ τ82)
    (s_ref5_Range_j0 call N q ⟨(T.set (T.set (T.set (T.set (T.set (T.set .leaf 5 v8) 6 v9) 7 v10) 8 (.int .i64 (.negSucc 0))) 9 (.int .i64 (.negSucc 0))) 32 v31), H28⟩ τ29)))
theorem s_ref5_Range_eq (call : CallK) (N : Nat) (a0 : V) (H : Heap) (τ : Tape) (q : KV) : s_ref5_Range call N a0 H τ q = funK call N fn_ref5_Range [a0] H τ q := by kernel_rfl
def e_ref5_Range (call : CallK) (N : Nat) (vs : List V) (H : Heap) (τ : Tape) (q : KV) : Ans := match vs with | [a0] => s_ref5_Range call N a0 H τ q | _ => none
theorem e_ref5_Range_ok : EntOk fn_ref5_Range e_ref5_Range := by
  intro call N vs H τ q r h
  unfold e_ref5_Range at h
  split at h
  · rw [s_ref5_Range_eq] at h; exact h
  · cases h
theorem e_ref5_Range_nat : EntNat e_ref5_Range := by
  intro c hn N vs H τ q
  unfold e_ref5_Range
  split
  · rw [s_ref5_Range_eq, s_ref5_Range_eq]; exact funK_ent hn _ _ _ _ _ _
  · rfl
/-- ostiary/ostiarybook.Same[string] -/
def fn_book_Same_string : Fun := ⟨2, (.seq (.reg [iR 4 (.p .mv) [(.c (.bool false))]]) (.keep [0, 1] (.seq (.seq (.reg [iR 6 (.p .mv) [(.t 0)], iR 7 (.p .len) [(.t 6)], iR 8 (.p .mv) [(.t 1)], iR 9 (.p .len) [(.t 8)], iR 10 (.p (.bin .neq)) [(.t 7), (.t 9)]]) (.keep [0, 1, 10] (.cond (.t 10) (.seq (.reg [iR 4 (.p .mv) [(.c (.bool false))]]) (.keep [4] (.keep [4] .ret))) .skip))) (.keep [0, 1] (.seq (.seq (.reg [iR 5 (.p .mv) [(.c (.int .i64 (.ofNat 0)))]]) (.keep [0, 1, 5] (.block 0 (.loop (.keep [0, 1, 5] (.seq (.seq (.reg [iR 11 (.p .mv) [(.t 5)], iR 12 (.p .mv) [(.t 0)], iR 13 (.p .len) [(.t 12)], iR 14 (.p (.bin .lss)) [(.t 11), (.t 13)]]) (.keep [0, 1, 5, 14] (.cond (.t 14) .skip (.keep [] (.exit 0))))) (.keep [0, 1, 5] (.seq (.block 1 (.seq (.draw [iR 17 (.p .mv) [(.t 0)], iR 18 (.p .mv) [(.t 5)], iR 19 (.p (.slIdx 1)) [(.t 17), (.t 18)], iR 20 (.l (.load none)) [(.t 19)],
    iR 21 (.p .mv) [(.t 1)], iR 22 (.p .mv) [(.t 5)], iR 23 (.p (.slIdx 1)) [(.t 21), (.t 22)], iR 24 (.l (.load none)) [(.t 23)], iR 25 (.p (.bin .neq)) [(.t 20), (.t 24)]]) (.keep [0, 1, 5, 25] (.cond (.t 25) (.seq (.reg [iR 4 (.p .mv) [(.c (.bool false))]]) (.keep [4] (.keep [4] .ret))) .skip)))) (.keep [0, 1, 5] (.reg [iR 15 (.p .mv) [(.t 5)], iR 16 (.p (.bin .add)) [(.t 15), (.c (.int .i64 (.ofNat 1)))], iR 5 (.p .mv) [(.t 16)]])))))))))) (.keep [] (.seq (.reg [iR 4 (.p .mv) [(.c (.bool true))]]) (.keep [4] (.keep [4] .ret))))))))), [(.t 4)]⟩
def s_book_Same_string_j0 (call : CallK) (N : Nat) (q : KV) (st : St) (τ : Tape) : Ans := match st with
  | ⟨fr, H⟩ => q (.bool true) H τ
def s_book_Same_string_l1 (call : CallK) (N : Nat) (st : St) (τ : Tape) (k : KC) : Ans := match st with
  | ⟨fr, H⟩ => getK fr 0 fun t0 => getK fr 1 fun t1 => getK fr 5 fun t5 => someK (pLen [t0]) fun v3 => binK .lss t5 v3 fun v4 => condK v4 (someK (pSlIdx 1 [t0, t5]) fun v5 => someK (lLoad1 [v5] H) fun v6 => someK (pSlIdx 1 [t1, t5]) fun v7 => someK (lLoad1 [v7] H) fun v8 => binK .neq v6 v8 fun v9 => condK v9 (k .ret ⟨(T.set .leaf 4 (.bool false)), H⟩ τ) (binK .add t5 (.int .i64 (.ofNat 1)) fun v10 => k .normal ⟨(T.set (T.set (T.set (T.set (T.set (T.set .leaf 0 t0) 1 t1) 5 t5) 15 t5) 16 v10) 5 v10), H⟩ τ)) (k (.exit 0) ⟨.leaf, H⟩ τ)
def s_book_Same_string (call : CallK) (N : Nat) (a0 a1 : V) (H : Heap) (τ : Tape) (q : KV) : Ans := someK (pLen [a0]) fun v0 => someK (pLen [a1]) fun v1 => binK .neq v0 v1 fun v2 => condK v2 (q (.bool false) H τ) (loopK (s_book_Same_string_l1 call N) N ⟨(T.set (T.set (T.set .leaf 0 a0) 1 a1) 5 (.int .i64 (.ofNat 0))), H⟩ τ (blockK 0 (seqK (s_book_Same_string_j0 call N q) (endK [(.t 4)] q))))
theorem s_book_Same_string_eq (call : CallK) (N : Nat) (a0 a1 : V) (H : Heap) (τ : Tape) (q : KV) : s_book_Same_string call N a0 a1 H τ q = funK call N fn_book_Same_string [a0, a1] H τ q := by kernel_rfl
def e_book_Same_string (call : CallK) (N : Nat) (vs : List V) (H : Heap) (τ : Tape) (q : KV) : Ans := match vs with | [a0, a1] => s_book_Same_string call N a0 a1 H τ q | _ => none
theorem e_book_Same_string_ok : EntOk fn_book_Same_string e_book_Same_string := by
  intro call N vs H τ q r h
  unfold e_book_Same_string at h
  split at h
  · rw [s_book_Same_string_eq] at h; exact h
  · cases h
theorem e_book_Same_string_nat : EntNat e_book_Same_string := by
  intro c hn N vs H τ q
  unfold e_book_Same_string
  split
  · rw [s_book_Same_string_eq, s_book_Same_string_eq]; exact funK_ent hn _ _ _ _ _ _
  · rfl
/-- ostiary/ostiarybook.Same[ostiary/api.Header] -/
def fn_book_Same_Header : Fun := ⟨2, (.seq (.reg [iR 4 (.p .mv) [(.c (.bool false))]]) (.keep [0, 1] (.seq (.seq (.reg [iR 6 (.p .mv) [(.t 0)], iR 7 (.p .len) [(.t 6)], iR 8 (.p .mv) [(.t 1)], iR 9 (.p .len) [(.t 8)], iR 10 (.p (.bin .neq)) [(.t 7), (.t 9)]]) (.keep [0, 1, 10] (.cond (.t 10) (.seq (.reg [iR 4 (.p .mv) [(.c (.bool false))]]) (.keep [4] (.keep [4] .ret))) .skip))) (.keep [0, 1] (.seq (.seq (.reg [iR 5 (.p .mv) [(.c (.int .i64 (.ofNat 0)))]]) (.keep [0, 1, 5] (.block 0 (.loop (.keep [0, 1, 5] (.seq (.seq (.reg [iR 11 (.p .mv) [(.t 5)], iR 12 (.p .mv) [(.t 0)], iR 13 (.p .len) [(.t 12)], iR 14 (.p (.bin .lss)) [(.t 11), (.t 13)]]) (.keep [0, 1, 5, 14] (.cond (.t 14) .skip (.keep [] (.exit 0))))) (.keep [0, 1, 5] (.seq (.block 1 (.seq (.draw [iR 17 (.p .mv) [(.t 0)], iR 18 (.p .mv) [(.t 5)], iR 19 (.p (.slIdx 2)) [(.t 17), (.t 18)],
    iR 20 (.l (.load (some 2))) [(.t 19)], iR 21 (.p .mv) [(.t 1)], iR 22 (.p .mv) [(.t 5)], iR 23 (.p (.slIdx 2)) [(.t 21), (.t 22)], iR 24 (.l (.load (some 2))) [(.t 23)], iR 25 (.p (.eq true (.flat [.str, .str]))) [(.t 20), (.t 24)]]) (.keep [0, 1, 5, 25] (.cond (.t 25) (.seq (.reg [iR 4 (.p .mv) [(.c (.bool false))]]) (.keep [4] (.keep [4] .ret))) .skip)))) (.keep [0, 1, 5] (.reg [iR 15 (.p .mv) [(.t 5)], iR 16 (.p (.bin .add)) [(.t 15), (.c (.int .i64 (.ofNat 1)))], iR 5 (.p .mv) [(.t 16)]])))))))))) (.keep [] (.seq (.reg [iR 4 (.p .mv) [(.c (.bool true))]]) (.keep [4] (.keep [4] .ret))))))))), [(.t 4)]⟩
def s_book_Same_Header_j0 (call : CallK) (N : Nat) (q : KV) (st : St) (τ : Tape) : Ans := match st with
  | ⟨fr, H⟩ => q (.bool true) H τ
def s_book_Same_Header_l1 (call : CallK) (N : Nat) (st : St) (τ : Tape) (k : KC) : Ans := match st with
  | ⟨fr, H⟩ => getK fr 0 fun t0 => getK fr 1 fun t1 => getK fr 5 fun t5 => someK (pLen [t0]) fun v3 => binK .lss t5 v3 fun v4 => condK v4 (someK (pSlIdx 2 [t0, t5]) fun v5 => someK (lLoadN 2 [v5] H) fun v6 => someK (pSlIdx 2 [t1, t5]) fun v7 => someK (lLoadN 2 [v7] H) fun v8 => someK (pEq true (.flat [.str, .str]) [v6, v8]) fun v9 => condK v9 (k .ret ⟨(T.set .leaf 4 (.bool false)), H⟩ τ) (binK .add t5 (.int .i64 (.ofNat 1)) fun v10 => k .normal ⟨(T.set (T.set (T.set (T.set (T.set (T.set .leaf 0 t0) 1 t1) 5 t5) 15 t5) 16 v10) 5 v10), H⟩ τ)) (k (.exit 0) ⟨.leaf, H⟩ τ)
def s_book_Same_Header (call : CallK) (N : Nat) (a0 a1 : V) (H : Heap) (τ : Tape) (q : KV) : Ans := someK (pLen [a0]) fun v0 => someK (pLen [a1]) fun v1 => binK .neq v0 v1 fun v2 => condK v2 (q (.bool false) H τ) (loopK (s_book_Same_Header_l1 call N) N ⟨(T.set (T.set (T.set .leaf 0 a0) 1 a1) 5 (.int .i64 (.ofNat 0))), H⟩ τ (blockK 0 (seqK (s_book_Same_Header_j0 call N q) (endK [(.t 4)] q))))
theorem s_book_Same_Header_eq (call : CallK) (N : Nat) (a0 a1 : V) (H : Heap) (τ : Tape) (q : KV) : s_book_Same_Header call N a0 a1 H τ q = funK call N fn_book_Same_Header [a0, a1] H τ q := by kernel_rfl
def e_book_Same_Header (call : CallK) (N : Nat) (vs : List V) (H : Heap) (τ : Tape) (q : KV) : Ans := match vs with | [a0, a1] => s_book_Same_Header call N a0 a1 H τ q | _ => none
theorem e_book_Same_Header_ok : EntOk fn_book_Same_Header e_book_Same_Header := by
  intro call N vs H τ q r h
  unfold e_book_Same_Header at h
  split at h
  · rw [s_book_Same_Header_eq] at h; exact h
  · cases h
theorem e_book_Same_Header_nat : EntNat e_book_Same_Header := by
  intro c hn N vs H τ q
  unfold e_book_Same_Header
  split
  · rw [s_book_Same_Header_eq, s_book_Same_Header_eq]; exact funK_ent hn _ _ _ _ _ _
  · rfl
/-- ostiary/headers.Sorted -/
def fn_headers_Sorted : Fun := ⟨1, (.seq (.reg [iR 2 (.p .mv) [(.c .nils)]]) (.keep [0] (.seq (.reg [iR 3 (.p .mv) [(.c .nils)]]) (.keep [0, 3] (.seq (.seq (.reg [iR 13 (.p .mv) [(.t 0)], iR 14 (.p .len) [(.t 13)], iR 15 (.p .mv) [(.c (.int .i64 (.ofNat 0)))]]) (.keep [0, 3, 13, 14, 15] (.block 0 (.loop (.keep [0, 3, 13, 14, 15] (.seq (.reg [iR 16 (.p (.bin .lss)) [(.t 15), (.t 14)]]) (.keep [0, 3, 13, 14, 15, 16] (.seq (.cond (.t 16) .skip (.keep [0, 3] (.exit 0))) (.keep [0, 3, 13, 14, 15] (.seq (.block 1 (.seq (.reg [iR 17 (.p (.slIdx 2)) [(.t 13), (.t 15)], iR 18 (.l (.load (some 2))) [(.t 17)], iR 5 (.e (.alloc [(.str []), (.str [])])) [], ⟨none, none, (.e (.store 2)), [(.t 5), (.t 18)], none⟩]) (.keep [0, 3, 5, 13, 14, 15] (.reg [iR 19 (.p .mv) [(.t 3)], iR 20 (.p (.fieldAddr 0)) [(.t 5)], iR 21 (.l (.load none)) [(.t 20)], iR 22 (.call 48) [(.t 21)],
    iR 23 (.e (.buildSlice 1 1 [(.str [])] [(0, 1)])) [(.t 22)], iR 24 (.e (.append 1 16)) [(.t 19), (.t 23)], iR 3 (.p .mv) [(.t 24)]])))) (.keep [0, 3, 13, 14, 15] (.reg [iR 25 (.p (.bin .add)) [(.t 15), (.c (.int .i64 (.ofNat 1)))], iR 15 (.p .mv) [(.t 25)]])))))))))))) (.keep [0, 3] (.seq (.reg [iR 26 (.p .mv) [(.t 3)], iR 27 (.call 49) [(.t 26)]]) (.keep [0, 3] (.seq (.reg [iR 6 (.p .mv) [(.c .nils)]]) (.keep [0, 3, 6] (.seq (.seq (.reg [iR 28 (.p .mv) [(.t 3)], iR 29 (.call 50) [(.t 28)], iR 30 (.p .len) [(.t 29)], iR 31 (.p .mv) [(.c (.int .i64 (.ofNat 0)))]]) (.keep [0, 6, 29, 30, 31] (.block 2 (.loop (.keep [0, 6, 29, 30, 31] (.seq (.reg [iR 32 (.p (.bin .lss)) [(.t 31), (.t 30)]]) (.keep [0, 6, 29, 30, 31, 32] (.seq (.cond (.t 32) .skip (.keep [6] (.exit 2))) (.keep [0, 6, 29, 30, 31] (.seq (.block 3 (.seq (.reg [iR 33 (.p (.slIdx 1)) [(.t 29), (.t 31)],
    iR 34 (.l (.load none)) [(.t 33)], iR 8 (.p .mv) [(.t 34)]]) (.keep [0, 6, 8, 29, 30, 31] (.seq (.seq (.reg [iR 35 (.p .mv) [(.t 8)], iR 36 (.p (.bin .neq)) [(.t 35), (.c (.str (bs [115, 101, 116, 45, 99, 111, 111, 107, 105, 101])))]]) (.keep [0, 6, 8, 29, 30, 31, 36] (.cond (.t 36) (.seq (.reg [iR 38 (.p .mv) [(.t 0)], iR 39 (.p .mv) [(.t 8)], iR 40 (.call 11) [(.t 38), (.t 39)], iR 37 (.p .mv) [(.t 40)], iR 41 (.p (.extract 0)) [(.t 37)], iR 42 (.p (.extract 1)) [(.t 37)], iR 9 (.p .mv) [(.t 41)], iR 10 (.p .mv) [(.t 42)]]) (.keep [0, 6, 8, 9, 29, 30, 31] (.seq (.reg [iR 43 (.p .mv) [(.t 6)], iR 44 (.p .mv) [(.t 8)], iR 45 (.p .mv) [(.t 9)], iR 46 (.p (.build [(.str []), (.str [])] [(0, 1), (1, 1)])) [(.t 44), (.t 45)], iR 47 (.e (.buildSlice 1 2 [(.str []), (.str [])] [(0, 2)])) [(.t 46)], iR 48 (.e (.append 2 32)) [(.t 43), (.t 47)], iR 6 (.p .mv) [(.t 48)]])
    (.keep [0, 6, 29, 30, 31] (.keep [0, 6, 29, 30, 31] (.exit 3)))))) .skip))) (.keep [0, 6, 8, 29, 30, 31] (.seq (.reg [iR 49 (.p .mv) [(.t 0)], iR 50 (.p .len) [(.t 49)], iR 51 (.p .mv) [(.c (.int .i64 (.ofNat 0)))]]) (.keep [0, 6, 8, 29, 30, 31, 49, 50, 51] (.block 4 (.loop (.keep [0, 6, 8, 29, 30, 31, 49, 50, 51] (.seq (.reg [iR 52 (.p (.bin .lss)) [(.t 51), (.t 50)]]) (.keep [0, 6, 8, 29, 30, 31, 49, 50, 51, 52] (.seq (.cond (.t 52) .skip (.keep [0, 6, 29, 30, 31] (.exit 4))) (.keep [0, 6, 8, 29, 30, 31, 49, 50, 51] (.seq (.block 5 (.seq (.reg [iR 53 (.p (.slIdx 2)) [(.t 49), (.t 51)], iR 54 (.l (.load (some 2))) [(.t 53)], iR 12 (.e (.alloc [(.str []), (.str [])])) [], ⟨none, none, (.e (.store 2)), [(.t 12), (.t 54)], none⟩]) (.keep [0, 6, 8, 12, 29, 30, 31, 49, 50, 51] (.seq (.reg [iR 55 (.l (.load (some 2))) [(.t 12)], iR 56 (.p .mv) [(.t 8)],
    iR 57 (.call 39) [(.t 55), (.t 56)]]) (.keep [0, 6, 8, 12, 29, 30, 31, 49, 50, 51, 57] (.cond (.t 57) (.reg [iR 58 (.p .mv) [(.t 6)], iR 59 (.p .mv) [(.t 8)], iR 60 (.p (.fieldAddr 1)) [(.t 12)], iR 61 (.l (.load none)) [(.t 60)], iR 62 (.p (.build [(.str []), (.str [])] [(0, 1), (1, 1)])) [(.t 59), (.t 61)], iR 63 (.e (.buildSlice 1 2 [(.str []), (.str [])] [(0, 2)])) [(.t 62)], iR 64 (.e (.append 2 32)) [(.t 58), (.t 63)], iR 6 (.p .mv) [(.t 64)]]) .skip)))))) (.keep [0, 6, 8, 29, 30, 31, 49, 50, 51] (.reg [iR 65 (.p (.bin .add)) [(.t 51), (.c (.int .i64 (.ofNat 1)))], iR 51 (.p .mv) [(.t 65)]]))))))))))))))))) (.keep [0, 6, 29, 30, 31] (.reg [iR 66 (.p (.bin .add)) [(.t 31), (.c (.int .i64 (.ofNat 1)))], iR 31 (.p .mv) [(.t 66)]])))))))))))) (.keep [6] (.seq (.reg [iR 67 (.p .mv) [(.t 6)], iR 2 (.p .mv) [(.t 67)]]) (.keep [2] (.keep [2] .ret))))))))))))))), [(.t 2)]⟩
def s_headers_Sorted_j1 (call : CallK) (N : Nat) (q : KV) (st : St) (τ : Tape) : Ans := match st with
  | ⟨fr, H⟩ => getK fr 6 fun t6 => q t6 H τ
def s_headers_Sorted_j3 (call : CallK) (N : Nat) (k : KC) (st : St) (τ : Tape) : Ans := match st with
  | ⟨fr, H⟩ => getK fr 0 fun t0 => getK fr 6 fun t6 => getK fr 29 fun t29 => getK fr 30 fun t30 => getK fr 31 fun t31 => binK .add t31 (.int .i64 (.ofNat 1)) fun v9 => k .normal ⟨(T.set (T.set (T.set (T.set (T.set (T.set (T.set .leaf 0 t0) 6 t6) 29 t29) 30 t30) 31 t31) 66 v9) 31 v9), H⟩ τ
def s_headers_Sorted_j5 (call : CallK) (N : Nat) (k : KC) (st : St) (τ : Tape) : Ans := match st with
  | ⟨fr, H⟩ => getK fr 0 fun t0 => getK fr 6 fun t6 => getK fr 8 fun t8 => getK fr 29 fun t29 => getK fr 30 fun t30 => getK fr 31 fun t31 => getK fr 49 fun t49 => getK fr 50 fun t50 => getK fr 51 fun t51 => binK .add t51 (.int .i64 (.ofNat 1)) fun v27 => k .normal ⟨(T.set (T.set (T.set (T.set (T.set (T.set (T.set (T.set (T.set (T.set (T.set .leaf 0 t0) 6 t6) 8 t8) 29 t29) 30 t30) 31 t31) 49 t49) 50 t50) 51 t51) 65 v27) 51 v27), H⟩ τ
def s_headers_Sorted_l4 (call : CallK) (N : Nat) (st : St) (τ : Tape) (k : KC) : Ans := match st with
  | ⟨fr, H⟩ => getK fr 0 fun t0 => getK fr 6 fun t6 => getK fr 8 fun t8 => getK fr 29 fun t29 => getK fr 30 fun t30 => getK fr 31 fun t31 => getK fr 49 fun t49 => getK fr 50 fun t50 => getK fr 51 fun t51 => binK .lss t51 t50 fun v26 => condK v26 (someK (pSlIdx 2 [t49, t51]) fun v28 => someK (lLoadN 2 [v28] H) fun v29 => effK (eAlloc [(.str []), (.str [])] [] H τ) fun v30 H31 τ32 => effK (eStore 2 [v30, v29] H31 τ32) fun v33 H34 τ35 => someK (lLoadN 2 [v30] H34) fun v36 => call f_headers_is [v36, t8] H34 τ35 fun v37 H38 τ39 => condK v37 (someK (pFieldAddr 1 [v30]) fun v40 => someK (lLoad1 [v40] H38) fun v41 => someK (pBuild [(.str []), (.str [])] [(0, 1), (1, 1)] [t8, v41]) fun v42 => effK (eBuildSlice 1 2 [(.str []), (.str [])] [(0, 2)] [v42] H38 τ39) fun v43 H44 τ45 => effK (eAppend 2 32 [t6, v43] H44 τ45) fun v46 H47 τ48 =>
    s_headers_Sorted_j5 call N k ⟨(T.set (T.set (T.set (T.set (T.set (T.set (T.set (T.set (T.set (T.set (T.set (T.set (T.set (T.set (T.set (T.set (T.set (T.set (T.set .leaf 0 t0) 6 t6) 8 t8) 12 v30) 29 t29) 30 t30) 31 t31) 49 t49) 50 t50) 51 t51) 57 v37) 58 t6) 59 t8) 60 v40) 61 v41) 62 v42) 63 v43) 64 v46) 6 v46), H47⟩ τ48) (s_headers_Sorted_j5 call N k ⟨(T.set (T.set (T.set (T.set (T.set (T.set (T.set (T.set (T.set (T.set (T.set .leaf 0 t0) 6 t6) 8 t8) 12 v30) 29 t29) 30 t30) 31 t31) 49 t49) 50 t50) 51 t51) 57 v37), H38⟩ τ39)) (k (.exit 4) ⟨(T.set (T.set (T.set (T.set (T.set .leaf 0 t0) 6 t6) 29 t29) 30 t30) 31 t31), H⟩ τ)
def s_headers_Sorted_l2 (call : CallK) (N : Nat) (st : St) (τ : Tape) (k : KC) : Ans := match st with
  | ⟨fr, H⟩ => getK fr 0 fun t0 => getK fr 6 fun t6 => getK fr 29 fun t29 => getK fr 30 fun t30 => getK fr 31 fun t31 => binK .lss t31 t30 fun v8 => condK v8 (someK (pSlIdx 1 [t29, t31]) fun v10 => someK (lLoad1 [v10] H) fun v11 => binK .neq v11 (.str (bs [115, 101, 116, 45, 99, 111, 111, 107, 105, 101])) fun v12 => condK v12 (call f_headers_Get [t0, v11] H τ fun v13 H14 τ15 => someK (pExtract 0 [v13]) fun v16 => someK (pExtract 1 [v13]) fun v17 => someK (pBuild [(.str []), (.str [])] [(0, 1), (1, 1)] [v11, v16]) fun v18 => effK (eBuildSlice 1 2 [(.str []), (.str [])] [(0, 2)] [v18] H14 τ15) fun v19 H20 τ21 => effK (eAppend 2 32 [t6, v19] H20 τ21) fun v22 H23 τ24 => s_headers_Sorted_j3 call N k ⟨(T.set (T.set (T.set (T.set (T.set .leaf 0 t0) 6 v22) 29 t29) 30 t30) 31 t31), H23⟩ τ24) (someK (pLen [t0]) fun v25 =>
    loopK (s_headers_Sorted_l4 call N) N ⟨(T.set (T.set (T.set (T.set (T.set (T.set (T.set (T.set (T.set .leaf 0 t0) 6 t6) 8 v11) 29 t29) 30 t30) 31 t31) 49 t0) 50 v25) 51 (.int .i64 (.ofNat 0))), H⟩ τ (blockK 4 (blockK 3 (seqK (s_headers_Sorted_j3 call N k) k))))) (k (.exit 2) ⟨(T.set .leaf 6 t6), H⟩ τ)
def s_headers_Sorted_j0 (call : CallK) (N : Nat) (q : KV) (st : St) (τ : Tape) : Ans := match st with
  | ⟨fr, H⟩ => getK fr 0 fun t0 => getK fr 3 fun t3 => call f_slices_Sort_string [t3] H τ fun v1 H2 τ3 => call f_slices_Compact_string [t3] H2 τ3 fun v4 H5 τ6 => someK (pLen [v4]) fun v7 => loopK (s_headers_Sorted_l2 call N) N ⟨(T.set (T.set (T.set (T.set (T.set .leaf 0 t0) 6 .nils) 29 v4) 30 v7) 31 (.int .i64 (.ofNat 0))), H5⟩ τ6 (blockK 2 (seqK (s_headers_Sorted_j1 call N q) (endK [(.t 2)] q)))
def s_headers_Sorted_l6 (call : CallK) (N : Nat) (st : St) (τ : Tape) (k : KC) : Ans := match st with
  | ⟨fr, H⟩ => getK fr 0 fun t0 => getK fr 3 fun t3 => getK fr 13 fun t13 => getK fr 14 fun t14 => getK fr 15 fun t15 => binK .lss t15 t14 fun v49 => condK v49 (someK (pSlIdx 2 [t13, t15]) fun v50 => someK (lLoadN 2 [v50] H) fun v51 => effK (eAlloc [(.str []), (.str [])] [] H τ) fun v52 H53 τ54 => effK (eStore 2 [v52, v51] H53 τ54) fun v55 H56 τ57 => someK (pFieldAddr 0 [v52]) fun v58 => someK (lLoad1 [v58] H56) fun v59 => call f_infra_Lower [v59] H56 τ57 fun v60 H61 τ62 => effK (eBuildSlice 1 1 [(.str [])] [(0, 1)] [v60] H61 τ62) fun v63 H64 τ65 => effK (eAppend 1 16 [t3, v63] H64 τ65) fun v66 H67 τ68 => binK .add t15 (.int .i64 (.ofNat 1)) fun v69 => k .normal ⟨(T.set (T.set (T.set (T.set (T.set (T.set (T.set .leaf 0 t0) 3 v66) 13 t13) 14 t14) 15 t15) 25 v69) 15 v69), H67⟩ τ68) (k (.exit 0) ⟨(T.set (T.set .leaf 0 t0) 3 t3), H⟩ τ)
def s_headers_Sorted (call : CallK) (N : Nat) (a0 : V) (H : Heap) (τ : Tape) (q : KV) : Ans := someK (pLen [a0]) fun v0 => loopK (s_headers_Sorted_l6 call N) N ⟨(T.set (T.set (T.set (T.set (T.set .leaf 0 a0) 3 .nils) 13 a0) 14 v0) 15 (.int .i64 (.ofNat 0))), H⟩ τ (blockK 0 (seqK (s_headers_Sorted_j0 call N q) (endK [(.t 2)] q)))
theorem s_headers_Sorted_eq (call : CallK) (N : Nat) (a0 : V) (H : Heap) (τ : Tape) (q : KV) : s_headers_Sorted call N a0 H τ q = funK call N fn_headers_Sorted [a0] H τ q := by kernel_rfl
def e_headers_Sorted (call : CallK) (N : Nat) (vs : List V) (H : Heap) (τ : Tape) (q : KV) : Ans := match vs with | [a0] => s_headers_Sorted call N a0 H τ q | _ => none
theorem e_headers_Sorted_ok : EntOk fn_headers_Sorted e_headers_Sorted := by
  intro call N vs H τ q r h
  unfold e_headers_Sorted at h
  split at h
  · rw [s_headers_Sorted_eq] at h; exact h
  · cases h
theorem e_headers_Sorted_nat : EntNat e_headers_Sorted := by
  intro c hn N vs H τ q
  unfold e_headers_Sorted
  split
  · rw [s_headers_Sorted_eq, s_headers_Sorted_eq]; exact funK_ent hn _ _ _ _ _ _
  · rfl
/-- ostiary/ostiaryref5.Sorted -/
def fn_ref5_Sorted : Fun := ⟨1, (.seq (.reg [iR 2 (.p .mv) [(.c .nils)]]) (.keep [0] (.seq (.reg [iR 3 (.p .mv) [(.c .nils)]]) (.keep [0, 3] (.seq (.seq (.reg [iR 4 (.p .mv) [(.c (.int .i64 (.ofNat 0)))]]) (.keep [0, 3, 4] (.block 0 (.loop (.keep [0, 3, 4] (.seq (.seq (.reg [iR 10 (.p .mv) [(.t 4)], iR 11 (.p .mv) [(.t 0)], iR 12 (.p .len) [(.t 11)], iR 13 (.p (.bin .lss)) [(.t 10), (.t 12)]]) (.keep [0, 3, 4, 13] (.cond (.t 13) .skip (.keep [0, 3] (.exit 0))))) (.keep [0, 3, 4] (.seq (.block 1 (.reg [iR 16 (.p .mv) [(.t 3)], iR 17 (.p .mv) [(.t 0)], iR 18 (.p .mv) [(.t 4)], iR 19 (.p (.slIdx 2)) [(.t 17), (.t 18)], iR 20 (.p (.fieldAddr 0)) [(.t 19)], iR 21 (.l (.load none)) [(.t 20)], iR 22 (.call 51) [(.t 21)], iR 23 (.e (.buildSlice 1 1 [(.str [])] [(0, 1)])) [(.t 22)], iR 24 (.e (.append 1 16)) [(.t 16), (.t 23)], iR 3 (.p .mv) [(.t 24)]]))
    (.keep [0, 3, 4] (.reg [iR 14 (.p .mv) [(.t 4)], iR 15 (.p (.bin .add)) [(.t 14), (.c (.int .i64 (.ofNat 1)))], iR 4 (.p .mv) [(.t 15)]])))))))))) (.keep [0, 3] (.seq (.reg [iR 25 (.p .mv) [(.t 3)], iR 26 (.call 52) [(.t 25)], iR 3 (.p .mv) [(.t 26)]]) (.keep [0, 3] (.seq (.reg [iR 5 (.p .mv) [(.c .nils)]]) (.keep [0, 3, 5] (.seq (.seq (.reg [iR 6 (.p .mv) [(.c (.int .i64 (.ofNat 0)))]]) (.keep [0, 3, 5, 6] (.block 2 (.loop (.keep [0, 3, 5, 6] (.seq (.seq (.reg [iR 27 (.p .mv) [(.t 6)], iR 28 (.p .mv) [(.t 3)], iR 29 (.p .len) [(.t 28)], iR 30 (.p (.bin .lss)) [(.t 27), (.t 29)]]) (.keep [0, 3, 5, 6, 30] (.cond (.t 30) .skip (.keep [5] (.exit 2))))) (.keep [0, 3, 5, 6] (.seq (.block 3 (.seq (.seq (.reg [iR 33 (.p .mv) [(.t 3)], iR 34 (.p .mv) [(.t 6)], iR 35 (.p (.slIdx 1)) [(.t 33), (.t 34)], iR 36 (.l (.load none)) [(.t 35)],
    iR 37 (.p (.bin .neq)) [(.t 36), (.c (.str (bs [115, 101, 116, 45, 99, 111, 111, 107, 105, 101])))]]) (.keep [0, 3, 5, 6, 37] (.cond (.t 37) (.seq (.reg [iR 39 (.p .mv) [(.t 0)], iR 40 (.p .mv) [(.t 3)], iR 41 (.p .mv) [(.t 6)], iR 42 (.p (.slIdx 1)) [(.t 40), (.t 41)], iR 43 (.l (.load none)) [(.t 42)], iR 44 (.call 12) [(.t 39), (.t 43)], iR 38 (.p .mv) [(.t 44)], iR 45 (.p (.extract 0)) [(.t 38)], iR 46 (.p (.extract 1)) [(.t 38)], iR 7 (.p .mv) [(.t 45)], iR 8 (.p .mv) [(.t 46)]]) (.keep [0, 3, 5, 6, 7] (.seq (.reg [iR 47 (.p .mv) [(.t 5)], iR 48 (.p .mv) [(.t 3)], iR 49 (.p .mv) [(.t 6)], iR 50 (.p (.slIdx 1)) [(.t 48), (.t 49)], iR 51 (.l (.load none)) [(.t 50)], iR 52 (.p .mv) [(.t 7)], iR 53 (.p (.build [(.str []), (.str [])] [(0, 1), (1, 1)])) [(.t 51), (.t 52)], iR 54 (.e (.buildSlice 1 2 [(.str []), (.str [])] [(0, 2)])) [(.t 53)],
    iR 55 (.e (.append 2 32)) [(.t 47), (.t 54)], iR 5 (.p .mv) [(.t 55)]]) (.keep [0, 3, 5, 6] (.keep [0, 3, 5, 6] (.exit 3)))))) .skip))) (.keep [0, 3, 5, 6] (.seq (.reg [iR 9 (.p .mv) [(.c (.int .i64 (.ofNat 0)))]]) (.keep [0, 3, 5, 6, 9] (.block 4 (.loop (.keep [0, 3, 5, 6, 9] (.seq (.seq (.reg [iR 56 (.p .mv) [(.t 9)], iR 57 (.p .mv) [(.t 0)], iR 58 (.p .len) [(.t 57)], iR 59 (.p (.bin .lss)) [(.t 56), (.t 58)]]) (.keep [0, 3, 5, 6, 9, 59] (.cond (.t 59) .skip (.keep [0, 3, 5, 6] (.exit 4))))) (.keep [0, 3, 5, 6, 9] (.seq (.block 5 (.seq (.draw [iR 62 (.p .mv) [(.t 0)], iR 63 (.p .mv) [(.t 9)], iR 64 (.p (.slIdx 2)) [(.t 62), (.t 63)], iR 65 (.l (.load (some 2))) [(.t 64)], iR 66 (.p .mv) [(.t 3)], iR 67 (.p .mv) [(.t 6)], iR 68 (.p (.slIdx 1)) [(.t 66), (.t 67)], iR 69 (.l (.load none)) [(.t 68)], iR 70 (.call 41) [(.t 65), (.t 69)]])
    (.keep [0, 3, 5, 6, 9, 70] (.cond (.t 70) (.draw [iR 71 (.p .mv) [(.t 5)], iR 72 (.p .mv) [(.t 3)], iR 73 (.p .mv) [(.t 6)], iR 74 (.p (.slIdx 1)) [(.t 72), (.t 73)], iR 75 (.l (.load none)) [(.t 74)], iR 76 (.p .mv) [(.t 0)], iR 77 (.p .mv) [(.t 9)], iR 78 (.p (.slIdx 2)) [(.t 76), (.t 77)], iR 79 (.p (.fieldAddr 1)) [(.t 78)], iR 80 (.l (.load none)) [(.t 79)], iR 81 (.p (.build [(.str []), (.str [])] [(0, 1), (1, 1)])) [(.t 75), (.t 80)], iR 82 (.e (.buildSlice 1 2 [(.str []), (.str [])] [(0, 2)])) [(.t 81)], iR 83 (.e (.append 2 32)) [(.t 71), (.t 82)], iR 5 (.p .mv) [(.t 83)]]) .skip)))) (.keep [0, 3, 5, 6, 9] (.reg [iR 60 (.p .mv) [(.t 9)], iR 61 (.p (.bin .add)) [(.t 60), (.c (.int .i64 (.ofNat 1)))], iR 9 (.p .mv) [(.t 61)]]))))))))))))) (.keep [0, 3, 5, 6] (.reg [iR 31 (.p .mv) [(.t 6)], iR 32 (.p (.bin .add)) [(.t 31), (.c (.int .i64 (.ofNat 1)))],
    iR 6 (.p .mv) [(.t 32)]])))))))))) (.keep [5] (.seq (.reg [iR 84 (.p .mv) [(.t 5)], iR 2 (.p .mv) [(.t 84)]]) (.keep [2] (.keep [2] .ret))))))))))))))), [(.t 2)]⟩
def s_ref5_Sorted_j1 (call : CallK) (N : Nat) (q : KV) (st : St) (τ : Tape) : Ans := match st with
  | ⟨fr, H⟩ => getK fr 5 fun t5 => q t5 H τ
def s_ref5_Sorted_j3 (call : CallK) (N : Nat) (k : KC) (st : St) (τ : Tape) : Ans := match st with
  | ⟨fr, H⟩ => getK fr 0 fun t0 => getK fr 3 fun t3 => getK fr 5 fun t5 => getK fr 6 fun t6 => binK .add t6 (.int .i64 (.ofNat 1)) fun v5 => k .normal ⟨(T.set (T.set (T.set (T.set (T.set (T.set (T.set .leaf 0 t0) 3 t3) 5 t5) 6 t6) 31 t6) 32 v5) 6 v5), H⟩ τ
def s_ref5_Sorted_j5 (call : CallK) (N : Nat) (k : KC) (st : St) (τ : Tape) : Ans := match st with
  | ⟨fr, H⟩ => getK fr 0 fun t0 => getK fr 3 fun t3 => getK fr 5 fun t5 => getK fr 6 fun t6 => getK fr 9 fun t9 => binK .add t9 (.int .i64 (.ofNat 1)) fun v27 => k .normal ⟨(T.set (T.set (T.set (T.set (T.set (T.set (T.set (T.set .leaf 0 t0) 3 t3) 5 t5) 6 t6) 9 t9) 60 t9) 61 v27) 9 v27), H⟩ τ
def s_ref5_Sorted_l4 (call : CallK) (N : Nat) (st : St) (τ : Tape) (k : KC) : Ans := match st with
  | ⟨fr, H⟩ => getK fr 0 fun t0 => getK fr 3 fun t3 => getK fr 5 fun t5 => getK fr 6 fun t6 => getK fr 9 fun t9 => someK (pLen [t0]) fun v25 => binK .lss t9 v25 fun v26 => condK v26 (someK (pSlIdx 2 [t0, t9]) fun v28 => someK (lLoadN 2 [v28] H) fun v29 => someK (pSlIdx 1 [t3, t6]) fun v30 => someK (lLoad1 [v30] H) fun v31 => call f_ref5_Named [v29, v31] H τ fun v32 H33 τ34 => condK v32 (someK (pSlIdx 1 [t3, t6]) fun v35 => someK (lLoad1 [v35] H33) fun v36 => someK (pSlIdx 2 [t0, t9]) fun v37 => someK (pFieldAddr 1 [v37]) fun v38 => someK (lLoad1 [v38] H33) fun v39 => someK (pBuild [(.str []), (.str [])] [(0, 1), (1, 1)] [v36, v39]) fun v40 => effK (eBuildSlice 1 2 [(.str []), (.str [])] [(0, 2)] [v40] H33 τ34) fun v41 H42 τ43 => effK (eAppend 2 32 [t5, v41] H42 τ43) fun v44 H45 τ46 =>
    s_ref5_Sorted_j5 call N k ⟨(T.set (T.set (T.set (T.set (T.set (T.set (T.set (T.set (T.set (T.set (T.set (T.set (T.set (T.set (T.set (T.set (T.set (T.set (T.set (T.set .leaf 0 t0) 3 t3) 5 t5) 6 t6) 9 t9) 70 v32) 71 t5) 72 t3) 73 t6) 74 v35) 75 v36) 76 t0) 77 t9) 78 v37) 79 v38) 80 v39) 81 v40) 82 v41) 83 v44) 5 v44), H45⟩ τ46) (s_ref5_Sorted_j5 call N k ⟨(T.set (T.set (T.set (T.set (T.set (T.set .leaf 0 t0) 3 t3) 5 t5) 6 t6) 9 t9) 70 v32), H33⟩ τ34)) (k (.exit 4) ⟨(T.set (T.set (T.set (T.set .leaf 0 t0) 3 t3) 5 t5) 6 t6), H⟩ τ)
def s_ref5_Sorted_l2 (call : CallK) (N : Nat) (st : St) (τ : Tape) (k : KC) : Ans := match st with
  | ⟨fr, H⟩ => getK fr 0 fun t0 => getK fr 3 fun t3 => getK fr 5 fun t5 => getK fr 6 fun t6 => someK (pLen [t3]) fun v3 => binK .lss t6 v3 fun v4 => condK v4 (someK (pSlIdx 1 [t3, t6]) fun v6 => someK (lLoad1 [v6] H) fun v7 => binK .neq v7 (.str (bs [115, 101, 116, 45, 99, 111, 111, 107, 105, 101])) fun v8 => condK v8 (someK (pSlIdx 1 [t3, t6]) fun v9 => someK (lLoad1 [v9] H) fun v10 => call f_ref5_Get [t0, v10] H τ fun v11 H12 τ13 => someK (pExtract 0 [v11]) fun v14 => someK (pExtract 1 [v11]) fun v15 => someK (pSlIdx 1 [t3, t6]) fun v16 => someK (lLoad1 [v16] H12) fun v17 => someK (pBuild [(.str []), (.str [])] [(0, 1), (1, 1)] [v17, v14]) fun v18 => effK (eBuildSlice 1 2 [(.str []), (.str [])] [(0, 2)] [v18] H12 τ13) fun v19 H20 τ21 => effK (eAppend 2 32 [t5, v19] H20 τ21) fun v22 H23 τ24 =>
    s_ref5_Sorted_j3 call N k ⟨(T.set (T.set (T.set (T.set .leaf 0 t0) 3 t3) 5 v22) 6 t6), H23⟩ τ24) (loopK (s_ref5_Sorted_l4 call N) N ⟨(T.set (T.set (T.set (T.set (T.set .leaf 0 t0) 3 t3) 5 t5) 6 t6) 9 (.int .i64 (.ofNat 0))), H⟩ τ (blockK 4 (blockK 3 (seqK (s_ref5_Sorted_j3 call N k) k))))) (k (.exit 2) ⟨(T.set .leaf 5 t5), H⟩ τ)
def s_ref5_Sorted_j0 (call : CallK) (N : Nat) (q : KV) (st : St) (τ : Tape) : Ans := match st with
  | ⟨fr, H⟩ => getK fr 0 fun t0 => getK fr 3 fun t3 => call f_ref1_Sorted [t3] H τ fun v0 H1 τ2 => loopK (s_ref5_Sorted_l2 call N) N ⟨(T.set (T.set (T.set (T.set .leaf 0 t0) 3 v0) 5 .nils) 6 (.int .i64 (.ofNat 0))), H1⟩ τ2 (blockK 2 (seqK (s_ref5_Sorted_j1 call N q) (endK [(.t 2)] q)))
def s_ref5_Sorted_l6 (call : CallK) (N : Nat) (st : St) (τ : Tape) (k : KC) : Ans := match st with
  | ⟨fr, H⟩ => getK fr 0 fun t0 => getK fr 3 fun t3 => getK fr 4 fun t4 => someK (pLen [t0]) fun v47 => binK .lss t4 v47 fun v48 => condK v48 (someK (pSlIdx 2 [t0, t4]) fun v49 => someK (pFieldAddr 0 [v49]) fun v50 => someK (lLoad1 [v50] H) fun v51 => call f_ref1_Lower [v51] H τ fun v52 H53 τ54 => effK (eBuildSlice 1 1 [(.str [])] [(0, 1)] [v52] H53 τ54) fun v55 H56 τ57 => effK (eAppend 1 16 [t3, v55] H56 τ57) fun v58 H59 τ60 => binK .add t4 (.int .i64 (.ofNat 1)) fun v61 => k .normal ⟨(T.set (T.set (T.set (T.set (T.set (T.set .leaf 0 t0) 3 v58) 4 t4) 14 t4) 15 v61) 4 v61), H59⟩ τ60) (k (.exit 0) ⟨(T.set (T.set .leaf 0 t0) 3 t3), H⟩ τ)
def s_ref5_Sorted (call : CallK) (N : Nat) (a0 : V) (H : Heap) (τ : Tape) (q : KV) : Ans := loopK (s_ref5_Sorted_l6 call N) N ⟨(T.set (T.set (T.set .leaf 0 a0) 3 .nils) 4 (.int .i64 (.ofNat 0))), H⟩ τ (blockK 0 (seqK (s_ref5_Sorted_j0 call N q) (endK [(.t 2)] q)))
theorem s_ref5_Sorted_eq (call : CallK) (N : Nat) (a0 : V) (H : Heap) (τ : Tape) (q : KV) : s_ref5_Sorted call N a0 H τ q = funK call N fn_ref5_Sorted [a0] H τ q := by kernel_rfl
def e_ref5_Sorted (call : CallK) (N : Nat) (vs : List V) (H : Heap) (τ : Tape) (q : KV) : Ans := match vs with | [a0] => s_ref5_Sorted call N a0 H τ q | _ => none
theorem e_ref5_Sorted_ok : EntOk fn_ref5_Sorted e_ref5_Sorted := by
  intro call N vs H τ q r h
  unfold e_ref5_Sorted at h
  split at h
  · rw [s_ref5_Sorted_eq] at h; exact h
  · cases h
theorem e_ref5_Sorted_nat : EntNat e_ref5_Sorted := by
  intro c hn N vs H τ q
  unfold e_ref5_Sorted
  split
  · rw [s_ref5_Sorted_eq, s_ref5_Sorted_eq]; exact funK_ent hn _ _ _ _ _ _
  · rfl
/-- ostiary/headers.Forbidden -/
def fn_headers_Forbidden : Fun := ⟨1, (.seq (.reg [iR 2 (.p .mv) [(.c (.bool false))]]) (.keep [0] (.seq (.reg [iR 3 (.p .mv) [(.t 0)], iR 4 (.call 48) [(.t 3)], iR 0 (.p .mv) [(.t 4)]]) (.keep [0] (.seq (.seq (.reg [iR 5 (.p .mv) [(.t 0)]]) (.keep [0, 5] (.block 0 (.seq (.seq (.reg [iR 7 (.p (.bin .eql)) [(.t 5), (.c (.str (bs [104, 111, 115, 116])))], iR 6 (.p .mv) [(.t 7)]]) (.keep [0, 5, 6] (.cond (.t 6) .skip (.seq (.reg [iR 8 (.p (.bin .eql)) [(.t 5), (.c (.str (bs [99, 111, 111, 107, 105, 101])))], iR 6 (.p .mv) [(.t 8)]]) (.keep [0, 5, 6] (.cond (.t 6) .skip (.seq (.reg [iR 9 (.p (.bin .eql)) [(.t 5), (.c (.str (bs [111, 114, 105, 103, 105, 110])))], iR 6 (.p .mv) [(.t 9)]]) (.keep [0, 5, 6] (.cond (.t 6) .skip (.seq (.reg [iR 10 (.p (.bin .eql)) [(.t 5), (.c (.str (bs [114, 101, 102, 101, 114, 101, 114])))], iR 6 (.p .mv) [(.t 10)]]) (.keep [0, 5, 6] (.cond (.t 6) .skip
    (.seq (.reg [iR 11 (.p (.bin .eql)) [(.t 5), (.c (.str (bs [99, 111, 110, 116, 101, 110, 116, 45, 108, 101, 110, 103, 116, 104])))], iR 6 (.p .mv) [(.t 11)]]) (.keep [0, 5, 6] (.cond (.t 6) .skip (.seq (.reg [iR 12 (.p (.bin .eql)) [(.t 5), (.c (.str (bs [99, 111, 110, 110, 101, 99, 116, 105, 111, 110])))], iR 6 (.p .mv) [(.t 12)]]) (.keep [0, 5, 6] (.cond (.t 6) .skip (.seq (.reg [iR 13 (.p (.bin .eql)) [(.t 5), (.c (.str (bs [100, 97, 116, 101])))], iR 6 (.p .mv) [(.t 13)]]) (.keep [0, 5, 6] (.cond (.t 6) .skip (.seq (.reg [iR 14 (.p (.bin .eql)) [(.t 5), (.c (.str (bs [118, 105, 97])))], iR 6 (.p .mv) [(.t 14)]]) (.keep [0, 5, 6] (.cond (.t 6) .skip (.seq (.reg [iR 15 (.p (.bin .eql)) [(.t 5), (.c (.str (bs [116, 101])))], iR 6 (.p .mv) [(.t 15)]]) (.keep [0, 5, 6] (.cond (.t 6) .skip
    (.seq (.reg [iR 16 (.p (.bin .eql)) [(.t 5), (.c (.str (bs [117, 112, 103, 114, 97, 100, 101])))], iR 6 (.p .mv) [(.t 16)]]) (.keep [0, 5, 6] (.cond (.t 6) .skip (.seq (.reg [iR 17 (.p (.bin .eql)) [(.t 5), (.c (.str (bs [101, 120, 112, 101, 99, 116])))], iR 6 (.p .mv) [(.t 17)]]) (.keep [0, 5, 6] (.cond (.t 6) .skip (.seq (.reg [iR 18 (.p (.bin .eql)) [(.t 5), (.c (.str (bs [100, 110, 116])))], iR 6 (.p .mv) [(.t 18)]]) (.keep [0, 5, 6] (.cond (.t 6) .skip (.seq (.reg [iR 19 (.p (.bin .eql)) [(.t 5), (.c (.str (bs [97, 99, 99, 101, 112, 116, 45, 99, 104, 97, 114, 115, 101, 116])))], iR 6 (.p .mv) [(.t 19)]]) (.keep [0, 5, 6] (.cond (.t 6) .skip (.seq (.reg [iR 20 (.p (.bin .eql)) [(.t 5), (.c (.str (bs [97, 99, 99, 101, 112, 116, 45, 101, 110, 99, 111, 100, 105, 110, 103])))], iR 6 (.p .mv) [(.t 20)]]) (.keep [0, 5, 6] (.cond (.t 6) .skip
    (.seq (.reg [iR 21 (.p (.bin .eql)) [(.t 5), (.c (.str (bs [97, 99, 99, 101, 115, 115, 45, 99, 111, 110, 116, 114, 111, 108, 45, 114, 101, 113, 117, 101, 115, 116, 45, 104, 101, 97, 100, 101, 114, 115])))], iR 6 (.p .mv) [(.t 21)]]) (.keep [0, 5, 6] (.cond (.t 6) .skip (.seq (.reg [iR 22 (.p (.bin .eql)) [(.t 5), (.c (.str (bs [97, 99, 99, 101, 115, 115, 45, 99, 111, 110, 116, 114, 111, 108, 45, 114, 101, 113, 117, 101, 115, 116, 45, 109, 101, 116, 104, 111, 100])))], iR 6 (.p .mv) [(.t 22)]]) (.keep [0, 5, 6] (.cond (.t 6) .skip (.seq (.reg [iR 23 (.p (.bin .eql)) [(.t 5), (.c (.str (bs [107, 101, 101, 112, 45, 97, 108, 105, 118, 101])))], iR 6 (.p .mv) [(.t 23)]]) (.keep [0, 5, 6] (.cond (.t 6) .skip (.seq (.reg [iR 24 (.p (.bin .eql)) [(.t 5), (.c (.str (bs [116, 114, 97, 105, 108, 101, 114])))], iR 6 (.p .mv) [(.t 24)]]) (.keep [0, 5, 6] (.cond (.t 6) .skip
    (.reg [iR 25 (.p (.bin .eql)) [(.t 5), (.c (.str (bs [116, 114, 97, 110, 115, 102, 101, 114, 45, 101, 110, 99, 111, 100, 105, 110, 103])))], iR 6 (.p .mv) [(.t 25)]]))))))))))))))))))))))))))))))))))))))))))))))))))))))) (.keep [0, 6] (.cond (.t 6) (.seq (.reg [iR 2 (.p .mv) [(.c (.bool true))]]) (.keep [2] (.keep [2] .ret))) .skip)))))) (.keep [0] (.seq (.reg [iR 26 (.p .mv) [(.t 0)], iR 27 (.call 53) [(.t 26), (.c (.str (bs [112, 114, 111, 120, 121, 45])))], iR 28 (.p .mv) [(.t 27)], iG 29 28 false (.p .mv) [(.t 0)], iG 30 28 false (.call 53) [(.t 29), (.c (.str (bs [115, 101, 99, 45])))], iR 31 (.p .pick) [(.t 28), (.c (.bool true)), (.t 30)], iR 2 (.p .mv) [(.t 31)]]) (.keep [2] (.keep [2] .ret))))))))), [(.t 2)]⟩
def s_headers_Forbidden_j0 (call : CallK) (N : Nat) (q : KV) (st : St) (τ : Tape) : Ans := match st with
  | ⟨fr, H⟩ => getK fr 0 fun t0 => call f_strings_HasPrefix [t0, (.str (bs [112, 114, 111, 120, 121, 45]))] H τ fun v4 H5 τ6 => gK v4 false (fun q' => q' t0 H5 τ6) H5 τ6 fun v7 H8 τ9 => gK v4 false (fun q' => call f_strings_HasPrefix [v7, (.str (bs [115, 101, 99, 45]))] H8 τ9 q') H8 τ9 fun v10 H11 τ12 => someK (pPick [v4, (.bool true), v10]) fun v13 => q v13 H11 τ12
def s_headers_Forbidden_j1 (call : CallK) (N : Nat) (q : KV) (st : St) (τ : Tape) : Ans := match st with
  | ⟨fr, H⟩ => getK fr 0 fun t0 => getK fr 6 fun t6 => condK t6 (q (.bool true) H τ) (s_headers_Forbidden_j0 call N q ⟨(T.set (T.set .leaf 0 t0) 6 t6), H⟩ τ)
def s_headers_Forbidden (call : CallK) (N : Nat) (a0 : V) (H : Heap) (τ : Tape) (q : KV) : Ans := call f_infra_Lower [a0] H τ fun v0 H1 τ2 => binK .eql v0 (.str (bs [104, 111, 115, 116])) fun v3 => condK v3 (s_headers_Forbidden_j1 call N q ⟨(T.set (T.set (T.set .leaf 0 v0) 5 v0) 6 v3), H1⟩ τ2) (binK .eql v0 (.str (bs [99, 111, 111, 107, 105, 101])) fun v14 => condK v14 (s_headers_Forbidden_j1 call N q ⟨(T.set (T.set (T.set .leaf 0 v0) 5 v0) 6 v14), H1⟩ τ2) (binK .eql v0 (.str (bs [111, 114, 105, 103, 105, 110])) fun v15 => condK v15 (s_headers_Forbidden_j1 call N q ⟨(T.set (T.set (T.set .leaf 0 v0) 5 v0) 6 v15), H1⟩ τ2) (binK .eql v0 (.str (bs [114, 101, 102, 101, 114, 101, 114])) fun v16 => condK v16 (s_headers_Forbidden_j1 call N q ⟨(T.set (T.set (T.set .leaf 0 v0) 5 v0) 6 v16), H1⟩ τ2)
    (binK .eql v0 (.str (bs [99, 111, 110, 116, 101, 110, 116, 45, 108, 101, 110, 103, 116, 104])) fun v17 => condK v17 (s_headers_Forbidden_j1 call N q ⟨(T.set (T.set (T.set .leaf 0 v0) 5 v0) 6 v17), H1⟩ τ2) (binK .eql v0 (.str (bs [99, 111, 110, 110, 101, 99, 116, 105, 111, 110])) fun v18 => condK v18 (s_headers_Forbidden_j1 call N q ⟨(T.set (T.set (T.set .leaf 0 v0) 5 v0) 6 v18), H1⟩ τ2) (binK .eql v0 (.str (bs [100, 97, 116, 101])) fun v19 => condK v19 (s_headers_Forbidden_j1 call N q ⟨(T.set (T.set (T.set .leaf 0 v0) 5 v0) 6 v19), H1⟩ τ2) (binK .eql v0 (.str (bs [118, 105, 97])) fun v20 => condK v20 (s_headers_Forbidden_j1 call N q ⟨(T.set (T.set (T.set .leaf 0 v0) 5 v0) 6 v20), H1⟩ τ2) (binK .eql v0 (.str (bs [116, 101])) fun v21 => condK v21 (s_headers_Forbidden_j1 call N q ⟨(T.set (T.set (T.set .leaf 0 v0) 5 v0) 6 v21), H1⟩ τ2)
    (binK .eql v0 (.str (bs [117, 112, 103, 114, 97, 100, 101])) fun v22 => condK v22 (s_headers_Forbidden_j1 call N q ⟨(T.set (T.set (T.set .leaf 0 v0) 5 v0) 6 v22), H1⟩ τ2) (binK .eql v0 (.str (bs [101, 120, 112, 101, 99, 116])) fun v23 => condK v23 (s_headers_Forbidden_j1 call N q ⟨(T.set (T.set (T.set .leaf 0 v0) 5 v0) 6 v23), H1⟩ τ2) (binK .eql v0 (.str (bs [100, 110, 116])) fun v24 => condK v24 (s_headers_Forbidden_j1 call N q ⟨(T.set (T.set (T.set .leaf 0 v0) 5 v0) 6 v24), H1⟩ τ2) (binK .eql v0 (.str (bs [97, 99, 99, 101, 112, 116, 45, 99, 104, 97, 114, 115, 101, 116])) fun v25 => condK v25 (s_headers_Forbidden_j1 call N q ⟨(T.set (T.set (T.set .leaf 0 v0) 5 v0) 6 v25), H1⟩ τ2) (binK .eql v0 (.str (bs [97, 99, 99, 101, 112, 116, 45, 101, 110, 99, 111, 100, 105, 110, 103])) fun v26 => condK v26
    (s_headers_Forbidden_j1 call N q ⟨(T.set (T.set (T.set .leaf 0 v0) 5 v0) 6 v26), H1⟩ τ2) (binK .eql v0 (.str (bs [97, 99, 99, 101, 115, 115, 45, 99, 111, 110, 116, 114, 111, 108, 45, 114, 101, 113, 117, 101, 115, 116, 45, 104, 101, 97, 100, 101, 114, 115])) fun v27 => condK v27 (s_headers_Forbidden_j1 call N q ⟨(T.set (T.set (T.set .leaf 0 v0) 5 v0) 6 v27), H1⟩ τ2) (binK .eql v0 (.str (bs [97, 99, 99, 101, 115, 115, 45, 99, 111, 110, 116, 114, 111, 108, 45, 114, 101, 113, 117, 101, 115, 116, 45, 109, 101, 116, 104, 111, 100])) fun v28 => condK v28 (s_headers_Forbidden_j1 call N q ⟨(T.set (T.set (T.set .leaf 0 v0) 5 v0) 6 v28), H1⟩ τ2) (binK .eql v0 (.str (bs [107, 101, 101, 112, 45, 97, 108, 105, 118, 101])) fun v29 => condK v29 (s_headers_Forbidden_j1 call N q ⟨(T.set (T.set (T.set .leaf 0 v0) 5 v0) 6 v29), H1⟩ τ2)
    (binK .eql v0 (.str (bs [116, 114, 97, 105, 108, 101, 114])) fun v30 => condK v30 (s_headers_Forbidden_j1 call N q ⟨(T.set (T.set (T.set .leaf 0 v0) 5 v0) 6 v30), H1⟩ τ2) (binK .eql v0 (.str (bs [116, 114, 97, 110, 115, 102, 101, 114, 45, 101, 110, 99, 111, 100, 105, 110, 103])) fun v31 => s_headers_Forbidden_j1 call N q ⟨(T.set (T.set (T.set (T.set (T.set .leaf 0 v0) 5 v0) 6 v30) 25 v31) 6 v31), H1⟩ τ2))))))))))))))))))
theorem s_headers_Forbidden_eq (call : CallK) (N : Nat) (a0 : V) (H : Heap) (τ : Tape) (q : KV) : s_headers_Forbidden call N a0 H τ q = funK call N fn_headers_Forbidden [a0] H τ q := by kernel_rfl
def e_headers_Forbidden (call : CallK) (N : Nat) (vs : List V) (H : Heap) (τ : Tape) (q : KV) : Ans := match vs with | [a0] => s_headers_Forbidden call N a0 H τ q | _ => none
theorem e_headers_Forbidden_ok : EntOk fn_headers_Forbidden e_headers_Forbidden := by
  intro call N vs H τ q r h
  unfold e_headers_Forbidden at h
  split at h
  · rw [s_headers_Forbidden_eq] at h; exact h
  · cases h
theorem e_headers_Forbidden_nat : EntNat e_headers_Forbidden := by
  intro c hn N vs H τ q
  unfold e_headers_Forbidden
  split
  · rw [s_headers_Forbidden_eq, s_headers_Forbidden_eq]; exact funK_ent hn _ _ _ _ _ _
  · rfl
/-- ostiary/ostiaryref5.Forbidden -/
def fn_ref5_Forbidden : Fun := ⟨1, (.seq (.reg [iR 2 (.p .mv) [(.c (.bool false))]]) (.keep [0] (.seq (.reg [iR 4 (.p .mv) [(.t 0)], iR 5 (.call 51) [(.t 4)], iR 0 (.p .mv) [(.t 5)]])
    (.keep [0] (.seq (.reg [iR 6 (.e (.buildSlice 19 1 (repl 19 [(.str [])]) [(0, 1), (1, 1), (2, 1), (3, 1), (4, 1), (5, 1), (6, 1), (7, 1), (8, 1), (9, 1), (10, 1), (11, 1), (12, 1), (13, 1), (14, 1), (15, 1), (16, 1), (17, 1), (18, 1)])) [(.c (.str (bs [104, 111, 115, 116]))), (.c (.str (bs [99, 111, 111, 107, 105, 101]))), (.c (.str (bs [111, 114, 105, 103, 105, 110]))), (.c (.str (bs [114, 101, 102, 101, 114, 101, 114]))), (.c (.str (bs [99, 111, 110, 116, 101, 110, 116, 45, 108, 101, 110, 103, 116, 104]))), (.c (.str (bs [99, 111, 110, 110, 101, 99, 116, 105, 111, 110]))), (.c (.str (bs [100, 97, 116, 101]))), (.c (.str (bs [118, 105, 97]))), (.c (.str (bs [116, 101]))), (.c (.str (bs [117, 112, 103, 114, 97, 100, 101]))), (.c (.str (bs [101, 120, 112, 101, 99, 116]))), (.c (.str (bs [100, 110, 116]))), (.c (.str (bs [97, 99, 99, 101, 112, 116, 45, 99, 104, 97, 114, 115, 101, 116]))), (.c (.str (bs [97, 99, 99, 101, 112, 116, 45, 101, 110, 99, 111, 100, 105, 110, 103]))), (.c (.str (bs [97, 99, 99, 101, 115, 115, 45, 99, 111, 110, 116, 114, 111, 108, 45, 114, 101, 113, 117, 101, 115, 116, 45, 104, 101, 97, 100, 101, 114, 115]))), (.c (.str (bs [97, 99, 99, 101, 115, 115, 45, 99, 111, 110, 116, 114, 111, 108, 45, 114, 101, 113, 117, 101, 115, 116, 45, 109, 101, 116, 104, 111, 100]))), (.c (.str (bs [107, 101, 101, 112, 45, 97, 108, 105, 118, 101]))), (.c (.str (bs [116, 114, 97, 105, 108, 101, 114]))), (.c (.str (bs [116, 114, 97, 110, 115, 102, 101, 114, 45, 101, 110, 99, 111, 100, 105, 110, 103])))],
    iR 3 (.p .mv) [(.t 6)]]) (.keep [0, 3] (.seq (.reg [iR 7 (.p .mv) [(.t 3)], iR 8 (.p .mv) [(.t 0)], iR 9 (.call 54) [(.t 7), (.t 8)], iR 10 (.p .mv) [(.t 9)], iG 11 10 false (.p .mv) [(.t 0)], iG 12 10 false (.call 45) [(.t 11), (.c (.str (bs [112, 114, 111, 120, 121, 45])))], iR 13 (.p .pick) [(.t 10), (.c (.bool true)), (.t 12)], iR 14 (.p .mv) [(.t 13)], iG 15 14 false (.p .mv) [(.t 0)], iG 16 14 false (.call 45) [(.t 15), (.c (.str (bs [115, 101, 99, 45])))], iR 17 (.p .pick) [(.t 14), (.c (.bool true)), (.t 16)], iR 2 (.p .mv) [(.t 17)]]) (.keep [2] (.keep [2] .ret))))))))), [(.t 2)]⟩
def s_ref5_Forbidden (call : CallK) (N : Nat) (a0 : V) (H : Heap) (τ : Tape) (q : KV) : Ans := call f_ref1_Lower [a0] H τ fun v0 H1 τ2 =>
    effK (eBuildSlice 19 1 (repl 19 [(.str [])]) [(0, 1), (1, 1), (2, 1), (3, 1), (4, 1), (5, 1), (6, 1), (7, 1), (8, 1), (9, 1), (10, 1), (11, 1), (12, 1), (13, 1), (14, 1), (15, 1), (16, 1), (17, 1), (18, 1)] [(.str (bs [104, 111, 115, 116])), (.str (bs [99, 111, 111, 107, 105, 101])), (.str (bs [111, 114, 105, 103, 105, 110])), (.str (bs [114, 101, 102, 101, 114, 101, 114])), (.str (bs [99, 111, 110, 116, 101, 110, 116, 45, 108, 101, 110, 103, 116, 104])), (.str (bs [99, 111, 110, 110, 101, 99, 116, 105, 111, 110])), (.str (bs [100, 97, 116, 101])), (.str (bs [118, 105, 97])), (.str (bs [116, 101])), (.str (bs [117, 112, 103, 114, 97, 100, 101])), (.str (bs [101, 120, 112, 101, 99, 116])), (.str (bs [100, 110, 116])), (.str (bs [97, 99, 99, 101, 112, 116, 45, 99, 104, 97, 114, 115, 101, 116])), (.str (bs [97, 99, 99, 101, 112, 116, 45, 101, 110, 99, 111, 100, 105, 110, 103])), (.str (bs [97, 99, 99, 101, 115, 115, 45, 99, 111, 110, 116, 114, 111, 108, 45, 114, 101, 113, 117, 101, 115, 116, 45, 104, 101, 97, 100, 101, 114, 115])), (.str (bs [97, 99, 99, 101, 115, 115, 45, 99, 111, 110, 116, 114, 111, 108, 45, 114, 101, 113, 117, 101, 115, 116, 45, 109, 101, 116, 104, 111, 100])), (.str (bs [107, 101, 101, 112, 45, 97, 108, 105, 118, 101])), (.str (bs [116, 114, 97, 105, 108, 101, 114])), (.str (bs [116, 114, 97, 110, 115, 102, 101, 114, 45, 101, 110, 99, 111, 100, 105, 110, 103]))] H1 τ2) fun v3 H4 τ5 =>
    call f_ref1_Has [v3, v0] H4 τ5 fun v6 H7 τ8 => gK v6 false (fun q' => q' v0 H7 τ8) H7 τ8 fun v9 H10 τ11 => gK v6 false (fun q' => call f_ref1_Begins [v9, (.str (bs [112, 114, 111, 120, 121, 45]))] H10 τ11 q') H10 τ11 fun v12 H13 τ14 => someK (pPick [v6, (.bool true), v12]) fun v15 => gK v15 false (fun q' => q' v0 H13 τ14) H13 τ14 fun v16 H17 τ18 => gK v15 false (fun q' => call f_ref1_Begins [v16, (.str (bs [115, 101, 99, 45]))] H17 τ18 q') H17 τ18 fun v19 H20 τ21 => someK (pPick [v15, (.bool true), v19]) fun v22 => q v22 H20 τ21
theorem s_ref5_Forbidden_eq (call : CallK) (N : Nat) (a0 : V) (H : Heap) (τ : Tape) (q : KV) : s_ref5_Forbidden call N a0 H τ q = funK call N fn_ref5_Forbidden [a0] H τ q := by kernel_rfl
def e_ref5_Forbidden (call : CallK) (N : Nat) (vs : List V) (H : Heap) (τ : Tape) (q : KV) : Ans := match vs with | [a0] => s_ref5_Forbidden call N a0 H τ q | _ => none
theorem e_ref5_Forbidden_ok : EntOk fn_ref5_Forbidden e_ref5_Forbidden := by
  intro call N vs H τ q r h
  unfold e_ref5_Forbidden at h
  split at h
  · rw [s_ref5_Forbidden_eq] at h; exact h
  · cases h
theorem e_ref5_Forbidden_nat : EntNat e_ref5_Forbidden := by
  intro c hn N vs H τ q
  unfold e_ref5_Forbidden
  split
  · rw [s_ref5_Forbidden_eq, s_ref5_Forbidden_eq]; exact funK_ent hn _ _ _ _ _ _
  · rfl
/-- ostiary/headers.Safe -/
def fn_headers_Safe : Fun := ⟨2, (.seq (.reg [iR 4 (.p .mv) [(.c (.bool false))]]) (.keep [0, 1] (.seq (.seq (.reg [iR 11 (.p .mv) [(.t 1)], iR 12 (.p .lenS) [(.t 11)], iR 13 (.p (.bin .gtr)) [(.t 12), (.c (.int .i64 (.ofNat 128)))]]) (.keep [0, 1, 13] (.cond (.t 13) (.seq (.reg [iR 4 (.p .mv) [(.c (.bool false))]]) (.keep [4] (.keep [4] .ret))) .skip))) (.keep [0, 1] (.seq (.seq (.reg [iR 14 (.p .mv) [(.t 0)], iR 15 (.call 48) [(.t 14)]]) (.keep [1, 15] (.block 0 (.seq (.reg [iR 17 (.p (.bin .eql)) [(.t 15), (.c (.str (bs [97, 99, 99, 101, 112, 116])))], iR 16 (.p .mv) [(.t 17)]]) (.keep [1, 15, 16] (.cond (.t 16) (.seq (.reg [iR 18 (.p .mv) [(.t 1)], iR 19 (.call 55) [(.t 18)], iR 20 (.p (.un .not)) [(.t 19)], iR 4 (.p .mv) [(.t 20)]]) (.keep [4] (.keep [4] .ret)))
    (.seq (.seq (.reg [iR 22 (.p (.bin .eql)) [(.t 15), (.c (.str (bs [97, 99, 99, 101, 112, 116, 45, 108, 97, 110, 103, 117, 97, 103, 101])))], iR 21 (.p .mv) [(.t 22)]]) (.keep [1, 15, 21] (.cond (.t 21) .skip (.reg [iR 23 (.p (.bin .eql)) [(.t 15), (.c (.str (bs [99, 111, 110, 116, 101, 110, 116, 45, 108, 97, 110, 103, 117, 97, 103, 101])))], iR 21 (.p .mv) [(.t 23)]])))) (.keep [1, 15, 21] (.cond (.t 21) (.seq (.reg [iR 24 (.p .mv) [(.t 1)], iR 25 (.call 56) [(.t 24)], iR 4 (.p .mv) [(.t 25)]]) (.keep [4] (.keep [4] .ret))) (.seq (.reg [iR 27 (.p (.bin .eql)) [(.t 15), (.c (.str (bs [99, 111, 110, 116, 101, 110, 116, 45, 116, 121, 112, 101])))], iR 26 (.p .mv) [(.t 27)]]) (.keep [1, 15, 26] (.cond (.t 26) (.seq (.reg [iR 29 (.p .mv) [(.t 1)], iR 30 (.call 43) [(.t 29), (.c (.str (bs [59])))], iR 28 (.p .mv) [(.t 30)], iR 31 (.p (.extract 0)) [(.t 28)],
    iR 32 (.p (.extract 1)) [(.t 28)], iR 33 (.p (.extract 2)) [(.t 28)], iR 5 (.p .mv) [(.t 31)], iR 6 (.p .mv) [(.t 32)], iR 7 (.p .mv) [(.t 33)]]) (.keep [1, 5] (.seq (.reg [iR 34 (.p .mv) [(.t 5)], iR 35 (.call 57) [(.t 34)], iR 36 (.call 48) [(.t 35)]]) (.keep [1, 36] (.block 1 (.seq (.seq (.reg [iR 38 (.p (.bin .eql)) [(.t 36), (.c (.str (bs [97, 112, 112, 108, 105, 99, 97, 116, 105, 111, 110, 47, 120, 45, 119, 119, 119, 45, 102, 111, 114, 109, 45, 117, 114, 108, 101, 110, 99, 111, 100, 101, 100])))], iR 37 (.p .mv) [(.t 38)]]) (.keep [1, 36, 37] (.cond (.t 37) .skip (.seq (.reg [iR 39 (.p (.bin .eql)) [(.t 36), (.c (.str (bs [109, 117, 108, 116, 105, 112, 97, 114, 116, 47, 102, 111, 114, 109, 45, 100, 97, 116, 97])))], iR 37 (.p .mv) [(.t 39)]]) (.keep [1, 36, 37] (.cond (.t 37) .skip
    (.reg [iR 40 (.p (.bin .eql)) [(.t 36), (.c (.str (bs [116, 101, 120, 116, 47, 112, 108, 97, 105, 110])))], iR 37 (.p .mv) [(.t 40)]]))))))) (.keep [1, 37] (.cond (.t 37) (.seq (.reg [iR 41 (.p .mv) [(.t 1)], iR 42 (.call 55) [(.t 41)], iR 43 (.p (.un .not)) [(.t 42)], iR 4 (.p .mv) [(.t 43)]]) (.keep [4] (.keep [4] .ret))) .skip)))))))) (.seq (.reg [iR 45 (.p (.bin .eql)) [(.t 15), (.c (.str (bs [114, 97, 110, 103, 101])))], iR 44 (.p .mv) [(.t 45)]]) (.keep [1, 44] (.cond (.t 44) (.seq (.reg [iR 47 (.p .mv) [(.t 1)], iR 48 (.call 15) [(.t 47)], iR 46 (.p .mv) [(.t 48)], iR 49 (.p (.extract 0)) [(.t 46)], iR 50 (.p (.extract 1)) [(.t 46)], iR 51 (.p (.extract 2)) [(.t 46)], iR 8 (.p .mv) [(.t 49)], iR 9 (.p .mv) [(.t 50)], iR 10 (.p .mv) [(.t 51)]]) (.keep [8, 10] (.seq (.reg [iR 52 (.p .mv) [(.t 10)], iR 53 (.p .mv) [(.t 52)], iG 54 53 true (.p .mv) [(.t 8)],
    iG 55 53 true (.p (.bin .geq)) [(.t 54), (.c (.int .i64 (.ofNat 0)))], iR 56 (.p .pick) [(.t 53), (.t 55), (.c (.bool false))], iR 4 (.p .mv) [(.t 56)]]) (.keep [4] (.keep [4] .ret))))) .skip))))))))))))))) (.keep [] (.seq (.reg [iR 4 (.p .mv) [(.c (.bool false))]]) (.keep [4] (.keep [4] .ret))))))))), [(.t 4)]⟩
def s_headers_Safe_j0 (call : CallK) (N : Nat) (q : KV) (st : St) (τ : Tape) : Ans := match st with
  | ⟨fr, H⟩ => q (.bool false) H τ
def s_headers_Safe_j2 (call : CallK) (N : Nat) (q : KV) (st : St) (τ : Tape) : Ans := match st with
  | ⟨fr, H⟩ => getK fr 1 fun t1 => getK fr 37 fun t37 => condK t37 (call f_headers_unsafe [t1] H τ fun v28 H29 τ30 => unK .not v28 fun v31 => q v31 H29 τ30) (s_headers_Safe_j0 call N q ⟨(T.set (T.set .leaf 1 t1) 37 t37), H⟩ τ)
def s_headers_Safe_j1 (call : CallK) (N : Nat) (q : KV) (st : St) (τ : Tape) : Ans := match st with
  | ⟨fr, H⟩ => getK fr 1 fun t1 => getK fr 15 fun t15 => getK fr 21 fun t21 => condK t21 (call f_headers_tongues [t1] H τ fun v11 H12 τ13 => q v11 H12 τ13) (binK .eql t15 (.str (bs [99, 111, 110, 116, 101, 110, 116, 45, 116, 121, 112, 101])) fun v14 => condK v14 (call f_strings_Cut [t1, (.str (bs [59]))] H τ fun v15 H16 τ17 => someK (pExtract 0 [v15]) fun v18 => someK (pExtract 1 [v15]) fun v19 => someK (pExtract 2 [v15]) fun v20 => call f_infra_Strip [v18] H16 τ17 fun v21 H22 τ23 => call f_infra_Lower [v21] H22 τ23 fun v24 H25 τ26 => binK .eql v24 (.str (bs [97, 112, 112, 108, 105, 99, 97, 116, 105, 111, 110, 47, 120, 45, 119, 119, 119, 45, 102, 111, 114, 109, 45, 117, 114, 108, 101, 110, 99, 111, 100, 101, 100])) fun v27 => condK v27 (s_headers_Safe_j2 call N q ⟨(T.set (T.set (T.set .leaf 1 t1) 36 v24) 37 v27), H25⟩ τ26)
    (binK .eql v24 (.str (bs [109, 117, 108, 116, 105, 112, 97, 114, 116, 47, 102, 111, 114, 109, 45, 100, 97, 116, 97])) fun v32 => condK v32 (s_headers_Safe_j2 call N q ⟨(T.set (T.set (T.set .leaf 1 t1) 36 v24) 37 v32), H25⟩ τ26) (binK .eql v24 (.str (bs [116, 101, 120, 116, 47, 112, 108, 97, 105, 110])) fun v33 => s_headers_Safe_j2 call N q ⟨(T.set (T.set (T.set (T.set (T.set .leaf 1 t1) 36 v24) 37 v32) 40 v33) 37 v33), H25⟩ τ26))) (binK .eql t15 (.str (bs [114, 97, 110, 103, 101])) fun v34 => condK v34 (call f_headers_Range [t1] H τ fun v35 H36 τ37 => someK (pExtract 0 [v35]) fun v38 => someK (pExtract 1 [v35]) fun v39 => someK (pExtract 2 [v35]) fun v40 => gK v40 true (fun q' => q' v38 H36 τ37) H36 τ37 fun v41 H42 τ43 => gK v40 true (fun q' => binK .geq v41 (.int .i64 (.ofNat 0)) fun v => q' v H42 τ43) H42 τ43 fun v44 H45 τ46 => someK (pPick [v40, v44, (.bool false)]) fun v47 =>
    q v47 H45 τ46) (s_headers_Safe_j0 call N q ⟨(T.set (T.set .leaf 1 t1) 44 v34), H⟩ τ)))
def s_headers_Safe (call : CallK) (N : Nat) (a0 a1 : V) (H : Heap) (τ : Tape) (q : KV) : Ans := someK (pLenS [a1]) fun v0 => binK .gtr v0 (.int .i64 (.ofNat 128)) fun v1 => condK v1 (q (.bool false) H τ) (call f_infra_Lower [a0] H τ fun v2 H3 τ4 => binK .eql v2 (.str (bs [97, 99, 99, 101, 112, 116])) fun v5 => condK v5 (call f_headers_unsafe [a1] H3 τ4 fun v6 H7 τ8 => unK .not v6 fun v9 => q v9 H7 τ8) (binK .eql v2 (.str (bs [97, 99, 99, 101, 112, 116, 45, 108, 97, 110, 103, 117, 97, 103, 101])) fun v10 => condK v10 (s_headers_Safe_j1 call N q ⟨(T.set (T.set (T.set .leaf 1 a1) 15 v2) 21 v10), H3⟩ τ4) (binK .eql v2 (.str (bs [99, 111, 110, 116, 101, 110, 116, 45, 108, 97, 110, 103, 117, 97, 103, 101])) fun v48 => s_headers_Safe_j1 call N q ⟨(T.set (T.set (T.set (T.set (T.set .leaf 1 a1) 15 v2) 21 v10) 23 v48) 21 v48), H3⟩ τ4)))
theorem s_headers_Safe_eq (call : CallK) (N : Nat) (a0 a1 : V) (H : Heap) (τ : Tape) (q : KV) : s_headers_Safe call N a0 a1 H τ q = funK call N fn_headers_Safe [a0, a1] H τ q := by kernel_rfl
def e_headers_Safe (call : CallK) (N : Nat) (vs : List V) (H : Heap) (τ : Tape) (q : KV) : Ans := match vs with | [a0, a1] => s_headers_Safe call N a0 a1 H τ q | _ => none
theorem e_headers_Safe_ok : EntOk fn_headers_Safe e_headers_Safe := by
  intro call N vs H τ q r h
  unfold e_headers_Safe at h
  split at h
  · rw [s_headers_Safe_eq] at h; exact h
  · cases h
theorem e_headers_Safe_nat : EntNat e_headers_Safe := by
  intro c hn N vs H τ q
  unfold e_headers_Safe
  split
  · rw [s_headers_Safe_eq, s_headers_Safe_eq]; exact funK_ent hn _ _ _ _ _ _
  · rfl
/-- ostiary/ostiaryref5.Safe -/
def fn_ref5_Safe : Fun := ⟨2, (.seq (.reg [iR 4 (.p .mv) [(.c (.bool false))]]) (.keep [0, 1] (.seq (.seq (.reg [iR 11 (.p .mv) [(.t 1)], iR 12 (.p .lenS) [(.t 11)], iR 13 (.p (.bin .gtr)) [(.t 12), (.c (.int .i64 (.ofNat 128)))]]) (.keep [0, 1, 13] (.cond (.t 13) (.seq (.reg [iR 4 (.p .mv) [(.c (.bool false))]]) (.keep [4] (.keep [4] .ret))) .skip))) (.keep [0, 1] (.seq (.seq (.reg [iR 14 (.p .mv) [(.t 0)], iR 15 (.call 51) [(.t 14)]]) (.keep [1, 15] (.block 0 (.seq (.reg [iR 17 (.p (.bin .eql)) [(.t 15), (.c (.str (bs [97, 99, 99, 101, 112, 116])))], iR 16 (.p .mv) [(.t 17)]]) (.keep [1, 15, 16] (.cond (.t 16) (.seq (.reg [iR 18 (.p .mv) [(.t 1)], iR 19 (.call 58) [(.t 18)], iR 20 (.p (.un .not)) [(.t 19)], iR 4 (.p .mv) [(.t 20)]]) (.keep [4] (.keep [4] .ret)))
    (.seq (.seq (.reg [iR 22 (.p (.bin .eql)) [(.t 15), (.c (.str (bs [97, 99, 99, 101, 112, 116, 45, 108, 97, 110, 103, 117, 97, 103, 101])))], iR 21 (.p .mv) [(.t 22)]]) (.keep [1, 15, 21] (.cond (.t 21) .skip (.reg [iR 23 (.p (.bin .eql)) [(.t 15), (.c (.str (bs [99, 111, 110, 116, 101, 110, 116, 45, 108, 97, 110, 103, 117, 97, 103, 101])))], iR 21 (.p .mv) [(.t 23)]])))) (.keep [1, 15, 21] (.cond (.t 21) (.seq (.reg [iR 24 (.p .mv) [(.t 1)], iR 25 (.call 59) [(.t 24)], iR 4 (.p .mv) [(.t 25)]]) (.keep [4] (.keep [4] .ret))) (.seq (.reg [iR 27 (.p (.bin .eql)) [(.t 15), (.c (.str (bs [99, 111, 110, 116, 101, 110, 116, 45, 116, 121, 112, 101])))], iR 26 (.p .mv) [(.t 27)]]) (.keep [1, 15, 26] (.cond (.t 26) (.seq (.reg [iR 29 (.p .mv) [(.t 1)], iR 30 (.call 46) [(.t 29), (.c (.int .u8 (.ofNat 59)))], iR 28 (.p .mv) [(.t 30)], iR 31 (.p (.extract 0)) [(.t 28)],
    iR 32 (.p (.extract 1)) [(.t 28)], iR 33 (.p (.extract 2)) [(.t 28)], iR 5 (.p .mv) [(.t 31)], iR 6 (.p .mv) [(.t 32)], iR 7 (.p .mv) [(.t 33)]]) (.keep [1, 5] (.seq (.reg [iR 34 (.p .mv) [(.t 5)], iR 35 (.call 60) [(.t 34)], iR 36 (.call 51) [(.t 35)], iR 5 (.p .mv) [(.t 36)]]) (.keep [1, 5] (.seq (.reg [iR 37 (.p .mv) [(.t 1)], iR 38 (.call 58) [(.t 37)], iR 39 (.p (.un .not)) [(.t 38)], iR 40 (.p .mv) [(.t 39)], iG 41 40 true (.p .mv) [(.t 5)], iG 42 40 true (.p (.bin .eql)) [(.t 41), (.c (.str (bs [97, 112, 112, 108, 105, 99, 97, 116, 105, 111, 110, 47, 120, 45, 119, 119, 119, 45, 102, 111, 114, 109, 45, 117, 114, 108, 101, 110, 99, 111, 100, 101, 100])))], iG 43 40 true (.p .mv) [(.t 42)], iG 44 43 false (.p .mv) [(.t 5)],
    iG 45 43 false (.p (.bin .eql)) [(.t 44), (.c (.str (bs [109, 117, 108, 116, 105, 112, 97, 114, 116, 47, 102, 111, 114, 109, 45, 100, 97, 116, 97])))], iG 46 40 true (.p .pick) [(.t 43), (.c (.bool true)), (.t 45)], iG 47 40 true (.p .mv) [(.t 46)], iG 48 47 false (.p .mv) [(.t 5)], iG 49 47 false (.p (.bin .eql)) [(.t 48), (.c (.str (bs [116, 101, 120, 116, 47, 112, 108, 97, 105, 110])))], iG 50 40 true (.p .pick) [(.t 47), (.c (.bool true)), (.t 49)], iR 51 (.p .pick) [(.t 40), (.t 50), (.c (.bool false))], iR 4 (.p .mv) [(.t 51)]]) (.keep [4] (.keep [4] .ret))))))) (.seq (.reg [iR 53 (.p (.bin .eql)) [(.t 15), (.c (.str (bs [114, 97, 110, 103, 101])))], iR 52 (.p .mv) [(.t 53)]]) (.keep [1, 52] (.cond (.t 52) (.seq (.reg [iR 55 (.p .mv) [(.t 1)], iR 56 (.call 16) [(.t 55)], iR 54 (.p .mv) [(.t 56)], iR 57 (.p (.extract 0)) [(.t 54)], iR 58 (.p (.extract 1)) [(.t 54)],
    iR 59 (.p (.extract 2)) [(.t 54)], iR 8 (.p .mv) [(.t 57)], iR 9 (.p .mv) [(.t 58)], iR 10 (.p .mv) [(.t 59)]]) (.keep [8, 10] (.seq (.reg [iR 60 (.p .mv) [(.t 10)], iR 61 (.p .mv) [(.t 60)], iG 62 61 true (.p .mv) [(.t 8)], iG 63 61 true (.p (.bin .geq)) [(.t 62), (.c (.int .i64 (.ofNat 0)))], iR 64 (.p .pick) [(.t 61), (.t 63), (.c (.bool false))], iR 4 (.p .mv) [(.t 64)]]) (.keep [4] (.keep [4] .ret))))) .skip))))))))))))))) (.keep [] (.seq (.reg [iR 4 (.p .mv) [(.c (.bool false))]]) (.keep [4] (.keep [4] .ret))))))))), [(.t 4)]⟩
def s_ref5_Safe_j0 (call : CallK) (N : Nat) (q : KV) (st : St) (τ : Tape) : Ans := match st with
  | ⟨fr, H⟩ => q (.bool false) H τ
def s_ref5_Safe_j1 (call : CallK) (N : Nat) (q : KV) (st : St) (τ : Tape) : Ans := match st with
  | ⟨fr, H⟩ => getK fr 1 fun t1 => getK fr 15 fun t15 => getK fr 21 fun t21 => condK t21 (call f_ref5_language [t1] H τ fun v11 H12 τ13 => q v11 H12 τ13) (binK .eql t15 (.str (bs [99, 111, 110, 116, 101, 110, 116, 45, 116, 121, 112, 101])) fun v14 => condK v14 (call f_ref1_Part [t1, (.int .u8 (.ofNat 59))] H τ fun v15 H16 τ17 => someK (pExtract 0 [v15]) fun v18 => someK (pExtract 1 [v15]) fun v19 => someK (pExtract 2 [v15]) fun v20 => call f_ref1_Strip [v18] H16 τ17 fun v21 H22 τ23 => call f_ref1_Lower [v21] H22 τ23 fun v24 H25 τ26 => call f_ref5_unsafe [t1] H25 τ26 fun v27 H28 τ29 => unK .not v27 fun v30 => gK v30 true (fun q' => q' v24 H28 τ29) H28 τ29 fun v31 H32 τ33 =>
    gK v30 true (fun q' => binK .eql v31 (.str (bs [97, 112, 112, 108, 105, 99, 97, 116, 105, 111, 110, 47, 120, 45, 119, 119, 119, 45, 102, 111, 114, 109, 45, 117, 114, 108, 101, 110, 99, 111, 100, 101, 100])) fun v => q' v H32 τ33) H32 τ33 fun v34 H35 τ36 => gK v30 true (fun q' => q' v34 H35 τ36) H35 τ36 fun v37 H38 τ39 => gK v37 false (fun q' => q' v24 H38 τ39) H38 τ39 fun v40 H41 τ42 => gK v37 false (fun q' => binK .eql v40 (.str (bs [109, 117, 108, 116, 105, 112, 97, 114, 116, 47, 102, 111, 114, 109, 45, 100, 97, 116, 97])) fun v => q' v H41 τ42) H41 τ42 fun v43 H44 τ45 => gK v30 true (fun q' => someK (pPick [v37, (.bool true), v43]) fun v => q' v H44 τ45) H44 τ45 fun v46 H47 τ48 => gK v30 true (fun q' => q' v46 H47 τ48) H47 τ48 fun v49 H50 τ51 => gK v49 false (fun q' => q' v24 H50 τ51) H50 τ51 fun v52 H53 τ54 =>
    gK v49 false (fun q' => binK .eql v52 (.str (bs [116, 101, 120, 116, 47, 112, 108, 97, 105, 110])) fun v => q' v H53 τ54) H53 τ54 fun v55 H56 τ57 => gK v30 true (fun q' => someK (pPick [v49, (.bool true), v55]) fun v => q' v H56 τ57) H56 τ57 fun v58 H59 τ60 => someK (pPick [v30, v58, (.bool false)]) fun v61 => q v61 H59 τ60) (binK .eql t15 (.str (bs [114, 97, 110, 103, 101])) fun v62 => condK v62 (call f_ref5_Range [t1] H τ fun v63 H64 τ65 => someK (pExtract 0 [v63]) fun v66 => someK (pExtract 1 [v63]) fun v67 => someK (pExtract 2 [v63]) fun v68 => gK v68 true (fun q' => q' v66 H64 τ65) H64 τ65 fun v69 H70 τ71 => gK v68 true (fun q' => binK .geq v69 (.int .i64 (.ofNat 0)) fun v => q' v H70 τ71) H70 τ71 fun v72 H73 τ74 => someK (pPick [v68, v72, (.bool false)]) fun v75 => q v75 H73 τ74) (s_ref5_Safe_j0 call N q ⟨(T.set (T.set .leaf 1 t1) 52 v62), H⟩ τ)))
def s_ref5_Safe (call : CallK) (N : Nat) (a0 a1 : V) (H : Heap) (τ : Tape) (q : KV) : Ans := someK (pLenS [a1]) fun v0 => binK .gtr v0 (.int .i64 (.ofNat 128)) fun v1 => condK v1 (q (.bool false) H τ) (call f_ref1_Lower [a0] H τ fun v2 H3 τ4 => binK .eql v2 (.str (bs [97, 99, 99, 101, 112, 116])) fun v5 => condK v5 (call f_ref5_unsafe [a1] H3 τ4 fun v6 H7 τ8 => unK .not v6 fun v9 => q v9 H7 τ8) (binK .eql v2 (.str (bs [97, 99, 99, 101, 112, 116, 45, 108, 97, 110, 103, 117, 97, 103, 101])) fun v10 => condK v10 (s_ref5_Safe_j1 call N q ⟨(T.set (T.set (T.set .leaf 1 a1) 15 v2) 21 v10), H3⟩ τ4) (binK .eql v2 (.str (bs [99, 111, 110, 116, 101, 110, 116, 45, 108, 97, 110, 103, 117, 97, 103, 101])) fun v76 => s_ref5_Safe_j1 call N q ⟨(T.set (T.set (T.set (T.set (T.set .leaf 1 a1) 15 v2) 21 v10) 23 v76) 21 v76), H3⟩ τ4)))
theorem s_ref5_Safe_eq (call : CallK) (N : Nat) (a0 a1 : V) (H : Heap) (τ : Tape) (q : KV) : s_ref5_Safe call N a0 a1 H τ q = funK call N fn_ref5_Safe [a0, a1] H τ q := by kernel_rfl
def e_ref5_Safe (call : CallK) (N : Nat) (vs : List V) (H : Heap) (τ : Tape) (q : KV) : Ans := match vs with | [a0, a1] => s_ref5_Safe call N a0 a1 H τ q | _ => none
theorem e_ref5_Safe_ok : EntOk fn_ref5_Safe e_ref5_Safe := by
  intro call N vs H τ q r h
  unfold e_ref5_Safe at h
  split at h
  · rw [s_ref5_Safe_eq] at h; exact h
  · cases h
theorem e_ref5_Safe_nat : EntNat e_ref5_Safe := by
  intro c hn N vs H τ q
  unfold e_ref5_Safe
  split
  · rw [s_ref5_Safe_eq, s_ref5_Safe_eq]; exact funK_ent hn _ _ _ _ _ _
  · rfl
/-- ostiary/ostiarybook.Intact[ostiary/api.Header] -/
def fn_book_Intact_Header : Fun := ⟨3, (.seq (.reg [iR 5 (.e .box) [(.t 2)], iR 6 (.p .mv) [(.c (.bool false))]]) (.keep [0, 1, 5] (.seq (.seq (.reg [iR 8 (.p .mv) [(.t 0)], iR 9 (.p .len) [(.t 8)], iR 10 (.p .mv) [(.t 1)], iR 11 (.p .len) [(.t 10)], iR 12 (.p (.bin .add)) [(.t 11), (.c (.int .i64 (.ofNat 80)))], iR 13 (.p (.bin .neq)) [(.t 9), (.t 12)], iR 14 (.p .mv) [(.t 13)], iG 15 14 false (.p .mv) [(.t 0)], iG 16 14 false (.p .mv) [(.t 1)], iG 17 14 false (.p .len) [(.t 16)], iG 18 14 false (.p (.slSlice 2 false true false)) [(.t 15), (.t 17)], iG 19 14 false (.p .mv) [(.t 1)], iG 20 14 false (.call 18) [(.t 18), (.t 19)], iG 21 14 false (.p (.un .not)) [(.t 20)], iR 22 (.p .pick) [(.t 14), (.c (.bool true)), (.t 21)]]) (.keep [0, 1, 5, 22] (.cond (.t 22) (.seq (.reg [iR 6 (.p .mv) [(.c (.bool false))]]) (.keep [6] (.keep [6] .ret))) .skip)))
    (.keep [0, 1, 5] (.seq (.seq (.reg [iR 23 (.p .mv) [(.t 1)], iR 24 (.p .len) [(.t 23)], iR 7 (.p .mv) [(.t 24)]]) (.keep [0, 5, 7] (.block 0 (.loop (.keep [0, 5, 7] (.seq (.seq (.reg [iR 25 (.p .mv) [(.t 7)], iR 26 (.p .mv) [(.t 0)], iR 27 (.p .len) [(.t 26)], iR 28 (.p (.bin .lss)) [(.t 25), (.t 27)]]) (.keep [0, 5, 7, 28] (.cond (.t 28) .skip (.keep [] (.exit 0))))) (.keep [0, 5, 7] (.seq (.block 1 (.seq (.draw [iR 31 (.p .mv) [(.t 0)], iR 32 (.p .mv) [(.t 7)], iR 33 (.p (.slIdx 2)) [(.t 31), (.t 32)], iR 34 (.l (.load (some 2))) [(.t 33)], iR 35 (.l (.load (some 2))) [(.t 5)], iR 36 (.p (.eq true (.flat [.str, .str]))) [(.t 34), (.t 35)]]) (.keep [0, 5, 7, 36] (.cond (.t 36) (.seq (.reg [iR 6 (.p .mv) [(.c (.bool false))]]) (.keep [6] (.keep [6] .ret))) .skip)))) (.keep [0, 5, 7] (.reg [iR 29 (.p .mv) [(.t 7)], iR 30 (.p (.bin .add)) [(.t 29), (.c (.int .i64 (.ofNat 1)))],
    iR 7 (.p .mv) [(.t 30)]])))))))))) (.keep [] (.seq (.reg [iR 6 (.p .mv) [(.c (.bool true))]]) (.keep [6] (.keep [6] .ret))))))))), [(.t 6)]⟩
def s_book_Intact_Header_j0 (call : CallK) (N : Nat) (q : KV) (st : St) (τ : Tape) : Ans := match st with
  | ⟨fr, H⟩ => q (.bool true) H τ
def s_book_Intact_Header_l1 (call : CallK) (N : Nat) (st : St) (τ : Tape) (k : KC) : Ans := match st with
  | ⟨fr, H⟩ => getK fr 0 fun t0 => getK fr 5 fun t5 => getK fr 7 fun t7 => someK (pLen [t0]) fun v30 => binK .lss t7 v30 fun v31 => condK v31 (someK (pSlIdx 2 [t0, t7]) fun v32 => someK (lLoadN 2 [v32] H) fun v33 => someK (lLoadN 2 [t5] H) fun v34 => someK (pEq true (.flat [.str, .str]) [v33, v34]) fun v35 => condK v35 (k .ret ⟨(T.set .leaf 6 (.bool false)), H⟩ τ) (binK .add t7 (.int .i64 (.ofNat 1)) fun v36 => k .normal ⟨(T.set (T.set (T.set (T.set (T.set (T.set .leaf 0 t0) 5 t5) 7 t7) 29 t7) 30 v36) 7 v36), H⟩ τ)) (k (.exit 0) ⟨.leaf, H⟩ τ)
def s_book_Intact_Header (call : CallK) (N : Nat) (a0 a1 a2 : V) (H : Heap) (τ : Tape) (q : KV) : Ans := effK (eBox [a2] H τ) fun v0 H1 τ2 => someK (pLen [a0]) fun v3 => someK (pLen [a1]) fun v4 => binK .add v4 (.int .i64 (.ofNat 80)) fun v5 => binK .neq v3 v5 fun v6 => gK v6 false (fun q' => q' a0 H1 τ2) H1 τ2 fun v7 H8 τ9 => gK v6 false (fun q' => q' a1 H8 τ9) H8 τ9 fun v10 H11 τ12 => gK v6 false (fun q' => someK (pLen [v10]) fun v => q' v H11 τ12) H11 τ12 fun v13 H14 τ15 => gK v6 false (fun q' => someK (pSlSlice 2 false true false [v7, v13]) fun v => q' v H14 τ15) H14 τ15 fun v16 H17 τ18 => gK v6 false (fun q' => q' a1 H17 τ18) H17 τ18 fun v19 H20 τ21 => gK v6 false (fun q' => call f_book_Same_Header [v16, v19] H20 τ21 q') H20 τ21 fun v22 H23 τ24 => gK v6 false (fun q' => unK .not v22 fun v => q' v H23 τ24) H23 τ24 fun v25 H26 τ27 => someK (pPick [v6, (.bool true), v25]) fun v28 =>
    condK v28 (q (.bool false) H26 τ27) (someK (pLen [a1]) fun v29 => loopK (s_book_Intact_Header_l1 call N) N ⟨(T.set (T.set (T.set .leaf 0 a0) 5 v0) 7 v29), H26⟩ τ27 (blockK 0 (seqK (s_book_Intact_Header_j0 call N q) (endK [(.t 6)] q))))
theorem s_book_Intact_Header_eq (call : CallK) (N : Nat) (a0 a1 a2 : V) (H : Heap) (τ : Tape) (q : KV) : s_book_Intact_Header call N a0 a1 a2 H τ q = funK call N fn_book_Intact_Header [a0, a1, a2] H τ q := by kernel_rfl
def e_book_Intact_Header (call : CallK) (N : Nat) (vs : List V) (H : Heap) (τ : Tape) (q : KV) : Ans := match vs with | [a0, a1, a2] => s_book_Intact_Header call N a0 a1 a2 H τ q | _ => none
theorem e_book_Intact_Header_ok : EntOk fn_book_Intact_Header e_book_Intact_Header := by
  intro call N vs H τ q r h
  unfold e_book_Intact_Header at h
  split at h
  · rw [s_book_Intact_Header_eq] at h; exact h
  · cases h
theorem e_book_Intact_Header_nat : EntNat e_book_Intact_Header := by
  intro c hn N vs H τ q
  unfold e_book_Intact_Header
  split
  · rw [s_book_Intact_Header_eq, s_book_Intact_Header_eq]; exact funK_ent hn _ _ _ _ _ _
  · rfl
/-- ostiary/ostiarylaw5.known -/
def fn_law5_known : Fun := ⟨0, (.seq (.reg [iR 0 (.p .mv) [(.c (.bool false))]]) (.keep [] (.seq (.reg [iR 6 (.call 8) [(.c (.str (bs [65]))), (.c (.str (bs [49])))], iR 7 (.call 8) [(.c (.str (bs [98]))), (.c (.str (bs [50])))], iR 8 (.call 8) [(.c (.str (bs [97]))), (.c (.str (bs [51])))], iR 9 (.e (.buildSlice 3 2 (repl 6 [(.str [])]) [(0, 2), (2, 2), (4, 2)])) [(.t 6), (.t 7), (.t 8)], iR 10 (.call 11) [(.t 9), (.c (.str (bs [97])))], iR 5 (.p .mv) [(.t 10)], iR 11 (.p (.extract 0)) [(.t 5)], iR 12 (.p (.extract 1)) [(.t 5)], iR 1 (.p .mv) [(.t 11)], iR 2 (.p .mv) [(.t 12)]]) (.keep [1, 2] (.seq (.reg [iR 14 (.call 8) [(.c (.str (bs [97]))), (.c (.str (bs [120, 44, 32, 34, 121, 44, 32, 122, 34, 32, 44, 32, 119])))], iR 15 (.e (.buildSlice 1 2 [(.str []), (.str [])] [(0, 2)])) [(.t 14)], iR 16 (.call 13) [(.t 15), (.c (.str (bs [65])))], iR 13 (.p .mv) [(.t 16)],
    iR 17 (.p (.extract 0)) [(.t 13)], iR 18 (.p (.extract 1)) [(.t 13)], iR 3 (.p .mv) [(.t 17)], iR 4 (.p .mv) [(.t 18)]]) (.keep [1, 2, 3, 4] (.seq (.reg [iR 19 (.p .mv) [(.t 2)], iR 20 (.p .mv) [(.t 19)], iG 21 20 true (.p .mv) [(.t 1)], iG 22 20 true (.p (.bin .eql)) [(.t 21), (.c (.str (bs [49, 44, 32, 51])))], iR 23 (.p .pick) [(.t 20), (.t 22), (.c (.bool false))], iR 24 (.p .mv) [(.t 23)], iG 25 24 true (.p .mv) [(.t 4)], iR 26 (.p .pick) [(.t 24), (.t 25), (.c (.bool false))], iR 27 (.p .mv) [(.t 26)], iG 28 27 true (.p .mv) [(.t 3)], iG 29 27 true (.e (.buildSlice 3 1 [(.str []), (.str []), (.str [])] [(0, 1), (1, 1), (2, 1)])) [(.c (.str (bs [120]))), (.c (.str (bs [34, 121, 44, 32, 122, 34]))), (.c (.str (bs [119])))], iG 30 27 true (.call 17) [(.t 28), (.t 29)], iR 31 (.p .pick) [(.t 27), (.t 30), (.c (.bool false))], iR 32 (.p .mv) [(.t 31)],
    iG 33 32 true (.call 23) [(.c (.str (bs [67, 111, 110, 116, 101, 110, 116, 45, 84, 121, 112, 101]))), (.c (.str (bs [116, 101, 120, 116, 47, 112, 108, 97, 105, 110, 59, 113])))], iR 34 (.p .pick) [(.t 32), (.t 33), (.c (.bool false))], iR 0 (.p .mv) [(.t 34)]]) (.keep [0] (.keep [0] .ret))))))))), [(.t 0)]⟩
def s_law5_known (call : CallK) (N : Nat) (H : Heap) (τ : Tape) (q : KV) : Ans := call f_law5_h [(.str (bs [65])), (.str (bs [49]))] H τ fun v0 H1 τ2 => call f_law5_h [(.str (bs [98])), (.str (bs [50]))] H1 τ2 fun v3 H4 τ5 => call f_law5_h [(.str (bs [97])), (.str (bs [51]))] H4 τ5 fun v6 H7 τ8 => effK (eBuildSlice 3 2 (repl 6 [(.str [])]) [(0, 2), (2, 2), (4, 2)] [v0, v3, v6] H7 τ8) fun v9 H10 τ11 => call f_headers_Get [v9, (.str (bs [97]))] H10 τ11 fun v12 H13 τ14 => someK (pExtract 0 [v12]) fun v15 => someK (pExtract 1 [v12]) fun v16 => call f_law5_h [(.str (bs [97])), (.str (bs [120, 44, 32, 34, 121, 44, 32, 122, 34, 32, 44, 32, 119]))] H13 τ14 fun v17 H18 τ19 => effK (eBuildSlice 1 2 [(.str []), (.str [])] [(0, 2)] [v17] H18 τ19) fun v20 H21 τ22 => call f_headers_Split [v20, (.str (bs [65]))] H21 τ22 fun v23 H24 τ25 => someK (pExtract 0 [v23]) fun v26 =>
    someK (pExtract 1 [v23]) fun v27 => gK v16 true (fun q' => q' v15 H24 τ25) H24 τ25 fun v28 H29 τ30 => gK v16 true (fun q' => binK .eql v28 (.str (bs [49, 44, 32, 51])) fun v => q' v H29 τ30) H29 τ30 fun v31 H32 τ33 => someK (pPick [v16, v31, (.bool false)]) fun v34 => gK v34 true (fun q' => q' v27 H32 τ33) H32 τ33 fun v35 H36 τ37 => someK (pPick [v34, v35, (.bool false)]) fun v38 => gK v38 true (fun q' => q' v26 H36 τ37) H36 τ37 fun v39 H40 τ41 => gK v38 true (fun q' => effK (eBuildSlice 3 1 [(.str []), (.str []), (.str [])] [(0, 1), (1, 1), (2, 1)] [(.str (bs [120])), (.str (bs [34, 121, 44, 32, 122, 34])), (.str (bs [119]))] H40 τ41) q') H40 τ41 fun v42 H43 τ44 => gK v38 true (fun q' => call f_book_Same_string [v39, v42] H43 τ44 q') H43 τ44 fun v45 H46 τ47 => someK (pPick [v38, v45, (.bool false)]) fun v48 =>
    gK v48 true (fun q' => call f_headers_Safe [(.str (bs [67, 111, 110, 116, 101, 110, 116, 45, 84, 121, 112, 101])), (.str (bs [116, 101, 120, 116, 47, 112, 108, 97, 105, 110, 59, 113]))] H46 τ47 q') H46 τ47 fun v49 H50 τ51 => someK (pPick [v48, v49, (.bool false)]) fun v52 => q v52 H50 τ51
theorem s_law5_known_eq (call : CallK) (N : Nat) (H : Heap) (τ : Tape) (q : KV) : s_law5_known call N  H τ q = funK call N fn_law5_known [] H τ q := by kernel_rfl
def e_law5_known (call : CallK) (N : Nat) (vs : List V) (H : Heap) (τ : Tape) (q : KV) : Ans := match vs with | [] => s_law5_known call N  H τ q | _ => none
theorem e_law5_known_ok : EntOk fn_law5_known e_law5_known := by
  intro call N vs H τ q r h
  unfold e_law5_known at h
  split at h
  · rw [s_law5_known_eq] at h; exact h
  · cases h
theorem e_law5_known_nat : EntNat e_law5_known := by
  intro c hn N vs H τ q
  unfold e_law5_known
  split
  · rw [s_law5_known_eq, s_law5_known_eq]; exact funK_ent hn _ _ _ _ _ _
  · rfl
/-- strings.Trim -/
def fn_strings_Trim : Fun := ⟨2, (.seq (.reg [iR 4 (.p .mv) [(.c (.str []))]]) (.keep [0, 1] (.seq (.seq (.reg [iR 7 (.p .mv) [(.t 0)], iR 8 (.p (.bin .eql)) [(.t 7), (.c (.str []))], iR 9 (.p .mv) [(.t 8)], iG 10 9 false (.p .mv) [(.t 1)], iG 11 9 false (.p (.bin .eql)) [(.t 10), (.c (.str []))], iR 12 (.p .pick) [(.t 9), (.c (.bool true)), (.t 11)]]) (.keep [0, 1, 12] (.cond (.t 12) (.seq (.reg [iR 13 (.p .mv) [(.t 0)], iR 4 (.p .mv) [(.t 13)]]) (.keep [4] (.keep [4] .ret))) .skip))) (.keep [0, 1] (.seq (.seq (.reg [iR 14 (.p .mv) [(.t 1)], iR 15 (.p .lenS) [(.t 14)], iR 16 (.p (.bin .eql)) [(.t 15), (.c (.int .i64 (.ofNat 1)))], iR 17 (.p .mv) [(.t 16)], iG 18 17 true (.p .mv) [(.t 1)], iG 19 17 true (.p .strIndex) [(.t 18), (.c (.int .i64 (.ofNat 0)))], iG 20 17 true (.p (.bin .lss)) [(.t 19), (.c (.int .u8 (.ofNat 128)))],
    iR 21 (.p .pick) [(.t 17), (.t 20), (.c (.bool false))]]) (.keep [0, 1, 21] (.cond (.t 21) (.seq (.draw [iR 22 (.p .mv) [(.t 0)], iR 23 (.p .mv) [(.t 1)], iR 24 (.p .strIndex) [(.t 23), (.c (.int .i64 (.ofNat 0)))], iR 25 (.call 70) [(.t 22), (.t 24)], iR 26 (.p .mv) [(.t 1)], iR 27 (.p .strIndex) [(.t 26), (.c (.int .i64 (.ofNat 0)))], iR 28 (.call 69) [(.t 25), (.t 27)], iR 4 (.p .mv) [(.t 28)]]) (.keep [4] (.keep [4] .ret))) .skip))) (.keep [0, 1] (.seq (.seq (.reg [iR 30 (.p .mv) [(.t 1)], iR 31 (.call 71) [(.t 30)], iR 29 (.p .mv) [(.t 31)], iR 32 (.p (.extract 0)) [(.t 29)], iR 33 (.p (.extract 1)) [(.t 29)], iR 5 (.e (.alloc (repl 256 [(.bool false)]))) [], ⟨none, none, (.e (.store 256)), [(.t 5), (.t 32)], none⟩, iR 6 (.p .mv) [(.t 33)]]) (.keep [0, 1, 5, 6] (.seq (.reg [iR 34 (.p .mv) [(.t 6)]]) (.keep [0, 1, 5, 34] (.cond (.t 34) (.seq (.reg [iR 35 (.p .mv) [(.t 0)],
    iR 36 (.call 73) [(.t 35), (.t 5)], iR 37 (.call 72) [(.t 36), (.t 5)], iR 4 (.p .mv) [(.t 37)]]) (.keep [4] (.keep [4] .ret))) .skip))))) (.keep [0, 1] (.seq (.reg [iR 38 (.p .mv) [(.t 0)], iR 39 (.p .mv) [(.t 1)], iR 40 (.call 75) [(.t 38), (.t 39)], iR 41 (.p .mv) [(.t 1)], iR 42 (.call 74) [(.t 40), (.t 41)], iR 4 (.p .mv) [(.t 42)]]) (.keep [4] (.keep [4] .ret))))))))))), [(.t 4)]⟩
def s_strings_Trim (call : CallK) (N : Nat) (a0 a1 : V) (H : Heap) (τ : Tape) (q : KV) : Ans := binK .eql a0 (.str []) fun v0 => gK v0 false (fun q' => q' a1 H τ) H τ fun v1 H2 τ3 => gK v0 false (fun q' => binK .eql v1 (.str []) fun v => q' v H2 τ3) H2 τ3 fun v4 H5 τ6 => someK (pPick [v0, (.bool true), v4]) fun v7 => condK v7 (q a0 H5 τ6) (someK (pLenS [a1]) fun v8 => binK .eql v8 (.int .i64 (.ofNat 1)) fun v9 => gK v9 true (fun q' => q' a1 H5 τ6) H5 τ6 fun v10 H11 τ12 => gK v9 true (fun q' => someK (pStrIndex [v10, (.int .i64 (.ofNat 0))]) fun v => q' v H11 τ12) H11 τ12 fun v13 H14 τ15 => gK v9 true (fun q' => binK .lss v13 (.int .u8 (.ofNat 128)) fun v => q' v H14 τ15) H14 τ15 fun v16 H17 τ18 => someK (pPick [v9, v16, (.bool false)]) fun v19 => condK v19 (someK (pStrIndex [a1, (.int .i64 (.ofNat 0))]) fun v20 => call f_strings_trimRightByte [a0, v20] H17 τ18 fun v21 H22 τ23 =>
    someK (pStrIndex [a1, (.int .i64 (.ofNat 0))]) fun v24 => call f_strings_trimLeftByte [v21, v24] H22 τ23 fun v25 H26 τ27 => q v25 H26 τ27) (call f_strings_makeASCIISet [a1] H17 τ18 fun v28 H29 τ30 => someK (pExtract 0 [v28]) fun v31 => someK (pExtract 1 [v28]) fun v32 => effK (eAlloc (repl 256 [(.bool false)]) [] H29 τ30) fun v33 H34 τ35 => effK (eStore 256 [v33, v31] H34 τ35) fun v36 H37 τ38 => condK v32 (call f_strings_trimRightASCII [a0, v33] H37 τ38 fun v39 H40 τ41 => call f_strings_trimLeftASCII [v39, v33] H40 τ41 fun v42 H43 τ44 => q v42 H43 τ44) (call f_strings_trimRightUnicode [a0, a1] H37 τ38 fun v45 H46 τ47 => call f_strings_trimLeftUnicode [v45, a1] H46 τ47 fun v48 H49 τ50 => q v48 H49 τ50)))
theorem s_strings_Trim_eq (call : CallK) (N : Nat) (a0 a1 : V) (H : Heap) (τ : Tape) (q : KV) : s_strings_Trim call N a0 a1 H τ q = funK call N fn_strings_Trim [a0, a1] H τ q := by kernel_rfl
def e_strings_Trim (call : CallK) (N : Nat) (vs : List V) (H : Heap) (τ : Tape) (q : KV) : Ans := match vs with | [a0, a1] => s_strings_Trim call N a0 a1 H τ q | _ => none
theorem e_strings_Trim_ok : EntOk fn_strings_Trim e_strings_Trim := by
  intro call N vs H τ q r h
  unfold e_strings_Trim at h
  split at h
  · rw [s_strings_Trim_eq] at h; exact h
  · cases h
theorem e_strings_Trim_nat : EntNat e_strings_Trim := by
  intro c hn N vs H τ q
  unfold e_strings_Trim
  split
  · rw [s_strings_Trim_eq, s_strings_Trim_eq]; exact funK_ent hn _ _ _ _ _ _
  · rfl
/-- strings.ContainsAny -/
def fn_strings_ContainsAny : Fun := ⟨2, (.seq (.reg [iR 4 (.p .mv) [(.c (.bool false))]]) (.keep [0, 1] (.seq (.reg [iR 5 (.p .mv) [(.t 0)], iR 6 (.p .mv) [(.t 1)], iR 7 (.call 76) [(.t 5), (.t 6)], iR 8 (.p (.bin .geq)) [(.t 7), (.c (.int .i64 (.ofNat 0)))], iR 4 (.p .mv) [(.t 8)]]) (.keep [4] (.keep [4] .ret))))), [(.t 4)]⟩
def s_strings_ContainsAny (call : CallK) (N : Nat) (a0 a1 : V) (H : Heap) (τ : Tape) (q : KV) : Ans := call f_strings_IndexAny [a0, a1] H τ fun v0 H1 τ2 => binK .geq v0 (.int .i64 (.ofNat 0)) fun v3 => q v3 H1 τ2
theorem s_strings_ContainsAny_eq (call : CallK) (N : Nat) (a0 a1 : V) (H : Heap) (τ : Tape) (q : KV) : s_strings_ContainsAny call N a0 a1 H τ q = funK call N fn_strings_ContainsAny [a0, a1] H τ q := by kernel_rfl
def e_strings_ContainsAny (call : CallK) (N : Nat) (vs : List V) (H : Heap) (τ : Tape) (q : KV) : Ans := match vs with | [a0, a1] => s_strings_ContainsAny call N a0 a1 H τ q | _ => none
theorem e_strings_ContainsAny_ok : EntOk fn_strings_ContainsAny e_strings_ContainsAny := by
  intro call N vs H τ q r h
  unfold e_strings_ContainsAny at h
  split at h
  · rw [s_strings_ContainsAny_eq] at h; exact h
  · cases h
theorem e_strings_ContainsAny_nat : EntNat e_strings_ContainsAny := by
  intro c hn N vs H τ q
  unfold e_strings_ContainsAny
  split
  · rw [s_strings_ContainsAny_eq, s_strings_ContainsAny_eq]; exact funK_ent hn _ _ _ _ _ _
  · rfl
/-- ostiary/ostiaryref1.Trim -/
def fn_ref1_Trim : Fun := ⟨2, (.seq (.reg [iR 4 (.p .mv) [(.c (.str []))]]) (.keep [0, 1] (.seq (.block 0 (.loop (.keep [0, 1] (.seq (.seq (.reg [iR 5 (.p .mv) [(.t 0)], iR 6 (.p .lenS) [(.t 5)], iR 7 (.p (.bin .gtr)) [(.t 6), (.c (.int .i64 (.ofNat 0)))], iR 8 (.p .mv) [(.t 7)], iG 9 8 true (.p .mv) [(.t 0)], iG 10 8 true (.p .strIndex) [(.t 9), (.c (.int .i64 (.ofNat 0)))], iG 11 8 true (.p .mv) [(.t 1)], iG 12 8 true (.call 77) [(.t 10), (.t 11)], iR 13 (.p .pick) [(.t 8), (.t 12), (.c (.bool false))]]) (.keep [0, 1, 13] (.cond (.t 13) .skip (.keep [0, 1] (.exit 0))))) (.keep [0, 1] (.block 1 (.reg [iR 14 (.p .mv) [(.t 0)], iR 15 (.p (.strSlice true false)) [(.t 14), (.c (.int .i64 (.ofNat 1)))], iR 0 (.p .mv) [(.t 15)]]))))))) (.keep [0, 1] (.seq (.block 2 (.loop (.keep [0, 1] (.seq (.seq (.reg [iR 16 (.p .mv) [(.t 0)], iR 17 (.p .lenS) [(.t 16)],
    iR 18 (.p (.bin .gtr)) [(.t 17), (.c (.int .i64 (.ofNat 0)))], iR 19 (.p .mv) [(.t 18)], iG 20 19 true (.p .mv) [(.t 0)], iG 21 19 true (.p .mv) [(.t 0)], iG 22 19 true (.p .lenS) [(.t 21)], iG 23 19 true (.p (.bin .sub)) [(.t 22), (.c (.int .i64 (.ofNat 1)))], iG 24 19 true (.p .strIndex) [(.t 20), (.t 23)], iG 25 19 true (.p .mv) [(.t 1)], iG 26 19 true (.call 77) [(.t 24), (.t 25)], iR 27 (.p .pick) [(.t 19), (.t 26), (.c (.bool false))]]) (.keep [0, 1, 27] (.cond (.t 27) .skip (.keep [0] (.exit 2))))) (.keep [0, 1] (.block 3 (.reg [iR 28 (.p .mv) [(.t 0)], iR 29 (.p .mv) [(.t 0)], iR 30 (.p .lenS) [(.t 29)], iR 31 (.p (.bin .sub)) [(.t 30), (.c (.int .i64 (.ofNat 1)))], iR 32 (.p (.strSlice false true)) [(.t 28), (.t 31)], iR 0 (.p .mv) [(.t 32)]]))))))) (.keep [0] (.seq (.reg [iR 33 (.p .mv) [(.t 0)], iR 4 (.p .mv) [(.t 33)]]) (.keep [4] (.keep [4] .ret))))))))), [(.t 4)]⟩
def s_ref1_Trim_j1 (call : CallK) (N : Nat) (q : KV) (st : St) (τ : Tape) : Ans := match st with
  | ⟨fr, H⟩ => getK fr 0 fun t0 => q t0 H τ
def s_ref1_Trim_l2 (call : CallK) (N : Nat) (st : St) (τ : Tape) (k : KC) : Ans := match st with
  | ⟨fr, H⟩ => getK fr 0 fun t0 => getK fr 1 fun t1 => someK (pLenS [t0]) fun v0 => binK .gtr v0 (.int .i64 (.ofNat 0)) fun v1 => gK v1 true (fun q' => q' t0 H τ) H τ fun v2 H3 τ4 => gK v1 true (fun q' => q' t0 H3 τ4) H3 τ4 fun v5 H6 τ7 => gK v1 true (fun q' => someK (pLenS [v5]) fun v => q' v H6 τ7) H6 τ7 fun v8 H9 τ10 => gK v1 true (fun q' => binK .sub v8 (.int .i64 (.ofNat 1)) fun v => q' v H9 τ10) H9 τ10 fun v11 H12 τ13 => gK v1 true (fun q' => someK (pStrIndex [v2, v11]) fun v => q' v H12 τ13) H12 τ13 fun v14 H15 τ16 => gK v1 true (fun q' => q' t1 H15 τ16) H15 τ16 fun v17 H18 τ19 => gK v1 true (fun q' => call f_ref1_ends [v14, v17] H18 τ19 q') H18 τ19 fun v20 H21 τ22 => someK (pPick [v1, v20, (.bool false)]) fun v23 => condK v23 (someK (pLenS [t0]) fun v24 => binK .sub v24 (.int .i64 (.ofNat 1)) fun v25 => someK (pStrSlice false true [t0, v25]) fun v26 =>
    k .normal ⟨(T.set (T.set (T.set (T.set (T.set (T.set (T.set (T.set .leaf 0 t0) 1 t1) 28 t0) 29 t0) 30 v24) 31 v25) 32 v26) 0 v26), H21⟩ τ22) (k (.exit 2) ⟨(T.set .leaf 0 t0), H21⟩ τ22)
def s_ref1_Trim_j0 (call : CallK) (N : Nat) (q : KV) (st : St) (τ : Tape) : Ans := match st with
  | ⟨fr, H⟩ => getK fr 0 fun t0 => getK fr 1 fun t1 => loopK (s_ref1_Trim_l2 call N) N ⟨(T.set (T.set .leaf 0 t0) 1 t1), H⟩ τ (blockK 2 (seqK (s_ref1_Trim_j1 call N q) (endK [(.t 4)] q)))
def s_ref1_Trim_l3 (call : CallK) (N : Nat) (st : St) (τ : Tape) (k : KC) : Ans := match st with
  | ⟨fr, H⟩ => getK fr 0 fun t0 => getK fr 1 fun t1 => someK (pLenS [t0]) fun v27 => binK .gtr v27 (.int .i64 (.ofNat 0)) fun v28 => gK v28 true (fun q' => q' t0 H τ) H τ fun v29 H30 τ31 => gK v28 true (fun q' => someK (pStrIndex [v29, (.int .i64 (.ofNat 0))]) fun v => q' v H30 τ31) H30 τ31 fun v32 H33 τ34 => gK v28 true (fun q' => q' t1 H33 τ34) H33 τ34 fun v35 H36 τ37 => gK v28 true (fun q' => call f_ref1_ends [v32, v35] H36 τ37 q') H36 τ37 fun v38 H39 τ40 => someK (pPick [v28, v38, (.bool false)]) fun v41 => condK v41 (someK (pStrSlice true false [t0, (.int .i64 (.ofNat 1))]) fun v42 => k .normal ⟨(T.set (T.set (T.set (T.set (T.set .leaf 0 t0) 1 t1) 14 t0) 15 v42) 0 v42), H39⟩ τ40) (k (.exit 0) ⟨(T.set (T.set .leaf 0 t0) 1 t1), H39⟩ τ40)
def s_ref1_Trim (call : CallK) (N : Nat) (a0 a1 : V) (H : Heap) (τ : Tape) (q : KV) : Ans := loopK (s_ref1_Trim_l3 call N) N ⟨(T.set (T.set .leaf 0 a0) 1 a1), H⟩ τ (blockK 0 (seqK (s_ref1_Trim_j0 call N q) (endK [(.t 4)] q)))
theorem s_ref1_Trim_eq (call : CallK) (N : Nat) (a0 a1 : V) (H : Heap) (τ : Tape) (q : KV) : s_ref1_Trim call N a0 a1 H τ q = funK call N fn_ref1_Trim [a0, a1] H τ q := by kernel_rfl
def e_ref1_Trim (call : CallK) (N : Nat) (vs : List V) (H : Heap) (τ : Tape) (q : KV) : Ans := match vs with | [a0, a1] => s_ref1_Trim call N a0 a1 H τ q | _ => none
theorem e_ref1_Trim_ok : EntOk fn_ref1_Trim e_ref1_Trim := by
  intro call N vs H τ q r h
  unfold e_ref1_Trim at h
  split at h
  · rw [s_ref1_Trim_eq] at h; exact h
  · cases h
theorem e_ref1_Trim_nat : EntNat e_ref1_Trim := by
  intro c hn N vs H τ q
  unfold e_ref1_Trim
  split
  · rw [s_ref1_Trim_eq, s_ref1_Trim_eq]; exact funK_ent hn _ _ _ _ _ _
  · rfl
/-- ostiary/headers.is -/
def fn_headers_is : Fun := ⟨2, (.seq (.reg [iR 2 (.e .box) [(.t 0)], iR 4 (.p .mv) [(.c (.bool false))]]) (.keep [1, 2] (.seq (.reg [iR 5 (.p (.fieldAddr 0)) [(.t 2)], iR 6 (.l (.load none)) [(.t 5)], iR 7 (.call 48) [(.t 6)], iR 8 (.p .mv) [(.t 1)], iR 9 (.call 48) [(.t 8)], iR 10 (.p (.bin .eql)) [(.t 7), (.t 9)], iR 4 (.p .mv) [(.t 10)]]) (.keep [4] (.keep [4] .ret))))), [(.t 4)]⟩
def s_headers_is (call : CallK) (N : Nat) (a0 a1 : V) (H : Heap) (τ : Tape) (q : KV) : Ans := effK (eBox [a0] H τ) fun v0 H1 τ2 => someK (pFieldAddr 0 [v0]) fun v3 => someK (lLoad1 [v3] H1) fun v4 => call f_infra_Lower [v4] H1 τ2 fun v5 H6 τ7 => call f_infra_Lower [a1] H6 τ7 fun v8 H9 τ10 => binK .eql v5 v8 fun v11 => q v11 H9 τ10
theorem s_headers_is_eq (call : CallK) (N : Nat) (a0 a1 : V) (H : Heap) (τ : Tape) (q : KV) : s_headers_is call N a0 a1 H τ q = funK call N fn_headers_is [a0, a1] H τ q := by kernel_rfl
def e_headers_is (call : CallK) (N : Nat) (vs : List V) (H : Heap) (τ : Tape) (q : KV) : Ans := match vs with | [a0, a1] => s_headers_is call N a0 a1 H τ q | _ => none
theorem e_headers_is_ok : EntOk fn_headers_is e_headers_is := by
  intro call N vs H τ q r h
  unfold e_headers_is at h
  split at h
  · rw [s_headers_is_eq] at h; exact h
  · cases h
theorem e_headers_is_nat : EntNat e_headers_is := by
  intro c hn N vs H τ q
  unfold e_headers_is
  split
  · rw [s_headers_is_eq, s_headers_is_eq]; exact funK_ent hn _ _ _ _ _ _
  · rfl
/-- ostiary/ostiaryref5.Named -/
def fn_ref5_Named : Fun := ⟨2, (.seq (.reg [iR 2 (.e .box) [(.t 0)], iR 4 (.p .mv) [(.c (.bool false))]]) (.keep [1, 2] (.seq (.reg [iR 5 (.p (.fieldAddr 0)) [(.t 2)], iR 6 (.l (.load none)) [(.t 5)], iR 7 (.call 51) [(.t 6)], iR 8 (.p .mv) [(.t 1)], iR 9 (.call 51) [(.t 8)], iR 10 (.p (.bin .eql)) [(.t 7), (.t 9)], iR 4 (.p .mv) [(.t 10)]]) (.keep [4] (.keep [4] .ret))))), [(.t 4)]⟩
def s_ref5_Named (call : CallK) (N : Nat) (a0 a1 : V) (H : Heap) (τ : Tape) (q : KV) : Ans := effK (eBox [a0] H τ) fun v0 H1 τ2 => someK (pFieldAddr 0 [v0]) fun v3 => someK (lLoad1 [v3] H1) fun v4 => call f_ref1_Lower [v4] H1 τ2 fun v5 H6 τ7 => call f_ref1_Lower [a1] H6 τ7 fun v8 H9 τ10 => binK .eql v5 v8 fun v11 => q v11 H9 τ10
theorem s_ref5_Named_eq (call : CallK) (N : Nat) (a0 a1 : V) (H : Heap) (τ : Tape) (q : KV) : s_ref5_Named call N a0 a1 H τ q = funK call N fn_ref5_Named [a0, a1] H τ q := by kernel_rfl
def e_ref5_Named (call : CallK) (N : Nat) (vs : List V) (H : Heap) (τ : Tape) (q : KV) : Ans := match vs with | [a0, a1] => s_ref5_Named call N a0 a1 H τ q | _ => none
theorem e_ref5_Named_ok : EntOk fn_ref5_Named e_ref5_Named := by
  intro call N vs H τ q r h
  unfold e_ref5_Named at h
  split at h
  · rw [s_ref5_Named_eq] at h; exact h
  · cases h
theorem e_ref5_Named_nat : EntNat e_ref5_Named := by
  intro c hn N vs H τ q
  unfold e_ref5_Named
  split
  · rw [s_ref5_Named_eq, s_ref5_Named_eq]; exact funK_ent hn _ _ _ _ _ _
  · rfl
/-- strings.CutPrefix -/
def fn_strings_CutPrefix : Fun := ⟨2, (.seq (.reg [iR 4 (.p .mv) [(.c (.str []))], iR 5 (.p .mv) [(.c (.bool false))]]) (.keep [0, 1] (.seq (.reg [iR 6 (.p .mv) [(.t 0)], iR 7 (.p .mv) [(.t 1)], iR 8 (.call 81) [(.t 6), (.t 7)], iR 9 (.p (.extract 0)) [(.t 8)], iR 10 (.p (.extract 1)) [(.t 8)], iR 4 (.p .mv) [(.t 9)], iR 5 (.p .mv) [(.t 10)]]) (.keep [4, 5] (.keep [4, 5] .ret))))), [(.t 4), (.t 5)]⟩
def s_strings_CutPrefix (call : CallK) (N : Nat) (a0 a1 : V) (H : Heap) (τ : Tape) (q : KV) : Ans := call f_stringslite_CutPrefix [a0, a1] H τ fun v0 H1 τ2 => someK (pExtract 0 [v0]) fun v3 => someK (pExtract 1 [v0]) fun v4 => q (.tup [v3, v4]) H1 τ2
theorem s_strings_CutPrefix_eq (call : CallK) (N : Nat) (a0 a1 : V) (H : Heap) (τ : Tape) (q : KV) : s_strings_CutPrefix call N a0 a1 H τ q = funK call N fn_strings_CutPrefix [a0, a1] H τ q := by kernel_rfl
def e_strings_CutPrefix (call : CallK) (N : Nat) (vs : List V) (H : Heap) (τ : Tape) (q : KV) : Ans := match vs with | [a0, a1] => s_strings_CutPrefix call N a0 a1 H τ q | _ => none
theorem e_strings_CutPrefix_ok : EntOk fn_strings_CutPrefix e_strings_CutPrefix := by
  intro call N vs H τ q r h
  unfold e_strings_CutPrefix at h
  split at h
  · rw [s_strings_CutPrefix_eq] at h; exact h
  · cases h
theorem e_strings_CutPrefix_nat : EntNat e_strings_CutPrefix := by
  intro c hn N vs H τ q
  unfold e_strings_CutPrefix
  split
  · rw [s_strings_CutPrefix_eq, s_strings_CutPrefix_eq]; exact funK_ent hn _ _ _ _ _ _
  · rfl
/-- strings.Cut -/
def fn_strings_Cut : Fun := ⟨2, (.seq (.reg [iR 4 (.p .mv) [(.c (.str []))], iR 5 (.p .mv) [(.c (.str []))], iR 6 (.p .mv) [(.c (.bool false))]]) (.keep [0, 1] (.seq (.reg [iR 7 (.p .mv) [(.t 0)], iR 8 (.p .mv) [(.t 1)], iR 9 (.call 82) [(.t 7), (.t 8)], iR 10 (.p (.extract 0)) [(.t 9)], iR 11 (.p (.extract 1)) [(.t 9)], iR 12 (.p (.extract 2)) [(.t 9)], iR 4 (.p .mv) [(.t 10)], iR 5 (.p .mv) [(.t 11)], iR 6 (.p .mv) [(.t 12)]]) (.keep [4, 5, 6] (.keep [4, 5, 6] .ret))))), [(.t 4), (.t 5), (.t 6)]⟩
def s_strings_Cut (call : CallK) (N : Nat) (a0 a1 : V) (H : Heap) (τ : Tape) (q : KV) : Ans := call f_stringslite_Cut [a0, a1] H τ fun v0 H1 τ2 => someK (pExtract 0 [v0]) fun v3 => someK (pExtract 1 [v0]) fun v4 => someK (pExtract 2 [v0]) fun v5 => q (.tup [v3, v4, v5]) H1 τ2
theorem s_strings_Cut_eq (call : CallK) (N : Nat) (a0 a1 : V) (H : Heap) (τ : Tape) (q : KV) : s_strings_Cut call N a0 a1 H τ q = funK call N fn_strings_Cut [a0, a1] H τ q := by kernel_rfl
def e_strings_Cut (call : CallK) (N : Nat) (vs : List V) (H : Heap) (τ : Tape) (q : KV) : Ans := match vs with | [a0, a1] => s_strings_Cut call N a0 a1 H τ q | _ => none
theorem e_strings_Cut_ok : EntOk fn_strings_Cut e_strings_Cut := by
  intro call N vs H τ q r h
  unfold e_strings_Cut at h
  split at h
  · rw [s_strings_Cut_eq] at h; exact h
  · cases h
theorem e_strings_Cut_nat : EntNat e_strings_Cut := by
  intro c hn N vs H τ q
  unfold e_strings_Cut
  split
  · rw [s_strings_Cut_eq, s_strings_Cut_eq]; exact funK_ent hn _ _ _ _ _ _
  · rfl
/-- ostiary/headers.told -/
def fn_headers_told : Fun := ⟨1, (.seq (.reg [iR 2 (.p .mv) [(.c (.int .i64 (.ofNat 0)))], iR 3 (.p .mv) [(.c (.bool false))]]) (.keep [0] (.seq (.seq (.reg [iR 4 (.p .mv) [(.t 0)], iR 5 (.p (.bin .eql)) [(.t 4), (.c (.str []))]]) (.keep [0, 5] (.cond (.t 5) (.seq (.reg [iR 2 (.p .mv) [(.c (.int .i64 (.negSucc 0)))], iR 3 (.p .mv) [(.c (.bool true))]]) (.keep [2, 3] (.keep [2, 3] .ret))) .skip))) (.keep [0] (.seq (.reg [iR 6 (.p .mv) [(.t 0)], iR 7 (.call 83) [(.t 6)], iR 8 (.p (.extract 0)) [(.t 7)], iR 9 (.p (.extract 1)) [(.t 7)], iR 2 (.p .mv) [(.t 8)], iR 3 (.p .mv) [(.t 9)]]) (.keep [2, 3] (.keep [2, 3] .ret))))))), [(.t 2), (.t 3)]⟩
def s_headers_told (call : CallK) (N : Nat) (a0 : V) (H : Heap) (τ : Tape) (q : KV) : Ans := binK .eql a0 (.str []) fun v0 => condK v0 (q (.tup [(.int .i64 (.negSucc 0)), (.bool true)]) H τ) (call f_infra_Int [a0] H τ fun v1 H2 τ3 => someK (pExtract 0 [v1]) fun v4 => someK (pExtract 1 [v1]) fun v5 => q (.tup [v4, v5]) H2 τ3)
theorem s_headers_told_eq (call : CallK) (N : Nat) (a0 : V) (H : Heap) (τ : Tape) (q : KV) : s_headers_told call N a0 H τ q = funK call N fn_headers_told [a0] H τ q := by kernel_rfl
def e_headers_told (call : CallK) (N : Nat) (vs : List V) (H : Heap) (τ : Tape) (q : KV) : Ans := match vs with | [a0] => s_headers_told call N a0 H τ q | _ => none
theorem e_headers_told_ok : EntOk fn_headers_told e_headers_told := by
  intro call N vs H τ q r h
  unfold e_headers_told at h
  split at h
  · rw [s_headers_told_eq] at h; exact h
  · cases h
theorem e_headers_told_nat : EntNat e_headers_told := by
  intro c hn N vs H τ q
  unfold e_headers_told
  split
  · rw [s_headers_told_eq, s_headers_told_eq]; exact funK_ent hn _ _ _ _ _ _
  · rfl
/-- ostiary/ostiaryref1.Begins -/
def fn_ref1_Begins : Fun := ⟨2, (.seq (.reg [iR 4 (.p .mv) [(.c (.bool false))]]) (.keep [0, 1] (.seq (.reg [iR 5 (.p .mv) [(.t 0)], iR 6 (.p .lenS) [(.t 5)], iR 7 (.p .mv) [(.t 1)], iR 8 (.p .lenS) [(.t 7)], iR 9 (.p (.bin .geq)) [(.t 6), (.t 8)], iR 10 (.p .mv) [(.t 9)], iG 11 10 true (.p .mv) [(.t 0)], iG 12 10 true (.p .mv) [(.t 1)], iG 13 10 true (.p .lenS) [(.t 12)], iG 14 10 true (.p (.strSlice false true)) [(.t 11), (.t 13)], iG 15 10 true (.p .mv) [(.t 1)], iG 16 10 true (.p (.bin .eql)) [(.t 14), (.t 15)], iR 17 (.p .pick) [(.t 10), (.t 16), (.c (.bool false))], iR 4 (.p .mv) [(.t 17)]]) (.keep [4] (.keep [4] .ret))))), [(.t 4)]⟩
def s_ref1_Begins (call : CallK) (N : Nat) (a0 a1 : V) (H : Heap) (τ : Tape) (q : KV) : Ans := someK (pLenS [a0]) fun v0 => someK (pLenS [a1]) fun v1 => binK .geq v0 v1 fun v2 => gK v2 true (fun q' => q' a0 H τ) H τ fun v3 H4 τ5 => gK v2 true (fun q' => q' a1 H4 τ5) H4 τ5 fun v6 H7 τ8 => gK v2 true (fun q' => someK (pLenS [v6]) fun v => q' v H7 τ8) H7 τ8 fun v9 H10 τ11 => gK v2 true (fun q' => someK (pStrSlice false true [v3, v9]) fun v => q' v H10 τ11) H10 τ11 fun v12 H13 τ14 => gK v2 true (fun q' => q' a1 H13 τ14) H13 τ14 fun v15 H16 τ17 => gK v2 true (fun q' => binK .eql v12 v15 fun v => q' v H16 τ17) H16 τ17 fun v18 H19 τ20 => someK (pPick [v2, v18, (.bool false)]) fun v21 => q v21 H19 τ20
theorem s_ref1_Begins_eq (call : CallK) (N : Nat) (a0 a1 : V) (H : Heap) (τ : Tape) (q : KV) : s_ref1_Begins call N a0 a1 H τ q = funK call N fn_ref1_Begins [a0, a1] H τ q := by kernel_rfl
def e_ref1_Begins (call : CallK) (N : Nat) (vs : List V) (H : Heap) (τ : Tape) (q : KV) : Ans := match vs with | [a0, a1] => s_ref1_Begins call N a0 a1 H τ q | _ => none
theorem e_ref1_Begins_ok : EntOk fn_ref1_Begins e_ref1_Begins := by
  intro call N vs H τ q r h
  unfold e_ref1_Begins at h
  split at h
  · rw [s_ref1_Begins_eq] at h; exact h
  · cases h
theorem e_ref1_Begins_nat : EntNat e_ref1_Begins := by
  intro c hn N vs H τ q
  unfold e_ref1_Begins
  split
  · rw [s_ref1_Begins_eq, s_ref1_Begins_eq]; exact funK_ent hn _ _ _ _ _ _
  · rfl
/-- ostiary/ostiaryref1.Part -/
def fn_ref1_Part : Fun := ⟨2, (.seq (.reg [iR 4 (.p .mv) [(.c (.str []))], iR 5 (.p .mv) [(.c (.str []))], iR 6 (.p .mv) [(.c (.bool false))]]) (.keep [0, 1] (.seq (.seq (.reg [iR 7 (.p .mv) [(.c (.int .i64 (.ofNat 0)))]]) (.keep [0, 1, 7] (.block 0 (.loop (.keep [0, 1, 7] (.seq (.seq (.reg [iR 8 (.p .mv) [(.t 7)], iR 9 (.p .mv) [(.t 0)], iR 10 (.p .lenS) [(.t 9)], iR 11 (.p (.bin .lss)) [(.t 8), (.t 10)]]) (.keep [0, 1, 7, 11] (.cond (.t 11) .skip (.keep [0] (.exit 0))))) (.keep [0, 1, 7] (.seq (.block 1 (.seq (.reg [iR 14 (.p .mv) [(.t 0)], iR 15 (.p .mv) [(.t 7)], iR 16 (.p .strIndex) [(.t 14), (.t 15)], iR 17 (.p .mv) [(.t 1)], iR 18 (.p (.bin .eql)) [(.t 16), (.t 17)]]) (.keep [0, 1, 7, 18] (.cond (.t 18) (.seq (.draw [iR 19 (.p .mv) [(.t 0)], iR 20 (.p .mv) [(.t 7)], iR 21 (.p (.strSlice false true)) [(.t 19), (.t 20)], iR 22 (.p .mv) [(.t 0)], iR 23 (.p .mv) [(.t 7)],
    iR 24 (.p (.bin .add)) [(.t 23), (.c (.int .i64 (.ofNat 1)))], iR 25 (.p (.strSlice true false)) [(.t 22), (.t 24)], iR 4 (.p .mv) [(.t 21)], iR 5 (.p .mv) [(.t 25)], iR 6 (.p .mv) [(.c (.bool true))]]) (.keep [4, 5, 6] (.keep [4, 5, 6] .ret))) .skip)))) (.keep [0, 1, 7] (.reg [iR 12 (.p .mv) [(.t 7)], iR 13 (.p (.bin .add)) [(.t 12), (.c (.int .i64 (.ofNat 1)))], iR 7 (.p .mv) [(.t 13)]])))))))))) (.keep [0] (.seq (.reg [iR 26 (.p .mv) [(.t 0)], iR 4 (.p .mv) [(.t 26)], iR 5 (.p .mv) [(.c (.str []))], iR 6 (.p .mv) [(.c (.bool false))]]) (.keep [4, 5, 6] (.keep [4, 5, 6] .ret))))))), [(.t 4), (.t 5), (.t 6)]⟩
def s_ref1_Part_j0 (call : CallK) (N : Nat) (q : KV) (st : St) (τ : Tape) : Ans := match st with
  | ⟨fr, H⟩ => getK fr 0 fun t0 => q (.tup [t0, (.str []), (.bool false)]) H τ
def s_ref1_Part_l1 (call : CallK) (N : Nat) (st : St) (τ : Tape) (k : KC) : Ans := match st with
  | ⟨fr, H⟩ => getK fr 0 fun t0 => getK fr 1 fun t1 => getK fr 7 fun t7 => someK (pLenS [t0]) fun v0 => binK .lss t7 v0 fun v1 => condK v1 (someK (pStrIndex [t0, t7]) fun v2 => binK .eql v2 t1 fun v3 => condK v3 (someK (pStrSlice false true [t0, t7]) fun v4 => binK .add t7 (.int .i64 (.ofNat 1)) fun v5 => someK (pStrSlice true false [t0, v5]) fun v6 => k .ret ⟨(T.set (T.set (T.set .leaf 4 v4) 5 v6) 6 (.bool true)), H⟩ τ) (binK .add t7 (.int .i64 (.ofNat 1)) fun v7 => k .normal ⟨(T.set (T.set (T.set (T.set (T.set (T.set .leaf 0 t0) 1 t1) 7 t7) 12 t7) 13 v7) 7 v7), H⟩ τ)) (k (.exit 0) ⟨(T.set .leaf 0 t0), H⟩ τ)
def s_ref1_Part (call : CallK) (N : Nat) (a0 a1 : V) (H : Heap) (τ : Tape) (q : KV) : Ans := loopK (s_ref1_Part_l1 call N) N ⟨(T.set (T.set (T.set .leaf 0 a0) 1 a1) 7 (.int .i64 (.ofNat 0))), H⟩ τ (blockK 0 (seqK (s_ref1_Part_j0 call N q) (endK [(.t 4), (.t 5), (.t 6)] q)))
theorem s_ref1_Part_eq (call : CallK) (N : Nat) (a0 a1 : V) (H : Heap) (τ : Tape) (q : KV) : s_ref1_Part call N a0 a1 H τ q = funK call N fn_ref1_Part [a0, a1] H τ q := by kernel_rfl
def e_ref1_Part (call : CallK) (N : Nat) (vs : List V) (H : Heap) (τ : Tape) (q : KV) : Ans := match vs with | [a0, a1] => s_ref1_Part call N a0 a1 H τ q | _ => none
theorem e_ref1_Part_ok : EntOk fn_ref1_Part e_ref1_Part := by
  intro call N vs H τ q r h
  unfold e_ref1_Part at h
  split at h
  · rw [s_ref1_Part_eq] at h; exact h
  · cases h
theorem e_ref1_Part_nat : EntNat e_ref1_Part := by
  intro c hn N vs H τ q
  unfold e_ref1_Part
  split
  · rw [s_ref1_Part_eq, s_ref1_Part_eq]; exact funK_ent hn _ _ _ _ _ _
  · rfl
/-- ostiary/ostiaryref1.Int -/
def fn_ref1_Int : Fun := ⟨1, (.seq (.reg [iR 2 (.p .mv) [(.c (.int .i64 (.ofNat 0)))], iR 3 (.p .mv) [(.c (.bool false))]]) (.keep [0] (.seq (.reg [iR 4 (.p .mv) [(.c (.int .i64 (.ofNat 0)))]]) (.keep [0, 4] (.seq (.seq (.reg [iR 5 (.p .mv) [(.c (.int .i64 (.ofNat 0)))]]) (.keep [0, 4, 5] (.block 0 (.loop (.keep [0, 4, 5] (.seq (.seq (.reg [iR 7 (.p .mv) [(.t 5)], iR 8 (.p .mv) [(.t 0)], iR 9 (.p .lenS) [(.t 8)], iR 10 (.p (.bin .lss)) [(.t 7), (.t 9)]]) (.keep [0, 4, 5, 10] (.cond (.t 10) .skip (.keep [0, 4] (.exit 0))))) (.keep [0, 4, 5] (.seq (.block 1 (.seq (.seq (.reg [iR 13 (.p .mv) [(.t 0)], iR 14 (.p .mv) [(.t 5)], iR 15 (.p .strIndex) [(.t 13), (.t 14)], iR 16 (.call 84) [(.t 15)], iR 17 (.p (.un .not)) [(.t 16)]]) (.keep [0, 4, 5, 17] (.cond (.t 17) (.seq (.reg [iR 2 (.p .mv) [(.c (.int .i64 (.ofNat 0)))], iR 3 (.p .mv) [(.c (.bool false))]])
    (.keep [2, 3] (.keep [2, 3] .ret))) .skip))) (.keep [0, 4, 5] (.seq (.reg [iR 18 (.p .mv) [(.t 0)], iR 19 (.p .mv) [(.t 5)], iR 20 (.p .strIndex) [(.t 18), (.t 19)], iR 21 (.p (.bin .sub)) [(.t 20), (.c (.int .u8 (.ofNat 48)))], iR 22 (.p (.toInt .i64)) [(.t 21)], iR 6 (.p .mv) [(.t 22)]]) (.keep [0, 4, 5, 6] (.seq (.seq (.reg [iR 23 (.p .mv) [(.t 4)], iR 24 (.p .mv) [(.t 6)], iR 25 (.p (.bin .sub)) [(.c (.int .i64 (.ofNat 9223372036854775807))), (.t 24)], iR 26 (.p (.bin .quo)) [(.t 25), (.c (.int .i64 (.ofNat 10)))], iR 27 (.p (.bin .gtr)) [(.t 23), (.t 26)]]) (.keep [0, 4, 5, 6, 27] (.cond (.t 27) (.seq (.reg [iR 4 (.p .mv) [(.c (.int .i64 (.ofNat 9223372036854775807)))]]) (.keep [0, 4, 5] (.keep [0, 4, 5] (.exit 1)))) .skip))) (.keep [0, 4, 5, 6] (.reg [iR 28 (.p .mv) [(.t 4)], iR 29 (.p (.bin .mul)) [(.t 28), (.c (.int .i64 (.ofNat 10)))], iR 30 (.p .mv) [(.t 6)],
    iR 31 (.p (.bin .add)) [(.t 29), (.t 30)], iR 4 (.p .mv) [(.t 31)]])))))))) (.keep [0, 4, 5] (.reg [iR 11 (.p .mv) [(.t 5)], iR 12 (.p (.bin .add)) [(.t 11), (.c (.int .i64 (.ofNat 1)))], iR 5 (.p .mv) [(.t 12)]])))))))))) (.keep [0, 4] (.seq (.reg [iR 32 (.p .mv) [(.t 4)], iR 33 (.p .mv) [(.t 0)], iR 34 (.p .lenS) [(.t 33)], iR 35 (.p (.bin .gtr)) [(.t 34), (.c (.int .i64 (.ofNat 0)))], iR 2 (.p .mv) [(.t 32)], iR 3 (.p .mv) [(.t 35)]]) (.keep [2, 3] (.keep [2, 3] .ret))))))))), [(.t 2), (.t 3)]⟩
def s_ref1_Int_j0 (call : CallK) (N : Nat) (q : KV) (st : St) (τ : Tape) : Ans := match st with
  | ⟨fr, H⟩ => getK fr 0 fun t0 => getK fr 4 fun t4 => someK (pLenS [t0]) fun v0 => binK .gtr v0 (.int .i64 (.ofNat 0)) fun v1 => q (.tup [t4, v1]) H τ
def s_ref1_Int_j2 (call : CallK) (N : Nat) (k : KC) (st : St) (τ : Tape) : Ans := match st with
  | ⟨fr, H⟩ => getK fr 0 fun t0 => getK fr 4 fun t4 => getK fr 5 fun t5 => binK .add t5 (.int .i64 (.ofNat 1)) fun v4 => k .normal ⟨(T.set (T.set (T.set (T.set (T.set (T.set .leaf 0 t0) 4 t4) 5 t5) 11 t5) 12 v4) 5 v4), H⟩ τ
def s_ref1_Int_l1 (call : CallK) (N : Nat) (st : St) (τ : Tape) (k : KC) : Ans := match st with
  | ⟨fr, H⟩ => getK fr 0 fun t0 => getK fr 4 fun t4 => getK fr 5 fun t5 => someK (pLenS [t0]) fun v2 => binK .lss t5 v2 fun v3 => condK v3 (someK (pStrIndex [t0, t5]) fun v5 => call f_ref1_Digit [v5] H τ fun v6 H7 τ8 => unK .not v6 fun v9 => condK v9 (k .ret ⟨(T.set (T.set .leaf 2 (.int .i64 (.ofNat 0))) 3 (.bool false)), H7⟩ τ8) (someK (pStrIndex [t0, t5]) fun v10 => binK .sub v10 (.int .u8 (.ofNat 48)) fun v11 => toIntK .i64 v11 fun v12 => binK .sub (.int .i64 (.ofNat 9223372036854775807)) v12 fun v13 => binK .quo v13 (.int .i64 (.ofNat 10)) fun v14 => binK .gtr t4 v14 fun v15 => condK v15 (s_ref1_Int_j2 call N k ⟨(T.set (T.set (T.set .leaf 0 t0) 4 (.int .i64 (.ofNat 9223372036854775807))) 5 t5), H7⟩ τ8) (binK .mul t4 (.int .i64 (.ofNat 10)) fun v16 => binK .add v16 v12 fun v17 =>
    s_ref1_Int_j2 call N k ⟨(T.set (T.set (T.set (T.set (T.set (T.set (T.set (T.set (T.set .leaf 0 t0) 4 t4) 5 t5) 6 v12) 28 t4) 29 v16) 30 v12) 31 v17) 4 v17), H7⟩ τ8))) (k (.exit 0) ⟨(T.set (T.set .leaf 0 t0) 4 t4), H⟩ τ)
def s_ref1_Int (call : CallK) (N : Nat) (a0 : V) (H : Heap) (τ : Tape) (q : KV) : Ans := loopK (s_ref1_Int_l1 call N) N ⟨(T.set (T.set (T.set .leaf 0 a0) 4 (.int .i64 (.ofNat 0))) 5 (.int .i64 (.ofNat 0))), H⟩ τ (blockK 0 (seqK (s_ref1_Int_j0 call N q) (endK [(.t 2), (.t 3)] q)))
theorem s_ref1_Int_eq (call : CallK) (N : Nat) (a0 : V) (H : Heap) (τ : Tape) (q : KV) : s_ref1_Int call N a0 H τ q = funK call N fn_ref1_Int [a0] H τ q := by kernel_rfl
def e_ref1_Int (call : CallK) (N : Nat) (vs : List V) (H : Heap) (τ : Tape) (q : KV) : Ans := match vs with | [a0] => s_ref1_Int call N a0 H τ q | _ => none
theorem e_ref1_Int_ok : EntOk fn_ref1_Int e_ref1_Int := by
  intro call N vs H τ q r h
  unfold e_ref1_Int at h
  split at h
  · rw [s_ref1_Int_eq] at h; exact h
  · cases h
theorem e_ref1_Int_nat : EntNat e_ref1_Int := by
  intro c hn N vs H τ q
  unfold e_ref1_Int
  split
  · rw [s_ref1_Int_eq, s_ref1_Int_eq]; exact funK_ent hn _ _ _ _ _ _
  · rfl
/-- ostiary/infra.Lower -/
def fn_infra_Lower : Fun := ⟨1, (.seq (.reg [iR 2 (.p .mv) [(.c (.str []))]]) (.keep [0] (.seq (.reg [iR 3 (.p .mv) [(.t 0)], iR 4 (.call 85) [(.t 3), (.c (.func 86 [] []))], iR 2 (.p .mv) [(.t 4)]]) (.keep [2] (.keep [2] .ret))))), [(.t 2)]⟩
def s_infra_Lower (call : CallK) (N : Nat) (a0 : V) (H : Heap) (τ : Tape) (q : KV) : Ans := call f_infra_mapped [a0, (.func f_infra_Lower_1 [] [])] H τ fun v0 H1 τ2 => q v0 H1 τ2
theorem s_infra_Lower_eq (call : CallK) (N : Nat) (a0 : V) (H : Heap) (τ : Tape) (q : KV) : s_infra_Lower call N a0 H τ q = funK call N fn_infra_Lower [a0] H τ q := by kernel_rfl
def e_infra_Lower (call : CallK) (N : Nat) (vs : List V) (H : Heap) (τ : Tape) (q : KV) : Ans := match vs with | [a0] => s_infra_Lower call N a0 H τ q | _ => none
theorem e_infra_Lower_ok : EntOk fn_infra_Lower e_infra_Lower := by
  intro call N vs H τ q r h
  unfold e_infra_Lower at h
  split at h
  · rw [s_infra_Lower_eq] at h; exact h
  · cases h
theorem e_infra_Lower_nat : EntNat e_infra_Lower := by
  intro c hn N vs H τ q
  unfold e_infra_Lower
  split
  · rw [s_infra_Lower_eq, s_infra_Lower_eq]; exact funK_ent hn _ _ _ _ _ _
  · rfl
/-- ostiary/ostiaryref1.Lower -/
def fn_ref1_Lower : Fun := ⟨1, (.seq (.reg [iR 2 (.p .mv) [(.c (.str []))]]) (.keep [0] (.seq (.reg [iR 5 (.p .mv) [(.t 0)], iR 6 (.e .strBytes) [(.t 5)], iR 3 (.p .mv) [(.t 6)]]) (.keep [3] (.seq (.seq (.reg [iR 4 (.p .mv) [(.c (.int .i64 (.ofNat 0)))]]) (.keep [3, 4] (.block 0 (.loop (.keep [3, 4] (.seq (.seq (.reg [iR 7 (.p .mv) [(.t 4)], iR 8 (.p .mv) [(.t 3)], iR 9 (.p .len) [(.t 8)], iR 10 (.p (.bin .lss)) [(.t 7), (.t 9)]]) (.keep [3, 4, 10] (.cond (.t 10) .skip (.keep [3] (.exit 0))))) (.keep [3, 4] (.seq (.block 1 (.seq (.reg [iR 13 (.p .mv) [(.t 3)], iR 14 (.p .mv) [(.t 4)], iR 15 (.p (.slIdx 1)) [(.t 13), (.t 14)], iR 16 (.l (.load none)) [(.t 15)], iR 17 (.p (.bin .geq)) [(.t 16), (.c (.int .u8 (.ofNat 65)))], iR 18 (.p .mv) [(.t 17)], iG 19 18 true (.p .mv) [(.t 3)], iG 20 18 true (.p .mv) [(.t 4)], iG 21 18 true (.p (.slIdx 1)) [(.t 19), (.t 20)],
    iG 22 18 true (.l (.load none)) [(.t 21)], iG 23 18 true (.p (.bin .leq)) [(.t 22), (.c (.int .u8 (.ofNat 90)))], iR 24 (.p .pick) [(.t 18), (.t 23), (.c (.bool false))]]) (.keep [3, 4, 24] (.cond (.t 24) (.reg [iR 25 (.p .mv) [(.t 3)], iR 26 (.p .mv) [(.t 4)], iR 27 (.p .mv) [(.t 3)], iR 28 (.p .mv) [(.t 4)], iR 29 (.p (.slIdx 1)) [(.t 27), (.t 28)], iR 30 (.l (.load none)) [(.t 29)], iR 31 (.p (.bin .add)) [(.t 30), (.c (.int .u8 (.ofNat 32)))], iR 32 (.p (.slIdx 1)) [(.t 25), (.t 26)], ⟨none, none, (.e (.store 1)), [(.t 32), (.t 31)], none⟩]) .skip)))) (.keep [3, 4] (.reg [iR 11 (.p .mv) [(.t 4)], iR 12 (.p (.bin .add)) [(.t 11), (.c (.int .i64 (.ofNat 1)))], iR 4 (.p .mv) [(.t 12)]])))))))))) (.keep [3] (.seq (.reg [iR 33 (.p .mv) [(.t 3)], iR 34 (.l .bytesStr) [(.t 33)], iR 2 (.p .mv) [(.t 34)]]) (.keep [2] (.keep [2] .ret))))))))), [(.t 2)]⟩
def s_ref1_Lower_j0 (call : CallK) (N : Nat) (q : KV) (st : St) (τ : Tape) : Ans := match st with
  | ⟨fr, H⟩ => getK fr 3 fun t3 => someK (lBytesStr [t3] H) fun v3 => q v3 H τ
def s_ref1_Lower_j2 (call : CallK) (N : Nat) (k : KC) (st : St) (τ : Tape) : Ans := match st with
  | ⟨fr, H⟩ => getK fr 3 fun t3 => getK fr 4 fun t4 => binK .add t4 (.int .i64 (.ofNat 1)) fun v6 => k .normal ⟨(T.set (T.set (T.set (T.set (T.set .leaf 3 t3) 4 t4) 11 t4) 12 v6) 4 v6), H⟩ τ
def s_ref1_Lower_l1 (call : CallK) (N : Nat) (st : St) (τ : Tape) (k : KC) : Ans := match st with
  | ⟨fr, H⟩ => getK fr 3 fun t3 => getK fr 4 fun t4 => someK (pLen [t3]) fun v4 => binK .lss t4 v4 fun v5 => condK v5 (someK (pSlIdx 1 [t3, t4]) fun v7 => someK (lLoad1 [v7] H) fun v8 => binK .geq v8 (.int .u8 (.ofNat 65)) fun v9 => gK v9 true (fun q' => q' t3 H τ) H τ fun v10 H11 τ12 => gK v9 true (fun q' => q' t4 H11 τ12) H11 τ12 fun v13 H14 τ15 => gK v9 true (fun q' => someK (pSlIdx 1 [v10, v13]) fun v => q' v H14 τ15) H14 τ15 fun v16 H17 τ18 => gK v9 true (fun q' => someK (lLoad1 [v16] H17) fun v => q' v H17 τ18) H17 τ18 fun v19 H20 τ21 => gK v9 true (fun q' => binK .leq v19 (.int .u8 (.ofNat 90)) fun v => q' v H20 τ21) H20 τ21 fun v22 H23 τ24 => someK (pPick [v9, v22, (.bool false)]) fun v25 => condK v25 (someK (pSlIdx 1 [t3, t4]) fun v26 => someK (lLoad1 [v26] H23) fun v27 => binK .add v27 (.int .u8 (.ofNat 32)) fun v28 => someK (pSlIdx 1 [t3, t4]) fun v29 =>
    effK (eStore 1 [v29, v28] H23 τ24) fun v30 H31 τ32 => s_ref1_Lower_j2 call N k ⟨(T.set (T.set (T.set (T.set (T.set (T.set (T.set (T.set (T.set (T.set (T.set .leaf 3 t3) 4 t4) 24 v25) 25 t3) 26 t4) 27 t3) 28 t4) 29 v26) 30 v27) 31 v28) 32 v29), H31⟩ τ32) (s_ref1_Lower_j2 call N k ⟨(T.set (T.set (T.set .leaf 3 t3) 4 t4) 24 v25), H23⟩ τ24)) (k (.exit 0) ⟨(T.set .leaf 3 t3), H⟩ τ)
def s_ref1_Lower (call : CallK) (N : Nat) (a0 : V) (H : Heap) (τ : Tape) (q : KV) : Ans := effK (eStrBytes [a0] H τ) fun v0 H1 τ2 => loopK (s_ref1_Lower_l1 call N) N ⟨(T.set (T.set .leaf 3 v0) 4 (.int .i64 (.ofNat 0))), H1⟩ τ2 (blockK 0 (seqK (s_ref1_Lower_j0 call N q) (endK [(.t 2)] q)))
theorem s_ref1_Lower_eq (call : CallK) (N : Nat) (a0 : V) (H : Heap) (τ : Tape) (q : KV) : s_ref1_Lower call N a0 H τ q = funK call N fn_ref1_Lower [a0] H τ q := by kernel_rfl
def e_ref1_Lower (call : CallK) (N : Nat) (vs : List V) (H : Heap) (τ : Tape) (q : KV) : Ans := match vs with | [a0] => s_ref1_Lower call N a0 H τ q | _ => none
theorem e_ref1_Lower_ok : EntOk fn_ref1_Lower e_ref1_Lower := by
  intro call N vs H τ q r h
  unfold e_ref1_Lower at h
  split at h
  · rw [s_ref1_Lower_eq] at h; exact h
  · cases h
theorem e_ref1_Lower_nat : EntNat e_ref1_Lower := by
  intro c hn N vs H τ q
  unfold e_ref1_Lower
  split
  · rw [s_ref1_Lower_eq, s_ref1_Lower_eq]; exact funK_ent hn _ _ _ _ _ _
  · rfl
end Go.Am.X
