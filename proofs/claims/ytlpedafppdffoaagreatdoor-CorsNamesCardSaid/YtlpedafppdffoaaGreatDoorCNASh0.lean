/- The abstract machine, printed functions of the program, and what they are shown to be. -/
import Derived.Test.YtlpedafppdffoaaGreatDoorCNAM5
import Derived.KernelRfl
set_option linter.unusedVariables false
namespace Go.Am.X
set_option maxRecDepth 1000000
abbrev funE (fn : Fun) : Ent := fun call N vs H τ q => funK call N fn vs H τ q
theorem funE_ok (fn : Fun) : EntOk fn (funE fn) := fun _ _ _ _ _ _ _ h => h
theorem funE_nat (fn : Fun) : EntNat (funE fn) := fun _ hn _ _ _ _ _ => funK_ent hn _ _ _ _ _ _
abbrev iR (n : Nat) (o : AOp) (a : List O) : Ins := ⟨some n, none, o, a, none⟩
abbrev iG (n g : Nat) (b : Bool) (o : AOp) (a : List O) : Ins := ⟨some n, some (g, b), o, a, none⟩
abbrev iM (n a : Nat) : Ins := ⟨some n, none, .p .mv, [.t a], none⟩
abbrev iN (n g : Nat) (b : Bool) (a : Nat) : Ins := ⟨some n, some (g, b), .p .mv, [.t a], none⟩
abbrev iC (n : Nat) : O := .c (.int .i64 (.ofNat n))
abbrev iU (n : Nat) : O := .c (.int .u8 (.ofNat n))
abbrev iB (b : BinOp) : AOp := .p (.bin b)
abbrev iK (l : List Nat) (c : C) : C := .keep l c
theorem iA {a b : Prop} (h : a) (k : b) : a ∧ b := ⟨h, k⟩
theorem iT : True := trivial
abbrev f_law18_CorsNames : Nat := 6
abbrev f_keep_Few : Nat := 10
abbrev f_cors_Unsafe : Nat := 32
abbrev f_law18_known : Nat := 34
abbrev f_cors_Exposed : Nat := 35
abbrev f_cors_Method : Nat := 36
abbrev f_law18_allow : Nat := 37
abbrev f_cors_Check : Nat := 38
abbrev f_law18_of : Nat := 39
abbrev f_slices_Contains_string : Nat := 53
abbrev f_ref1_Lower : Nat := 55
abbrev f_infra_Lower : Nat := 59
abbrev f_headers_Get : Nat := 60
abbrev f_infra_Int : Nat := 61
abbrev f_keep_URL : Nat := 62
abbrev f_ref4_Of : Nat := 63
abbrev f_headers_Safe : Nat := 69
abbrev f_maps_Copy_int : Nat := 70
abbrev f_cors_names : Nat := 71
abbrev f_headers_Split : Nat := 74
abbrev f_infra_Token : Nat := 75
abbrev f_origin_Text : Nat := 76
abbrev f_slices_Index_string : Nat := 82
abbrev f_infra_mapped : Nat := 85
abbrev f_infra_Lower_1 : Nat := 86
abbrev f_headers_is : Nat := 87
abbrev f_strings_Join : Nat := 88
abbrev f_ref3_Parse : Nat := 89
abbrev f_ref3_Special : Nat := 90
abbrev f_ref4_Port : Nat := 91
abbrev f_headers_unsafe : Nat := 98
abbrev f_headers_tongues : Nat := 99
abbrev f_strings_Cut : Nat := 100
abbrev f_infra_Strip : Nat := 101
abbrev f_headers_Range : Nat := 102
abbrev f_ref1_Part : Nat := 107
abbrev f_strings_Trim : Nat := 110
abbrev f_strings_IndexByte : Nat := 111
abbrev f_url_Own : Nat := 112
abbrev f_strconv_Itoa : Nat := 113
abbrev f_ref1_Letter : Nat := 114
abbrev f_ref1_Digit : Nat := 115
abbrev f_ref3_Own : Nat := 118
abbrev f_ref1_Numeral : Nat := 119
abbrev f_ref3_split : Nat := 125
abbrev f_ref3_clean : Nat := 126
abbrev f_ref3_scheme : Nat := 127
abbrev f_ref3_full : Nat := 128
abbrev f_stringslite_Cut : Nat := 130
abbrev f_strings_CutPrefix : Nat := 131
abbrev f_headers_told : Nat := 132
abbrev f_ref1_Begins : Nat := 136
abbrev f_ref1_Int : Nat := 137
abbrev f_strings_trimLeftByte : Nat := 138
abbrev f_strings_trimRightByte : Nat := 139
abbrev f_strings_makeASCIISet : Nat := 140
abbrev f_strings_trimLeftASCII : Nat := 141
abbrev f_strings_trimRightASCII : Nat := 142
abbrev f_strings_trimLeftUnicode : Nat := 143
abbrev f_strings_trimRightUnicode : Nat := 144
abbrev f_stringslite_IndexByte : Nat := 145
abbrev f_strconv_Itoa_n146 : Nat := 146
abbrev f_bits_Len64 : Nat := 158
abbrev f_ref1_Percent : Nat := 161
abbrev f_ref3_far : Nat := 162
abbrev f_ref3_over : Nat := 163
abbrev f_ref3_slashes : Nat := 164
abbrev f_ref3_rest : Nat := 165
abbrev f_ref3_ahead : Nat := 166
abbrev f_ref3_query : Nat := 167
abbrev f_stringslite_Index : Nat := 168
abbrev f_stringslite_CutPrefix : Nat := 169
abbrev f_asciiSet_contains : Nat := 171
abbrev f_utf8_DecodeRuneInString : Nat := 172
abbrev f_strings_ContainsRune : Nat := 173
abbrev f_utf8_DecodeLastRuneInString : Nat := 174
abbrev f_strconv_FormatInt : Nat := 176
abbrev f_ref1_In : Nat := 185
abbrev f_ref1_Escape : Nat := 186
abbrev f_ref3_authority : Nat := 187
abbrev f_ref3_path : Nat := 188
abbrev f_bytealg_Cutover : Nat := 190
abbrev f_bytealg_IndexRabinKarp_string : Nat := 191
abbrev f_stringslite_HasPrefix : Nat := 192
abbrev f_utf8_decodeRuneInStringSlow : Nat := 193
abbrev f_strings_IndexRune : Nat := 194
abbrev f_utf8_RuneStart : Nat := 195
abbrev f_strconv_small : Nat := 196
abbrev f_strconv_numDigits : Nat := 197
abbrev f_strconv_formatBase10 : Nat := 198
abbrev f_strconv_formatBits : Nat := 199
abbrev f_ref2_Parse : Nat := 201
abbrev f_ref1_Cut : Nat := 202
abbrev f_ref3_dots : Nat := 203
abbrev f_bytealg_hashStr_string : Nat := 204
abbrev f_utf8_ValidRune : Nat := 205
abbrev f_strconv_log10Pow2 : Nat := 206
abbrev f_strconv_bool2_int : Nat := 207
abbrev f_strconv_isPowerOfTwo : Nat := 208
abbrev f_bits_TrailingZeros : Nat := 209
abbrev f_ref1_Ends : Nat := 210
abbrev f_ref2_Six : Nat := 211
abbrev f_ref2_Text6 : Nat := 212
abbrev f_ref2_bad : Nat := 213
abbrev f_ref1_Unpercent : Nat := 214
abbrev f_ref2_Numbered : Nat := 215
abbrev f_ref2_Four : Nat := 216
abbrev f_ref2_Text4 : Nat := 217
abbrev f_bits_TrailingZeros32 : Nat := 218
abbrev f_bits_TrailingZeros64 : Nat := 219
abbrev f_ref2_pieces : Nat := 220
abbrev f_ref2_digits : Nat := 221
abbrev f_ref1_Hex : Nat := 222
abbrev f_ref2_labels : Nat := 223
abbrev f_ref2_number : Nat := 224
abbrev f_ref2_decimals : Nat := 225
/-- ostiary/ostiarylaw18.CorsNames -/
def fn_law18_CorsNames : Fun := ⟨1,(.seq (.reg [iR 2 (.p .mv) [(.c (.bool false))]]) (iK [0] (.seq (.reg [iR 3 (.p .mv) [(.c .nils)]]) (iK [0,3] (.seq (.reg [iR 4 (.p .mv) [(.c (.str []))]]) (iK [0,3,4] (.seq (.seq (.reg [iR 5 (.p .mv) [(iC 0)]]) (iK [0,3,4,5] (.block 0 (.loop (iK [0,3,4,5] (.seq (.seq (.reg [iM 12 5,iM 13 0,iR 14 (.p .len) [(.t 13)],iR 15 (iB .lss) [(.t 12),(.t 14)],iM 16 15,iN 17 16 true 5,iG 18 16 true (iB .lss) [(.t 17),(iC 8)],iR 19 (.p .pick) [(.t 16),(.t 18),(.c (.bool false))]]) (iK [0,3,4,5,19] (.cond (.t 19) .skip (iK [3,4] (.exit 0))))) (iK [0,3,4,5] (.seq (.block 1 (.seq (.reg [iR 6 (.p .mv) [(.c (.str (bs [88,45,113])))]])
    (iK [0,3,4,5,6] (.seq (.seq (.reg [iR 7 (.p .mv) [(iC 0)]]) (iK [0,3,4,5,6,7] (.block 2 (.loop (iK [0,3,4,5,6,7] (.seq (.seq (.reg [iM 22 7,iM 23 0,iM 24 5,iR 25 (.p (.slIdx 1)) [(.t 23),(.t 24)],iR 26 (.l (.load none)) [(.t 25)],iR 27 (.p .lenS) [(.t 26)],iR 28 (iB .lss) [(.t 22),(.t 27)],iM 29 28,iN 30 29 true 6,iG 31 29 true (.p .lenS) [(.t 30)],iG 32 29 true (iB .lss) [(.t 31),(iC 12)],iR 33 (.p .pick) [(.t 29),(.t 32),(.c (.bool false))]]) (iK [0,3,4,5,6,7,33] (.cond (.t 33) .skip (iK [0,3,4,5,6] (.exit 2))))) (iK [0,3,4,5,6,7] (.seq (.block 3 (.seq (.reg [iM 36 0,iM 37 5,iR 38 (.p (.slIdx 1)) [(.t 36),(.t 37)],
    iR 39 (.l (.load none)) [(.t 38)],iM 40 7,iR 41 (.p .strIndex) [(.t 39),(.t 40)],iR 42 (iB .geq) [(.t 41),(iU 97)],iM 43 42,iN 44 43 true 0,iN 45 43 true 5,iG 46 43 true (.p (.slIdx 1)) [(.t 44),(.t 45)],iG 47 43 true (.l (.load none)) [(.t 46)],iN 48 43 true 7,iG 49 43 true (.p .strIndex) [(.t 47),(.t 48)],iG 50 43 true (iB .leq) [(.t 49),(iU 122)],iR 51 (.p .pick) [(.t 43),(.t 50),(.c (.bool false))]]) (iK [0,3,4,5,6,7,51] (.cond (.t 51) (.reg [iM 52 6,iM 53 0,iM 54 5,iR 55 (.p (.slIdx 1)) [(.t 53),(.t 54)],iR 56 (.l (.load none)) [(.t 55)],iM 57 7,iM 58 7,iR 59 (iB .add) [(.t 58),(iC 1)],
    iR 60 (.p (.strSlice true true)) [(.t 56),(.t 57),(.t 59)],iR 61 (iB .add) [(.t 52),(.t 60)],iM 6 61]) .skip)))) (iK [0,3,4,5,6,7] (.reg [iM 34 7,iR 35 (iB .add) [(.t 34),(iC 1)],iM 7 35])))))))))) (iK [0,3,4,5,6] (.seq (.reg [iM 62 3,iM 63 6,iR 64 (.p (.build [(.str []),(.str [])] [(0,1),(1,1)])) [(.t 63),(.c (.str (bs [118])))],iR 65 (.p (.build [(.str []),(.str [])] [(0,1),(1,1)])) [(.c (.str (bs [65,99,99,101,112,116]))),(.c (.str (bs [122])))],iR 66 (.e (.buildSlice 2 2 [(.str []),(.str []),(.str []),(.str [])] [(0,2),(2,2)])) [(.t 64),(.t 65)],iR 67 (.e (.append 2 32)) [(.t 62),(.t 66)],iM 3 67]) (iK [0,3,4,5,6] (.reg [iM 68 4,iM 69 6,
    iR 70 (iB .add) [(.t 68),(.t 69)],iR 71 (iB .add) [(.t 70),(.c (.str (bs [44,32])))],iM 4 71])))))))) (iK [0,3,4,5] (.reg [iM 20 5,iR 21 (iB .add) [(.t 20),(iC 1)],iM 5 21])))))))))) (iK [3,4] (.seq (.reg [iM 72 3,iR 73 (.call 32) [(.t 72)],iM 8 73]) (iK [4,8] (.seq (.reg [iM 75 4,iR 76 (iB .add) [(.t 75),(.c (.str (bs [120,45,113])))],iR 77 (.p (.build [(.str []),(.str [])] [(0,1),(1,1)])) [(.c (.str (bs [97,99,99,101,115,115,45,99,111,110,116,114,111,108,45,101,120,112,111,115,101,45,104,101,97,100,101,114,115]))),(.t 76)],iR 78 (.e (.buildSlice 1 2 [(.str []),(.str [])] [(0,2)])) [(.t 77)],iR 79 (.call 35) [(.t 78),(.c (.bool false))],iM 74 79,
    iR 80 (.p (.extract 0)) [(.t 74)],iR 81 (.p (.extract 1)) [(.t 74)],iM 9 80,iM 10 81]) (iK [8,9,10] (.seq (.seq (.reg [iR 11 (.p .mv) [(iC 0)]]) (iK [8,9,10,11] (.block 4 (.loop (iK [8,9,10,11] (.seq (.seq (.reg [iM 82 11,iM 83 8,iR 84 (.p .len) [(.t 83)],iR 85 (iB .lss) [(.t 82),(.t 84)]]) (iK [8,9,10,11,85] (.cond (.t 85) .skip (iK [8,9,10] (.exit 4))))) (iK [8,9,10,11] (.seq (.block 5 (.seq (.draw [iM 88 11,iR 89 (iB .gtr) [(.t 88),(iC 0)],iM 90 89,iN 91 90 true 8,iN 92 90 true 11,iG 93 90 true (.p (.slIdx 1)) [(.t 91),(.t 92)],iG 94 90 true (.l (.load none)) [(.t 93)],iN 95 90 true 8,iN 96 90 true 11,
    iG 97 90 true (iB .sub) [(.t 96),(iC 1)],iG 98 90 true (.p (.slIdx 1)) [(.t 95),(.t 97)],iG 99 90 true (.l (.load none)) [(.t 98)],iG 100 90 true (iB .leq) [(.t 94),(.t 99)],iR 101 (.p .pick) [(.t 90),(.t 100),(.c (.bool false))],iM 102 101,iN 103 102 false 8,iN 104 102 false 11,iG 105 102 false (.p (.slIdx 1)) [(.t 103),(.t 104)],iG 106 102 false (.l (.load none)) [(.t 105)],iG 107 102 false (.p .strIndex) [(.t 106),(iC 0)],iG 108 102 false (iB .neq) [(.t 107),(iU 120)],iR 109 (.p .pick) [(.t 102),(.c (.bool true)),(.t 108)]]) (iK [8,9,10,11,109] (.cond (.t 109) (.seq (.reg [iR 2 (.p .mv) [(.c (.bool false))]]) (iK [2] (iK [2] .ret))) .skip)))) (iK [8,9,10,11] (.reg [iM 86 11,
    iR 87 (iB .add) [(.t 86),(iC 1)],iM 11 87])))))))))) (iK [8,9,10] (.seq (.seq (.reg [iM 110 10,iM 111 110,iN 112 111 false 9,iG 113 111 false (.p .len) [(.t 112)],iG 114 111 false (iB .eql) [(.t 113),(iC 0)],iR 115 (.p .pick) [(.t 111),(.c (.bool true)),(.t 114)],iM 116 115,iN 117 116 false 9,iG 118 116 false (.p (.slIdx 1)) [(.t 117),(iC 0)],iG 119 116 false (.l (.load none)) [(.t 118)],iG 120 116 false (iB .neq) [(.t 119),(.c (.str (bs [120,45,113])))],iR 121 (.p .pick) [(.t 116),(.c (.bool true)),(.t 120)]]) (iK [8,9,121] (.cond (.t 121) (.seq (.reg [iR 2 (.p .mv) [(.c (.bool false))]]) (iK [2] (iK [2] .ret))) .skip)))
    (iK [8,9] (.seq (.reg [iM 122 8,iR 123 (.p .len) [(.t 122)],iM 124 9,iR 125 (.p .len) [(.t 124)],iR 126 (iB .eql) [(.t 123),(.t 125)],iM 127 126,iN 128 127 false 8,iG 129 127 false (.p .len) [(.t 128)],iG 130 127 false (iB .add) [(.t 129),(iC 1)],iN 131 127 false 9,iG 132 127 false (.p .len) [(.t 131)],iG 133 127 false (iB .eql) [(.t 130),(.t 132)],iR 134 (.p .pick) [(.t 127),(.c (.bool true)),(.t 133)],iM 135 134,iG 136 135 true (.call 34) [],iR 137 (.p .pick) [(.t 135),(.t 136),(.c (.bool false))],iM 2 137]) (iK [2] (iK [2] .ret))))))))))))))))))),[(.t 2)]⟩
def s_law18_CorsNames_j1 (call : CallK) (N : Nat) (q : KV) (st : St) (τ : Tape) : Ans := match st with
  | ⟨fr,H⟩ => getK fr 8 fun t8 => getK fr 9 fun t9 => getK fr 10 fun t10 => gK t10 false (fun q' => q' t9 H τ) H τ fun v13 H14 τ15 => gK t10 false (fun q' => someK (pLen [v13]) fun v => q' v H14 τ15) H14 τ15 fun v16 H17 τ18 => gK t10 false (fun q' => binK .eql v16 (.int .i64 (.ofNat 0)) fun v => q' v H17 τ18) H17 τ18 fun v19 H20 τ21 => someK (pPick [t10,(.bool true),v19]) fun v22 => gK v22 false (fun q' => q' t9 H20 τ21) H20 τ21 fun v23 H24 τ25 => gK v22 false (fun q' => someK (pSlIdx 1 [v23,(.int .i64 (.ofNat 0))]) fun v => q' v H24 τ25) H24 τ25 fun v26 H27 τ28 => gK v22 false (fun q' => someK (lLoad1 [v26] H27) fun v => q' v H27 τ28) H27 τ28 fun v29 H30 τ31 => gK v22 false (fun q' => binK .neq v29 (.str (bs [120,45,113])) fun v => q' v H30 τ31) H30 τ31 fun v32 H33 τ34 => someK (pPick [v22,(.bool true),v32]) fun v35 => condK v35 (q (.bool false) H33 τ34)
    (someK (pLen [t8]) fun v36 => someK (pLen [t9]) fun v37 => binK .eql v36 v37 fun v38 => gK v38 false (fun q' => q' t8 H33 τ34) H33 τ34 fun v39 H40 τ41 => gK v38 false (fun q' => someK (pLen [v39]) fun v => q' v H40 τ41) H40 τ41 fun v42 H43 τ44 => gK v38 false (fun q' => binK .add v42 (.int .i64 (.ofNat 1)) fun v => q' v H43 τ44) H43 τ44 fun v45 H46 τ47 => gK v38 false (fun q' => q' t9 H46 τ47) H46 τ47 fun v48 H49 τ50 => gK v38 false (fun q' => someK (pLen [v48]) fun v => q' v H49 τ50) H49 τ50 fun v51 H52 τ53 => gK v38 false (fun q' => binK .eql v45 v51 fun v => q' v H52 τ53) H52 τ53 fun v54 H55 τ56 => someK (pPick [v38,(.bool true),v54]) fun v57 => gK v57 true (fun q' => call f_law18_known [] H55 τ56 q') H55 τ56 fun v58 H59 τ60 => someK (pPick [v57,v58,(.bool false)]) fun v61 => q v61 H59 τ60)
def s_law18_CorsNames_l2 (call : CallK) (N : Nat) (st : St) (τ : Tape) (k : KC) : Ans := match st with
  | ⟨fr,H⟩ => getK fr 8 fun t8 => getK fr 9 fun t9 => getK fr 10 fun t10 => getK fr 11 fun t11 => someK (pLen [t8]) fun v62 => binK .lss t11 v62 fun v63 => condK v63 (binK .gtr t11 (.int .i64 (.ofNat 0)) fun v64 => gK v64 true (fun q' => q' t8 H τ) H τ fun v65 H66 τ67 => gK v64 true (fun q' => q' t11 H66 τ67) H66 τ67 fun v68 H69 τ70 => gK v64 true (fun q' => someK (pSlIdx 1 [v65,v68]) fun v => q' v H69 τ70) H69 τ70 fun v71 H72 τ73 => gK v64 true (fun q' => someK (lLoad1 [v71] H72) fun v => q' v H72 τ73) H72 τ73 fun v74 H75 τ76 => gK v64 true (fun q' => q' t8 H75 τ76) H75 τ76 fun v77 H78 τ79 => gK v64 true (fun q' => q' t11 H78 τ79) H78 τ79 fun v80 H81 τ82 => gK v64 true (fun q' => binK .sub v80 (.int .i64 (.ofNat 1)) fun v => q' v H81 τ82) H81 τ82 fun v83 H84 τ85 => gK v64 true (fun q' => someK (pSlIdx 1 [v77,v83]) fun v => q' v H84 τ85) H84 τ85 fun v86 H87 τ88 =>
    gK v64 true (fun q' => someK (lLoad1 [v86] H87) fun v => q' v H87 τ88) H87 τ88 fun v89 H90 τ91 => gK v64 true (fun q' => binK .leq v74 v89 fun v => q' v H90 τ91) H90 τ91 fun v92 H93 τ94 => someK (pPick [v64,v92,(.bool false)]) fun v95 => gK v95 false (fun q' => q' t8 H93 τ94) H93 τ94 fun v96 H97 τ98 => gK v95 false (fun q' => q' t11 H97 τ98) H97 τ98 fun v99 H100 τ101 => gK v95 false (fun q' => someK (pSlIdx 1 [v96,v99]) fun v => q' v H100 τ101) H100 τ101 fun v102 H103 τ104 => gK v95 false (fun q' => someK (lLoad1 [v102] H103) fun v => q' v H103 τ104) H103 τ104 fun v105 H106 τ107 => gK v95 false (fun q' => someK (pStrIndex [v105,(.int .i64 (.ofNat 0))]) fun v => q' v H106 τ107) H106 τ107 fun v108 H109 τ110 => gK v95 false (fun q' => binK .neq v108 (.int .u8 (.ofNat 120)) fun v => q' v H109 τ110) H109 τ110 fun v111 H112 τ113 => someK (pPick [v95,(.bool true),v111]) fun v114 =>
    condK v114 (k .ret ⟨(T.set .leaf 2 (.bool false)),H112⟩ τ113) (binK .add t11 (.int .i64 (.ofNat 1)) fun v115 => k .normal ⟨(T.set (T.set (T.set (T.set (T.set (T.set (T.set .leaf 8 t8) 9 t9) 10 t10) 11 t11) 86 t11) 87 v115) 11 v115),H112⟩ τ113)) (k (.exit 4) ⟨(T.set (T.set (T.set .leaf 8 t8) 9 t9) 10 t10),H⟩ τ)
def s_law18_CorsNames_j0 (call : CallK) (N : Nat) (q : KV) (st : St) (τ : Tape) : Ans := match st with
  | ⟨fr,H⟩ => getK fr 3 fun t3 => getK fr 4 fun t4 => call f_cors_Unsafe [t3] H τ fun v0 H1 τ2 => binK .add t4 (.str (bs [120,45,113])) fun v3 => someK (pBuild [(.str []),(.str [])] [(0,1),(1,1)] [(.str (bs [97,99,99,101,115,115,45,99,111,110,116,114,111,108,45,101,120,112,111,115,101,45,104,101,97,100,101,114,115])),v3]) fun v4 => effK (eBuildSlice 1 2 [(.str []),(.str [])] [(0,2)] [v4] H1 τ2) fun v5 H6 τ7 => call f_cors_Exposed [v5,(.bool false)] H6 τ7 fun v8 H9 τ10 => someK (pExtract 0 [v8]) fun v11 => someK (pExtract 1 [v8]) fun v12 => loopK (s_law18_CorsNames_l2 call N) N ⟨(T.set (T.set (T.set (T.set .leaf 8 v0) 9 v11) 10 v12) 11 (.int .i64 (.ofNat 0))),H9⟩ τ10 (blockK 4 (seqK (s_law18_CorsNames_j1 call N q) (endK [(.t 2)] q)))
def s_law18_CorsNames_j4 (call : CallK) (N : Nat) (k : KC) (st : St) (τ : Tape) : Ans := match st with
  | ⟨fr,H⟩ => getK fr 0 fun t0 => getK fr 3 fun t3 => getK fr 4 fun t4 => getK fr 5 fun t5 => binK .add t5 (.int .i64 (.ofNat 1)) fun v125 => k .normal ⟨(T.set (T.set (T.set (T.set (T.set (T.set (T.set .leaf 0 t0) 3 t3) 4 t4) 5 t5) 20 t5) 21 v125) 5 v125),H⟩ τ
def s_law18_CorsNames_j5 (call : CallK) (N : Nat) (k : KC) (st : St) (τ : Tape) : Ans := match st with
  | ⟨fr,H⟩ => getK fr 0 fun t0 => getK fr 3 fun t3 => getK fr 4 fun t4 => getK fr 5 fun t5 => getK fr 6 fun t6 => someK (pBuild [(.str []),(.str [])] [(0,1),(1,1)] [t6,(.str (bs [118]))]) fun v126 => someK (pBuild [(.str []),(.str [])] [(0,1),(1,1)] [(.str (bs [65,99,99,101,112,116])),(.str (bs [122]))]) fun v127 => effK (eBuildSlice 2 2 [(.str []),(.str []),(.str []),(.str [])] [(0,2),(2,2)] [v126,v127] H τ) fun v128 H129 τ130 => effK (eAppend 2 32 [t3,v128] H129 τ130) fun v131 H132 τ133 => binK .add t4 t6 fun v134 => binK .add v134 (.str (bs [44,32])) fun v135 => s_law18_CorsNames_j4 call N k ⟨(T.set (T.set (T.set (T.set (T.set (T.set (T.set (T.set (T.set (T.set .leaf 0 t0) 3 v131) 4 t4) 5 t5) 6 t6) 68 t4) 69 t6) 70 v134) 71 v135) 4 v135),H132⟩ τ133
def s_law18_CorsNames_j7 (call : CallK) (N : Nat) (k : KC) (st : St) (τ : Tape) : Ans := match st with
  | ⟨fr,H⟩ => getK fr 0 fun t0 => getK fr 3 fun t3 => getK fr 4 fun t4 => getK fr 5 fun t5 => getK fr 6 fun t6 => getK fr 7 fun t7 => binK .add t7 (.int .i64 (.ofNat 1)) fun v150 => k .normal ⟨(T.set (T.set (T.set (T.set (T.set (T.set (T.set (T.set (T.set .leaf 0 t0) 3 t3) 4 t4) 5 t5) 6 t6) 7 t7) 34 t7) 35 v150) 7 v150),H⟩ τ
def s_law18_CorsNames_l6 (call : CallK) (N : Nat) (st : St) (τ : Tape) (k : KC) : Ans := match st with
  | ⟨fr,H⟩ => getK fr 0 fun t0 => getK fr 3 fun t3 => getK fr 4 fun t4 => getK fr 5 fun t5 => getK fr 6 fun t6 => getK fr 7 fun t7 => someK (pSlIdx 1 [t0,t5]) fun v136 => someK (lLoad1 [v136] H) fun v137 => someK (pLenS [v137]) fun v138 => binK .lss t7 v138 fun v139 => gK v139 true (fun q' => q' t6 H τ) H τ fun v140 H141 τ142 => gK v139 true (fun q' => someK (pLenS [v140]) fun v => q' v H141 τ142) H141 τ142 fun v143 H144 τ145 => gK v139 true (fun q' => binK .lss v143 (.int .i64 (.ofNat 12)) fun v => q' v H144 τ145) H144 τ145 fun v146 H147 τ148 => someK (pPick [v139,v146,(.bool false)]) fun v149 => condK v149 (someK (pSlIdx 1 [t0,t5]) fun v151 => someK (lLoad1 [v151] H147) fun v152 => someK (pStrIndex [v152,t7]) fun v153 => binK .geq v153 (.int .u8 (.ofNat 97)) fun v154 => gK v154 true (fun q' => q' t0 H147 τ148) H147 τ148 fun v155 H156 τ157 =>
    gK v154 true (fun q' => q' t5 H156 τ157) H156 τ157 fun v158 H159 τ160 => gK v154 true (fun q' => someK (pSlIdx 1 [v155,v158]) fun v => q' v H159 τ160) H159 τ160 fun v161 H162 τ163 => gK v154 true (fun q' => someK (lLoad1 [v161] H162) fun v => q' v H162 τ163) H162 τ163 fun v164 H165 τ166 => gK v154 true (fun q' => q' t7 H165 τ166) H165 τ166 fun v167 H168 τ169 => gK v154 true (fun q' => someK (pStrIndex [v164,v167]) fun v => q' v H168 τ169) H168 τ169 fun v170 H171 τ172 => gK v154 true (fun q' => binK .leq v170 (.int .u8 (.ofNat 122)) fun v => q' v H171 τ172) H171 τ172 fun v173 H174 τ175 => someK (pPick [v154,v173,(.bool false)]) fun v176 => condK v176 (someK (pSlIdx 1 [t0,t5]) fun v177 => someK (lLoad1 [v177] H174) fun v178 => binK .add t7 (.int .i64 (.ofNat 1)) fun v179 => someK (pStrSlice true true [v178,t7,v179]) fun v180 => binK .add t6 v180 fun v181 =>
    s_law18_CorsNames_j7 call N k ⟨(T.set (T.set (T.set (T.set (T.set (T.set (T.set (T.set (T.set (T.set (T.set (T.set (T.set (T.set (T.set (T.set (T.set (T.set .leaf 0 t0) 3 t3) 4 t4) 5 t5) 6 t6) 7 t7) 51 v176) 52 t6) 53 t0) 54 t5) 55 v177) 56 v178) 57 t7) 58 t7) 59 v179) 60 v180) 61 v181) 6 v181),H174⟩ τ175) (s_law18_CorsNames_j7 call N k ⟨(T.set (T.set (T.set (T.set (T.set (T.set (T.set .leaf 0 t0) 3 t3) 4 t4) 5 t5) 6 t6) 7 t7) 51 v176),H174⟩ τ175)) (k (.exit 2) ⟨(T.set (T.set (T.set (T.set (T.set .leaf 0 t0) 3 t3) 4 t4) 5 t5) 6 t6),H147⟩ τ148)
def s_law18_CorsNames_l3 (call : CallK) (N : Nat) (st : St) (τ : Tape) (k : KC) : Ans := match st with
  | ⟨fr,H⟩ => getK fr 0 fun t0 => getK fr 3 fun t3 => getK fr 4 fun t4 => getK fr 5 fun t5 => someK (pLen [t0]) fun v116 => binK .lss t5 v116 fun v117 => gK v117 true (fun q' => q' t5 H τ) H τ fun v118 H119 τ120 => gK v117 true (fun q' => binK .lss v118 (.int .i64 (.ofNat 8)) fun v => q' v H119 τ120) H119 τ120 fun v121 H122 τ123 => someK (pPick [v117,v121,(.bool false)]) fun v124 => condK v124 (loopK (s_law18_CorsNames_l6 call N) N ⟨(T.set (T.set (T.set (T.set (T.set (T.set .leaf 0 t0) 3 t3) 4 t4) 5 t5) 6 (.str (bs [88,45,113]))) 7 (.int .i64 (.ofNat 0))),H122⟩ τ123 (blockK 2 (seqK (s_law18_CorsNames_j5 call N k) (blockK 1 (seqK (s_law18_CorsNames_j4 call N k) k))))) (k (.exit 0) ⟨(T.set (T.set .leaf 3 t3) 4 t4),H122⟩ τ123)
def s_law18_CorsNames (call : CallK) (N : Nat) (a0 : V) (H : Heap) (τ : Tape) (q : KV) : Ans := loopK (s_law18_CorsNames_l3 call N) N ⟨(T.set (T.set (T.set (T.set .leaf 0 a0) 3 .nils) 4 (.str [])) 5 (.int .i64 (.ofNat 0))),H⟩ τ (blockK 0 (seqK (s_law18_CorsNames_j0 call N q) (endK [(.t 2)] q)))
theorem s_law18_CorsNames_eq (call : CallK) (N : Nat) (a0 : V) (H : Heap) (τ : Tape) (q : KV) : s_law18_CorsNames call N a0 H τ q = funK call N fn_law18_CorsNames [a0] H τ q := by kernel_rfl
def e_law18_CorsNames (call : CallK) (N : Nat) (vs : List V) (H : Heap) (τ : Tape) (q : KV) : Ans := match vs with | [a0] => s_law18_CorsNames call N a0 H τ q | _ => none
theorem e_law18_CorsNames_ok : EntOk fn_law18_CorsNames e_law18_CorsNames := by
  intro call N vs H τ q r h
  unfold e_law18_CorsNames at h
  split at h
  · rw [s_law18_CorsNames_eq] at h; exact h
  · cases h
theorem e_law18_CorsNames_nat : EntNat e_law18_CorsNames := by
  intro c hn N vs H τ q
  unfold e_law18_CorsNames
  split
  · rw [s_law18_CorsNames_eq, s_law18_CorsNames_eq]; exact funK_ent hn _ _ _ _ _ _
  · rfl
/-- ostiary/ostiarykeep.Few -/
def fn_keep_Few : Fun := ⟨2,(.seq (.reg [iR 4 (.p .mv) [(.c (.str []))]]) (iK [0,1] (.seq (.seq (.reg [iM 5 0,iR 6 (.p .lenS) [(.t 5)],iM 7 1,iR 8 (iB .gtr) [(.t 6),(.t 7)]]) (iK [0,1,8] (.cond (.t 8) (.seq (.reg [iM 9 0,iM 10 1,iR 11 (.p (.strSlice false true)) [(.t 9),(.t 10)],iM 4 11]) (iK [4] (iK [4] .ret))) .skip))) (iK [0] (.seq (.reg [iM 12 0,iM 4 12]) (iK [4] (iK [4] .ret))))))),[(.t 4)]⟩
/-- ostiary/cors.Unsafe -/
def fn_cors_Unsafe : Fun := ⟨1,(.seq (.reg [iR 2 (.p .mv) [(.c .nils)]]) (iK [0] (.seq (.reg [iR 9 (.e .mkMap) [],iR 10 (.e .mkMap) [],iM 3 9,iM 4 10]) (iK [0,3,4] (.seq (.reg [iR 5 (.p .mv) [(iC 0)]]) (iK [0,3,4,5] (.seq (.seq (.reg [iM 11 0,iR 12 (.p .len) [(.t 11)],iR 13 (.p .mv) [(iC 0)]]) (iK [3,4,5,11,12,13] (.block 0 (.loop (iK [3,4,5,11,12,13] (.seq (.reg [iR 14 (iB .lss) [(.t 13),(.t 12)]]) (iK [3,4,5,11,12,13,14] (.seq (.cond (.t 14) .skip (iK [3,4,5] (.exit 0))) (iK [3,4,5,11,12,13] (.seq (.block 1 (.seq (.reg [iR 15 (.p (.slIdx 2)) [(.t 11),(.t 13)],iR 16 (.l (.load (some 2))) [(.t 15)],iR 7 (.e (.alloc [(.str []),(.str [])])) [],⟨none,none,(.e (.store 2)),[(.t 7),(.t 16)],none⟩])
    (iK [3,4,5,7,11,12,13] (.seq (.reg [iR 17 (.p (.fieldAddr 0)) [(.t 7)],iR 18 (.l (.load none)) [(.t 17)],iR 19 (.call 59) [(.t 18)],iM 8 19]) (iK [3,4,5,7,8,11,12,13] (.seq (.seq (.reg [iR 20 (.p (.fieldAddr 0)) [(.t 7)],iR 21 (.l (.load none)) [(.t 20)],iR 22 (.p (.fieldAddr 1)) [(.t 7)],iR 23 (.l (.load none)) [(.t 22)],iR 24 (.call 69) [(.t 21),(.t 23)],iR 25 (.p (.un .not)) [(.t 24)]]) (iK [3,4,5,7,8,11,12,13,25] (.cond (.t 25) (.seq (.reg [iM 26 3,iM 27 8,iR 28 (.l (.mlook (.int .i64 (.ofNat 0)) false)) [(.t 26),(.t 27)],iR 29 (iB .add) [(.t 28),(iC 1)],⟨none,none,(.e .mput),[(.t 26),(.t 27),(.t 29)],none⟩]) (iK [3,4,5,11,12,13] (iK [3,4,5,11,12,13] (.exit 1)))) .skip)))
    (iK [3,4,5,7,8,11,12,13] (.seq (.reg [iM 30 4,iM 31 8,iR 32 (.l (.mlook (.int .i64 (.ofNat 0)) false)) [(.t 30),(.t 31)],iR 33 (iB .add) [(.t 32),(iC 1)],⟨none,none,(.e .mput),[(.t 30),(.t 31),(.t 33)],none⟩]) (iK [3,4,5,7,11,12,13] (.reg [iM 34 5,iR 35 (.p (.fieldAddr 1)) [(.t 7)],iR 36 (.l (.load none)) [(.t 35)],iR 37 (.p .lenS) [(.t 36)],iR 38 (iB .add) [(.t 34),(.t 37)],iM 5 38])))))))))) (iK [3,4,5,11,12,13] (.reg [iR 39 (iB .add) [(.t 13),(iC 1)],iM 13 39])))))))))))) (iK [3,4,5] (.seq (.seq (.reg [iM 40 5,iR 41 (iB .gtr) [(.t 40),(iC 1024)]]) (iK [3,4,41] (.cond (.t 41) (.reg [iM 42 3,iM 43 4,
    iR 44 (.call 70) [(.t 42),(.t 43)]]) .skip))) (iK [3] (.seq (.reg [iM 45 3,iR 46 (.call 71) [(.t 45)],iM 2 46]) (iK [2] (iK [2] .ret))))))))))))),[(.t 2)]⟩
def s_cors_Unsafe_j1 (call : CallK) (N : Nat) (q : KV) (st : St) (τ : Tape) : Ans := match st with
  | ⟨fr,H⟩ => getK fr 3 fun t3 => call f_cors_names [t3] H τ fun v8 H9 τ10 => q v8 H9 τ10
def s_cors_Unsafe_j0 (call : CallK) (N : Nat) (q : KV) (st : St) (τ : Tape) : Ans := match st with
  | ⟨fr,H⟩ => getK fr 3 fun t3 => getK fr 4 fun t4 => getK fr 5 fun t5 => binK .gtr t5 (.int .i64 (.ofNat 1024)) fun v7 => condK v7 (call f_maps_Copy_int [t3,t4] H τ fun v11 H12 τ13 => s_cors_Unsafe_j1 call N q ⟨(T.set (T.set (T.set (T.set (T.set (T.set .leaf 3 t3) 4 t4) 41 v7) 42 t3) 43 t4) 44 v11),H12⟩ τ13) (s_cors_Unsafe_j1 call N q ⟨(T.set (T.set (T.set .leaf 3 t3) 4 t4) 41 v7),H⟩ τ)
def s_cors_Unsafe_j3 (call : CallK) (N : Nat) (k : KC) (st : St) (τ : Tape) : Ans := match st with
  | ⟨fr,H⟩ => getK fr 3 fun t3 => getK fr 4 fun t4 => getK fr 5 fun t5 => getK fr 11 fun t11 => getK fr 12 fun t12 => getK fr 13 fun t13 => binK .add t13 (.int .i64 (.ofNat 1)) fun v15 => k .normal ⟨(T.set (T.set (T.set (T.set (T.set (T.set (T.set (T.set .leaf 3 t3) 4 t4) 5 t5) 11 t11) 12 t12) 13 t13) 39 v15) 13 v15),H⟩ τ
def s_cors_Unsafe_l2 (call : CallK) (N : Nat) (st : St) (τ : Tape) (k : KC) : Ans := match st with
  | ⟨fr,H⟩ => getK fr 3 fun t3 => getK fr 4 fun t4 => getK fr 5 fun t5 => getK fr 11 fun t11 => getK fr 12 fun t12 => getK fr 13 fun t13 => binK .lss t13 t12 fun v14 => condK v14 (someK (pSlIdx 2 [t11,t13]) fun v16 => someK (lLoadN 2 [v16] H) fun v17 => effK (eAlloc [(.str []),(.str [])] [] H τ) fun v18 H19 τ20 => effK (eStore 2 [v18,v17] H19 τ20) fun v21 H22 τ23 => someK (pFieldAddr 0 [v18]) fun v24 => someK (lLoad1 [v24] H22) fun v25 => call f_infra_Lower [v25] H22 τ23 fun v26 H27 τ28 => someK (pFieldAddr 0 [v18]) fun v29 => someK (lLoad1 [v29] H27) fun v30 => someK (pFieldAddr 1 [v18]) fun v31 => someK (lLoad1 [v31] H27) fun v32 => call f_headers_Safe [v30,v32] H27 τ28 fun v33 H34 τ35 => unK .not v33 fun v36 => condK v36 (someK (lLook (.int .i64 (.ofNat 0)) false [t3,v26] H34) fun v37 => binK .add v37 (.int .i64 (.ofNat 1)) fun v38 =>
    effK (eMput [t3,v26,v38] H34 τ35) fun v39 H40 τ41 => s_cors_Unsafe_j3 call N k ⟨(T.set (T.set (T.set (T.set (T.set (T.set .leaf 3 t3) 4 t4) 5 t5) 11 t11) 12 t12) 13 t13),H40⟩ τ41) (someK (lLook (.int .i64 (.ofNat 0)) false [t4,v26] H34) fun v42 => binK .add v42 (.int .i64 (.ofNat 1)) fun v43 => effK (eMput [t4,v26,v43] H34 τ35) fun v44 H45 τ46 => someK (pFieldAddr 1 [v18]) fun v47 => someK (lLoad1 [v47] H45) fun v48 => someK (pLenS [v48]) fun v49 => binK .add t5 v49 fun v50 => s_cors_Unsafe_j3 call N k ⟨(T.set (T.set (T.set (T.set (T.set (T.set (T.set (T.set (T.set (T.set (T.set (T.set (T.set .leaf 3 t3) 4 t4) 5 t5) 7 v18) 11 t11) 12 t12) 13 t13) 34 t5) 35 v47) 36 v48) 37 v49) 38 v50) 5 v50),H45⟩ τ46)) (k (.exit 0) ⟨(T.set (T.set (T.set .leaf 3 t3) 4 t4) 5 t5),H⟩ τ)
def s_cors_Unsafe (call : CallK) (N : Nat) (a0 : V) (H : Heap) (τ : Tape) (q : KV) : Ans := effK (eMkMap [] H τ) fun v0 H1 τ2 => effK (eMkMap [] H1 τ2) fun v3 H4 τ5 => someK (pLen [a0]) fun v6 => loopK (s_cors_Unsafe_l2 call N) N ⟨(T.set (T.set (T.set (T.set (T.set (T.set .leaf 3 v0) 4 v3) 5 (.int .i64 (.ofNat 0))) 11 a0) 12 v6) 13 (.int .i64 (.ofNat 0))),H4⟩ τ5 (blockK 0 (seqK (s_cors_Unsafe_j0 call N q) (endK [(.t 2)] q)))
theorem s_cors_Unsafe_eq (call : CallK) (N : Nat) (a0 : V) (H : Heap) (τ : Tape) (q : KV) : s_cors_Unsafe call N a0 H τ q = funK call N fn_cors_Unsafe [a0] H τ q := by kernel_rfl
def e_cors_Unsafe (call : CallK) (N : Nat) (vs : List V) (H : Heap) (τ : Tape) (q : KV) : Ans := match vs with | [a0] => s_cors_Unsafe call N a0 H τ q | _ => none
theorem e_cors_Unsafe_ok : EntOk fn_cors_Unsafe e_cors_Unsafe := by
  intro call N vs H τ q r h
  unfold e_cors_Unsafe at h
  split at h
  · rw [s_cors_Unsafe_eq] at h; exact h
  · cases h
theorem e_cors_Unsafe_nat : EntNat e_cors_Unsafe := by
  intro c hn N vs H τ q
  unfold e_cors_Unsafe
  split
  · rw [s_cors_Unsafe_eq, s_cors_Unsafe_eq]; exact funK_ent hn _ _ _ _ _ _
  · rfl
/-- ostiary/ostiarylaw18.known -/
def fn_law18_known : Fun := ⟨0,(.seq (.reg [iR 0 (.p .mv) [(.c (.bool false))]]) (iK [] (.seq (.reg [iR 8 (.call 36) [(.c (.str (bs [112,79,115,116])))],iM 7 8,iR 9 (.p (.extract 0)) [(.t 7)],iR 10 (.p (.extract 1)) [(.t 7)],iM 1 9,iM 2 10]) (iK [1,2] (.seq (.reg [iR 12 (.call 36) [(.c (.str (bs [112,97,116,99,104])))],iM 11 12,iR 13 (.p (.extract 0)) [(.t 11)],iR 14 (.p (.extract 1)) [(.t 11)],iM 3 13,iM 4 14]) (iK [1,2,3,4] (.seq (.reg [iR 16 (.call 36) [(.c (.str (bs [84,82,65,67,69])))],iM 15 16,iR 17 (.p (.extract 0)) [(.t 15)],iR 18 (.p (.extract 1)) [(.t 15)],iM 5 17,iM 6 18]) (iK [1,2,3,4,6] (.seq (.reg [iM 19 1,
    iR 20 (iB .eql) [(.t 19),(.c (.str (bs [80,79,83,84])))],iM 21 20,iN 22 21 true 2,iR 23 (.p .pick) [(.t 21),(.t 22),(.c (.bool false))],iM 24 23,iN 25 24 true 3,iG 26 24 true (iB .eql) [(.t 25),(.c (.str (bs [112,97,116,99,104])))],iR 27 (.p .pick) [(.t 24),(.t 26),(.c (.bool false))],iM 28 27,iN 29 28 true 4,iR 30 (.p .pick) [(.t 28),(.t 29),(.c (.bool false))],iM 31 30,iN 32 31 true 6,iG 33 31 true (.p (.un .not)) [(.t 32)],iR 34 (.p .pick) [(.t 31),(.t 33),(.c (.bool false))],iM 35 34,iG 36 35 true (.call 39) [(.c (.str (bs [104,116,116,112,115,58,47,47,97])))],iG 37 35 true (.call 37) [(.c (.str (bs [42])))],iG 38 35 true (.call 38) [(.t 36),(.c (.bool true)),(.t 37)],
    iG 39 35 true (.p (.un .not)) [(.t 38)],iR 40 (.p .pick) [(.t 35),(.t 39),(.c (.bool false))],iM 41 40,iG 42 41 true (.call 39) [(.c (.str (bs [104,116,116,112,115,58,47,47,97])))],iG 43 41 true (.call 37) [(.c (.str (bs [42])))],iG 44 41 true (.call 38) [(.t 42),(.c (.bool false)),(.t 43)],iR 45 (.p .pick) [(.t 41),(.t 44),(.c (.bool false))],iM 0 45]) (iK [0] (iK [0] .ret))))))))))),[(.t 0)]⟩
/-- ostiary/cors.Exposed -/
def fn_cors_Exposed : Fun := ⟨2,(.seq (.reg [iR 4 (.p .mv) [(.c .nils)],iR 5 (.p .mv) [(.c (.bool false))]]) (iK [0,1] (.seq (.reg [iM 12 0,iR 13 (.call 74) [(.t 12),(.c (.str (bs [97,99,99,101,115,115,45,99,111,110,116,114,111,108,45,101,120,112,111,115,101,45,104,101,97,100,101,114,115])))],iM 11 13,iR 14 (.p (.extract 0)) [(.t 11)],iR 15 (.p (.extract 1)) [(.t 11)],iM 6 14,iM 7 15]) (iK [1,6] (.seq (.seq (.reg [iM 16 1,iR 17 (.p (.un .not)) [(.t 16)],iM 18 17,iN 19 18 true 6,iG 20 18 true (.call 53) [(.t 19),(.c (.str (bs [42])))],iR 21 (.p .pick) [(.t 18),(.t 20),(.c (.bool false))]]) (iK [6,21] (.cond (.t 21) (.seq (.reg [iR 4 (.p .mv) [(.c .nils)],iR 5 (.p .mv) [(.c (.bool true))]])
    (iK [4,5] (iK [4,5] .ret))) .skip))) (iK [6] (.seq (.reg [iR 22 (.e .mkMap) [],iM 8 22]) (iK [6,8] (.seq (.seq (.reg [iM 23 6,iR 24 (.p .len) [(.t 23)],iR 25 (.p .mv) [(iC 0)]]) (iK [8,23,24,25] (.block 0 (.loop (iK [8,23,24,25] (.seq (.reg [iR 26 (iB .lss) [(.t 25),(.t 24)]]) (iK [8,23,24,25,26] (.seq (.cond (.t 26) .skip (iK [8] (.exit 0))) (iK [8,23,24,25] (.seq (.block 1 (.seq (.reg [iR 27 (.p (.slIdx 1)) [(.t 23),(.t 25)],iR 28 (.l (.load none)) [(.t 27)],iM 10 28]) (iK [8,10,23,24,25] (.seq (.reg [iM 29 10,iR 30 (.call 75) [(.t 29)]]) (iK [8,10,23,24,25,30] (.cond (.t 30) (.reg [iM 31 8,iM 32 10,iR 33 (.call 59) [(.t 32)],
    iR 34 (.l (.mlook (.int .i64 (.ofNat 0)) false)) [(.t 31),(.t 33)],iR 35 (iB .add) [(.t 34),(iC 1)],⟨none,none,(.e .mput),[(.t 31),(.t 33),(.t 35)],none⟩]) .skip)))))) (iK [8,23,24,25] (.reg [iR 36 (iB .add) [(.t 25),(iC 1)],iM 25 36])))))))))))) (iK [8] (.seq (.reg [iM 37 8,iR 38 (.call 71) [(.t 37)],iM 4 38,iR 5 (.p .mv) [(.c (.bool false))]]) (iK [4,5] (iK [4,5] .ret))))))))))))),[(.t 4),(.t 5)]⟩
def s_cors_Exposed_j0 (call : CallK) (N : Nat) (q : KV) (st : St) (τ : Tape) : Ans := match st with
  | ⟨fr,H⟩ => getK fr 8 fun t8 => call f_cors_names [t8] H τ fun v17 H18 τ19 => q (.tup [v17,(.bool false)]) H18 τ19
def s_cors_Exposed_j2 (call : CallK) (N : Nat) (k : KC) (st : St) (τ : Tape) : Ans := match st with
  | ⟨fr,H⟩ => getK fr 8 fun t8 => getK fr 23 fun t23 => getK fr 24 fun t24 => getK fr 25 fun t25 => binK .add t25 (.int .i64 (.ofNat 1)) fun v21 => k .normal ⟨(T.set (T.set (T.set (T.set (T.set (T.set .leaf 8 t8) 23 t23) 24 t24) 25 t25) 36 v21) 25 v21),H⟩ τ
def s_cors_Exposed_l1 (call : CallK) (N : Nat) (st : St) (τ : Tape) (k : KC) : Ans := match st with
  | ⟨fr,H⟩ => getK fr 8 fun t8 => getK fr 23 fun t23 => getK fr 24 fun t24 => getK fr 25 fun t25 => binK .lss t25 t24 fun v20 => condK v20 (someK (pSlIdx 1 [t23,t25]) fun v22 => someK (lLoad1 [v22] H) fun v23 => call f_infra_Token [v23] H τ fun v24 H25 τ26 => condK v24 (call f_infra_Lower [v23] H25 τ26 fun v27 H28 τ29 => someK (lLook (.int .i64 (.ofNat 0)) false [t8,v27] H28) fun v30 => binK .add v30 (.int .i64 (.ofNat 1)) fun v31 => effK (eMput [t8,v27,v31] H28 τ29) fun v32 H33 τ34 => s_cors_Exposed_j2 call N k ⟨(T.set (T.set (T.set (T.set (T.set (T.set (T.set (T.set (T.set (T.set (T.set .leaf 8 t8) 10 v23) 23 t23) 24 t24) 25 t25) 30 v24) 31 t8) 32 v23) 33 v27) 34 v30) 35 v31),H33⟩ τ34) (s_cors_Exposed_j2 call N k ⟨(T.set (T.set (T.set (T.set (T.set (T.set .leaf 8 t8) 10 v23) 23 t23) 24 t24) 25 t25) 30 v24),H25⟩ τ26)) (k (.exit 0) ⟨(T.set .leaf 8 t8),H⟩ τ)
def s_cors_Exposed (call : CallK) (N : Nat) (a0 a1 : V) (H : Heap) (τ : Tape) (q : KV) : Ans := call f_headers_Split [a0,(.str (bs [97,99,99,101,115,115,45,99,111,110,116,114,111,108,45,101,120,112,111,115,101,45,104,101,97,100,101,114,115]))] H τ fun v0 H1 τ2 => someK (pExtract 0 [v0]) fun v3 => someK (pExtract 1 [v0]) fun v4 => unK .not a1 fun v5 => gK v5 true (fun q' => q' v3 H1 τ2) H1 τ2 fun v6 H7 τ8 => gK v5 true (fun q' => call f_slices_Contains_string [v6,(.str (bs [42]))] H7 τ8 q') H7 τ8 fun v9 H10 τ11 => someK (pPick [v5,v9,(.bool false)]) fun v12 => condK v12 (q (.tup [.nils,(.bool true)]) H10 τ11) (effK (eMkMap [] H10 τ11) fun v13 H14 τ15 => someK (pLen [v3]) fun v16 =>
    loopK (s_cors_Exposed_l1 call N) N ⟨(T.set (T.set (T.set (T.set .leaf 8 v13) 23 v3) 24 v16) 25 (.int .i64 (.ofNat 0))),H14⟩ τ15 (blockK 0 (seqK (s_cors_Exposed_j0 call N q) (endK [(.t 4),(.t 5)] q))))
theorem s_cors_Exposed_eq (call : CallK) (N : Nat) (a0 a1 : V) (H : Heap) (τ : Tape) (q : KV) : s_cors_Exposed call N a0 a1 H τ q = funK call N fn_cors_Exposed [a0, a1] H τ q := by kernel_rfl
def e_cors_Exposed (call : CallK) (N : Nat) (vs : List V) (H : Heap) (τ : Tape) (q : KV) : Ans := match vs with | [a0, a1] => s_cors_Exposed call N a0 a1 H τ q | _ => none
theorem e_cors_Exposed_ok : EntOk fn_cors_Exposed e_cors_Exposed := by
  intro call N vs H τ q r h
  unfold e_cors_Exposed at h
  split at h
  · rw [s_cors_Exposed_eq] at h; exact h
  · cases h
theorem e_cors_Exposed_nat : EntNat e_cors_Exposed := by
  intro c hn N vs H τ q
  unfold e_cors_Exposed
  split
  · rw [s_cors_Exposed_eq, s_cors_Exposed_eq]; exact funK_ent hn _ _ _ _ _ _
  · rfl
/-- ostiary/cors.Method -/
def fn_cors_Method : Fun := ⟨1,(.seq (.reg [iR 2 (.p .mv) [(.c (.str []))],iR 3 (.p .mv) [(.c (.bool false))]]) (iK [0] (.seq (.seq (.reg [iM 4 0,iR 5 (.call 75) [(.t 4)],iR 6 (.p (.un .not)) [(.t 5)]]) (iK [0,6] (.cond (.t 6) (.seq (.reg [iR 2 (.p .mv) [(.c (.str []))],iR 3 (.p .mv) [(.c (.bool false))]]) (iK [2,3] (iK [2,3] .ret))) .skip))) (iK [0] (.seq (.seq (.reg [iM 7 0,iR 8 (.call 59) [(.t 7)]]) (iK [0,8] (.block 0 (.seq (.seq (.reg [iR 10 (iB .eql) [(.t 8),(.c (.str (bs [99,111,110,110,101,99,116])))],iM 9 10]) (iK [0,8,9] (.cond (.t 9) .skip (.seq (.reg [iR 11 (iB .eql) [(.t 8),(.c (.str (bs [116,114,97,99,101])))],iM 9 11]) (iK [0,8,9] (.cond (.t 9) .skip (.reg [iR 12 (iB .eql) [(.t 8),(.c (.str (bs [116,114,97,99,107])))],
    iM 9 12]))))))) (iK [0,8,9] (.cond (.t 9) (.seq (.reg [iR 2 (.p .mv) [(.c (.str []))],iR 3 (.p .mv) [(.c (.bool false))]]) (iK [2,3] (iK [2,3] .ret))) (.seq (.reg [iR 14 (iB .eql) [(.t 8),(.c (.str (bs [100,101,108,101,116,101])))],iM 13 14]) (iK [0,8,13] (.cond (.t 13) (.seq (.reg [iR 2 (.p .mv) [(.c (.str (bs [68,69,76,69,84,69])))],iR 3 (.p .mv) [(.c (.bool true))]]) (iK [2,3] (iK [2,3] .ret))) (.seq (.reg [iR 16 (iB .eql) [(.t 8),(.c (.str (bs [103,101,116])))],iM 15 16]) (iK [0,8,15] (.cond (.t 15) (.seq (.reg [iR 2 (.p .mv) [(.c (.str (bs [71,69,84])))],iR 3 (.p .mv) [(.c (.bool true))]]) (iK [2,3] (iK [2,3] .ret))) (.seq (.reg [iR 18 (iB .eql) [(.t 8),(.c (.str (bs [104,101,97,100])))],iM 17 18])
    (iK [0,8,17] (.cond (.t 17) (.seq (.reg [iR 2 (.p .mv) [(.c (.str (bs [72,69,65,68])))],iR 3 (.p .mv) [(.c (.bool true))]]) (iK [2,3] (iK [2,3] .ret))) (.seq (.reg [iR 20 (iB .eql) [(.t 8),(.c (.str (bs [111,112,116,105,111,110,115])))],iM 19 20]) (iK [0,8,19] (.cond (.t 19) (.seq (.reg [iR 2 (.p .mv) [(.c (.str (bs [79,80,84,73,79,78,83])))],iR 3 (.p .mv) [(.c (.bool true))]]) (iK [2,3] (iK [2,3] .ret))) (.seq (.reg [iR 22 (iB .eql) [(.t 8),(.c (.str (bs [112,111,115,116])))],iM 21 22]) (iK [0,8,21] (.cond (.t 21) (.seq (.reg [iR 2 (.p .mv) [(.c (.str (bs [80,79,83,84])))],iR 3 (.p .mv) [(.c (.bool true))]]) (iK [2,3] (iK [2,3] .ret))) (.seq (.reg [iR 24 (iB .eql) [(.t 8),(.c (.str (bs [112,117,116])))],iM 23 24])
    (iK [0,23] (.cond (.t 23) (.seq (.reg [iR 2 (.p .mv) [(.c (.str (bs [80,85,84])))],iR 3 (.p .mv) [(.c (.bool true))]]) (iK [2,3] (iK [2,3] .ret))) .skip)))))))))))))))))))))))) (iK [0] (.seq (.reg [iM 25 0,iM 2 25,iR 3 (.p .mv) [(.c (.bool true))]]) (iK [2,3] (iK [2,3] .ret))))))))),[(.t 2),(.t 3)]⟩
/-- ostiary/ostiarylaw18.allow -/
def fn_law18_allow : Fun := ⟨1,(.seq (.reg [iR 2 (.p .mv) [(.c .nils)]]) (iK [0] (.seq (.reg [iM 3 0,iR 4 (.p (.build [(.str []),(.str [])] [(0,1),(1,1)])) [(.c (.str (bs [65,99,99,101,115,115,45,67,111,110,116,114,111,108,45,65,108,108,111,119,45,79,114,105,103,105,110]))),(.t 3)],iR 5 (.e (.buildSlice 1 2 [(.str []),(.str [])] [(0,2)])) [(.t 4)],iM 2 5]) (iK [2] (iK [2] .ret))))),[(.t 2)]⟩
/-- ostiary/cors.Check -/
def fn_cors_Check : Fun := ⟨3,(.seq (.reg [iR 3 (.e .box) [(.t 0)],iR 6 (.p .mv) [(.c (.bool false))]]) (iK [1,2,3] (.seq (.reg [iM 10 2,iR 11 (.call 60) [(.t 10),(.c (.str (bs [97,99,99,101,115,115,45,99,111,110,116,114,111,108,45,97,108,108,111,119,45,111,114,105,103,105,110])))],iM 9 11,iR 12 (.p (.extract 0)) [(.t 9)],iR 13 (.p (.extract 1)) [(.t 9)],iM 7 12,iM 8 13]) (iK [1,2,3,7,8] (.seq (.block 0 (.seq (.reg [iM 15 8,iR 16 (.p (.un .not)) [(.t 15)],iM 14 16]) (iK [1,2,3,7,14] (.cond (.t 14) (.seq (.reg [iR 6 (.p .mv) [(.c (.bool false))]]) (iK [6] (iK [6] .ret))) (.seq (.reg [iM 18 7,iR 19 (iB .eql) [(.t 18),(.c (.str (bs [42])))],iM 20 19,iN 21 20 true 1,
    iG 22 20 true (.p (.un .not)) [(.t 21)],iR 23 (.p .pick) [(.t 20),(.t 22),(.c (.bool false))],iM 17 23]) (iK [1,2,3,7,17] (.cond (.t 17) (.seq (.reg [iR 6 (.p .mv) [(.c (.bool true))]]) (iK [6] (iK [6] .ret))) (.seq (.reg [iM 25 7,iR 26 (.l (.load (some 4))) [(.t 3)],iR 27 (.call 76) [(.t 26)],iR 28 (iB .neq) [(.t 25),(.t 27)],iM 24 28]) (iK [1,2,24] (.cond (.t 24) (.seq (.reg [iR 6 (.p .mv) [(.c (.bool false))]]) (iK [6] (iK [6] .ret))) .skip)))))))))) (iK [1,2] (.seq (.reg [iM 30 2,iR 31 (.call 60) [(.t 30),(.c (.str (bs [97,99,99,101,115,115,45,99,111,110,116,114,111,108,45,97,108,108,111,119,45,99,114,101,100,101,110,116,105,97,108,115])))],iM 29 31,iR 32 (.p (.extract 0)) [(.t 29)],iR 33 (.p (.extract 1)) [(.t 29)],
    iM 7 32]) (iK [1,7] (.seq (.reg [iM 34 1,iR 35 (.p (.un .not)) [(.t 34)],iM 36 35,iN 37 36 false 7,iG 38 36 false (iB .eql) [(.t 37),(.c (.str (bs [116,114,117,101])))],iR 39 (.p .pick) [(.t 36),(.c (.bool true)),(.t 38)],iM 6 39]) (iK [6] (iK [6] .ret))))))))))),[(.t 6)]⟩
/-- ostiary/ostiarylaw18.of -/
def fn_law18_of : Fun := ⟨1,(.seq (.reg [iR 2 (.e (.alloc [(.str []),(.str []),(.int .i64 (.ofNat 0)),(.bool false)])) []]) (iK [0,2] (.seq (.reg [iM 6 0,iR 7 (.call 62) [(.t 6)],iM 5 7,iR 8 (.p (.extract 0)) [(.t 5)],iR 9 (.p (.extract 1)) [(.t 5)],iR 3 (.e (.alloc [(.str []),(.str []),(.str []),(.str []),(.bool false),(.int .i64 (.ofNat 0)),(.bool false),.nils,(.str []),(.str []),(.bool false),(.bool false)])) [],⟨none,none,(.e (.store 12)),[(.t 3),(.t 8)],none⟩,iM 4 9]) (iK [2,3] (.seq (.reg [iR 10 (.l (.load (some 12))) [(.t 3)],iR 11 (.call 63) [(.t 10)],⟨none,none,(.e (.store 4)),[(.t 2),(.t 11)],none⟩]) (iK [2] (iK [2] .ret))))))),[(.cell 2 (some 4))]⟩
/-- slices.Contains[[]string,string] -/
def fn_slices_Contains_string : Fun := ⟨2,(.seq (.reg [iR 4 (.p .mv) [(.c (.bool false))]]) (iK [0,1] (.seq (.reg [iM 5 0,iM 6 1,iR 7 (.call 82) [(.t 5),(.t 6)],iR 8 (iB .geq) [(.t 7),(iC 0)],iM 4 8]) (iK [4] (iK [4] .ret))))),[(.t 4)]⟩
def s_slices_Contains_string (call : CallK) (N : Nat) (a0 a1 : V) (H : Heap) (τ : Tape) (q : KV) : Ans := call f_slices_Index_string [a0,a1] H τ fun v0 H1 τ2 => binK .geq v0 (.int .i64 (.ofNat 0)) fun v3 => q v3 H1 τ2
theorem s_slices_Contains_string_eq (call : CallK) (N : Nat) (a0 a1 : V) (H : Heap) (τ : Tape) (q : KV) : s_slices_Contains_string call N a0 a1 H τ q = funK call N fn_slices_Contains_string [a0, a1] H τ q := by kernel_rfl
def e_slices_Contains_string (call : CallK) (N : Nat) (vs : List V) (H : Heap) (τ : Tape) (q : KV) : Ans := match vs with | [a0, a1] => s_slices_Contains_string call N a0 a1 H τ q | _ => none
theorem e_slices_Contains_string_ok : EntOk fn_slices_Contains_string e_slices_Contains_string := by
  intro call N vs H τ q r h
  unfold e_slices_Contains_string at h
  split at h
  · rw [s_slices_Contains_string_eq] at h; exact h
  · cases h
theorem e_slices_Contains_string_nat : EntNat e_slices_Contains_string := by
  intro c hn N vs H τ q
  unfold e_slices_Contains_string
  split
  · rw [s_slices_Contains_string_eq, s_slices_Contains_string_eq]; exact funK_ent hn _ _ _ _ _ _
  · rfl
/-- ostiary/ostiaryref1.Lower -/
def fn_ref1_Lower : Fun := ⟨1,(.seq (.reg [iR 2 (.p .mv) [(.c (.str []))]]) (iK [0] (.seq (.reg [iM 5 0,iR 6 (.e .strBytes) [(.t 5)],iM 3 6]) (iK [3] (.seq (.seq (.reg [iR 4 (.p .mv) [(iC 0)]]) (iK [3,4] (.block 0 (.loop (iK [3,4] (.seq (.seq (.reg [iM 7 4,iM 8 3,iR 9 (.p .len) [(.t 8)],iR 10 (iB .lss) [(.t 7),(.t 9)]]) (iK [3,4,10] (.cond (.t 10) .skip (iK [3] (.exit 0))))) (iK [3,4] (.seq (.block 1 (.seq (.reg [iM 13 3,iM 14 4,iR 15 (.p (.slIdx 1)) [(.t 13),(.t 14)],iR 16 (.l (.load none)) [(.t 15)],iR 17 (iB .geq) [(.t 16),(iU 65)],iM 18 17,iN 19 18 true 3,iN 20 18 true 4,iG 21 18 true (.p (.slIdx 1)) [(.t 19),(.t 20)],
    iG 22 18 true (.l (.load none)) [(.t 21)],iG 23 18 true (iB .leq) [(.t 22),(iU 90)],iR 24 (.p .pick) [(.t 18),(.t 23),(.c (.bool false))]]) (iK [3,4,24] (.cond (.t 24) (.reg [iM 25 3,iM 26 4,iM 27 3,iM 28 4,iR 29 (.p (.slIdx 1)) [(.t 27),(.t 28)],iR 30 (.l (.load none)) [(.t 29)],iR 31 (iB .add) [(.t 30),(iU 32)],iR 32 (.p (.slIdx 1)) [(.t 25),(.t 26)],⟨none,none,(.e (.store 1)),[(.t 32),(.t 31)],none⟩]) .skip)))) (iK [3,4] (.reg [iM 11 4,iR 12 (iB .add) [(.t 11),(iC 1)],iM 4 12])))))))))) (iK [3] (.seq (.reg [iM 33 3,iR 34 (.l .bytesStr) [(.t 33)],iM 2 34]) (iK [2] (iK [2] .ret))))))))),[(.t 2)]⟩
/-- ostiary/infra.Lower -/
def fn_infra_Lower : Fun := ⟨1,(.seq (.reg [iR 2 (.p .mv) [(.c (.str []))]]) (iK [0] (.seq (.reg [iM 3 0,iR 4 (.call 85) [(.t 3),(.c (.func 86 [] []))],iM 2 4]) (iK [2] (iK [2] .ret))))),[(.t 2)]⟩
/-- ostiary/headers.Get -/
def fn_headers_Get : Fun := ⟨2,(.seq (.reg [iR 4 (.p .mv) [(.c (.str []))],iR 5 (.p .mv) [(.c (.bool false))]]) (iK [0,1] (.seq (.reg [iR 6 (.p .mv) [(.c .nils)]]) (iK [0,1,6] (.seq (.seq (.reg [iM 9 0,iR 10 (.p .len) [(.t 9)],iR 11 (.p .mv) [(iC 0)]]) (iK [1,6,9,10,11] (.block 0 (.loop (iK [1,6,9,10,11] (.seq (.reg [iR 12 (iB .lss) [(.t 11),(.t 10)]]) (iK [1,6,9,10,11,12] (.seq (.cond (.t 12) .skip (iK [6] (.exit 0))) (iK [1,6,9,10,11] (.seq (.block 1 (.seq (.reg [iR 13 (.p (.slIdx 2)) [(.t 9),(.t 11)],iR 14 (.l (.load (some 2))) [(.t 13)],iR 8 (.e (.alloc [(.str []),(.str [])])) [],⟨none,none,(.e (.store 2)),[(.t 8),(.t 14)],none⟩]) (iK [1,6,8,9,10,11] (.seq (.reg [iR 15 (.l (.load (some 2))) [(.t 8)],iM 16 1,iR 17 (.call 87) [(.t 15),(.t 16)]])
    (iK [1,6,8,9,10,11,17] (.cond (.t 17) (.reg [iM 18 6,iR 19 (.p (.fieldAddr 1)) [(.t 8)],iR 20 (.l (.load none)) [(.t 19)],iR 21 (.e (.buildSlice 1 1 [(.str [])] [(0,1)])) [(.t 20)],iR 22 (.e (.append 1 16)) [(.t 18),(.t 21)],iM 6 22]) .skip)))))) (iK [1,6,9,10,11] (.reg [iR 23 (iB .add) [(.t 11),(iC 1)],iM 11 23])))))))))))) (iK [6] (.seq (.reg [iM 24 6,iR 25 (.call 88) [(.t 24),(.c (.str (bs [44,32])))],iM 26 6,iR 27 (.p .len) [(.t 26)],iR 28 (iB .gtr) [(.t 27),(iC 0)],iM 4 25,iM 5 28]) (iK [4,5] (iK [4,5] .ret))))))))),[(.t 4),(.t 5)]⟩
def s_headers_Get_j0 (call : CallK) (N : Nat) (q : KV) (st : St) (τ : Tape) : Ans := match st with
  | ⟨fr,H⟩ => getK fr 6 fun t6 => call f_strings_Join [t6,(.str (bs [44,32]))] H τ fun v1 H2 τ3 => someK (pLen [t6]) fun v4 => binK .gtr v4 (.int .i64 (.ofNat 0)) fun v5 => q (.tup [v1,v5]) H2 τ3
def s_headers_Get_j2 (call : CallK) (N : Nat) (k : KC) (st : St) (τ : Tape) : Ans := match st with
  | ⟨fr,H⟩ => getK fr 1 fun t1 => getK fr 6 fun t6 => getK fr 9 fun t9 => getK fr 10 fun t10 => getK fr 11 fun t11 => binK .add t11 (.int .i64 (.ofNat 1)) fun v7 => k .normal ⟨(T.set (T.set (T.set (T.set (T.set (T.set (T.set .leaf 1 t1) 6 t6) 9 t9) 10 t10) 11 t11) 23 v7) 11 v7),H⟩ τ
def s_headers_Get_l1 (call : CallK) (N : Nat) (st : St) (τ : Tape) (k : KC) : Ans := match st with
  | ⟨fr,H⟩ => getK fr 1 fun t1 => getK fr 6 fun t6 => getK fr 9 fun t9 => getK fr 10 fun t10 => getK fr 11 fun t11 => binK .lss t11 t10 fun v6 => condK v6 (someK (pSlIdx 2 [t9,t11]) fun v8 => someK (lLoadN 2 [v8] H) fun v9 => effK (eAlloc [(.str []),(.str [])] [] H τ) fun v10 H11 τ12 => effK (eStore 2 [v10,v9] H11 τ12) fun v13 H14 τ15 => someK (lLoadN 2 [v10] H14) fun v16 => call f_headers_is [v16,t1] H14 τ15 fun v17 H18 τ19 => condK v17 (someK (pFieldAddr 1 [v10]) fun v20 => someK (lLoad1 [v20] H18) fun v21 => effK (eBuildSlice 1 1 [(.str [])] [(0,1)] [v21] H18 τ19) fun v22 H23 τ24 => effK (eAppend 1 16 [t6,v22] H23 τ24) fun v25 H26 τ27 => s_headers_Get_j2 call N k ⟨(T.set (T.set (T.set (T.set (T.set (T.set (T.set (T.set (T.set (T.set (T.set (T.set (T.set .leaf 1 t1) 6 t6) 8 v10) 9 t9) 10 t10) 11 t11) 17 v17) 18 t6) 19 v20) 20 v21) 21 v22) 22 v25) 6 v25),H26⟩ τ27)
    (s_headers_Get_j2 call N k ⟨(T.set (T.set (T.set (T.set (T.set (T.set (T.set .leaf 1 t1) 6 t6) 8 v10) 9 t9) 10 t10) 11 t11) 17 v17),H18⟩ τ19)) (k (.exit 0) ⟨(T.set .leaf 6 t6),H⟩ τ)
def s_headers_Get (call : CallK) (N : Nat) (a0 a1 : V) (H : Heap) (τ : Tape) (q : KV) : Ans := someK (pLen [a0]) fun v0 => loopK (s_headers_Get_l1 call N) N ⟨(T.set (T.set (T.set (T.set (T.set .leaf 1 a1) 6 .nils) 9 a0) 10 v0) 11 (.int .i64 (.ofNat 0))),H⟩ τ (blockK 0 (seqK (s_headers_Get_j0 call N q) (endK [(.t 4),(.t 5)] q)))
theorem s_headers_Get_eq (call : CallK) (N : Nat) (a0 a1 : V) (H : Heap) (τ : Tape) (q : KV) : s_headers_Get call N a0 a1 H τ q = funK call N fn_headers_Get [a0, a1] H τ q := by kernel_rfl
def e_headers_Get (call : CallK) (N : Nat) (vs : List V) (H : Heap) (τ : Tape) (q : KV) : Ans := match vs with | [a0, a1] => s_headers_Get call N a0 a1 H τ q | _ => none
theorem e_headers_Get_ok : EntOk fn_headers_Get e_headers_Get := by
  intro call N vs H τ q r h
  unfold e_headers_Get at h
  split at h
  · rw [s_headers_Get_eq] at h; exact h
  · cases h
theorem e_headers_Get_nat : EntNat e_headers_Get := by
  intro c hn N vs H τ q
  unfold e_headers_Get
  split
  · rw [s_headers_Get_eq, s_headers_Get_eq]; exact funK_ent hn _ _ _ _ _ _
  · rfl
/-- ostiary/infra.Int -/
def fn_infra_Int : Fun := ⟨1,(.seq (.reg [iR 2 (.p .mv) [(iC 0)],iR 3 (.p .mv) [(.c (.bool false))]]) (iK [0] (.seq (.reg [iR 4 (.p .mv) [(iC 0)]]) (iK [0,4] (.seq (.seq (.reg [iM 8 0,iR 9 (.p .lenS) [(.t 8)],iR 10 (.p .mv) [(iC 0)]]) (iK [0,4,9,10] (.block 0 (.loop (iK [0,4,9,10] (.seq (.reg [iR 11 (iB .lss) [(.t 10),(.t 9)]]) (iK [0,4,9,10,11] (.seq (.cond (.t 11) .skip (iK [0,4] (.exit 0))) (iK [0,4,9,10] (.seq (.block 1 (.seq (.reg [iM 12 10,iM 5 12]) (iK [0,4,5,9,10] (.seq (.reg [iM 13 0,iM 14 5,iR 15 (.p .strIndex) [(.t 13),(.t 14)],iM 6 15]) (iK [0,4,6,9,10] (.seq (.seq (.reg [iM 16 6,
    iR 17 (iB .lss) [(.t 16),(iU 48)],iM 18 17,iN 19 18 false 6,iG 20 18 false (iB .gtr) [(.t 19),(iU 57)],iR 21 (.p .pick) [(.t 18),(.c (.bool true)),(.t 20)]]) (iK [0,4,6,9,10,21] (.cond (.t 21) (.seq (.reg [iR 2 (.p .mv) [(iC 0)],iR 3 (.p .mv) [(.c (.bool false))]]) (iK [2,3] (iK [2,3] .ret))) .skip))) (iK [0,4,6,9,10] (.seq (.reg [iM 22 6,iR 23 (iB .sub) [(.t 22),(iU 48)],iR 24 (.p (.toInt .i64)) [(.t 23)],iM 7 24]) (iK [0,4,7,9,10] (.seq (.seq (.reg [iM 25 4,iM 26 7,iR 27 (iB .sub) [(iC 9223372036854775807),(.t 26)],iR 28 (iB .quo) [(.t 27),(iC 10)],
    iR 29 (iB .gtr) [(.t 25),(.t 28)]]) (iK [0,4,7,9,10,29] (.cond (.t 29) (.seq (.reg [iR 4 (.p .mv) [(iC 9223372036854775807)]]) (iK [0,4,9,10] (iK [0,4,9,10] (.exit 1)))) .skip))) (iK [0,4,7,9,10] (.reg [iM 30 4,iR 31 (iB .mul) [(.t 30),(iC 10)],iM 32 7,iR 33 (iB .add) [(.t 31),(.t 32)],iM 4 33])))))))))))) (iK [0,4,9,10] (.reg [iR 34 (iB .add) [(.t 10),(iC 1)],iM 10 34])))))))))))) (iK [0,4] (.seq (.reg [iM 35 4,iM 36 0,iR 37 (.p .lenS) [(.t 36)],iR 38 (iB .gtr) [(.t 37),(iC 0)],iM 2 35,iM 3 38]) (iK [2,3] (iK [2,3] .ret))))))))),[(.t 2),(.t 3)]⟩
def s_infra_Int_j0 (call : CallK) (N : Nat) (q : KV) (st : St) (τ : Tape) : Ans := match st with
  | ⟨fr,H⟩ => getK fr 0 fun t0 => getK fr 4 fun t4 => someK (pLenS [t0]) fun v1 => binK .gtr v1 (.int .i64 (.ofNat 0)) fun v2 => q (.tup [t4,v2]) H τ
def s_infra_Int_j2 (call : CallK) (N : Nat) (k : KC) (st : St) (τ : Tape) : Ans := match st with
  | ⟨fr,H⟩ => getK fr 0 fun t0 => getK fr 4 fun t4 => getK fr 9 fun t9 => getK fr 10 fun t10 => binK .add t10 (.int .i64 (.ofNat 1)) fun v4 => k .normal ⟨(T.set (T.set (T.set (T.set (T.set (T.set .leaf 0 t0) 4 t4) 9 t9) 10 t10) 34 v4) 10 v4),H⟩ τ
def s_infra_Int_l1 (call : CallK) (N : Nat) (st : St) (τ : Tape) (k : KC) : Ans := match st with
  | ⟨fr,H⟩ => getK fr 0 fun t0 => getK fr 4 fun t4 => getK fr 9 fun t9 => getK fr 10 fun t10 => binK .lss t10 t9 fun v3 => condK v3 (someK (pStrIndex [t0,t10]) fun v5 => binK .lss v5 (.int .u8 (.ofNat 48)) fun v6 => gK v6 false (fun q' => q' v5 H τ) H τ fun v7 H8 τ9 => gK v6 false (fun q' => binK .gtr v7 (.int .u8 (.ofNat 57)) fun v => q' v H8 τ9) H8 τ9 fun v10 H11 τ12 => someK (pPick [v6,(.bool true),v10]) fun v13 => condK v13 (k .ret ⟨(T.set (T.set .leaf 2 (.int .i64 (.ofNat 0))) 3 (.bool false)),H11⟩ τ12) (binK .sub v5 (.int .u8 (.ofNat 48)) fun v14 => toIntK .i64 v14 fun v15 => binK .sub (.int .i64 (.ofNat 9223372036854775807)) v15 fun v16 => binK .quo v16 (.int .i64 (.ofNat 10)) fun v17 => binK .gtr t4 v17 fun v18 => condK v18 (s_infra_Int_j2 call N k ⟨(T.set (T.set (T.set (T.set .leaf 0 t0) 4 (.int .i64 (.ofNat 9223372036854775807))) 9 t9) 10 t10),H11⟩ τ12)
    (binK .mul t4 (.int .i64 (.ofNat 10)) fun v19 => binK .add v19 v15 fun v20 => s_infra_Int_j2 call N k ⟨(T.set (T.set (T.set (T.set (T.set (T.set (T.set (T.set (T.set (T.set .leaf 0 t0) 4 t4) 7 v15) 9 t9) 10 t10) 30 t4) 31 v19) 32 v15) 33 v20) 4 v20),H11⟩ τ12))) (k (.exit 0) ⟨(T.set (T.set .leaf 0 t0) 4 t4),H⟩ τ)
def s_infra_Int (call : CallK) (N : Nat) (a0 : V) (H : Heap) (τ : Tape) (q : KV) : Ans := someK (pLenS [a0]) fun v0 => loopK (s_infra_Int_l1 call N) N ⟨(T.set (T.set (T.set (T.set .leaf 0 a0) 4 (.int .i64 (.ofNat 0))) 9 v0) 10 (.int .i64 (.ofNat 0))),H⟩ τ (blockK 0 (seqK (s_infra_Int_j0 call N q) (endK [(.t 2),(.t 3)] q)))
theorem s_infra_Int_eq (call : CallK) (N : Nat) (a0 : V) (H : Heap) (τ : Tape) (q : KV) : s_infra_Int call N a0 H τ q = funK call N fn_infra_Int [a0] H τ q := by kernel_rfl
def e_infra_Int (call : CallK) (N : Nat) (vs : List V) (H : Heap) (τ : Tape) (q : KV) : Ans := match vs with | [a0] => s_infra_Int call N a0 H τ q | _ => none
theorem e_infra_Int_ok : EntOk fn_infra_Int e_infra_Int := by
  intro call N vs H τ q r h
  unfold e_infra_Int at h
  split at h
  · rw [s_infra_Int_eq] at h; exact h
  · cases h
theorem e_infra_Int_nat : EntNat e_infra_Int := by
  intro c hn N vs H τ q
  unfold e_infra_Int
  split
  · rw [s_infra_Int_eq, s_infra_Int_eq]; exact funK_ent hn _ _ _ _ _ _
  · rfl
/-- ostiary/ostiarykeep.URL -/
def fn_keep_URL : Fun := ⟨1,(.seq (.reg [iR 2 (.e (.alloc [(.str []),(.str []),(.str []),(.str []),(.bool false),(.int .i64 (.ofNat 0)),(.bool false),.nils,(.str []),(.str []),(.bool false),(.bool false)])) [],iR 3 (.p .mv) [(.c (.bool false))]]) (iK [0,2] (.seq (.reg [iM 7 0,iR 8 (.call 10) [(.t 7),(iC 300)],iR 9 (.call 89) [(.t 8)],iM 6 9,iR 10 (.p (.extract 0)) [(.t 6)],iR 11 (.p (.extract 1)) [(.t 6)],iR 4 (.e (.alloc [(.str []),(.str []),(.str []),(.str []),(.bool false),(.int .i64 (.ofNat 0)),(.bool false),.nils,(.str []),(.str []),(.bool false),(.bool false)])) [],⟨none,none,(.e (.store 12)),[(.t 4),(.t 10)],none⟩,iM 5 11]) (iK [2,4,5] (.seq (.reg [iR 12 (.l (.load (some 12))) [(.t 4)],iM 13 5,
    iR 14 (iB .eql) [(.t 13),(iC 0)],⟨none,none,(.e (.store 12)),[(.t 2),(.t 12)],none⟩,iM 3 14]) (iK [2,3] (iK [2,3] .ret))))))),[(.cell 2 (some 12)),(.t 3)]⟩
/-- ostiary/ostiaryref4.Of -/
def fn_ref4_Of : Fun := ⟨1,(.seq (.reg [iR 1 (.e .box) [(.t 0)],iR 2 (.e (.alloc [(.str []),(.str []),(.int .i64 (.ofNat 0)),(.bool false)])) []]) (iK [1,2] (.seq (.seq (.reg [iR 5 (.p (.fieldAddr 0)) [(.t 1)],iR 6 (.l (.load none)) [(.t 5)],iR 7 (iB .eql) [(.t 6),(.c (.str (bs [98,108,111,98])))],iM 8 7,iG 9 8 true (.p (.fieldAddr 6)) [(.t 1)],iG 10 8 true (.l (.load none)) [(.t 9)],iR 11 (.p .pick) [(.t 8),(.t 10),(.c (.bool false))],iM 12 11,iG 13 12 true (.p (.fieldAddr 7)) [(.t 1)],iG 14 12 true (.l (.load none)) [(.t 13)],iG 15 12 true (.p .len) [(.t 14)],iG 16 12 true (iB .eql) [(.t 15),(iC 1)],iR 17 (.p .pick) [(.t 12),(.t 16),(.c (.bool false))]]) (iK [1,2,17] (.cond (.t 17) (.seq (.reg [iR 19 (.p (.fieldAddr 7)) [(.t 1)],iR 20 (.l (.load none)) [(.t 19)],
    iR 21 (.p (.slIdx 1)) [(.t 20),(iC 0)],iR 22 (.l (.load none)) [(.t 21)],iR 23 (.call 89) [(.t 22)],iM 18 23,iR 24 (.p (.extract 0)) [(.t 18)],iR 25 (.p (.extract 1)) [(.t 18)],iR 3 (.e (.alloc [(.str []),(.str []),(.str []),(.str []),(.bool false),(.int .i64 (.ofNat 0)),(.bool false),.nils,(.str []),(.str []),(.bool false),(.bool false)])) [],⟨none,none,(.e (.store 12)),[(.t 3),(.t 24)],none⟩,iM 4 25]) (iK [1,2,3,4] (.seq (.reg [iM 26 4,iR 27 (iB .eql) [(.t 26),(iC 0)],iM 28 27,iG 29 28 true (.p (.fieldAddr 0)) [(.t 3)],iG 30 28 true (.l (.load none)) [(.t 29)],iG 31 28 true (iB .eql) [(.t 30),(.c (.str (bs [104,116,116,112])))],iN 32 28 true 31,iG 33 32 false (.p (.fieldAddr 0)) [(.t 3)],
    iG 34 32 false (.l (.load none)) [(.t 33)],iG 35 32 false (iB .eql) [(.t 34),(.c (.str (bs [104,116,116,112,115])))],iG 36 28 true (.p .pick) [(.t 32),(.c (.bool true)),(.t 35)],iR 37 (.p .pick) [(.t 28),(.t 36),(.c (.bool false))]]) (iK [1,2,3,37] (.cond (.t 37) (.seq (.reg [iR 38 (.l (.load (some 12))) [(.t 3)],iR 39 (.call 63) [(.t 38)],⟨none,none,(.e (.store 4)),[(.t 2),(.t 39)],none⟩]) (iK [2] (iK [2] .ret))) .skip))))) .skip))) (iK [1,2] (.seq (.seq (.reg [iR 40 (.p (.fieldAddr 0)) [(.t 1)],iR 41 (.l (.load none)) [(.t 40)],iR 42 (.call 90) [(.t 41)],iR 43 (.p (.un .not)) [(.t 42)]]) (iK [1,2,43] (.cond (.t 43) (.seq (.reg [iR 44 (.p (.build [(.str []),(.str []),(.int .i64 (.ofNat 0)),(.bool false)] [(3,1)])) [(.c (.bool true))],⟨none,none,(.e (.store 4)),[(.t 2),(.t 44)],none⟩]) (iK [2] (iK [2] .ret)))
    .skip))) (iK [1,2] (.seq (.draw [iR 45 (.p (.fieldAddr 0)) [(.t 1)],⟨(some 46),none,(.l (.load none)),[(.t 45)],some (0,1)⟩,iR 47 (.p (.fieldAddr 3)) [(.t 1)],⟨(some 48),none,(.l (.load none)),[(.t 47)],some (0,1)⟩,iR 49 (.l (.load (some 12))) [(.t 1)],iR 50 (.call 91) [(.t 49)],iR 51 (.p (.build [(.str []),(.str []),(.int .i64 (.ofNat 0)),(.bool false)] [(0,1),(1,1),(2,1)])) [(.t 46),(.t 48),(.t 50)],⟨none,none,(.e (.store 4)),[(.t 2),(.t 51)],none⟩]) (iK [2] (iK [2] .ret))))))))),[(.cell 2 (some 4))]⟩
/-- ostiary/headers.Safe -/
def fn_headers_Safe : Fun := ⟨2,(.seq (.reg [iR 4 (.p .mv) [(.c (.bool false))]]) (iK [0,1] (.seq (.seq (.reg [iM 11 1,iR 12 (.p .lenS) [(.t 11)],iR 13 (iB .gtr) [(.t 12),(iC 128)]]) (iK [0,1,13] (.cond (.t 13) (.seq (.reg [iR 4 (.p .mv) [(.c (.bool false))]]) (iK [4] (iK [4] .ret))) .skip))) (iK [0,1] (.seq (.seq (.reg [iM 14 0,iR 15 (.call 59) [(.t 14)]]) (iK [1,15] (.block 0 (.seq (.reg [iR 17 (iB .eql) [(.t 15),(.c (.str (bs [97,99,99,101,112,116])))],iM 16 17]) (iK [1,15,16] (.cond (.t 16) (.seq (.reg [iM 18 1,iR 19 (.call 98) [(.t 18)],iR 20 (.p (.un .not)) [(.t 19)],iM 4 20]) (iK [4] (iK [4] .ret)))
    (.seq (.seq (.reg [iR 22 (iB .eql) [(.t 15),(.c (.str (bs [97,99,99,101,112,116,45,108,97,110,103,117,97,103,101])))],iM 21 22]) (iK [1,15,21] (.cond (.t 21) .skip (.reg [iR 23 (iB .eql) [(.t 15),(.c (.str (bs [99,111,110,116,101,110,116,45,108,97,110,103,117,97,103,101])))],iM 21 23])))) (iK [1,15,21] (.cond (.t 21) (.seq (.reg [iM 24 1,iR 25 (.call 99) [(.t 24)],iM 4 25]) (iK [4] (iK [4] .ret))) (.seq (.reg [iR 27 (iB .eql) [(.t 15),(.c (.str (bs [99,111,110,116,101,110,116,45,116,121,112,101])))],iM 26 27]) (iK [1,15,26] (.cond (.t 26) (.seq (.reg [iM 29 1,iR 30 (.call 100) [(.t 29),(.c (.str (bs [59])))],iM 28 30,iR 31 (.p (.extract 0)) [(.t 28)],
    iR 32 (.p (.extract 1)) [(.t 28)],iR 33 (.p (.extract 2)) [(.t 28)],iM 5 31,iM 6 32,iM 7 33]) (iK [1,5] (.seq (.reg [iM 34 5,iR 35 (.call 101) [(.t 34)],iR 36 (.call 59) [(.t 35)]]) (iK [1,36] (.block 1 (.seq (.seq (.reg [iR 38 (iB .eql) [(.t 36),(.c (.str (bs [97,112,112,108,105,99,97,116,105,111,110,47,120,45,119,119,119,45,102,111,114,109,45,117,114,108,101,110,99,111,100,101,100])))],iM 37 38]) (iK [1,36,37] (.cond (.t 37) .skip (.seq (.reg [iR 39 (iB .eql) [(.t 36),(.c (.str (bs [109,117,108,116,105,112,97,114,116,47,102,111,114,109,45,100,97,116,97])))],iM 37 39]) (iK [1,36,37] (.cond (.t 37) .skip
    (.reg [iR 40 (iB .eql) [(.t 36),(.c (.str (bs [116,101,120,116,47,112,108,97,105,110])))],iM 37 40]))))))) (iK [1,37] (.cond (.t 37) (.seq (.reg [iM 41 1,iR 42 (.call 98) [(.t 41)],iR 43 (.p (.un .not)) [(.t 42)],iM 4 43]) (iK [4] (iK [4] .ret))) .skip)))))))) (.seq (.reg [iR 45 (iB .eql) [(.t 15),(.c (.str (bs [114,97,110,103,101])))],iM 44 45]) (iK [1,44] (.cond (.t 44) (.seq (.reg [iM 47 1,iR 48 (.call 102) [(.t 47)],iM 46 48,iR 49 (.p (.extract 0)) [(.t 46)],iR 50 (.p (.extract 1)) [(.t 46)],iR 51 (.p (.extract 2)) [(.t 46)],iM 8 49,iM 9 50,iM 10 51]) (iK [8,10] (.seq (.reg [iM 52 10,iM 53 52,iN 54 53 true 8,
    iG 55 53 true (iB .geq) [(.t 54),(iC 0)],iR 56 (.p .pick) [(.t 53),(.t 55),(.c (.bool false))],iM 4 56]) (iK [4] (iK [4] .ret))))) .skip))))))))))))))) (iK [] (.seq (.reg [iR 4 (.p .mv) [(.c (.bool false))]]) (iK [4] (iK [4] .ret))))))))),[(.t 4)]⟩
def s_headers_Safe_j0 (call : CallK) (N : Nat) (q : KV) (st : St) (τ : Tape) : Ans := match st with
  | ⟨fr,H⟩ => q (.bool false) H τ
def s_headers_Safe_j2 (call : CallK) (N : Nat) (q : KV) (st : St) (τ : Tape) : Ans := match st with
  | ⟨fr,H⟩ => getK fr 1 fun t1 => getK fr 37 fun t37 => condK t37 (call f_headers_unsafe [t1] H τ fun v28 H29 τ30 => unK .not v28 fun v31 => q v31 H29 τ30) (s_headers_Safe_j0 call N q ⟨(T.set (T.set .leaf 1 t1) 37 t37),H⟩ τ)
def s_headers_Safe_j1 (call : CallK) (N : Nat) (q : KV) (st : St) (τ : Tape) : Ans := match st with
  | ⟨fr,H⟩ => getK fr 1 fun t1 => getK fr 15 fun t15 => getK fr 21 fun t21 => condK t21 (call f_headers_tongues [t1] H τ fun v11 H12 τ13 => q v11 H12 τ13) (binK .eql t15 (.str (bs [99,111,110,116,101,110,116,45,116,121,112,101])) fun v14 => condK v14 (call f_strings_Cut [t1,(.str (bs [59]))] H τ fun v15 H16 τ17 => someK (pExtract 0 [v15]) fun v18 => someK (pExtract 1 [v15]) fun v19 => someK (pExtract 2 [v15]) fun v20 => call f_infra_Strip [v18] H16 τ17 fun v21 H22 τ23 => call f_infra_Lower [v21] H22 τ23 fun v24 H25 τ26 => binK .eql v24 (.str (bs [97,112,112,108,105,99,97,116,105,111,110,47,120,45,119,119,119,45,102,111,114,109,45,117,114,108,101,110,99,111,100,101,100])) fun v27 => condK v27 (s_headers_Safe_j2 call N q ⟨(T.set (T.set (T.set .leaf 1 t1) 36 v24) 37 v27),H25⟩ τ26)
    (binK .eql v24 (.str (bs [109,117,108,116,105,112,97,114,116,47,102,111,114,109,45,100,97,116,97])) fun v32 => condK v32 (s_headers_Safe_j2 call N q ⟨(T.set (T.set (T.set .leaf 1 t1) 36 v24) 37 v32),H25⟩ τ26) (binK .eql v24 (.str (bs [116,101,120,116,47,112,108,97,105,110])) fun v33 => s_headers_Safe_j2 call N q ⟨(T.set (T.set (T.set (T.set (T.set .leaf 1 t1) 36 v24) 37 v32) 40 v33) 37 v33),H25⟩ τ26))) (binK .eql t15 (.str (bs [114,97,110,103,101])) fun v34 => condK v34 (call f_headers_Range [t1] H τ fun v35 H36 τ37 => someK (pExtract 0 [v35]) fun v38 => someK (pExtract 1 [v35]) fun v39 => someK (pExtract 2 [v35]) fun v40 => gK v40 true (fun q' => q' v38 H36 τ37) H36 τ37 fun v41 H42 τ43 => gK v40 true (fun q' => binK .geq v41 (.int .i64 (.ofNat 0)) fun v => q' v H42 τ43) H42 τ43 fun v44 H45 τ46 => someK (pPick [v40,v44,(.bool false)]) fun v47 =>
    q v47 H45 τ46) (s_headers_Safe_j0 call N q ⟨(T.set (T.set .leaf 1 t1) 44 v34),H⟩ τ)))
def s_headers_Safe (call : CallK) (N : Nat) (a0 a1 : V) (H : Heap) (τ : Tape) (q : KV) : Ans := someK (pLenS [a1]) fun v0 => binK .gtr v0 (.int .i64 (.ofNat 128)) fun v1 => condK v1 (q (.bool false) H τ) (call f_infra_Lower [a0] H τ fun v2 H3 τ4 => binK .eql v2 (.str (bs [97,99,99,101,112,116])) fun v5 => condK v5 (call f_headers_unsafe [a1] H3 τ4 fun v6 H7 τ8 => unK .not v6 fun v9 => q v9 H7 τ8) (binK .eql v2 (.str (bs [97,99,99,101,112,116,45,108,97,110,103,117,97,103,101])) fun v10 => condK v10 (s_headers_Safe_j1 call N q ⟨(T.set (T.set (T.set .leaf 1 a1) 15 v2) 21 v10),H3⟩ τ4) (binK .eql v2 (.str (bs [99,111,110,116,101,110,116,45,108,97,110,103,117,97,103,101])) fun v48 => s_headers_Safe_j1 call N q ⟨(T.set (T.set (T.set (T.set (T.set .leaf 1 a1) 15 v2) 21 v10) 23 v48) 21 v48),H3⟩ τ4)))
theorem s_headers_Safe_eq (call : CallK) (N : Nat) (a0 a1 : V) (H : Heap) (τ : Tape) (q : KV) : s_headers_Safe call N a0 a1 H τ q = funK call N fn_headers_Safe [a0, a1] H τ q := by kernel_rfl
def e_headers_Safe (call : CallK) (N : Nat) (vs : List V) (H : Heap) (τ : Tape) (q : KV) : Ans := match vs with | [a0, a1] => s_headers_Safe call N a0 a1 H τ q | _ => none
theorem e_headers_Safe_ok : EntOk fn_headers_Safe e_headers_Safe := by
  intro call N vs H τ q r h
  unfold e_headers_Safe at h
  split at h
  · rw [s_headers_Safe_eq] at h; exact h
  · cases h
theorem e_headers_Safe_nat : EntNat e_headers_Safe := by
  intro c hn N vs H τ q
  unfold e_headers_Safe
  split
  · rw [s_headers_Safe_eq, s_headers_Safe_eq]; exact funK_ent hn _ _ _ _ _ _
  · rfl
/-- ostiary/headers.Split -/
def fn_headers_Split : Fun := ⟨2,(.seq (.reg [iR 4 (.p .mv) [(.c .nils)],iR 5 (.p .mv) [(.c (.bool false))]]) (iK [0,1] (.seq (.reg [iM 13 0,iM 14 1,iR 15 (.call 60) [(.t 13),(.t 14)],iM 12 15,iR 16 (.p (.extract 0)) [(.t 12)],iR 17 (.p (.extract 1)) [(.t 12)],iM 6 16,iM 7 17]) (iK [6,7] (.seq (.seq (.reg [iM 18 7,iR 19 (.p (.un .not)) [(.t 18)]]) (iK [6,19] (.cond (.t 19) (.seq (.reg [iR 4 (.p .mv) [(.c .nils)],iR 5 (.p .mv) [(.c (.bool false))]]) (iK [4,5] (iK [4,5] .ret))) .skip))) (iK [6] (.seq (.reg [iR 8 (.p .mv) [(.c .nils)]]) (iK [6,8] (.seq (.reg [iR 9 (.p .mv) [(.c (.bool false))],iR 10 (.p .mv) [(iC 0)]]) (iK [6,8,9,10] (.seq (.seq (.reg [iR 11 (.p .mv) [(iC 0)]])
    (iK [6,8,9,10,11] (.block 0 (.loop (iK [6,8,9,10,11] (.seq (.seq (.reg [iM 20 11,iM 21 6,iR 22 (.p .lenS) [(.t 21)],iR 23 (iB .lss) [(.t 20),(.t 22)]]) (iK [6,8,9,10,11,23] (.cond (.t 23) .skip (iK [6,8,10] (.exit 0))))) (iK [6,8,9,10,11] (.seq (.block 1 (.block 2 (.seq (.reg [iM 27 6,iM 28 11,iR 29 (.p .strIndex) [(.t 27),(.t 28)],iR 30 (iB .eql) [(.t 29),(iU 34)],iM 26 30]) (iK [6,8,9,10,11,26] (.cond (.t 26) (.reg [iM 31 9,iR 32 (.p (.un .not)) [(.t 31)],iM 9 32]) (.seq (.reg [iM 34 9,iM 35 34,iN 36 35 true 6,iN 37 35 true 11,iG 38 35 true (.p .strIndex) [(.t 36),(.t 37)],
    iG 39 35 true (iB .eql) [(.t 38),(iU 92)],iR 40 (.p .pick) [(.t 35),(.t 39),(.c (.bool false))],iM 33 40]) (iK [6,8,9,10,11,33] (.cond (.t 33) (.reg [iM 41 11,iR 42 (iB .add) [(.t 41),(iC 1)],iM 11 42]) (.seq (.reg [iM 44 9,iR 45 (.p (.un .not)) [(.t 44)],iM 46 45,iN 47 46 true 6,iN 48 46 true 11,iG 49 46 true (.p .strIndex) [(.t 47),(.t 48)],iG 50 46 true (iB .eql) [(.t 49),(iU 44)],iR 51 (.p .pick) [(.t 46),(.t 50),(.c (.bool false))],iM 43 51]) (iK [6,8,9,10,11,43] (.cond (.t 43) (.seq (.reg [iM 52 8,iM 53 6,iM 54 10,iM 55 11,
    iR 56 (.p (.strSlice true true)) [(.t 53),(.t 54),(.t 55)],iR 57 (.call 110) [(.t 56),(.c (.str (bs [9,32])))],iR 58 (.e (.buildSlice 1 1 [(.str [])] [(0,1)])) [(.t 57)],iR 59 (.e (.append 1 16)) [(.t 52),(.t 58)],iM 8 59]) (iK [6,8,9,11] (.reg [iM 60 11,iR 61 (iB .add) [(.t 60),(iC 1)],iM 10 61]))) .skip))))))))))) (iK [6,8,9,10,11] (.reg [iM 24 11,iR 25 (iB .add) [(.t 24),(iC 1)],iM 11 25])))))))))) (iK [6,8,10] (.seq (.reg [iM 62 8,iM 63 6,iM 64 10,iR 65 (.p (.strSlice true false)) [(.t 63),(.t 64)],iR 66 (.call 110) [(.t 65),(.c (.str (bs [9,32])))],iR 67 (.e (.buildSlice 1 1 [(.str [])] [(0,1)])) [(.t 66)],iR 68 (.e (.append 1 16)) [(.t 62),(.t 67)],
    iM 4 68,iR 5 (.p .mv) [(.c (.bool true))]]) (iK [4,5] (iK [4,5] .ret))))))))))))))),[(.t 4),(.t 5)]⟩
def s_headers_Split_j0 (call : CallK) (N : Nat) (q : KV) (st : St) (τ : Tape) : Ans := match st with
  | ⟨fr,H⟩ => getK fr 6 fun t6 => getK fr 8 fun t8 => getK fr 10 fun t10 => someK (pStrSlice true false [t6,t10]) fun v6 => call f_strings_Trim [v6,(.str (bs [9,32]))] H τ fun v7 H8 τ9 => effK (eBuildSlice 1 1 [(.str [])] [(0,1)] [v7] H8 τ9) fun v10 H11 τ12 => effK (eAppend 1 16 [t8,v10] H11 τ12) fun v13 H14 τ15 => q (.tup [v13,(.bool true)]) H14 τ15
def s_headers_Split_j2 (call : CallK) (N : Nat) (k : KC) (st : St) (τ : Tape) : Ans := match st with
  | ⟨fr,H⟩ => getK fr 6 fun t6 => getK fr 8 fun t8 => getK fr 9 fun t9 => getK fr 10 fun t10 => getK fr 11 fun t11 => binK .add t11 (.int .i64 (.ofNat 1)) fun v18 => k .normal ⟨(T.set (T.set (T.set (T.set (T.set (T.set (T.set (T.set .leaf 6 t6) 8 t8) 9 t9) 10 t10) 11 t11) 24 t11) 25 v18) 11 v18),H⟩ τ
def s_headers_Split_l1 (call : CallK) (N : Nat) (st : St) (τ : Tape) (k : KC) : Ans := match st with
  | ⟨fr,H⟩ => getK fr 6 fun t6 => getK fr 8 fun t8 => getK fr 9 fun t9 => getK fr 10 fun t10 => getK fr 11 fun t11 => someK (pLenS [t6]) fun v16 => binK .lss t11 v16 fun v17 => condK v17 (someK (pStrIndex [t6,t11]) fun v19 => binK .eql v19 (.int .u8 (.ofNat 34)) fun v20 => condK v20 (unK .not t9 fun v21 => s_headers_Split_j2 call N k ⟨(T.set (T.set (T.set (T.set (T.set (T.set (T.set (T.set (T.set .leaf 6 t6) 8 t8) 9 t9) 10 t10) 11 t11) 26 v20) 31 t9) 32 v21) 9 v21),H⟩ τ) (gK t9 true (fun q' => q' t6 H τ) H τ fun v22 H23 τ24 => gK t9 true (fun q' => q' t11 H23 τ24) H23 τ24 fun v25 H26 τ27 => gK t9 true (fun q' => someK (pStrIndex [v22,v25]) fun v => q' v H26 τ27) H26 τ27 fun v28 H29 τ30 => gK t9 true (fun q' => binK .eql v28 (.int .u8 (.ofNat 92)) fun v => q' v H29 τ30) H29 τ30 fun v31 H32 τ33 => someK (pPick [t9,v31,(.bool false)]) fun v34 => condK v34
    (binK .add t11 (.int .i64 (.ofNat 1)) fun v35 => s_headers_Split_j2 call N k ⟨(T.set (T.set (T.set (T.set (T.set (T.set (T.set (T.set (T.set .leaf 6 t6) 8 t8) 9 t9) 10 t10) 11 t11) 33 v34) 41 t11) 42 v35) 11 v35),H32⟩ τ33) (unK .not t9 fun v36 => gK v36 true (fun q' => q' t6 H32 τ33) H32 τ33 fun v37 H38 τ39 => gK v36 true (fun q' => q' t11 H38 τ39) H38 τ39 fun v40 H41 τ42 => gK v36 true (fun q' => someK (pStrIndex [v37,v40]) fun v => q' v H41 τ42) H41 τ42 fun v43 H44 τ45 => gK v36 true (fun q' => binK .eql v43 (.int .u8 (.ofNat 44)) fun v => q' v H44 τ45) H44 τ45 fun v46 H47 τ48 => someK (pPick [v36,v46,(.bool false)]) fun v49 => condK v49 (someK (pStrSlice true true [t6,t10,t11]) fun v50 => call f_strings_Trim [v50,(.str (bs [9,32]))] H47 τ48 fun v51 H52 τ53 => effK (eBuildSlice 1 1 [(.str [])] [(0,1)] [v51] H52 τ53) fun v54 H55 τ56 =>
    effK (eAppend 1 16 [t8,v54] H55 τ56) fun v57 H58 τ59 => binK .add t11 (.int .i64 (.ofNat 1)) fun v60 => s_headers_Split_j2 call N k ⟨(T.set (T.set (T.set (T.set (T.set (T.set (T.set .leaf 6 t6) 8 v57) 9 t9) 11 t11) 60 t11) 61 v60) 10 v60),H58⟩ τ59) (s_headers_Split_j2 call N k ⟨(T.set (T.set (T.set (T.set (T.set (T.set .leaf 6 t6) 8 t8) 9 t9) 10 t10) 11 t11) 43 v49),H47⟩ τ48)))) (k (.exit 0) ⟨(T.set (T.set (T.set .leaf 6 t6) 8 t8) 10 t10),H⟩ τ)
def s_headers_Split (call : CallK) (N : Nat) (a0 a1 : V) (H : Heap) (τ : Tape) (q : KV) : Ans := call f_headers_Get [a0,a1] H τ fun v0 H1 τ2 => someK (pExtract 0 [v0]) fun v3 => someK (pExtract 1 [v0]) fun v4 => unK .not v4 fun v5 => condK v5 (q (.tup [.nils,(.bool false)]) H1 τ2) (loopK (s_headers_Split_l1 call N) N ⟨(T.set (T.set (T.set (T.set (T.set .leaf 6 v3) 8 .nils) 9 (.bool false)) 10 (.int .i64 (.ofNat 0))) 11 (.int .i64 (.ofNat 0))),H1⟩ τ2 (blockK 0 (seqK (s_headers_Split_j0 call N q) (endK [(.t 4),(.t 5)] q))))
theorem s_headers_Split_eq (call : CallK) (N : Nat) (a0 a1 : V) (H : Heap) (τ : Tape) (q : KV) : s_headers_Split call N a0 a1 H τ q = funK call N fn_headers_Split [a0, a1] H τ q := by kernel_rfl
def e_headers_Split (call : CallK) (N : Nat) (vs : List V) (H : Heap) (τ : Tape) (q : KV) : Ans := match vs with | [a0, a1] => s_headers_Split call N a0 a1 H τ q | _ => none
theorem e_headers_Split_ok : EntOk fn_headers_Split e_headers_Split := by
  intro call N vs H τ q r h
  unfold e_headers_Split at h
  split at h
  · rw [s_headers_Split_eq] at h; exact h
  · cases h
theorem e_headers_Split_nat : EntNat e_headers_Split := by
  intro c hn N vs H τ q
  unfold e_headers_Split
  split
  · rw [s_headers_Split_eq, s_headers_Split_eq]; exact funK_ent hn _ _ _ _ _ _
  · rfl
/-- ostiary/infra.Token -/
def fn_infra_Token : Fun := ⟨1,(.seq (.reg [iR 2 (.p .mv) [(.c (.bool false))]]) (iK [0] (.seq (.seq (.reg [iM 6 0,iR 7 (.p .lenS) [(.t 6)],iR 8 (.p .mv) [(iC 0)]]) (iK [0,7,8] (.block 0 (.loop (iK [0,7,8] (.seq (.reg [iR 9 (iB .lss) [(.t 8),(.t 7)]]) (iK [0,7,8,9] (.seq (.cond (.t 9) .skip (iK [0] (.exit 0))) (iK [0,7,8] (.seq (.block 1 (.seq (.reg [iM 10 8,iM 3 10]) (iK [0,3,7,8] (.seq (.reg [iM 11 0,iM 12 3,iR 13 (.p .strIndex) [(.t 11),(.t 12)],iM 4 13]) (iK [0,4,7,8] (.seq (.reg [iM 14 4,iR 15 (iB .geq) [(.t 14),(iU 97)],iM 16 15,iN 17 16 true 4,iG 18 16 true (iB .leq) [(.t 17),(iU 122)],
    iR 19 (.p .pick) [(.t 16),(.t 18),(.c (.bool false))],iM 20 19,iN 21 20 false 4,iG 22 20 false (iB .geq) [(.t 21),(iU 65)],iN 23 20 false 22,iN 24 23 true 4,iG 25 23 true (iB .leq) [(.t 24),(iU 90)],iG 26 20 false (.p .pick) [(.t 23),(.t 25),(.c (.bool false))],iR 27 (.p .pick) [(.t 20),(.c (.bool true)),(.t 26)],iM 28 27,iN 29 28 false 4,iG 30 28 false (iB .geq) [(.t 29),(iU 48)],iN 31 28 false 30,iN 32 31 true 4,iG 33 31 true (iB .leq) [(.t 32),(iU 57)],iG 34 28 false (.p .pick) [(.t 31),(.t 33),(.c (.bool false))],iR 35 (.p .pick) [(.t 28),(.c (.bool true)),(.t 34)],iM 5 35])
    (iK [0,4,5,7,8] (.seq (.reg [iM 36 5,iR 37 (.p (.un .not)) [(.t 36)],iM 38 37,iN 39 38 true 4,iG 40 38 true (.call 111) [(.c (.str (bs [33,35,36,37,38,39,42,43,45,46,94,95,96,124,126]))),(.t 39)],iG 41 38 true (iB .lss) [(.t 40),(iC 0)],iR 42 (.p .pick) [(.t 38),(.t 41),(.c (.bool false))]]) (iK [0,7,8,42] (.cond (.t 42) (.seq (.reg [iR 2 (.p .mv) [(.c (.bool false))]]) (iK [2] (iK [2] .ret))) .skip)))))))))) (iK [0,7,8] (.reg [iR 43 (iB .add) [(.t 8),(iC 1)],iM 8 43])))))))))))) (iK [0] (.seq (.reg [iM 44 0,iR 45 (iB .neq) [(.t 44),(.c (.str []))],iM 2 45]) (iK [2] (iK [2] .ret))))))),[(.t 2)]⟩
def s_infra_Token_j0 (call : CallK) (N : Nat) (q : KV) (st : St) (τ : Tape) : Ans := match st with
  | ⟨fr,H⟩ => getK fr 0 fun t0 => binK .neq t0 (.str []) fun v1 => q v1 H τ
def s_infra_Token_l1 (call : CallK) (N : Nat) (st : St) (τ : Tape) (k : KC) : Ans := match st with
  | ⟨fr,H⟩ => getK fr 0 fun t0 => getK fr 7 fun t7 => getK fr 8 fun t8 => binK .lss t8 t7 fun v2 => condK v2 (someK (pStrIndex [t0,t8]) fun v3 => binK .geq v3 (.int .u8 (.ofNat 97)) fun v4 => gK v4 true (fun q' => q' v3 H τ) H τ fun v5 H6 τ7 => gK v4 true (fun q' => binK .leq v5 (.int .u8 (.ofNat 122)) fun v => q' v H6 τ7) H6 τ7 fun v8 H9 τ10 => someK (pPick [v4,v8,(.bool false)]) fun v11 => gK v11 false (fun q' => q' v3 H9 τ10) H9 τ10 fun v12 H13 τ14 => gK v11 false (fun q' => binK .geq v12 (.int .u8 (.ofNat 65)) fun v => q' v H13 τ14) H13 τ14 fun v15 H16 τ17 => gK v11 false (fun q' => q' v15 H16 τ17) H16 τ17 fun v18 H19 τ20 => gK v18 true (fun q' => q' v3 H19 τ20) H19 τ20 fun v21 H22 τ23 => gK v18 true (fun q' => binK .leq v21 (.int .u8 (.ofNat 90)) fun v => q' v H22 τ23) H22 τ23 fun v24 H25 τ26 =>
    gK v11 false (fun q' => someK (pPick [v18,v24,(.bool false)]) fun v => q' v H25 τ26) H25 τ26 fun v27 H28 τ29 => someK (pPick [v11,(.bool true),v27]) fun v30 => gK v30 false (fun q' => q' v3 H28 τ29) H28 τ29 fun v31 H32 τ33 => gK v30 false (fun q' => binK .geq v31 (.int .u8 (.ofNat 48)) fun v => q' v H32 τ33) H32 τ33 fun v34 H35 τ36 => gK v30 false (fun q' => q' v34 H35 τ36) H35 τ36 fun v37 H38 τ39 => gK v37 true (fun q' => q' v3 H38 τ39) H38 τ39 fun v40 H41 τ42 => gK v37 true (fun q' => binK .leq v40 (.int .u8 (.ofNat 57)) fun v => q' v H41 τ42) H41 τ42 fun v43 H44 τ45 => gK v30 false (fun q' => someK (pPick [v37,v43,(.bool false)]) fun v => q' v H44 τ45) H44 τ45 fun v46 H47 τ48 => someK (pPick [v30,(.bool true),v46]) fun v49 => unK .not v49 fun v50 => gK v50 true (fun q' => q' v3 H47 τ48) H47 τ48 fun v51 H52 τ53 =>
    gK v50 true (fun q' => call f_strings_IndexByte [(.str (bs [33,35,36,37,38,39,42,43,45,46,94,95,96,124,126])),v51] H52 τ53 q') H52 τ53 fun v54 H55 τ56 => gK v50 true (fun q' => binK .lss v54 (.int .i64 (.ofNat 0)) fun v => q' v H55 τ56) H55 τ56 fun v57 H58 τ59 => someK (pPick [v50,v57,(.bool false)]) fun v60 => condK v60 (k .ret ⟨(T.set .leaf 2 (.bool false)),H58⟩ τ59) (binK .add t8 (.int .i64 (.ofNat 1)) fun v61 => k .normal ⟨(T.set (T.set (T.set (T.set (T.set .leaf 0 t0) 7 t7) 8 t8) 43 v61) 8 v61),H58⟩ τ59)) (k (.exit 0) ⟨(T.set .leaf 0 t0),H⟩ τ)
def s_infra_Token (call : CallK) (N : Nat) (a0 : V) (H : Heap) (τ : Tape) (q : KV) : Ans := someK (pLenS [a0]) fun v0 => loopK (s_infra_Token_l1 call N) N ⟨(T.set (T.set (T.set .leaf 0 a0) 7 v0) 8 (.int .i64 (.ofNat 0))),H⟩ τ (blockK 0 (seqK (s_infra_Token_j0 call N q) (endK [(.t 2)] q)))
theorem s_infra_Token_eq (call : CallK) (N : Nat) (a0 : V) (H : Heap) (τ : Tape) (q : KV) : s_infra_Token call N a0 H τ q = funK call N fn_infra_Token [a0] H τ q := by kernel_rfl
def e_infra_Token (call : CallK) (N : Nat) (vs : List V) (H : Heap) (τ : Tape) (q : KV) : Ans := match vs with | [a0] => s_infra_Token call N a0 H τ q | _ => none
theorem e_infra_Token_ok : EntOk fn_infra_Token e_infra_Token := by
  intro call N vs H τ q r h
  unfold e_infra_Token at h
  split at h
  · rw [s_infra_Token_eq] at h; exact h
  · cases h
theorem e_infra_Token_nat : EntNat e_infra_Token := by
  intro c hn N vs H τ q
  unfold e_infra_Token
  split
  · rw [s_infra_Token_eq, s_infra_Token_eq]; exact funK_ent hn _ _ _ _ _ _
  · rfl
/-- ostiary/origin.Text -/
def fn_origin_Text : Fun := ⟨1,(.seq (.reg [iR 1 (.e .box) [(.t 0)],iR 2 (.p .mv) [(.c (.str []))]]) (iK [1] (.seq (.seq (.reg [iR 4 (.p (.fieldAddr 3)) [(.t 1)],iR 5 (.l (.load none)) [(.t 4)]]) (iK [1,5] (.cond (.t 5) (.seq (.reg [iR 2 (.p .mv) [(.c (.str (bs [110,117,108,108])))]]) (iK [2] (iK [2] .ret))) .skip))) (iK [1] (.seq (.reg [iR 6 (.p (.fieldAddr 0)) [(.t 1)],iR 7 (.l (.load none)) [(.t 6)],iR 8 (iB .add) [(.t 7),(.c (.str (bs [58,47,47])))],iR 9 (.p (.fieldAddr 1)) [(.t 1)],iR 10 (.l (.load none)) [(.t 9)],iR 11 (iB .add) [(.t 8),(.t 10)],iM 3 11]) (iK [1,3] (.seq (.seq (.draw [iR 12 (.p (.fieldAddr 2)) [(.t 1)],⟨(some 13),none,(.l (.load none)),[(.t 12)],some (0,1)⟩,iR 14 (.p (.fieldAddr 0)) [(.t 1)],iR 15 (.l (.load none)) [(.t 14)],iR 16 (.call 112) [(.t 15)],
    iR 17 (iB .neq) [(.t 13),(.t 16)]]) (iK [1,3,17] (.cond (.t 17) (.reg [iM 18 3,iR 19 (.p (.fieldAddr 2)) [(.t 1)],iR 20 (.l (.load none)) [(.t 19)],iR 21 (.call 113) [(.t 20)],iR 22 (iB .add) [(.c (.str (bs [58]))),(.t 21)],iR 23 (iB .add) [(.t 18),(.t 22)],iM 3 23]) .skip))) (iK [3] (.seq (.reg [iM 24 3,iM 2 24]) (iK [2] (iK [2] .ret))))))))))),[(.t 2)]⟩
/-- slices.Index[[]string,string] -/
def fn_slices_Index_string : Fun := ⟨2,(.seq (.reg [iR 4 (.p .mv) [(iC 0)]]) (iK [0,1] (.seq (.seq (.reg [iM 6 0,iR 7 (.p .len) [(.t 6)],iR 8 (.p .mv) [(iC 0)]]) (iK [0,1,7,8] (.block 0 (.loop (iK [0,1,7,8] (.seq (.reg [iR 9 (iB .lss) [(.t 8),(.t 7)]]) (iK [0,1,7,8,9] (.seq (.cond (.t 9) .skip (iK [] (.exit 0))) (iK [0,1,7,8] (.seq (.block 1 (.seq (.reg [iM 10 8,iM 5 10]) (iK [0,1,5,7,8] (.seq (.reg [iM 11 1,iM 12 0,iM 13 5,iR 14 (.p (.slIdx 1)) [(.t 12),(.t 13)],iR 15 (.l (.load none)) [(.t 14)],iR 16 (iB .eql) [(.t 11),(.t 15)]]) (iK [0,1,5,7,8,16] (.cond (.t 16) (.seq (.reg [iM 17 5,iM 4 17]) (iK [4] (iK [4] .ret))) .skip))))))
    (iK [0,1,7,8] (.reg [iR 18 (iB .add) [(.t 8),(iC 1)],iM 8 18])))))))))))) (iK [] (.seq (.reg [iR 4 (.p .mv) [(.c (.int .i64 (.negSucc 0)))]]) (iK [4] (iK [4] .ret))))))),[(.t 4)]⟩
def s_slices_Index_string_j0 (call : CallK) (N : Nat) (q : KV) (st : St) (τ : Tape) : Ans := match st with
  | ⟨fr,H⟩ => q (.int .i64 (.negSucc 0)) H τ
def s_slices_Index_string_l1 (call : CallK) (N : Nat) (st : St) (τ : Tape) (k : KC) : Ans := match st with
  | ⟨fr,H⟩ => getK fr 0 fun t0 => getK fr 1 fun t1 => getK fr 7 fun t7 => getK fr 8 fun t8 => binK .lss t8 t7 fun v1 => condK v1 (someK (pSlIdx 1 [t0,t8]) fun v2 => someK (lLoad1 [v2] H) fun v3 => binK .eql t1 v3 fun v4 => condK v4 (k .ret ⟨(T.set .leaf 4 t8),H⟩ τ) (binK .add t8 (.int .i64 (.ofNat 1)) fun v5 => k .normal ⟨(T.set (T.set (T.set (T.set (T.set (T.set .leaf 0 t0) 1 t1) 7 t7) 8 t8) 18 v5) 8 v5),H⟩ τ)) (k (.exit 0) ⟨.leaf,H⟩ τ)
def s_slices_Index_string (call : CallK) (N : Nat) (a0 a1 : V) (H : Heap) (τ : Tape) (q : KV) : Ans := someK (pLen [a0]) fun v0 => loopK (s_slices_Index_string_l1 call N) N ⟨(T.set (T.set (T.set (T.set .leaf 0 a0) 1 a1) 7 v0) 8 (.int .i64 (.ofNat 0))),H⟩ τ (blockK 0 (seqK (s_slices_Index_string_j0 call N q) (endK [(.t 4)] q)))
theorem s_slices_Index_string_eq (call : CallK) (N : Nat) (a0 a1 : V) (H : Heap) (τ : Tape) (q : KV) : s_slices_Index_string call N a0 a1 H τ q = funK call N fn_slices_Index_string [a0, a1] H τ q := by kernel_rfl
def e_slices_Index_string (call : CallK) (N : Nat) (vs : List V) (H : Heap) (τ : Tape) (q : KV) : Ans := match vs with | [a0, a1] => s_slices_Index_string call N a0 a1 H τ q | _ => none
theorem e_slices_Index_string_ok : EntOk fn_slices_Index_string e_slices_Index_string := by
  intro call N vs H τ q r h
  unfold e_slices_Index_string at h
  split at h
  · rw [s_slices_Index_string_eq] at h; exact h
  · cases h
theorem e_slices_Index_string_nat : EntNat e_slices_Index_string := by
  intro c hn N vs H τ q
  unfold e_slices_Index_string
  split
  · rw [s_slices_Index_string_eq, s_slices_Index_string_eq]; exact funK_ent hn _ _ _ _ _ _
  · rfl
/-- ostiary/infra.mapped -/
def fn_infra_mapped : Fun := ⟨2,(.seq (.reg [iR 4 (.p .mv) [(.c (.str []))]]) (iK [0,1] (.seq (.reg [iM 8 0,iR 9 (.e .strBytes) [(.t 8)],iM 5 9]) (iK [1,5] (.seq (.seq (.reg [iM 10 5,iR 11 (.p .len) [(.t 10)],iR 12 (.p .mv) [(iC 0)]]) (iK [1,5,10,11,12] (.block 0 (.loop (iK [1,5,10,11,12] (.seq (.reg [iR 13 (iB .lss) [(.t 12),(.t 11)]]) (iK [1,5,10,11,12,13] (.seq (.cond (.t 13) .skip (iK [5] (.exit 0))) (iK [1,5,10,11,12] (.seq (.block 1 (.seq (.reg [iM 14 12,iR 15 (.p (.slIdx 1)) [(.t 10),(.t 12)],iR 16 (.l (.load none)) [(.t 15)],iM 6 14,iM 7 16]) (iK [1,5,6,7,10,11,12] (.reg [iM 17 5,iM 18 6,iM 19 1,iM 20 7,
    iR 21 .callv [(.t 19),(.t 20)],iR 22 (.p (.slIdx 1)) [(.t 17),(.t 18)],⟨none,none,(.e (.store 1)),[(.t 22),(.t 21)],none⟩])))) (iK [1,5,10,11,12] (.reg [iR 23 (iB .add) [(.t 12),(iC 1)],iM 12 23])))))))))))) (iK [5] (.seq (.reg [iM 24 5,iR 25 (.l .bytesStr) [(.t 24)],iM 4 25]) (iK [4] (iK [4] .ret))))))))),[(.t 4)]⟩
def s_infra_mapped_j0 (call : CallK) (N : Nat) (q : KV) (st : St) (τ : Tape) : Ans := match st with
  | ⟨fr,H⟩ => getK fr 5 fun t5 => someK (lBytesStr [t5] H) fun v4 => q v4 H τ
def s_infra_mapped_l1 (call : CallK) (N : Nat) (st : St) (τ : Tape) (k : KC) : Ans := match st with
  | ⟨fr,H⟩ => getK fr 1 fun t1 => getK fr 5 fun t5 => getK fr 10 fun t10 => getK fr 11 fun t11 => getK fr 12 fun t12 => binK .lss t12 t11 fun v5 => condK v5 (someK (pSlIdx 1 [t10,t12]) fun v6 => someK (lLoad1 [v6] H) fun v7 => opK call .callv [t1,v7] H τ fun v8 H9 τ10 => someK (pSlIdx 1 [t5,t12]) fun v11 => effK (eStore 1 [v11,v8] H9 τ10) fun v12 H13 τ14 => binK .add t12 (.int .i64 (.ofNat 1)) fun v15 => k .normal ⟨(T.set (T.set (T.set (T.set (T.set (T.set (T.set .leaf 1 t1) 5 t5) 10 t10) 11 t11) 12 t12) 23 v15) 12 v15),H13⟩ τ14) (k (.exit 0) ⟨(T.set .leaf 5 t5),H⟩ τ)
def s_infra_mapped (call : CallK) (N : Nat) (a0 a1 : V) (H : Heap) (τ : Tape) (q : KV) : Ans := effK (eStrBytes [a0] H τ) fun v0 H1 τ2 => someK (pLen [v0]) fun v3 => loopK (s_infra_mapped_l1 call N) N ⟨(T.set (T.set (T.set (T.set (T.set .leaf 1 a1) 5 v0) 10 v0) 11 v3) 12 (.int .i64 (.ofNat 0))),H1⟩ τ2 (blockK 0 (seqK (s_infra_mapped_j0 call N q) (endK [(.t 4)] q)))
theorem s_infra_mapped_eq (call : CallK) (N : Nat) (a0 a1 : V) (H : Heap) (τ : Tape) (q : KV) : s_infra_mapped call N a0 a1 H τ q = funK call N fn_infra_mapped [a0, a1] H τ q := by kernel_rfl
def e_infra_mapped (call : CallK) (N : Nat) (vs : List V) (H : Heap) (τ : Tape) (q : KV) : Ans := match vs with | [a0, a1] => s_infra_mapped call N a0 a1 H τ q | _ => none
theorem e_infra_mapped_ok : EntOk fn_infra_mapped e_infra_mapped := by
  intro call N vs H τ q r h
  unfold e_infra_mapped at h
  split at h
  · rw [s_infra_mapped_eq] at h; exact h
  · cases h
theorem e_infra_mapped_nat : EntNat e_infra_mapped := by
  intro c hn N vs H τ q
  unfold e_infra_mapped
  split
  · rw [s_infra_mapped_eq, s_infra_mapped_eq]; exact funK_ent hn _ _ _ _ _ _
  · rfl
/-- ostiary/infra.Lower$1 -/
def fn_infra_Lower_1 : Fun := ⟨1,(.seq (.reg [iR 2 (.p .mv) [(iU 0)]]) (iK [0] (.seq (.seq (.reg [iM 3 0,iR 4 (iB .geq) [(.t 3),(iU 65)],iM 5 4,iN 6 5 true 0,iG 7 5 true (iB .leq) [(.t 6),(iU 90)],iR 8 (.p .pick) [(.t 5),(.t 7),(.c (.bool false))]]) (iK [0,8] (.cond (.t 8) (.reg [iM 9 0,iR 10 (iB .add) [(.t 9),(iU 32)],iM 0 10]) .skip))) (iK [0] (.seq (.reg [iM 11 0,iM 2 11]) (iK [2] (iK [2] .ret))))))),[(.t 2)]⟩
def s_infra_Lower_1_j0 (call : CallK) (N : Nat) (q : KV) (st : St) (τ : Tape) : Ans := match st with
  | ⟨fr,H⟩ => getK fr 0 fun t0 => q t0 H τ
def s_infra_Lower_1 (call : CallK) (N : Nat) (a0 : V) (H : Heap) (τ : Tape) (q : KV) : Ans := binK .geq a0 (.int .u8 (.ofNat 65)) fun v0 => gK v0 true (fun q' => q' a0 H τ) H τ fun v1 H2 τ3 => gK v0 true (fun q' => binK .leq v1 (.int .u8 (.ofNat 90)) fun v => q' v H2 τ3) H2 τ3 fun v4 H5 τ6 => someK (pPick [v0,v4,(.bool false)]) fun v7 => condK v7 (binK .add a0 (.int .u8 (.ofNat 32)) fun v8 => s_infra_Lower_1_j0 call N q ⟨(T.set (T.set (T.set (T.set (T.set .leaf 0 a0) 8 v7) 9 a0) 10 v8) 0 v8),H5⟩ τ6) (s_infra_Lower_1_j0 call N q ⟨(T.set (T.set .leaf 0 a0) 8 v7),H5⟩ τ6)
theorem s_infra_Lower_1_eq (call : CallK) (N : Nat) (a0 : V) (H : Heap) (τ : Tape) (q : KV) : s_infra_Lower_1 call N a0 H τ q = funK call N fn_infra_Lower_1 [a0] H τ q := by kernel_rfl
def e_infra_Lower_1 (call : CallK) (N : Nat) (vs : List V) (H : Heap) (τ : Tape) (q : KV) : Ans := match vs with | [a0] => s_infra_Lower_1 call N a0 H τ q | _ => none
theorem e_infra_Lower_1_ok : EntOk fn_infra_Lower_1 e_infra_Lower_1 := by
  intro call N vs H τ q r h
  unfold e_infra_Lower_1 at h
  split at h
  · rw [s_infra_Lower_1_eq] at h; exact h
  · cases h
theorem e_infra_Lower_1_nat : EntNat e_infra_Lower_1 := by
  intro c hn N vs H τ q
  unfold e_infra_Lower_1
  split
  · rw [s_infra_Lower_1_eq, s_infra_Lower_1_eq]; exact funK_ent hn _ _ _ _ _ _
  · rfl
/-- ostiary/headers.is -/
def fn_headers_is : Fun := ⟨2,(.seq (.reg [iR 2 (.e .box) [(.t 0)],iR 4 (.p .mv) [(.c (.bool false))]]) (iK [1,2] (.seq (.reg [iR 5 (.p (.fieldAddr 0)) [(.t 2)],iR 6 (.l (.load none)) [(.t 5)],iR 7 (.call 59) [(.t 6)],iM 8 1,iR 9 (.call 59) [(.t 8)],iR 10 (iB .eql) [(.t 7),(.t 9)],iM 4 10]) (iK [4] (iK [4] .ret))))),[(.t 4)]⟩
def s_headers_is (call : CallK) (N : Nat) (a0 a1 : V) (H : Heap) (τ : Tape) (q : KV) : Ans := effK (eBox [a0] H τ) fun v0 H1 τ2 => someK (pFieldAddr 0 [v0]) fun v3 => someK (lLoad1 [v3] H1) fun v4 => call f_infra_Lower [v4] H1 τ2 fun v5 H6 τ7 => call f_infra_Lower [a1] H6 τ7 fun v8 H9 τ10 => binK .eql v5 v8 fun v11 => q v11 H9 τ10
theorem s_headers_is_eq (call : CallK) (N : Nat) (a0 a1 : V) (H : Heap) (τ : Tape) (q : KV) : s_headers_is call N a0 a1 H τ q = funK call N fn_headers_is [a0, a1] H τ q := by kernel_rfl
def e_headers_is (call : CallK) (N : Nat) (vs : List V) (H : Heap) (τ : Tape) (q : KV) : Ans := match vs with | [a0, a1] => s_headers_is call N a0 a1 H τ q | _ => none
theorem e_headers_is_ok : EntOk fn_headers_is e_headers_is := by
  intro call N vs H τ q r h
  unfold e_headers_is at h
  split at h
  · rw [s_headers_is_eq] at h; exact h
  · cases h
theorem e_headers_is_nat : EntNat e_headers_is := by
  intro c hn N vs H τ q
  unfold e_headers_is
  split
  · rw [s_headers_is_eq, s_headers_is_eq]; exact funK_ent hn _ _ _ _ _ _
  · rfl
/-- ostiary/ostiaryref3.Parse -/
def fn_ref3_Parse : Fun := ⟨1,(.seq (.reg [iR 2 (.e (.alloc [(.str []),(.str []),(.str []),(.str []),(.bool false),(.int .i64 (.ofNat 0)),(.bool false),.nils,(.str []),(.str []),(.bool false),(.bool false)])) [],iR 3 (.p .mv) [(iC 0)]]) (iK [0,2] (.seq (.seq (.reg [iM 10 0,iR 11 (.p .lenS) [(.t 10)],iR 12 (iB .gtr) [(.t 11),(iC 4096)]]) (iK [0,2,12] (.cond (.t 12) (.seq (.reg [iR 13 (.p (.build [(.str []),(.str []),(.str []),(.str []),(.bool false),(.int .i64 (.ofNat 0)),(.bool false),.nils,(.str []),(.str []),(.bool false),(.bool false)] [])) [],⟨none,none,(.e (.store 12)),[(.t 2),(.t 13)],none⟩,iR 3 (.p .mv) [(iC 3)]]) (iK [2,3] (iK [2,3] .ret))) .skip)))
    (iK [0,2] (.seq (.reg [iR 4 (.e (.alloc [(.str []),(.str []),(.str []),(.str []),(.bool false),(.int .i64 (.ofNat 0)),(.bool false),.nils,(.str []),(.str []),(.bool false),(.bool false)])) []]) (iK [0,2,4] (.seq (.reg [iM 14 0,iR 15 (.call 126) [(.t 14)],iR 16 (.call 125) [(.t 4),(.t 15)],iM 5 16]) (iK [2,4,5] (.seq (.reg [iM 18 5,iR 19 (.call 127) [(.t 18)],iM 17 19,iR 20 (.p (.extract 0)) [(.t 17)],iR 21 (.p (.extract 1)) [(.t 17)],iR 22 (.p (.extract 2)) [(.t 17)],iM 6 20,iM 7 21,iM 8 22]) (iK [2,4,6,7,8] (.seq (.seq (.reg [iM 23 8,iR 24 (.p (.un .not)) [(.t 23)]]) (iK [2,4,6,7,24] (.cond (.t 24)
    (.seq (.reg [iR 25 (.p (.build [(.str []),(.str []),(.str []),(.str []),(.bool false),(.int .i64 (.ofNat 0)),(.bool false),.nils,(.str []),(.str []),(.bool false),(.bool false)] [])) [],⟨none,none,(.e (.store 12)),[(.t 2),(.t 25)],none⟩,iR 3 (.p .mv) [(iC 12)]]) (iK [2,3] (iK [2,3] .ret))) .skip))) (iK [2,4,6,7] (.seq (.reg [iM 26 6,iR 27 (.p (.fieldAddr 0)) [(.t 4)],⟨none,none,(.e (.store 1)),[(.t 27),(.t 26)],none⟩]) (iK [2,4,7] (.seq (.reg [iM 28 7,iR 29 (.call 128) [(.t 4),(.t 28)],iM 9 29]) (iK [2,4,9] (.seq (.seq (.reg [iM 30 9,iR 31 (iB .neq) [(.t 30),(iC 0)]]) (iK [2,4,9,31] (.cond (.t 31)
    (.seq (.reg [iR 32 (.p (.build [(.str []),(.str []),(.str []),(.str []),(.bool false),(.int .i64 (.ofNat 0)),(.bool false),.nils,(.str []),(.str []),(.bool false),(.bool false)] [])) [],iM 33 9,⟨none,none,(.e (.store 12)),[(.t 2),(.t 32)],none⟩,iM 3 33]) (iK [2,3] (iK [2,3] .ret))) .skip))) (iK [2,4] (.seq (.reg [iR 34 (.l (.load (some 12))) [(.t 4)],⟨none,none,(.e (.store 12)),[(.t 2),(.t 34)],none⟩,iR 3 (.p .mv) [(iC 0)]]) (iK [2,3] (iK [2,3] .ret))))))))))))))))))))),[(.cell 2 (some 12)),(.t 3)]⟩
/-- ostiary/ostiaryref3.Special -/
def fn_ref3_Special : Fun := ⟨1,(.seq (.reg [iR 2 (.p .mv) [(.c (.bool false))]]) (iK [0] (.seq (.reg [iM 3 0,iR 4 (.call 118) [(.t 3)],iR 5 (iB .geq) [(.t 4),(iC 0)],iM 2 5]) (iK [2] (iK [2] .ret))))),[(.t 2)]⟩
/-- ostiary/ostiaryref4.Port -/
def fn_ref4_Port : Fun := ⟨1,(.seq (.reg [iR 1 (.e .box) [(.t 0)],iR 2 (.p .mv) [(iC 0)]]) (iK [1] (.seq (.seq (.reg [iR 3 (.p (.fieldAddr 5)) [(.t 1)],iR 4 (.l (.load none)) [(.t 3)],iR 5 (iB .eql) [(.t 4),(.c (.int .i64 (.negSucc 0)))]]) (iK [1,5] (.cond (.t 5) (.seq (.reg [iR 6 (.p (.fieldAddr 0)) [(.t 1)],iR 7 (.l (.load none)) [(.t 6)],iR 8 (.call 118) [(.t 7)],iM 2 8]) (iK [2] (iK [2] .ret))) .skip))) (iK [1] (.seq (.reg [iR 9 (.p (.fieldAddr 5)) [(.t 1)],iR 10 (.l (.load none)) [(.t 9)],iM 2 10]) (iK [2] (iK [2] .ret))))))),[(.t 2)]⟩
/-- ostiary/headers.un-safe -/
def fn_headers_unsafe : Fun := ⟨1,(.seq (.reg [iR 2 (.p .mv) [(.c (.bool false))]]) (iK [0] (.seq (.seq (.reg [iM 5 0,iR 6 (.p .lenS) [(.t 5)],iR 7 (.p .mv) [(iC 0)]]) (iK [0,6,7] (.block 0 (.loop (iK [0,6,7] (.seq (.reg [iR 8 (iB .lss) [(.t 7),(.t 6)]]) (iK [0,6,7,8] (.seq (.cond (.t 8) .skip (iK [] (.exit 0))) (iK [0,6,7] (.seq (.block 1 (.seq (.reg [iM 9 7,iM 3 9]) (iK [0,3,6,7] (.seq (.reg [iM 10 0,iM 11 3,iR 12 (.p .strIndex) [(.t 10),(.t 11)],iM 4 12]) (iK [0,4,6,7] (.seq (.reg [iM 13 4,iR 14 (iB .lss) [(.t 13),(iU 32)],iM 15 14,iN 16 15 true 4,iG 17 15 true (iB .neq) [(.t 16),(iU 9)],
    iR 18 (.p .pick) [(.t 15),(.t 17),(.c (.bool false))],iM 19 18,iN 20 19 false 4,iG 21 19 false (iB .eql) [(.t 20),(iU 127)],iR 22 (.p .pick) [(.t 19),(.c (.bool true)),(.t 21)],iM 23 22,iN 24 23 false 4,iG 25 23 false (.call 111) [(.c (.str (bs [34,40,41,58,60,62,63,64,91,92,93,123,125]))),(.t 24)],iG 26 23 false (iB .geq) [(.t 25),(iC 0)],iR 27 (.p .pick) [(.t 23),(.c (.bool true)),(.t 26)]]) (iK [0,6,7,27] (.cond (.t 27) (.seq (.reg [iR 2 (.p .mv) [(.c (.bool true))]]) (iK [2] (iK [2] .ret))) .skip)))))))) (iK [0,6,7] (.reg [iR 28 (iB .add) [(.t 7),(iC 1)],iM 7 28])))))))))))) (iK [] (.seq (.reg [iR 2 (.p .mv) [(.c (.bool false))]]) (iK [2] (iK [2] .ret))))))),
    [(.t 2)]⟩
def s_headers_unsafe_j0 (call : CallK) (N : Nat) (q : KV) (st : St) (τ : Tape) : Ans := match st with
  | ⟨fr,H⟩ => q (.bool false) H τ
def s_headers_unsafe_l1 (call : CallK) (N : Nat) (st : St) (τ : Tape) (k : KC) : Ans := match st with
  | ⟨fr,H⟩ => getK fr 0 fun t0 => getK fr 6 fun t6 => getK fr 7 fun t7 => binK .lss t7 t6 fun v1 => condK v1 (someK (pStrIndex [t0,t7]) fun v2 => binK .lss v2 (.int .u8 (.ofNat 32)) fun v3 => gK v3 true (fun q' => q' v2 H τ) H τ fun v4 H5 τ6 => gK v3 true (fun q' => binK .neq v4 (.int .u8 (.ofNat 9)) fun v => q' v H5 τ6) H5 τ6 fun v7 H8 τ9 => someK (pPick [v3,v7,(.bool false)]) fun v10 => gK v10 false (fun q' => q' v2 H8 τ9) H8 τ9 fun v11 H12 τ13 => gK v10 false (fun q' => binK .eql v11 (.int .u8 (.ofNat 127)) fun v => q' v H12 τ13) H12 τ13 fun v14 H15 τ16 => someK (pPick [v10,(.bool true),v14]) fun v17 => gK v17 false (fun q' => q' v2 H15 τ16) H15 τ16 fun v18 H19 τ20 => gK v17 false (fun q' => call f_strings_IndexByte [(.str (bs [34,40,41,58,60,62,63,64,91,92,93,123,125])),v18] H19 τ20 q') H19 τ20 fun v21 H22 τ23 =>
    gK v17 false (fun q' => binK .geq v21 (.int .i64 (.ofNat 0)) fun v => q' v H22 τ23) H22 τ23 fun v24 H25 τ26 => someK (pPick [v17,(.bool true),v24]) fun v27 => condK v27 (k .ret ⟨(T.set .leaf 2 (.bool true)),H25⟩ τ26) (binK .add t7 (.int .i64 (.ofNat 1)) fun v28 => k .normal ⟨(T.set (T.set (T.set (T.set (T.set .leaf 0 t0) 6 t6) 7 t7) 28 v28) 7 v28),H25⟩ τ26)) (k (.exit 0) ⟨.leaf,H⟩ τ)
def s_headers_unsafe (call : CallK) (N : Nat) (a0 : V) (H : Heap) (τ : Tape) (q : KV) : Ans := someK (pLenS [a0]) fun v0 => loopK (s_headers_unsafe_l1 call N) N ⟨(T.set (T.set (T.set .leaf 0 a0) 6 v0) 7 (.int .i64 (.ofNat 0))),H⟩ τ (blockK 0 (seqK (s_headers_unsafe_j0 call N q) (endK [(.t 2)] q)))
theorem s_headers_unsafe_eq (call : CallK) (N : Nat) (a0 : V) (H : Heap) (τ : Tape) (q : KV) : s_headers_unsafe call N a0 H τ q = funK call N fn_headers_unsafe [a0] H τ q := by kernel_rfl
def e_headers_unsafe (call : CallK) (N : Nat) (vs : List V) (H : Heap) (τ : Tape) (q : KV) : Ans := match vs with | [a0] => s_headers_unsafe call N a0 H τ q | _ => none
theorem e_headers_unsafe_ok : EntOk fn_headers_unsafe e_headers_unsafe := by
  intro call N vs H τ q r h
  unfold e_headers_unsafe at h
  split at h
  · rw [s_headers_unsafe_eq] at h; exact h
  · cases h
theorem e_headers_unsafe_nat : EntNat e_headers_unsafe := by
  intro c hn N vs H τ q
  unfold e_headers_unsafe
  split
  · rw [s_headers_unsafe_eq, s_headers_unsafe_eq]; exact funK_ent hn _ _ _ _ _ _
  · rfl
/-- ostiary/headers.tongues -/
def fn_headers_tongues : Fun := ⟨1,(.seq (.reg [iR 2 (.p .mv) [(.c (.bool false))]]) (iK [0] (.seq (.seq (.reg [iM 5 0,iR 6 (.p .lenS) [(.t 5)],iR 7 (.p .mv) [(iC 0)]]) (iK [0,6,7] (.block 0 (.loop (iK [0,6,7] (.seq (.reg [iR 8 (iB .lss) [(.t 7),(.t 6)]]) (iK [0,6,7,8] (.seq (.cond (.t 8) .skip (iK [] (.exit 0))) (iK [0,6,7] (.seq (.block 1 (.seq (.reg [iM 9 7,iM 3 9]) (iK [0,3,6,7] (.seq (.reg [iM 10 0,iM 11 3,iR 12 (.p .strIndex) [(.t 10),(.t 11)],iM 4 12]) (iK [0,4,6,7] (.seq (.reg [iM 13 4,iR 14 (iB .geq) [(.t 13),(iU 97)],iM 15 14,iN 16 15 true 4,iG 17 15 true (iB .leq) [(.t 16),(iU 122)],
    iR 18 (.p .pick) [(.t 15),(.t 17),(.c (.bool false))],iM 19 18,iN 20 19 false 4,iG 21 19 false (iB .geq) [(.t 20),(iU 65)],iN 22 19 false 21,iN 23 22 true 4,iG 24 22 true (iB .leq) [(.t 23),(iU 90)],iG 25 19 false (.p .pick) [(.t 22),(.t 24),(.c (.bool false))],iR 26 (.p .pick) [(.t 19),(.c (.bool true)),(.t 25)],iM 27 26,iN 28 27 false 4,iG 29 27 false (iB .geq) [(.t 28),(iU 48)],iN 30 27 false 29,iN 31 30 true 4,iG 32 30 true (iB .leq) [(.t 31),(iU 57)],iG 33 27 false (.p .pick) [(.t 30),(.t 32),(.c (.bool false))],iR 34 (.p .pick) [(.t 27),(.c (.bool true)),(.t 33)],iR 35 (.p (.un .not)) [(.t 34)],
    iM 36 35,iN 37 36 true 4,iG 38 36 true (.call 111) [(.c (.str (bs [32,42,44,45,46,59,61]))),(.t 37)],iG 39 36 true (iB .lss) [(.t 38),(iC 0)],iR 40 (.p .pick) [(.t 36),(.t 39),(.c (.bool false))]]) (iK [0,6,7,40] (.cond (.t 40) (.seq (.reg [iR 2 (.p .mv) [(.c (.bool false))]]) (iK [2] (iK [2] .ret))) .skip)))))))) (iK [0,6,7] (.reg [iR 41 (iB .add) [(.t 7),(iC 1)],iM 7 41])))))))))))) (iK [] (.seq (.reg [iR 2 (.p .mv) [(.c (.bool true))]]) (iK [2] (iK [2] .ret))))))),[(.t 2)]⟩
def s_headers_tongues_j0 (call : CallK) (N : Nat) (q : KV) (st : St) (τ : Tape) : Ans := match st with
  | ⟨fr,H⟩ => q (.bool true) H τ
def s_headers_tongues_l1 (call : CallK) (N : Nat) (st : St) (τ : Tape) (k : KC) : Ans := match st with
  | ⟨fr,H⟩ => getK fr 0 fun t0 => getK fr 6 fun t6 => getK fr 7 fun t7 => binK .lss t7 t6 fun v1 => condK v1 (someK (pStrIndex [t0,t7]) fun v2 => binK .geq v2 (.int .u8 (.ofNat 97)) fun v3 => gK v3 true (fun q' => q' v2 H τ) H τ fun v4 H5 τ6 => gK v3 true (fun q' => binK .leq v4 (.int .u8 (.ofNat 122)) fun v => q' v H5 τ6) H5 τ6 fun v7 H8 τ9 => someK (pPick [v3,v7,(.bool false)]) fun v10 => gK v10 false (fun q' => q' v2 H8 τ9) H8 τ9 fun v11 H12 τ13 => gK v10 false (fun q' => binK .geq v11 (.int .u8 (.ofNat 65)) fun v => q' v H12 τ13) H12 τ13 fun v14 H15 τ16 => gK v10 false (fun q' => q' v14 H15 τ16) H15 τ16 fun v17 H18 τ19 => gK v17 true (fun q' => q' v2 H18 τ19) H18 τ19 fun v20 H21 τ22 => gK v17 true (fun q' => binK .leq v20 (.int .u8 (.ofNat 90)) fun v => q' v H21 τ22) H21 τ22 fun v23 H24 τ25 =>
    gK v10 false (fun q' => someK (pPick [v17,v23,(.bool false)]) fun v => q' v H24 τ25) H24 τ25 fun v26 H27 τ28 => someK (pPick [v10,(.bool true),v26]) fun v29 => gK v29 false (fun q' => q' v2 H27 τ28) H27 τ28 fun v30 H31 τ32 => gK v29 false (fun q' => binK .geq v30 (.int .u8 (.ofNat 48)) fun v => q' v H31 τ32) H31 τ32 fun v33 H34 τ35 => gK v29 false (fun q' => q' v33 H34 τ35) H34 τ35 fun v36 H37 τ38 => gK v36 true (fun q' => q' v2 H37 τ38) H37 τ38 fun v39 H40 τ41 => gK v36 true (fun q' => binK .leq v39 (.int .u8 (.ofNat 57)) fun v => q' v H40 τ41) H40 τ41 fun v42 H43 τ44 => gK v29 false (fun q' => someK (pPick [v36,v42,(.bool false)]) fun v => q' v H43 τ44) H43 τ44 fun v45 H46 τ47 => someK (pPick [v29,(.bool true),v45]) fun v48 => unK .not v48 fun v49 => gK v49 true (fun q' => q' v2 H46 τ47) H46 τ47 fun v50 H51 τ52 =>
    gK v49 true (fun q' => call f_strings_IndexByte [(.str (bs [32,42,44,45,46,59,61])),v50] H51 τ52 q') H51 τ52 fun v53 H54 τ55 => gK v49 true (fun q' => binK .lss v53 (.int .i64 (.ofNat 0)) fun v => q' v H54 τ55) H54 τ55 fun v56 H57 τ58 => someK (pPick [v49,v56,(.bool false)]) fun v59 => condK v59 (k .ret ⟨(T.set .leaf 2 (.bool false)),H57⟩ τ58) (binK .add t7 (.int .i64 (.ofNat 1)) fun v60 => k .normal ⟨(T.set (T.set (T.set (T.set (T.set .leaf 0 t0) 6 t6) 7 t7) 41 v60) 7 v60),H57⟩ τ58)) (k (.exit 0) ⟨.leaf,H⟩ τ)
def s_headers_tongues (call : CallK) (N : Nat) (a0 : V) (H : Heap) (τ : Tape) (q : KV) : Ans := someK (pLenS [a0]) fun v0 => loopK (s_headers_tongues_l1 call N) N ⟨(T.set (T.set (T.set .leaf 0 a0) 6 v0) 7 (.int .i64 (.ofNat 0))),H⟩ τ (blockK 0 (seqK (s_headers_tongues_j0 call N q) (endK [(.t 2)] q)))
theorem s_headers_tongues_eq (call : CallK) (N : Nat) (a0 : V) (H : Heap) (τ : Tape) (q : KV) : s_headers_tongues call N a0 H τ q = funK call N fn_headers_tongues [a0] H τ q := by kernel_rfl
def e_headers_tongues (call : CallK) (N : Nat) (vs : List V) (H : Heap) (τ : Tape) (q : KV) : Ans := match vs with | [a0] => s_headers_tongues call N a0 H τ q | _ => none
theorem e_headers_tongues_ok : EntOk fn_headers_tongues e_headers_tongues := by
  intro call N vs H τ q r h
  unfold e_headers_tongues at h
  split at h
  · rw [s_headers_tongues_eq] at h; exact h
  · cases h
theorem e_headers_tongues_nat : EntNat e_headers_tongues := by
  intro c hn N vs H τ q
  unfold e_headers_tongues
  split
  · rw [s_headers_tongues_eq, s_headers_tongues_eq]; exact funK_ent hn _ _ _ _ _ _
  · rfl
/-- strings.Cut -/
def fn_strings_Cut : Fun := ⟨2,(.seq (.reg [iR 4 (.p .mv) [(.c (.str []))],iR 5 (.p .mv) [(.c (.str []))],iR 6 (.p .mv) [(.c (.bool false))]]) (iK [0,1] (.seq (.reg [iM 7 0,iM 8 1,iR 9 (.call 130) [(.t 7),(.t 8)],iR 10 (.p (.extract 0)) [(.t 9)],iR 11 (.p (.extract 1)) [(.t 9)],iR 12 (.p (.extract 2)) [(.t 9)],iM 4 10,iM 5 11,iM 6 12]) (iK [4,5,6] (iK [4,5,6] .ret))))),[(.t 4),(.t 5),(.t 6)]⟩
def s_strings_Cut (call : CallK) (N : Nat) (a0 a1 : V) (H : Heap) (τ : Tape) (q : KV) : Ans := call f_stringslite_Cut [a0,a1] H τ fun v0 H1 τ2 => someK (pExtract 0 [v0]) fun v3 => someK (pExtract 1 [v0]) fun v4 => someK (pExtract 2 [v0]) fun v5 => q (.tup [v3,v4,v5]) H1 τ2
theorem s_strings_Cut_eq (call : CallK) (N : Nat) (a0 a1 : V) (H : Heap) (τ : Tape) (q : KV) : s_strings_Cut call N a0 a1 H τ q = funK call N fn_strings_Cut [a0, a1] H τ q := by kernel_rfl
def e_strings_Cut (call : CallK) (N : Nat) (vs : List V) (H : Heap) (τ : Tape) (q : KV) : Ans := match vs with | [a0, a1] => s_strings_Cut call N a0 a1 H τ q | _ => none
theorem e_strings_Cut_ok : EntOk fn_strings_Cut e_strings_Cut := by
  intro call N vs H τ q r h
  unfold e_strings_Cut at h
  split at h
  · rw [s_strings_Cut_eq] at h; exact h
  · cases h
theorem e_strings_Cut_nat : EntNat e_strings_Cut := by
  intro c hn N vs H τ q
  unfold e_strings_Cut
  split
  · rw [s_strings_Cut_eq, s_strings_Cut_eq]; exact funK_ent hn _ _ _ _ _ _
  · rfl
/-- ostiary/infra.Strip -/
def fn_infra_Strip : Fun := ⟨1,(.seq (.reg [iR 2 (.p .mv) [(.c (.str []))]]) (iK [0] (.seq (.reg [iM 3 0,iR 4 (.call 110) [(.t 3),(.c (.str (bs [9,10,12,13,32])))],iM 2 4]) (iK [2] (iK [2] .ret))))),[(.t 2)]⟩
def s_infra_Strip (call : CallK) (N : Nat) (a0 : V) (H : Heap) (τ : Tape) (q : KV) : Ans := call f_strings_Trim [a0,(.str (bs [9,10,12,13,32]))] H τ fun v0 H1 τ2 => q v0 H1 τ2
theorem s_infra_Strip_eq (call : CallK) (N : Nat) (a0 : V) (H : Heap) (τ : Tape) (q : KV) : s_infra_Strip call N a0 H τ q = funK call N fn_infra_Strip [a0] H τ q := by kernel_rfl
def e_infra_Strip (call : CallK) (N : Nat) (vs : List V) (H : Heap) (τ : Tape) (q : KV) : Ans := match vs with | [a0] => s_infra_Strip call N a0 H τ q | _ => none
theorem e_infra_Strip_ok : EntOk fn_infra_Strip e_infra_Strip := by
  intro call N vs H τ q r h
  unfold e_infra_Strip at h
  split at h
  · rw [s_infra_Strip_eq] at h; exact h
  · cases h
theorem e_infra_Strip_nat : EntNat e_infra_Strip := by
  intro c hn N vs H τ q
  unfold e_infra_Strip
  split
  · rw [s_infra_Strip_eq, s_infra_Strip_eq]; exact funK_ent hn _ _ _ _ _ _
  · rfl
/-- ostiary/headers.Range -/
def fn_headers_Range : Fun := ⟨1,(.seq (.reg [iR 2 (.p .mv) [(iC 0)],iR 3 (.p .mv) [(iC 0)],iR 4 (.p .mv) [(.c (.bool false))]]) (iK [0] (.seq (.reg [iM 15 0,iR 16 (.call 131) [(.t 15),(.c (.str (bs [98,121,116,101,115,61])))],iM 14 16,iR 17 (.p (.extract 0)) [(.t 14)],iR 18 (.p (.extract 1)) [(.t 14)],iM 5 17,iM 6 18]) (iK [5,6] (.seq (.reg [iM 20 5,iR 21 (.call 100) [(.t 20),(.c (.str (bs [45])))],iM 19 21,iR 22 (.p (.extract 0)) [(.t 19)],iR 23 (.p (.extract 1)) [(.t 19)],iR 24 (.p (.extract 2)) [(.t 19)],iM 7 22,iM 8 23,iM 9 24]) (iK [6,7,8,9] (.seq (.reg [iM 26 7,iR 27 (.call 132) [(.t 26)],iM 25 27,
    iR 28 (.p (.extract 0)) [(.t 25)],iR 29 (.p (.extract 1)) [(.t 25)],iM 10 28,iM 11 29]) (iK [6,8,9,10,11] (.seq (.reg [iM 31 8,iR 32 (.call 132) [(.t 31)],iM 30 32,iR 33 (.p (.extract 0)) [(.t 30)],iR 34 (.p (.extract 1)) [(.t 30)],iM 12 33,iM 13 34]) (iK [6,9,10,11,12,13] (.seq (.seq (.reg [iM 35 6,iR 36 (.p (.un .not)) [(.t 35)],iM 37 36,iN 38 37 false 9,iG 39 37 false (.p (.un .not)) [(.t 38)],iR 40 (.p .pick) [(.t 37),(.c (.bool true)),(.t 39)],iM 41 40,iN 42 41 false 11,iG 43 41 false (.p (.un .not)) [(.t 42)],iR 44 (.p .pick) [(.t 41),(.c (.bool true)),(.t 43)],iM 45 44,iN 46 45 false 13,iG 47 45 false (.p (.un .not)) [(.t 46)],
    iR 48 (.p .pick) [(.t 45),(.c (.bool true)),(.t 47)],iM 49 48,iN 50 49 false 10,iG 51 49 false (iB .lss) [(.t 50),(iC 0)],iN 52 49 false 51,iN 53 52 true 12,iG 54 52 true (iB .lss) [(.t 53),(iC 0)],iG 55 49 false (.p .pick) [(.t 52),(.t 54),(.c (.bool false))],iR 56 (.p .pick) [(.t 49),(.c (.bool true)),(.t 55)],iM 57 56,iN 58 57 false 10,iG 59 57 false (iB .geq) [(.t 58),(iC 0)],iN 60 57 false 59,iN 61 60 true 12,iG 62 60 true (iB .geq) [(.t 61),(iC 0)],iG 63 57 false (.p .pick) [(.t 60),(.t 62),(.c (.bool false))],iN 64 57 false 63,iN 65 64 true 10,iN 66 64 true 12,
    iG 67 64 true (iB .gtr) [(.t 65),(.t 66)],iG 68 57 false (.p .pick) [(.t 64),(.t 67),(.c (.bool false))],iR 69 (.p .pick) [(.t 57),(.c (.bool true)),(.t 68)]]) (iK [10,12,69] (.cond (.t 69) (.seq (.reg [iR 2 (.p .mv) [(iC 0)],iR 3 (.p .mv) [(iC 0)],iR 4 (.p .mv) [(.c (.bool false))]]) (iK [2,3,4] (iK [2,3,4] .ret))) .skip))) (iK [10,12] (.seq (.reg [iM 70 10,iM 71 12,iM 2 70,iM 3 71,iR 4 (.p .mv) [(.c (.bool true))]]) (iK [2,3,4] (iK [2,3,4] .ret))))))))))))))),[(.t 2),(.t 3),(.t 4)]⟩
def s_headers_Range (call : CallK) (N : Nat) (a0 : V) (H : Heap) (τ : Tape) (q : KV) : Ans := call f_strings_CutPrefix [a0,(.str (bs [98,121,116,101,115,61]))] H τ fun v0 H1 τ2 => someK (pExtract 0 [v0]) fun v3 => someK (pExtract 1 [v0]) fun v4 => call f_strings_Cut [v3,(.str (bs [45]))] H1 τ2 fun v5 H6 τ7 => someK (pExtract 0 [v5]) fun v8 => someK (pExtract 1 [v5]) fun v9 => someK (pExtract 2 [v5]) fun v10 => call f_headers_told [v8] H6 τ7 fun v11 H12 τ13 => someK (pExtract 0 [v11]) fun v14 => someK (pExtract 1 [v11]) fun v15 => call f_headers_told [v9] H12 τ13 fun v16 H17 τ18 => someK (pExtract 0 [v16]) fun v19 => someK (pExtract 1 [v16]) fun v20 => unK .not v4 fun v21 => gK v21 false (fun q' => q' v10 H17 τ18) H17 τ18 fun v22 H23 τ24 => gK v21 false (fun q' => unK .not v22 fun v => q' v H23 τ24) H23 τ24 fun v25 H26 τ27 => someK (pPick [v21,(.bool true),v25]) fun v28 =>
    gK v28 false (fun q' => q' v15 H26 τ27) H26 τ27 fun v29 H30 τ31 => gK v28 false (fun q' => unK .not v29 fun v => q' v H30 τ31) H30 τ31 fun v32 H33 τ34 => someK (pPick [v28,(.bool true),v32]) fun v35 => gK v35 false (fun q' => q' v20 H33 τ34) H33 τ34 fun v36 H37 τ38 => gK v35 false (fun q' => unK .not v36 fun v => q' v H37 τ38) H37 τ38 fun v39 H40 τ41 => someK (pPick [v35,(.bool true),v39]) fun v42 => gK v42 false (fun q' => q' v14 H40 τ41) H40 τ41 fun v43 H44 τ45 => gK v42 false (fun q' => binK .lss v43 (.int .i64 (.ofNat 0)) fun v => q' v H44 τ45) H44 τ45 fun v46 H47 τ48 => gK v42 false (fun q' => q' v46 H47 τ48) H47 τ48 fun v49 H50 τ51 => gK v49 true (fun q' => q' v19 H50 τ51) H50 τ51 fun v52 H53 τ54 => gK v49 true (fun q' => binK .lss v52 (.int .i64 (.ofNat 0)) fun v => q' v H53 τ54) H53 τ54 fun v55 H56 τ57 =>
    gK v42 false (fun q' => someK (pPick [v49,v55,(.bool false)]) fun v => q' v H56 τ57) H56 τ57 fun v58 H59 τ60 => someK (pPick [v42,(.bool true),v58]) fun v61 => gK v61 false (fun q' => q' v14 H59 τ60) H59 τ60 fun v62 H63 τ64 => gK v61 false (fun q' => binK .geq v62 (.int .i64 (.ofNat 0)) fun v => q' v H63 τ64) H63 τ64 fun v65 H66 τ67 => gK v61 false (fun q' => q' v65 H66 τ67) H66 τ67 fun v68 H69 τ70 => gK v68 true (fun q' => q' v19 H69 τ70) H69 τ70 fun v71 H72 τ73 => gK v68 true (fun q' => binK .geq v71 (.int .i64 (.ofNat 0)) fun v => q' v H72 τ73) H72 τ73 fun v74 H75 τ76 => gK v61 false (fun q' => someK (pPick [v68,v74,(.bool false)]) fun v => q' v H75 τ76) H75 τ76 fun v77 H78 τ79 => gK v61 false (fun q' => q' v77 H78 τ79) H78 τ79 fun v80 H81 τ82 => gK v80 true (fun q' => q' v14 H81 τ82) H81 τ82 fun v83 H84 τ85 =>
    gK v80 true (fun q' => q' v19 H84 τ85) H84 τ85 fun v86 H87 τ88 => gK v80 true (fun q' => binK .gtr v83 v86 fun v => q' v H87 τ88) H87 τ88 fun v89 H90 τ91 => gK v61 false (fun q' => someK (pPick [v80,v89,(.bool false)]) fun v => q' v H90 τ91) H90 τ91 fun v92 H93 τ94 => someK (pPick [v61,(.bool true),v92]) fun v95 => condK v95 (q (.tup [(.int .i64 (.ofNat 0)),(.int .i64 (.ofNat 0)),(.bool false)]) H93 τ94) (q (.tup [v14,v19,(.bool true)]) H93 τ94)
theorem s_headers_Range_eq (call : CallK) (N : Nat) (a0 : V) (H : Heap) (τ : Tape) (q : KV) : s_headers_Range call N a0 H τ q = funK call N fn_headers_Range [a0] H τ q := by kernel_rfl
def e_headers_Range (call : CallK) (N : Nat) (vs : List V) (H : Heap) (τ : Tape) (q : KV) : Ans := match vs with | [a0] => s_headers_Range call N a0 H τ q | _ => none
theorem e_headers_Range_ok : EntOk fn_headers_Range e_headers_Range := by
  intro call N vs H τ q r h
  unfold e_headers_Range at h
  split at h
  · rw [s_headers_Range_eq] at h; exact h
  · cases h
theorem e_headers_Range_nat : EntNat e_headers_Range := by
  intro c hn N vs H τ q
  unfold e_headers_Range
  split
  · rw [s_headers_Range_eq, s_headers_Range_eq]; exact funK_ent hn _ _ _ _ _ _
  · rfl
/-- ostiary/ostiaryref1.Part -/
def fn_ref1_Part : Fun := ⟨2,(.seq (.reg [iR 4 (.p .mv) [(.c (.str []))],iR 5 (.p .mv) [(.c (.str []))],iR 6 (.p .mv) [(.c (.bool false))]]) (iK [0,1] (.seq (.seq (.reg [iR 7 (.p .mv) [(iC 0)]]) (iK [0,1,7] (.block 0 (.loop (iK [0,1,7] (.seq (.seq (.reg [iM 8 7,iM 9 0,iR 10 (.p .lenS) [(.t 9)],iR 11 (iB .lss) [(.t 8),(.t 10)]]) (iK [0,1,7,11] (.cond (.t 11) .skip (iK [0] (.exit 0))))) (iK [0,1,7] (.seq (.block 1 (.seq (.reg [iM 14 0,iM 15 7,iR 16 (.p .strIndex) [(.t 14),(.t 15)],iM 17 1,iR 18 (iB .eql) [(.t 16),(.t 17)]]) (iK [0,1,7,18] (.cond (.t 18) (.seq (.draw [iM 19 0,iM 20 7,iR 21 (.p (.strSlice false true)) [(.t 19),(.t 20)],iM 22 0,iM 23 7,
    iR 24 (iB .add) [(.t 23),(iC 1)],iR 25 (.p (.strSlice true false)) [(.t 22),(.t 24)],iM 4 21,iM 5 25,iR 6 (.p .mv) [(.c (.bool true))]]) (iK [4,5,6] (iK [4,5,6] .ret))) .skip)))) (iK [0,1,7] (.reg [iM 12 7,iR 13 (iB .add) [(.t 12),(iC 1)],iM 7 13])))))))))) (iK [0] (.seq (.reg [iM 26 0,iM 4 26,iR 5 (.p .mv) [(.c (.str []))],iR 6 (.p .mv) [(.c (.bool false))]]) (iK [4,5,6] (iK [4,5,6] .ret))))))),[(.t 4),(.t 5),(.t 6)]⟩
/-- strings.Trim -/
def fn_strings_Trim : Fun := ⟨2,(.seq (.reg [iR 4 (.p .mv) [(.c (.str []))]]) (iK [0,1] (.seq (.seq (.reg [iM 7 0,iR 8 (iB .eql) [(.t 7),(.c (.str []))],iM 9 8,iN 10 9 false 1,iG 11 9 false (iB .eql) [(.t 10),(.c (.str []))],iR 12 (.p .pick) [(.t 9),(.c (.bool true)),(.t 11)]]) (iK [0,1,12] (.cond (.t 12) (.seq (.reg [iM 13 0,iM 4 13]) (iK [4] (iK [4] .ret))) .skip))) (iK [0,1] (.seq (.seq (.reg [iM 14 1,iR 15 (.p .lenS) [(.t 14)],iR 16 (iB .eql) [(.t 15),(iC 1)],iM 17 16,iN 18 17 true 1,iG 19 17 true (.p .strIndex) [(.t 18),(iC 0)],iG 20 17 true (iB .lss) [(.t 19),(iU 128)],
    iR 21 (.p .pick) [(.t 17),(.t 20),(.c (.bool false))]]) (iK [0,1,21] (.cond (.t 21) (.seq (.draw [iM 22 0,iM 23 1,iR 24 (.p .strIndex) [(.t 23),(iC 0)],iR 25 (.call 139) [(.t 22),(.t 24)],iM 26 1,iR 27 (.p .strIndex) [(.t 26),(iC 0)],iR 28 (.call 138) [(.t 25),(.t 27)],iM 4 28]) (iK [4] (iK [4] .ret))) .skip))) (iK [0,1] (.seq (.seq (.reg [iM 30 1,iR 31 (.call 140) [(.t 30)],iM 29 31,iR 32 (.p (.extract 0)) [(.t 29)],iR 33 (.p (.extract 1)) [(.t 29)],iR 5 (.e (.alloc (repl 256 [(.bool false)]))) [],⟨none,none,(.e (.store 256)),[(.t 5),(.t 32)],none⟩,iM 6 33]) (iK [0,1,5,6] (.seq (.reg [iM 34 6]) (iK [0,1,5,34] (.cond (.t 34) (.seq (.reg [iM 35 0,
    iR 36 (.call 142) [(.t 35),(.t 5)],iR 37 (.call 141) [(.t 36),(.t 5)],iM 4 37]) (iK [4] (iK [4] .ret))) .skip))))) (iK [0,1] (.seq (.reg [iM 38 0,iM 39 1,iR 40 (.call 144) [(.t 38),(.t 39)],iM 41 1,iR 42 (.call 143) [(.t 40),(.t 41)],iM 4 42]) (iK [4] (iK [4] .ret))))))))))),[(.t 4)]⟩
def s_strings_Trim (call : CallK) (N : Nat) (a0 a1 : V) (H : Heap) (τ : Tape) (q : KV) : Ans := binK .eql a0 (.str []) fun v0 => gK v0 false (fun q' => q' a1 H τ) H τ fun v1 H2 τ3 => gK v0 false (fun q' => binK .eql v1 (.str []) fun v => q' v H2 τ3) H2 τ3 fun v4 H5 τ6 => someK (pPick [v0,(.bool true),v4]) fun v7 => condK v7 (q a0 H5 τ6) (someK (pLenS [a1]) fun v8 => binK .eql v8 (.int .i64 (.ofNat 1)) fun v9 => gK v9 true (fun q' => q' a1 H5 τ6) H5 τ6 fun v10 H11 τ12 => gK v9 true (fun q' => someK (pStrIndex [v10,(.int .i64 (.ofNat 0))]) fun v => q' v H11 τ12) H11 τ12 fun v13 H14 τ15 => gK v9 true (fun q' => binK .lss v13 (.int .u8 (.ofNat 128)) fun v => q' v H14 τ15) H14 τ15 fun v16 H17 τ18 => someK (pPick [v9,v16,(.bool false)]) fun v19 => condK v19 (someK (pStrIndex [a1,(.int .i64 (.ofNat 0))]) fun v20 => call f_strings_trimRightByte [a0,v20] H17 τ18 fun v21 H22 τ23 =>
    someK (pStrIndex [a1,(.int .i64 (.ofNat 0))]) fun v24 => call f_strings_trimLeftByte [v21,v24] H22 τ23 fun v25 H26 τ27 => q v25 H26 τ27) (call f_strings_makeASCIISet [a1] H17 τ18 fun v28 H29 τ30 => someK (pExtract 0 [v28]) fun v31 => someK (pExtract 1 [v28]) fun v32 => effK (eAlloc (repl 256 [(.bool false)]) [] H29 τ30) fun v33 H34 τ35 => effK (eStore 256 [v33,v31] H34 τ35) fun v36 H37 τ38 => condK v32 (call f_strings_trimRightASCII [a0,v33] H37 τ38 fun v39 H40 τ41 => call f_strings_trimLeftASCII [v39,v33] H40 τ41 fun v42 H43 τ44 => q v42 H43 τ44) (call f_strings_trimRightUnicode [a0,a1] H37 τ38 fun v45 H46 τ47 => call f_strings_trimLeftUnicode [v45,a1] H46 τ47 fun v48 H49 τ50 => q v48 H49 τ50)))
theorem s_strings_Trim_eq (call : CallK) (N : Nat) (a0 a1 : V) (H : Heap) (τ : Tape) (q : KV) : s_strings_Trim call N a0 a1 H τ q = funK call N fn_strings_Trim [a0, a1] H τ q := by kernel_rfl
def e_strings_Trim (call : CallK) (N : Nat) (vs : List V) (H : Heap) (τ : Tape) (q : KV) : Ans := match vs with | [a0, a1] => s_strings_Trim call N a0 a1 H τ q | _ => none
theorem e_strings_Trim_ok : EntOk fn_strings_Trim e_strings_Trim := by
  intro call N vs H τ q r h
  unfold e_strings_Trim at h
  split at h
  · rw [s_strings_Trim_eq] at h; exact h
  · cases h
theorem e_strings_Trim_nat : EntNat e_strings_Trim := by
  intro c hn N vs H τ q
  unfold e_strings_Trim
  split
  · rw [s_strings_Trim_eq, s_strings_Trim_eq]; exact funK_ent hn _ _ _ _ _ _
  · rfl
/-- strings.IndexByte -/
def fn_strings_IndexByte : Fun := ⟨2,(.seq (.reg [iR 4 (.p .mv) [(iC 0)]]) (iK [0,1] (.seq (.reg [iM 5 0,iM 6 1,iR 7 (.call 145) [(.t 5),(.t 6)],iM 4 7]) (iK [4] (iK [4] .ret))))),[(.t 4)]⟩
def s_strings_IndexByte (call : CallK) (N : Nat) (a0 a1 : V) (H : Heap) (τ : Tape) (q : KV) : Ans := call f_stringslite_IndexByte [a0,a1] H τ fun v0 H1 τ2 => q v0 H1 τ2
theorem s_strings_IndexByte_eq (call : CallK) (N : Nat) (a0 a1 : V) (H : Heap) (τ : Tape) (q : KV) : s_strings_IndexByte call N a0 a1 H τ q = funK call N fn_strings_IndexByte [a0, a1] H τ q := by kernel_rfl
def e_strings_IndexByte (call : CallK) (N : Nat) (vs : List V) (H : Heap) (τ : Tape) (q : KV) : Ans := match vs with | [a0, a1] => s_strings_IndexByte call N a0 a1 H τ q | _ => none
theorem e_strings_IndexByte_ok : EntOk fn_strings_IndexByte e_strings_IndexByte := by
  intro call N vs H τ q r h
  unfold e_strings_IndexByte at h
  split at h
  · rw [s_strings_IndexByte_eq] at h; exact h
  · cases h
theorem e_strings_IndexByte_nat : EntNat e_strings_IndexByte := by
  intro c hn N vs H τ q
  unfold e_strings_IndexByte
  split
  · rw [s_strings_IndexByte_eq, s_strings_IndexByte_eq]; exact funK_ent hn _ _ _ _ _ _
  · rfl
/-- ostiary/url.Own -/
def fn_url_Own : Fun := ⟨1,(.seq (.reg [iR 2 (.p .mv) [(iC 0)]]) (iK [0] (.seq (.seq (.reg [iM 3 0]) (iK [3] (.block 0 (.seq (.seq (.reg [iR 5 (iB .eql) [(.t 3),(.c (.str (bs [104,116,116,112])))],iM 4 5]) (iK [3,4] (.cond (.t 4) .skip (.reg [iR 6 (iB .eql) [(.t 3),(.c (.str (bs [119,115])))],iM 4 6])))) (iK [3,4] (.cond (.t 4) (.seq (.reg [iR 2 (.p .mv) [(iC 80)]]) (iK [2] (iK [2] .ret))) (.seq (.seq (.reg [iR 8 (iB .eql) [(.t 3),(.c (.str (bs [104,116,116,112,115])))],iM 7 8]) (iK [3,7] (.cond (.t 7) .skip (.reg [iR 9 (iB .eql) [(.t 3),(.c (.str (bs [119,115,115])))],iM 7 9])))) (iK [3,7] (.cond (.t 7) (.seq (.reg [iR 2 (.p .mv) [(iC 443)]])
    (iK [2] (iK [2] .ret))) (.seq (.reg [iR 11 (iB .eql) [(.t 3),(.c (.str (bs [102,116,112])))],iM 10 11]) (iK [10] (.cond (.t 10) (.seq (.reg [iR 2 (.p .mv) [(iC 21)]]) (iK [2] (iK [2] .ret))) .skip)))))))))))) (iK [] (.seq (.reg [iR 2 (.p .mv) [(.c (.int .i64 (.negSucc 0)))]]) (iK [2] (iK [2] .ret))))))),[(.t 2)]⟩
/-- strconv.Itoa -/
def fn_strconv_Itoa : Fun := ⟨1,(.seq (.reg [iR 2 (.p .mv) [(.c (.str []))]]) (iK [0] (.seq (.reg [iM 3 0,iR 4 (.call 146) [(.t 3)],iM 2 4]) (iK [2] (iK [2] .ret))))),[(.t 2)]⟩
/-- ostiary/ostiaryref1.Letter -/
def fn_ref1_Letter : Fun := ⟨1,(.seq (.reg [iR 2 (.p .mv) [(.c (.bool false))]]) (iK [0] (.seq (.reg [iM 3 0,iR 4 (iB .geq) [(.t 3),(iU 97)],iM 5 4,iN 6 5 true 0,iG 7 5 true (iB .leq) [(.t 6),(iU 122)],iR 8 (.p .pick) [(.t 5),(.t 7),(.c (.bool false))],iM 9 8,iN 10 9 false 0,iG 11 9 false (iB .geq) [(.t 10),(iU 65)],iN 12 9 false 11,iN 13 12 true 0,iG 14 12 true (iB .leq) [(.t 13),(iU 90)],iG 15 9 false (.p .pick) [(.t 12),(.t 14),(.c (.bool false))],iR 16 (.p .pick) [(.t 9),(.c (.bool true)),(.t 15)],iM 2 16]) (iK [2] (iK [2] .ret))))),[(.t 2)]⟩
/-- ostiary/ostiaryref1.Digit -/
def fn_ref1_Digit : Fun := ⟨1,(.seq (.reg [iR 2 (.p .mv) [(.c (.bool false))]]) (iK [0] (.seq (.reg [iM 3 0,iR 4 (iB .geq) [(.t 3),(iU 48)],iM 5 4,iN 6 5 true 0,iG 7 5 true (iB .leq) [(.t 6),(iU 57)],iR 8 (.p .pick) [(.t 5),(.t 7),(.c (.bool false))],iM 2 8]) (iK [2] (iK [2] .ret))))),[(.t 2)]⟩
/-- ostiary/ostiaryref3.Own -/
def fn_ref3_Own : Fun := ⟨1,(.seq (.reg [iR 2 (.p .mv) [(iC 0)]]) (iK [0] (.seq (.seq (.reg [iM 3 0]) (iK [3] (.block 0 (.seq (.seq (.reg [iR 5 (iB .eql) [(.t 3),(.c (.str (bs [104,116,116,112])))],iM 4 5]) (iK [3,4] (.cond (.t 4) .skip (.reg [iR 6 (iB .eql) [(.t 3),(.c (.str (bs [119,115])))],iM 4 6])))) (iK [3,4] (.cond (.t 4) (.seq (.reg [iR 2 (.p .mv) [(iC 80)]]) (iK [2] (iK [2] .ret))) (.seq (.seq (.reg [iR 8 (iB .eql) [(.t 3),(.c (.str (bs [104,116,116,112,115])))],iM 7 8]) (iK [3,7] (.cond (.t 7) .skip (.reg [iR 9 (iB .eql) [(.t 3),(.c (.str (bs [119,115,115])))],iM 7 9])))) (iK [3,7] (.cond (.t 7) (.seq (.reg [iR 2 (.p .mv) [(iC 443)]])
    (iK [2] (iK [2] .ret))) (.seq (.reg [iR 11 (iB .eql) [(.t 3),(.c (.str (bs [102,116,112])))],iM 10 11]) (iK [10] (.cond (.t 10) (.seq (.reg [iR 2 (.p .mv) [(iC 21)]]) (iK [2] (iK [2] .ret))) .skip)))))))))))) (iK [] (.seq (.reg [iR 2 (.p .mv) [(.c (.int .i64 (.negSucc 0)))]]) (iK [2] (iK [2] .ret))))))),[(.t 2)]⟩
/-- ostiary/ostiaryref1.Numeral -/
def fn_ref1_Numeral : Fun := ⟨1,(.seq (.reg [iR 2 (.p .mv) [(.c (.str []))]]) (iK [0] (.seq (.seq (.reg [iM 5 0,iR 6 (iB .eql) [(.t 5),(.c (.int .i64 (.negSucc 9223372036854775807)))]]) (iK [0,6] (.cond (.t 6) (.seq (.reg [iR 2 (.p .mv) [(.c (.str (bs [45,57,50,50,51,51,55,50,48,51,54,56,53,52,55,55,53,56,48,56])))]]) (iK [2] (iK [2] .ret))) .skip))) (iK [0] (.seq (.seq (.reg [iM 7 0,iR 8 (iB .lss) [(.t 7),(iC 0)]]) (iK [0,8] (.cond (.t 8) (.seq (.reg [iM 9 0,iR 10 (.p (.un .neg)) [(.t 9)],iR 11 (.call 119) [(.t 10)],iR 12 (iB .add) [(.c (.str (bs [45]))),(.t 11)],iM 2 12]) (iK [2] (iK [2] .ret))) .skip))) (iK [0] (.seq (.reg [iR 3 (.p .mv) [(.c (.str []))]]) (iK [0,3] (.seq (.block 0 (.loop
    (iK [0,3] (.seq (.seq (.reg [iM 13 0,iR 14 (iB .gtr) [(.t 13),(iC 0)],iM 15 14,iN 16 15 false 3,iG 17 15 false (iB .eql) [(.t 16),(.c (.str []))],iR 18 (.p .pick) [(.t 15),(.c (.bool true)),(.t 17)]]) (iK [0,3,18] (.cond (.t 18) .skip (iK [3] (.exit 0))))) (iK [0,3] (.block 1 (.seq (.reg [iM 19 0,iR 20 (iB .rem) [(.t 19),(iC 10)],iM 4 20]) (iK [0,3,4] (.seq (.reg [iM 21 4,iM 22 4,iR 23 (iB .add) [(.t 22),(iC 1)],iR 24 (.p (.strSlice true true)) [(.c (.str (bs [48,49,50,51,52,53,54,55,56,57]))),(.t 21),(.t 23)],iM 25 3,iR 26 (iB .add) [(.t 24),(.t 25)],iM 3 26])
    (iK [0,3] (.reg [iM 27 0,iR 28 (iB .quo) [(.t 27),(iC 10)],iM 0 28]))))))))))) (iK [3] (.seq (.reg [iM 29 3,iM 2 29]) (iK [2] (iK [2] .ret))))))))))))),[(.t 2)]⟩
/-- ostiary/ostiaryref3.split -/
def fn_ref3_split : Fun := ⟨2,(.seq (.reg [iR 4 (.p .mv) [(.c (.str []))]]) (iK [0,1] (.seq (.reg [iM 9 1,iR 10 (.call 107) [(.t 9),(iU 35)],iM 8 10,iR 11 (.p (.extract 0)) [(.t 8)],iR 12 (.p (.extract 1)) [(.t 8)],iR 13 (.p (.extract 2)) [(.t 8)],iM 5 11,iM 6 12,iM 7 13]) (iK [0,5,6,7] (.seq (.seq (.reg [iM 14 7]) (iK [0,5,6,14] (.cond (.t 14) (.seq (.reg [iM 15 0,iR 16 (.p .nilck) [(.t 15)],iR 17 (.p (.fieldAddr 11)) [(.t 16)],⟨none,none,(.e (.store 1)),[(.t 17),(.c (.bool true))],none⟩]) (iK [0,5,6] (.reg [iM 18 0,iM 19 6,iR 20 (.call 161) [(.t 19),(iC 2)],iR 21 (.p .nilck) [(.t 18)],iR 22 (.p (.fieldAddr 9)) [(.t 21)],
    ⟨none,none,(.e (.store 1)),[(.t 22),(.t 20)],none⟩]))) .skip))) (iK [5] (.seq (.reg [iM 23 5,iM 4 23]) (iK [4] (iK [4] .ret))))))))),[(.t 4)]⟩
/-- ostiary/ostiaryref3.clean -/
def fn_ref3_clean : Fun := ⟨1,(.seq (.reg [iR 2 (.p .mv) [(.c (.str []))]]) (iK [0] (.seq (.block 0 (.loop (iK [0] (.seq (.seq (.reg [iM 5 0,iR 6 (.p .lenS) [(.t 5)],iR 7 (iB .gtr) [(.t 6),(iC 0)],iM 8 7,iN 9 8 true 0,iG 10 8 true (.p .strIndex) [(.t 9),(iC 0)],iG 11 8 true (iB .leq) [(.t 10),(iU 32)],iR 12 (.p .pick) [(.t 8),(.t 11),(.c (.bool false))]]) (iK [0,12] (.cond (.t 12) .skip (iK [0] (.exit 0))))) (iK [0] (.block 1 (.reg [iM 13 0,iR 14 (.p (.strSlice true false)) [(.t 13),(iC 1)],iM 0 14]))))))) (iK [0] (.seq (.block 2 (.loop (iK [0] (.seq (.seq (.reg [iM 15 0,iR 16 (.p .lenS) [(.t 15)],
    iR 17 (iB .gtr) [(.t 16),(iC 0)],iM 18 17,iN 19 18 true 0,iN 20 18 true 0,iG 21 18 true (.p .lenS) [(.t 20)],iG 22 18 true (iB .sub) [(.t 21),(iC 1)],iG 23 18 true (.p .strIndex) [(.t 19),(.t 22)],iG 24 18 true (iB .leq) [(.t 23),(iU 32)],iR 25 (.p .pick) [(.t 18),(.t 24),(.c (.bool false))]]) (iK [0,25] (.cond (.t 25) .skip (iK [0] (.exit 2))))) (iK [0] (.block 3 (.reg [iM 26 0,iM 27 0,iR 28 (.p .lenS) [(.t 27)],iR 29 (iB .sub) [(.t 28),(iC 1)],iR 30 (.p (.strSlice false true)) [(.t 26),(.t 29)],iM 0 30]))))))) (iK [0] (.seq (.reg [iR 3 (.p .mv) [(.c (.str []))]]) (iK [0,3] (.seq (.seq (.reg [iR 4 (.p .mv) [(iC 0)]])
    (iK [0,3,4] (.block 4 (.loop (iK [0,3,4] (.seq (.seq (.reg [iM 31 4,iM 32 0,iR 33 (.p .lenS) [(.t 32)],iR 34 (iB .lss) [(.t 31),(.t 33)]]) (iK [0,3,4,34] (.cond (.t 34) .skip (iK [3] (.exit 4))))) (iK [0,3,4] (.seq (.block 5 (.seq (.reg [iM 37 0,iM 38 4,iR 39 (.p .strIndex) [(.t 37),(.t 38)],iR 40 (iB .neq) [(.t 39),(iU 9)],iM 41 40,iN 42 41 true 0,iN 43 41 true 4,iG 44 41 true (.p .strIndex) [(.t 42),(.t 43)],iG 45 41 true (iB .neq) [(.t 44),(iU 10)],iR 46 (.p .pick) [(.t 41),(.t 45),(.c (.bool false))],iM 47 46,iN 48 47 true 0,iN 49 47 true 4,iG 50 47 true (.p .strIndex) [(.t 48),(.t 49)],
    iG 51 47 true (iB .neq) [(.t 50),(iU 13)],iR 52 (.p .pick) [(.t 47),(.t 51),(.c (.bool false))]]) (iK [0,3,4,52] (.cond (.t 52) (.reg [iM 53 3,iM 54 0,iM 55 4,iM 56 4,iR 57 (iB .add) [(.t 56),(iC 1)],iR 58 (.p (.strSlice true true)) [(.t 54),(.t 55),(.t 57)],iR 59 (iB .add) [(.t 53),(.t 58)],iM 3 59]) .skip)))) (iK [0,3,4] (.reg [iM 35 4,iR 36 (iB .add) [(.t 35),(iC 1)],iM 4 36])))))))))) (iK [3] (.seq (.reg [iM 60 3,iM 2 60]) (iK [2] (iK [2] .ret))))))))))))),[(.t 2)]⟩
/-- ostiary/ostiaryref3.scheme -/
def fn_ref3_scheme : Fun := ⟨1,(.seq (.reg [iR 2 (.p .mv) [(.c (.str []))],iR 3 (.p .mv) [(.c (.str []))],iR 4 (.p .mv) [(.c (.bool false))]]) (iK [0] (.seq (.seq (.reg [iR 5 (.p .mv) [(iC 0)]]) (iK [0,5] (.block 0 (.loop (iK [0,5] (.seq (.seq (.reg [iM 7 5,iM 8 0,iR 9 (.p .lenS) [(.t 8)],iR 10 (iB .lss) [(.t 7),(.t 9)]]) (iK [0,5,10] (.cond (.t 10) .skip (iK [] (.exit 0))))) (iK [0,5] (.seq (.block 1 (.seq (.reg [iM 13 0,iM 14 5,iR 15 (.p .strIndex) [(.t 13),(.t 14)],iM 6 15]) (iK [0,5,6] (.seq (.seq (.reg [iM 16 6,iR 17 (iB .eql) [(.t 16),(iU 58)],iM 18 17,iN 19 18 true 5,iG 20 18 true (iB .gtr) [(.t 19),(iC 0)],
    iR 21 (.p .pick) [(.t 18),(.t 20),(.c (.bool false))]]) (iK [0,5,6,21] (.cond (.t 21) (.seq (.draw [iM 22 0,iM 23 5,iR 24 (.p (.strSlice false true)) [(.t 22),(.t 23)],iR 25 (.call 55) [(.t 24)],iM 26 0,iM 27 5,iR 28 (iB .add) [(.t 27),(iC 1)],iR 29 (.p (.strSlice true false)) [(.t 26),(.t 28)],iM 2 25,iM 3 29,iR 4 (.p .mv) [(.c (.bool true))]]) (iK [2,3,4] (iK [2,3,4] .ret))) .skip))) (iK [0,5,6] (.seq (.reg [iM 30 6,iR 31 (.call 114) [(.t 30)],iR 32 (.p (.un .not)) [(.t 31)],iM 33 32,iN 34 33 true 5,iG 35 33 true (iB .eql) [(.t 34),(iC 0)],iN 36 33 true 35,iN 37 36 false 6,
    iG 38 36 false (.call 115) [(.t 37)],iG 39 36 false (.p (.un .not)) [(.t 38)],iN 40 36 false 39,iN 41 40 true 6,iG 42 40 true (iB .neq) [(.t 41),(iU 43)],iG 43 36 false (.p .pick) [(.t 40),(.t 42),(.c (.bool false))],iN 44 36 false 43,iN 45 44 true 6,iG 46 44 true (iB .neq) [(.t 45),(iU 45)],iG 47 36 false (.p .pick) [(.t 44),(.t 46),(.c (.bool false))],iN 48 36 false 47,iN 49 48 true 6,iG 50 48 true (iB .neq) [(.t 49),(iU 46)],iG 51 36 false (.p .pick) [(.t 48),(.t 50),(.c (.bool false))],iG 52 33 true (.p .pick) [(.t 36),(.c (.bool true)),(.t 51)],iR 53 (.p .pick) [(.t 33),(.t 52),(.c (.bool false))]]) (iK [0,5,53] (.cond (.t 53)
    (.seq (.reg [iR 2 (.p .mv) [(.c (.str []))],iR 3 (.p .mv) [(.c (.str []))],iR 4 (.p .mv) [(.c (.bool false))]]) (iK [2,3,4] (iK [2,3,4] .ret))) .skip)))))))) (iK [0,5] (.reg [iM 11 5,iR 12 (iB .add) [(.t 11),(iC 1)],iM 5 12])))))))))) (iK [] (.seq (.reg [iR 2 (.p .mv) [(.c (.str []))],iR 3 (.p .mv) [(.c (.str []))],iR 4 (.p .mv) [(.c (.bool false))]]) (iK [2,3,4] (iK [2,3,4] .ret))))))),[(.t 2),(.t 3),(.t 4)]⟩
/-- ostiary/ostiaryref3.full -/
def fn_ref3_full : Fun := ⟨2,(.seq (.reg [iR 4 (.p .mv) [(iC 0)]]) (iK [0,1] (.seq (.reg [iM 7 0,iR 8 (.p .nilck) [(.t 7)],iR 9 (.p (.fieldAddr 5)) [(.t 8)],⟨none,none,(.e (.store 1)),[(.t 9),(.c (.int .i64 (.negSucc 0)))],none⟩]) (iK [0,1] (.seq (.seq (.reg [iM 10 0,iR 11 (.p .nilck) [(.t 10)],iR 12 (.p (.fieldAddr 0)) [(.t 11)],iR 13 (.l (.load none)) [(.t 12)],iR 14 (.call 90) [(.t 13)]]) (iK [0,1,14] (.cond (.t 14) (.seq (.reg [iM 15 0,iM 16 1,iR 17 (.call 164) [(.t 16)],iR 18 (.call 163) [(.t 17)],iR 19 (.call 162) [(.t 15),(.t 18)],iM 4 19]) (iK [4] (iK [4] .ret))) .skip))) (iK [0,1] (.seq (.seq (.reg [iM 20 1,iR 21 (.call 136) [(.t 20),(.c (.str (bs [47,47])))]]) (iK [0,1,21] (.cond (.t 21)
    (.seq (.reg [iM 22 0,iM 23 1,iR 24 (.p (.strSlice true false)) [(.t 23),(iC 2)],iR 25 (.call 162) [(.t 22),(.t 24)],iM 4 25]) (iK [4] (iK [4] .ret))) .skip))) (iK [0,1] (.seq (.seq (.reg [iM 26 1,iR 27 (.call 136) [(.t 26),(.c (.str (bs [47])))]]) (iK [0,1,27] (.cond (.t 27) (.seq (.reg [iM 28 0,iM 29 1,iR 30 (.call 165) [(.t 28),(.t 29)]]) (iK [] (.seq (.reg [iR 4 (.p .mv) [(iC 0)]]) (iK [4] (iK [4] .ret))))) .skip))) (iK [0,1] (.seq (.reg [iM 32 1,iR 33 (.call 166) [(.t 32),(iU 63),(iU 63)],iM 31 33,iR 34 (.p (.extract 0)) [(.t 31)],iR 35 (.p (.extract 1)) [(.t 31)],iM 5 34,iM 6 35])
    (iK [0,1,5] (.seq (.reg [iM 36 0,iR 37 (.p .nilck) [(.t 36)],iR 38 (.p (.fieldAddr 6)) [(.t 37)],⟨none,none,(.e (.store 1)),[(.t 38),(.c (.bool true))],none⟩]) (iK [0,1,5] (.seq (.reg [iM 39 0,iM 40 5,iR 41 (.call 161) [(.t 40),(iC 1)],iR 42 (.e (.buildSlice 1 1 [(.str [])] [(0,1)])) [(.t 41)],iR 43 (.p .nilck) [(.t 39)],iR 44 (.p (.fieldAddr 7)) [(.t 43)],⟨none,none,(.e (.store 1)),[(.t 44),(.t 42)],none⟩]) (iK [0,1] (.seq (.reg [iM 45 0,iM 46 1,iR 47 (.call 167) [(.t 45),(.t 46)]]) (iK [] (.seq (.reg [iR 4 (.p .mv) [(iC 0)]]) (iK [4] (iK [4] .ret))))))))))))))))))))),[(.t 4)]⟩
/-- internal/stringslite.Cut -/
def fn_stringslite_Cut : Fun := ⟨2,(.seq (.reg [iR 4 (.p .mv) [(.c (.str []))],iR 5 (.p .mv) [(.c (.str []))],iR 6 (.p .mv) [(.c (.bool false))]]) (iK [0,1] (.seq (.seq (.reg [iM 8 0,iM 9 1,iR 10 (.call 168) [(.t 8),(.t 9)],iM 7 10]) (iK [0,1,7] (.seq (.reg [iM 11 7,iR 12 (iB .geq) [(.t 11),(iC 0)]]) (iK [0,1,7,12] (.cond (.t 12) (.seq (.draw [iM 13 0,iM 14 7,iR 15 (.p (.strSlice false true)) [(.t 13),(.t 14)],iM 16 0,iM 17 7,iM 18 1,iR 19 (.p .lenS) [(.t 18)],iR 20 (iB .add) [(.t 17),(.t 19)],iR 21 (.p (.strSlice true false)) [(.t 16),(.t 20)],iM 4 15,iM 5 21,iR 6 (.p .mv) [(.c (.bool true))]]) (iK [4,5,6] (iK [4,5,6] .ret)))
    .skip))))) (iK [0] (.seq (.reg [iM 22 0,iM 4 22,iR 5 (.p .mv) [(.c (.str []))],iR 6 (.p .mv) [(.c (.bool false))]]) (iK [4,5,6] (iK [4,5,6] .ret))))))),[(.t 4),(.t 5),(.t 6)]⟩
def s_stringslite_Cut (call : CallK) (N : Nat) (a0 a1 : V) (H : Heap) (τ : Tape) (q : KV) : Ans := call f_stringslite_Index [a0,a1] H τ fun v0 H1 τ2 => binK .geq v0 (.int .i64 (.ofNat 0)) fun v3 => condK v3 (someK (pStrSlice false true [a0,v0]) fun v4 => someK (pLenS [a1]) fun v5 => binK .add v0 v5 fun v6 => someK (pStrSlice true false [a0,v6]) fun v7 => q (.tup [v4,v7,(.bool true)]) H1 τ2) (q (.tup [a0,(.str []),(.bool false)]) H1 τ2)
theorem s_stringslite_Cut_eq (call : CallK) (N : Nat) (a0 a1 : V) (H : Heap) (τ : Tape) (q : KV) : s_stringslite_Cut call N a0 a1 H τ q = funK call N fn_stringslite_Cut [a0, a1] H τ q := by kernel_rfl
def e_stringslite_Cut (call : CallK) (N : Nat) (vs : List V) (H : Heap) (τ : Tape) (q : KV) : Ans := match vs with | [a0, a1] => s_stringslite_Cut call N a0 a1 H τ q | _ => none
theorem e_stringslite_Cut_ok : EntOk fn_stringslite_Cut e_stringslite_Cut := by
  intro call N vs H τ q r h
  unfold e_stringslite_Cut at h
  split at h
  · rw [s_stringslite_Cut_eq] at h; exact h
  · cases h
theorem e_stringslite_Cut_nat : EntNat e_stringslite_Cut := by
  intro c hn N vs H τ q
  unfold e_stringslite_Cut
  split
  · rw [s_stringslite_Cut_eq, s_stringslite_Cut_eq]; exact funK_ent hn _ _ _ _ _ _
  · rfl
/-- strings.CutPrefix -/
def fn_strings_CutPrefix : Fun := ⟨2,(.seq (.reg [iR 4 (.p .mv) [(.c (.str []))],iR 5 (.p .mv) [(.c (.bool false))]]) (iK [0,1] (.seq (.reg [iM 6 0,iM 7 1,iR 8 (.call 169) [(.t 6),(.t 7)],iR 9 (.p (.extract 0)) [(.t 8)],iR 10 (.p (.extract 1)) [(.t 8)],iM 4 9,iM 5 10]) (iK [4,5] (iK [4,5] .ret))))),[(.t 4),(.t 5)]⟩
def s_strings_CutPrefix (call : CallK) (N : Nat) (a0 a1 : V) (H : Heap) (τ : Tape) (q : KV) : Ans := call f_stringslite_CutPrefix [a0,a1] H τ fun v0 H1 τ2 => someK (pExtract 0 [v0]) fun v3 => someK (pExtract 1 [v0]) fun v4 => q (.tup [v3,v4]) H1 τ2
theorem s_strings_CutPrefix_eq (call : CallK) (N : Nat) (a0 a1 : V) (H : Heap) (τ : Tape) (q : KV) : s_strings_CutPrefix call N a0 a1 H τ q = funK call N fn_strings_CutPrefix [a0, a1] H τ q := by kernel_rfl
def e_strings_CutPrefix (call : CallK) (N : Nat) (vs : List V) (H : Heap) (τ : Tape) (q : KV) : Ans := match vs with | [a0, a1] => s_strings_CutPrefix call N a0 a1 H τ q | _ => none
theorem e_strings_CutPrefix_ok : EntOk fn_strings_CutPrefix e_strings_CutPrefix := by
  intro call N vs H τ q r h
  unfold e_strings_CutPrefix at h
  split at h
  · rw [s_strings_CutPrefix_eq] at h; exact h
  · cases h
theorem e_strings_CutPrefix_nat : EntNat e_strings_CutPrefix := by
  intro c hn N vs H τ q
  unfold e_strings_CutPrefix
  split
  · rw [s_strings_CutPrefix_eq, s_strings_CutPrefix_eq]; exact funK_ent hn _ _ _ _ _ _
  · rfl
/-- ostiary/headers.told -/
def fn_headers_told : Fun := ⟨1,(.seq (.reg [iR 2 (.p .mv) [(iC 0)],iR 3 (.p .mv) [(.c (.bool false))]]) (iK [0] (.seq (.seq (.reg [iM 4 0,iR 5 (iB .eql) [(.t 4),(.c (.str []))]]) (iK [0,5] (.cond (.t 5) (.seq (.reg [iR 2 (.p .mv) [(.c (.int .i64 (.negSucc 0)))],iR 3 (.p .mv) [(.c (.bool true))]]) (iK [2,3] (iK [2,3] .ret))) .skip))) (iK [0] (.seq (.reg [iM 6 0,iR 7 (.call 61) [(.t 6)],iR 8 (.p (.extract 0)) [(.t 7)],iR 9 (.p (.extract 1)) [(.t 7)],iM 2 8,iM 3 9]) (iK [2,3] (iK [2,3] .ret))))))),[(.t 2),(.t 3)]⟩
def s_headers_told (call : CallK) (N : Nat) (a0 : V) (H : Heap) (τ : Tape) (q : KV) : Ans := binK .eql a0 (.str []) fun v0 => condK v0 (q (.tup [(.int .i64 (.negSucc 0)),(.bool true)]) H τ) (call f_infra_Int [a0] H τ fun v1 H2 τ3 => someK (pExtract 0 [v1]) fun v4 => someK (pExtract 1 [v1]) fun v5 => q (.tup [v4,v5]) H2 τ3)
theorem s_headers_told_eq (call : CallK) (N : Nat) (a0 : V) (H : Heap) (τ : Tape) (q : KV) : s_headers_told call N a0 H τ q = funK call N fn_headers_told [a0] H τ q := by kernel_rfl
def e_headers_told (call : CallK) (N : Nat) (vs : List V) (H : Heap) (τ : Tape) (q : KV) : Ans := match vs with | [a0] => s_headers_told call N a0 H τ q | _ => none
theorem e_headers_told_ok : EntOk fn_headers_told e_headers_told := by
  intro call N vs H τ q r h
  unfold e_headers_told at h
  split at h
  · rw [s_headers_told_eq] at h; exact h
  · cases h
theorem e_headers_told_nat : EntNat e_headers_told := by
  intro c hn N vs H τ q
  unfold e_headers_told
  split
  · rw [s_headers_told_eq, s_headers_told_eq]; exact funK_ent hn _ _ _ _ _ _
  · rfl
/-- ostiary/ostiaryref1.Begins -/
def fn_ref1_Begins : Fun := ⟨2,(.seq (.reg [iR 4 (.p .mv) [(.c (.bool false))]]) (iK [0,1] (.seq (.reg [iM 5 0,iR 6 (.p .lenS) [(.t 5)],iM 7 1,iR 8 (.p .lenS) [(.t 7)],iR 9 (iB .geq) [(.t 6),(.t 8)],iM 10 9,iN 11 10 true 0,iN 12 10 true 1,iG 13 10 true (.p .lenS) [(.t 12)],iG 14 10 true (.p (.strSlice false true)) [(.t 11),(.t 13)],iN 15 10 true 1,iG 16 10 true (iB .eql) [(.t 14),(.t 15)],iR 17 (.p .pick) [(.t 10),(.t 16),(.c (.bool false))],iM 4 17]) (iK [4] (iK [4] .ret))))),[(.t 4)]⟩
/-- ostiary/ostiaryref1.Int -/
def fn_ref1_Int : Fun := ⟨1,(.seq (.reg [iR 2 (.p .mv) [(iC 0)],iR 3 (.p .mv) [(.c (.bool false))]]) (iK [0] (.seq (.reg [iR 4 (.p .mv) [(iC 0)]]) (iK [0,4] (.seq (.seq (.reg [iR 5 (.p .mv) [(iC 0)]]) (iK [0,4,5] (.block 0 (.loop (iK [0,4,5] (.seq (.seq (.reg [iM 7 5,iM 8 0,iR 9 (.p .lenS) [(.t 8)],iR 10 (iB .lss) [(.t 7),(.t 9)]]) (iK [0,4,5,10] (.cond (.t 10) .skip (iK [0,4] (.exit 0))))) (iK [0,4,5] (.seq (.block 1 (.seq (.seq (.reg [iM 13 0,iM 14 5,iR 15 (.p .strIndex) [(.t 13),(.t 14)],iR 16 (.call 115) [(.t 15)],iR 17 (.p (.un .not)) [(.t 16)]]) (iK [0,4,5,17] (.cond (.t 17) (.seq (.reg [iR 2 (.p .mv) [(iC 0)],iR 3 (.p .mv) [(.c (.bool false))]])
    (iK [2,3] (iK [2,3] .ret))) .skip))) (iK [0,4,5] (.seq (.reg [iM 18 0,iM 19 5,iR 20 (.p .strIndex) [(.t 18),(.t 19)],iR 21 (iB .sub) [(.t 20),(iU 48)],iR 22 (.p (.toInt .i64)) [(.t 21)],iM 6 22]) (iK [0,4,5,6] (.seq (.seq (.reg [iM 23 4,iM 24 6,iR 25 (iB .sub) [(iC 9223372036854775807),(.t 24)],iR 26 (iB .quo) [(.t 25),(iC 10)],iR 27 (iB .gtr) [(.t 23),(.t 26)]]) (iK [0,4,5,6,27] (.cond (.t 27) (.seq (.reg [iR 4 (.p .mv) [(iC 9223372036854775807)]]) (iK [0,4,5] (iK [0,4,5] (.exit 1)))) .skip))) (iK [0,4,5,6] (.reg [iM 28 4,iR 29 (iB .mul) [(.t 28),(iC 10)],iM 30 6,
    iR 31 (iB .add) [(.t 29),(.t 30)],iM 4 31])))))))) (iK [0,4,5] (.reg [iM 11 5,iR 12 (iB .add) [(.t 11),(iC 1)],iM 5 12])))))))))) (iK [0,4] (.seq (.reg [iM 32 4,iM 33 0,iR 34 (.p .lenS) [(.t 33)],iR 35 (iB .gtr) [(.t 34),(iC 0)],iM 2 32,iM 3 35]) (iK [2,3] (iK [2,3] .ret))))))))),[(.t 2),(.t 3)]⟩
/-- strings.trimLeftByte -/
def fn_strings_trimLeftByte : Fun := ⟨2,(.seq (.reg [iR 4 (.p .mv) [(.c (.str []))]]) (iK [0,1] (.seq (.block 0 (.loop (iK [0,1] (.seq (.seq (.reg [iM 5 0,iR 6 (.p .lenS) [(.t 5)],iR 7 (iB .gtr) [(.t 6),(iC 0)],iM 8 7,iN 9 8 true 0,iG 10 8 true (.p .strIndex) [(.t 9),(iC 0)],iN 11 8 true 1,iG 12 8 true (iB .eql) [(.t 10),(.t 11)],iR 13 (.p .pick) [(.t 8),(.t 12),(.c (.bool false))]]) (iK [0,1,13] (.cond (.t 13) .skip (iK [0] (.exit 0))))) (iK [0,1] (.block 1 (.reg [iM 14 0,iR 15 (.p (.strSlice true false)) [(.t 14),(iC 1)],iM 0 15]))))))) (iK [0] (.seq (.reg [iM 16 0,iM 4 16]) (iK [4] (iK [4] .ret))))))),[(.t 4)]⟩
/-- strings.trimRightByte -/
def fn_strings_trimRightByte : Fun := ⟨2,(.seq (.reg [iR 4 (.p .mv) [(.c (.str []))]]) (iK [0,1] (.seq (.block 0 (.loop (iK [0,1] (.seq (.seq (.reg [iM 5 0,iR 6 (.p .lenS) [(.t 5)],iR 7 (iB .gtr) [(.t 6),(iC 0)],iM 8 7,iN 9 8 true 0,iN 10 8 true 0,iG 11 8 true (.p .lenS) [(.t 10)],iG 12 8 true (iB .sub) [(.t 11),(iC 1)],iG 13 8 true (.p .strIndex) [(.t 9),(.t 12)],iN 14 8 true 1,iG 15 8 true (iB .eql) [(.t 13),(.t 14)],iR 16 (.p .pick) [(.t 8),(.t 15),(.c (.bool false))]]) (iK [0,1,16] (.cond (.t 16) .skip (iK [0] (.exit 0))))) (iK [0,1] (.block 1 (.reg [iM 17 0,iM 18 0,iR 19 (.p .lenS) [(.t 18)],iR 20 (iB .sub) [(.t 19),(iC 1)],
    iR 21 (.p (.strSlice false true)) [(.t 17),(.t 20)],iM 0 21]))))))) (iK [0] (.seq (.reg [iM 22 0,iM 4 22]) (iK [4] (iK [4] .ret))))))),[(.t 4)]⟩
/-- strings.makeASCIISet -/
def fn_strings_makeASCIISet : Fun := ⟨1,(.seq (.reg [iR 2 (.e (.alloc (repl 256 [(.bool false)]))) [],iR 3 (.p .mv) [(.c (.bool false))]]) (iK [0,2] (.seq (.seq (.reg [iR 4 (.p .mv) [(iC 0)]]) (iK [0,2,4] (.block 0 (.loop (iK [0,2,4] (.seq (.seq (.reg [iM 6 4,iM 7 0,iR 8 (.p .lenS) [(.t 7)],iR 9 (iB .lss) [(.t 6),(.t 8)]]) (iK [0,2,4,9] (.cond (.t 9) .skip (iK [2] (.exit 0))))) (iK [0,2,4] (.seq (.block 1 (.seq (.reg [iM 12 0,iM 13 4,iR 14 (.p .strIndex) [(.t 12),(.t 13)],iM 5 14]) (iK [0,2,4,5] (.seq (.seq (.reg [iM 15 5,iR 16 (iB .geq) [(.t 15),(iU 128)]]) (iK [0,2,4,5,16] (.cond (.t 16) (.seq (.reg [iR 17 (.l (.load (some 256))) [(.t 2)],
    ⟨none,none,(.e (.store 256)),[(.t 2),(.t 17)],none⟩,iR 3 (.p .mv) [(.c (.bool false))]]) (iK [2,3] (iK [2,3] .ret))) .skip))) (iK [0,2,4,5] (.reg [iM 18 5,iR 19 (.p (.arrIdx 256 1)) [(.t 2),(.t 18)],⟨none,none,(.e (.store 1)),[(.t 19),(.c (.bool true))],none⟩])))))) (iK [0,2,4] (.reg [iM 10 4,iR 11 (iB .add) [(.t 10),(iC 1)],iM 4 11])))))))))) (iK [2] (.seq (.reg [iR 20 (.l (.load (some 256))) [(.t 2)],⟨none,none,(.e (.store 256)),[(.t 2),(.t 20)],none⟩,iR 3 (.p .mv) [(.c (.bool true))]]) (iK [2,3] (iK [2,3] .ret))))))),[(.cell 2 (some 256)),(.t 3)]⟩
def s_strings_makeASCIISet_j0 (call : CallK) (N : Nat) (q : KV) (st : St) (τ : Tape) : Ans := match st with
  | ⟨fr,H⟩ => getK fr 2 fun t2 => someK (lLoadN 256 [t2] H) fun v3 => effK (eStore 256 [t2,v3] H τ) fun v4 H5 τ6 => someK (results ⟨(T.set (T.set .leaf 2 t2) 3 (.bool true)),H5⟩ [(.cell 2 (some 256)),(.t 3)]) fun v => q v H5 τ6
def s_strings_makeASCIISet_l1 (call : CallK) (N : Nat) (st : St) (τ : Tape) (k : KC) : Ans := match st with
  | ⟨fr,H⟩ => getK fr 0 fun t0 => getK fr 2 fun t2 => getK fr 4 fun t4 => someK (pLenS [t0]) fun v7 => binK .lss t4 v7 fun v8 => condK v8 (someK (pStrIndex [t0,t4]) fun v9 => binK .geq v9 (.int .u8 (.ofNat 128)) fun v10 => condK v10 (someK (lLoadN 256 [t2] H) fun v11 => effK (eStore 256 [t2,v11] H τ) fun v12 H13 τ14 => k .ret ⟨(T.set (T.set .leaf 2 t2) 3 (.bool false)),H13⟩ τ14) (someK (pArrIdx 256 1 [t2,v9]) fun v15 => effK (eStore 1 [v15,(.bool true)] H τ) fun v16 H17 τ18 => binK .add t4 (.int .i64 (.ofNat 1)) fun v19 => k .normal ⟨(T.set (T.set (T.set (T.set (T.set (T.set .leaf 0 t0) 2 t2) 4 t4) 10 t4) 11 v19) 4 v19),H17⟩ τ18)) (k (.exit 0) ⟨(T.set .leaf 2 t2),H⟩ τ)
def s_strings_makeASCIISet (call : CallK) (N : Nat) (a0 : V) (H : Heap) (τ : Tape) (q : KV) : Ans := effK (eAlloc (repl 256 [(.bool false)]) [] H τ) fun v0 H1 τ2 => loopK (s_strings_makeASCIISet_l1 call N) N ⟨(T.set (T.set (T.set .leaf 0 a0) 2 v0) 4 (.int .i64 (.ofNat 0))),H1⟩ τ2 (blockK 0 (seqK (s_strings_makeASCIISet_j0 call N q) (endK [(.cell 2 (some 256)),(.t 3)] q)))
theorem s_strings_makeASCIISet_eq (call : CallK) (N : Nat) (a0 : V) (H : Heap) (τ : Tape) (q : KV) : s_strings_makeASCIISet call N a0 H τ q = funK call N fn_strings_makeASCIISet [a0] H τ q := by kernel_rfl
def e_strings_makeASCIISet (call : CallK) (N : Nat) (vs : List V) (H : Heap) (τ : Tape) (q : KV) : Ans := match vs with | [a0] => s_strings_makeASCIISet call N a0 H τ q | _ => none
theorem e_strings_makeASCIISet_ok : EntOk fn_strings_makeASCIISet e_strings_makeASCIISet := by
  intro call N vs H τ q r h
  unfold e_strings_makeASCIISet at h
  split at h
  · rw [s_strings_makeASCIISet_eq] at h; exact h
  · cases h
theorem e_strings_makeASCIISet_nat : EntNat e_strings_makeASCIISet := by
  intro c hn N vs H τ q
  unfold e_strings_makeASCIISet
  split
  · rw [s_strings_makeASCIISet_eq, s_strings_makeASCIISet_eq]; exact funK_ent hn _ _ _ _ _ _
  · rfl
/-- strings.trimLeftASCII -/
def fn_strings_trimLeftASCII : Fun := ⟨2,(.seq (.reg [iR 4 (.p .mv) [(.c (.str []))]]) (iK [0,1] (.seq (.block 0 (.loop (iK [0,1] (.seq (.seq (.reg [iM 5 0,iR 6 (.p .lenS) [(.t 5)],iR 7 (iB .gtr) [(.t 6),(iC 0)]]) (iK [0,1,7] (.cond (.t 7) .skip (iK [0] (.exit 0))))) (iK [0,1] (.block 1 (.seq (.seq (.reg [iM 8 1,iM 9 0,iR 10 (.p .strIndex) [(.t 9),(iC 0)],iR 11 (.call 171) [(.t 8),(.t 10)],iR 12 (.p (.un .not)) [(.t 11)]]) (iK [0,1,12] (.cond (.t 12) (iK [0] (.exit 0)) .skip))) (iK [0,1] (.reg [iM 13 0,iR 14 (.p (.strSlice true false)) [(.t 13),(iC 1)],iM 0 14]))))))))) (iK [0] (.seq (.reg [iM 15 0,iM 4 15]) (iK [4] (iK [4] .ret))))))),[(.t 4)]⟩
def s_strings_trimLeftASCII_j0 (call : CallK) (N : Nat) (q : KV) (st : St) (τ : Tape) : Ans := match st with
  | ⟨fr,H⟩ => getK fr 0 fun t0 => q t0 H τ
def s_strings_trimLeftASCII_l1 (call : CallK) (N : Nat) (st : St) (τ : Tape) (k : KC) : Ans := match st with
  | ⟨fr,H⟩ => getK fr 0 fun t0 => getK fr 1 fun t1 => someK (pLenS [t0]) fun v0 => binK .gtr v0 (.int .i64 (.ofNat 0)) fun v1 => condK v1 (someK (pStrIndex [t0,(.int .i64 (.ofNat 0))]) fun v2 => call f_asciiSet_contains [t1,v2] H τ fun v3 H4 τ5 => unK .not v3 fun v6 => condK v6 (k (.exit 0) ⟨(T.set .leaf 0 t0),H4⟩ τ5) (someK (pStrSlice true false [t0,(.int .i64 (.ofNat 1))]) fun v7 => k .normal ⟨(T.set (T.set (T.set (T.set (T.set .leaf 0 t0) 1 t1) 13 t0) 14 v7) 0 v7),H4⟩ τ5)) (k (.exit 0) ⟨(T.set .leaf 0 t0),H⟩ τ)
def s_strings_trimLeftASCII (call : CallK) (N : Nat) (a0 a1 : V) (H : Heap) (τ : Tape) (q : KV) : Ans := loopK (s_strings_trimLeftASCII_l1 call N) N ⟨(T.set (T.set .leaf 0 a0) 1 a1),H⟩ τ (blockK 0 (seqK (s_strings_trimLeftASCII_j0 call N q) (endK [(.t 4)] q)))
theorem s_strings_trimLeftASCII_eq (call : CallK) (N : Nat) (a0 a1 : V) (H : Heap) (τ : Tape) (q : KV) : s_strings_trimLeftASCII call N a0 a1 H τ q = funK call N fn_strings_trimLeftASCII [a0, a1] H τ q := by kernel_rfl
def e_strings_trimLeftASCII (call : CallK) (N : Nat) (vs : List V) (H : Heap) (τ : Tape) (q : KV) : Ans := match vs with | [a0, a1] => s_strings_trimLeftASCII call N a0 a1 H τ q | _ => none
theorem e_strings_trimLeftASCII_ok : EntOk fn_strings_trimLeftASCII e_strings_trimLeftASCII := by
  intro call N vs H τ q r h
  unfold e_strings_trimLeftASCII at h
  split at h
  · rw [s_strings_trimLeftASCII_eq] at h; exact h
  · cases h
theorem e_strings_trimLeftASCII_nat : EntNat e_strings_trimLeftASCII := by
  intro c hn N vs H τ q
  unfold e_strings_trimLeftASCII
  split
  · rw [s_strings_trimLeftASCII_eq, s_strings_trimLeftASCII_eq]; exact funK_ent hn _ _ _ _ _ _
  · rfl
/-- strings.trimRightASCII -/
def fn_strings_trimRightASCII : Fun := ⟨2,(.seq (.reg [iR 4 (.p .mv) [(.c (.str []))]]) (iK [0,1] (.seq (.block 0 (.loop (iK [0,1] (.seq (.seq (.reg [iM 5 0,iR 6 (.p .lenS) [(.t 5)],iR 7 (iB .gtr) [(.t 6),(iC 0)]]) (iK [0,1,7] (.cond (.t 7) .skip (iK [0] (.exit 0))))) (iK [0,1] (.block 1 (.seq (.seq (.reg [iM 8 1,iM 9 0,iM 10 0,iR 11 (.p .lenS) [(.t 10)],iR 12 (iB .sub) [(.t 11),(iC 1)],iR 13 (.p .strIndex) [(.t 9),(.t 12)],iR 14 (.call 171) [(.t 8),(.t 13)],iR 15 (.p (.un .not)) [(.t 14)]]) (iK [0,1,15] (.cond (.t 15) (iK [0] (.exit 0)) .skip))) (iK [0,1] (.reg [iM 16 0,iM 17 0,iR 18 (.p .lenS) [(.t 17)],iR 19 (iB .sub) [(.t 18),(iC 1)],
    iR 20 (.p (.strSlice false true)) [(.t 16),(.t 19)],iM 0 20]))))))))) (iK [0] (.seq (.reg [iM 21 0,iM 4 21]) (iK [4] (iK [4] .ret))))))),[(.t 4)]⟩
def s_strings_trimRightASCII_j0 (call : CallK) (N : Nat) (q : KV) (st : St) (τ : Tape) : Ans := match st with
  | ⟨fr,H⟩ => getK fr 0 fun t0 => q t0 H τ
def s_strings_trimRightASCII_l1 (call : CallK) (N : Nat) (st : St) (τ : Tape) (k : KC) : Ans := match st with
  | ⟨fr,H⟩ => getK fr 0 fun t0 => getK fr 1 fun t1 => someK (pLenS [t0]) fun v0 => binK .gtr v0 (.int .i64 (.ofNat 0)) fun v1 => condK v1 (someK (pLenS [t0]) fun v2 => binK .sub v2 (.int .i64 (.ofNat 1)) fun v3 => someK (pStrIndex [t0,v3]) fun v4 => call f_asciiSet_contains [t1,v4] H τ fun v5 H6 τ7 => unK .not v5 fun v8 => condK v8 (k (.exit 0) ⟨(T.set .leaf 0 t0),H6⟩ τ7) (someK (pLenS [t0]) fun v9 => binK .sub v9 (.int .i64 (.ofNat 1)) fun v10 => someK (pStrSlice false true [t0,v10]) fun v11 => k .normal ⟨(T.set (T.set (T.set (T.set (T.set (T.set (T.set (T.set .leaf 0 t0) 1 t1) 16 t0) 17 t0) 18 v9) 19 v10) 20 v11) 0 v11),H6⟩ τ7)) (k (.exit 0) ⟨(T.set .leaf 0 t0),H⟩ τ)
def s_strings_trimRightASCII (call : CallK) (N : Nat) (a0 a1 : V) (H : Heap) (τ : Tape) (q : KV) : Ans := loopK (s_strings_trimRightASCII_l1 call N) N ⟨(T.set (T.set .leaf 0 a0) 1 a1),H⟩ τ (blockK 0 (seqK (s_strings_trimRightASCII_j0 call N q) (endK [(.t 4)] q)))
theorem s_strings_trimRightASCII_eq (call : CallK) (N : Nat) (a0 a1 : V) (H : Heap) (τ : Tape) (q : KV) : s_strings_trimRightASCII call N a0 a1 H τ q = funK call N fn_strings_trimRightASCII [a0, a1] H τ q := by kernel_rfl
def e_strings_trimRightASCII (call : CallK) (N : Nat) (vs : List V) (H : Heap) (τ : Tape) (q : KV) : Ans := match vs with | [a0, a1] => s_strings_trimRightASCII call N a0 a1 H τ q | _ => none
theorem e_strings_trimRightASCII_ok : EntOk fn_strings_trimRightASCII e_strings_trimRightASCII := by
  intro call N vs H τ q r h
  unfold e_strings_trimRightASCII at h
  split at h
  · rw [s_strings_trimRightASCII_eq] at h; exact h
  · cases h
theorem e_strings_trimRightASCII_nat : EntNat e_strings_trimRightASCII := by
  intro c hn N vs H τ q
  unfold e_strings_trimRightASCII
  split
  · rw [s_strings_trimRightASCII_eq, s_strings_trimRightASCII_eq]; exact funK_ent hn _ _ _ _ _ _
  · rfl
/-- strings.trimLeftUnicode -/
def fn_strings_trimLeftUnicode : Fun := ⟨2,(.seq (.reg [iR 4 (.p .mv) [(.c (.str []))]]) (iK [0,1] (.seq (.block 0 (.loop (iK [0,1] (.seq (.seq (.reg [iM 7 0,iR 8 (.p .lenS) [(.t 7)],iR 9 (iB .gtr) [(.t 8),(iC 0)]]) (iK [0,1,9] (.cond (.t 9) .skip (iK [0] (.exit 0))))) (iK [0,1] (.block 1 (.seq (.reg [iM 11 0,iR 12 (.call 172) [(.t 11)],iM 10 12,iR 13 (.p (.extract 0)) [(.t 10)],iR 14 (.p (.extract 1)) [(.t 10)],iM 5 13,iM 6 14]) (iK [0,1,5,6] (.seq (.seq (.reg [iM 15 1,iM 16 5,iR 17 (.call 173) [(.t 15),(.t 16)],iR 18 (.p (.un .not)) [(.t 17)]]) (iK [0,1,6,18] (.cond (.t 18) (iK [0] (.exit 0)) .skip))) (iK [0,1,6] (.reg [iM 19 0,iM 20 6,
    iR 21 (.p (.strSlice true false)) [(.t 19),(.t 20)],iM 0 21]))))))))))) (iK [0] (.seq (.reg [iM 22 0,iM 4 22]) (iK [4] (iK [4] .ret))))))),[(.t 4)]⟩
/-- strings.trimRightUnicode -/
def fn_strings_trimRightUnicode : Fun := ⟨2,(.seq (.reg [iR 4 (.p .mv) [(.c (.str []))]]) (iK [0,1] (.seq (.block 0 (.loop (iK [0,1] (.seq (.seq (.reg [iM 7 0,iR 8 (.p .lenS) [(.t 7)],iR 9 (iB .gtr) [(.t 8),(iC 0)]]) (iK [0,1,9] (.cond (.t 9) .skip (iK [0] (.exit 0))))) (iK [0,1] (.block 1 (.seq (.reg [iM 10 0,iM 11 0,iR 12 (.p .lenS) [(.t 11)],iR 13 (iB .sub) [(.t 12),(iC 1)],iR 14 (.p .strIndex) [(.t 10),(.t 13)],iR 15 (.p (.toInt .i32)) [(.t 14)],iM 5 15,iR 6 (.p .mv) [(iC 1)]]) (iK [0,1,5,6] (.seq (.seq (.reg [iM 16 5,iR 17 (iB .geq) [(.t 16),(.c (.int .i32 (.ofNat 128)))]]) (iK [0,1,5,6,17] (.cond (.t 17) (.reg [iM 19 0,iR 20 (.call 174) [(.t 19)],
    iM 18 20,iR 21 (.p (.extract 0)) [(.t 18)],iR 22 (.p (.extract 1)) [(.t 18)],iM 5 21,iM 6 22]) .skip))) (iK [0,1,5,6] (.seq (.seq (.reg [iM 23 1,iM 24 5,iR 25 (.call 173) [(.t 23),(.t 24)],iR 26 (.p (.un .not)) [(.t 25)]]) (iK [0,1,6,26] (.cond (.t 26) (iK [0] (.exit 0)) .skip))) (iK [0,1,6] (.reg [iM 27 0,iM 28 0,iR 29 (.p .lenS) [(.t 28)],iM 30 6,iR 31 (iB .sub) [(.t 29),(.t 30)],iR 32 (.p (.strSlice false true)) [(.t 27),(.t 31)],iM 0 32]))))))))))))) (iK [0] (.seq (.reg [iM 33 0,iM 4 33]) (iK [4] (iK [4] .ret))))))),[(.t 4)]⟩
/-- internal/strconv.Itoa -/
def fn_strconv_Itoa_n146 : Fun := ⟨1,(.seq (.reg [iR 2 (.p .mv) [(.c (.str []))]]) (iK [0] (.seq (.reg [iM 3 0,iR 4 (.call 176) [(.t 3),(iC 10)],iM 2 4]) (iK [2] (iK [2] .ret))))),[(.t 2)]⟩
/-- math/bits.Len64 -/
def fn_bits_Len64 : Fun := ⟨1,(.seq (.reg [iR 2 (.p .mv) [(iC 0)]]) (iK [0,2] (.seq (.seq (.reg [iM 3 0,iR 4 (iB .geq) [(.t 3),(.c (.int .u64 (.ofNat 4294967296)))]]) (iK [0,2,4] (.cond (.t 4) (.seq (.reg [iM 5 0,iR 6 (iB .shr) [(.t 5),(.c (.int .u64 (.ofNat 32)))],iM 0 6]) (iK [0] (.reg [iR 2 (.p .mv) [(iC 32)]]))) .skip))) (iK [0,2] (.seq (.seq (.reg [iM 7 0,iR 8 (iB .geq) [(.t 7),(.c (.int .u64 (.ofNat 65536)))]]) (iK [0,2,8] (.cond (.t 8) (.seq (.reg [iM 9 0,iR 10 (iB .shr) [(.t 9),(.c (.int .u64 (.ofNat 16)))],iM 0 10]) (iK [0,2] (.reg [iM 11 2,iR 12 (iB .add) [(.t 11),(iC 16)],iM 2 12]))) .skip)))
    (iK [0,2] (.seq (.seq (.reg [iM 13 0,iR 14 (iB .geq) [(.t 13),(.c (.int .u64 (.ofNat 256)))]]) (iK [0,2,14] (.cond (.t 14) (.seq (.reg [iM 15 0,iR 16 (iB .shr) [(.t 15),(.c (.int .u64 (.ofNat 8)))],iM 0 16]) (iK [0,2] (.reg [iM 17 2,iR 18 (iB .add) [(.t 17),(iC 8)],iM 2 18]))) .skip))) (iK [0,2] (.seq (.reg [iM 19 2,iM 20 0,iR 21 (.p (.toInt .u8)) [(.t 20)],
    iR 22 (.p .strIndex) [(.c (.str (bs [0,1,2,2,3,3,3,3,4,4,4,4,4,4,4,4,5,5,5,5,5,5,5,5,5,5,5,5,5,5,5,5,6,6,6,6,6,6,6,6,6,6,6,6,6,6,6,6,6,6,6,6,6,6,6,6,6,6,6,6,6,6,6,6,7,7,7,7,7,7,7,7,7,7,7,7,7,7,7,7,7,7,7,7,7,7,7,7,7,7,7,7,7,7,7,7,7,7,7,7,7,7,7,7,7,7,7,7,7,7,7,7,7,7,7,7,7,7,7,7,7,7,7,7,7,7,7,7,8,8,8,8,8,8,8,8,8,8,8,8,8,8,8,8,8,8,8,8,8,8,8,8,8,8,8,8,8,8,8,8,8,8,8,8,8,8,8,8,8,8,8,8,8,8,8,8,8,8,8,8,8,8,8,8,8,8,8,8,8,8,8,8,8,8,8,8,8,8,8,8,8,8,8,8,8,8,8,8,8,8,8,8,8,8,8,8,8,8,8,8,8,8,8,8,8,8,8,8,8,8,8,8,8,8,8,8,8,8,8,8,8,8,8,8,8,8,8,8,8,8,8,8,8,8,8,8]))),(.t 21)],iR 23 (.p (.toInt .i64)) [(.t 22)],
    iR 24 (iB .add) [(.t 19),(.t 23)],iM 2 24]) (iK [2] (iK [2] .ret))))))))))),[(.t 2)]⟩
/-- ostiary/ostiaryref1.Percent -/
def fn_ref1_Percent : Fun := ⟨2,(.seq (.reg [iR 4 (.p .mv) [(.c (.str []))]]) (iK [0,1] (.seq (.reg [iR 5 (.p .mv) [(.c (.str []))]]) (iK [0,1,5] (.seq (.seq (.reg [iR 6 (.p .mv) [(iC 0)]]) (iK [0,1,5,6] (.block 0 (.loop (iK [0,1,5,6] (.seq (.seq (.reg [iM 7 6,iM 8 0,iR 9 (.p .lenS) [(.t 8)],iR 10 (iB .lss) [(.t 7),(.t 9)]]) (iK [0,1,5,6,10] (.cond (.t 10) .skip (iK [5] (.exit 0))))) (iK [0,1,5,6] (.seq (.block 1 (.seq (.reg [iM 13 0,iM 14 6,iR 15 (.p .strIndex) [(.t 13),(.t 14)],iM 16 1,iR 17 (.call 185) [(.t 15),(.t 16)]]) (iK [0,1,5,6,17] (.cond (.t 17) (.reg [iM 18 5,iM 19 0,iM 20 6,iR 21 (.p .strIndex) [(.t 19),(.t 20)],iR 22 (.call 186) [(.t 21)],
    iR 23 (iB .add) [(.t 18),(.t 22)],iM 5 23]) (.reg [iM 24 5,iM 25 0,iM 26 6,iM 27 6,iR 28 (iB .add) [(.t 27),(iC 1)],iR 29 (.p (.strSlice true true)) [(.t 25),(.t 26),(.t 28)],iR 30 (iB .add) [(.t 24),(.t 29)],iM 5 30]))))) (iK [0,1,5,6] (.reg [iM 11 6,iR 12 (iB .add) [(.t 11),(iC 1)],iM 6 12])))))))))) (iK [5] (.seq (.reg [iM 31 5,iM 4 31]) (iK [4] (iK [4] .ret))))))))),[(.t 4)]⟩
/-- ostiary/ostiaryref3.far -/
def fn_ref3_far : Fun := ⟨2,(.seq (.reg [iR 4 (.p .mv) [(iC 0)]]) (iK [0,1] (.seq (.reg [iM 9 1,iR 10 (.call 166) [(.t 9),(iU 47),(iU 63)],iM 8 10,iR 11 (.p (.extract 0)) [(.t 8)],iR 12 (.p (.extract 1)) [(.t 8)],iM 5 11,iM 6 12]) (iK [0,5,6] (.seq (.reg [iM 13 0,iM 14 5,iR 15 (.call 187) [(.t 13),(.t 14)],iM 7 15]) (iK [0,6,7] (.seq (.seq (.reg [iM 16 7,iR 17 (iB .neq) [(.t 16),(iC 0)]]) (iK [0,6,7,17] (.cond (.t 17) (.seq (.reg [iM 18 7,iM 4 18]) (iK [4] (iK [4] .ret))) .skip))) (iK [0,6] (.seq (.reg [iM 19 0,iM 20 6,iR 21 (.call 165) [(.t 19),(.t 20)]])
    (iK [] (.seq (.reg [iR 4 (.p .mv) [(iC 0)]]) (iK [4] (iK [4] .ret))))))))))))),[(.t 4)]⟩
/-- ostiary/ostiaryref3.over -/
def fn_ref3_over : Fun := ⟨1,(.seq (.reg [iR 2 (.p .mv) [(.c (.str []))]]) (iK [0] (.seq (.block 0 (.loop (iK [0] (.seq (.seq (.reg [iM 3 0,iR 4 (.p .lenS) [(.t 3)],iR 5 (iB .gtr) [(.t 4),(iC 0)],iM 6 5,iN 7 6 true 0,iG 8 6 true (.p .strIndex) [(.t 7),(iC 0)],iG 9 6 true (iB .eql) [(.t 8),(iU 47)],iR 10 (.p .pick) [(.t 6),(.t 9),(.c (.bool false))]]) (iK [0,10] (.cond (.t 10) .skip (iK [0] (.exit 0))))) (iK [0] (.block 1 (.reg [iM 11 0,iR 12 (.p (.strSlice true false)) [(.t 11),(iC 1)],iM 0 12]))))))) (iK [0] (.seq (.reg [iM 13 0,iM 2 13]) (iK [2] (iK [2] .ret))))))),[(.t 2)]⟩
/-- ostiary/ostiaryref3.slashes -/
def fn_ref3_slashes : Fun := ⟨1,(.seq (.reg [iR 2 (.p .mv) [(.c (.str []))]]) (iK [0] (.seq (.reg [iM 5 0,iR 6 (.e .strBytes) [(.t 5)],iM 3 6]) (iK [3] (.seq (.seq (.reg [iR 4 (.p .mv) [(iC 0)]]) (iK [3,4] (.block 0 (.loop (iK [3,4] (.seq (.seq (.reg [iM 7 4,iM 8 3,iR 9 (.p .len) [(.t 8)],iR 10 (iB .lss) [(.t 7),(.t 9)],iM 11 10,iN 12 11 true 3,iN 13 11 true 4,iG 14 11 true (.p (.slIdx 1)) [(.t 12),(.t 13)],iG 15 11 true (.l (.load none)) [(.t 14)],iG 16 11 true (iB .neq) [(.t 15),(iU 63)],iR 17 (.p .pick) [(.t 11),(.t 16),(.c (.bool false))]]) (iK [3,4,17] (.cond (.t 17) .skip (iK [3] (.exit 0))))) (iK [3,4] (.seq (.block 1 (.seq (.reg [iM 20 3,
    iM 21 4,iR 22 (.p (.slIdx 1)) [(.t 20),(.t 21)],iR 23 (.l (.load none)) [(.t 22)],iR 24 (iB .eql) [(.t 23),(iU 92)]]) (iK [3,4,24] (.cond (.t 24) (.reg [iM 25 3,iM 26 4,iR 27 (.p (.slIdx 1)) [(.t 25),(.t 26)],⟨none,none,(.e (.store 1)),[(.t 27),(iU 47)],none⟩]) .skip)))) (iK [3,4] (.reg [iM 18 4,iR 19 (iB .add) [(.t 18),(iC 1)],iM 4 19])))))))))) (iK [3] (.seq (.reg [iM 28 3,iR 29 (.l .bytesStr) [(.t 28)],iM 2 29]) (iK [2] (iK [2] .ret))))))))),[(.t 2)]⟩
/-- ostiary/ostiaryref3.rest -/
def fn_ref3_rest : Fun := ⟨2,(.seq (.reg [iM 7 1,iR 8 (.call 166) [(.t 7),(iU 63),(iU 63)],iM 6 8,iR 9 (.p (.extract 0)) [(.t 6)],iR 10 (.p (.extract 1)) [(.t 6)],iM 4 9,iM 5 10]) (iK [0,1,4] (.seq (.reg [iM 11 0,iM 12 1,iR 13 (.call 167) [(.t 11),(.t 12)]]) (iK [0,4] (.block 0 (.seq (.reg [iM 20 4,iR 21 (iB .eql) [(.t 20),(.c (.str []))],iM 22 21,iN 23 22 true 0,iG 24 22 true (.p .nilck) [(.t 23)],iG 25 22 true (.p (.fieldAddr 0)) [(.t 24)],iG 26 22 true (.l (.load none)) [(.t 25)],iG 27 22 true (.call 90) [(.t 26)],iR 28 (.p .pick) [(.t 22),(.t 27),(.c (.bool false))],iM 19 28]) (iK [0,4,19] (.cond (.t 19) (.reg [iM 29 0,
    iR 30 (.e (.buildSlice 1 1 [(.str [])] [(0,1)])) [(.c (.str []))],iR 31 (.p .nilck) [(.t 29)],iR 32 (.p (.fieldAddr 7)) [(.t 31)],⟨none,none,(.e (.store 1)),[(.t 32),(.t 30)],none⟩]) (.seq (.reg [iM 34 4,iR 35 (iB .eql) [(.t 34),(.c (.str []))],iM 33 35]) (iK [0,4,33] (.cond (.t 33) (.reg [iM 36 0,iR 37 (.p .nilck) [(.t 36)],iR 38 (.p (.fieldAddr 7)) [(.t 37)],⟨none,none,(.e (.store 1)),[(.t 38),(.c .nils)],none⟩]) (.seq (.reg [iM 40 4,iR 41 (.p .strIndex) [(.t 40),(iC 0)],iR 42 (iB .eql) [(.t 41),(iU 47)],iM 39 42]) (iK [0,4,39] (.cond (.t 39) (.reg [iM 43 0,iM 44 4,iR 45 (.p (.strSlice true false)) [(.t 44),(iC 1)],
    iR 46 (.call 188) [(.c .nils),(.t 45)],iR 47 (.p .nilck) [(.t 43)],iR 48 (.p (.fieldAddr 7)) [(.t 47)],⟨none,none,(.e (.store 1)),[(.t 48),(.t 46)],none⟩]) (.reg [iM 14 0,iM 15 4,iR 16 (.call 188) [(.c .nils),(.t 15)],iR 17 (.p .nilck) [(.t 14)],iR 18 (.p (.fieldAddr 7)) [(.t 17)],⟨none,none,(.e (.store 1)),[(.t 18),(.t 16)],none⟩]))))))))))))))),[]⟩
/-- ostiary/ostiaryref3.ahead -/
def fn_ref3_ahead : Fun := ⟨3,(.seq (.reg [iR 6 (.p .mv) [(.c (.str []))],iR 7 (.p .mv) [(.c (.str []))]]) (iK [0,1,2] (.seq (.seq (.reg [iR 8 (.p .mv) [(iC 0)]]) (iK [0,1,2,8] (.block 0 (.loop (iK [0,1,2,8] (.seq (.seq (.reg [iM 9 8,iM 10 0,iR 11 (.p .lenS) [(.t 10)],iR 12 (iB .lss) [(.t 9),(.t 11)]]) (iK [0,1,2,8,12] (.cond (.t 12) .skip (iK [0] (.exit 0))))) (iK [0,1,2,8] (.seq (.block 1 (.seq (.reg [iM 15 0,iM 16 8,iR 17 (.p .strIndex) [(.t 15),(.t 16)],iM 18 1,iR 19 (iB .eql) [(.t 17),(.t 18)],iM 20 19,iN 21 20 false 0,iN 22 20 false 8,iG 23 20 false (.p .strIndex) [(.t 21),(.t 22)],iN 24 20 false 2,
    iG 25 20 false (iB .eql) [(.t 23),(.t 24)],iR 26 (.p .pick) [(.t 20),(.c (.bool true)),(.t 25)]]) (iK [0,1,2,8,26] (.cond (.t 26) (.seq (.draw [iM 27 0,iM 28 8,iR 29 (.p (.strSlice false true)) [(.t 27),(.t 28)],iM 30 0,iM 31 8,iR 32 (.p (.strSlice true false)) [(.t 30),(.t 31)],iM 6 29,iM 7 32]) (iK [6,7] (iK [6,7] .ret))) .skip)))) (iK [0,1,2,8] (.reg [iM 13 8,iR 14 (iB .add) [(.t 13),(iC 1)],iM 8 14])))))))))) (iK [0] (.seq (.reg [iM 33 0,iM 6 33,iR 7 (.p .mv) [(.c (.str []))]]) (iK [6,7] (iK [6,7] .ret))))))),[(.t 6),(.t 7)]⟩
/-- ostiary/ostiaryref3.query -/
def fn_ref3_query : Fun := ⟨2,(.seq (.reg [iM 9 1,iR 10 (.call 107) [(.t 9),(iU 63)],iM 8 10,iR 11 (.p (.extract 0)) [(.t 8)],iR 12 (.p (.extract 1)) [(.t 8)],iR 13 (.p (.extract 2)) [(.t 8)],iM 4 11,iM 5 12,iM 6 13]) (iK [0,5,6] (.seq (.seq (.reg [iM 14 6,iR 15 (.p (.un .not)) [(.t 14)]]) (iK [0,5,15] (.cond (.t 15) (iK [] .ret) .skip))) (iK [0,5] (.seq (.reg [iM 16 0,iR 17 (.p .nilck) [(.t 16)],iR 18 (.p (.fieldAddr 10)) [(.t 17)],⟨none,none,(.e (.store 1)),[(.t 18),(.c (.bool true))],none⟩]) (iK [0,5] (.seq (.reg [iR 7 (.p .mv) [(iC 3)]]) (iK [0,5,7] (.seq (.seq (.reg [iM 19 0,iR 20 (.p .nilck) [(.t 19)],iR 21 (.p (.fieldAddr 0)) [(.t 20)],
    iR 22 (.l (.load none)) [(.t 21)],iR 23 (.call 90) [(.t 22)]]) (iK [0,5,7,23] (.cond (.t 23) (.reg [iR 7 (.p .mv) [(iC 4)]]) .skip))) (iK [0,5,7] (.reg [iM 24 0,iM 25 5,iM 26 7,iR 27 (.call 161) [(.t 25),(.t 26)],iR 28 (.p .nilck) [(.t 24)],iR 29 (.p (.fieldAddr 8)) [(.t 28)],⟨none,none,(.e (.store 1)),[(.t 29),(.t 27)],none⟩]))))))))))),[]⟩
/-- internal/stringslite.Index -/
def fn_stringslite_Index : Fun := ⟨2,(.seq (.reg [iR 4 (.p .mv) [(iC 0)]]) (iK [0,1] (.seq (.reg [iM 14 1,iR 15 (.p .lenS) [(.t 14)],iM 5 15]) (iK [0,1,5] (.seq (.block 0 (.seq (.reg [iM 17 5,iR 18 (iB .eql) [(.t 17),(iC 0)],iM 19 18,iN 20 19 false 1,iN 21 19 false 0,iG 22 19 false (iB .eql) [(.t 20),(.t 21)],iR 23 (.p .pick) [(.t 19),(.c (.bool true)),(.t 22)],iM 16 23]) (iK [0,1,5,16] (.cond (.t 16) (.seq (.reg [iR 4 (.p .mv) [(iC 0)]]) (iK [4] (iK [4] .ret))) (.seq (.reg [iM 25 5,iR 26 (iB .eql) [(.t 25),(iC 1)],iM 24 26]) (iK [0,1,5,24] (.cond (.t 24) (.seq (.reg [iM 27 0,
    iM 28 1,iR 29 (.p .strIndex) [(.t 28),(iC 0)],iR 30 (.call 145) [(.t 27),(.t 29)],iM 4 30]) (iK [4] (iK [4] .ret))) (.seq (.reg [iM 32 5,iM 33 0,iR 34 (.p .lenS) [(.t 33)],iR 35 (iB .geq) [(.t 32),(.t 34)],iM 31 35]) (iK [0,1,5,31] (.cond (.t 31) (.seq (.reg [iR 4 (.p .mv) [(.c (.int .i64 (.negSucc 0)))]]) (iK [4] (iK [4] .ret))) (.seq (.reg [iM 37 5,iR 38 (.l (.load none)) [(.c (.ptr 0 0))],iR 39 (iB .leq) [(.t 37),(.t 38)],iM 40 39,iN 41 40 true 0,iG 42 40 true (.p .lenS) [(.t 41)],iG 43 40 true (iB .leq) [(.t 42),(iC 64)],iR 44 (.p .pick) [(.t 40),(.t 43),(.c (.bool false))],iM 36 44]) (iK [0,1,5,36] (.cond (.t 36) (.seq .bad
    (iK [4] (iK [4] .ret))) .skip))))))))))))) (iK [0,1,5] (.seq (.reg [iM 48 1,iR 49 (.p .strIndex) [(.t 48),(iC 0)],iM 6 49]) (iK [0,1,5,6] (.seq (.reg [iM 50 1,iR 51 (.p .strIndex) [(.t 50),(iC 1)],iM 7 51]) (iK [0,1,5,6,7] (.seq (.reg [iR 8 (.p .mv) [(iC 0)]]) (iK [0,1,5,6,7,8] (.seq (.reg [iM 52 0,iR 53 (.p .lenS) [(.t 52)],iM 54 5,iR 55 (iB .sub) [(.t 53),(.t 54)],iR 56 (iB .add) [(.t 55),(iC 1)],iM 9 56]) (iK [0,1,5,6,7,8,9] (.seq (.reg [iR 10 (.p .mv) [(iC 0)]]) (iK [0,1,5,6,7,8,9,10] (.seq (.block 1 (.loop (iK [0,1,5,6,7,8,9,10] (.seq (.seq (.reg [iM 57 8,
    iM 58 9,iR 59 (iB .lss) [(.t 57),(.t 58)]]) (iK [0,1,5,6,7,8,9,10,59] (.cond (.t 59) .skip (iK [] (.exit 1))))) (iK [0,1,5,6,7,8,9,10] (.block 2 (.seq (.seq (.reg [iM 60 0,iM 61 8,iR 62 (.p .strIndex) [(.t 60),(.t 61)],iM 63 6,iR 64 (iB .neq) [(.t 62),(.t 63)]]) (iK [0,1,5,6,7,8,9,10,64] (.cond (.t 64) (.seq (.reg [iM 65 0,iM 66 8,iR 67 (iB .add) [(.t 66),(iC 1)],iM 68 9,iR 69 (.p (.strSlice true true)) [(.t 65),(.t 67),(.t 68)],iM 70 6,iR 71 (.call 145) [(.t 69),(.t 70)],iM 11 71]) (iK [0,1,5,6,7,8,9,10,11] (.seq (.seq (.reg [iM 72 11,iR 73 (iB .lss) [(.t 72),(iC 0)]])
    (iK [0,1,5,6,7,8,9,10,11,73] (.cond (.t 73) (.seq (.reg [iR 4 (.p .mv) [(.c (.int .i64 (.negSucc 0)))]]) (iK [4] (iK [4] .ret))) .skip))) (iK [0,1,5,6,7,8,9,10,11] (.reg [iM 74 8,iM 75 11,iR 76 (iB .add) [(.t 75),(iC 1)],iR 77 (iB .add) [(.t 74),(.t 76)],iM 8 77]))))) .skip))) (iK [0,1,5,6,7,8,9,10] (.seq (.seq (.reg [iM 78 0,iM 79 8,iR 80 (iB .add) [(.t 79),(iC 1)],iR 81 (.p .strIndex) [(.t 78),(.t 80)],iM 82 7,iR 83 (iB .eql) [(.t 81),(.t 82)],iM 84 83,iN 85 84 true 0,iN 86 84 true 8,iN 87 84 true 8,iN 88 84 true 5,iG 89 84 true (iB .add) [(.t 87),(.t 88)],
    iG 90 84 true (.p (.strSlice true true)) [(.t 85),(.t 86),(.t 89)],iN 91 84 true 1,iG 92 84 true (iB .eql) [(.t 90),(.t 91)],iR 93 (.p .pick) [(.t 84),(.t 92),(.c (.bool false))]]) (iK [0,1,5,6,7,8,9,10,93] (.cond (.t 93) (.seq (.reg [iM 94 8,iM 4 94]) (iK [4] (iK [4] .ret))) .skip))) (iK [0,1,5,6,7,8,9,10] (.seq (.reg [iM 95 8,iR 96 (iB .add) [(.t 95),(iC 1)],iM 8 96]) (iK [0,1,5,6,7,8,9,10] (.seq (.reg [iM 97 10,iR 98 (iB .add) [(.t 97),(iC 1)],iM 10 98]) (iK [0,1,5,6,7,8,9,10] (.seq (.reg [iM 99 5,iR 100 (.l (.load none)) [(.c (.ptr 0 0))],iR 101 (iB .leq) [(.t 99),(.t 100)],iM 102 101,
    iN 103 102 true 10,iN 104 102 true 8,iG 105 102 true (.call 190) [(.t 104)],iG 106 102 true (iB .gtr) [(.t 103),(.t 105)],iR 107 (.p .pick) [(.t 102),(.t 106),(.c (.bool false))]]) (iK [0,1,5,6,7,8,9,10,107] (.cond (.t 107) (.seq .bad (iK [8,12] (.seq (.seq (.reg [iM 113 12,iR 114 (iB .geq) [(.t 113),(iC 0)]]) (iK [8,12,114] (.cond (.t 114) (.seq (.reg [iM 115 12,iM 116 8,iR 117 (iB .add) [(.t 115),(.t 116)],iM 4 117]) (iK [4] (iK [4] .ret))) .skip))) (iK [] (.seq (.reg [iR 4 (.p .mv) [(.c (.int .i64 (.negSucc 0)))]]) (iK [4] (iK [4] .ret))))))) (.seq (.reg [iM 118 5,iR 119 (.l (.load none)) [(.c (.ptr 0 0))],iR 120 (iB .gtr) [(.t 118),(.t 119)],
    iM 121 120,iN 122 121 true 10,iN 123 121 true 8,iG 124 121 true (iB .shr) [(.t 123),(.c (.int .u64 (.ofNat 4)))],iG 125 121 true (iB .add) [(iC 4),(.t 124)],iG 126 121 true (iB .geq) [(.t 122),(.t 125)],iR 127 (.p .pick) [(.t 121),(.t 126),(.c (.bool false))],iM 128 127,iN 129 128 true 8,iN 130 128 true 9,iG 131 128 true (iB .lss) [(.t 129),(.t 130)],iR 132 (.p .pick) [(.t 128),(.t 131),(.c (.bool false))]]) (iK [0,1,5,6,7,8,9,10,132] (.cond (.t 132) (.seq (.reg [iM 133 0,iM 134 8,iR 135 (.p (.strSlice true false)) [(.t 133),(.t 134)],iM 136 1,iR 137 (.call 191) [(.t 135),(.t 136)],iM 13 137])
    (iK [8,13] (.seq (.seq (.reg [iM 138 13,iR 139 (iB .lss) [(.t 138),(iC 0)]]) (iK [8,13,139] (.cond (.t 139) (.seq (.reg [iR 4 (.p .mv) [(.c (.int .i64 (.negSucc 0)))]]) (iK [4] (iK [4] .ret))) .skip))) (iK [8,13] (.seq (.reg [iM 140 8,iM 141 13,iR 142 (iB .add) [(.t 140),(.t 141)],iM 4 142]) (iK [4] (iK [4] .ret))))))) .skip)))))))))))))))))))) (iK [] (.seq (.reg [iR 4 (.p .mv) [(.c (.int .i64 (.negSucc 0)))]]) (iK [4] (iK [4] .ret))))))))))))))))))))),[(.t 4)]⟩
def s_stringslite_Index_j0 (call : CallK) (N : Nat) (q : KV) (st : St) (τ : Tape) : Ans := match st with
  | ⟨fr,H⟩ => q (.int .i64 (.negSucc 0)) H τ
def s_stringslite_Index_j2 (call : CallK) (N : Nat) (k : KC) (st : St) (τ : Tape) : Ans := match st with
  | ⟨fr,H⟩ => getK fr 0 fun t0 => getK fr 1 fun t1 => getK fr 5 fun t5 => getK fr 6 fun t6 => getK fr 7 fun t7 => getK fr 8 fun t8 => getK fr 9 fun t9 => getK fr 10 fun t10 => binK .add t8 (.int .i64 (.ofNat 1)) fun v39 => someK (pStrIndex [t0,v39]) fun v40 => binK .eql v40 t7 fun v41 => gK v41 true (fun q' => q' t0 H τ) H τ fun v42 H43 τ44 => gK v41 true (fun q' => q' t8 H43 τ44) H43 τ44 fun v45 H46 τ47 => gK v41 true (fun q' => q' t8 H46 τ47) H46 τ47 fun v48 H49 τ50 => gK v41 true (fun q' => q' t5 H49 τ50) H49 τ50 fun v51 H52 τ53 => gK v41 true (fun q' => binK .add v48 v51 fun v => q' v H52 τ53) H52 τ53 fun v54 H55 τ56 => gK v41 true (fun q' => someK (pStrSlice true true [v42,v45,v54]) fun v => q' v H55 τ56) H55 τ56 fun v57 H58 τ59 => gK v41 true (fun q' => q' t1 H58 τ59) H58 τ59 fun v60 H61 τ62 =>
    gK v41 true (fun q' => binK .eql v57 v60 fun v => q' v H61 τ62) H61 τ62 fun v63 H64 τ65 => someK (pPick [v41,v63,(.bool false)]) fun v66 => condK v66 (k .ret ⟨(T.set .leaf 4 t8),H64⟩ τ65) (binK .add t8 (.int .i64 (.ofNat 1)) fun v67 => binK .add t10 (.int .i64 (.ofNat 1)) fun v68 => someK (lLoad1 [(.ptr 0 0)] H64) fun v69 => binK .leq t5 v69 fun v70 => gK v70 true (fun q' => q' v68 H64 τ65) H64 τ65 fun v71 H72 τ73 => gK v70 true (fun q' => q' v67 H72 τ73) H72 τ73 fun v74 H75 τ76 => gK v70 true (fun q' => call f_bytealg_Cutover [v74] H75 τ76 q') H75 τ76 fun v77 H78 τ79 => gK v70 true (fun q' => binK .gtr v71 v77 fun v => q' v H78 τ79) H78 τ79 fun v80 H81 τ82 => someK (pPick [v70,v80,(.bool false)]) fun v83 => condK v83 (none) (someK (lLoad1 [(.ptr 0 0)] H81) fun v84 => binK .gtr t5 v84 fun v85 => gK v85 true (fun q' => q' v68 H81 τ82) H81 τ82 fun v86 H87 τ88 =>
    gK v85 true (fun q' => q' v67 H87 τ88) H87 τ88 fun v89 H90 τ91 => gK v85 true (fun q' => binK .shr v89 (.int .u64 (.ofNat 4)) fun v => q' v H90 τ91) H90 τ91 fun v92 H93 τ94 => gK v85 true (fun q' => binK .add (.int .i64 (.ofNat 4)) v92 fun v => q' v H93 τ94) H93 τ94 fun v95 H96 τ97 => gK v85 true (fun q' => binK .geq v86 v95 fun v => q' v H96 τ97) H96 τ97 fun v98 H99 τ100 => someK (pPick [v85,v98,(.bool false)]) fun v101 => gK v101 true (fun q' => q' v67 H99 τ100) H99 τ100 fun v102 H103 τ104 => gK v101 true (fun q' => q' t9 H103 τ104) H103 τ104 fun v105 H106 τ107 => gK v101 true (fun q' => binK .lss v102 v105 fun v => q' v H106 τ107) H106 τ107 fun v108 H109 τ110 => someK (pPick [v101,v108,(.bool false)]) fun v111 => condK v111 (someK (pStrSlice true false [t0,v67]) fun v112 => call f_bytealg_IndexRabinKarp_string [v112,t1] H109 τ110 fun v113 H114 τ115 =>
    binK .lss v113 (.int .i64 (.ofNat 0)) fun v116 => condK v116 (k .ret ⟨(T.set .leaf 4 (.int .i64 (.negSucc 0))),H114⟩ τ115) (binK .add v67 v113 fun v117 => k .ret ⟨(T.set .leaf 4 v117),H114⟩ τ115)) (k .normal ⟨(T.set (T.set (T.set (T.set (T.set (T.set (T.set (T.set (T.set .leaf 0 t0) 1 t1) 5 t5) 6 t6) 7 t7) 8 v67) 9 t9) 10 v68) 132 v111),H109⟩ τ110)))
def s_stringslite_Index_l1 (call : CallK) (N : Nat) (st : St) (τ : Tape) (k : KC) : Ans := match st with
  | ⟨fr,H⟩ => getK fr 0 fun t0 => getK fr 1 fun t1 => getK fr 5 fun t5 => getK fr 6 fun t6 => getK fr 7 fun t7 => getK fr 8 fun t8 => getK fr 9 fun t9 => getK fr 10 fun t10 => binK .lss t8 t9 fun v36 => condK v36 (someK (pStrIndex [t0,t8]) fun v37 => binK .neq v37 t6 fun v38 => condK v38 (binK .add t8 (.int .i64 (.ofNat 1)) fun v118 => someK (pStrSlice true true [t0,v118,t9]) fun v119 => call f_stringslite_IndexByte [v119,t6] H τ fun v120 H121 τ122 => binK .lss v120 (.int .i64 (.ofNat 0)) fun v123 => condK v123 (k .ret ⟨(T.set .leaf 4 (.int .i64 (.negSucc 0))),H121⟩ τ122) (binK .add v120 (.int .i64 (.ofNat 1)) fun v124 => binK .add t8 v124 fun v125 =>
    s_stringslite_Index_j2 call N k ⟨(T.set (T.set (T.set (T.set (T.set (T.set (T.set (T.set (T.set (T.set (T.set (T.set (T.set (T.set .leaf 0 t0) 1 t1) 5 t5) 6 t6) 7 t7) 8 t8) 9 t9) 10 t10) 11 v120) 74 t8) 75 v120) 76 v124) 77 v125) 8 v125),H121⟩ τ122)) (s_stringslite_Index_j2 call N k ⟨(T.set (T.set (T.set (T.set (T.set (T.set (T.set (T.set (T.set .leaf 0 t0) 1 t1) 5 t5) 6 t6) 7 t7) 8 t8) 9 t9) 10 t10) 64 v38),H⟩ τ)) (k (.exit 1) ⟨.leaf,H⟩ τ)
def s_stringslite_Index (call : CallK) (N : Nat) (a0 a1 : V) (H : Heap) (τ : Tape) (q : KV) : Ans := someK (pLenS [a1]) fun v0 => binK .eql v0 (.int .i64 (.ofNat 0)) fun v1 => gK v1 false (fun q' => q' a1 H τ) H τ fun v2 H3 τ4 => gK v1 false (fun q' => q' a0 H3 τ4) H3 τ4 fun v5 H6 τ7 => gK v1 false (fun q' => binK .eql v2 v5 fun v => q' v H6 τ7) H6 τ7 fun v8 H9 τ10 => someK (pPick [v1,(.bool true),v8]) fun v11 => condK v11 (q (.int .i64 (.ofNat 0)) H9 τ10) (binK .eql v0 (.int .i64 (.ofNat 1)) fun v12 => condK v12 (someK (pStrIndex [a1,(.int .i64 (.ofNat 0))]) fun v13 => call f_stringslite_IndexByte [a0,v13] H9 τ10 fun v14 H15 τ16 => q v14 H15 τ16) (someK (pLenS [a0]) fun v17 => binK .geq v0 v17 fun v18 => condK v18 (q (.int .i64 (.negSucc 0)) H9 τ10) (someK (lLoad1 [(.ptr 0 0)] H9) fun v19 => binK .leq v0 v19 fun v20 => gK v20 true (fun q' => q' a0 H9 τ10) H9 τ10 fun v21 H22 τ23 =>
    gK v20 true (fun q' => someK (pLenS [v21]) fun v => q' v H22 τ23) H22 τ23 fun v24 H25 τ26 => gK v20 true (fun q' => binK .leq v24 (.int .i64 (.ofNat 64)) fun v => q' v H25 τ26) H25 τ26 fun v27 H28 τ29 => someK (pPick [v20,v27,(.bool false)]) fun v30 => condK v30 (none) (someK (pStrIndex [a1,(.int .i64 (.ofNat 0))]) fun v31 => someK (pStrIndex [a1,(.int .i64 (.ofNat 1))]) fun v32 => someK (pLenS [a0]) fun v33 => binK .sub v33 v0 fun v34 => binK .add v34 (.int .i64 (.ofNat 1)) fun v35 => loopK (s_stringslite_Index_l1 call N) N ⟨(T.set (T.set (T.set (T.set (T.set (T.set (T.set (T.set .leaf 0 a0) 1 a1) 5 v0) 6 v31) 7 v32) 8 (.int .i64 (.ofNat 0))) 9 v35) 10 (.int .i64 (.ofNat 0))),H28⟩ τ29 (blockK 1 (seqK (s_stringslite_Index_j0 call N q) (endK [(.t 4)] q)))))))
theorem s_stringslite_Index_eq (call : CallK) (N : Nat) (a0 a1 : V) (H : Heap) (τ : Tape) (q : KV) : s_stringslite_Index call N a0 a1 H τ q = funK call N fn_stringslite_Index [a0, a1] H τ q := by kernel_rfl
def e_stringslite_Index (call : CallK) (N : Nat) (vs : List V) (H : Heap) (τ : Tape) (q : KV) : Ans := match vs with | [a0, a1] => s_stringslite_Index call N a0 a1 H τ q | _ => none
theorem e_stringslite_Index_ok : EntOk fn_stringslite_Index e_stringslite_Index := by
  intro call N vs H τ q r h
  unfold e_stringslite_Index at h
  split at h
  · rw [s_stringslite_Index_eq] at h; exact h
  · cases h
theorem e_stringslite_Index_nat : EntNat e_stringslite_Index := by
  intro c hn N vs H τ q
  unfold e_stringslite_Index
  split
  · rw [s_stringslite_Index_eq, s_stringslite_Index_eq]; exact funK_ent hn _ _ _ _ _ _
  · rfl
/-- internal/stringslite.CutPrefix -/
def fn_stringslite_CutPrefix : Fun := ⟨2,(.seq (.reg [iR 4 (.p .mv) [(.c (.str []))],iR 5 (.p .mv) [(.c (.bool false))]]) (iK [0,1] (.seq (.seq (.reg [iM 6 0,iM 7 1,iR 8 (.call 192) [(.t 6),(.t 7)],iR 9 (.p (.un .not)) [(.t 8)]]) (iK [0,1,9] (.cond (.t 9) (.seq (.reg [iM 10 0,iM 4 10,iR 5 (.p .mv) [(.c (.bool false))]]) (iK [4,5] (iK [4,5] .ret))) .skip))) (iK [0,1] (.seq (.reg [iM 11 0,iM 12 1,iR 13 (.p .lenS) [(.t 12)],iR 14 (.p (.strSlice true false)) [(.t 11),(.t 13)],iM 4 14,iR 5 (.p .mv) [(.c (.bool true))]]) (iK [4,5] (iK [4,5] .ret))))))),[(.t 4),(.t 5)]⟩
def s_stringslite_CutPrefix (call : CallK) (N : Nat) (a0 a1 : V) (H : Heap) (τ : Tape) (q : KV) : Ans := call f_stringslite_HasPrefix [a0,a1] H τ fun v0 H1 τ2 => unK .not v0 fun v3 => condK v3 (q (.tup [a0,(.bool false)]) H1 τ2) (someK (pLenS [a1]) fun v4 => someK (pStrSlice true false [a0,v4]) fun v5 => q (.tup [v5,(.bool true)]) H1 τ2)
theorem s_stringslite_CutPrefix_eq (call : CallK) (N : Nat) (a0 a1 : V) (H : Heap) (τ : Tape) (q : KV) : s_stringslite_CutPrefix call N a0 a1 H τ q = funK call N fn_stringslite_CutPrefix [a0, a1] H τ q := by kernel_rfl
def e_stringslite_CutPrefix (call : CallK) (N : Nat) (vs : List V) (H : Heap) (τ : Tape) (q : KV) : Ans := match vs with | [a0, a1] => s_stringslite_CutPrefix call N a0 a1 H τ q | _ => none
theorem e_stringslite_CutPrefix_ok : EntOk fn_stringslite_CutPrefix e_stringslite_CutPrefix := by
  intro call N vs H τ q r h
  unfold e_stringslite_CutPrefix at h
  split at h
  · rw [s_stringslite_CutPrefix_eq] at h; exact h
  · cases h
theorem e_stringslite_CutPrefix_nat : EntNat e_stringslite_CutPrefix := by
  intro c hn N vs H τ q
  unfold e_stringslite_CutPrefix
  split
  · rw [s_stringslite_CutPrefix_eq, s_stringslite_CutPrefix_eq]; exact funK_ent hn _ _ _ _ _ _
  · rfl
/-- (*strings.asciiSet).contains -/
def fn_asciiSet_contains : Fun := ⟨2,(.seq (.reg [iR 4 (.p .mv) [(.c (.bool false))]]) (iK [0,1] (.seq (.reg [iM 5 0,iM 6 1,iR 7 (.p .nilck) [(.t 5)],iR 8 (.p (.arrIdx 256 1)) [(.t 7),(.t 6)],iR 9 (.l (.load none)) [(.t 8)],iM 4 9]) (iK [4] (iK [4] .ret))))),[(.t 4)]⟩
def s_asciiSet_contains (call : CallK) (N : Nat) (a0 a1 : V) (H : Heap) (τ : Tape) (q : KV) : Ans := someK (pNilck [a0]) fun v0 => someK (pArrIdx 256 1 [v0,a1]) fun v1 => someK (lLoad1 [v1] H) fun v2 => q v2 H τ
theorem s_asciiSet_contains_eq (call : CallK) (N : Nat) (a0 a1 : V) (H : Heap) (τ : Tape) (q : KV) : s_asciiSet_contains call N a0 a1 H τ q = funK call N fn_asciiSet_contains [a0, a1] H τ q := by kernel_rfl
def e_asciiSet_contains (call : CallK) (N : Nat) (vs : List V) (H : Heap) (τ : Tape) (q : KV) : Ans := match vs with | [a0, a1] => s_asciiSet_contains call N a0 a1 H τ q | _ => none
theorem e_asciiSet_contains_ok : EntOk fn_asciiSet_contains e_asciiSet_contains := by
  intro call N vs H τ q r h
  unfold e_asciiSet_contains at h
  split at h
  · rw [s_asciiSet_contains_eq] at h; exact h
  · cases h
theorem e_asciiSet_contains_nat : EntNat e_asciiSet_contains := by
  intro c hn N vs H τ q
  unfold e_asciiSet_contains
  split
  · rw [s_asciiSet_contains_eq, s_asciiSet_contains_eq]; exact funK_ent hn _ _ _ _ _ _
  · rfl
/-- unicode/utf8.DecodeRuneInString -/
def fn_utf8_DecodeRuneInString : Fun := ⟨1,(.seq (.reg [iR 2 (.p .mv) [(.c (.int .i32 (.ofNat 0)))],iR 3 (.p .mv) [(iC 0)]]) (iK [0] (.seq (.seq (.reg [iM 4 0,iR 5 (iB .neq) [(.t 4),(.c (.str []))],iM 6 5,iN 7 6 true 0,iG 8 6 true (.p .strIndex) [(.t 7),(iC 0)],iG 9 6 true (iB .lss) [(.t 8),(iU 128)],iR 10 (.p .pick) [(.t 6),(.t 9),(.c (.bool false))]]) (iK [0,10] (.cond (.t 10) (.seq (.reg [iM 11 0,iR 12 (.p .strIndex) [(.t 11),(iC 0)],iR 13 (.p (.toInt .i32)) [(.t 12)],iM 2 13,iR 3 (.p .mv) [(iC 1)]]) (iK [2,3] (iK [2,3] .ret))) (.reg [iM 15 0,iR 16 (.call 193) [(.t 15)],iM 14 16,iR 17 (.p (.extract 0)) [(.t 14)],
    iR 18 (.p (.extract 1)) [(.t 14)],iM 2 17,iM 3 18])))) (iK [2,3] (iK [2,3] .ret))))),[(.t 2),(.t 3)]⟩
/-- strings.ContainsRune -/
def fn_strings_ContainsRune : Fun := ⟨2,(.seq (.reg [iR 4 (.p .mv) [(.c (.bool false))]]) (iK [0,1] (.seq (.reg [iM 5 0,iM 6 1,iR 7 (.call 194) [(.t 5),(.t 6)],iR 8 (iB .geq) [(.t 7),(iC 0)],iM 4 8]) (iK [4] (iK [4] .ret))))),[(.t 4)]⟩
/-- unicode/utf8.DecodeLastRuneInString -/
def fn_utf8_DecodeLastRuneInString : Fun := ⟨1,(.seq (.reg [iR 2 (.p .mv) [(.c (.int .i32 (.ofNat 0)))],iR 3 (.p .mv) [(iC 0)]]) (iK [0] (.seq (.reg [iM 7 0,iR 8 (.p .lenS) [(.t 7)],iM 4 8]) (iK [0,4] (.seq (.seq (.reg [iM 9 4,iR 10 (iB .eql) [(.t 9),(iC 0)]]) (iK [0,4,10] (.cond (.t 10) (.seq (.reg [iR 2 (.p .mv) [(.c (.int .i32 (.ofNat 65533)))],iR 3 (.p .mv) [(iC 0)]]) (iK [2,3] (iK [2,3] .ret))) .skip))) (iK [0,4] (.seq (.reg [iM 11 4,iR 12 (iB .sub) [(.t 11),(iC 1)],iM 5 12]) (iK [0,4,5] (.seq (.reg [iM 13 0,iM 14 5,iR 15 (.p .strIndex) [(.t 13),(.t 14)],iR 16 (.p (.toInt .i32)) [(.t 15)],iM 2 16])
    (iK [0,2,4,5] (.seq (.seq (.reg [iM 17 2,iR 18 (iB .lss) [(.t 17),(.c (.int .i32 (.ofNat 128)))]]) (iK [0,2,4,5,18] (.cond (.t 18) (.seq (.reg [iM 19 2,iM 2 19,iR 3 (.p .mv) [(iC 1)]]) (iK [2,3] (iK [2,3] .ret))) .skip))) (iK [0,4,5] (.seq (.reg [iM 20 4,iR 21 (iB .sub) [(.t 20),(iC 4)],iR 22 (.p .max2) [(.t 21),(iC 0)],iM 6 22]) (iK [0,4,5,6] (.seq (.seq (.reg [iM 23 5,iR 24 (iB .sub) [(.t 23),(iC 1)],iM 5 24]) (iK [0,4,5,6] (.block 0 (.loop (iK [0,4,5,6] (.seq (.seq (.reg [iM 25 5,iM 26 6,iR 27 (iB .geq) [(.t 25),(.t 26)]]) (iK [0,4,5,6,27] (.cond (.t 27) .skip
    (iK [0,4,5] (.exit 0))))) (iK [0,4,5,6] (.seq (.block 1 (.seq (.reg [iM 30 0,iM 31 5,iR 32 (.p .strIndex) [(.t 30),(.t 31)],iR 33 (.call 195) [(.t 32)]]) (iK [0,4,5,6,33] (.cond (.t 33) (iK [0,4,5] (.exit 0)) .skip)))) (iK [0,4,5,6] (.reg [iM 28 5,iR 29 (iB .sub) [(.t 28),(iC 1)],iM 5 29])))))))))) (iK [0,4,5] (.seq (.seq (.reg [iM 34 5,iR 35 (iB .lss) [(.t 34),(iC 0)]]) (iK [0,4,5,35] (.cond (.t 35) (.reg [iR 5 (.p .mv) [(iC 0)]]) .skip))) (iK [0,4,5] (.seq (.reg [iM 37 0,iM 38 5,iM 39 4,iR 40 (.p (.strSlice true true)) [(.t 37),(.t 38),(.t 39)],iR 41 (.call 172) [(.t 40)],iM 36 41,
    iR 42 (.p (.extract 0)) [(.t 36)],iR 43 (.p (.extract 1)) [(.t 36)],iM 2 42,iM 3 43]) (iK [2,3,4,5] (.seq (.seq (.reg [iM 44 5,iM 45 3,iR 46 (iB .add) [(.t 44),(.t 45)],iM 47 4,iR 48 (iB .neq) [(.t 46),(.t 47)]]) (iK [2,3,48] (.cond (.t 48) (.seq (.reg [iR 2 (.p .mv) [(.c (.int .i32 (.ofNat 65533)))],iR 3 (.p .mv) [(iC 1)]]) (iK [2,3] (iK [2,3] .ret))) .skip))) (iK [2,3] (.seq (.reg [iM 49 2,iM 50 3,iM 2 49,iM 3 50]) (iK [2,3] (iK [2,3] .ret))))))))))))))))))))))))),[(.t 2),(.t 3)]⟩
/-- internal/strconv.FormatInt -/
def fn_strconv_FormatInt : Fun := ⟨2,(.seq (.reg [iR 4 (.p .mv) [(.c (.str []))]]) (iK [0,1] (.seq (.seq (.reg [iM 10 1,iR 11 (iB .eql) [(.t 10),(iC 10)]]) (iK [0,1,11] (.cond (.t 11) (.seq (.seq (.reg [iM 12 0,iR 13 (iB .leq) [(iC 0),(.t 12)],iM 14 13,iN 15 14 true 0,iG 16 14 true (iB .lss) [(.t 15),(iC 100)],iR 17 (.p .pick) [(.t 14),(.t 16),(.c (.bool false))]]) (iK [0,17] (.cond (.t 17) (.seq (.reg [iM 18 0,iR 19 (.call 196) [(.t 18)],iM 4 19]) (iK [4] (iK [4] .ret))) .skip))) (iK [0] (.seq (.reg [iR 5 (.e (.alloc (repl 24 [(.int .u8 (.ofNat 0))]))) []]) (iK [0,5] (.seq (.reg [iM 20 0,iR 21 (.p (.toInt .u64)) [(.t 20)],iM 6 21])
    (iK [0,5,6] (.seq (.seq (.reg [iM 22 0,iR 23 (iB .lss) [(.t 22),(iC 0)]]) (iK [0,5,6,23] (.cond (.t 23) (.reg [iM 24 6,iR 25 (.p (.un .neg)) [(.t 24)],iM 6 25]) .skip))) (iK [0,5,6] (.seq (.reg [iM 26 6,iR 27 (.call 197) [(.t 26)],iM 7 27]) (iK [0,5,6,7] (.seq (.reg [iM 28 7,iR 29 (iB .add) [(iC 1),(.t 28)],iR 30 (.p (.arrSlice 24 1 true true false)) [(.t 5),(iC 1),(.t 29)],iM 31 6,iR 32 (.call 198) [(.t 30),(.t 31)]]) (iK [0,5,7] (.seq (.seq (.reg [iM 33 0,iR 34 (iB .lss) [(.t 33),(iC 0)]]) (iK [5,7,34] (.cond (.t 34) (.seq (.reg [iR 35 (.p (.arrIdx 24 1)) [(.t 5),(iC 0)],
    ⟨none,none,(.e (.store 1)),[(.t 35),(iU 45)],none⟩]) (iK [5,7] (.seq (.reg [iM 36 7,iR 37 (iB .add) [(iC 1),(.t 36)],iR 38 (.p (.arrSlice 24 1 false true false)) [(.t 5),(.t 37)],iR 39 (.l .bytesStr) [(.t 38)],iM 4 39]) (iK [4] (iK [4] .ret))))) .skip))) (iK [5,7] (.seq (.reg [iM 40 7,iR 41 (iB .add) [(iC 1),(.t 40)],iR 42 (.p (.arrSlice 24 1 true true false)) [(.t 5),(iC 1),(.t 41)],iR 43 (.l .bytesStr) [(.t 42)],iM 4 43]) (iK [4] (iK [4] .ret))))))))))))))))) .skip))) (iK [0,1] (.seq (.reg [iM 45 0,iR 46 (.p (.toInt .u64)) [(.t 45)],iM 47 1,iM 48 0,iR 49 (iB .lss) [(.t 48),(iC 0)],
    iR 50 (.call 199) [(.c .nils),(.t 46),(.t 47),(.t 49),(.c (.bool false))],iM 44 50,iR 51 (.p (.extract 0)) [(.t 44)],iR 52 (.p (.extract 1)) [(.t 44)],iM 8 51,iM 9 52]) (iK [9] (.seq (.reg [iM 53 9,iM 4 53]) (iK [4] (iK [4] .ret))))))))),[(.t 4)]⟩
/-- ostiary/ostiaryref1.In -/
def fn_ref1_In : Fun := ⟨2,(.seq (.reg [iR 4 (.p .mv) [(.c (.bool false))]]) (iK [0,1] (.seq (.reg [iM 8 0,iR 9 (iB .lss) [(.t 8),(iU 32)],iM 10 9,iN 11 10 false 0,iG 12 10 false (iB .gtr) [(.t 11),(iU 126)],iR 13 (.p .pick) [(.t 10),(.c (.bool true)),(.t 12)],iM 5 13]) (iK [0,1,5] (.seq (.reg [iR 6 (.p .mv) [(.c (.str []))]]) (iK [0,1,5,6] (.seq (.seq (.reg [iM 14 1]) (iK [0,5,6,14] (.block 0 (.seq (.reg [iR 16 (iB .eql) [(.t 14),(iC 1)],iM 15 16]) (iK [0,5,6,14,15] (.cond (.t 15) .skip (.seq (.reg [iR 18 (iB .eql) [(.t 14),(iC 2)],iM 17 18]) (iK [0,5,14,17] (.cond (.t 17)
    (.reg [iR 6 (.p .mv) [(.c (.str (bs [32,34,60,62,96])))]]) (.seq (.reg [iR 20 (iB .eql) [(.t 14),(iC 3)],iM 19 20]) (iK [0,5,14,19] (.cond (.t 19) (.reg [iR 6 (.p .mv) [(.c (.str (bs [32,34,35,60,62])))]]) (.seq (.reg [iR 22 (iB .eql) [(.t 14),(iC 4)],iM 21 22]) (iK [0,5,14,21] (.cond (.t 21) (.reg [iR 6 (.p .mv) [(.c (.str (bs [32,34,35,60,62,39])))]]) (.seq (.reg [iR 24 (iB .eql) [(.t 14),(iC 5)],iM 23 24]) (iK [0,5,14,23] (.cond (.t 23) (.reg [iR 6 (.p .mv) [(.c (.str (bs [32,34,35,60,62,63,94,96,123,125])))]]) (.seq (.reg [iR 26 (iB .eql) [(.t 14),(iC 6)],iM 25 26]) (iK [0,5,25] (.cond (.t 25)
    (.reg [iR 6 (.p .mv) [(.c (.str (bs [32,34,35,60,62,63,94,96,123,125,47,58,59,61,64,91,92,93,124])))]]) (.seq (.reg [iR 4 (.p .mv) [(.c (.bool false))]]) (iK [4] (iK [4] .ret)))))))))))))))))))))))) (iK [0,5,6] (.seq (.seq (.reg [iR 7 (.p .mv) [(iC 0)]]) (iK [0,5,6,7] (.block 1 (.loop (iK [0,5,6,7] (.seq (.seq (.reg [iM 27 7,iM 28 6,iR 29 (.p .lenS) [(.t 28)],iR 30 (iB .lss) [(.t 27),(.t 29)]]) (iK [0,5,6,7,30] (.cond (.t 30) .skip (iK [5] (.exit 1))))) (iK [0,5,6,7] (.seq (.block 2 (.reg [iM 33 5,iM 34 33,iN 35 34 false 0,iN 36 34 false 6,iN 37 34 false 7,iG 38 34 false (.p .strIndex) [(.t 36),(.t 37)],iG 39 34 false (iB .eql) [(.t 35),(.t 38)],
    iR 40 (.p .pick) [(.t 34),(.c (.bool true)),(.t 39)],iM 5 40])) (iK [0,5,6,7] (.reg [iM 31 7,iR 32 (iB .add) [(.t 31),(iC 1)],iM 7 32])))))))))) (iK [5] (.seq (.reg [iM 41 5,iM 4 41]) (iK [4] (iK [4] .ret))))))))))))),[(.t 4)]⟩
/-- ostiary/ostiaryref1.Escape -/
def fn_ref1_Escape : Fun := ⟨1,(.seq (.reg [iR 2 (.p .mv) [(.c (.str []))]]) (iK [0] (.seq (.draw [iM 3 0,iR 4 (iB .shr) [(.t 3),(.c (.int .u64 (.ofNat 4)))],iM 5 0,iR 6 (iB .shr) [(.t 5),(.c (.int .u64 (.ofNat 4)))],iR 7 (iB .add) [(.t 6),(iU 1)],iR 8 (.p (.strSlice true true)) [(.c (.str (bs [48,49,50,51,52,53,54,55,56,57,65,66,67,68,69,70]))),(.t 4),(.t 7)],iR 9 (iB .add) [(.c (.str (bs [37]))),(.t 8)],iM 10 0,iR 11 (iB .and) [(.t 10),(iU 15)],iM 12 0,iR 13 (iB .and) [(.t 12),(iU 15)],iR 14 (iB .add) [(.t 13),(iU 1)],iR 15 (.p (.strSlice true true)) [(.c (.str (bs [48,49,50,51,52,53,54,55,56,57,65,66,67,68,69,70]))),(.t 11),(.t 14)],
    iR 16 (iB .add) [(.t 9),(.t 15)],iM 2 16]) (iK [2] (iK [2] .ret))))),[(.t 2)]⟩
end Go.Am.X
