/- The abstract machine, printed functions of the program, and what they are shown to be. -/
import Derived.Test.YtfamalehnahbdaaGreatDoorBAPM5
import Derived.KernelRfl
set_option linter.unusedVariables false
namespace Go.Am.X
set_option maxRecDepth 1000000
abbrev iR (n : Nat) (o : AOp) (a : List O) : Ins := ⟨some n, none, o, a, none⟩
abbrev iG (n g : Nat) (b : Bool) (o : AOp) (a : List O) : Ins := ⟨some n, some (g, b), o, a, none⟩
abbrev f_law21_BlobApart : Nat := 6
abbrev f_blob_New : Nat := 7
abbrev f_blob_Store_Put : Nat := 9
abbrev f_law21_of : Nat := 10
abbrev f_book_Within : Nat := 11
abbrev f_law21_digits : Nat := 13
abbrev f_law21_known : Nat := 14
abbrev f_blob_Store_Read : Nat := 15
abbrev f_blob_Store_Drop : Nat := 21
abbrev f_blob_Store_Len : Nat := 25
abbrev f_headers_Value : Nat := 27
abbrev f_origin_Text : Nat := 28
abbrev f_strconv_Itoa : Nat := 29
abbrev f_slices_Clone_byte : Nat := 30
abbrev f_keep_URL : Nat := 31
abbrev f_ref4_Of : Nat := 32
abbrev f_law21_get : Nat := 33
abbrev f_strings_Cut : Nat := 34
abbrev f_blob_reply : Nat := 35
abbrev f_headers_Range : Nat := 36
abbrev f_blob_number : Nat := 37
abbrev f_ref1_Numeral : Nat := 42
abbrev f_ref1_Part : Nat := 44
abbrev f_strings_Trim : Nat := 47
abbrev f_strings_ContainsAny : Nat := 48
abbrev f_url_Own : Nat := 49
abbrev f_strconv_Itoa_n50 : Nat := 50
abbrev f_ref3_Parse : Nat := 51
abbrev f_keep_Few : Nat := 52
abbrev f_ref3_Special : Nat := 53
abbrev f_ref4_Port : Nat := 54
abbrev f_stringslite_Cut : Nat := 55
abbrev f_strings_CutPrefix : Nat := 56
abbrev f_headers_told : Nat := 57
abbrev f_strconv_FormatInt : Nat := 58
abbrev f_ref3_Own : Nat := 60
abbrev f_ref1_Begins : Nat := 61
abbrev f_ref1_Int : Nat := 62
abbrev f_strings_trimLeftByte : Nat := 63
abbrev f_strings_trimRightByte : Nat := 64
abbrev f_strings_makeASCIISet : Nat := 65
abbrev f_strings_trimLeftASCII : Nat := 66
abbrev f_strings_trimRightASCII : Nat := 67
abbrev f_strings_trimLeftUnicode : Nat := 68
abbrev f_strings_trimRightUnicode : Nat := 69
abbrev f_strings_IndexAny : Nat := 70
abbrev f_strconv_FormatInt_n71 : Nat := 71
abbrev f_ref3_split : Nat := 72
abbrev f_ref3_clean : Nat := 73
abbrev f_ref3_scheme : Nat := 74
abbrev f_ref3_full : Nat := 75
abbrev f_stringslite_Index : Nat := 76
abbrev f_stringslite_CutPrefix : Nat := 77
abbrev f_infra_Int : Nat := 78
abbrev f_ref1_Digit : Nat := 80
abbrev f_asciiSet_contains : Nat := 81
abbrev f_utf8_DecodeRuneInString : Nat := 82
abbrev f_strings_ContainsRune : Nat := 83
abbrev f_utf8_DecodeLastRuneInString : Nat := 84
abbrev f_strings_IndexRune : Nat := 85
abbrev f_strings_shouldUseASCIISet : Nat := 86
abbrev f_strconv_small : Nat := 87
abbrev f_strconv_numDigits : Nat := 88
abbrev f_strconv_formatBase10 : Nat := 89
abbrev f_strconv_formatBits : Nat := 90
abbrev f_ref1_Percent : Nat := 91
abbrev f_ref1_Lower : Nat := 92
abbrev f_ref1_Letter : Nat := 93
abbrev f_ref3_far : Nat := 94
abbrev f_ref3_over : Nat := 95
abbrev f_ref3_slashes : Nat := 96
abbrev f_ref3_rest : Nat := 97
abbrev f_ref3_ahead : Nat := 98
abbrev f_ref3_query : Nat := 99
abbrev f_stringslite_IndexByte : Nat := 100
abbrev f_bytealg_Cutover : Nat := 102
abbrev f_bytealg_IndexRabinKarp_string : Nat := 103
abbrev f_stringslite_HasPrefix : Nat := 104
abbrev f_utf8_decodeRuneInStringSlow : Nat := 105
abbrev f_utf8_RuneStart : Nat := 106
abbrev f_strings_IndexByte : Nat := 107
abbrev f_utf8_ValidRune : Nat := 108
abbrev f_strconv_log10Pow2 : Nat := 109
abbrev f_bits_Len64 : Nat := 110
abbrev f_strconv_bool2_int : Nat := 111
abbrev f_strconv_isPowerOfTwo : Nat := 112
abbrev f_bits_TrailingZeros : Nat := 113
abbrev f_ref1_In : Nat := 114
abbrev f_ref1_Escape : Nat := 115
abbrev f_ref3_authority : Nat := 116
abbrev f_ref3_path : Nat := 117
abbrev f_bytealg_hashStr_string : Nat := 119
abbrev f_bits_TrailingZeros32 : Nat := 120
abbrev f_bits_TrailingZeros64 : Nat := 121
abbrev f_ref2_Parse : Nat := 122
abbrev f_ref1_Cut : Nat := 123
abbrev f_ref3_dots : Nat := 124
abbrev f_ref1_Ends : Nat := 125
abbrev f_ref2_Six : Nat := 126
abbrev f_ref2_Text6 : Nat := 127
abbrev f_ref2_bad : Nat := 128
abbrev f_ref1_Unpercent : Nat := 129
abbrev f_ref2_Numbered : Nat := 130
abbrev f_ref2_Four : Nat := 131
abbrev f_ref2_Text4 : Nat := 132
abbrev f_ref2_pieces : Nat := 133
abbrev f_ref2_digits : Nat := 134
abbrev f_ref1_Hex : Nat := 135
abbrev f_ref2_labels : Nat := 136
abbrev f_ref2_number : Nat := 137
abbrev f_ref2_decimals : Nat := 138
/-- ostiary/ostiarylaw21.BlobApart -/
def fn_law21_BlobApart : Fun := ⟨2, (.seq (.reg [iR 4 (.p .mv) [(.c (.bool false))]]) (.keep [0, 1] (.seq (.reg [iR 15 (.call 7) [], iR 5 (.p .mv) [(.t 15)]]) (.keep [0, 1, 5] (.seq (.seq (.reg [iR 16 (.p .mv) [(.t 5)], iR 17 (.l (.peq false)) [(.t 16), (.c .nilp)]]) (.keep [0, 1, 5, 17] (.cond (.t 17) (.seq (.reg [iR 4 (.p .mv) [(.c (.bool false))]]) (.keep [4] (.keep [4] .ret))) .skip))) (.keep [0, 1, 5] (.seq (.reg [iR 18 (.p .mv) [(.t 0)], iR 19 (.call 11) [(.t 18), (.c (.int .i64 (.ofNat 0))), (.c (.int .i64 (.ofNat 30)))], iR 20 (.p (.bin .add)) [(.c (.int .i64 (.ofNat 2))), (.t 19)], iR 0 (.p .mv) [(.t 20)]]) (.keep [0, 1, 5] (.seq (.reg [iR 21 (.p .mv) [(.t 1)], iR 22 (.p .mv) [(.t 0)], iR 23 (.p (.bin .sub)) [(.t 22), (.c (.int .i64 (.ofNat 1)))], iR 24 (.call 11) [(.t 21), (.c (.int .i64 (.ofNat 0))), (.t 23)], iR 1 (.p .mv) [(.t 24)]])
    (.keep [0, 1, 5] (.seq (.reg [iR 6 (.p .mv) [(.c .nils)]]) (.keep [0, 1, 5, 6] (.seq (.seq (.reg [iR 7 (.p .mv) [(.c (.int .i64 (.ofNat 0)))]]) (.keep [0, 1, 5, 6, 7] (.block 0 (.loop (.keep [0, 1, 5, 6, 7] (.seq (.seq (.reg [iR 25 (.p .mv) [(.t 7)], iR 26 (.p .mv) [(.t 0)], iR 27 (.p (.bin .lss)) [(.t 25), (.t 26)]]) (.keep [0, 1, 5, 6, 7, 27] (.cond (.t 27) .skip (.keep [0, 1, 5, 6] (.exit 0))))) (.keep [0, 1, 5, 6, 7] (.seq (.block 1 (.seq (.reg [iR 31 (.p .mv) [(.t 5)], iR 32 (.call 10) [(.c (.str (bs [104, 116, 116, 112, 115, 58, 47, 47, 97])))], iR 33 (.p .mv) [(.t 7)], iR 34 (.p (.toInt .u8)) [(.t 33)], iR 35 (.e (.buildSlice 1 1 [(.int .u8 (.ofNat 0))] [(0, 1)])) [(.t 34)], iR 36 (.call 9) [(.t 31), (.t 32), (.c (.str [])), (.t 35)], iR 30 (.p .mv) [(.t 36)], iR 37 (.p (.extract 0)) [(.t 30)], iR 38 (.p (.extract 1)) [(.t 30)], iR 8 (.p .mv) [(.t 37)],
    iR 9 (.p .mv) [(.t 38)]]) (.keep [0, 1, 5, 6, 7, 8, 9] (.seq (.seq (.reg [iR 39 (.p .mv) [(.t 9)], iR 40 (.p (.bin .neq)) [(.t 39), (.c (.int .i64 (.ofNat 0)))], iR 41 (.p .mv) [(.t 40)], iG 42 41 false (.p .mv) [(.t 8)], iG 43 41 false (.p .mv) [(.t 7)], iG 44 41 false (.p (.bin .add)) [(.t 43), (.c (.int .i64 (.ofNat 1)))], iG 45 41 false (.call 13) [(.t 44)], iG 46 41 false (.p (.bin .add)) [(.c (.str (bs [98, 108, 111, 98, 58, 104, 116, 116, 112, 115, 58, 47, 47, 97, 47]))), (.t 45)], iG 47 41 false (.p (.bin .neq)) [(.t 42), (.t 46)], iR 48 (.p .pick) [(.t 41), (.c (.bool true)), (.t 47)]]) (.keep [0, 1, 5, 6, 7, 8, 48] (.cond (.t 48) (.seq (.reg [iR 4 (.p .mv) [(.c (.bool false))]]) (.keep [4] (.keep [4] .ret))) .skip))) (.keep [0, 1, 5, 6, 7, 8] (.reg [iR 49 (.p .mv) [(.t 6)], iR 50 (.p .mv) [(.t 8)], iR 51 (.e (.buildSlice 1 1 [(.str [])] [(0, 1)])) [(.t 50)],
    iR 52 (.e (.append 1 16)) [(.t 49), (.t 51)], iR 6 (.p .mv) [(.t 52)]])))))) (.keep [0, 1, 5, 6, 7] (.reg [iR 28 (.p .mv) [(.t 7)], iR 29 (.p (.bin .add)) [(.t 28), (.c (.int .i64 (.ofNat 1)))], iR 7 (.p .mv) [(.t 29)]])))))))))) (.keep [0, 1, 5, 6] (.seq (.seq (.reg [iR 53 (.p .mv) [(.t 5)], iR 54 (.p .mv) [(.t 6)], iR 55 (.p .mv) [(.t 1)], iR 56 (.p (.slIdx 1)) [(.t 54), (.t 55)], iR 57 (.l (.load none)) [(.t 56)], iR 58 (.call 21) [(.t 53), (.t 57)], iR 59 (.p (.un .not)) [(.t 58)]]) (.keep [0, 1, 5, 6, 59] (.cond (.t 59) (.seq (.reg [iR 4 (.p .mv) [(.c (.bool false))]]) (.keep [4] (.keep [4] .ret))) .skip))) (.keep [0, 1, 5, 6] (.seq (.seq (.reg [iR 10 (.p .mv) [(.c (.int .i64 (.ofNat 0)))]]) (.keep [0, 1, 5, 6, 10] (.block 2 (.loop (.keep [0, 1, 5, 6, 10] (.seq (.seq (.reg [iR 60 (.p .mv) [(.t 10)], iR 61 (.p .mv) [(.t 0)], iR 62 (.p (.bin .lss)) [(.t 60), (.t 61)]])
    (.keep [0, 1, 5, 6, 10, 62] (.cond (.t 62) .skip (.keep [0, 5] (.exit 2))))) (.keep [0, 1, 5, 6, 10] (.seq (.block 3 (.seq (.reg [iR 66 (.p .mv) [(.t 5)], iR 67 (.p .mv) [(.t 6)], iR 68 (.p .mv) [(.t 10)], iR 69 (.p (.slIdx 1)) [(.t 67), (.t 68)], iR 70 (.l (.load none)) [(.t 69)], iR 71 (.call 15) [(.t 66), (.t 70), (.c (.str [])), (.c (.bool false))], iR 65 (.p .mv) [(.t 71)], iR 72 (.p (.extract 0)) [(.t 65)], iR 73 (.p (.extract 1)) [(.t 65)], iR 11 (.e (.alloc [(.int .i64 (.ofNat 0)), .nils, .nils])) [], ⟨none, none, (.e (.store 3)), [(.t 11), (.t 72)], none⟩, iR 12 (.p .mv) [(.t 73)]]) (.keep [0, 1, 5, 6, 10, 11, 12] (.seq (.reg [iR 74 (.p .mv) [(.t 12)], iR 75 (.p .mv) [(.t 10)], iR 76 (.p .mv) [(.t 1)], iR 77 (.p (.bin .neq)) [(.t 75), (.t 76)], iR 78 (.p (.eq true .bool)) [(.t 74), (.t 77)], iR 79 (.p .mv) [(.t 78)], iG 80 79 false (.p .mv) [(.t 12)],
    iG 81 79 false (.p .mv) [(.t 80)], iG 82 81 true (.p (.fieldAddr 2)) [(.t 11)], iG 83 81 true (.l (.load none)) [(.t 82)], iG 84 81 true (.p .len) [(.t 83)], iG 85 81 true (.p (.bin .neq)) [(.t 84), (.c (.int .i64 (.ofNat 1)))], iG 86 81 true (.p .mv) [(.t 85)], iG 87 86 false (.p (.fieldAddr 2)) [(.t 11)], iG 88 86 false (.l (.load none)) [(.t 87)], iG 89 86 false (.p (.slIdx 1)) [(.t 88), (.c (.int .i64 (.ofNat 0)))], iG 90 86 false (.l (.load none)) [(.t 89)], iG 91 86 false (.p .mv) [(.t 10)], iG 92 86 false (.p (.toInt .u8)) [(.t 91)], iG 93 86 false (.p (.bin .neq)) [(.t 90), (.t 92)], iG 94 81 true (.p .pick) [(.t 86), (.c (.bool true)), (.t 93)], iG 95 79 false (.p .pick) [(.t 81), (.t 94), (.c (.bool false))], iR 96 (.p .pick) [(.t 79), (.c (.bool true)), (.t 95)]]) (.keep [0, 1, 5, 6, 10, 96] (.cond (.t 96) (.seq (.reg [iR 4 (.p .mv) [(.c (.bool false))]])
    (.keep [4] (.keep [4] .ret))) .skip)))))) (.keep [0, 1, 5, 6, 10] (.reg [iR 63 (.p .mv) [(.t 10)], iR 64 (.p (.bin .add)) [(.t 63), (.c (.int .i64 (.ofNat 1)))], iR 10 (.p .mv) [(.t 64)]])))))))))) (.keep [0, 5] (.seq (.reg [iR 98 (.p .mv) [(.t 5)], iR 99 (.call 10) [(.c (.str (bs [104, 116, 116, 112, 115, 58, 47, 47, 97])))], iR 100 (.call 9) [(.t 98), (.t 99), (.c (.str [])), (.c .nils)], iR 97 (.p .mv) [(.t 100)], iR 101 (.p (.extract 0)) [(.t 97)], iR 102 (.p (.extract 1)) [(.t 97)], iR 13 (.p .mv) [(.t 101)], iR 14 (.p .mv) [(.t 102)]]) (.keep [0, 5, 13, 14] (.seq (.reg [iR 103 (.p .mv) [(.t 14)], iR 104 (.p (.bin .eql)) [(.t 103), (.c (.int .i64 (.ofNat 0)))], iR 105 (.p .mv) [(.t 104)], iG 106 105 true (.p .mv) [(.t 13)], iG 107 105 true (.p .mv) [(.t 0)], iG 108 105 true (.p (.bin .add)) [(.t 107), (.c (.int .i64 (.ofNat 1)))], iG 109 105 true (.call 13) [(.t 108)],
    iG 110 105 true (.p (.bin .add)) [(.c (.str (bs [98, 108, 111, 98, 58, 104, 116, 116, 112, 115, 58, 47, 47, 97, 47]))), (.t 109)], iG 111 105 true (.p (.bin .eql)) [(.t 106), (.t 110)], iR 112 (.p .pick) [(.t 105), (.t 111), (.c (.bool false))], iR 113 (.p .mv) [(.t 112)], iG 114 113 true (.p .mv) [(.t 5)], iG 115 113 true (.call 25) [(.t 114)], iG 116 113 true (.p .mv) [(.t 0)], iG 117 113 true (.p (.bin .eql)) [(.t 115), (.t 116)], iR 118 (.p .pick) [(.t 113), (.t 117), (.c (.bool false))], iR 119 (.p .mv) [(.t 118)], iG 120 119 true (.call 14) [], iR 121 (.p .pick) [(.t 119), (.t 120), (.c (.bool false))], iR 4 (.p .mv) [(.t 121)]]) (.keep [4] (.keep [4] .ret))))))))))))))))))))))), [(.t 4)]⟩
def s_law21_BlobApart_j1 (call : CallK) (N : Nat) (q : KV) (st : St) (τ : Tape) : Ans := match st with
  | ⟨fr, H⟩ => getK fr 0 fun t0 => getK fr 5 fun t5 => call f_law21_of [(.str (bs [104, 116, 116, 112, 115, 58, 47, 47, 97]))] H τ fun v18 H19 τ20 => call f_blob_Store_Put [t5, v18, (.str []), .nils] H19 τ20 fun v21 H22 τ23 => someK (pExtract 0 [v21]) fun v24 => someK (pExtract 1 [v21]) fun v25 => binK .eql v25 (.int .i64 (.ofNat 0)) fun v26 => gK v26 true (fun q' => q' v24 H22 τ23) H22 τ23 fun v27 H28 τ29 => gK v26 true (fun q' => q' t0 H28 τ29) H28 τ29 fun v30 H31 τ32 => gK v26 true (fun q' => binK .add v30 (.int .i64 (.ofNat 1)) fun v => q' v H31 τ32) H31 τ32 fun v33 H34 τ35 => gK v26 true (fun q' => call f_law21_digits [v33] H34 τ35 q') H34 τ35 fun v36 H37 τ38 => gK v26 true (fun q' => binK .add (.str (bs [98, 108, 111, 98, 58, 104, 116, 116, 112, 115, 58, 47, 47, 97, 47])) v36 fun v => q' v H37 τ38) H37 τ38 fun v39 H40 τ41 =>
    gK v26 true (fun q' => binK .eql v27 v39 fun v => q' v H40 τ41) H40 τ41 fun v42 H43 τ44 => someK (pPick [v26, v42, (.bool false)]) fun v45 => gK v45 true (fun q' => q' t5 H43 τ44) H43 τ44 fun v46 H47 τ48 => gK v45 true (fun q' => call f_blob_Store_Len [v46] H47 τ48 q') H47 τ48 fun v49 H50 τ51 => gK v45 true (fun q' => q' t0 H50 τ51) H50 τ51 fun v52 H53 τ54 => gK v45 true (fun q' => binK .eql v49 v52 fun v => q' v H53 τ54) H53 τ54 fun v55 H56 τ57 => someK (pPick [v45, v55, (.bool false)]) fun v58 => gK v58 true (fun q' => call f_law21_known [] H56 τ57 q') H56 τ57 fun v59 H60 τ61 => someK (pPick [v58, v59, (.bool false)]) fun v62 => q v62 H60 τ61
def s_law21_BlobApart_l2 (call : CallK) (N : Nat) (st : St) (τ : Tape) (k : KC) : Ans := match st with
  | ⟨fr, H⟩ => getK fr 0 fun t0 => getK fr 1 fun t1 => getK fr 5 fun t5 => getK fr 6 fun t6 => getK fr 10 fun t10 => binK .lss t10 t0 fun v63 => condK v63 (someK (pSlIdx 1 [t6, t10]) fun v64 => someK (lLoad1 [v64] H) fun v65 => call f_blob_Store_Read [t5, v65, (.str []), (.bool false)] H τ fun v66 H67 τ68 => someK (pExtract 0 [v66]) fun v69 => someK (pExtract 1 [v66]) fun v70 => effK (eAlloc [(.int .i64 (.ofNat 0)), .nils, .nils] [] H67 τ68) fun v71 H72 τ73 => effK (eStore 3 [v71, v69] H72 τ73) fun v74 H75 τ76 => binK .neq t10 t1 fun v77 => someK (pEq true .bool [v70, v77]) fun v78 => gK v78 false (fun q' => q' v70 H75 τ76) H75 τ76 fun v79 H80 τ81 => gK v78 false (fun q' => q' v79 H80 τ81) H80 τ81 fun v82 H83 τ84 => gK v82 true (fun q' => someK (pFieldAddr 2 [v71]) fun v => q' v H83 τ84) H83 τ84 fun v85 H86 τ87 =>
    gK v82 true (fun q' => someK (lLoad1 [v85] H86) fun v => q' v H86 τ87) H86 τ87 fun v88 H89 τ90 => gK v82 true (fun q' => someK (pLen [v88]) fun v => q' v H89 τ90) H89 τ90 fun v91 H92 τ93 => gK v82 true (fun q' => binK .neq v91 (.int .i64 (.ofNat 1)) fun v => q' v H92 τ93) H92 τ93 fun v94 H95 τ96 => gK v82 true (fun q' => q' v94 H95 τ96) H95 τ96 fun v97 H98 τ99 => gK v97 false (fun q' => someK (pFieldAddr 2 [v71]) fun v => q' v H98 τ99) H98 τ99 fun v100 H101 τ102 => gK v97 false (fun q' => someK (lLoad1 [v100] H101) fun v => q' v H101 τ102) H101 τ102 fun v103 H104 τ105 => gK v97 false (fun q' => someK (pSlIdx 1 [v103, (.int .i64 (.ofNat 0))]) fun v => q' v H104 τ105) H104 τ105 fun v106 H107 τ108 => gK v97 false (fun q' => someK (lLoad1 [v106] H107) fun v => q' v H107 τ108) H107 τ108 fun v109 H110 τ111 => gK v97 false (fun q' => q' t10 H110 τ111) H110 τ111 fun v112 H113 τ114 =>
    gK v97 false (fun q' => toIntK .u8 v112 fun v => q' v H113 τ114) H113 τ114 fun v115 H116 τ117 => gK v97 false (fun q' => binK .neq v109 v115 fun v => q' v H116 τ117) H116 τ117 fun v118 H119 τ120 => gK v82 true (fun q' => someK (pPick [v97, (.bool true), v118]) fun v => q' v H119 τ120) H119 τ120 fun v121 H122 τ123 => gK v78 false (fun q' => someK (pPick [v82, v121, (.bool false)]) fun v => q' v H122 τ123) H122 τ123 fun v124 H125 τ126 => someK (pPick [v78, (.bool true), v124]) fun v127 => condK v127 (k .ret ⟨(T.set .leaf 4 (.bool false)), H125⟩ τ126) (binK .add t10 (.int .i64 (.ofNat 1)) fun v128 => k .normal ⟨(T.set (T.set (T.set (T.set (T.set (T.set (T.set (T.set .leaf 0 t0) 1 t1) 5 t5) 6 t6) 10 t10) 63 t10) 64 v128) 10 v128), H125⟩ τ126)) (k (.exit 2) ⟨(T.set (T.set .leaf 0 t0) 5 t5), H⟩ τ)
def s_law21_BlobApart_j0 (call : CallK) (N : Nat) (q : KV) (st : St) (τ : Tape) : Ans := match st with
  | ⟨fr, H⟩ => getK fr 0 fun t0 => getK fr 1 fun t1 => getK fr 5 fun t5 => getK fr 6 fun t6 => someK (pSlIdx 1 [t6, t1]) fun v12 => someK (lLoad1 [v12] H) fun v13 => call f_blob_Store_Drop [t5, v13] H τ fun v14 H15 τ16 => unK .not v14 fun v17 => condK v17 (q (.bool false) H15 τ16) (loopK (s_law21_BlobApart_l2 call N) N ⟨(T.set (T.set (T.set (T.set (T.set .leaf 0 t0) 1 t1) 5 t5) 6 t6) 10 (.int .i64 (.ofNat 0))), H15⟩ τ16 (blockK 2 (seqK (s_law21_BlobApart_j1 call N q) (endK [(.t 4)] q))))
def s_law21_BlobApart_l3 (call : CallK) (N : Nat) (st : St) (τ : Tape) (k : KC) : Ans := match st with
  | ⟨fr, H⟩ => getK fr 0 fun t0 => getK fr 1 fun t1 => getK fr 5 fun t5 => getK fr 6 fun t6 => getK fr 7 fun t7 => binK .lss t7 t0 fun v129 => condK v129 (call f_law21_of [(.str (bs [104, 116, 116, 112, 115, 58, 47, 47, 97]))] H τ fun v130 H131 τ132 => toIntK .u8 t7 fun v133 => effK (eBuildSlice 1 1 [(.int .u8 (.ofNat 0))] [(0, 1)] [v133] H131 τ132) fun v134 H135 τ136 => call f_blob_Store_Put [t5, v130, (.str []), v134] H135 τ136 fun v137 H138 τ139 => someK (pExtract 0 [v137]) fun v140 => someK (pExtract 1 [v137]) fun v141 => binK .neq v141 (.int .i64 (.ofNat 0)) fun v142 => gK v142 false (fun q' => q' v140 H138 τ139) H138 τ139 fun v143 H144 τ145 => gK v142 false (fun q' => q' t7 H144 τ145) H144 τ145 fun v146 H147 τ148 => gK v142 false (fun q' => binK .add v146 (.int .i64 (.ofNat 1)) fun v => q' v H147 τ148) H147 τ148 fun v149 H150 τ151 =>
    gK v142 false (fun q' => call f_law21_digits [v149] H150 τ151 q') H150 τ151 fun v152 H153 τ154 => gK v142 false (fun q' => binK .add (.str (bs [98, 108, 111, 98, 58, 104, 116, 116, 112, 115, 58, 47, 47, 97, 47])) v152 fun v => q' v H153 τ154) H153 τ154 fun v155 H156 τ157 => gK v142 false (fun q' => binK .neq v143 v155 fun v => q' v H156 τ157) H156 τ157 fun v158 H159 τ160 => someK (pPick [v142, (.bool true), v158]) fun v161 => condK v161 (k .ret ⟨(T.set .leaf 4 (.bool false)), H159⟩ τ160) (effK (eBuildSlice 1 1 [(.str [])] [(0, 1)] [v140] H159 τ160) fun v162 H163 τ164 => effK (eAppend 1 16 [t6, v162] H163 τ164) fun v165 H166 τ167 => binK .add t7 (.int .i64 (.ofNat 1)) fun v168 => k .normal ⟨(T.set (T.set (T.set (T.set (T.set (T.set (T.set (T.set .leaf 0 t0) 1 t1) 5 t5) 6 v165) 7 t7) 28 t7) 29 v168) 7 v168), H166⟩ τ167))
    (k (.exit 0) ⟨(T.set (T.set (T.set (T.set .leaf 0 t0) 1 t1) 5 t5) 6 t6), H⟩ τ)
def s_law21_BlobApart (call : CallK) (N : Nat) (a0 a1 : V) (H : Heap) (τ : Tape) (q : KV) : Ans := call f_blob_New [] H τ fun v0 H1 τ2 => someK (lPeq false [v0, .nilp] H1) fun v3 => condK v3 (q (.bool false) H1 τ2) (call f_book_Within [a0, (.int .i64 (.ofNat 0)), (.int .i64 (.ofNat 30))] H1 τ2 fun v4 H5 τ6 => binK .add (.int .i64 (.ofNat 2)) v4 fun v7 => binK .sub v7 (.int .i64 (.ofNat 1)) fun v8 => call f_book_Within [a1, (.int .i64 (.ofNat 0)), v8] H5 τ6 fun v9 H10 τ11 => loopK (s_law21_BlobApart_l3 call N) N ⟨(T.set (T.set (T.set (T.set (T.set .leaf 0 v7) 1 v9) 5 v0) 6 .nils) 7 (.int .i64 (.ofNat 0))), H10⟩ τ11 (blockK 0 (seqK (s_law21_BlobApart_j0 call N q) (endK [(.t 4)] q))))
theorem s_law21_BlobApart_eq (call : CallK) (N : Nat) (a0 a1 : V) (H : Heap) (τ : Tape) (q : KV) : s_law21_BlobApart call N a0 a1 H τ q = funK call N fn_law21_BlobApart [a0, a1] H τ q := by kernel_rfl
def e_law21_BlobApart (call : CallK) (N : Nat) (vs : List V) (H : Heap) (τ : Tape) (q : KV) : Ans := match vs with | [a0, a1] => s_law21_BlobApart call N a0 a1 H τ q | _ => none
theorem e_law21_BlobApart_ok : EntOk fn_law21_BlobApart e_law21_BlobApart := by
  intro call N vs H τ q r h
  unfold e_law21_BlobApart at h
  split at h
  · rw [s_law21_BlobApart_eq] at h; exact h
  · cases h
theorem e_law21_BlobApart_nat : EntNat e_law21_BlobApart := by
  intro c hn N vs H τ q
  unfold e_law21_BlobApart
  split
  · rw [s_law21_BlobApart_eq, s_law21_BlobApart_eq]; exact funK_ent hn _ _ _ _ _ _
  · rfl
/-- ostiary/blob.New -/
def fn_blob_New : Fun := ⟨0, (.seq (.reg [iR 0 (.p .mv) [(.c .nilp)]]) (.keep [] (.seq (.reg [iR 1 (.e .mkMap) [], iR 2 (.p (.build [.nilm, (.int .i64 (.ofNat 0))] [(0, 1)])) [(.t 1)], iR 3 (.e .box) [(.t 2)], iR 0 (.p .mv) [(.t 3)]]) (.keep [0] (.keep [0] .ret))))), [(.t 0)]⟩
def s_blob_New (call : CallK) (N : Nat) (H : Heap) (τ : Tape) (q : KV) : Ans := effK (eMkMap [] H τ) fun v0 H1 τ2 => someK (pBuild [.nilm, (.int .i64 (.ofNat 0))] [(0, 1)] [v0]) fun v3 => effK (eBox [v3] H1 τ2) fun v4 H5 τ6 => q v4 H5 τ6
theorem s_blob_New_eq (call : CallK) (N : Nat) (H : Heap) (τ : Tape) (q : KV) : s_blob_New call N  H τ q = funK call N fn_blob_New [] H τ q := by kernel_rfl
def e_blob_New (call : CallK) (N : Nat) (vs : List V) (H : Heap) (τ : Tape) (q : KV) : Ans := match vs with | [] => s_blob_New call N  H τ q | _ => none
theorem e_blob_New_ok : EntOk fn_blob_New e_blob_New := by
  intro call N vs H τ q r h
  unfold e_blob_New at h
  split at h
  · rw [s_blob_New_eq] at h; exact h
  · cases h
theorem e_blob_New_nat : EntNat e_blob_New := by
  intro c hn N vs H τ q
  unfold e_blob_New
  split
  · rw [s_blob_New_eq, s_blob_New_eq]; exact funK_ent hn _ _ _ _ _ _
  · rfl
/-- (*ostiary/blob.Store).Put -/
def fn_blob_Store_Put : Fun := ⟨4, (.seq (.reg [iR 5 (.e .box) [(.t 1)], iR 8 (.p .mv) [(.c (.str []))], iR 9 (.p .mv) [(.c (.int .i64 (.ofNat 0)))]]) (.keep [0, 2, 3, 5] (.seq (.reg [iR 14 (.p .mv) [(.t 2)], iR 15 (.call 27) [(.t 14)], iR 13 (.p .mv) [(.t 15)], iR 16 (.p (.extract 0)) [(.t 13)], iR 17 (.p (.extract 1)) [(.t 13)], iR 10 (.p .mv) [(.t 16)], iR 11 (.p .mv) [(.t 17)]]) (.keep [0, 2, 3, 5, 10, 11] (.seq (.block 0 (.seq (.reg [iR 19 (.p .mv) [(.t 11)], iR 20 (.p (.un .not)) [(.t 19)], iR 18 (.p .mv) [(.t 20)]]) (.keep [0, 2, 3, 5, 10, 18] (.cond (.t 18) (.seq (.reg [iR 8 (.p .mv) [(.c (.str []))], iR 9 (.p .mv) [(.c (.int .i64 (.ofNat 1)))]]) (.keep [8, 9] (.keep [8, 9] .ret))) (.seq (.reg [iR 22 (.p .mv) [(.t 3)], iR 23 (.p .len) [(.t 22)], iR 24 (.p (.bin .gtr)) [(.t 23), (.c (.int .i64 (.ofNat 16384)))], iR 25 (.p .mv) [(.t 24)], iG 26 25 false (.p .mv) [(.t 2)],
    iG 27 25 false (.p .lenS) [(.t 26)], iG 28 25 false (.p (.bin .gtr)) [(.t 27), (.c (.int .i64 (.ofNat 4096)))], iR 29 (.p .pick) [(.t 25), (.c (.bool true)), (.t 28)], iR 21 (.p .mv) [(.t 29)]]) (.keep [0, 3, 5, 10, 21] (.cond (.t 21) (.seq (.reg [iR 8 (.p .mv) [(.c (.str []))], iR 9 (.p .mv) [(.c (.int .i64 (.ofNat 3)))]]) (.keep [8, 9] (.keep [8, 9] .ret))) (.seq (.reg [iR 31 (.p .mv) [(.t 0)], iR 32 (.p .nilck) [(.t 31)], iR 33 (.p (.fieldAddr 0)) [(.t 32)], iR 34 (.l (.load none)) [(.t 33)], iR 35 (.l .mlen) [(.t 34)], iR 36 (.p (.bin .geq)) [(.t 35), (.c (.int .i64 (.ofNat 32)))], iR 30 (.p .mv) [(.t 36)]]) (.keep [0, 3, 5, 10, 30] (.cond (.t 30) (.seq (.reg [iR 8 (.p .mv) [(.c (.str []))], iR 9 (.p .mv) [(.c (.int .i64 (.ofNat 4)))]]) (.keep [8, 9] (.keep [8, 9] .ret))) .skip)))))))))) (.keep [0, 3, 5, 10] (.seq (.reg [iR 37 (.p .mv) [(.t 0)], iR 38 (.p .nilck) [(.t 37)],
    iR 39 (.p (.fieldAddr 1)) [(.t 38)], iR 40 (.l (.load none)) [(.t 39)], iR 41 (.p (.bin .add)) [(.t 40), (.c (.int .i64 (.ofNat 1)))], iR 42 (.p .nilck) [(.t 37)], iR 43 (.p (.fieldAddr 1)) [(.t 42)], ⟨none, none, (.e (.store 1)), [(.t 43), (.t 41)], none⟩]) (.keep [0, 3, 5, 10] (.seq (.draw [iR 44 (.l (.load (some 4))) [(.t 5)], iR 45 (.call 28) [(.t 44)], iR 46 (.p (.bin .add)) [(.c (.str (bs [98, 108, 111, 98, 58]))), (.t 45)], iR 47 (.p (.bin .add)) [(.t 46), (.c (.str (bs [47])))], iR 48 (.p .mv) [(.t 0)], iR 49 (.p .nilck) [(.t 48)], iR 50 (.p (.fieldAddr 1)) [(.t 49)], ⟨(some 51), none, (.l (.load none)), [(.t 50)], some (0, 1)⟩, iR 52 (.call 29) [(.t 51)], iR 53 (.p (.bin .add)) [(.t 47), (.t 52)], iR 12 (.p .mv) [(.t 53)]]) (.keep [0, 3, 10, 12] (.seq (.draw [iR 54 (.p .mv) [(.t 0)], iR 55 (.p .nilck) [(.t 54)], iR 56 (.p (.fieldAddr 0)) [(.t 55)],
    ⟨(some 57), none, (.l (.load none)), [(.t 56)], some (0, 1)⟩, iR 58 (.p .mv) [(.t 12)], iR 59 (.p .mv) [(.t 10)], iR 60 (.p .mv) [(.t 3)], iR 61 (.call 30) [(.t 60)], iR 62 (.p (.build [(.str []), .nils] [(0, 1), (1, 1)])) [(.t 59), (.t 61)], ⟨none, none, (.e .mput), [(.t 57), (.t 58), (.t 62)], none⟩]) (.keep [12] (.seq (.reg [iR 63 (.p .mv) [(.t 12)], iR 8 (.p .mv) [(.t 63)], iR 9 (.p .mv) [(.c (.int .i64 (.ofNat 0)))]]) (.keep [8, 9] (.keep [8, 9] .ret))))))))))))))), [(.t 8), (.t 9)]⟩
def s_blob_Store_Put (call : CallK) (N : Nat) (a0 a1 a2 a3 : V) (H : Heap) (τ : Tape) (q : KV) : Ans := effK (eBox [a1] H τ) fun v0 H1 τ2 => call f_headers_Value [a2] H1 τ2 fun v3 H4 τ5 => someK (pExtract 0 [v3]) fun v6 => someK (pExtract 1 [v3]) fun v7 => unK .not v7 fun v8 => condK v8 (q (.tup [(.str []), (.int .i64 (.ofNat 1))]) H4 τ5) (someK (pLen [a3]) fun v9 => binK .gtr v9 (.int .i64 (.ofNat 16384)) fun v10 => gK v10 false (fun q' => q' a2 H4 τ5) H4 τ5 fun v11 H12 τ13 => gK v10 false (fun q' => someK (pLenS [v11]) fun v => q' v H12 τ13) H12 τ13 fun v14 H15 τ16 => gK v10 false (fun q' => binK .gtr v14 (.int .i64 (.ofNat 4096)) fun v => q' v H15 τ16) H15 τ16 fun v17 H18 τ19 => someK (pPick [v10, (.bool true), v17]) fun v20 => condK v20 (q (.tup [(.str []), (.int .i64 (.ofNat 3))]) H18 τ19) (someK (pNilck [a0]) fun v21 => someK (pFieldAddr 0 [v21]) fun v22 =>
    someK (lLoad1 [v22] H18) fun v23 => someK (lMlen [v23] H18) fun v24 => binK .geq v24 (.int .i64 (.ofNat 32)) fun v25 => condK v25 (q (.tup [(.str []), (.int .i64 (.ofNat 4))]) H18 τ19) (someK (pNilck [a0]) fun v26 => someK (pFieldAddr 1 [v26]) fun v27 => someK (lLoad1 [v27] H18) fun v28 => binK .add v28 (.int .i64 (.ofNat 1)) fun v29 => someK (pNilck [a0]) fun v30 => someK (pFieldAddr 1 [v30]) fun v31 => effK (eStore 1 [v31, v29] H18 τ19) fun v32 H33 τ34 => someK (lLoadN 4 [v0] H33) fun v35 => call f_origin_Text [v35] H33 τ34 fun v36 H37 τ38 => binK .add (.str (bs [98, 108, 111, 98, 58])) v36 fun v39 => binK .add v39 (.str (bs [47])) fun v40 => someK (pNilck [a0]) fun v41 => someK (pFieldAddr 1 [v41]) fun v42 => someK (lLoad1 [v42] H37) fun v43 => call f_strconv_Itoa [v43] H37 τ38 fun v44 H45 τ46 => binK .add v40 v44 fun v47 =>
    bif chkLoads [H33, H37, H45] (((.load none), [v42], 0, 1) :: []) then someK (pNilck [a0]) fun v48 => someK (pFieldAddr 0 [v48]) fun v49 => someK (lLoad1 [v49] H45) fun v50 => call f_slices_Clone_byte [a3] H45 τ46 fun v51 H52 τ53 => someK (pBuild [(.str []), .nils] [(0, 1), (1, 1)] [v6, v51]) fun v54 => effK (eMput [v50, v47, v54] H52 τ53) fun v55 H56 τ57 => bif chkLoads [H45, H52, H56] (((.load none), [v49], 0, 1) :: []) then q (.tup [v47, (.int .i64 (.ofNat 0))]) H56 τ57 else none else none)))
theorem s_blob_Store_Put_eq (call : CallK) (N : Nat) (a0 a1 a2 a3 : V) (H : Heap) (τ : Tape) (q : KV) : s_blob_Store_Put call N a0 a1 a2 a3 H τ q = funK call N fn_blob_Store_Put [a0, a1, a2, a3] H τ q := by kernel_rfl
def e_blob_Store_Put (call : CallK) (N : Nat) (vs : List V) (H : Heap) (τ : Tape) (q : KV) : Ans := match vs with | [a0, a1, a2, a3] => s_blob_Store_Put call N a0 a1 a2 a3 H τ q | _ => none
theorem e_blob_Store_Put_ok : EntOk fn_blob_Store_Put e_blob_Store_Put := by
  intro call N vs H τ q r h
  unfold e_blob_Store_Put at h
  split at h
  · rw [s_blob_Store_Put_eq] at h; exact h
  · cases h
theorem e_blob_Store_Put_nat : EntNat e_blob_Store_Put := by
  intro c hn N vs H τ q
  unfold e_blob_Store_Put
  split
  · rw [s_blob_Store_Put_eq, s_blob_Store_Put_eq]; exact funK_ent hn _ _ _ _ _ _
  · rfl
/-- ostiary/ostiarylaw21.of -/
def fn_law21_of : Fun := ⟨1, (.seq (.reg [iR 2 (.e (.alloc [(.str []), (.str []), (.int .i64 (.ofNat 0)), (.bool false)])) []]) (.keep [0, 2] (.seq (.reg [iR 6 (.p .mv) [(.t 0)], iR 7 (.call 31) [(.t 6)], iR 5 (.p .mv) [(.t 7)], iR 8 (.p (.extract 0)) [(.t 5)], iR 9 (.p (.extract 1)) [(.t 5)], iR 3 (.e (.alloc [(.str []), (.str []), (.str []), (.str []), (.bool false), (.int .i64 (.ofNat 0)), (.bool false), .nils, (.str []), (.str []), (.bool false), (.bool false)])) [], ⟨none, none, (.e (.store 12)), [(.t 3), (.t 8)], none⟩, iR 4 (.p .mv) [(.t 9)]]) (.keep [2, 3] (.seq (.reg [iR 10 (.l (.load (some 12))) [(.t 3)], iR 11 (.call 32) [(.t 10)], ⟨none, none, (.e (.store 4)), [(.t 2), (.t 11)], none⟩]) (.keep [2] (.keep [2] .ret))))))), [(.cell 2 (some 4))]⟩
def s_law21_of (call : CallK) (N : Nat) (a0 : V) (H : Heap) (τ : Tape) (q : KV) : Ans := funK call N fn_law21_of [a0] H τ q
theorem s_law21_of_eq (call : CallK) (N : Nat) (a0 : V) (H : Heap) (τ : Tape) (q : KV) : s_law21_of call N a0 H τ q = funK call N fn_law21_of [a0] H τ q := by kernel_rfl
def e_law21_of (call : CallK) (N : Nat) (vs : List V) (H : Heap) (τ : Tape) (q : KV) : Ans := match vs with | [a0] => s_law21_of call N a0 H τ q | _ => none
theorem e_law21_of_ok : EntOk fn_law21_of e_law21_of := by
  intro call N vs H τ q r h
  unfold e_law21_of at h
  split at h
  · rw [s_law21_of_eq] at h; exact h
  · cases h
theorem e_law21_of_nat : EntNat e_law21_of := by
  intro c hn N vs H τ q
  unfold e_law21_of
  split
  · rw [s_law21_of_eq, s_law21_of_eq]; exact funK_ent hn _ _ _ _ _ _
  · rfl
/-- ostiary/ostiarybook.Within -/
def fn_book_Within : Fun := ⟨3, (.seq (.reg [iR 6 (.p .mv) [(.c (.int .i64 (.ofNat 0)))]]) (.keep [0, 1, 2] (.seq (.reg [iR 7 (.p .mv) [(.t 0)], iR 8 (.p .mv) [(.t 2)], iR 9 (.p .mv) [(.t 1)], iR 10 (.p (.bin .sub)) [(.t 8), (.t 9)], iR 11 (.p (.bin .add)) [(.t 10), (.c (.int .i64 (.ofNat 1)))], iR 12 (.p (.bin .rem)) [(.t 7), (.t 11)], iR 0 (.p .mv) [(.t 12)]]) (.keep [0, 1, 2] (.seq (.seq (.reg [iR 13 (.p .mv) [(.t 0)], iR 14 (.p (.bin .lss)) [(.t 13), (.c (.int .i64 (.ofNat 0)))]]) (.keep [0, 1, 2, 14] (.cond (.t 14) (.reg [iR 15 (.p .mv) [(.t 0)], iR 16 (.p .mv) [(.t 2)], iR 17 (.p (.bin .add)) [(.t 15), (.t 16)], iR 18 (.p .mv) [(.t 1)], iR 19 (.p (.bin .sub)) [(.t 17), (.t 18)], iR 20 (.p (.bin .add)) [(.t 19), (.c (.int .i64 (.ofNat 1)))], iR 0 (.p .mv) [(.t 20)]]) .skip))) (.keep [0, 1] (.seq (.reg [iR 21 (.p .mv) [(.t 1)], iR 22 (.p .mv) [(.t 0)],
    iR 23 (.p (.bin .add)) [(.t 21), (.t 22)], iR 6 (.p .mv) [(.t 23)]]) (.keep [6] (.keep [6] .ret))))))))), [(.t 6)]⟩
def s_book_Within_j0 (call : CallK) (N : Nat) (q : KV) (st : St) (τ : Tape) : Ans := match st with
  | ⟨fr, H⟩ => getK fr 0 fun t0 => getK fr 1 fun t1 => binK .add t1 t0 fun v4 => q v4 H τ
def s_book_Within (call : CallK) (N : Nat) (a0 a1 a2 : V) (H : Heap) (τ : Tape) (q : KV) : Ans := binK .sub a2 a1 fun v0 => binK .add v0 (.int .i64 (.ofNat 1)) fun v1 => binK .rem a0 v1 fun v2 => binK .lss v2 (.int .i64 (.ofNat 0)) fun v3 => condK v3 (binK .add v2 a2 fun v5 => binK .sub v5 a1 fun v6 => binK .add v6 (.int .i64 (.ofNat 1)) fun v7 => s_book_Within_j0 call N q ⟨(T.set (T.set (T.set (T.set (T.set (T.set (T.set (T.set (T.set (T.set (T.set .leaf 0 v2) 1 a1) 2 a2) 14 v3) 15 v2) 16 a2) 17 v5) 18 a1) 19 v6) 20 v7) 0 v7), H⟩ τ) (s_book_Within_j0 call N q ⟨(T.set (T.set (T.set (T.set .leaf 0 v2) 1 a1) 2 a2) 14 v3), H⟩ τ)
theorem s_book_Within_eq (call : CallK) (N : Nat) (a0 a1 a2 : V) (H : Heap) (τ : Tape) (q : KV) : s_book_Within call N a0 a1 a2 H τ q = funK call N fn_book_Within [a0, a1, a2] H τ q := by kernel_rfl
def e_book_Within (call : CallK) (N : Nat) (vs : List V) (H : Heap) (τ : Tape) (q : KV) : Ans := match vs with | [a0, a1, a2] => s_book_Within call N a0 a1 a2 H τ q | _ => none
theorem e_book_Within_ok : EntOk fn_book_Within e_book_Within := by
  intro call N vs H τ q r h
  unfold e_book_Within at h
  split at h
  · rw [s_book_Within_eq] at h; exact h
  · cases h
theorem e_book_Within_nat : EntNat e_book_Within := by
  intro c hn N vs H τ q
  unfold e_book_Within
  split
  · rw [s_book_Within_eq, s_book_Within_eq]; exact funK_ent hn _ _ _ _ _ _
  · rfl
/-- ostiary/ostiarylaw21.digits -/
def fn_law21_digits : Fun := ⟨1, (.seq (.reg [iR 2 (.p .mv) [(.c (.str []))]]) (.keep [0] (.seq (.reg [iR 3 (.p .mv) [(.c (.str []))]]) (.keep [0, 3] (.seq (.block 0 (.loop (.keep [0, 3] (.seq (.seq (.reg [iR 5 (.p .mv) [(.t 0)], iR 6 (.p (.bin .gtr)) [(.t 5), (.c (.int .i64 (.ofNat 0)))], iR 7 (.p .mv) [(.t 6)], iG 8 7 false (.p .mv) [(.t 3)], iG 9 7 false (.p (.bin .eql)) [(.t 8), (.c (.str []))], iR 10 (.p .pick) [(.t 7), (.c (.bool true)), (.t 9)]]) (.keep [0, 3, 10] (.cond (.t 10) .skip (.keep [3] (.exit 0))))) (.keep [0, 3] (.block 1 (.seq (.reg [iR 11 (.p .mv) [(.t 0)], iR 12 (.p (.bin .rem)) [(.t 11), (.c (.int .i64 (.ofNat 10)))], iR 4 (.p .mv) [(.t 12)]]) (.keep [0, 3, 4] (.seq (.reg [iR 13 (.p .mv) [(.t 4)], iR 14 (.p .mv) [(.t 4)], iR 15 (.p (.bin .add)) [(.t 14), (.c (.int .i64 (.ofNat 1)))],
    iR 16 (.p (.strSlice true true)) [(.c (.str (bs [48, 49, 50, 51, 52, 53, 54, 55, 56, 57]))), (.t 13), (.t 15)], iR 17 (.p .mv) [(.t 3)], iR 18 (.p (.bin .add)) [(.t 16), (.t 17)], iR 3 (.p .mv) [(.t 18)]]) (.keep [0, 3] (.reg [iR 19 (.p .mv) [(.t 0)], iR 20 (.p (.bin .quo)) [(.t 19), (.c (.int .i64 (.ofNat 10)))], iR 0 (.p .mv) [(.t 20)]]))))))))))) (.keep [3] (.seq (.reg [iR 21 (.p .mv) [(.t 3)], iR 2 (.p .mv) [(.t 21)]]) (.keep [2] (.keep [2] .ret))))))))), [(.t 2)]⟩
def s_law21_digits_j0 (call : CallK) (N : Nat) (q : KV) (st : St) (τ : Tape) : Ans := match st with
  | ⟨fr, H⟩ => getK fr 3 fun t3 => q t3 H τ
def s_law21_digits_l1 (call : CallK) (N : Nat) (st : St) (τ : Tape) (k : KC) : Ans := match st with
  | ⟨fr, H⟩ => getK fr 0 fun t0 => getK fr 3 fun t3 => binK .gtr t0 (.int .i64 (.ofNat 0)) fun v0 => gK v0 false (fun q' => q' t3 H τ) H τ fun v1 H2 τ3 => gK v0 false (fun q' => binK .eql v1 (.str []) fun v => q' v H2 τ3) H2 τ3 fun v4 H5 τ6 => someK (pPick [v0, (.bool true), v4]) fun v7 => condK v7 (binK .rem t0 (.int .i64 (.ofNat 10)) fun v8 => binK .add v8 (.int .i64 (.ofNat 1)) fun v9 => someK (pStrSlice true true [(.str (bs [48, 49, 50, 51, 52, 53, 54, 55, 56, 57])), v8, v9]) fun v10 => binK .add v10 t3 fun v11 => binK .quo t0 (.int .i64 (.ofNat 10)) fun v12 => k .normal ⟨(T.set (T.set (T.set (T.set (T.set .leaf 0 t0) 3 v11) 19 t0) 20 v12) 0 v12), H5⟩ τ6) (k (.exit 0) ⟨(T.set .leaf 3 t3), H5⟩ τ6)
def s_law21_digits (call : CallK) (N : Nat) (a0 : V) (H : Heap) (τ : Tape) (q : KV) : Ans := loopK (s_law21_digits_l1 call N) N ⟨(T.set (T.set .leaf 0 a0) 3 (.str [])), H⟩ τ (blockK 0 (seqK (s_law21_digits_j0 call N q) (endK [(.t 2)] q)))
theorem s_law21_digits_eq (call : CallK) (N : Nat) (a0 : V) (H : Heap) (τ : Tape) (q : KV) : s_law21_digits call N a0 H τ q = funK call N fn_law21_digits [a0] H τ q := by kernel_rfl
def e_law21_digits (call : CallK) (N : Nat) (vs : List V) (H : Heap) (τ : Tape) (q : KV) : Ans := match vs with | [a0] => s_law21_digits call N a0 H τ q | _ => none
theorem e_law21_digits_ok : EntOk fn_law21_digits e_law21_digits := by
  intro call N vs H τ q r h
  unfold e_law21_digits at h
  split at h
  · rw [s_law21_digits_eq] at h; exact h
  · cases h
theorem e_law21_digits_nat : EntNat e_law21_digits := by
  intro c hn N vs H τ q
  unfold e_law21_digits
  split
  · rw [s_law21_digits_eq, s_law21_digits_eq]; exact funK_ent hn _ _ _ _ _ _
  · rfl
/-- ostiary/ostiarylaw21.known -/
def fn_law21_known : Fun := ⟨0, (.seq (.reg [iR 0 (.p .mv) [(.c (.bool false))]]) (.keep [] (.seq (.reg [iR 4 (.call 7) [], iR 1 (.p .mv) [(.t 4)]]) (.keep [1] (.seq (.seq (.reg [iR 5 (.p .mv) [(.t 1)], iR 6 (.l (.peq false)) [(.t 5), (.c .nilp)]]) (.keep [1, 6] (.cond (.t 6) (.seq (.reg [iR 0 (.p .mv) [(.c (.bool false))]]) (.keep [0] (.keep [0] .ret))) .skip))) (.keep [1] (.seq (.reg [iR 8 (.p .mv) [(.t 1)], iR 9 (.call 10) [(.c (.str (bs [104, 116, 116, 112, 115, 58, 47, 47, 97])))], iR 10 (.e (.buildSlice 3 1 [(.int .u8 (.ofNat 0)), (.int .u8 (.ofNat 0)), (.int .u8 (.ofNat 0))] [(0, 1), (1, 1), (2, 1)])) [(.c (.int .u8 (.ofNat 97))), (.c (.int .u8 (.ofNat 98))), (.c (.int .u8 (.ofNat 99)))], iR 11 (.e .mark) [(.t 10)], iR 12 (.call 9) [(.t 8), (.t 9), (.c (.str (bs [116, 101, 120, 116, 47, 112, 108, 97, 105, 110]))), (.t 11)], iR 7 (.p .mv) [(.t 12)],
    iR 13 (.p (.extract 0)) [(.t 7)], iR 14 (.p (.extract 1)) [(.t 7)], iR 2 (.p .mv) [(.t 13)], iR 3 (.p .mv) [(.t 14)]]) (.keep [1, 2, 3] (.seq (.reg [iR 15 (.p .mv) [(.t 2)], iR 16 (.p (.bin .eql)) [(.t 15), (.c (.str (bs [98, 108, 111, 98, 58, 104, 116, 116, 112, 115, 58, 47, 47, 97, 47, 49])))], iR 17 (.p .mv) [(.t 16)], iG 18 17 true (.p .mv) [(.t 3)], iG 19 17 true (.p (.bin .eql)) [(.t 18), (.c (.int .i64 (.ofNat 0)))], iR 20 (.p .pick) [(.t 17), (.t 19), (.c (.bool false))], iR 21 (.p .mv) [(.t 20)], iG 22 21 true (.p .mv) [(.t 1)], iG 23 21 true (.p .mv) [(.t 2)], iG 24 21 true (.call 33) [(.t 22), (.t 23), (.c (.str (bs [98, 121, 116, 101, 115, 61, 49, 45]))), (.c (.bool true))], iG 25 21 true (.p (.bin .eql)) [(.t 24), (.c (.str (bs [98, 99, 124, 98, 121, 116, 101, 115, 32, 49, 45, 50, 47, 51])))], iR 26 (.p .pick) [(.t 21), (.t 25), (.c (.bool false))],
    iR 27 (.p .mv) [(.t 26)], iG 28 27 true (.p .mv) [(.t 1)], iG 29 27 true (.p .mv) [(.t 2)], iG 30 27 true (.call 33) [(.t 28), (.t 29), (.c (.str (bs [98, 121, 116, 101, 115, 61, 51, 45]))), (.c (.bool true))], iG 31 27 true (.p (.bin .eql)) [(.t 30), (.c (.str (bs [110, 111, 110, 101])))], iR 32 (.p .pick) [(.t 27), (.t 31), (.c (.bool false))], iR 33 (.p .mv) [(.t 32)], iG 34 33 true (.p .mv) [(.t 1)], iG 35 33 true (.p .mv) [(.t 2)], iG 36 33 true (.p (.bin .add)) [(.t 35), (.c (.str (bs [35, 120])))], iG 37 33 true (.call 33) [(.t 34), (.t 36), (.c (.str [])), (.c (.bool false))], iG 38 33 true (.p (.bin .eql)) [(.t 37), (.c (.str (bs [97, 98, 99])))], iR 39 (.p .pick) [(.t 33), (.t 38), (.c (.bool false))], iR 0 (.p .mv) [(.t 39)]]) (.keep [0] (.keep [0] .ret))))))))))), [(.t 0)]⟩
def s_law21_known (call : CallK) (N : Nat) (H : Heap) (τ : Tape) (q : KV) : Ans := funK call N fn_law21_known [] H τ q
theorem s_law21_known_eq (call : CallK) (N : Nat) (H : Heap) (τ : Tape) (q : KV) : s_law21_known call N  H τ q = funK call N fn_law21_known [] H τ q := by kernel_rfl
def e_law21_known (call : CallK) (N : Nat) (vs : List V) (H : Heap) (τ : Tape) (q : KV) : Ans := match vs with | [] => s_law21_known call N  H τ q | _ => none
theorem e_law21_known_ok : EntOk fn_law21_known e_law21_known := by
  intro call N vs H τ q r h
  unfold e_law21_known at h
  split at h
  · rw [s_law21_known_eq] at h; exact h
  · cases h
theorem e_law21_known_nat : EntNat e_law21_known := by
  intro c hn N vs H τ q
  unfold e_law21_known
  split
  · rw [s_law21_known_eq, s_law21_known_eq]; exact funK_ent hn _ _ _ _ _ _
  · rfl
/-- (*ostiary/blob.Store).Read -/
def fn_blob_Store_Read : Fun := ⟨4, (.seq (.reg [iR 8 (.e (.alloc [(.int .i64 (.ofNat 0)), .nils, .nils])) [], iR 9 (.p .mv) [(.c (.bool false))]]) (.keep [0, 1, 2, 3, 8] (.seq (.reg [iR 17 (.p .mv) [(.t 1)], iR 18 (.call 34) [(.t 17), (.c (.str (bs [35])))], iR 16 (.p .mv) [(.t 18)], iR 19 (.p (.extract 0)) [(.t 16)], iR 20 (.p (.extract 1)) [(.t 16)], iR 21 (.p (.extract 2)) [(.t 16)], iR 1 (.p .mv) [(.t 19)]]) (.keep [0, 1, 2, 3, 8] (.seq (.reg [iR 23 (.p .mv) [(.t 0)], iR 24 (.p .nilck) [(.t 23)], iR 25 (.p (.fieldAddr 0)) [(.t 24)], iR 26 (.l (.load none)) [(.t 25)], iR 27 (.p .mv) [(.t 1)], iR 28 (.l (.mlook (.agg [(.str []), .nils]) true)) [(.t 26), (.t 27)], iR 22 (.p .mv) [(.t 28)], iR 29 (.p (.extract 0)) [(.t 22)], iR 30 (.p (.extract 1)) [(.t 22)], iR 10 (.e (.alloc [(.str []), .nils])) [], ⟨none, none, (.e (.store 2)), [(.t 10), (.t 29)], none⟩,
    iR 11 (.p .mv) [(.t 30)]]) (.keep [2, 3, 8, 10, 11] (.seq (.seq (.reg [iR 31 (.p .mv) [(.t 11)], iR 32 (.p (.un .not)) [(.t 31)]]) (.keep [2, 3, 8, 10, 32] (.cond (.t 32) (.seq (.reg [iR 33 (.p (.build [(.int .i64 (.ofNat 0)), .nils, .nils] [])) [], ⟨none, none, (.e (.store 3)), [(.t 8), (.t 33)], none⟩, iR 9 (.p .mv) [(.c (.bool false))]]) (.keep [8, 9] (.keep [8, 9] .ret))) .skip))) (.keep [2, 3, 8, 10] (.seq (.seq (.reg [iR 34 (.p .mv) [(.t 3)], iR 35 (.p (.un .not)) [(.t 34)]]) (.keep [2, 8, 10, 35] (.cond (.t 35) (.seq (.reg [iR 36 (.l (.load (some 2))) [(.t 10)], iR 37 (.p (.fieldAddr 1)) [(.t 10)], iR 38 (.l (.load none)) [(.t 37)], iR 39 (.p .len) [(.t 38)], iR 40 (.call 35) [(.c (.int .i64 (.ofNat 200))), (.t 36), (.c (.int .i64 (.ofNat 0))), (.t 39)], ⟨none, none, (.e (.store 3)), [(.t 8), (.t 40)], none⟩, iR 9 (.p .mv) [(.c (.bool true))]])
    (.keep [8, 9] (.keep [8, 9] .ret))) .skip))) (.keep [2, 8, 10] (.seq (.reg [iR 41 (.p (.fieldAddr 1)) [(.t 10)], iR 42 (.l (.load none)) [(.t 41)], iR 43 (.p .len) [(.t 42)], iR 12 (.p .mv) [(.t 43)]]) (.keep [2, 8, 10, 12] (.seq (.reg [iR 45 (.p .mv) [(.t 2)], iR 46 (.call 36) [(.t 45)], iR 44 (.p .mv) [(.t 46)], iR 47 (.p (.extract 0)) [(.t 44)], iR 48 (.p (.extract 1)) [(.t 44)], iR 49 (.p (.extract 2)) [(.t 44)], iR 13 (.p .mv) [(.t 47)], iR 14 (.p .mv) [(.t 48)], iR 11 (.p .mv) [(.t 49)]]) (.keep [8, 10, 11, 12, 13, 14] (.seq (.block 0 (.seq (.reg [iR 51 (.p .mv) [(.t 11)], iR 52 (.p (.un .not)) [(.t 51)], iR 50 (.p .mv) [(.t 52)]]) (.keep [8, 10, 12, 13, 14, 50] (.cond (.t 50) (.seq (.reg [iR 53 (.p (.build [(.int .i64 (.ofNat 0)), .nils, .nils] [])) [], ⟨none, none, (.e (.store 3)), [(.t 8), (.t 53)], none⟩, iR 9 (.p .mv) [(.c (.bool false))]])
    (.keep [8, 9] (.keep [8, 9] .ret))) (.seq (.reg [iR 55 (.p .mv) [(.t 13)], iR 56 (.p (.bin .lss)) [(.t 55), (.c (.int .i64 (.ofNat 0)))], iR 54 (.p .mv) [(.t 56)]]) (.keep [8, 10, 12, 13, 14, 54] (.cond (.t 54) (.reg [iR 57 (.p .mv) [(.t 12)], iR 58 (.p .mv) [(.t 14)], iR 59 (.p (.bin .sub)) [(.t 57), (.t 58)], iR 60 (.p .max2) [(.t 59), (.c (.int .i64 (.ofNat 0)))], iR 61 (.p .mv) [(.t 12)], iR 62 (.p (.bin .sub)) [(.t 61), (.c (.int .i64 (.ofNat 1)))], iR 13 (.p .mv) [(.t 60)], iR 14 (.p .mv) [(.t 62)]]) (.seq (.reg [iR 64 (.p .mv) [(.t 14)], iR 65 (.p (.bin .lss)) [(.t 64), (.c (.int .i64 (.ofNat 0)))], iR 63 (.p .mv) [(.t 65)]]) (.keep [8, 10, 12, 13, 14, 63] (.cond (.t 63) (.reg [iR 66 (.p .mv) [(.t 12)], iR 67 (.p (.bin .sub)) [(.t 66), (.c (.int .i64 (.ofNat 1)))], iR 14 (.p .mv) [(.t 67)]]) .skip)))))))))) (.keep [8, 10, 12, 13, 14] (.seq (.reg [iR 68 (.p .mv) [(.t 14)],
    iR 69 (.p .mv) [(.t 12)], iR 70 (.p (.bin .sub)) [(.t 69), (.c (.int .i64 (.ofNat 1)))], iR 71 (.p .min2) [(.t 68), (.t 70)], iR 14 (.p .mv) [(.t 71)]]) (.keep [8, 10, 12, 13, 14] (.seq (.seq (.reg [iR 72 (.p .mv) [(.t 13)], iR 73 (.p .mv) [(.t 14)], iR 74 (.p (.bin .gtr)) [(.t 72), (.t 73)]]) (.keep [8, 10, 12, 13, 14, 74] (.cond (.t 74) (.seq (.reg [iR 75 (.p (.build [(.int .i64 (.ofNat 0)), .nils, .nils] [])) [], ⟨none, none, (.e (.store 3)), [(.t 8), (.t 75)], none⟩, iR 9 (.p .mv) [(.c (.bool false))]]) (.keep [8, 9] (.keep [8, 9] .ret))) .skip))) (.keep [8, 10, 12, 13, 14] (.seq (.reg [iR 76 (.l (.load (some 2))) [(.t 10)], iR 77 (.p .mv) [(.t 13)], iR 78 (.p .mv) [(.t 14)], iR 79 (.p (.bin .add)) [(.t 78), (.c (.int .i64 (.ofNat 1)))], iR 80 (.call 35) [(.c (.int .i64 (.ofNat 206))), (.t 76), (.t 77), (.t 79)], iR 15 (.e (.alloc [(.int .i64 (.ofNat 0)), .nils, .nils])) [],
    ⟨none, none, (.e (.store 3)), [(.t 15), (.t 80)], none⟩]) (.keep [8, 12, 13, 14, 15] (.seq (.draw [iR 81 (.p (.fieldAddr 1)) [(.t 15)], ⟨(some 82), none, (.l (.load none)), [(.t 81)], some (0, 4)⟩, iR 83 (.p .mv) [(.t 13)], iR 84 (.call 37) [(.t 83)], iR 85 (.p (.bin .add)) [(.c (.str (bs [98, 121, 116, 101, 115, 32]))), (.t 84)], iR 86 (.p (.bin .add)) [(.t 85), (.c (.str (bs [45])))], iR 87 (.p .mv) [(.t 14)], iR 88 (.call 37) [(.t 87)], iR 89 (.p (.bin .add)) [(.t 86), (.t 88)], iR 90 (.p (.bin .add)) [(.t 89), (.c (.str (bs [47])))], iR 91 (.p .mv) [(.t 12)], iR 92 (.call 37) [(.t 91)], iR 93 (.p (.bin .add)) [(.t 90), (.t 92)], iR 94 (.p (.build [(.str []), (.str [])] [(0, 1), (1, 1)])) [(.c (.str (bs [99, 111, 110, 116, 101, 110, 116, 45, 114, 97, 110, 103, 101]))), (.t 93)], iR 95 (.e (.buildSlice 1 2 [(.str []), (.str [])] [(0, 2)])) [(.t 94)],
    iR 96 (.e (.append 2 32)) [(.t 82), (.t 95)], iR 97 (.p (.fieldAddr 1)) [(.t 15)], ⟨none, none, (.e (.store 1)), [(.t 97), (.t 96)], none⟩]) (.keep [8, 15] (.seq (.reg [iR 98 (.l (.load (some 3))) [(.t 15)], ⟨none, none, (.e (.store 3)), [(.t 8), (.t 98)], none⟩, iR 9 (.p .mv) [(.c (.bool true))]]) (.keep [8, 9] (.keep [8, 9] .ret))))))))))))))))))))))))))), [(.cell 8 (some 3)), (.t 9)]⟩
def s_blob_Store_Read_j0 (call : CallK) (N : Nat) (q : KV) (st : St) (τ : Tape) : Ans := match st with
  | ⟨fr, H⟩ => getK fr 8 fun t8 => getK fr 10 fun t10 => getK fr 12 fun t12 => getK fr 13 fun t13 => getK fr 14 fun t14 => binK .sub t12 (.int .i64 (.ofNat 1)) fun v46 => someK (pMin [t14, v46]) fun v47 => binK .gtr t13 v47 fun v48 => condK v48 (someK (pBuild [(.int .i64 (.ofNat 0)), .nils, .nils] [] []) fun v49 => effK (eStore 3 [t8, v49] H τ) fun v50 H51 τ52 => someK (results ⟨(T.set (T.set .leaf 8 t8) 9 (.bool false)), H51⟩ [(.cell 8 (some 3)), (.t 9)]) fun v => q v H51 τ52) (someK (lLoadN 2 [t10] H) fun v53 => binK .add v47 (.int .i64 (.ofNat 1)) fun v54 => call f_blob_reply [(.int .i64 (.ofNat 206)), v53, t13, v54] H τ fun v55 H56 τ57 => effK (eAlloc [(.int .i64 (.ofNat 0)), .nils, .nils] [] H56 τ57) fun v58 H59 τ60 => effK (eStore 3 [v58, v55] H59 τ60) fun v61 H62 τ63 => someK (pFieldAddr 1 [v58]) fun v64 => someK (lLoad1 [v64] H62) fun v65 =>
    call f_blob_number [t13] H62 τ63 fun v66 H67 τ68 => binK .add (.str (bs [98, 121, 116, 101, 115, 32])) v66 fun v69 => binK .add v69 (.str (bs [45])) fun v70 => call f_blob_number [v47] H67 τ68 fun v71 H72 τ73 => binK .add v70 v71 fun v74 => binK .add v74 (.str (bs [47])) fun v75 => call f_blob_number [t12] H72 τ73 fun v76 H77 τ78 => binK .add v75 v76 fun v79 => someK (pBuild [(.str []), (.str [])] [(0, 1), (1, 1)] [(.str (bs [99, 111, 110, 116, 101, 110, 116, 45, 114, 97, 110, 103, 101])), v79]) fun v80 => effK (eBuildSlice 1 2 [(.str []), (.str [])] [(0, 2)] [v80] H77 τ78) fun v81 H82 τ83 => effK (eAppend 2 32 [v65, v81] H82 τ83) fun v84 H85 τ86 => someK (pFieldAddr 1 [v58]) fun v87 => effK (eStore 1 [v87, v84] H85 τ86) fun v88 H89 τ90 => bif chkLoads [H62, H67, H72, H77, H82, H85, H89] (((.load none), [v64], 0, 4) :: []) then someK (lLoadN 3 [v58] H89) fun v91 =>
    effK (eStore 3 [t8, v91] H89 τ90) fun v92 H93 τ94 => someK (results ⟨(T.set (T.set .leaf 8 t8) 9 (.bool true)), H93⟩ [(.cell 8 (some 3)), (.t 9)]) fun v => q v H93 τ94 else none)
def s_blob_Store_Read (call : CallK) (N : Nat) (a0 a1 a2 a3 : V) (H : Heap) (τ : Tape) (q : KV) : Ans := effK (eAlloc [(.int .i64 (.ofNat 0)), .nils, .nils] [] H τ) fun v0 H1 τ2 => call f_strings_Cut [a1, (.str (bs [35]))] H1 τ2 fun v3 H4 τ5 => someK (pExtract 0 [v3]) fun v6 => someK (pExtract 1 [v3]) fun v7 => someK (pExtract 2 [v3]) fun v8 => someK (pNilck [a0]) fun v9 => someK (pFieldAddr 0 [v9]) fun v10 => someK (lLoad1 [v10] H4) fun v11 => someK (lLook (.agg [(.str []), .nils]) true [v11, v6] H4) fun v12 => someK (pExtract 0 [v12]) fun v13 => someK (pExtract 1 [v12]) fun v14 => effK (eAlloc [(.str []), .nils] [] H4 τ5) fun v15 H16 τ17 => effK (eStore 2 [v15, v13] H16 τ17) fun v18 H19 τ20 => unK .not v14 fun v21 => condK v21 (someK (pBuild [(.int .i64 (.ofNat 0)), .nils, .nils] [] []) fun v22 => effK (eStore 3 [v0, v22] H19 τ20) fun v23 H24 τ25 =>
    someK (results ⟨(T.set (T.set .leaf 8 v0) 9 (.bool false)), H24⟩ [(.cell 8 (some 3)), (.t 9)]) fun v => q v H24 τ25) (unK .not a3 fun v26 => condK v26 (someK (lLoadN 2 [v15] H19) fun v27 => someK (pFieldAddr 1 [v15]) fun v28 => someK (lLoad1 [v28] H19) fun v29 => someK (pLen [v29]) fun v30 => call f_blob_reply [(.int .i64 (.ofNat 200)), v27, (.int .i64 (.ofNat 0)), v30] H19 τ20 fun v31 H32 τ33 => effK (eStore 3 [v0, v31] H32 τ33) fun v34 H35 τ36 => someK (results ⟨(T.set (T.set .leaf 8 v0) 9 (.bool true)), H35⟩ [(.cell 8 (some 3)), (.t 9)]) fun v => q v H35 τ36) (someK (pFieldAddr 1 [v15]) fun v37 => someK (lLoad1 [v37] H19) fun v38 => someK (pLen [v38]) fun v39 => call f_headers_Range [a2] H19 τ20 fun v40 H41 τ42 => someK (pExtract 0 [v40]) fun v43 => someK (pExtract 1 [v40]) fun v44 => someK (pExtract 2 [v40]) fun v45 => unK .not v45 fun v95 => condK v95
    (someK (pBuild [(.int .i64 (.ofNat 0)), .nils, .nils] [] []) fun v96 => effK (eStore 3 [v0, v96] H41 τ42) fun v97 H98 τ99 => someK (results ⟨(T.set (T.set .leaf 8 v0) 9 (.bool false)), H98⟩ [(.cell 8 (some 3)), (.t 9)]) fun v => q v H98 τ99) (binK .lss v43 (.int .i64 (.ofNat 0)) fun v100 => condK v100 (binK .sub v39 v44 fun v101 => someK (pMax [v101, (.int .i64 (.ofNat 0))]) fun v102 => binK .sub v39 (.int .i64 (.ofNat 1)) fun v103 => s_blob_Store_Read_j0 call N q ⟨(T.set (T.set (T.set (T.set (T.set (T.set (T.set (T.set (T.set (T.set (T.set (T.set (T.set (T.set .leaf 8 v0) 10 v15) 12 v39) 13 v43) 14 v44) 54 v100) 57 v39) 58 v44) 59 v101) 60 v102) 61 v39) 62 v103) 13 v102) 14 v103), H41⟩ τ42) (binK .lss v44 (.int .i64 (.ofNat 0)) fun v104 => condK v104 (binK .sub v39 (.int .i64 (.ofNat 1)) fun v105 =>
    s_blob_Store_Read_j0 call N q ⟨(T.set (T.set (T.set (T.set (T.set (T.set (T.set (T.set (T.set .leaf 8 v0) 10 v15) 12 v39) 13 v43) 14 v44) 63 v104) 66 v39) 67 v105) 14 v105), H41⟩ τ42) (s_blob_Store_Read_j0 call N q ⟨(T.set (T.set (T.set (T.set (T.set (T.set .leaf 8 v0) 10 v15) 12 v39) 13 v43) 14 v44) 63 v104), H41⟩ τ42)))))
theorem s_blob_Store_Read_eq (call : CallK) (N : Nat) (a0 a1 a2 a3 : V) (H : Heap) (τ : Tape) (q : KV) : s_blob_Store_Read call N a0 a1 a2 a3 H τ q = funK call N fn_blob_Store_Read [a0, a1, a2, a3] H τ q := by kernel_rfl
def e_blob_Store_Read (call : CallK) (N : Nat) (vs : List V) (H : Heap) (τ : Tape) (q : KV) : Ans := match vs with | [a0, a1, a2, a3] => s_blob_Store_Read call N a0 a1 a2 a3 H τ q | _ => none
theorem e_blob_Store_Read_ok : EntOk fn_blob_Store_Read e_blob_Store_Read := by
  intro call N vs H τ q r h
  unfold e_blob_Store_Read at h
  split at h
  · rw [s_blob_Store_Read_eq] at h; exact h
  · cases h
theorem e_blob_Store_Read_nat : EntNat e_blob_Store_Read := by
  intro c hn N vs H τ q
  unfold e_blob_Store_Read
  split
  · rw [s_blob_Store_Read_eq, s_blob_Store_Read_eq]; exact funK_ent hn _ _ _ _ _ _
  · rfl
/-- (*ostiary/blob.Store).Drop -/
def fn_blob_Store_Drop : Fun := ⟨2, (.seq (.reg [iR 4 (.p .mv) [(.c (.bool false))]]) (.keep [0, 1] (.seq (.reg [iR 8 (.p .mv) [(.t 0)], iR 9 (.p .nilck) [(.t 8)], iR 10 (.p (.fieldAddr 0)) [(.t 9)], iR 11 (.l (.load none)) [(.t 10)], iR 12 (.p .mv) [(.t 1)], iR 13 (.l (.mlook (.agg [(.str []), .nils]) true)) [(.t 11), (.t 12)], iR 7 (.p .mv) [(.t 13)], iR 14 (.p (.extract 0)) [(.t 7)], iR 15 (.p (.extract 1)) [(.t 7)], iR 5 (.e (.alloc [(.str []), .nils])) [], ⟨none, none, (.e (.store 2)), [(.t 5), (.t 14)], none⟩, iR 6 (.p .mv) [(.t 15)]]) (.keep [0, 1, 6] (.seq (.reg [iR 16 (.p .mv) [(.t 0)], iR 17 (.p .nilck) [(.t 16)], iR 18 (.p (.fieldAddr 0)) [(.t 17)], iR 19 (.l (.load none)) [(.t 18)], iR 20 (.p .mv) [(.t 1)], ⟨none, none, (.e .mdel), [(.t 19), (.t 20)], none⟩]) (.keep [6] (.seq (.reg [iR 21 (.p .mv) [(.t 6)], iR 4 (.p .mv) [(.t 21)]]) (.keep [4] (.keep [4] .ret))))))))),
    [(.t 4)]⟩
def s_blob_Store_Drop (call : CallK) (N : Nat) (a0 a1 : V) (H : Heap) (τ : Tape) (q : KV) : Ans := someK (pNilck [a0]) fun v0 => someK (pFieldAddr 0 [v0]) fun v1 => someK (lLoad1 [v1] H) fun v2 => someK (lLook (.agg [(.str []), .nils]) true [v2, a1] H) fun v3 => someK (pExtract 0 [v3]) fun v4 => someK (pExtract 1 [v3]) fun v5 => effK (eAlloc [(.str []), .nils] [] H τ) fun v6 H7 τ8 => effK (eStore 2 [v6, v4] H7 τ8) fun v9 H10 τ11 => someK (pNilck [a0]) fun v12 => someK (pFieldAddr 0 [v12]) fun v13 => someK (lLoad1 [v13] H10) fun v14 => effK (eMdel [v14, a1] H10 τ11) fun v15 H16 τ17 => q v5 H16 τ17
theorem s_blob_Store_Drop_eq (call : CallK) (N : Nat) (a0 a1 : V) (H : Heap) (τ : Tape) (q : KV) : s_blob_Store_Drop call N a0 a1 H τ q = funK call N fn_blob_Store_Drop [a0, a1] H τ q := by kernel_rfl
def e_blob_Store_Drop (call : CallK) (N : Nat) (vs : List V) (H : Heap) (τ : Tape) (q : KV) : Ans := match vs with | [a0, a1] => s_blob_Store_Drop call N a0 a1 H τ q | _ => none
theorem e_blob_Store_Drop_ok : EntOk fn_blob_Store_Drop e_blob_Store_Drop := by
  intro call N vs H τ q r h
  unfold e_blob_Store_Drop at h
  split at h
  · rw [s_blob_Store_Drop_eq] at h; exact h
  · cases h
theorem e_blob_Store_Drop_nat : EntNat e_blob_Store_Drop := by
  intro c hn N vs H τ q
  unfold e_blob_Store_Drop
  split
  · rw [s_blob_Store_Drop_eq, s_blob_Store_Drop_eq]; exact funK_ent hn _ _ _ _ _ _
  · rfl
/-- (*ostiary/blob.Store).Len -/
def fn_blob_Store_Len : Fun := ⟨1, (.seq (.reg [iR 2 (.p .mv) [(.c (.int .i64 (.ofNat 0)))]]) (.keep [0] (.seq (.reg [iR 3 (.p .mv) [(.t 0)], iR 4 (.p .nilck) [(.t 3)], iR 5 (.p (.fieldAddr 0)) [(.t 4)], iR 6 (.l (.load none)) [(.t 5)], iR 7 (.l .mlen) [(.t 6)], iR 2 (.p .mv) [(.t 7)]]) (.keep [2] (.keep [2] .ret))))), [(.t 2)]⟩
def s_blob_Store_Len (call : CallK) (N : Nat) (a0 : V) (H : Heap) (τ : Tape) (q : KV) : Ans := someK (pNilck [a0]) fun v0 => someK (pFieldAddr 0 [v0]) fun v1 => someK (lLoad1 [v1] H) fun v2 => someK (lMlen [v2] H) fun v3 => q v3 H τ
theorem s_blob_Store_Len_eq (call : CallK) (N : Nat) (a0 : V) (H : Heap) (τ : Tape) (q : KV) : s_blob_Store_Len call N a0 H τ q = funK call N fn_blob_Store_Len [a0] H τ q := by kernel_rfl
def e_blob_Store_Len (call : CallK) (N : Nat) (vs : List V) (H : Heap) (τ : Tape) (q : KV) : Ans := match vs with | [a0] => s_blob_Store_Len call N a0 H τ q | _ => none
theorem e_blob_Store_Len_ok : EntOk fn_blob_Store_Len e_blob_Store_Len := by
  intro call N vs H τ q r h
  unfold e_blob_Store_Len at h
  split at h
  · rw [s_blob_Store_Len_eq] at h; exact h
  · cases h
theorem e_blob_Store_Len_nat : EntNat e_blob_Store_Len := by
  intro c hn N vs H τ q
  unfold e_blob_Store_Len
  split
  · rw [s_blob_Store_Len_eq, s_blob_Store_Len_eq]; exact funK_ent hn _ _ _ _ _ _
  · rfl
/-- ostiary/headers.Value -/
def fn_headers_Value : Fun := ⟨1, (.seq (.reg [iR 2 (.p .mv) [(.c (.str []))], iR 3 (.p .mv) [(.c (.bool false))]]) (.keep [0] (.seq (.reg [iR 4 (.p .mv) [(.t 0)], iR 5 (.call 47) [(.t 4), (.c (.str (bs [9, 10, 13, 32])))], iR 0 (.p .mv) [(.t 5)]]) (.keep [0] (.seq (.seq (.reg [iR 6 (.p .mv) [(.t 0)], iR 7 (.call 48) [(.t 6), (.c (.str (bs [0, 10, 13])))]]) (.keep [0, 7] (.cond (.t 7) (.seq (.reg [iR 2 (.p .mv) [(.c (.str []))], iR 3 (.p .mv) [(.c (.bool false))]]) (.keep [2, 3] (.keep [2, 3] .ret))) .skip))) (.keep [0] (.seq (.reg [iR 8 (.p .mv) [(.t 0)], iR 2 (.p .mv) [(.t 8)], iR 3 (.p .mv) [(.c (.bool true))]]) (.keep [2, 3] (.keep [2, 3] .ret))))))))), [(.t 2), (.t 3)]⟩
def s_headers_Value (call : CallK) (N : Nat) (a0 : V) (H : Heap) (τ : Tape) (q : KV) : Ans := call f_strings_Trim [a0, (.str (bs [9, 10, 13, 32]))] H τ fun v0 H1 τ2 => call f_strings_ContainsAny [v0, (.str (bs [0, 10, 13]))] H1 τ2 fun v3 H4 τ5 => condK v3 (q (.tup [(.str []), (.bool false)]) H4 τ5) (q (.tup [v0, (.bool true)]) H4 τ5)
theorem s_headers_Value_eq (call : CallK) (N : Nat) (a0 : V) (H : Heap) (τ : Tape) (q : KV) : s_headers_Value call N a0 H τ q = funK call N fn_headers_Value [a0] H τ q := by kernel_rfl
def e_headers_Value (call : CallK) (N : Nat) (vs : List V) (H : Heap) (τ : Tape) (q : KV) : Ans := match vs with | [a0] => s_headers_Value call N a0 H τ q | _ => none
theorem e_headers_Value_ok : EntOk fn_headers_Value e_headers_Value := by
  intro call N vs H τ q r h
  unfold e_headers_Value at h
  split at h
  · rw [s_headers_Value_eq] at h; exact h
  · cases h
theorem e_headers_Value_nat : EntNat e_headers_Value := by
  intro c hn N vs H τ q
  unfold e_headers_Value
  split
  · rw [s_headers_Value_eq, s_headers_Value_eq]; exact funK_ent hn _ _ _ _ _ _
  · rfl
/-- ostiary/origin.Text -/
def fn_origin_Text : Fun := ⟨1, (.seq (.reg [iR 1 (.e .box) [(.t 0)], iR 2 (.p .mv) [(.c (.str []))]]) (.keep [1] (.seq (.seq (.reg [iR 4 (.p (.fieldAddr 3)) [(.t 1)], iR 5 (.l (.load none)) [(.t 4)]]) (.keep [1, 5] (.cond (.t 5) (.seq (.reg [iR 2 (.p .mv) [(.c (.str (bs [110, 117, 108, 108])))]]) (.keep [2] (.keep [2] .ret))) .skip))) (.keep [1] (.seq (.reg [iR 6 (.p (.fieldAddr 0)) [(.t 1)], iR 7 (.l (.load none)) [(.t 6)], iR 8 (.p (.bin .add)) [(.t 7), (.c (.str (bs [58, 47, 47])))], iR 9 (.p (.fieldAddr 1)) [(.t 1)], iR 10 (.l (.load none)) [(.t 9)], iR 11 (.p (.bin .add)) [(.t 8), (.t 10)], iR 3 (.p .mv) [(.t 11)]]) (.keep [1, 3] (.seq (.seq (.draw [iR 12 (.p (.fieldAddr 2)) [(.t 1)], ⟨(some 13), none, (.l (.load none)), [(.t 12)], some (0, 1)⟩, iR 14 (.p (.fieldAddr 0)) [(.t 1)], iR 15 (.l (.load none)) [(.t 14)], iR 16 (.call 49) [(.t 15)],
    iR 17 (.p (.bin .neq)) [(.t 13), (.t 16)]]) (.keep [1, 3, 17] (.cond (.t 17) (.reg [iR 18 (.p .mv) [(.t 3)], iR 19 (.p (.fieldAddr 2)) [(.t 1)], iR 20 (.l (.load none)) [(.t 19)], iR 21 (.call 29) [(.t 20)], iR 22 (.p (.bin .add)) [(.c (.str (bs [58]))), (.t 21)], iR 23 (.p (.bin .add)) [(.t 18), (.t 22)], iR 3 (.p .mv) [(.t 23)]]) .skip))) (.keep [3] (.seq (.reg [iR 24 (.p .mv) [(.t 3)], iR 2 (.p .mv) [(.t 24)]]) (.keep [2] (.keep [2] .ret))))))))))), [(.t 2)]⟩
def s_origin_Text (call : CallK) (N : Nat) (a0 : V) (H : Heap) (τ : Tape) (q : KV) : Ans := funK call N fn_origin_Text [a0] H τ q
theorem s_origin_Text_eq (call : CallK) (N : Nat) (a0 : V) (H : Heap) (τ : Tape) (q : KV) : s_origin_Text call N a0 H τ q = funK call N fn_origin_Text [a0] H τ q := by kernel_rfl
def e_origin_Text (call : CallK) (N : Nat) (vs : List V) (H : Heap) (τ : Tape) (q : KV) : Ans := match vs with | [a0] => s_origin_Text call N a0 H τ q | _ => none
theorem e_origin_Text_ok : EntOk fn_origin_Text e_origin_Text := by
  intro call N vs H τ q r h
  unfold e_origin_Text at h
  split at h
  · rw [s_origin_Text_eq] at h; exact h
  · cases h
theorem e_origin_Text_nat : EntNat e_origin_Text := by
  intro c hn N vs H τ q
  unfold e_origin_Text
  split
  · rw [s_origin_Text_eq, s_origin_Text_eq]; exact funK_ent hn _ _ _ _ _ _
  · rfl
/-- strconv.Itoa -/
def fn_strconv_Itoa : Fun := ⟨1, (.seq (.reg [iR 2 (.p .mv) [(.c (.str []))]]) (.keep [0] (.seq (.reg [iR 3 (.p .mv) [(.t 0)], iR 4 (.call 50) [(.t 3)], iR 2 (.p .mv) [(.t 4)]]) (.keep [2] (.keep [2] .ret))))), [(.t 2)]⟩
def s_strconv_Itoa (call : CallK) (N : Nat) (a0 : V) (H : Heap) (τ : Tape) (q : KV) : Ans := funK call N fn_strconv_Itoa [a0] H τ q
theorem s_strconv_Itoa_eq (call : CallK) (N : Nat) (a0 : V) (H : Heap) (τ : Tape) (q : KV) : s_strconv_Itoa call N a0 H τ q = funK call N fn_strconv_Itoa [a0] H τ q := by kernel_rfl
def e_strconv_Itoa (call : CallK) (N : Nat) (vs : List V) (H : Heap) (τ : Tape) (q : KV) : Ans := match vs with | [a0] => s_strconv_Itoa call N a0 H τ q | _ => none
theorem e_strconv_Itoa_ok : EntOk fn_strconv_Itoa e_strconv_Itoa := by
  intro call N vs H τ q r h
  unfold e_strconv_Itoa at h
  split at h
  · rw [s_strconv_Itoa_eq] at h; exact h
  · cases h
theorem e_strconv_Itoa_nat : EntNat e_strconv_Itoa := by
  intro c hn N vs H τ q
  unfold e_strconv_Itoa
  split
  · rw [s_strconv_Itoa_eq, s_strconv_Itoa_eq]; exact funK_ent hn _ _ _ _ _ _
  · rfl
/-- slices.Clone[[]byte,byte] -/
def fn_slices_Clone_byte : Fun := ⟨1, (.seq (.reg [iR 2 (.p .mv) [(.c .nils)]]) (.keep [0] (.seq (.seq (.reg [iR 3 (.p .mv) [(.t 0)], iR 4 (.p (.eq false .slice)) [(.t 3), (.c .nils)]]) (.keep [0, 4] (.cond (.t 4) (.seq (.reg [iR 2 (.p .mv) [(.c .nils)]]) (.keep [2] (.keep [2] .ret))) .skip))) (.keep [0] (.seq (.reg [iR 5 (.e (.buildSlice 0 1 [] [])) [], iR 6 (.p .mv) [(.t 0)], iR 7 (.e (.append 1 1)) [(.t 5), (.t 6)], iR 2 (.p .mv) [(.t 7)]]) (.keep [2] (.keep [2] .ret))))))), [(.t 2)]⟩
def s_slices_Clone_byte (call : CallK) (N : Nat) (a0 : V) (H : Heap) (τ : Tape) (q : KV) : Ans := someK (pEq false .slice [a0, .nils]) fun v0 => condK v0 (q .nils H τ) (effK (eBuildSlice 0 1 [] [] [] H τ) fun v1 H2 τ3 => effK (eAppend 1 1 [v1, a0] H2 τ3) fun v4 H5 τ6 => q v4 H5 τ6)
theorem s_slices_Clone_byte_eq (call : CallK) (N : Nat) (a0 : V) (H : Heap) (τ : Tape) (q : KV) : s_slices_Clone_byte call N a0 H τ q = funK call N fn_slices_Clone_byte [a0] H τ q := by kernel_rfl
def e_slices_Clone_byte (call : CallK) (N : Nat) (vs : List V) (H : Heap) (τ : Tape) (q : KV) : Ans := match vs with | [a0] => s_slices_Clone_byte call N a0 H τ q | _ => none
theorem e_slices_Clone_byte_ok : EntOk fn_slices_Clone_byte e_slices_Clone_byte := by
  intro call N vs H τ q r h
  unfold e_slices_Clone_byte at h
  split at h
  · rw [s_slices_Clone_byte_eq] at h; exact h
  · cases h
theorem e_slices_Clone_byte_nat : EntNat e_slices_Clone_byte := by
  intro c hn N vs H τ q
  unfold e_slices_Clone_byte
  split
  · rw [s_slices_Clone_byte_eq, s_slices_Clone_byte_eq]; exact funK_ent hn _ _ _ _ _ _
  · rfl
/-- ostiary/ostiarykeep.URL -/
def fn_keep_URL : Fun := ⟨1, (.seq (.reg [iR 2 (.e (.alloc [(.str []), (.str []), (.str []), (.str []), (.bool false), (.int .i64 (.ofNat 0)), (.bool false), .nils, (.str []), (.str []), (.bool false), (.bool false)])) [], iR 3 (.p .mv) [(.c (.bool false))]]) (.keep [0, 2] (.seq (.reg [iR 7 (.p .mv) [(.t 0)], iR 8 (.call 52) [(.t 7), (.c (.int .i64 (.ofNat 300)))], iR 9 (.call 51) [(.t 8)], iR 6 (.p .mv) [(.t 9)], iR 10 (.p (.extract 0)) [(.t 6)], iR 11 (.p (.extract 1)) [(.t 6)], iR 4 (.e (.alloc [(.str []), (.str []), (.str []), (.str []), (.bool false), (.int .i64 (.ofNat 0)), (.bool false), .nils, (.str []), (.str []), (.bool false), (.bool false)])) [], ⟨none, none, (.e (.store 12)), [(.t 4), (.t 10)], none⟩, iR 5 (.p .mv) [(.t 11)]]) (.keep [2, 4, 5] (.seq (.reg [iR 12 (.l (.load (some 12))) [(.t 4)], iR 13 (.p .mv) [(.t 5)],
    iR 14 (.p (.bin .eql)) [(.t 13), (.c (.int .i64 (.ofNat 0)))], ⟨none, none, (.e (.store 12)), [(.t 2), (.t 12)], none⟩, iR 3 (.p .mv) [(.t 14)]]) (.keep [2, 3] (.keep [2, 3] .ret))))))), [(.cell 2 (some 12)), (.t 3)]⟩
def s_keep_URL (call : CallK) (N : Nat) (a0 : V) (H : Heap) (τ : Tape) (q : KV) : Ans := funK call N fn_keep_URL [a0] H τ q
theorem s_keep_URL_eq (call : CallK) (N : Nat) (a0 : V) (H : Heap) (τ : Tape) (q : KV) : s_keep_URL call N a0 H τ q = funK call N fn_keep_URL [a0] H τ q := by kernel_rfl
def e_keep_URL (call : CallK) (N : Nat) (vs : List V) (H : Heap) (τ : Tape) (q : KV) : Ans := match vs with | [a0] => s_keep_URL call N a0 H τ q | _ => none
theorem e_keep_URL_ok : EntOk fn_keep_URL e_keep_URL := by
  intro call N vs H τ q r h
  unfold e_keep_URL at h
  split at h
  · rw [s_keep_URL_eq] at h; exact h
  · cases h
theorem e_keep_URL_nat : EntNat e_keep_URL := by
  intro c hn N vs H τ q
  unfold e_keep_URL
  split
  · rw [s_keep_URL_eq, s_keep_URL_eq]; exact funK_ent hn _ _ _ _ _ _
  · rfl
/-- ostiary/ostiaryref4.Of -/
def fn_ref4_Of : Fun := ⟨1, (.seq (.reg [iR 1 (.e .box) [(.t 0)], iR 2 (.e (.alloc [(.str []), (.str []), (.int .i64 (.ofNat 0)), (.bool false)])) []]) (.keep [1, 2] (.seq (.seq (.reg [iR 5 (.p (.fieldAddr 0)) [(.t 1)], iR 6 (.l (.load none)) [(.t 5)], iR 7 (.p (.bin .eql)) [(.t 6), (.c (.str (bs [98, 108, 111, 98])))], iR 8 (.p .mv) [(.t 7)], iG 9 8 true (.p (.fieldAddr 6)) [(.t 1)], iG 10 8 true (.l (.load none)) [(.t 9)], iR 11 (.p .pick) [(.t 8), (.t 10), (.c (.bool false))], iR 12 (.p .mv) [(.t 11)], iG 13 12 true (.p (.fieldAddr 7)) [(.t 1)], iG 14 12 true (.l (.load none)) [(.t 13)], iG 15 12 true (.p .len) [(.t 14)], iG 16 12 true (.p (.bin .eql)) [(.t 15), (.c (.int .i64 (.ofNat 1)))], iR 17 (.p .pick) [(.t 12), (.t 16), (.c (.bool false))]]) (.keep [1, 2, 17] (.cond (.t 17) (.seq (.reg [iR 19 (.p (.fieldAddr 7)) [(.t 1)], iR 20 (.l (.load none)) [(.t 19)],
    iR 21 (.p (.slIdx 1)) [(.t 20), (.c (.int .i64 (.ofNat 0)))], iR 22 (.l (.load none)) [(.t 21)], iR 23 (.call 51) [(.t 22)], iR 18 (.p .mv) [(.t 23)], iR 24 (.p (.extract 0)) [(.t 18)], iR 25 (.p (.extract 1)) [(.t 18)], iR 3 (.e (.alloc [(.str []), (.str []), (.str []), (.str []), (.bool false), (.int .i64 (.ofNat 0)), (.bool false), .nils, (.str []), (.str []), (.bool false), (.bool false)])) [], ⟨none, none, (.e (.store 12)), [(.t 3), (.t 24)], none⟩, iR 4 (.p .mv) [(.t 25)]]) (.keep [1, 2, 3, 4] (.seq (.reg [iR 26 (.p .mv) [(.t 4)], iR 27 (.p (.bin .eql)) [(.t 26), (.c (.int .i64 (.ofNat 0)))], iR 28 (.p .mv) [(.t 27)], iG 29 28 true (.p (.fieldAddr 0)) [(.t 3)], iG 30 28 true (.l (.load none)) [(.t 29)], iG 31 28 true (.p (.bin .eql)) [(.t 30), (.c (.str (bs [104, 116, 116, 112])))], iG 32 28 true (.p .mv) [(.t 31)], iG 33 32 false (.p (.fieldAddr 0)) [(.t 3)],
    iG 34 32 false (.l (.load none)) [(.t 33)], iG 35 32 false (.p (.bin .eql)) [(.t 34), (.c (.str (bs [104, 116, 116, 112, 115])))], iG 36 28 true (.p .pick) [(.t 32), (.c (.bool true)), (.t 35)], iR 37 (.p .pick) [(.t 28), (.t 36), (.c (.bool false))]]) (.keep [1, 2, 3, 37] (.cond (.t 37) (.seq (.reg [iR 38 (.l (.load (some 12))) [(.t 3)], iR 39 (.call 32) [(.t 38)], ⟨none, none, (.e (.store 4)), [(.t 2), (.t 39)], none⟩]) (.keep [2] (.keep [2] .ret))) .skip))))) .skip))) (.keep [1, 2] (.seq (.seq (.reg [iR 40 (.p (.fieldAddr 0)) [(.t 1)], iR 41 (.l (.load none)) [(.t 40)], iR 42 (.call 53) [(.t 41)], iR 43 (.p (.un .not)) [(.t 42)]]) (.keep [1, 2, 43] (.cond (.t 43) (.seq (.reg [iR 44 (.p (.build [(.str []), (.str []), (.int .i64 (.ofNat 0)), (.bool false)] [(3, 1)])) [(.c (.bool true))], ⟨none, none, (.e (.store 4)), [(.t 2), (.t 44)], none⟩]) (.keep [2] (.keep [2] .ret)))
    .skip))) (.keep [1, 2] (.seq (.draw [iR 45 (.p (.fieldAddr 0)) [(.t 1)], ⟨(some 46), none, (.l (.load none)), [(.t 45)], some (0, 1)⟩, iR 47 (.p (.fieldAddr 3)) [(.t 1)], ⟨(some 48), none, (.l (.load none)), [(.t 47)], some (0, 1)⟩, iR 49 (.l (.load (some 12))) [(.t 1)], iR 50 (.call 54) [(.t 49)], iR 51 (.p (.build [(.str []), (.str []), (.int .i64 (.ofNat 0)), (.bool false)] [(0, 1), (1, 1), (2, 1)])) [(.t 46), (.t 48), (.t 50)], ⟨none, none, (.e (.store 4)), [(.t 2), (.t 51)], none⟩]) (.keep [2] (.keep [2] .ret))))))))), [(.cell 2 (some 4))]⟩
def s_ref4_Of (call : CallK) (N : Nat) (a0 : V) (H : Heap) (τ : Tape) (q : KV) : Ans := funK call N fn_ref4_Of [a0] H τ q
theorem s_ref4_Of_eq (call : CallK) (N : Nat) (a0 : V) (H : Heap) (τ : Tape) (q : KV) : s_ref4_Of call N a0 H τ q = funK call N fn_ref4_Of [a0] H τ q := by kernel_rfl
def e_ref4_Of (call : CallK) (N : Nat) (vs : List V) (H : Heap) (τ : Tape) (q : KV) : Ans := match vs with | [a0] => s_ref4_Of call N a0 H τ q | _ => none
theorem e_ref4_Of_ok : EntOk fn_ref4_Of e_ref4_Of := by
  intro call N vs H τ q r h
  unfold e_ref4_Of at h
  split at h
  · rw [s_ref4_Of_eq] at h; exact h
  · cases h
theorem e_ref4_Of_nat : EntNat e_ref4_Of := by
  intro c hn N vs H τ q
  unfold e_ref4_Of
  split
  · rw [s_ref4_Of_eq, s_ref4_Of_eq]; exact funK_ent hn _ _ _ _ _ _
  · rfl
/-- ostiary/ostiarylaw21.get -/
def fn_law21_get : Fun := ⟨4, (.seq (.reg [iR 8 (.p .mv) [(.c (.str []))]]) (.keep [0, 1, 2, 3] (.seq (.reg [iR 14 (.p .mv) [(.t 0)], iR 15 (.p .mv) [(.t 1)], iR 16 (.p .mv) [(.t 2)], iR 17 (.p .mv) [(.t 3)], iR 18 (.call 15) [(.t 14), (.t 15), (.t 16), (.t 17)], iR 13 (.p .mv) [(.t 18)], iR 19 (.p (.extract 0)) [(.t 13)], iR 20 (.p (.extract 1)) [(.t 13)], iR 9 (.e (.alloc [(.int .i64 (.ofNat 0)), .nils, .nils])) [], ⟨none, none, (.e (.store 3)), [(.t 9), (.t 19)], none⟩, iR 10 (.p .mv) [(.t 20)]]) (.keep [9, 10] (.seq (.seq (.reg [iR 21 (.p .mv) [(.t 10)], iR 22 (.p (.un .not)) [(.t 21)]]) (.keep [9, 22] (.cond (.t 22) (.seq (.reg [iR 8 (.p .mv) [(.c (.str (bs [110, 111, 110, 101])))]]) (.keep [8] (.keep [8] .ret))) .skip))) (.keep [9] (.seq (.reg [iR 23 (.p (.fieldAddr 2)) [(.t 9)], iR 24 (.l (.load none)) [(.t 23)], iR 25 (.l .bytesStr) [(.t 24)], iR 11 (.p .mv) [(.t 25)]])
    (.keep [9, 11] (.seq (.seq (.reg [iR 12 (.p .mv) [(.c (.int .i64 (.ofNat 0)))]]) (.keep [9, 11, 12] (.block 0 (.loop (.keep [9, 11, 12] (.seq (.seq (.reg [iR 26 (.p .mv) [(.t 12)], iR 27 (.p (.fieldAddr 1)) [(.t 9)], iR 28 (.l (.load none)) [(.t 27)], iR 29 (.p .len) [(.t 28)], iR 30 (.p (.bin .lss)) [(.t 26), (.t 29)]]) (.keep [9, 11, 12, 30] (.cond (.t 30) .skip (.keep [11] (.exit 0))))) (.keep [9, 11, 12] (.seq (.block 1 (.seq (.reg [iR 33 (.p (.fieldAddr 1)) [(.t 9)], iR 34 (.l (.load none)) [(.t 33)], iR 35 (.p .mv) [(.t 12)], iR 36 (.p (.slIdx 2)) [(.t 34), (.t 35)], iR 37 (.p (.fieldAddr 0)) [(.t 36)], iR 38 (.l (.load none)) [(.t 37)], iR 39 (.p (.bin .eql)) [(.t 38), (.c (.str (bs [99, 111, 110, 116, 101, 110, 116, 45, 114, 97, 110, 103, 101])))]]) (.keep [9, 11, 12, 39] (.cond (.t 39) (.reg [iR 40 (.p .mv) [(.t 11)],
    iR 41 (.p (.bin .add)) [(.t 40), (.c (.str (bs [124])))], iR 42 (.p (.fieldAddr 1)) [(.t 9)], iR 43 (.l (.load none)) [(.t 42)], iR 44 (.p .mv) [(.t 12)], iR 45 (.p (.slIdx 2)) [(.t 43), (.t 44)], iR 46 (.p (.fieldAddr 1)) [(.t 45)], iR 47 (.l (.load none)) [(.t 46)], iR 48 (.p (.bin .add)) [(.t 41), (.t 47)], iR 11 (.p .mv) [(.t 48)]]) .skip)))) (.keep [9, 11, 12] (.reg [iR 31 (.p .mv) [(.t 12)], iR 32 (.p (.bin .add)) [(.t 31), (.c (.int .i64 (.ofNat 1)))], iR 12 (.p .mv) [(.t 32)]])))))))))) (.keep [11] (.seq (.reg [iR 49 (.p .mv) [(.t 11)], iR 8 (.p .mv) [(.t 49)]]) (.keep [8] (.keep [8] .ret))))))))))))), [(.t 8)]⟩
def s_law21_get (call : CallK) (N : Nat) (a0 a1 a2 a3 : V) (H : Heap) (τ : Tape) (q : KV) : Ans := funK call N fn_law21_get [a0, a1, a2, a3] H τ q
theorem s_law21_get_eq (call : CallK) (N : Nat) (a0 a1 a2 a3 : V) (H : Heap) (τ : Tape) (q : KV) : s_law21_get call N a0 a1 a2 a3 H τ q = funK call N fn_law21_get [a0, a1, a2, a3] H τ q := by kernel_rfl
def e_law21_get (call : CallK) (N : Nat) (vs : List V) (H : Heap) (τ : Tape) (q : KV) : Ans := match vs with | [a0, a1, a2, a3] => s_law21_get call N a0 a1 a2 a3 H τ q | _ => none
theorem e_law21_get_ok : EntOk fn_law21_get e_law21_get := by
  intro call N vs H τ q r h
  unfold e_law21_get at h
  split at h
  · rw [s_law21_get_eq] at h; exact h
  · cases h
theorem e_law21_get_nat : EntNat e_law21_get := by
  intro c hn N vs H τ q
  unfold e_law21_get
  split
  · rw [s_law21_get_eq, s_law21_get_eq]; exact funK_ent hn _ _ _ _ _ _
  · rfl
/-- strings.Cut -/
def fn_strings_Cut : Fun := ⟨2, (.seq (.reg [iR 4 (.p .mv) [(.c (.str []))], iR 5 (.p .mv) [(.c (.str []))], iR 6 (.p .mv) [(.c (.bool false))]]) (.keep [0, 1] (.seq (.reg [iR 7 (.p .mv) [(.t 0)], iR 8 (.p .mv) [(.t 1)], iR 9 (.call 55) [(.t 7), (.t 8)], iR 10 (.p (.extract 0)) [(.t 9)], iR 11 (.p (.extract 1)) [(.t 9)], iR 12 (.p (.extract 2)) [(.t 9)], iR 4 (.p .mv) [(.t 10)], iR 5 (.p .mv) [(.t 11)], iR 6 (.p .mv) [(.t 12)]]) (.keep [4, 5, 6] (.keep [4, 5, 6] .ret))))), [(.t 4), (.t 5), (.t 6)]⟩
def s_strings_Cut (call : CallK) (N : Nat) (a0 a1 : V) (H : Heap) (τ : Tape) (q : KV) : Ans := call f_stringslite_Cut [a0, a1] H τ fun v0 H1 τ2 => someK (pExtract 0 [v0]) fun v3 => someK (pExtract 1 [v0]) fun v4 => someK (pExtract 2 [v0]) fun v5 => q (.tup [v3, v4, v5]) H1 τ2
theorem s_strings_Cut_eq (call : CallK) (N : Nat) (a0 a1 : V) (H : Heap) (τ : Tape) (q : KV) : s_strings_Cut call N a0 a1 H τ q = funK call N fn_strings_Cut [a0, a1] H τ q := by kernel_rfl
def e_strings_Cut (call : CallK) (N : Nat) (vs : List V) (H : Heap) (τ : Tape) (q : KV) : Ans := match vs with | [a0, a1] => s_strings_Cut call N a0 a1 H τ q | _ => none
theorem e_strings_Cut_ok : EntOk fn_strings_Cut e_strings_Cut := by
  intro call N vs H τ q r h
  unfold e_strings_Cut at h
  split at h
  · rw [s_strings_Cut_eq] at h; exact h
  · cases h
theorem e_strings_Cut_nat : EntNat e_strings_Cut := by
  intro c hn N vs H τ q
  unfold e_strings_Cut
  split
  · rw [s_strings_Cut_eq, s_strings_Cut_eq]; exact funK_ent hn _ _ _ _ _ _
  · rfl
/-- ostiary/blob.reply -/
def fn_blob_reply : Fun := ⟨4, (.seq (.reg [iR 5 (.e .box) [(.t 1)], iR 8 (.e (.alloc [(.int .i64 (.ofNat 0)), .nils, .nils])) []]) (.keep [0, 2, 3, 5, 8] (.seq (.draw [iR 9 (.p .mv) [(.t 0)], iR 10 (.p .mv) [(.t 3)], iR 11 (.p .mv) [(.t 2)], iR 12 (.p (.bin .sub)) [(.t 10), (.t 11)], iR 13 (.call 37) [(.t 12)], iR 14 (.p (.build [(.str []), (.str [])] [(0, 1), (1, 1)])) [(.c (.str (bs [99, 111, 110, 116, 101, 110, 116, 45, 108, 101, 110, 103, 116, 104]))), (.t 13)], iR 15 (.p (.fieldAddr 0)) [(.t 5)], ⟨(some 16), none, (.l (.load none)), [(.t 15)], some (0, 2)⟩, iR 17 (.p (.build [(.str []), (.str [])] [(0, 1), (1, 1)])) [(.c (.str (bs [99, 111, 110, 116, 101, 110, 116, 45, 116, 121, 112, 101]))), (.t 16)], iR 19 (.p (.fieldAddr 1)) [(.t 5)], ⟨(some 20), none, (.l (.load none)), [(.t 19)], some (0, 2)⟩, iR 21 (.p .mv) [(.t 2)], iR 22 (.p .mv) [(.t 3)],
    iR 23 (.p (.slSlice 1 true true false)) [(.t 20), (.t 21), (.t 22)], iR 24 (.call 30) [(.t 23)], iR 18 (.e (.buildSlice 2 2 [(.str []), (.str []), (.str []), (.str [])] [(0, 2), (2, 2)])) [(.t 14), (.t 17)], iR 25 (.p (.build [(.int .i64 (.ofNat 0)), .nils, .nils] [(0, 1), (1, 1), (2, 1)])) [(.t 9), (.t 18), (.t 24)], ⟨none, none, (.e (.store 3)), [(.t 8), (.t 25)], none⟩]) (.keep [8] (.keep [8] .ret))))), [(.cell 8 (some 3))]⟩
def s_blob_reply (call : CallK) (N : Nat) (a0 a1 a2 a3 : V) (H : Heap) (τ : Tape) (q : KV) : Ans := effK (eBox [a1] H τ) fun v0 H1 τ2 => effK (eAlloc [(.int .i64 (.ofNat 0)), .nils, .nils] [] H1 τ2) fun v3 H4 τ5 => binK .sub a3 a2 fun v6 => call f_blob_number [v6] H4 τ5 fun v7 H8 τ9 => someK (pBuild [(.str []), (.str [])] [(0, 1), (1, 1)] [(.str (bs [99, 111, 110, 116, 101, 110, 116, 45, 108, 101, 110, 103, 116, 104])), v7]) fun v10 => someK (pFieldAddr 0 [v0]) fun v11 => someK (lLoad1 [v11] H8) fun v12 => someK (pBuild [(.str []), (.str [])] [(0, 1), (1, 1)] [(.str (bs [99, 111, 110, 116, 101, 110, 116, 45, 116, 121, 112, 101])), v12]) fun v13 => someK (pFieldAddr 1 [v0]) fun v14 => someK (lLoad1 [v14] H8) fun v15 => someK (pSlSlice 1 true true false [v15, a2, a3]) fun v16 => call f_slices_Clone_byte [v16] H8 τ9 fun v17 H18 τ19 =>
    effK (eBuildSlice 2 2 [(.str []), (.str []), (.str []), (.str [])] [(0, 2), (2, 2)] [v10, v13] H18 τ19) fun v20 H21 τ22 => someK (pBuild [(.int .i64 (.ofNat 0)), .nils, .nils] [(0, 1), (1, 1), (2, 1)] [a0, v20, v17]) fun v23 => effK (eStore 3 [v3, v23] H21 τ22) fun v24 H25 τ26 => bif chkLoads [H4, H8, H18, H21, H25] (((.load none), [v14], 0, 2) :: (((.load none), [v11], 0, 2) :: [])) then someK (results ⟨(T.set .leaf 8 v3), H25⟩ [(.cell 8 (some 3))]) fun v => q v H25 τ26 else none
theorem s_blob_reply_eq (call : CallK) (N : Nat) (a0 a1 a2 a3 : V) (H : Heap) (τ : Tape) (q : KV) : s_blob_reply call N a0 a1 a2 a3 H τ q = funK call N fn_blob_reply [a0, a1, a2, a3] H τ q := by kernel_rfl
def e_blob_reply (call : CallK) (N : Nat) (vs : List V) (H : Heap) (τ : Tape) (q : KV) : Ans := match vs with | [a0, a1, a2, a3] => s_blob_reply call N a0 a1 a2 a3 H τ q | _ => none
theorem e_blob_reply_ok : EntOk fn_blob_reply e_blob_reply := by
  intro call N vs H τ q r h
  unfold e_blob_reply at h
  split at h
  · rw [s_blob_reply_eq] at h; exact h
  · cases h
theorem e_blob_reply_nat : EntNat e_blob_reply := by
  intro c hn N vs H τ q
  unfold e_blob_reply
  split
  · rw [s_blob_reply_eq, s_blob_reply_eq]; exact funK_ent hn _ _ _ _ _ _
  · rfl
/-- ostiary/headers.Range -/
def fn_headers_Range : Fun := ⟨1, (.seq (.reg [iR 2 (.p .mv) [(.c (.int .i64 (.ofNat 0)))], iR 3 (.p .mv) [(.c (.int .i64 (.ofNat 0)))], iR 4 (.p .mv) [(.c (.bool false))]]) (.keep [0] (.seq (.reg [iR 15 (.p .mv) [(.t 0)], iR 16 (.call 56) [(.t 15), (.c (.str (bs [98, 121, 116, 101, 115, 61])))], iR 14 (.p .mv) [(.t 16)], iR 17 (.p (.extract 0)) [(.t 14)], iR 18 (.p (.extract 1)) [(.t 14)], iR 5 (.p .mv) [(.t 17)], iR 6 (.p .mv) [(.t 18)]]) (.keep [5, 6] (.seq (.reg [iR 20 (.p .mv) [(.t 5)], iR 21 (.call 34) [(.t 20), (.c (.str (bs [45])))], iR 19 (.p .mv) [(.t 21)], iR 22 (.p (.extract 0)) [(.t 19)], iR 23 (.p (.extract 1)) [(.t 19)], iR 24 (.p (.extract 2)) [(.t 19)], iR 7 (.p .mv) [(.t 22)], iR 8 (.p .mv) [(.t 23)], iR 9 (.p .mv) [(.t 24)]]) (.keep [6, 7, 8, 9] (.seq (.reg [iR 26 (.p .mv) [(.t 7)], iR 27 (.call 57) [(.t 26)], iR 25 (.p .mv) [(.t 27)],
    iR 28 (.p (.extract 0)) [(.t 25)], iR 29 (.p (.extract 1)) [(.t 25)], iR 10 (.p .mv) [(.t 28)], iR 11 (.p .mv) [(.t 29)]]) (.keep [6, 8, 9, 10, 11] (.seq (.reg [iR 31 (.p .mv) [(.t 8)], iR 32 (.call 57) [(.t 31)], iR 30 (.p .mv) [(.t 32)], iR 33 (.p (.extract 0)) [(.t 30)], iR 34 (.p (.extract 1)) [(.t 30)], iR 12 (.p .mv) [(.t 33)], iR 13 (.p .mv) [(.t 34)]]) (.keep [6, 9, 10, 11, 12, 13] (.seq (.seq (.reg [iR 35 (.p .mv) [(.t 6)], iR 36 (.p (.un .not)) [(.t 35)], iR 37 (.p .mv) [(.t 36)], iG 38 37 false (.p .mv) [(.t 9)], iG 39 37 false (.p (.un .not)) [(.t 38)], iR 40 (.p .pick) [(.t 37), (.c (.bool true)), (.t 39)], iR 41 (.p .mv) [(.t 40)], iG 42 41 false (.p .mv) [(.t 11)], iG 43 41 false (.p (.un .not)) [(.t 42)], iR 44 (.p .pick) [(.t 41), (.c (.bool true)), (.t 43)], iR 45 (.p .mv) [(.t 44)], iG 46 45 false (.p .mv) [(.t 13)], iG 47 45 false (.p (.un .not)) [(.t 46)],
    iR 48 (.p .pick) [(.t 45), (.c (.bool true)), (.t 47)], iR 49 (.p .mv) [(.t 48)], iG 50 49 false (.p .mv) [(.t 10)], iG 51 49 false (.p (.bin .lss)) [(.t 50), (.c (.int .i64 (.ofNat 0)))], iG 52 49 false (.p .mv) [(.t 51)], iG 53 52 true (.p .mv) [(.t 12)], iG 54 52 true (.p (.bin .lss)) [(.t 53), (.c (.int .i64 (.ofNat 0)))], iG 55 49 false (.p .pick) [(.t 52), (.t 54), (.c (.bool false))], iR 56 (.p .pick) [(.t 49), (.c (.bool true)), (.t 55)], iR 57 (.p .mv) [(.t 56)], iG 58 57 false (.p .mv) [(.t 10)], iG 59 57 false (.p (.bin .geq)) [(.t 58), (.c (.int .i64 (.ofNat 0)))], iG 60 57 false (.p .mv) [(.t 59)], iG 61 60 true (.p .mv) [(.t 12)], iG 62 60 true (.p (.bin .geq)) [(.t 61), (.c (.int .i64 (.ofNat 0)))], iG 63 57 false (.p .pick) [(.t 60), (.t 62), (.c (.bool false))], iG 64 57 false (.p .mv) [(.t 63)], iG 65 64 true (.p .mv) [(.t 10)], iG 66 64 true (.p .mv) [(.t 12)],
    iG 67 64 true (.p (.bin .gtr)) [(.t 65), (.t 66)], iG 68 57 false (.p .pick) [(.t 64), (.t 67), (.c (.bool false))], iR 69 (.p .pick) [(.t 57), (.c (.bool true)), (.t 68)]]) (.keep [10, 12, 69] (.cond (.t 69) (.seq (.reg [iR 2 (.p .mv) [(.c (.int .i64 (.ofNat 0)))], iR 3 (.p .mv) [(.c (.int .i64 (.ofNat 0)))], iR 4 (.p .mv) [(.c (.bool false))]]) (.keep [2, 3, 4] (.keep [2, 3, 4] .ret))) .skip))) (.keep [10, 12] (.seq (.reg [iR 70 (.p .mv) [(.t 10)], iR 71 (.p .mv) [(.t 12)], iR 2 (.p .mv) [(.t 70)], iR 3 (.p .mv) [(.t 71)], iR 4 (.p .mv) [(.c (.bool true))]]) (.keep [2, 3, 4] (.keep [2, 3, 4] .ret))))))))))))))), [(.t 2), (.t 3), (.t 4)]⟩
def s_headers_Range (call : CallK) (N : Nat) (a0 : V) (H : Heap) (τ : Tape) (q : KV) : Ans := call f_strings_CutPrefix [a0, (.str (bs [98, 121, 116, 101, 115, 61]))] H τ fun v0 H1 τ2 => someK (pExtract 0 [v0]) fun v3 => someK (pExtract 1 [v0]) fun v4 => call f_strings_Cut [v3, (.str (bs [45]))] H1 τ2 fun v5 H6 τ7 => someK (pExtract 0 [v5]) fun v8 => someK (pExtract 1 [v5]) fun v9 => someK (pExtract 2 [v5]) fun v10 => call f_headers_told [v8] H6 τ7 fun v11 H12 τ13 => someK (pExtract 0 [v11]) fun v14 => someK (pExtract 1 [v11]) fun v15 => call f_headers_told [v9] H12 τ13 fun v16 H17 τ18 => someK (pExtract 0 [v16]) fun v19 => someK (pExtract 1 [v16]) fun v20 => unK .not v4 fun v21 => gK v21 false (fun q' => q' v10 H17 τ18) H17 τ18 fun v22 H23 τ24 => gK v21 false (fun q' => unK .not v22 fun v => q' v H23 τ24) H23 τ24 fun v25 H26 τ27 => someK (pPick [v21, (.bool true), v25]) fun v28 =>
    gK v28 false (fun q' => q' v15 H26 τ27) H26 τ27 fun v29 H30 τ31 => gK v28 false (fun q' => unK .not v29 fun v => q' v H30 τ31) H30 τ31 fun v32 H33 τ34 => someK (pPick [v28, (.bool true), v32]) fun v35 => gK v35 false (fun q' => q' v20 H33 τ34) H33 τ34 fun v36 H37 τ38 => gK v35 false (fun q' => unK .not v36 fun v => q' v H37 τ38) H37 τ38 fun v39 H40 τ41 => someK (pPick [v35, (.bool true), v39]) fun v42 => gK v42 false (fun q' => q' v14 H40 τ41) H40 τ41 fun v43 H44 τ45 => gK v42 false (fun q' => binK .lss v43 (.int .i64 (.ofNat 0)) fun v => q' v H44 τ45) H44 τ45 fun v46 H47 τ48 => gK v42 false (fun q' => q' v46 H47 τ48) H47 τ48 fun v49 H50 τ51 => gK v49 true (fun q' => q' v19 H50 τ51) H50 τ51 fun v52 H53 τ54 => gK v49 true (fun q' => binK .lss v52 (.int .i64 (.ofNat 0)) fun v => q' v H53 τ54) H53 τ54 fun v55 H56 τ57 =>
    gK v42 false (fun q' => someK (pPick [v49, v55, (.bool false)]) fun v => q' v H56 τ57) H56 τ57 fun v58 H59 τ60 => someK (pPick [v42, (.bool true), v58]) fun v61 => gK v61 false (fun q' => q' v14 H59 τ60) H59 τ60 fun v62 H63 τ64 => gK v61 false (fun q' => binK .geq v62 (.int .i64 (.ofNat 0)) fun v => q' v H63 τ64) H63 τ64 fun v65 H66 τ67 => gK v61 false (fun q' => q' v65 H66 τ67) H66 τ67 fun v68 H69 τ70 => gK v68 true (fun q' => q' v19 H69 τ70) H69 τ70 fun v71 H72 τ73 => gK v68 true (fun q' => binK .geq v71 (.int .i64 (.ofNat 0)) fun v => q' v H72 τ73) H72 τ73 fun v74 H75 τ76 => gK v61 false (fun q' => someK (pPick [v68, v74, (.bool false)]) fun v => q' v H75 τ76) H75 τ76 fun v77 H78 τ79 => gK v61 false (fun q' => q' v77 H78 τ79) H78 τ79 fun v80 H81 τ82 => gK v80 true (fun q' => q' v14 H81 τ82) H81 τ82 fun v83 H84 τ85 =>
    gK v80 true (fun q' => q' v19 H84 τ85) H84 τ85 fun v86 H87 τ88 => gK v80 true (fun q' => binK .gtr v83 v86 fun v => q' v H87 τ88) H87 τ88 fun v89 H90 τ91 => gK v61 false (fun q' => someK (pPick [v80, v89, (.bool false)]) fun v => q' v H90 τ91) H90 τ91 fun v92 H93 τ94 => someK (pPick [v61, (.bool true), v92]) fun v95 => condK v95 (q (.tup [(.int .i64 (.ofNat 0)), (.int .i64 (.ofNat 0)), (.bool false)]) H93 τ94) (q (.tup [v14, v19, (.bool true)]) H93 τ94)
theorem s_headers_Range_eq (call : CallK) (N : Nat) (a0 : V) (H : Heap) (τ : Tape) (q : KV) : s_headers_Range call N a0 H τ q = funK call N fn_headers_Range [a0] H τ q := by kernel_rfl
def e_headers_Range (call : CallK) (N : Nat) (vs : List V) (H : Heap) (τ : Tape) (q : KV) : Ans := match vs with | [a0] => s_headers_Range call N a0 H τ q | _ => none
theorem e_headers_Range_ok : EntOk fn_headers_Range e_headers_Range := by
  intro call N vs H τ q r h
  unfold e_headers_Range at h
  split at h
  · rw [s_headers_Range_eq] at h; exact h
  · cases h
theorem e_headers_Range_nat : EntNat e_headers_Range := by
  intro c hn N vs H τ q
  unfold e_headers_Range
  split
  · rw [s_headers_Range_eq, s_headers_Range_eq]; exact funK_ent hn _ _ _ _ _ _
  · rfl
/-- ostiary/blob.number -/
def fn_blob_number : Fun := ⟨1, (.seq (.reg [iR 2 (.p .mv) [(.c (.str []))]]) (.keep [0] (.seq (.reg [iR 3 (.p .mv) [(.t 0)], iR 4 (.call 58) [(.t 3), (.c (.int .i64 (.ofNat 10)))], iR 2 (.p .mv) [(.t 4)]]) (.keep [2] (.keep [2] .ret))))), [(.t 2)]⟩
def s_blob_number (call : CallK) (N : Nat) (a0 : V) (H : Heap) (τ : Tape) (q : KV) : Ans := call f_strconv_FormatInt [a0, (.int .i64 (.ofNat 10))] H τ fun v0 H1 τ2 => q v0 H1 τ2
theorem s_blob_number_eq (call : CallK) (N : Nat) (a0 : V) (H : Heap) (τ : Tape) (q : KV) : s_blob_number call N a0 H τ q = funK call N fn_blob_number [a0] H τ q := by kernel_rfl
def e_blob_number (call : CallK) (N : Nat) (vs : List V) (H : Heap) (τ : Tape) (q : KV) : Ans := match vs with | [a0] => s_blob_number call N a0 H τ q | _ => none
theorem e_blob_number_ok : EntOk fn_blob_number e_blob_number := by
  intro call N vs H τ q r h
  unfold e_blob_number at h
  split at h
  · rw [s_blob_number_eq] at h; exact h
  · cases h
theorem e_blob_number_nat : EntNat e_blob_number := by
  intro c hn N vs H τ q
  unfold e_blob_number
  split
  · rw [s_blob_number_eq, s_blob_number_eq]; exact funK_ent hn _ _ _ _ _ _
  · rfl
/-- ostiary/ostiaryref1.Numeral -/
def fn_ref1_Numeral : Fun := ⟨1, (.seq (.reg [iR 2 (.p .mv) [(.c (.str []))]]) (.keep [0] (.seq (.seq (.reg [iR 5 (.p .mv) [(.t 0)], iR 6 (.p (.bin .eql)) [(.t 5), (.c (.int .i64 (.negSucc 9223372036854775807)))]]) (.keep [0, 6] (.cond (.t 6) (.seq (.reg [iR 2 (.p .mv) [(.c (.str (bs [45, 57, 50, 50, 51, 51, 55, 50, 48, 51, 54, 56, 53, 52, 55, 55, 53, 56, 48, 56])))]]) (.keep [2] (.keep [2] .ret))) .skip))) (.keep [0] (.seq (.seq (.reg [iR 7 (.p .mv) [(.t 0)], iR 8 (.p (.bin .lss)) [(.t 7), (.c (.int .i64 (.ofNat 0)))]]) (.keep [0, 8] (.cond (.t 8) (.seq (.reg [iR 9 (.p .mv) [(.t 0)], iR 10 (.p (.un .neg)) [(.t 9)], iR 11 (.call 42) [(.t 10)], iR 12 (.p (.bin .add)) [(.c (.str (bs [45]))), (.t 11)], iR 2 (.p .mv) [(.t 12)]]) (.keep [2] (.keep [2] .ret))) .skip))) (.keep [0] (.seq (.reg [iR 3 (.p .mv) [(.c (.str []))]]) (.keep [0, 3] (.seq (.block 0 (.loop
    (.keep [0, 3] (.seq (.seq (.reg [iR 13 (.p .mv) [(.t 0)], iR 14 (.p (.bin .gtr)) [(.t 13), (.c (.int .i64 (.ofNat 0)))], iR 15 (.p .mv) [(.t 14)], iG 16 15 false (.p .mv) [(.t 3)], iG 17 15 false (.p (.bin .eql)) [(.t 16), (.c (.str []))], iR 18 (.p .pick) [(.t 15), (.c (.bool true)), (.t 17)]]) (.keep [0, 3, 18] (.cond (.t 18) .skip (.keep [3] (.exit 0))))) (.keep [0, 3] (.block 1 (.seq (.reg [iR 19 (.p .mv) [(.t 0)], iR 20 (.p (.bin .rem)) [(.t 19), (.c (.int .i64 (.ofNat 10)))], iR 4 (.p .mv) [(.t 20)]]) (.keep [0, 3, 4] (.seq (.reg [iR 21 (.p .mv) [(.t 4)], iR 22 (.p .mv) [(.t 4)], iR 23 (.p (.bin .add)) [(.t 22), (.c (.int .i64 (.ofNat 1)))], iR 24 (.p (.strSlice true true)) [(.c (.str (bs [48, 49, 50, 51, 52, 53, 54, 55, 56, 57]))), (.t 21), (.t 23)], iR 25 (.p .mv) [(.t 3)], iR 26 (.p (.bin .add)) [(.t 24), (.t 25)], iR 3 (.p .mv) [(.t 26)]])
    (.keep [0, 3] (.reg [iR 27 (.p .mv) [(.t 0)], iR 28 (.p (.bin .quo)) [(.t 27), (.c (.int .i64 (.ofNat 10)))], iR 0 (.p .mv) [(.t 28)]]))))))))))) (.keep [3] (.seq (.reg [iR 29 (.p .mv) [(.t 3)], iR 2 (.p .mv) [(.t 29)]]) (.keep [2] (.keep [2] .ret))))))))))))), [(.t 2)]⟩
def s_ref1_Numeral (call : CallK) (N : Nat) (a0 : V) (H : Heap) (τ : Tape) (q : KV) : Ans := funK call N fn_ref1_Numeral [a0] H τ q
theorem s_ref1_Numeral_eq (call : CallK) (N : Nat) (a0 : V) (H : Heap) (τ : Tape) (q : KV) : s_ref1_Numeral call N a0 H τ q = funK call N fn_ref1_Numeral [a0] H τ q := by kernel_rfl
def e_ref1_Numeral (call : CallK) (N : Nat) (vs : List V) (H : Heap) (τ : Tape) (q : KV) : Ans := match vs with | [a0] => s_ref1_Numeral call N a0 H τ q | _ => none
theorem e_ref1_Numeral_ok : EntOk fn_ref1_Numeral e_ref1_Numeral := by
  intro call N vs H τ q r h
  unfold e_ref1_Numeral at h
  split at h
  · rw [s_ref1_Numeral_eq] at h; exact h
  · cases h
theorem e_ref1_Numeral_nat : EntNat e_ref1_Numeral := by
  intro c hn N vs H τ q
  unfold e_ref1_Numeral
  split
  · rw [s_ref1_Numeral_eq, s_ref1_Numeral_eq]; exact funK_ent hn _ _ _ _ _ _
  · rfl
/-- ostiary/ostiaryref1.Part -/
def fn_ref1_Part : Fun := ⟨2, (.seq (.reg [iR 4 (.p .mv) [(.c (.str []))], iR 5 (.p .mv) [(.c (.str []))], iR 6 (.p .mv) [(.c (.bool false))]]) (.keep [0, 1] (.seq (.seq (.reg [iR 7 (.p .mv) [(.c (.int .i64 (.ofNat 0)))]]) (.keep [0, 1, 7] (.block 0 (.loop (.keep [0, 1, 7] (.seq (.seq (.reg [iR 8 (.p .mv) [(.t 7)], iR 9 (.p .mv) [(.t 0)], iR 10 (.p .lenS) [(.t 9)], iR 11 (.p (.bin .lss)) [(.t 8), (.t 10)]]) (.keep [0, 1, 7, 11] (.cond (.t 11) .skip (.keep [0] (.exit 0))))) (.keep [0, 1, 7] (.seq (.block 1 (.seq (.reg [iR 14 (.p .mv) [(.t 0)], iR 15 (.p .mv) [(.t 7)], iR 16 (.p .strIndex) [(.t 14), (.t 15)], iR 17 (.p .mv) [(.t 1)], iR 18 (.p (.bin .eql)) [(.t 16), (.t 17)]]) (.keep [0, 1, 7, 18] (.cond (.t 18) (.seq (.draw [iR 19 (.p .mv) [(.t 0)], iR 20 (.p .mv) [(.t 7)], iR 21 (.p (.strSlice false true)) [(.t 19), (.t 20)], iR 22 (.p .mv) [(.t 0)], iR 23 (.p .mv) [(.t 7)],
    iR 24 (.p (.bin .add)) [(.t 23), (.c (.int .i64 (.ofNat 1)))], iR 25 (.p (.strSlice true false)) [(.t 22), (.t 24)], iR 4 (.p .mv) [(.t 21)], iR 5 (.p .mv) [(.t 25)], iR 6 (.p .mv) [(.c (.bool true))]]) (.keep [4, 5, 6] (.keep [4, 5, 6] .ret))) .skip)))) (.keep [0, 1, 7] (.reg [iR 12 (.p .mv) [(.t 7)], iR 13 (.p (.bin .add)) [(.t 12), (.c (.int .i64 (.ofNat 1)))], iR 7 (.p .mv) [(.t 13)]])))))))))) (.keep [0] (.seq (.reg [iR 26 (.p .mv) [(.t 0)], iR 4 (.p .mv) [(.t 26)], iR 5 (.p .mv) [(.c (.str []))], iR 6 (.p .mv) [(.c (.bool false))]]) (.keep [4, 5, 6] (.keep [4, 5, 6] .ret))))))), [(.t 4), (.t 5), (.t 6)]⟩
def s_ref1_Part (call : CallK) (N : Nat) (a0 a1 : V) (H : Heap) (τ : Tape) (q : KV) : Ans := funK call N fn_ref1_Part [a0, a1] H τ q
theorem s_ref1_Part_eq (call : CallK) (N : Nat) (a0 a1 : V) (H : Heap) (τ : Tape) (q : KV) : s_ref1_Part call N a0 a1 H τ q = funK call N fn_ref1_Part [a0, a1] H τ q := by kernel_rfl
def e_ref1_Part (call : CallK) (N : Nat) (vs : List V) (H : Heap) (τ : Tape) (q : KV) : Ans := match vs with | [a0, a1] => s_ref1_Part call N a0 a1 H τ q | _ => none
theorem e_ref1_Part_ok : EntOk fn_ref1_Part e_ref1_Part := by
  intro call N vs H τ q r h
  unfold e_ref1_Part at h
  split at h
  · rw [s_ref1_Part_eq] at h; exact h
  · cases h
theorem e_ref1_Part_nat : EntNat e_ref1_Part := by
  intro c hn N vs H τ q
  unfold e_ref1_Part
  split
  · rw [s_ref1_Part_eq, s_ref1_Part_eq]; exact funK_ent hn _ _ _ _ _ _
  · rfl
/-- strings.Trim -/
def fn_strings_Trim : Fun := ⟨2, (.seq (.reg [iR 4 (.p .mv) [(.c (.str []))]]) (.keep [0, 1] (.seq (.seq (.reg [iR 7 (.p .mv) [(.t 0)], iR 8 (.p (.bin .eql)) [(.t 7), (.c (.str []))], iR 9 (.p .mv) [(.t 8)], iG 10 9 false (.p .mv) [(.t 1)], iG 11 9 false (.p (.bin .eql)) [(.t 10), (.c (.str []))], iR 12 (.p .pick) [(.t 9), (.c (.bool true)), (.t 11)]]) (.keep [0, 1, 12] (.cond (.t 12) (.seq (.reg [iR 13 (.p .mv) [(.t 0)], iR 4 (.p .mv) [(.t 13)]]) (.keep [4] (.keep [4] .ret))) .skip))) (.keep [0, 1] (.seq (.seq (.reg [iR 14 (.p .mv) [(.t 1)], iR 15 (.p .lenS) [(.t 14)], iR 16 (.p (.bin .eql)) [(.t 15), (.c (.int .i64 (.ofNat 1)))], iR 17 (.p .mv) [(.t 16)], iG 18 17 true (.p .mv) [(.t 1)], iG 19 17 true (.p .strIndex) [(.t 18), (.c (.int .i64 (.ofNat 0)))], iG 20 17 true (.p (.bin .lss)) [(.t 19), (.c (.int .u8 (.ofNat 128)))],
    iR 21 (.p .pick) [(.t 17), (.t 20), (.c (.bool false))]]) (.keep [0, 1, 21] (.cond (.t 21) (.seq (.draw [iR 22 (.p .mv) [(.t 0)], iR 23 (.p .mv) [(.t 1)], iR 24 (.p .strIndex) [(.t 23), (.c (.int .i64 (.ofNat 0)))], iR 25 (.call 64) [(.t 22), (.t 24)], iR 26 (.p .mv) [(.t 1)], iR 27 (.p .strIndex) [(.t 26), (.c (.int .i64 (.ofNat 0)))], iR 28 (.call 63) [(.t 25), (.t 27)], iR 4 (.p .mv) [(.t 28)]]) (.keep [4] (.keep [4] .ret))) .skip))) (.keep [0, 1] (.seq (.seq (.reg [iR 30 (.p .mv) [(.t 1)], iR 31 (.call 65) [(.t 30)], iR 29 (.p .mv) [(.t 31)], iR 32 (.p (.extract 0)) [(.t 29)], iR 33 (.p (.extract 1)) [(.t 29)], iR 5 (.e (.alloc (repl 256 [(.bool false)]))) [], ⟨none, none, (.e (.store 256)), [(.t 5), (.t 32)], none⟩, iR 6 (.p .mv) [(.t 33)]]) (.keep [0, 1, 5, 6] (.seq (.reg [iR 34 (.p .mv) [(.t 6)]]) (.keep [0, 1, 5, 34] (.cond (.t 34) (.seq (.reg [iR 35 (.p .mv) [(.t 0)],
    iR 36 (.call 67) [(.t 35), (.t 5)], iR 37 (.call 66) [(.t 36), (.t 5)], iR 4 (.p .mv) [(.t 37)]]) (.keep [4] (.keep [4] .ret))) .skip))))) (.keep [0, 1] (.seq (.reg [iR 38 (.p .mv) [(.t 0)], iR 39 (.p .mv) [(.t 1)], iR 40 (.call 69) [(.t 38), (.t 39)], iR 41 (.p .mv) [(.t 1)], iR 42 (.call 68) [(.t 40), (.t 41)], iR 4 (.p .mv) [(.t 42)]]) (.keep [4] (.keep [4] .ret))))))))))), [(.t 4)]⟩
def s_strings_Trim (call : CallK) (N : Nat) (a0 a1 : V) (H : Heap) (τ : Tape) (q : KV) : Ans := binK .eql a0 (.str []) fun v0 => gK v0 false (fun q' => q' a1 H τ) H τ fun v1 H2 τ3 => gK v0 false (fun q' => binK .eql v1 (.str []) fun v => q' v H2 τ3) H2 τ3 fun v4 H5 τ6 => someK (pPick [v0, (.bool true), v4]) fun v7 => condK v7 (q a0 H5 τ6) (someK (pLenS [a1]) fun v8 => binK .eql v8 (.int .i64 (.ofNat 1)) fun v9 => gK v9 true (fun q' => q' a1 H5 τ6) H5 τ6 fun v10 H11 τ12 => gK v9 true (fun q' => someK (pStrIndex [v10, (.int .i64 (.ofNat 0))]) fun v => q' v H11 τ12) H11 τ12 fun v13 H14 τ15 => gK v9 true (fun q' => binK .lss v13 (.int .u8 (.ofNat 128)) fun v => q' v H14 τ15) H14 τ15 fun v16 H17 τ18 => someK (pPick [v9, v16, (.bool false)]) fun v19 => condK v19 (someK (pStrIndex [a1, (.int .i64 (.ofNat 0))]) fun v20 => call f_strings_trimRightByte [a0, v20] H17 τ18 fun v21 H22 τ23 =>
    someK (pStrIndex [a1, (.int .i64 (.ofNat 0))]) fun v24 => call f_strings_trimLeftByte [v21, v24] H22 τ23 fun v25 H26 τ27 => q v25 H26 τ27) (call f_strings_makeASCIISet [a1] H17 τ18 fun v28 H29 τ30 => someK (pExtract 0 [v28]) fun v31 => someK (pExtract 1 [v28]) fun v32 => effK (eAlloc (repl 256 [(.bool false)]) [] H29 τ30) fun v33 H34 τ35 => effK (eStore 256 [v33, v31] H34 τ35) fun v36 H37 τ38 => condK v32 (call f_strings_trimRightASCII [a0, v33] H37 τ38 fun v39 H40 τ41 => call f_strings_trimLeftASCII [v39, v33] H40 τ41 fun v42 H43 τ44 => q v42 H43 τ44) (call f_strings_trimRightUnicode [a0, a1] H37 τ38 fun v45 H46 τ47 => call f_strings_trimLeftUnicode [v45, a1] H46 τ47 fun v48 H49 τ50 => q v48 H49 τ50)))
theorem s_strings_Trim_eq (call : CallK) (N : Nat) (a0 a1 : V) (H : Heap) (τ : Tape) (q : KV) : s_strings_Trim call N a0 a1 H τ q = funK call N fn_strings_Trim [a0, a1] H τ q := by kernel_rfl
def e_strings_Trim (call : CallK) (N : Nat) (vs : List V) (H : Heap) (τ : Tape) (q : KV) : Ans := match vs with | [a0, a1] => s_strings_Trim call N a0 a1 H τ q | _ => none
theorem e_strings_Trim_ok : EntOk fn_strings_Trim e_strings_Trim := by
  intro call N vs H τ q r h
  unfold e_strings_Trim at h
  split at h
  · rw [s_strings_Trim_eq] at h; exact h
  · cases h
theorem e_strings_Trim_nat : EntNat e_strings_Trim := by
  intro c hn N vs H τ q
  unfold e_strings_Trim
  split
  · rw [s_strings_Trim_eq, s_strings_Trim_eq]; exact funK_ent hn _ _ _ _ _ _
  · rfl
/-- strings.ContainsAny -/
def fn_strings_ContainsAny : Fun := ⟨2, (.seq (.reg [iR 4 (.p .mv) [(.c (.bool false))]]) (.keep [0, 1] (.seq (.reg [iR 5 (.p .mv) [(.t 0)], iR 6 (.p .mv) [(.t 1)], iR 7 (.call 70) [(.t 5), (.t 6)], iR 8 (.p (.bin .geq)) [(.t 7), (.c (.int .i64 (.ofNat 0)))], iR 4 (.p .mv) [(.t 8)]]) (.keep [4] (.keep [4] .ret))))), [(.t 4)]⟩
def s_strings_ContainsAny (call : CallK) (N : Nat) (a0 a1 : V) (H : Heap) (τ : Tape) (q : KV) : Ans := call f_strings_IndexAny [a0, a1] H τ fun v0 H1 τ2 => binK .geq v0 (.int .i64 (.ofNat 0)) fun v3 => q v3 H1 τ2
theorem s_strings_ContainsAny_eq (call : CallK) (N : Nat) (a0 a1 : V) (H : Heap) (τ : Tape) (q : KV) : s_strings_ContainsAny call N a0 a1 H τ q = funK call N fn_strings_ContainsAny [a0, a1] H τ q := by kernel_rfl
def e_strings_ContainsAny (call : CallK) (N : Nat) (vs : List V) (H : Heap) (τ : Tape) (q : KV) : Ans := match vs with | [a0, a1] => s_strings_ContainsAny call N a0 a1 H τ q | _ => none
theorem e_strings_ContainsAny_ok : EntOk fn_strings_ContainsAny e_strings_ContainsAny := by
  intro call N vs H τ q r h
  unfold e_strings_ContainsAny at h
  split at h
  · rw [s_strings_ContainsAny_eq] at h; exact h
  · cases h
theorem e_strings_ContainsAny_nat : EntNat e_strings_ContainsAny := by
  intro c hn N vs H τ q
  unfold e_strings_ContainsAny
  split
  · rw [s_strings_ContainsAny_eq, s_strings_ContainsAny_eq]; exact funK_ent hn _ _ _ _ _ _
  · rfl
/-- ostiary/url.Own -/
def fn_url_Own : Fun := ⟨1, (.seq (.reg [iR 2 (.p .mv) [(.c (.int .i64 (.ofNat 0)))]]) (.keep [0] (.seq (.seq (.reg [iR 3 (.p .mv) [(.t 0)]]) (.keep [3] (.block 0 (.seq (.seq (.reg [iR 5 (.p (.bin .eql)) [(.t 3), (.c (.str (bs [104, 116, 116, 112])))], iR 4 (.p .mv) [(.t 5)]]) (.keep [3, 4] (.cond (.t 4) .skip (.reg [iR 6 (.p (.bin .eql)) [(.t 3), (.c (.str (bs [119, 115])))], iR 4 (.p .mv) [(.t 6)]])))) (.keep [3, 4] (.cond (.t 4) (.seq (.reg [iR 2 (.p .mv) [(.c (.int .i64 (.ofNat 80)))]]) (.keep [2] (.keep [2] .ret))) (.seq (.seq (.reg [iR 8 (.p (.bin .eql)) [(.t 3), (.c (.str (bs [104, 116, 116, 112, 115])))], iR 7 (.p .mv) [(.t 8)]]) (.keep [3, 7] (.cond (.t 7) .skip (.reg [iR 9 (.p (.bin .eql)) [(.t 3), (.c (.str (bs [119, 115, 115])))], iR 7 (.p .mv) [(.t 9)]])))) (.keep [3, 7] (.cond (.t 7) (.seq (.reg [iR 2 (.p .mv) [(.c (.int .i64 (.ofNat 443)))]])
    (.keep [2] (.keep [2] .ret))) (.seq (.reg [iR 11 (.p (.bin .eql)) [(.t 3), (.c (.str (bs [102, 116, 112])))], iR 10 (.p .mv) [(.t 11)]]) (.keep [10] (.cond (.t 10) (.seq (.reg [iR 2 (.p .mv) [(.c (.int .i64 (.ofNat 21)))]]) (.keep [2] (.keep [2] .ret))) .skip)))))))))))) (.keep [] (.seq (.reg [iR 2 (.p .mv) [(.c (.int .i64 (.negSucc 0)))]]) (.keep [2] (.keep [2] .ret))))))), [(.t 2)]⟩
def s_url_Own (call : CallK) (N : Nat) (a0 : V) (H : Heap) (τ : Tape) (q : KV) : Ans := funK call N fn_url_Own [a0] H τ q
theorem s_url_Own_eq (call : CallK) (N : Nat) (a0 : V) (H : Heap) (τ : Tape) (q : KV) : s_url_Own call N a0 H τ q = funK call N fn_url_Own [a0] H τ q := by kernel_rfl
def e_url_Own (call : CallK) (N : Nat) (vs : List V) (H : Heap) (τ : Tape) (q : KV) : Ans := match vs with | [a0] => s_url_Own call N a0 H τ q | _ => none
theorem e_url_Own_ok : EntOk fn_url_Own e_url_Own := by
  intro call N vs H τ q r h
  unfold e_url_Own at h
  split at h
  · rw [s_url_Own_eq] at h; exact h
  · cases h
theorem e_url_Own_nat : EntNat e_url_Own := by
  intro c hn N vs H τ q
  unfold e_url_Own
  split
  · rw [s_url_Own_eq, s_url_Own_eq]; exact funK_ent hn _ _ _ _ _ _
  · rfl
/-- internal/strconv.Itoa -/
def fn_strconv_Itoa_n50 : Fun := ⟨1, (.seq (.reg [iR 2 (.p .mv) [(.c (.str []))]]) (.keep [0] (.seq (.reg [iR 3 (.p .mv) [(.t 0)], iR 4 (.call 71) [(.t 3), (.c (.int .i64 (.ofNat 10)))], iR 2 (.p .mv) [(.t 4)]]) (.keep [2] (.keep [2] .ret))))), [(.t 2)]⟩
def s_strconv_Itoa_n50 (call : CallK) (N : Nat) (a0 : V) (H : Heap) (τ : Tape) (q : KV) : Ans := funK call N fn_strconv_Itoa_n50 [a0] H τ q
theorem s_strconv_Itoa_n50_eq (call : CallK) (N : Nat) (a0 : V) (H : Heap) (τ : Tape) (q : KV) : s_strconv_Itoa_n50 call N a0 H τ q = funK call N fn_strconv_Itoa_n50 [a0] H τ q := by kernel_rfl
def e_strconv_Itoa_n50 (call : CallK) (N : Nat) (vs : List V) (H : Heap) (τ : Tape) (q : KV) : Ans := match vs with | [a0] => s_strconv_Itoa_n50 call N a0 H τ q | _ => none
theorem e_strconv_Itoa_n50_ok : EntOk fn_strconv_Itoa_n50 e_strconv_Itoa_n50 := by
  intro call N vs H τ q r h
  unfold e_strconv_Itoa_n50 at h
  split at h
  · rw [s_strconv_Itoa_n50_eq] at h; exact h
  · cases h
theorem e_strconv_Itoa_n50_nat : EntNat e_strconv_Itoa_n50 := by
  intro c hn N vs H τ q
  unfold e_strconv_Itoa_n50
  split
  · rw [s_strconv_Itoa_n50_eq, s_strconv_Itoa_n50_eq]; exact funK_ent hn _ _ _ _ _ _
  · rfl
/-- ostiary/ostiaryref3.Parse -/
def fn_ref3_Parse : Fun := ⟨1, (.seq (.reg [iR 2 (.e (.alloc [(.str []), (.str []), (.str []), (.str []), (.bool false), (.int .i64 (.ofNat 0)), (.bool false), .nils, (.str []), (.str []), (.bool false), (.bool false)])) [], iR 3 (.p .mv) [(.c (.int .i64 (.ofNat 0)))]]) (.keep [0, 2] (.seq (.seq (.reg [iR 10 (.p .mv) [(.t 0)], iR 11 (.p .lenS) [(.t 10)], iR 12 (.p (.bin .gtr)) [(.t 11), (.c (.int .i64 (.ofNat 4096)))]]) (.keep [0, 2, 12] (.cond (.t 12) (.seq (.reg [iR 13 (.p (.build [(.str []), (.str []), (.str []), (.str []), (.bool false), (.int .i64 (.ofNat 0)), (.bool false), .nils, (.str []), (.str []), (.bool false), (.bool false)] [])) [], ⟨none, none, (.e (.store 12)), [(.t 2), (.t 13)], none⟩, iR 3 (.p .mv) [(.c (.int .i64 (.ofNat 3)))]]) (.keep [2, 3] (.keep [2, 3] .ret))) .skip)))
    (.keep [0, 2] (.seq (.reg [iR 4 (.e (.alloc [(.str []), (.str []), (.str []), (.str []), (.bool false), (.int .i64 (.ofNat 0)), (.bool false), .nils, (.str []), (.str []), (.bool false), (.bool false)])) []]) (.keep [0, 2, 4] (.seq (.reg [iR 14 (.p .mv) [(.t 0)], iR 15 (.call 73) [(.t 14)], iR 16 (.call 72) [(.t 4), (.t 15)], iR 5 (.p .mv) [(.t 16)]]) (.keep [2, 4, 5] (.seq (.reg [iR 18 (.p .mv) [(.t 5)], iR 19 (.call 74) [(.t 18)], iR 17 (.p .mv) [(.t 19)], iR 20 (.p (.extract 0)) [(.t 17)], iR 21 (.p (.extract 1)) [(.t 17)], iR 22 (.p (.extract 2)) [(.t 17)], iR 6 (.p .mv) [(.t 20)], iR 7 (.p .mv) [(.t 21)], iR 8 (.p .mv) [(.t 22)]]) (.keep [2, 4, 6, 7, 8] (.seq (.seq (.reg [iR 23 (.p .mv) [(.t 8)], iR 24 (.p (.un .not)) [(.t 23)]]) (.keep [2, 4, 6, 7, 24] (.cond (.t 24)
    (.seq (.reg [iR 25 (.p (.build [(.str []), (.str []), (.str []), (.str []), (.bool false), (.int .i64 (.ofNat 0)), (.bool false), .nils, (.str []), (.str []), (.bool false), (.bool false)] [])) [], ⟨none, none, (.e (.store 12)), [(.t 2), (.t 25)], none⟩, iR 3 (.p .mv) [(.c (.int .i64 (.ofNat 12)))]]) (.keep [2, 3] (.keep [2, 3] .ret))) .skip))) (.keep [2, 4, 6, 7] (.seq (.reg [iR 26 (.p .mv) [(.t 6)], iR 27 (.p (.fieldAddr 0)) [(.t 4)], ⟨none, none, (.e (.store 1)), [(.t 27), (.t 26)], none⟩]) (.keep [2, 4, 7] (.seq (.reg [iR 28 (.p .mv) [(.t 7)], iR 29 (.call 75) [(.t 4), (.t 28)], iR 9 (.p .mv) [(.t 29)]]) (.keep [2, 4, 9] (.seq (.seq (.reg [iR 30 (.p .mv) [(.t 9)], iR 31 (.p (.bin .neq)) [(.t 30), (.c (.int .i64 (.ofNat 0)))]]) (.keep [2, 4, 9, 31] (.cond (.t 31)
    (.seq (.reg [iR 32 (.p (.build [(.str []), (.str []), (.str []), (.str []), (.bool false), (.int .i64 (.ofNat 0)), (.bool false), .nils, (.str []), (.str []), (.bool false), (.bool false)] [])) [], iR 33 (.p .mv) [(.t 9)], ⟨none, none, (.e (.store 12)), [(.t 2), (.t 32)], none⟩, iR 3 (.p .mv) [(.t 33)]]) (.keep [2, 3] (.keep [2, 3] .ret))) .skip))) (.keep [2, 4] (.seq (.reg [iR 34 (.l (.load (some 12))) [(.t 4)], ⟨none, none, (.e (.store 12)), [(.t 2), (.t 34)], none⟩, iR 3 (.p .mv) [(.c (.int .i64 (.ofNat 0)))]]) (.keep [2, 3] (.keep [2, 3] .ret))))))))))))))))))))), [(.cell 2 (some 12)), (.t 3)]⟩
def s_ref3_Parse (call : CallK) (N : Nat) (a0 : V) (H : Heap) (τ : Tape) (q : KV) : Ans := funK call N fn_ref3_Parse [a0] H τ q
theorem s_ref3_Parse_eq (call : CallK) (N : Nat) (a0 : V) (H : Heap) (τ : Tape) (q : KV) : s_ref3_Parse call N a0 H τ q = funK call N fn_ref3_Parse [a0] H τ q := by kernel_rfl
def e_ref3_Parse (call : CallK) (N : Nat) (vs : List V) (H : Heap) (τ : Tape) (q : KV) : Ans := match vs with | [a0] => s_ref3_Parse call N a0 H τ q | _ => none
theorem e_ref3_Parse_ok : EntOk fn_ref3_Parse e_ref3_Parse := by
  intro call N vs H τ q r h
  unfold e_ref3_Parse at h
  split at h
  · rw [s_ref3_Parse_eq] at h; exact h
  · cases h
theorem e_ref3_Parse_nat : EntNat e_ref3_Parse := by
  intro c hn N vs H τ q
  unfold e_ref3_Parse
  split
  · rw [s_ref3_Parse_eq, s_ref3_Parse_eq]; exact funK_ent hn _ _ _ _ _ _
  · rfl
/-- ostiary/ostiarykeep.Few -/
def fn_keep_Few : Fun := ⟨2, (.seq (.reg [iR 4 (.p .mv) [(.c (.str []))]]) (.keep [0, 1] (.seq (.seq (.reg [iR 5 (.p .mv) [(.t 0)], iR 6 (.p .lenS) [(.t 5)], iR 7 (.p .mv) [(.t 1)], iR 8 (.p (.bin .gtr)) [(.t 6), (.t 7)]]) (.keep [0, 1, 8] (.cond (.t 8) (.seq (.reg [iR 9 (.p .mv) [(.t 0)], iR 10 (.p .mv) [(.t 1)], iR 11 (.p (.strSlice false true)) [(.t 9), (.t 10)], iR 4 (.p .mv) [(.t 11)]]) (.keep [4] (.keep [4] .ret))) .skip))) (.keep [0] (.seq (.reg [iR 12 (.p .mv) [(.t 0)], iR 4 (.p .mv) [(.t 12)]]) (.keep [4] (.keep [4] .ret))))))), [(.t 4)]⟩
def s_keep_Few (call : CallK) (N : Nat) (a0 a1 : V) (H : Heap) (τ : Tape) (q : KV) : Ans := funK call N fn_keep_Few [a0, a1] H τ q
theorem s_keep_Few_eq (call : CallK) (N : Nat) (a0 a1 : V) (H : Heap) (τ : Tape) (q : KV) : s_keep_Few call N a0 a1 H τ q = funK call N fn_keep_Few [a0, a1] H τ q := by kernel_rfl
def e_keep_Few (call : CallK) (N : Nat) (vs : List V) (H : Heap) (τ : Tape) (q : KV) : Ans := match vs with | [a0, a1] => s_keep_Few call N a0 a1 H τ q | _ => none
theorem e_keep_Few_ok : EntOk fn_keep_Few e_keep_Few := by
  intro call N vs H τ q r h
  unfold e_keep_Few at h
  split at h
  · rw [s_keep_Few_eq] at h; exact h
  · cases h
theorem e_keep_Few_nat : EntNat e_keep_Few := by
  intro c hn N vs H τ q
  unfold e_keep_Few
  split
  · rw [s_keep_Few_eq, s_keep_Few_eq]; exact funK_ent hn _ _ _ _ _ _
  · rfl
/-- ostiary/ostiaryref3.Special -/
def fn_ref3_Special : Fun := ⟨1, (.seq (.reg [iR 2 (.p .mv) [(.c (.bool false))]]) (.keep [0] (.seq (.reg [iR 3 (.p .mv) [(.t 0)], iR 4 (.call 60) [(.t 3)], iR 5 (.p (.bin .geq)) [(.t 4), (.c (.int .i64 (.ofNat 0)))], iR 2 (.p .mv) [(.t 5)]]) (.keep [2] (.keep [2] .ret))))), [(.t 2)]⟩
def s_ref3_Special (call : CallK) (N : Nat) (a0 : V) (H : Heap) (τ : Tape) (q : KV) : Ans := funK call N fn_ref3_Special [a0] H τ q
theorem s_ref3_Special_eq (call : CallK) (N : Nat) (a0 : V) (H : Heap) (τ : Tape) (q : KV) : s_ref3_Special call N a0 H τ q = funK call N fn_ref3_Special [a0] H τ q := by kernel_rfl
def e_ref3_Special (call : CallK) (N : Nat) (vs : List V) (H : Heap) (τ : Tape) (q : KV) : Ans := match vs with | [a0] => s_ref3_Special call N a0 H τ q | _ => none
theorem e_ref3_Special_ok : EntOk fn_ref3_Special e_ref3_Special := by
  intro call N vs H τ q r h
  unfold e_ref3_Special at h
  split at h
  · rw [s_ref3_Special_eq] at h; exact h
  · cases h
theorem e_ref3_Special_nat : EntNat e_ref3_Special := by
  intro c hn N vs H τ q
  unfold e_ref3_Special
  split
  · rw [s_ref3_Special_eq, s_ref3_Special_eq]; exact funK_ent hn _ _ _ _ _ _
  · rfl
/-- ostiary/ostiaryref4.Port -/
def fn_ref4_Port : Fun := ⟨1, (.seq (.reg [iR 1 (.e .box) [(.t 0)], iR 2 (.p .mv) [(.c (.int .i64 (.ofNat 0)))]]) (.keep [1] (.seq (.seq (.reg [iR 3 (.p (.fieldAddr 5)) [(.t 1)], iR 4 (.l (.load none)) [(.t 3)], iR 5 (.p (.bin .eql)) [(.t 4), (.c (.int .i64 (.negSucc 0)))]]) (.keep [1, 5] (.cond (.t 5) (.seq (.reg [iR 6 (.p (.fieldAddr 0)) [(.t 1)], iR 7 (.l (.load none)) [(.t 6)], iR 8 (.call 60) [(.t 7)], iR 2 (.p .mv) [(.t 8)]]) (.keep [2] (.keep [2] .ret))) .skip))) (.keep [1] (.seq (.reg [iR 9 (.p (.fieldAddr 5)) [(.t 1)], iR 10 (.l (.load none)) [(.t 9)], iR 2 (.p .mv) [(.t 10)]]) (.keep [2] (.keep [2] .ret))))))), [(.t 2)]⟩
def s_ref4_Port (call : CallK) (N : Nat) (a0 : V) (H : Heap) (τ : Tape) (q : KV) : Ans := funK call N fn_ref4_Port [a0] H τ q
theorem s_ref4_Port_eq (call : CallK) (N : Nat) (a0 : V) (H : Heap) (τ : Tape) (q : KV) : s_ref4_Port call N a0 H τ q = funK call N fn_ref4_Port [a0] H τ q := by kernel_rfl
def e_ref4_Port (call : CallK) (N : Nat) (vs : List V) (H : Heap) (τ : Tape) (q : KV) : Ans := match vs with | [a0] => s_ref4_Port call N a0 H τ q | _ => none
theorem e_ref4_Port_ok : EntOk fn_ref4_Port e_ref4_Port := by
  intro call N vs H τ q r h
  unfold e_ref4_Port at h
  split at h
  · rw [s_ref4_Port_eq] at h; exact h
  · cases h
theorem e_ref4_Port_nat : EntNat e_ref4_Port := by
  intro c hn N vs H τ q
  unfold e_ref4_Port
  split
  · rw [s_ref4_Port_eq, s_ref4_Port_eq]; exact funK_ent hn _ _ _ _ _ _
  · rfl
/-- internal/stringslite.Cut -/
def fn_stringslite_Cut : Fun := ⟨2, (.seq (.reg [iR 4 (.p .mv) [(.c (.str []))], iR 5 (.p .mv) [(.c (.str []))], iR 6 (.p .mv) [(.c (.bool false))]]) (.keep [0, 1] (.seq (.seq (.reg [iR 8 (.p .mv) [(.t 0)], iR 9 (.p .mv) [(.t 1)], iR 10 (.call 76) [(.t 8), (.t 9)], iR 7 (.p .mv) [(.t 10)]]) (.keep [0, 1, 7] (.seq (.reg [iR 11 (.p .mv) [(.t 7)], iR 12 (.p (.bin .geq)) [(.t 11), (.c (.int .i64 (.ofNat 0)))]]) (.keep [0, 1, 7, 12] (.cond (.t 12) (.seq (.draw [iR 13 (.p .mv) [(.t 0)], iR 14 (.p .mv) [(.t 7)], iR 15 (.p (.strSlice false true)) [(.t 13), (.t 14)], iR 16 (.p .mv) [(.t 0)], iR 17 (.p .mv) [(.t 7)], iR 18 (.p .mv) [(.t 1)], iR 19 (.p .lenS) [(.t 18)], iR 20 (.p (.bin .add)) [(.t 17), (.t 19)], iR 21 (.p (.strSlice true false)) [(.t 16), (.t 20)], iR 4 (.p .mv) [(.t 15)], iR 5 (.p .mv) [(.t 21)], iR 6 (.p .mv) [(.c (.bool true))]]) (.keep [4, 5, 6] (.keep [4, 5, 6] .ret)))
    .skip))))) (.keep [0] (.seq (.reg [iR 22 (.p .mv) [(.t 0)], iR 4 (.p .mv) [(.t 22)], iR 5 (.p .mv) [(.c (.str []))], iR 6 (.p .mv) [(.c (.bool false))]]) (.keep [4, 5, 6] (.keep [4, 5, 6] .ret))))))), [(.t 4), (.t 5), (.t 6)]⟩
def s_stringslite_Cut (call : CallK) (N : Nat) (a0 a1 : V) (H : Heap) (τ : Tape) (q : KV) : Ans := call f_stringslite_Index [a0, a1] H τ fun v0 H1 τ2 => binK .geq v0 (.int .i64 (.ofNat 0)) fun v3 => condK v3 (someK (pStrSlice false true [a0, v0]) fun v4 => someK (pLenS [a1]) fun v5 => binK .add v0 v5 fun v6 => someK (pStrSlice true false [a0, v6]) fun v7 => q (.tup [v4, v7, (.bool true)]) H1 τ2) (q (.tup [a0, (.str []), (.bool false)]) H1 τ2)
theorem s_stringslite_Cut_eq (call : CallK) (N : Nat) (a0 a1 : V) (H : Heap) (τ : Tape) (q : KV) : s_stringslite_Cut call N a0 a1 H τ q = funK call N fn_stringslite_Cut [a0, a1] H τ q := by kernel_rfl
def e_stringslite_Cut (call : CallK) (N : Nat) (vs : List V) (H : Heap) (τ : Tape) (q : KV) : Ans := match vs with | [a0, a1] => s_stringslite_Cut call N a0 a1 H τ q | _ => none
theorem e_stringslite_Cut_ok : EntOk fn_stringslite_Cut e_stringslite_Cut := by
  intro call N vs H τ q r h
  unfold e_stringslite_Cut at h
  split at h
  · rw [s_stringslite_Cut_eq] at h; exact h
  · cases h
theorem e_stringslite_Cut_nat : EntNat e_stringslite_Cut := by
  intro c hn N vs H τ q
  unfold e_stringslite_Cut
  split
  · rw [s_stringslite_Cut_eq, s_stringslite_Cut_eq]; exact funK_ent hn _ _ _ _ _ _
  · rfl
/-- strings.CutPrefix -/
def fn_strings_CutPrefix : Fun := ⟨2, (.seq (.reg [iR 4 (.p .mv) [(.c (.str []))], iR 5 (.p .mv) [(.c (.bool false))]]) (.keep [0, 1] (.seq (.reg [iR 6 (.p .mv) [(.t 0)], iR 7 (.p .mv) [(.t 1)], iR 8 (.call 77) [(.t 6), (.t 7)], iR 9 (.p (.extract 0)) [(.t 8)], iR 10 (.p (.extract 1)) [(.t 8)], iR 4 (.p .mv) [(.t 9)], iR 5 (.p .mv) [(.t 10)]]) (.keep [4, 5] (.keep [4, 5] .ret))))), [(.t 4), (.t 5)]⟩
def s_strings_CutPrefix (call : CallK) (N : Nat) (a0 a1 : V) (H : Heap) (τ : Tape) (q : KV) : Ans := call f_stringslite_CutPrefix [a0, a1] H τ fun v0 H1 τ2 => someK (pExtract 0 [v0]) fun v3 => someK (pExtract 1 [v0]) fun v4 => q (.tup [v3, v4]) H1 τ2
theorem s_strings_CutPrefix_eq (call : CallK) (N : Nat) (a0 a1 : V) (H : Heap) (τ : Tape) (q : KV) : s_strings_CutPrefix call N a0 a1 H τ q = funK call N fn_strings_CutPrefix [a0, a1] H τ q := by kernel_rfl
def e_strings_CutPrefix (call : CallK) (N : Nat) (vs : List V) (H : Heap) (τ : Tape) (q : KV) : Ans := match vs with | [a0, a1] => s_strings_CutPrefix call N a0 a1 H τ q | _ => none
theorem e_strings_CutPrefix_ok : EntOk fn_strings_CutPrefix e_strings_CutPrefix := by
  intro call N vs H τ q r h
  unfold e_strings_CutPrefix at h
  split at h
  · rw [s_strings_CutPrefix_eq] at h; exact h
  · cases h
theorem e_strings_CutPrefix_nat : EntNat e_strings_CutPrefix := by
  intro c hn N vs H τ q
  unfold e_strings_CutPrefix
  split
  · rw [s_strings_CutPrefix_eq, s_strings_CutPrefix_eq]; exact funK_ent hn _ _ _ _ _ _
  · rfl
/-- ostiary/headers.told -/
def fn_headers_told : Fun := ⟨1, (.seq (.reg [iR 2 (.p .mv) [(.c (.int .i64 (.ofNat 0)))], iR 3 (.p .mv) [(.c (.bool false))]]) (.keep [0] (.seq (.seq (.reg [iR 4 (.p .mv) [(.t 0)], iR 5 (.p (.bin .eql)) [(.t 4), (.c (.str []))]]) (.keep [0, 5] (.cond (.t 5) (.seq (.reg [iR 2 (.p .mv) [(.c (.int .i64 (.negSucc 0)))], iR 3 (.p .mv) [(.c (.bool true))]]) (.keep [2, 3] (.keep [2, 3] .ret))) .skip))) (.keep [0] (.seq (.reg [iR 6 (.p .mv) [(.t 0)], iR 7 (.call 78) [(.t 6)], iR 8 (.p (.extract 0)) [(.t 7)], iR 9 (.p (.extract 1)) [(.t 7)], iR 2 (.p .mv) [(.t 8)], iR 3 (.p .mv) [(.t 9)]]) (.keep [2, 3] (.keep [2, 3] .ret))))))), [(.t 2), (.t 3)]⟩
def s_headers_told (call : CallK) (N : Nat) (a0 : V) (H : Heap) (τ : Tape) (q : KV) : Ans := binK .eql a0 (.str []) fun v0 => condK v0 (q (.tup [(.int .i64 (.negSucc 0)), (.bool true)]) H τ) (call f_infra_Int [a0] H τ fun v1 H2 τ3 => someK (pExtract 0 [v1]) fun v4 => someK (pExtract 1 [v1]) fun v5 => q (.tup [v4, v5]) H2 τ3)
theorem s_headers_told_eq (call : CallK) (N : Nat) (a0 : V) (H : Heap) (τ : Tape) (q : KV) : s_headers_told call N a0 H τ q = funK call N fn_headers_told [a0] H τ q := by kernel_rfl
def e_headers_told (call : CallK) (N : Nat) (vs : List V) (H : Heap) (τ : Tape) (q : KV) : Ans := match vs with | [a0] => s_headers_told call N a0 H τ q | _ => none
theorem e_headers_told_ok : EntOk fn_headers_told e_headers_told := by
  intro call N vs H τ q r h
  unfold e_headers_told at h
  split at h
  · rw [s_headers_told_eq] at h; exact h
  · cases h
theorem e_headers_told_nat : EntNat e_headers_told := by
  intro c hn N vs H τ q
  unfold e_headers_told
  split
  · rw [s_headers_told_eq, s_headers_told_eq]; exact funK_ent hn _ _ _ _ _ _
  · rfl
/-- strconv.FormatInt -/
def fn_strconv_FormatInt : Fun := ⟨2, (.seq (.reg [iR 4 (.p .mv) [(.c (.str []))]]) (.keep [0, 1] (.seq (.reg [iR 5 (.p .mv) [(.t 0)], iR 6 (.p .mv) [(.t 1)], iR 7 (.call 71) [(.t 5), (.t 6)], iR 4 (.p .mv) [(.t 7)]]) (.keep [4] (.keep [4] .ret))))), [(.t 4)]⟩
def s_strconv_FormatInt (call : CallK) (N : Nat) (a0 a1 : V) (H : Heap) (τ : Tape) (q : KV) : Ans := funK call N fn_strconv_FormatInt [a0, a1] H τ q
theorem s_strconv_FormatInt_eq (call : CallK) (N : Nat) (a0 a1 : V) (H : Heap) (τ : Tape) (q : KV) : s_strconv_FormatInt call N a0 a1 H τ q = funK call N fn_strconv_FormatInt [a0, a1] H τ q := by kernel_rfl
def e_strconv_FormatInt (call : CallK) (N : Nat) (vs : List V) (H : Heap) (τ : Tape) (q : KV) : Ans := match vs with | [a0, a1] => s_strconv_FormatInt call N a0 a1 H τ q | _ => none
theorem e_strconv_FormatInt_ok : EntOk fn_strconv_FormatInt e_strconv_FormatInt := by
  intro call N vs H τ q r h
  unfold e_strconv_FormatInt at h
  split at h
  · rw [s_strconv_FormatInt_eq] at h; exact h
  · cases h
theorem e_strconv_FormatInt_nat : EntNat e_strconv_FormatInt := by
  intro c hn N vs H τ q
  unfold e_strconv_FormatInt
  split
  · rw [s_strconv_FormatInt_eq, s_strconv_FormatInt_eq]; exact funK_ent hn _ _ _ _ _ _
  · rfl
/-- ostiary/ostiaryref3.Own -/
def fn_ref3_Own : Fun := ⟨1, (.seq (.reg [iR 2 (.p .mv) [(.c (.int .i64 (.ofNat 0)))]]) (.keep [0] (.seq (.seq (.reg [iR 3 (.p .mv) [(.t 0)]]) (.keep [3] (.block 0 (.seq (.seq (.reg [iR 5 (.p (.bin .eql)) [(.t 3), (.c (.str (bs [104, 116, 116, 112])))], iR 4 (.p .mv) [(.t 5)]]) (.keep [3, 4] (.cond (.t 4) .skip (.reg [iR 6 (.p (.bin .eql)) [(.t 3), (.c (.str (bs [119, 115])))], iR 4 (.p .mv) [(.t 6)]])))) (.keep [3, 4] (.cond (.t 4) (.seq (.reg [iR 2 (.p .mv) [(.c (.int .i64 (.ofNat 80)))]]) (.keep [2] (.keep [2] .ret))) (.seq (.seq (.reg [iR 8 (.p (.bin .eql)) [(.t 3), (.c (.str (bs [104, 116, 116, 112, 115])))], iR 7 (.p .mv) [(.t 8)]]) (.keep [3, 7] (.cond (.t 7) .skip (.reg [iR 9 (.p (.bin .eql)) [(.t 3), (.c (.str (bs [119, 115, 115])))], iR 7 (.p .mv) [(.t 9)]])))) (.keep [3, 7] (.cond (.t 7) (.seq (.reg [iR 2 (.p .mv) [(.c (.int .i64 (.ofNat 443)))]])
    (.keep [2] (.keep [2] .ret))) (.seq (.reg [iR 11 (.p (.bin .eql)) [(.t 3), (.c (.str (bs [102, 116, 112])))], iR 10 (.p .mv) [(.t 11)]]) (.keep [10] (.cond (.t 10) (.seq (.reg [iR 2 (.p .mv) [(.c (.int .i64 (.ofNat 21)))]]) (.keep [2] (.keep [2] .ret))) .skip)))))))))))) (.keep [] (.seq (.reg [iR 2 (.p .mv) [(.c (.int .i64 (.negSucc 0)))]]) (.keep [2] (.keep [2] .ret))))))), [(.t 2)]⟩
def s_ref3_Own (call : CallK) (N : Nat) (a0 : V) (H : Heap) (τ : Tape) (q : KV) : Ans := funK call N fn_ref3_Own [a0] H τ q
theorem s_ref3_Own_eq (call : CallK) (N : Nat) (a0 : V) (H : Heap) (τ : Tape) (q : KV) : s_ref3_Own call N a0 H τ q = funK call N fn_ref3_Own [a0] H τ q := by kernel_rfl
def e_ref3_Own (call : CallK) (N : Nat) (vs : List V) (H : Heap) (τ : Tape) (q : KV) : Ans := match vs with | [a0] => s_ref3_Own call N a0 H τ q | _ => none
theorem e_ref3_Own_ok : EntOk fn_ref3_Own e_ref3_Own := by
  intro call N vs H τ q r h
  unfold e_ref3_Own at h
  split at h
  · rw [s_ref3_Own_eq] at h; exact h
  · cases h
theorem e_ref3_Own_nat : EntNat e_ref3_Own := by
  intro c hn N vs H τ q
  unfold e_ref3_Own
  split
  · rw [s_ref3_Own_eq, s_ref3_Own_eq]; exact funK_ent hn _ _ _ _ _ _
  · rfl
/-- ostiary/ostiaryref1.Begins -/
def fn_ref1_Begins : Fun := ⟨2, (.seq (.reg [iR 4 (.p .mv) [(.c (.bool false))]]) (.keep [0, 1] (.seq (.reg [iR 5 (.p .mv) [(.t 0)], iR 6 (.p .lenS) [(.t 5)], iR 7 (.p .mv) [(.t 1)], iR 8 (.p .lenS) [(.t 7)], iR 9 (.p (.bin .geq)) [(.t 6), (.t 8)], iR 10 (.p .mv) [(.t 9)], iG 11 10 true (.p .mv) [(.t 0)], iG 12 10 true (.p .mv) [(.t 1)], iG 13 10 true (.p .lenS) [(.t 12)], iG 14 10 true (.p (.strSlice false true)) [(.t 11), (.t 13)], iG 15 10 true (.p .mv) [(.t 1)], iG 16 10 true (.p (.bin .eql)) [(.t 14), (.t 15)], iR 17 (.p .pick) [(.t 10), (.t 16), (.c (.bool false))], iR 4 (.p .mv) [(.t 17)]]) (.keep [4] (.keep [4] .ret))))), [(.t 4)]⟩
def s_ref1_Begins (call : CallK) (N : Nat) (a0 a1 : V) (H : Heap) (τ : Tape) (q : KV) : Ans := funK call N fn_ref1_Begins [a0, a1] H τ q
theorem s_ref1_Begins_eq (call : CallK) (N : Nat) (a0 a1 : V) (H : Heap) (τ : Tape) (q : KV) : s_ref1_Begins call N a0 a1 H τ q = funK call N fn_ref1_Begins [a0, a1] H τ q := by kernel_rfl
def e_ref1_Begins (call : CallK) (N : Nat) (vs : List V) (H : Heap) (τ : Tape) (q : KV) : Ans := match vs with | [a0, a1] => s_ref1_Begins call N a0 a1 H τ q | _ => none
theorem e_ref1_Begins_ok : EntOk fn_ref1_Begins e_ref1_Begins := by
  intro call N vs H τ q r h
  unfold e_ref1_Begins at h
  split at h
  · rw [s_ref1_Begins_eq] at h; exact h
  · cases h
theorem e_ref1_Begins_nat : EntNat e_ref1_Begins := by
  intro c hn N vs H τ q
  unfold e_ref1_Begins
  split
  · rw [s_ref1_Begins_eq, s_ref1_Begins_eq]; exact funK_ent hn _ _ _ _ _ _
  · rfl
/-- ostiary/ostiaryref1.Int -/
def fn_ref1_Int : Fun := ⟨1, (.seq (.reg [iR 2 (.p .mv) [(.c (.int .i64 (.ofNat 0)))], iR 3 (.p .mv) [(.c (.bool false))]]) (.keep [0] (.seq (.reg [iR 4 (.p .mv) [(.c (.int .i64 (.ofNat 0)))]]) (.keep [0, 4] (.seq (.seq (.reg [iR 5 (.p .mv) [(.c (.int .i64 (.ofNat 0)))]]) (.keep [0, 4, 5] (.block 0 (.loop (.keep [0, 4, 5] (.seq (.seq (.reg [iR 7 (.p .mv) [(.t 5)], iR 8 (.p .mv) [(.t 0)], iR 9 (.p .lenS) [(.t 8)], iR 10 (.p (.bin .lss)) [(.t 7), (.t 9)]]) (.keep [0, 4, 5, 10] (.cond (.t 10) .skip (.keep [0, 4] (.exit 0))))) (.keep [0, 4, 5] (.seq (.block 1 (.seq (.seq (.reg [iR 13 (.p .mv) [(.t 0)], iR 14 (.p .mv) [(.t 5)], iR 15 (.p .strIndex) [(.t 13), (.t 14)], iR 16 (.call 80) [(.t 15)], iR 17 (.p (.un .not)) [(.t 16)]]) (.keep [0, 4, 5, 17] (.cond (.t 17) (.seq (.reg [iR 2 (.p .mv) [(.c (.int .i64 (.ofNat 0)))], iR 3 (.p .mv) [(.c (.bool false))]])
    (.keep [2, 3] (.keep [2, 3] .ret))) .skip))) (.keep [0, 4, 5] (.seq (.reg [iR 18 (.p .mv) [(.t 0)], iR 19 (.p .mv) [(.t 5)], iR 20 (.p .strIndex) [(.t 18), (.t 19)], iR 21 (.p (.bin .sub)) [(.t 20), (.c (.int .u8 (.ofNat 48)))], iR 22 (.p (.toInt .i64)) [(.t 21)], iR 6 (.p .mv) [(.t 22)]]) (.keep [0, 4, 5, 6] (.seq (.seq (.reg [iR 23 (.p .mv) [(.t 4)], iR 24 (.p .mv) [(.t 6)], iR 25 (.p (.bin .sub)) [(.c (.int .i64 (.ofNat 9223372036854775807))), (.t 24)], iR 26 (.p (.bin .quo)) [(.t 25), (.c (.int .i64 (.ofNat 10)))], iR 27 (.p (.bin .gtr)) [(.t 23), (.t 26)]]) (.keep [0, 4, 5, 6, 27] (.cond (.t 27) (.seq (.reg [iR 4 (.p .mv) [(.c (.int .i64 (.ofNat 9223372036854775807)))]]) (.keep [0, 4, 5] (.keep [0, 4, 5] (.exit 1)))) .skip))) (.keep [0, 4, 5, 6] (.reg [iR 28 (.p .mv) [(.t 4)], iR 29 (.p (.bin .mul)) [(.t 28), (.c (.int .i64 (.ofNat 10)))], iR 30 (.p .mv) [(.t 6)],
    iR 31 (.p (.bin .add)) [(.t 29), (.t 30)], iR 4 (.p .mv) [(.t 31)]])))))))) (.keep [0, 4, 5] (.reg [iR 11 (.p .mv) [(.t 5)], iR 12 (.p (.bin .add)) [(.t 11), (.c (.int .i64 (.ofNat 1)))], iR 5 (.p .mv) [(.t 12)]])))))))))) (.keep [0, 4] (.seq (.reg [iR 32 (.p .mv) [(.t 4)], iR 33 (.p .mv) [(.t 0)], iR 34 (.p .lenS) [(.t 33)], iR 35 (.p (.bin .gtr)) [(.t 34), (.c (.int .i64 (.ofNat 0)))], iR 2 (.p .mv) [(.t 32)], iR 3 (.p .mv) [(.t 35)]]) (.keep [2, 3] (.keep [2, 3] .ret))))))))), [(.t 2), (.t 3)]⟩
def s_ref1_Int (call : CallK) (N : Nat) (a0 : V) (H : Heap) (τ : Tape) (q : KV) : Ans := funK call N fn_ref1_Int [a0] H τ q
theorem s_ref1_Int_eq (call : CallK) (N : Nat) (a0 : V) (H : Heap) (τ : Tape) (q : KV) : s_ref1_Int call N a0 H τ q = funK call N fn_ref1_Int [a0] H τ q := by kernel_rfl
def e_ref1_Int (call : CallK) (N : Nat) (vs : List V) (H : Heap) (τ : Tape) (q : KV) : Ans := match vs with | [a0] => s_ref1_Int call N a0 H τ q | _ => none
theorem e_ref1_Int_ok : EntOk fn_ref1_Int e_ref1_Int := by
  intro call N vs H τ q r h
  unfold e_ref1_Int at h
  split at h
  · rw [s_ref1_Int_eq] at h; exact h
  · cases h
theorem e_ref1_Int_nat : EntNat e_ref1_Int := by
  intro c hn N vs H τ q
  unfold e_ref1_Int
  split
  · rw [s_ref1_Int_eq, s_ref1_Int_eq]; exact funK_ent hn _ _ _ _ _ _
  · rfl
/-- strings.trimLeftByte -/
def fn_strings_trimLeftByte : Fun := ⟨2, (.seq (.reg [iR 4 (.p .mv) [(.c (.str []))]]) (.keep [0, 1] (.seq (.block 0 (.loop (.keep [0, 1] (.seq (.seq (.reg [iR 5 (.p .mv) [(.t 0)], iR 6 (.p .lenS) [(.t 5)], iR 7 (.p (.bin .gtr)) [(.t 6), (.c (.int .i64 (.ofNat 0)))], iR 8 (.p .mv) [(.t 7)], iG 9 8 true (.p .mv) [(.t 0)], iG 10 8 true (.p .strIndex) [(.t 9), (.c (.int .i64 (.ofNat 0)))], iG 11 8 true (.p .mv) [(.t 1)], iG 12 8 true (.p (.bin .eql)) [(.t 10), (.t 11)], iR 13 (.p .pick) [(.t 8), (.t 12), (.c (.bool false))]]) (.keep [0, 1, 13] (.cond (.t 13) .skip (.keep [0] (.exit 0))))) (.keep [0, 1] (.block 1 (.reg [iR 14 (.p .mv) [(.t 0)], iR 15 (.p (.strSlice true false)) [(.t 14), (.c (.int .i64 (.ofNat 1)))], iR 0 (.p .mv) [(.t 15)]]))))))) (.keep [0] (.seq (.reg [iR 16 (.p .mv) [(.t 0)], iR 4 (.p .mv) [(.t 16)]]) (.keep [4] (.keep [4] .ret))))))), [(.t 4)]⟩
def s_strings_trimLeftByte (call : CallK) (N : Nat) (a0 a1 : V) (H : Heap) (τ : Tape) (q : KV) : Ans := funK call N fn_strings_trimLeftByte [a0, a1] H τ q
theorem s_strings_trimLeftByte_eq (call : CallK) (N : Nat) (a0 a1 : V) (H : Heap) (τ : Tape) (q : KV) : s_strings_trimLeftByte call N a0 a1 H τ q = funK call N fn_strings_trimLeftByte [a0, a1] H τ q := by kernel_rfl
def e_strings_trimLeftByte (call : CallK) (N : Nat) (vs : List V) (H : Heap) (τ : Tape) (q : KV) : Ans := match vs with | [a0, a1] => s_strings_trimLeftByte call N a0 a1 H τ q | _ => none
theorem e_strings_trimLeftByte_ok : EntOk fn_strings_trimLeftByte e_strings_trimLeftByte := by
  intro call N vs H τ q r h
  unfold e_strings_trimLeftByte at h
  split at h
  · rw [s_strings_trimLeftByte_eq] at h; exact h
  · cases h
theorem e_strings_trimLeftByte_nat : EntNat e_strings_trimLeftByte := by
  intro c hn N vs H τ q
  unfold e_strings_trimLeftByte
  split
  · rw [s_strings_trimLeftByte_eq, s_strings_trimLeftByte_eq]; exact funK_ent hn _ _ _ _ _ _
  · rfl
/-- strings.trimRightByte -/
def fn_strings_trimRightByte : Fun := ⟨2, (.seq (.reg [iR 4 (.p .mv) [(.c (.str []))]]) (.keep [0, 1] (.seq (.block 0 (.loop (.keep [0, 1] (.seq (.seq (.reg [iR 5 (.p .mv) [(.t 0)], iR 6 (.p .lenS) [(.t 5)], iR 7 (.p (.bin .gtr)) [(.t 6), (.c (.int .i64 (.ofNat 0)))], iR 8 (.p .mv) [(.t 7)], iG 9 8 true (.p .mv) [(.t 0)], iG 10 8 true (.p .mv) [(.t 0)], iG 11 8 true (.p .lenS) [(.t 10)], iG 12 8 true (.p (.bin .sub)) [(.t 11), (.c (.int .i64 (.ofNat 1)))], iG 13 8 true (.p .strIndex) [(.t 9), (.t 12)], iG 14 8 true (.p .mv) [(.t 1)], iG 15 8 true (.p (.bin .eql)) [(.t 13), (.t 14)], iR 16 (.p .pick) [(.t 8), (.t 15), (.c (.bool false))]]) (.keep [0, 1, 16] (.cond (.t 16) .skip (.keep [0] (.exit 0))))) (.keep [0, 1] (.block 1 (.reg [iR 17 (.p .mv) [(.t 0)], iR 18 (.p .mv) [(.t 0)], iR 19 (.p .lenS) [(.t 18)], iR 20 (.p (.bin .sub)) [(.t 19), (.c (.int .i64 (.ofNat 1)))],
    iR 21 (.p (.strSlice false true)) [(.t 17), (.t 20)], iR 0 (.p .mv) [(.t 21)]]))))))) (.keep [0] (.seq (.reg [iR 22 (.p .mv) [(.t 0)], iR 4 (.p .mv) [(.t 22)]]) (.keep [4] (.keep [4] .ret))))))), [(.t 4)]⟩
def s_strings_trimRightByte (call : CallK) (N : Nat) (a0 a1 : V) (H : Heap) (τ : Tape) (q : KV) : Ans := funK call N fn_strings_trimRightByte [a0, a1] H τ q
theorem s_strings_trimRightByte_eq (call : CallK) (N : Nat) (a0 a1 : V) (H : Heap) (τ : Tape) (q : KV) : s_strings_trimRightByte call N a0 a1 H τ q = funK call N fn_strings_trimRightByte [a0, a1] H τ q := by kernel_rfl
def e_strings_trimRightByte (call : CallK) (N : Nat) (vs : List V) (H : Heap) (τ : Tape) (q : KV) : Ans := match vs with | [a0, a1] => s_strings_trimRightByte call N a0 a1 H τ q | _ => none
theorem e_strings_trimRightByte_ok : EntOk fn_strings_trimRightByte e_strings_trimRightByte := by
  intro call N vs H τ q r h
  unfold e_strings_trimRightByte at h
  split at h
  · rw [s_strings_trimRightByte_eq] at h; exact h
  · cases h
theorem e_strings_trimRightByte_nat : EntNat e_strings_trimRightByte := by
  intro c hn N vs H τ q
  unfold e_strings_trimRightByte
  split
  · rw [s_strings_trimRightByte_eq, s_strings_trimRightByte_eq]; exact funK_ent hn _ _ _ _ _ _
  · rfl
/-- strings.makeASCIISet -/
def fn_strings_makeASCIISet : Fun := ⟨1, (.seq (.reg [iR 2 (.e (.alloc (repl 256 [(.bool false)]))) [], iR 3 (.p .mv) [(.c (.bool false))]]) (.keep [0, 2] (.seq (.seq (.reg [iR 4 (.p .mv) [(.c (.int .i64 (.ofNat 0)))]]) (.keep [0, 2, 4] (.block 0 (.loop (.keep [0, 2, 4] (.seq (.seq (.reg [iR 6 (.p .mv) [(.t 4)], iR 7 (.p .mv) [(.t 0)], iR 8 (.p .lenS) [(.t 7)], iR 9 (.p (.bin .lss)) [(.t 6), (.t 8)]]) (.keep [0, 2, 4, 9] (.cond (.t 9) .skip (.keep [2] (.exit 0))))) (.keep [0, 2, 4] (.seq (.block 1 (.seq (.reg [iR 12 (.p .mv) [(.t 0)], iR 13 (.p .mv) [(.t 4)], iR 14 (.p .strIndex) [(.t 12), (.t 13)], iR 5 (.p .mv) [(.t 14)]]) (.keep [0, 2, 4, 5] (.seq (.seq (.reg [iR 15 (.p .mv) [(.t 5)], iR 16 (.p (.bin .geq)) [(.t 15), (.c (.int .u8 (.ofNat 128)))]]) (.keep [0, 2, 4, 5, 16] (.cond (.t 16) (.seq (.reg [iR 17 (.l (.load (some 256))) [(.t 2)],
    ⟨none, none, (.e (.store 256)), [(.t 2), (.t 17)], none⟩, iR 3 (.p .mv) [(.c (.bool false))]]) (.keep [2, 3] (.keep [2, 3] .ret))) .skip))) (.keep [0, 2, 4, 5] (.reg [iR 18 (.p .mv) [(.t 5)], iR 19 (.p (.arrIdx 256 1)) [(.t 2), (.t 18)], ⟨none, none, (.e (.store 1)), [(.t 19), (.c (.bool true))], none⟩])))))) (.keep [0, 2, 4] (.reg [iR 10 (.p .mv) [(.t 4)], iR 11 (.p (.bin .add)) [(.t 10), (.c (.int .i64 (.ofNat 1)))], iR 4 (.p .mv) [(.t 11)]])))))))))) (.keep [2] (.seq (.reg [iR 20 (.l (.load (some 256))) [(.t 2)], ⟨none, none, (.e (.store 256)), [(.t 2), (.t 20)], none⟩, iR 3 (.p .mv) [(.c (.bool true))]]) (.keep [2, 3] (.keep [2, 3] .ret))))))), [(.cell 2 (some 256)), (.t 3)]⟩
def s_strings_makeASCIISet_j0 (call : CallK) (N : Nat) (q : KV) (st : St) (τ : Tape) : Ans := match st with
  | ⟨fr, H⟩ => getK fr 2 fun t2 => someK (lLoadN 256 [t2] H) fun v3 => effK (eStore 256 [t2, v3] H τ) fun v4 H5 τ6 => someK (results ⟨(T.set (T.set .leaf 2 t2) 3 (.bool true)), H5⟩ [(.cell 2 (some 256)), (.t 3)]) fun v => q v H5 τ6
def s_strings_makeASCIISet_l1 (call : CallK) (N : Nat) (st : St) (τ : Tape) (k : KC) : Ans := match st with
  | ⟨fr, H⟩ => getK fr 0 fun t0 => getK fr 2 fun t2 => getK fr 4 fun t4 => someK (pLenS [t0]) fun v7 => binK .lss t4 v7 fun v8 => condK v8 (someK (pStrIndex [t0, t4]) fun v9 => binK .geq v9 (.int .u8 (.ofNat 128)) fun v10 => condK v10 (someK (lLoadN 256 [t2] H) fun v11 => effK (eStore 256 [t2, v11] H τ) fun v12 H13 τ14 => k .ret ⟨(T.set (T.set .leaf 2 t2) 3 (.bool false)), H13⟩ τ14) (someK (pArrIdx 256 1 [t2, v9]) fun v15 => effK (eStore 1 [v15, (.bool true)] H τ) fun v16 H17 τ18 => binK .add t4 (.int .i64 (.ofNat 1)) fun v19 => k .normal ⟨(T.set (T.set (T.set (T.set (T.set (T.set .leaf 0 t0) 2 t2) 4 t4) 10 t4) 11 v19) 4 v19), H17⟩ τ18)) (k (.exit 0) ⟨(T.set .leaf 2 t2), H⟩ τ)
def s_strings_makeASCIISet (call : CallK) (N : Nat) (a0 : V) (H : Heap) (τ : Tape) (q : KV) : Ans := effK (eAlloc (repl 256 [(.bool false)]) [] H τ) fun v0 H1 τ2 => loopK (s_strings_makeASCIISet_l1 call N) N ⟨(T.set (T.set (T.set .leaf 0 a0) 2 v0) 4 (.int .i64 (.ofNat 0))), H1⟩ τ2 (blockK 0 (seqK (s_strings_makeASCIISet_j0 call N q) (endK [(.cell 2 (some 256)), (.t 3)] q)))
theorem s_strings_makeASCIISet_eq (call : CallK) (N : Nat) (a0 : V) (H : Heap) (τ : Tape) (q : KV) : s_strings_makeASCIISet call N a0 H τ q = funK call N fn_strings_makeASCIISet [a0] H τ q := by kernel_rfl
def e_strings_makeASCIISet (call : CallK) (N : Nat) (vs : List V) (H : Heap) (τ : Tape) (q : KV) : Ans := match vs with | [a0] => s_strings_makeASCIISet call N a0 H τ q | _ => none
theorem e_strings_makeASCIISet_ok : EntOk fn_strings_makeASCIISet e_strings_makeASCIISet := by
  intro call N vs H τ q r h
  unfold e_strings_makeASCIISet at h
  split at h
  · rw [s_strings_makeASCIISet_eq] at h; exact h
  · cases h
theorem e_strings_makeASCIISet_nat : EntNat e_strings_makeASCIISet := by
  intro c hn N vs H τ q
  unfold e_strings_makeASCIISet
  split
  · rw [s_strings_makeASCIISet_eq, s_strings_makeASCIISet_eq]; exact funK_ent hn _ _ _ _ _ _
  · rfl
/-- strings.trimLeftASCII -/
def fn_strings_trimLeftASCII : Fun := ⟨2, (.seq (.reg [iR 4 (.p .mv) [(.c (.str []))]]) (.keep [0, 1] (.seq (.block 0 (.loop (.keep [0, 1] (.seq (.seq (.reg [iR 5 (.p .mv) [(.t 0)], iR 6 (.p .lenS) [(.t 5)], iR 7 (.p (.bin .gtr)) [(.t 6), (.c (.int .i64 (.ofNat 0)))]]) (.keep [0, 1, 7] (.cond (.t 7) .skip (.keep [0] (.exit 0))))) (.keep [0, 1] (.block 1 (.seq (.seq (.reg [iR 8 (.p .mv) [(.t 1)], iR 9 (.p .mv) [(.t 0)], iR 10 (.p .strIndex) [(.t 9), (.c (.int .i64 (.ofNat 0)))], iR 11 (.call 81) [(.t 8), (.t 10)], iR 12 (.p (.un .not)) [(.t 11)]]) (.keep [0, 1, 12] (.cond (.t 12) (.keep [0] (.exit 0)) .skip))) (.keep [0, 1] (.reg [iR 13 (.p .mv) [(.t 0)], iR 14 (.p (.strSlice true false)) [(.t 13), (.c (.int .i64 (.ofNat 1)))], iR 0 (.p .mv) [(.t 14)]]))))))))) (.keep [0] (.seq (.reg [iR 15 (.p .mv) [(.t 0)], iR 4 (.p .mv) [(.t 15)]]) (.keep [4] (.keep [4] .ret))))))), [(.t 4)]⟩
def s_strings_trimLeftASCII_j0 (call : CallK) (N : Nat) (q : KV) (st : St) (τ : Tape) : Ans := match st with
  | ⟨fr, H⟩ => getK fr 0 fun t0 => q t0 H τ
def s_strings_trimLeftASCII_l1 (call : CallK) (N : Nat) (st : St) (τ : Tape) (k : KC) : Ans := match st with
  | ⟨fr, H⟩ => getK fr 0 fun t0 => getK fr 1 fun t1 => someK (pLenS [t0]) fun v0 => binK .gtr v0 (.int .i64 (.ofNat 0)) fun v1 => condK v1 (someK (pStrIndex [t0, (.int .i64 (.ofNat 0))]) fun v2 => call f_asciiSet_contains [t1, v2] H τ fun v3 H4 τ5 => unK .not v3 fun v6 => condK v6 (k (.exit 0) ⟨(T.set .leaf 0 t0), H4⟩ τ5) (someK (pStrSlice true false [t0, (.int .i64 (.ofNat 1))]) fun v7 => k .normal ⟨(T.set (T.set (T.set (T.set (T.set .leaf 0 t0) 1 t1) 13 t0) 14 v7) 0 v7), H4⟩ τ5)) (k (.exit 0) ⟨(T.set .leaf 0 t0), H⟩ τ)
def s_strings_trimLeftASCII (call : CallK) (N : Nat) (a0 a1 : V) (H : Heap) (τ : Tape) (q : KV) : Ans := loopK (s_strings_trimLeftASCII_l1 call N) N ⟨(T.set (T.set .leaf 0 a0) 1 a1), H⟩ τ (blockK 0 (seqK (s_strings_trimLeftASCII_j0 call N q) (endK [(.t 4)] q)))
theorem s_strings_trimLeftASCII_eq (call : CallK) (N : Nat) (a0 a1 : V) (H : Heap) (τ : Tape) (q : KV) : s_strings_trimLeftASCII call N a0 a1 H τ q = funK call N fn_strings_trimLeftASCII [a0, a1] H τ q := by kernel_rfl
def e_strings_trimLeftASCII (call : CallK) (N : Nat) (vs : List V) (H : Heap) (τ : Tape) (q : KV) : Ans := match vs with | [a0, a1] => s_strings_trimLeftASCII call N a0 a1 H τ q | _ => none
theorem e_strings_trimLeftASCII_ok : EntOk fn_strings_trimLeftASCII e_strings_trimLeftASCII := by
  intro call N vs H τ q r h
  unfold e_strings_trimLeftASCII at h
  split at h
  · rw [s_strings_trimLeftASCII_eq] at h; exact h
  · cases h
theorem e_strings_trimLeftASCII_nat : EntNat e_strings_trimLeftASCII := by
  intro c hn N vs H τ q
  unfold e_strings_trimLeftASCII
  split
  · rw [s_strings_trimLeftASCII_eq, s_strings_trimLeftASCII_eq]; exact funK_ent hn _ _ _ _ _ _
  · rfl
/-- strings.trimRightASCII -/
def fn_strings_trimRightASCII : Fun := ⟨2, (.seq (.reg [iR 4 (.p .mv) [(.c (.str []))]]) (.keep [0, 1] (.seq (.block 0 (.loop (.keep [0, 1] (.seq (.seq (.reg [iR 5 (.p .mv) [(.t 0)], iR 6 (.p .lenS) [(.t 5)], iR 7 (.p (.bin .gtr)) [(.t 6), (.c (.int .i64 (.ofNat 0)))]]) (.keep [0, 1, 7] (.cond (.t 7) .skip (.keep [0] (.exit 0))))) (.keep [0, 1] (.block 1 (.seq (.seq (.reg [iR 8 (.p .mv) [(.t 1)], iR 9 (.p .mv) [(.t 0)], iR 10 (.p .mv) [(.t 0)], iR 11 (.p .lenS) [(.t 10)], iR 12 (.p (.bin .sub)) [(.t 11), (.c (.int .i64 (.ofNat 1)))], iR 13 (.p .strIndex) [(.t 9), (.t 12)], iR 14 (.call 81) [(.t 8), (.t 13)], iR 15 (.p (.un .not)) [(.t 14)]]) (.keep [0, 1, 15] (.cond (.t 15) (.keep [0] (.exit 0)) .skip))) (.keep [0, 1] (.reg [iR 16 (.p .mv) [(.t 0)], iR 17 (.p .mv) [(.t 0)], iR 18 (.p .lenS) [(.t 17)], iR 19 (.p (.bin .sub)) [(.t 18), (.c (.int .i64 (.ofNat 1)))],
    iR 20 (.p (.strSlice false true)) [(.t 16), (.t 19)], iR 0 (.p .mv) [(.t 20)]]))))))))) (.keep [0] (.seq (.reg [iR 21 (.p .mv) [(.t 0)], iR 4 (.p .mv) [(.t 21)]]) (.keep [4] (.keep [4] .ret))))))), [(.t 4)]⟩
def s_strings_trimRightASCII_j0 (call : CallK) (N : Nat) (q : KV) (st : St) (τ : Tape) : Ans := match st with
  | ⟨fr, H⟩ => getK fr 0 fun t0 => q t0 H τ
def s_strings_trimRightASCII_l1 (call : CallK) (N : Nat) (st : St) (τ : Tape) (k : KC) : Ans := match st with
  | ⟨fr, H⟩ => getK fr 0 fun t0 => getK fr 1 fun t1 => someK (pLenS [t0]) fun v0 => binK .gtr v0 (.int .i64 (.ofNat 0)) fun v1 => condK v1 (someK (pLenS [t0]) fun v2 => binK .sub v2 (.int .i64 (.ofNat 1)) fun v3 => someK (pStrIndex [t0, v3]) fun v4 => call f_asciiSet_contains [t1, v4] H τ fun v5 H6 τ7 => unK .not v5 fun v8 => condK v8 (k (.exit 0) ⟨(T.set .leaf 0 t0), H6⟩ τ7) (someK (pLenS [t0]) fun v9 => binK .sub v9 (.int .i64 (.ofNat 1)) fun v10 => someK (pStrSlice false true [t0, v10]) fun v11 => k .normal ⟨(T.set (T.set (T.set (T.set (T.set (T.set (T.set (T.set .leaf 0 t0) 1 t1) 16 t0) 17 t0) 18 v9) 19 v10) 20 v11) 0 v11), H6⟩ τ7)) (k (.exit 0) ⟨(T.set .leaf 0 t0), H⟩ τ)
def s_strings_trimRightASCII (call : CallK) (N : Nat) (a0 a1 : V) (H : Heap) (τ : Tape) (q : KV) : Ans := loopK (s_strings_trimRightASCII_l1 call N) N ⟨(T.set (T.set .leaf 0 a0) 1 a1), H⟩ τ (blockK 0 (seqK (s_strings_trimRightASCII_j0 call N q) (endK [(.t 4)] q)))
theorem s_strings_trimRightASCII_eq (call : CallK) (N : Nat) (a0 a1 : V) (H : Heap) (τ : Tape) (q : KV) : s_strings_trimRightASCII call N a0 a1 H τ q = funK call N fn_strings_trimRightASCII [a0, a1] H τ q := by kernel_rfl
def e_strings_trimRightASCII (call : CallK) (N : Nat) (vs : List V) (H : Heap) (τ : Tape) (q : KV) : Ans := match vs with | [a0, a1] => s_strings_trimRightASCII call N a0 a1 H τ q | _ => none
theorem e_strings_trimRightASCII_ok : EntOk fn_strings_trimRightASCII e_strings_trimRightASCII := by
  intro call N vs H τ q r h
  unfold e_strings_trimRightASCII at h
  split at h
  · rw [s_strings_trimRightASCII_eq] at h; exact h
  · cases h
theorem e_strings_trimRightASCII_nat : EntNat e_strings_trimRightASCII := by
  intro c hn N vs H τ q
  unfold e_strings_trimRightASCII
  split
  · rw [s_strings_trimRightASCII_eq, s_strings_trimRightASCII_eq]; exact funK_ent hn _ _ _ _ _ _
  · rfl
/-- strings.trimLeftUnicode -/
def fn_strings_trimLeftUnicode : Fun := ⟨2, (.seq (.reg [iR 4 (.p .mv) [(.c (.str []))]]) (.keep [0, 1] (.seq (.block 0 (.loop (.keep [0, 1] (.seq (.seq (.reg [iR 7 (.p .mv) [(.t 0)], iR 8 (.p .lenS) [(.t 7)], iR 9 (.p (.bin .gtr)) [(.t 8), (.c (.int .i64 (.ofNat 0)))]]) (.keep [0, 1, 9] (.cond (.t 9) .skip (.keep [0] (.exit 0))))) (.keep [0, 1] (.block 1 (.seq (.reg [iR 11 (.p .mv) [(.t 0)], iR 12 (.call 82) [(.t 11)], iR 10 (.p .mv) [(.t 12)], iR 13 (.p (.extract 0)) [(.t 10)], iR 14 (.p (.extract 1)) [(.t 10)], iR 5 (.p .mv) [(.t 13)], iR 6 (.p .mv) [(.t 14)]]) (.keep [0, 1, 5, 6] (.seq (.seq (.reg [iR 15 (.p .mv) [(.t 1)], iR 16 (.p .mv) [(.t 5)], iR 17 (.call 83) [(.t 15), (.t 16)], iR 18 (.p (.un .not)) [(.t 17)]]) (.keep [0, 1, 6, 18] (.cond (.t 18) (.keep [0] (.exit 0)) .skip))) (.keep [0, 1, 6] (.reg [iR 19 (.p .mv) [(.t 0)], iR 20 (.p .mv) [(.t 6)],
    iR 21 (.p (.strSlice true false)) [(.t 19), (.t 20)], iR 0 (.p .mv) [(.t 21)]]))))))))))) (.keep [0] (.seq (.reg [iR 22 (.p .mv) [(.t 0)], iR 4 (.p .mv) [(.t 22)]]) (.keep [4] (.keep [4] .ret))))))), [(.t 4)]⟩
def s_strings_trimLeftUnicode (call : CallK) (N : Nat) (a0 a1 : V) (H : Heap) (τ : Tape) (q : KV) : Ans := funK call N fn_strings_trimLeftUnicode [a0, a1] H τ q
theorem s_strings_trimLeftUnicode_eq (call : CallK) (N : Nat) (a0 a1 : V) (H : Heap) (τ : Tape) (q : KV) : s_strings_trimLeftUnicode call N a0 a1 H τ q = funK call N fn_strings_trimLeftUnicode [a0, a1] H τ q := by kernel_rfl
def e_strings_trimLeftUnicode (call : CallK) (N : Nat) (vs : List V) (H : Heap) (τ : Tape) (q : KV) : Ans := match vs with | [a0, a1] => s_strings_trimLeftUnicode call N a0 a1 H τ q | _ => none
theorem e_strings_trimLeftUnicode_ok : EntOk fn_strings_trimLeftUnicode e_strings_trimLeftUnicode := by
  intro call N vs H τ q r h
  unfold e_strings_trimLeftUnicode at h
  split at h
  · rw [s_strings_trimLeftUnicode_eq] at h; exact h
  · cases h
theorem e_strings_trimLeftUnicode_nat : EntNat e_strings_trimLeftUnicode := by
  intro c hn N vs H τ q
  unfold e_strings_trimLeftUnicode
  split
  · rw [s_strings_trimLeftUnicode_eq, s_strings_trimLeftUnicode_eq]; exact funK_ent hn _ _ _ _ _ _
  · rfl
/-- strings.trimRightUnicode -/
def fn_strings_trimRightUnicode : Fun := ⟨2, (.seq (.reg [iR 4 (.p .mv) [(.c (.str []))]]) (.keep [0, 1] (.seq (.block 0 (.loop (.keep [0, 1] (.seq (.seq (.reg [iR 7 (.p .mv) [(.t 0)], iR 8 (.p .lenS) [(.t 7)], iR 9 (.p (.bin .gtr)) [(.t 8), (.c (.int .i64 (.ofNat 0)))]]) (.keep [0, 1, 9] (.cond (.t 9) .skip (.keep [0] (.exit 0))))) (.keep [0, 1] (.block 1 (.seq (.reg [iR 10 (.p .mv) [(.t 0)], iR 11 (.p .mv) [(.t 0)], iR 12 (.p .lenS) [(.t 11)], iR 13 (.p (.bin .sub)) [(.t 12), (.c (.int .i64 (.ofNat 1)))], iR 14 (.p .strIndex) [(.t 10), (.t 13)], iR 15 (.p (.toInt .i32)) [(.t 14)], iR 5 (.p .mv) [(.t 15)], iR 6 (.p .mv) [(.c (.int .i64 (.ofNat 1)))]]) (.keep [0, 1, 5, 6] (.seq (.seq (.reg [iR 16 (.p .mv) [(.t 5)], iR 17 (.p (.bin .geq)) [(.t 16), (.c (.int .i32 (.ofNat 128)))]]) (.keep [0, 1, 5, 6, 17] (.cond (.t 17) (.reg [iR 19 (.p .mv) [(.t 0)], iR 20 (.call 84) [(.t 19)],
    iR 18 (.p .mv) [(.t 20)], iR 21 (.p (.extract 0)) [(.t 18)], iR 22 (.p (.extract 1)) [(.t 18)], iR 5 (.p .mv) [(.t 21)], iR 6 (.p .mv) [(.t 22)]]) .skip))) (.keep [0, 1, 5, 6] (.seq (.seq (.reg [iR 23 (.p .mv) [(.t 1)], iR 24 (.p .mv) [(.t 5)], iR 25 (.call 83) [(.t 23), (.t 24)], iR 26 (.p (.un .not)) [(.t 25)]]) (.keep [0, 1, 6, 26] (.cond (.t 26) (.keep [0] (.exit 0)) .skip))) (.keep [0, 1, 6] (.reg [iR 27 (.p .mv) [(.t 0)], iR 28 (.p .mv) [(.t 0)], iR 29 (.p .lenS) [(.t 28)], iR 30 (.p .mv) [(.t 6)], iR 31 (.p (.bin .sub)) [(.t 29), (.t 30)], iR 32 (.p (.strSlice false true)) [(.t 27), (.t 31)], iR 0 (.p .mv) [(.t 32)]]))))))))))))) (.keep [0] (.seq (.reg [iR 33 (.p .mv) [(.t 0)], iR 4 (.p .mv) [(.t 33)]]) (.keep [4] (.keep [4] .ret))))))), [(.t 4)]⟩
def s_strings_trimRightUnicode (call : CallK) (N : Nat) (a0 a1 : V) (H : Heap) (τ : Tape) (q : KV) : Ans := funK call N fn_strings_trimRightUnicode [a0, a1] H τ q
theorem s_strings_trimRightUnicode_eq (call : CallK) (N : Nat) (a0 a1 : V) (H : Heap) (τ : Tape) (q : KV) : s_strings_trimRightUnicode call N a0 a1 H τ q = funK call N fn_strings_trimRightUnicode [a0, a1] H τ q := by kernel_rfl
def e_strings_trimRightUnicode (call : CallK) (N : Nat) (vs : List V) (H : Heap) (τ : Tape) (q : KV) : Ans := match vs with | [a0, a1] => s_strings_trimRightUnicode call N a0 a1 H τ q | _ => none
theorem e_strings_trimRightUnicode_ok : EntOk fn_strings_trimRightUnicode e_strings_trimRightUnicode := by
  intro call N vs H τ q r h
  unfold e_strings_trimRightUnicode at h
  split at h
  · rw [s_strings_trimRightUnicode_eq] at h; exact h
  · cases h
theorem e_strings_trimRightUnicode_nat : EntNat e_strings_trimRightUnicode := by
  intro c hn N vs H τ q
  unfold e_strings_trimRightUnicode
  split
  · rw [s_strings_trimRightUnicode_eq, s_strings_trimRightUnicode_eq]; exact funK_ent hn _ _ _ _ _ _
  · rfl
/-- strings.IndexAny -/
def fn_strings_IndexAny : Fun := ⟨2, (.seq (.reg [iR 4 (.p .mv) [(.c (.int .i64 (.ofNat 0)))]]) (.keep [0, 1] (.seq (.seq (.reg [iR 11 (.p .mv) [(.t 1)], iR 12 (.p (.bin .eql)) [(.t 11), (.c (.str []))]]) (.keep [0, 1, 12] (.cond (.t 12) (.seq (.reg [iR 4 (.p .mv) [(.c (.int .i64 (.negSucc 0)))]]) (.keep [4] (.keep [4] .ret))) .skip))) (.keep [0, 1] (.seq (.seq (.reg [iR 13 (.p .mv) [(.t 1)], iR 14 (.p .lenS) [(.t 13)], iR 15 (.p (.bin .eql)) [(.t 14), (.c (.int .i64 (.ofNat 1)))]]) (.keep [0, 1, 15] (.cond (.t 15) (.seq (.reg [iR 16 (.p .mv) [(.t 1)], iR 17 (.p .strIndex) [(.t 16), (.c (.int .i64 (.ofNat 0)))], iR 18 (.p (.toInt .i32)) [(.t 17)], iR 5 (.p .mv) [(.t 18)]]) (.keep [0, 5] (.seq (.seq (.reg [iR 19 (.p .mv) [(.t 5)], iR 20 (.p (.bin .geq)) [(.t 19), (.c (.int .i32 (.ofNat 128)))]]) (.keep [0, 5, 20] (.cond (.t 20) (.reg [iR 5 (.p .mv) [(.c (.int .i32 (.ofNat 65533)))]])
    .skip))) (.keep [0, 5] (.seq (.reg [iR 21 (.p .mv) [(.t 0)], iR 22 (.p .mv) [(.t 5)], iR 23 (.call 85) [(.t 21), (.t 22)], iR 4 (.p .mv) [(.t 23)]]) (.keep [4] (.keep [4] .ret))))))) .skip))) (.keep [0, 1] (.seq (.seq (.reg [iR 24 (.p .mv) [(.t 0)], iR 25 (.p .lenS) [(.t 24)], iR 26 (.call 86) [(.t 25)]]) (.keep [0, 1, 26] (.cond (.t 26) (.seq (.reg [iR 28 (.p .mv) [(.t 1)], iR 29 (.call 65) [(.t 28)], iR 27 (.p .mv) [(.t 29)], iR 30 (.p (.extract 0)) [(.t 27)], iR 31 (.p (.extract 1)) [(.t 27)], iR 6 (.e (.alloc (repl 256 [(.bool false)]))) [], ⟨none, none, (.e (.store 256)), [(.t 6), (.t 30)], none⟩, iR 7 (.p .mv) [(.t 31)]]) (.keep [0, 1, 6, 7] (.seq (.reg [iR 32 (.p .mv) [(.t 7)]]) (.keep [0, 1, 6, 32] (.cond (.t 32) (.seq (.seq (.reg [iR 8 (.p .mv) [(.c (.int .i64 (.ofNat 0)))]]) (.keep [0, 6, 8] (.block 0 (.loop (.keep [0, 6, 8] (.seq (.seq (.reg [iR 33 (.p .mv) [(.t 8)],
    iR 34 (.p .mv) [(.t 0)], iR 35 (.p .lenS) [(.t 34)], iR 36 (.p (.bin .lss)) [(.t 33), (.t 35)]]) (.keep [0, 6, 8, 36] (.cond (.t 36) .skip (.keep [] (.exit 0))))) (.keep [0, 6, 8] (.seq (.block 1 (.seq (.reg [iR 39 (.p .mv) [(.t 0)], iR 40 (.p .mv) [(.t 8)], iR 41 (.p .strIndex) [(.t 39), (.t 40)], iR 42 (.call 81) [(.t 6), (.t 41)]]) (.keep [0, 6, 8, 42] (.cond (.t 42) (.seq (.reg [iR 43 (.p .mv) [(.t 8)], iR 4 (.p .mv) [(.t 43)]]) (.keep [4] (.keep [4] .ret))) .skip)))) (.keep [0, 6, 8] (.reg [iR 37 (.p .mv) [(.t 8)], iR 38 (.p (.bin .add)) [(.t 37), (.c (.int .i64 (.ofNat 1)))], iR 8 (.p .mv) [(.t 38)]])))))))))) (.keep [] (.seq (.reg [iR 4 (.p .mv) [(.c (.int .i64 (.negSucc 0)))]]) (.keep [4] (.keep [4] .ret))))) .skip))))) .skip))) (.keep [0, 1] (.seq (.seq (.reg [iR 44 (.p .mv) [(.t 0)], iR 45 (.e .range) [(.t 44)]]) (.keep [1, 45] (.block 2 (.loop
    (.keep [1, 45] (.seq (.reg [iR 46 (.e .next) [(.t 45)], iR 47 (.p (.extract 0)) [(.t 46)]]) (.keep [1, 45, 46, 47] (.seq (.cond (.t 47) .skip (.keep [] (.exit 2))) (.keep [1, 45, 46] (.block 3 (.seq (.reg [iR 48 (.p (.extract 1)) [(.t 46)], iR 49 (.p (.extract 2)) [(.t 46)], iR 9 (.p .mv) [(.t 48)], iR 10 (.p .mv) [(.t 49)]]) (.keep [1, 9, 10, 45] (.seq (.reg [iR 50 (.p .mv) [(.t 1)], iR 51 (.p .mv) [(.t 10)], iR 52 (.call 85) [(.t 50), (.t 51)], iR 53 (.p (.bin .geq)) [(.t 52), (.c (.int .i64 (.ofNat 0)))]]) (.keep [1, 9, 45, 53] (.cond (.t 53) (.seq (.reg [iR 54 (.p .mv) [(.t 9)], iR 4 (.p .mv) [(.t 54)]]) (.keep [4] (.keep [4] .ret))) .skip))))))))))))))) (.keep [] (.seq (.reg [iR 4 (.p .mv) [(.c (.int .i64 (.negSucc 0)))]]) (.keep [4] (.keep [4] .ret))))))))))))), [(.t 4)]⟩
def s_strings_IndexAny_j2 (call : CallK) (N : Nat) (q : KV) (st : St) (τ : Tape) : Ans := match st with
  | ⟨fr, H⟩ => q (.int .i64 (.negSucc 0)) H τ
def s_strings_IndexAny_l3 (call : CallK) (N : Nat) (st : St) (τ : Tape) (k : KC) : Ans := match st with
  | ⟨fr, H⟩ => getK fr 1 fun t1 => getK fr 45 fun t45 => effK (eNext [t45] H τ) fun v13 H14 τ15 => someK (pExtract 0 [v13]) fun v16 => condK v16 (someK (pExtract 1 [v13]) fun v17 => someK (pExtract 2 [v13]) fun v18 => call f_strings_IndexRune [t1, v18] H14 τ15 fun v19 H20 τ21 => binK .geq v19 (.int .i64 (.ofNat 0)) fun v22 => condK v22 (k .ret ⟨(T.set .leaf 4 v17), H20⟩ τ21) (k .normal ⟨(T.set (T.set (T.set (T.set .leaf 1 t1) 9 v17) 45 t45) 53 v22), H20⟩ τ21)) (k (.exit 2) ⟨.leaf, H14⟩ τ15)
def s_strings_IndexAny_j1 (call : CallK) (N : Nat) (q : KV) (st : St) (τ : Tape) : Ans := match st with
  | ⟨fr, H⟩ => getK fr 0 fun t0 => getK fr 1 fun t1 => effK (eRange [t0] H τ) fun v10 H11 τ12 => loopK (s_strings_IndexAny_l3 call N) N ⟨(T.set (T.set .leaf 1 t1) 45 v10), H11⟩ τ12 (blockK 2 (seqK (s_strings_IndexAny_j2 call N q) (endK [(.t 4)] q)))
def s_strings_IndexAny_j4 (call : CallK) (N : Nat) (q : KV) (st : St) (τ : Tape) : Ans := match st with
  | ⟨fr, H⟩ => q (.int .i64 (.negSucc 0)) H τ
def s_strings_IndexAny_l5 (call : CallK) (N : Nat) (st : St) (τ : Tape) (k : KC) : Ans := match st with
  | ⟨fr, H⟩ => getK fr 0 fun t0 => getK fr 6 fun t6 => getK fr 8 fun t8 => someK (pLenS [t0]) fun v34 => binK .lss t8 v34 fun v35 => condK v35 (someK (pStrIndex [t0, t8]) fun v36 => call f_asciiSet_contains [t6, v36] H τ fun v37 H38 τ39 => condK v37 (k .ret ⟨(T.set .leaf 4 t8), H38⟩ τ39) (binK .add t8 (.int .i64 (.ofNat 1)) fun v40 => k .normal ⟨(T.set (T.set (T.set (T.set (T.set (T.set .leaf 0 t0) 6 t6) 8 t8) 37 t8) 38 v40) 8 v40), H38⟩ τ39)) (k (.exit 0) ⟨.leaf, H⟩ τ)
def s_strings_IndexAny_j0 (call : CallK) (N : Nat) (q : KV) (st : St) (τ : Tape) : Ans := match st with
  | ⟨fr, H⟩ => getK fr 0 fun t0 => getK fr 1 fun t1 => someK (pLenS [t0]) fun v6 => call f_strings_shouldUseASCIISet [v6] H τ fun v7 H8 τ9 => condK v7 (call f_strings_makeASCIISet [t1] H8 τ9 fun v23 H24 τ25 => someK (pExtract 0 [v23]) fun v26 => someK (pExtract 1 [v23]) fun v27 => effK (eAlloc (repl 256 [(.bool false)]) [] H24 τ25) fun v28 H29 τ30 => effK (eStore 256 [v28, v26] H29 τ30) fun v31 H32 τ33 => condK v27 (loopK (s_strings_IndexAny_l5 call N) N ⟨(T.set (T.set (T.set .leaf 0 t0) 6 v28) 8 (.int .i64 (.ofNat 0))), H32⟩ τ33 (blockK 0 (seqK (s_strings_IndexAny_j4 call N q) (seqK (s_strings_IndexAny_j1 call N q) (endK [(.t 4)] q))))) (s_strings_IndexAny_j1 call N q ⟨(T.set (T.set (T.set (T.set .leaf 0 t0) 1 t1) 6 v28) 32 v27), H32⟩ τ33)) (s_strings_IndexAny_j1 call N q ⟨(T.set (T.set (T.set .leaf 0 t0) 1 t1) 26 v7), H8⟩ τ9)
def s_strings_IndexAny_j6 (call : CallK) (N : Nat) (q : KV) (st : St) (τ : Tape) : Ans := match st with
  | ⟨fr, H⟩ => getK fr 0 fun t0 => getK fr 5 fun t5 => call f_strings_IndexRune [t0, t5] H τ fun v41 H42 τ43 => q v41 H42 τ43
def s_strings_IndexAny_j8 (call : CallK) (N : Nat) (q : KV) (st : St) (τ : Tape) : Ans := match st with
  | ⟨fr, H⟩ => q (.int .i64 (.negSucc 0)) H τ
def s_strings_IndexAny_l9 (call : CallK) (N : Nat) (st : St) (τ : Tape) (k : KC) : Ans := match st with
  | ⟨fr, H⟩ => getK fr 1 fun t1 => getK fr 45 fun t45 => effK (eNext [t45] H τ) fun v51 H52 τ53 => someK (pExtract 0 [v51]) fun v54 => condK v54 (someK (pExtract 1 [v51]) fun v55 => someK (pExtract 2 [v51]) fun v56 => call f_strings_IndexRune [t1, v56] H52 τ53 fun v57 H58 τ59 => binK .geq v57 (.int .i64 (.ofNat 0)) fun v60 => condK v60 (k .ret ⟨(T.set .leaf 4 v55), H58⟩ τ59) (k .normal ⟨(T.set (T.set (T.set (T.set .leaf 1 t1) 9 v55) 45 t45) 53 v60), H58⟩ τ59)) (k (.exit 2) ⟨.leaf, H52⟩ τ53)
def s_strings_IndexAny_j7 (call : CallK) (N : Nat) (q : KV) (st : St) (τ : Tape) : Ans := match st with
  | ⟨fr, H⟩ => getK fr 0 fun t0 => getK fr 1 fun t1 => effK (eRange [t0] H τ) fun v48 H49 τ50 => loopK (s_strings_IndexAny_l9 call N) N ⟨(T.set (T.set .leaf 1 t1) 45 v48), H49⟩ τ50 (blockK 2 (seqK (s_strings_IndexAny_j8 call N q) (endK [(.t 4)] q)))
def s_strings_IndexAny_j10 (call : CallK) (N : Nat) (q : KV) (st : St) (τ : Tape) : Ans := match st with
  | ⟨fr, H⟩ => q (.int .i64 (.negSucc 0)) H τ
def s_strings_IndexAny_l11 (call : CallK) (N : Nat) (st : St) (τ : Tape) (k : KC) : Ans := match st with
  | ⟨fr, H⟩ => getK fr 0 fun t0 => getK fr 6 fun t6 => getK fr 8 fun t8 => someK (pLenS [t0]) fun v72 => binK .lss t8 v72 fun v73 => condK v73 (someK (pStrIndex [t0, t8]) fun v74 => call f_asciiSet_contains [t6, v74] H τ fun v75 H76 τ77 => condK v75 (k .ret ⟨(T.set .leaf 4 t8), H76⟩ τ77) (binK .add t8 (.int .i64 (.ofNat 1)) fun v78 => k .normal ⟨(T.set (T.set (T.set (T.set (T.set (T.set .leaf 0 t0) 6 t6) 8 t8) 37 t8) 38 v78) 8 v78), H76⟩ τ77)) (k (.exit 0) ⟨.leaf, H⟩ τ)
def s_strings_IndexAny (call : CallK) (N : Nat) (a0 a1 : V) (H : Heap) (τ : Tape) (q : KV) : Ans := binK .eql a1 (.str []) fun v0 => condK v0 (q (.int .i64 (.negSucc 0)) H τ) (someK (pLenS [a1]) fun v1 => binK .eql v1 (.int .i64 (.ofNat 1)) fun v2 => condK v2 (someK (pStrIndex [a1, (.int .i64 (.ofNat 0))]) fun v3 => toIntK .i32 v3 fun v4 => binK .geq v4 (.int .i32 (.ofNat 128)) fun v5 => condK v5 (s_strings_IndexAny_j6 call N q ⟨(T.set (T.set (T.set (T.set .leaf 0 a0) 5 v4) 20 v5) 5 (.int .i32 (.ofNat 65533))), H⟩ τ) (s_strings_IndexAny_j6 call N q ⟨(T.set (T.set (T.set .leaf 0 a0) 5 v4) 20 v5), H⟩ τ)) (someK (pLenS [a0]) fun v44 => call f_strings_shouldUseASCIISet [v44] H τ fun v45 H46 τ47 => condK v45 (call f_strings_makeASCIISet [a1] H46 τ47 fun v61 H62 τ63 => someK (pExtract 0 [v61]) fun v64 => someK (pExtract 1 [v61]) fun v65 =>
    effK (eAlloc (repl 256 [(.bool false)]) [] H62 τ63) fun v66 H67 τ68 => effK (eStore 256 [v66, v64] H67 τ68) fun v69 H70 τ71 => condK v65 (loopK (s_strings_IndexAny_l11 call N) N ⟨(T.set (T.set (T.set .leaf 0 a0) 6 v66) 8 (.int .i64 (.ofNat 0))), H70⟩ τ71 (blockK 0 (seqK (s_strings_IndexAny_j10 call N q) (seqK (s_strings_IndexAny_j7 call N q) (endK [(.t 4)] q))))) (s_strings_IndexAny_j7 call N q ⟨(T.set (T.set (T.set (T.set .leaf 0 a0) 1 a1) 6 v66) 32 v65), H70⟩ τ71)) (s_strings_IndexAny_j7 call N q ⟨(T.set (T.set (T.set .leaf 0 a0) 1 a1) 26 v45), H46⟩ τ47)))
theorem s_strings_IndexAny_eq (call : CallK) (N : Nat) (a0 a1 : V) (H : Heap) (τ : Tape) (q : KV) : s_strings_IndexAny call N a0 a1 H τ q = funK call N fn_strings_IndexAny [a0, a1] H τ q := by kernel_rfl
def e_strings_IndexAny (call : CallK) (N : Nat) (vs : List V) (H : Heap) (τ : Tape) (q : KV) : Ans := match vs with | [a0, a1] => s_strings_IndexAny call N a0 a1 H τ q | _ => none
theorem e_strings_IndexAny_ok : EntOk fn_strings_IndexAny e_strings_IndexAny := by
  intro call N vs H τ q r h
  unfold e_strings_IndexAny at h
  split at h
  · rw [s_strings_IndexAny_eq] at h; exact h
  · cases h
theorem e_strings_IndexAny_nat : EntNat e_strings_IndexAny := by
  intro c hn N vs H τ q
  unfold e_strings_IndexAny
  split
  · rw [s_strings_IndexAny_eq, s_strings_IndexAny_eq]; exact funK_ent hn _ _ _ _ _ _
  · rfl
/-- internal/strconv.FormatInt -/
def fn_strconv_FormatInt_n71 : Fun := ⟨2, (.seq (.reg [iR 4 (.p .mv) [(.c (.str []))]]) (.keep [0, 1] (.seq (.seq (.reg [iR 10 (.p .mv) [(.t 1)], iR 11 (.p (.bin .eql)) [(.t 10), (.c (.int .i64 (.ofNat 10)))]]) (.keep [0, 1, 11] (.cond (.t 11) (.seq (.seq (.reg [iR 12 (.p .mv) [(.t 0)], iR 13 (.p (.bin .leq)) [(.c (.int .i64 (.ofNat 0))), (.t 12)], iR 14 (.p .mv) [(.t 13)], iG 15 14 true (.p .mv) [(.t 0)], iG 16 14 true (.p (.bin .lss)) [(.t 15), (.c (.int .i64 (.ofNat 100)))], iR 17 (.p .pick) [(.t 14), (.t 16), (.c (.bool false))]]) (.keep [0, 17] (.cond (.t 17) (.seq (.reg [iR 18 (.p .mv) [(.t 0)], iR 19 (.call 87) [(.t 18)], iR 4 (.p .mv) [(.t 19)]]) (.keep [4] (.keep [4] .ret))) .skip))) (.keep [0] (.seq (.reg [iR 5 (.e (.alloc (repl 24 [(.int .u8 (.ofNat 0))]))) []]) (.keep [0, 5] (.seq (.reg [iR 20 (.p .mv) [(.t 0)], iR 21 (.p (.toInt .u64)) [(.t 20)],
    iR 6 (.p .mv) [(.t 21)]]) (.keep [0, 5, 6] (.seq (.seq (.reg [iR 22 (.p .mv) [(.t 0)], iR 23 (.p (.bin .lss)) [(.t 22), (.c (.int .i64 (.ofNat 0)))]]) (.keep [0, 5, 6, 23] (.cond (.t 23) (.reg [iR 24 (.p .mv) [(.t 6)], iR 25 (.p (.un .neg)) [(.t 24)], iR 6 (.p .mv) [(.t 25)]]) .skip))) (.keep [0, 5, 6] (.seq (.reg [iR 26 (.p .mv) [(.t 6)], iR 27 (.call 88) [(.t 26)], iR 7 (.p .mv) [(.t 27)]]) (.keep [0, 5, 6, 7] (.seq (.reg [iR 28 (.p .mv) [(.t 7)], iR 29 (.p (.bin .add)) [(.c (.int .i64 (.ofNat 1))), (.t 28)], iR 30 (.p (.arrSlice 24 1 true true false)) [(.t 5), (.c (.int .i64 (.ofNat 1))), (.t 29)], iR 31 (.p .mv) [(.t 6)], iR 32 (.call 89) [(.t 30), (.t 31)]]) (.keep [0, 5, 7] (.seq (.seq (.reg [iR 33 (.p .mv) [(.t 0)], iR 34 (.p (.bin .lss)) [(.t 33), (.c (.int .i64 (.ofNat 0)))]]) (.keep [5, 7, 34] (.cond (.t 34)
    (.seq (.reg [iR 35 (.p (.arrIdx 24 1)) [(.t 5), (.c (.int .i64 (.ofNat 0)))], ⟨none, none, (.e (.store 1)), [(.t 35), (.c (.int .u8 (.ofNat 45)))], none⟩]) (.keep [5, 7] (.seq (.reg [iR 36 (.p .mv) [(.t 7)], iR 37 (.p (.bin .add)) [(.c (.int .i64 (.ofNat 1))), (.t 36)], iR 38 (.p (.arrSlice 24 1 false true false)) [(.t 5), (.t 37)], iR 39 (.l .bytesStr) [(.t 38)], iR 4 (.p .mv) [(.t 39)]]) (.keep [4] (.keep [4] .ret))))) .skip))) (.keep [5, 7] (.seq (.reg [iR 40 (.p .mv) [(.t 7)], iR 41 (.p (.bin .add)) [(.c (.int .i64 (.ofNat 1))), (.t 40)], iR 42 (.p (.arrSlice 24 1 true true false)) [(.t 5), (.c (.int .i64 (.ofNat 1))), (.t 41)], iR 43 (.l .bytesStr) [(.t 42)], iR 4 (.p .mv) [(.t 43)]]) (.keep [4] (.keep [4] .ret))))))))))))))))) .skip))) (.keep [0, 1] (.seq (.reg [iR 45 (.p .mv) [(.t 0)], iR 46 (.p (.toInt .u64)) [(.t 45)], iR 47 (.p .mv) [(.t 1)], iR 48 (.p .mv) [(.t 0)],
    iR 49 (.p (.bin .lss)) [(.t 48), (.c (.int .i64 (.ofNat 0)))], iR 50 (.call 90) [(.c .nils), (.t 46), (.t 47), (.t 49), (.c (.bool false))], iR 44 (.p .mv) [(.t 50)], iR 51 (.p (.extract 0)) [(.t 44)], iR 52 (.p (.extract 1)) [(.t 44)], iR 8 (.p .mv) [(.t 51)], iR 9 (.p .mv) [(.t 52)]]) (.keep [9] (.seq (.reg [iR 53 (.p .mv) [(.t 9)], iR 4 (.p .mv) [(.t 53)]]) (.keep [4] (.keep [4] .ret))))))))), [(.t 4)]⟩
def s_strconv_FormatInt_n71 (call : CallK) (N : Nat) (a0 a1 : V) (H : Heap) (τ : Tape) (q : KV) : Ans := funK call N fn_strconv_FormatInt_n71 [a0, a1] H τ q
theorem s_strconv_FormatInt_n71_eq (call : CallK) (N : Nat) (a0 a1 : V) (H : Heap) (τ : Tape) (q : KV) : s_strconv_FormatInt_n71 call N a0 a1 H τ q = funK call N fn_strconv_FormatInt_n71 [a0, a1] H τ q := by kernel_rfl
def e_strconv_FormatInt_n71 (call : CallK) (N : Nat) (vs : List V) (H : Heap) (τ : Tape) (q : KV) : Ans := match vs with | [a0, a1] => s_strconv_FormatInt_n71 call N a0 a1 H τ q | _ => none
theorem e_strconv_FormatInt_n71_ok : EntOk fn_strconv_FormatInt_n71 e_strconv_FormatInt_n71 := by
  intro call N vs H τ q r h
  unfold e_strconv_FormatInt_n71 at h
  split at h
  · rw [s_strconv_FormatInt_n71_eq] at h; exact h
  · cases h
theorem e_strconv_FormatInt_n71_nat : EntNat e_strconv_FormatInt_n71 := by
  intro c hn N vs H τ q
  unfold e_strconv_FormatInt_n71
  split
  · rw [s_strconv_FormatInt_n71_eq, s_strconv_FormatInt_n71_eq]; exact funK_ent hn _ _ _ _ _ _
  · rfl
/-- ostiary/ostiaryref3.split -/
def fn_ref3_split : Fun := ⟨2, (.seq (.reg [iR 4 (.p .mv) [(.c (.str []))]]) (.keep [0, 1] (.seq (.reg [iR 9 (.p .mv) [(.t 1)], iR 10 (.call 44) [(.t 9), (.c (.int .u8 (.ofNat 35)))], iR 8 (.p .mv) [(.t 10)], iR 11 (.p (.extract 0)) [(.t 8)], iR 12 (.p (.extract 1)) [(.t 8)], iR 13 (.p (.extract 2)) [(.t 8)], iR 5 (.p .mv) [(.t 11)], iR 6 (.p .mv) [(.t 12)], iR 7 (.p .mv) [(.t 13)]]) (.keep [0, 5, 6, 7] (.seq (.seq (.reg [iR 14 (.p .mv) [(.t 7)]]) (.keep [0, 5, 6, 14] (.cond (.t 14) (.seq (.reg [iR 15 (.p .mv) [(.t 0)], iR 16 (.p .nilck) [(.t 15)], iR 17 (.p (.fieldAddr 11)) [(.t 16)], ⟨none, none, (.e (.store 1)), [(.t 17), (.c (.bool true))], none⟩]) (.keep [0, 5, 6] (.reg [iR 18 (.p .mv) [(.t 0)], iR 19 (.p .mv) [(.t 6)], iR 20 (.call 91) [(.t 19), (.c (.int .i64 (.ofNat 2)))], iR 21 (.p .nilck) [(.t 18)], iR 22 (.p (.fieldAddr 9)) [(.t 21)],
    ⟨none, none, (.e (.store 1)), [(.t 22), (.t 20)], none⟩]))) .skip))) (.keep [5] (.seq (.reg [iR 23 (.p .mv) [(.t 5)], iR 4 (.p .mv) [(.t 23)]]) (.keep [4] (.keep [4] .ret))))))))), [(.t 4)]⟩
def s_ref3_split (call : CallK) (N : Nat) (a0 a1 : V) (H : Heap) (τ : Tape) (q : KV) : Ans := funK call N fn_ref3_split [a0, a1] H τ q
theorem s_ref3_split_eq (call : CallK) (N : Nat) (a0 a1 : V) (H : Heap) (τ : Tape) (q : KV) : s_ref3_split call N a0 a1 H τ q = funK call N fn_ref3_split [a0, a1] H τ q := by kernel_rfl
def e_ref3_split (call : CallK) (N : Nat) (vs : List V) (H : Heap) (τ : Tape) (q : KV) : Ans := match vs with | [a0, a1] => s_ref3_split call N a0 a1 H τ q | _ => none
theorem e_ref3_split_ok : EntOk fn_ref3_split e_ref3_split := by
  intro call N vs H τ q r h
  unfold e_ref3_split at h
  split at h
  · rw [s_ref3_split_eq] at h; exact h
  · cases h
theorem e_ref3_split_nat : EntNat e_ref3_split := by
  intro c hn N vs H τ q
  unfold e_ref3_split
  split
  · rw [s_ref3_split_eq, s_ref3_split_eq]; exact funK_ent hn _ _ _ _ _ _
  · rfl
/-- ostiary/ostiaryref3.clean -/
def fn_ref3_clean : Fun := ⟨1, (.seq (.reg [iR 2 (.p .mv) [(.c (.str []))]]) (.keep [0] (.seq (.block 0 (.loop (.keep [0] (.seq (.seq (.reg [iR 5 (.p .mv) [(.t 0)], iR 6 (.p .lenS) [(.t 5)], iR 7 (.p (.bin .gtr)) [(.t 6), (.c (.int .i64 (.ofNat 0)))], iR 8 (.p .mv) [(.t 7)], iG 9 8 true (.p .mv) [(.t 0)], iG 10 8 true (.p .strIndex) [(.t 9), (.c (.int .i64 (.ofNat 0)))], iG 11 8 true (.p (.bin .leq)) [(.t 10), (.c (.int .u8 (.ofNat 32)))], iR 12 (.p .pick) [(.t 8), (.t 11), (.c (.bool false))]]) (.keep [0, 12] (.cond (.t 12) .skip (.keep [0] (.exit 0))))) (.keep [0] (.block 1 (.reg [iR 13 (.p .mv) [(.t 0)], iR 14 (.p (.strSlice true false)) [(.t 13), (.c (.int .i64 (.ofNat 1)))], iR 0 (.p .mv) [(.t 14)]]))))))) (.keep [0] (.seq (.block 2 (.loop (.keep [0] (.seq (.seq (.reg [iR 15 (.p .mv) [(.t 0)], iR 16 (.p .lenS) [(.t 15)],
    iR 17 (.p (.bin .gtr)) [(.t 16), (.c (.int .i64 (.ofNat 0)))], iR 18 (.p .mv) [(.t 17)], iG 19 18 true (.p .mv) [(.t 0)], iG 20 18 true (.p .mv) [(.t 0)], iG 21 18 true (.p .lenS) [(.t 20)], iG 22 18 true (.p (.bin .sub)) [(.t 21), (.c (.int .i64 (.ofNat 1)))], iG 23 18 true (.p .strIndex) [(.t 19), (.t 22)], iG 24 18 true (.p (.bin .leq)) [(.t 23), (.c (.int .u8 (.ofNat 32)))], iR 25 (.p .pick) [(.t 18), (.t 24), (.c (.bool false))]]) (.keep [0, 25] (.cond (.t 25) .skip (.keep [0] (.exit 2))))) (.keep [0] (.block 3 (.reg [iR 26 (.p .mv) [(.t 0)], iR 27 (.p .mv) [(.t 0)], iR 28 (.p .lenS) [(.t 27)], iR 29 (.p (.bin .sub)) [(.t 28), (.c (.int .i64 (.ofNat 1)))], iR 30 (.p (.strSlice false true)) [(.t 26), (.t 29)], iR 0 (.p .mv) [(.t 30)]]))))))) (.keep [0] (.seq (.reg [iR 3 (.p .mv) [(.c (.str []))]]) (.keep [0, 3] (.seq (.seq (.reg [iR 4 (.p .mv) [(.c (.int .i64 (.ofNat 0)))]])
    (.keep [0, 3, 4] (.block 4 (.loop (.keep [0, 3, 4] (.seq (.seq (.reg [iR 31 (.p .mv) [(.t 4)], iR 32 (.p .mv) [(.t 0)], iR 33 (.p .lenS) [(.t 32)], iR 34 (.p (.bin .lss)) [(.t 31), (.t 33)]]) (.keep [0, 3, 4, 34] (.cond (.t 34) .skip (.keep [3] (.exit 4))))) (.keep [0, 3, 4] (.seq (.block 5 (.seq (.reg [iR 37 (.p .mv) [(.t 0)], iR 38 (.p .mv) [(.t 4)], iR 39 (.p .strIndex) [(.t 37), (.t 38)], iR 40 (.p (.bin .neq)) [(.t 39), (.c (.int .u8 (.ofNat 9)))], iR 41 (.p .mv) [(.t 40)], iG 42 41 true (.p .mv) [(.t 0)], iG 43 41 true (.p .mv) [(.t 4)], iG 44 41 true (.p .strIndex) [(.t 42), (.t 43)], iG 45 41 true (.p (.bin .neq)) [(.t 44), (.c (.int .u8 (.ofNat 10)))], iR 46 (.p .pick) [(.t 41), (.t 45), (.c (.bool false))], iR 47 (.p .mv) [(.t 46)], iG 48 47 true (.p .mv) [(.t 0)], iG 49 47 true (.p .mv) [(.t 4)], iG 50 47 true (.p .strIndex) [(.t 48), (.t 49)],
    iG 51 47 true (.p (.bin .neq)) [(.t 50), (.c (.int .u8 (.ofNat 13)))], iR 52 (.p .pick) [(.t 47), (.t 51), (.c (.bool false))]]) (.keep [0, 3, 4, 52] (.cond (.t 52) (.reg [iR 53 (.p .mv) [(.t 3)], iR 54 (.p .mv) [(.t 0)], iR 55 (.p .mv) [(.t 4)], iR 56 (.p .mv) [(.t 4)], iR 57 (.p (.bin .add)) [(.t 56), (.c (.int .i64 (.ofNat 1)))], iR 58 (.p (.strSlice true true)) [(.t 54), (.t 55), (.t 57)], iR 59 (.p (.bin .add)) [(.t 53), (.t 58)], iR 3 (.p .mv) [(.t 59)]]) .skip)))) (.keep [0, 3, 4] (.reg [iR 35 (.p .mv) [(.t 4)], iR 36 (.p (.bin .add)) [(.t 35), (.c (.int .i64 (.ofNat 1)))], iR 4 (.p .mv) [(.t 36)]])))))))))) (.keep [3] (.seq (.reg [iR 60 (.p .mv) [(.t 3)], iR 2 (.p .mv) [(.t 60)]]) (.keep [2] (.keep [2] .ret))))))))))))), [(.t 2)]⟩
def s_ref3_clean (call : CallK) (N : Nat) (a0 : V) (H : Heap) (τ : Tape) (q : KV) : Ans := funK call N fn_ref3_clean [a0] H τ q
theorem s_ref3_clean_eq (call : CallK) (N : Nat) (a0 : V) (H : Heap) (τ : Tape) (q : KV) : s_ref3_clean call N a0 H τ q = funK call N fn_ref3_clean [a0] H τ q := by kernel_rfl
def e_ref3_clean (call : CallK) (N : Nat) (vs : List V) (H : Heap) (τ : Tape) (q : KV) : Ans := match vs with | [a0] => s_ref3_clean call N a0 H τ q | _ => none
theorem e_ref3_clean_ok : EntOk fn_ref3_clean e_ref3_clean := by
  intro call N vs H τ q r h
  unfold e_ref3_clean at h
  split at h
  · rw [s_ref3_clean_eq] at h; exact h
  · cases h
theorem e_ref3_clean_nat : EntNat e_ref3_clean := by
  intro c hn N vs H τ q
  unfold e_ref3_clean
  split
  · rw [s_ref3_clean_eq, s_ref3_clean_eq]; exact funK_ent hn _ _ _ _ _ _
  · rfl
/-- ostiary/ostiaryref3.scheme -/
def fn_ref3_scheme : Fun := ⟨1, (.seq (.reg [iR 2 (.p .mv) [(.c (.str []))], iR 3 (.p .mv) [(.c (.str []))], iR 4 (.p .mv) [(.c (.bool false))]]) (.keep [0] (.seq (.seq (.reg [iR 5 (.p .mv) [(.c (.int .i64 (.ofNat 0)))]]) (.keep [0, 5] (.block 0 (.loop (.keep [0, 5] (.seq (.seq (.reg [iR 7 (.p .mv) [(.t 5)], iR 8 (.p .mv) [(.t 0)], iR 9 (.p .lenS) [(.t 8)], iR 10 (.p (.bin .lss)) [(.t 7), (.t 9)]]) (.keep [0, 5, 10] (.cond (.t 10) .skip (.keep [] (.exit 0))))) (.keep [0, 5] (.seq (.block 1 (.seq (.reg [iR 13 (.p .mv) [(.t 0)], iR 14 (.p .mv) [(.t 5)], iR 15 (.p .strIndex) [(.t 13), (.t 14)], iR 6 (.p .mv) [(.t 15)]]) (.keep [0, 5, 6] (.seq (.seq (.reg [iR 16 (.p .mv) [(.t 6)], iR 17 (.p (.bin .eql)) [(.t 16), (.c (.int .u8 (.ofNat 58)))], iR 18 (.p .mv) [(.t 17)], iG 19 18 true (.p .mv) [(.t 5)], iG 20 18 true (.p (.bin .gtr)) [(.t 19), (.c (.int .i64 (.ofNat 0)))],
    iR 21 (.p .pick) [(.t 18), (.t 20), (.c (.bool false))]]) (.keep [0, 5, 6, 21] (.cond (.t 21) (.seq (.draw [iR 22 (.p .mv) [(.t 0)], iR 23 (.p .mv) [(.t 5)], iR 24 (.p (.strSlice false true)) [(.t 22), (.t 23)], iR 25 (.call 92) [(.t 24)], iR 26 (.p .mv) [(.t 0)], iR 27 (.p .mv) [(.t 5)], iR 28 (.p (.bin .add)) [(.t 27), (.c (.int .i64 (.ofNat 1)))], iR 29 (.p (.strSlice true false)) [(.t 26), (.t 28)], iR 2 (.p .mv) [(.t 25)], iR 3 (.p .mv) [(.t 29)], iR 4 (.p .mv) [(.c (.bool true))]]) (.keep [2, 3, 4] (.keep [2, 3, 4] .ret))) .skip))) (.keep [0, 5, 6] (.seq (.reg [iR 30 (.p .mv) [(.t 6)], iR 31 (.call 93) [(.t 30)], iR 32 (.p (.un .not)) [(.t 31)], iR 33 (.p .mv) [(.t 32)], iG 34 33 true (.p .mv) [(.t 5)], iG 35 33 true (.p (.bin .eql)) [(.t 34), (.c (.int .i64 (.ofNat 0)))], iG 36 33 true (.p .mv) [(.t 35)], iG 37 36 false (.p .mv) [(.t 6)],
    iG 38 36 false (.call 80) [(.t 37)], iG 39 36 false (.p (.un .not)) [(.t 38)], iG 40 36 false (.p .mv) [(.t 39)], iG 41 40 true (.p .mv) [(.t 6)], iG 42 40 true (.p (.bin .neq)) [(.t 41), (.c (.int .u8 (.ofNat 43)))], iG 43 36 false (.p .pick) [(.t 40), (.t 42), (.c (.bool false))], iG 44 36 false (.p .mv) [(.t 43)], iG 45 44 true (.p .mv) [(.t 6)], iG 46 44 true (.p (.bin .neq)) [(.t 45), (.c (.int .u8 (.ofNat 45)))], iG 47 36 false (.p .pick) [(.t 44), (.t 46), (.c (.bool false))], iG 48 36 false (.p .mv) [(.t 47)], iG 49 48 true (.p .mv) [(.t 6)], iG 50 48 true (.p (.bin .neq)) [(.t 49), (.c (.int .u8 (.ofNat 46)))], iG 51 36 false (.p .pick) [(.t 48), (.t 50), (.c (.bool false))], iG 52 33 true (.p .pick) [(.t 36), (.c (.bool true)), (.t 51)], iR 53 (.p .pick) [(.t 33), (.t 52), (.c (.bool false))]]) (.keep [0, 5, 53] (.cond (.t 53)
    (.seq (.reg [iR 2 (.p .mv) [(.c (.str []))], iR 3 (.p .mv) [(.c (.str []))], iR 4 (.p .mv) [(.c (.bool false))]]) (.keep [2, 3, 4] (.keep [2, 3, 4] .ret))) .skip)))))))) (.keep [0, 5] (.reg [iR 11 (.p .mv) [(.t 5)], iR 12 (.p (.bin .add)) [(.t 11), (.c (.int .i64 (.ofNat 1)))], iR 5 (.p .mv) [(.t 12)]])))))))))) (.keep [] (.seq (.reg [iR 2 (.p .mv) [(.c (.str []))], iR 3 (.p .mv) [(.c (.str []))], iR 4 (.p .mv) [(.c (.bool false))]]) (.keep [2, 3, 4] (.keep [2, 3, 4] .ret))))))), [(.t 2), (.t 3), (.t 4)]⟩
def s_ref3_scheme (call : CallK) (N : Nat) (a0 : V) (H : Heap) (τ : Tape) (q : KV) : Ans := funK call N fn_ref3_scheme [a0] H τ q
theorem s_ref3_scheme_eq (call : CallK) (N : Nat) (a0 : V) (H : Heap) (τ : Tape) (q : KV) : s_ref3_scheme call N a0 H τ q = funK call N fn_ref3_scheme [a0] H τ q := by kernel_rfl
def e_ref3_scheme (call : CallK) (N : Nat) (vs : List V) (H : Heap) (τ : Tape) (q : KV) : Ans := match vs with | [a0] => s_ref3_scheme call N a0 H τ q | _ => none
theorem e_ref3_scheme_ok : EntOk fn_ref3_scheme e_ref3_scheme := by
  intro call N vs H τ q r h
  unfold e_ref3_scheme at h
  split at h
  · rw [s_ref3_scheme_eq] at h; exact h
  · cases h
theorem e_ref3_scheme_nat : EntNat e_ref3_scheme := by
  intro c hn N vs H τ q
  unfold e_ref3_scheme
  split
  · rw [s_ref3_scheme_eq, s_ref3_scheme_eq]; exact funK_ent hn _ _ _ _ _ _
  · rfl
/-- ostiary/ostiaryref3.full -/
def fn_ref3_full : Fun := ⟨2, (.seq (.reg [iR 4 (.p .mv) [(.c (.int .i64 (.ofNat 0)))]]) (.keep [0, 1] (.seq (.reg [iR 7 (.p .mv) [(.t 0)], iR 8 (.p .nilck) [(.t 7)], iR 9 (.p (.fieldAddr 5)) [(.t 8)], ⟨none, none, (.e (.store 1)), [(.t 9), (.c (.int .i64 (.negSucc 0)))], none⟩]) (.keep [0, 1] (.seq (.seq (.reg [iR 10 (.p .mv) [(.t 0)], iR 11 (.p .nilck) [(.t 10)], iR 12 (.p (.fieldAddr 0)) [(.t 11)], iR 13 (.l (.load none)) [(.t 12)], iR 14 (.call 53) [(.t 13)]]) (.keep [0, 1, 14] (.cond (.t 14) (.seq (.reg [iR 15 (.p .mv) [(.t 0)], iR 16 (.p .mv) [(.t 1)], iR 17 (.call 96) [(.t 16)], iR 18 (.call 95) [(.t 17)], iR 19 (.call 94) [(.t 15), (.t 18)], iR 4 (.p .mv) [(.t 19)]]) (.keep [4] (.keep [4] .ret))) .skip))) (.keep [0, 1] (.seq (.seq (.reg [iR 20 (.p .mv) [(.t 1)], iR 21 (.call 61) [(.t 20), (.c (.str (bs [47, 47])))]]) (.keep [0, 1, 21] (.cond (.t 21)
    (.seq (.reg [iR 22 (.p .mv) [(.t 0)], iR 23 (.p .mv) [(.t 1)], iR 24 (.p (.strSlice true false)) [(.t 23), (.c (.int .i64 (.ofNat 2)))], iR 25 (.call 94) [(.t 22), (.t 24)], iR 4 (.p .mv) [(.t 25)]]) (.keep [4] (.keep [4] .ret))) .skip))) (.keep [0, 1] (.seq (.seq (.reg [iR 26 (.p .mv) [(.t 1)], iR 27 (.call 61) [(.t 26), (.c (.str (bs [47])))]]) (.keep [0, 1, 27] (.cond (.t 27) (.seq (.reg [iR 28 (.p .mv) [(.t 0)], iR 29 (.p .mv) [(.t 1)], iR 30 (.call 97) [(.t 28), (.t 29)]]) (.keep [] (.seq (.reg [iR 4 (.p .mv) [(.c (.int .i64 (.ofNat 0)))]]) (.keep [4] (.keep [4] .ret))))) .skip))) (.keep [0, 1] (.seq (.reg [iR 32 (.p .mv) [(.t 1)], iR 33 (.call 98) [(.t 32), (.c (.int .u8 (.ofNat 63))), (.c (.int .u8 (.ofNat 63)))], iR 31 (.p .mv) [(.t 33)], iR 34 (.p (.extract 0)) [(.t 31)], iR 35 (.p (.extract 1)) [(.t 31)], iR 5 (.p .mv) [(.t 34)], iR 6 (.p .mv) [(.t 35)]])
    (.keep [0, 1, 5] (.seq (.reg [iR 36 (.p .mv) [(.t 0)], iR 37 (.p .nilck) [(.t 36)], iR 38 (.p (.fieldAddr 6)) [(.t 37)], ⟨none, none, (.e (.store 1)), [(.t 38), (.c (.bool true))], none⟩]) (.keep [0, 1, 5] (.seq (.reg [iR 39 (.p .mv) [(.t 0)], iR 40 (.p .mv) [(.t 5)], iR 41 (.call 91) [(.t 40), (.c (.int .i64 (.ofNat 1)))], iR 42 (.e (.buildSlice 1 1 [(.str [])] [(0, 1)])) [(.t 41)], iR 43 (.p .nilck) [(.t 39)], iR 44 (.p (.fieldAddr 7)) [(.t 43)], ⟨none, none, (.e (.store 1)), [(.t 44), (.t 42)], none⟩]) (.keep [0, 1] (.seq (.reg [iR 45 (.p .mv) [(.t 0)], iR 46 (.p .mv) [(.t 1)], iR 47 (.call 99) [(.t 45), (.t 46)]]) (.keep [] (.seq (.reg [iR 4 (.p .mv) [(.c (.int .i64 (.ofNat 0)))]]) (.keep [4] (.keep [4] .ret))))))))))))))))))))), [(.t 4)]⟩
def s_ref3_full (call : CallK) (N : Nat) (a0 a1 : V) (H : Heap) (τ : Tape) (q : KV) : Ans := funK call N fn_ref3_full [a0, a1] H τ q
theorem s_ref3_full_eq (call : CallK) (N : Nat) (a0 a1 : V) (H : Heap) (τ : Tape) (q : KV) : s_ref3_full call N a0 a1 H τ q = funK call N fn_ref3_full [a0, a1] H τ q := by kernel_rfl
def e_ref3_full (call : CallK) (N : Nat) (vs : List V) (H : Heap) (τ : Tape) (q : KV) : Ans := match vs with | [a0, a1] => s_ref3_full call N a0 a1 H τ q | _ => none
theorem e_ref3_full_ok : EntOk fn_ref3_full e_ref3_full := by
  intro call N vs H τ q r h
  unfold e_ref3_full at h
  split at h
  · rw [s_ref3_full_eq] at h; exact h
  · cases h
theorem e_ref3_full_nat : EntNat e_ref3_full := by
  intro c hn N vs H τ q
  unfold e_ref3_full
  split
  · rw [s_ref3_full_eq, s_ref3_full_eq]; exact funK_ent hn _ _ _ _ _ _
  · rfl
/-- internal/stringslite.Index -/
def fn_stringslite_Index : Fun := ⟨2, (.seq (.reg [iR 4 (.p .mv) [(.c (.int .i64 (.ofNat 0)))]]) (.keep [0, 1] (.seq (.reg [iR 14 (.p .mv) [(.t 1)], iR 15 (.p .lenS) [(.t 14)], iR 5 (.p .mv) [(.t 15)]]) (.keep [0, 1, 5] (.seq (.block 0 (.seq (.reg [iR 17 (.p .mv) [(.t 5)], iR 18 (.p (.bin .eql)) [(.t 17), (.c (.int .i64 (.ofNat 0)))], iR 19 (.p .mv) [(.t 18)], iG 20 19 false (.p .mv) [(.t 1)], iG 21 19 false (.p .mv) [(.t 0)], iG 22 19 false (.p (.bin .eql)) [(.t 20), (.t 21)], iR 23 (.p .pick) [(.t 19), (.c (.bool true)), (.t 22)], iR 16 (.p .mv) [(.t 23)]]) (.keep [0, 1, 5, 16] (.cond (.t 16) (.seq (.reg [iR 4 (.p .mv) [(.c (.int .i64 (.ofNat 0)))]]) (.keep [4] (.keep [4] .ret))) (.seq (.reg [iR 25 (.p .mv) [(.t 5)], iR 26 (.p (.bin .eql)) [(.t 25), (.c (.int .i64 (.ofNat 1)))], iR 24 (.p .mv) [(.t 26)]]) (.keep [0, 1, 5, 24] (.cond (.t 24) (.seq (.reg [iR 27 (.p .mv) [(.t 0)],
    iR 28 (.p .mv) [(.t 1)], iR 29 (.p .strIndex) [(.t 28), (.c (.int .i64 (.ofNat 0)))], iR 30 (.call 100) [(.t 27), (.t 29)], iR 4 (.p .mv) [(.t 30)]]) (.keep [4] (.keep [4] .ret))) (.seq (.reg [iR 32 (.p .mv) [(.t 5)], iR 33 (.p .mv) [(.t 0)], iR 34 (.p .lenS) [(.t 33)], iR 35 (.p (.bin .geq)) [(.t 32), (.t 34)], iR 31 (.p .mv) [(.t 35)]]) (.keep [0, 1, 5, 31] (.cond (.t 31) (.seq (.reg [iR 4 (.p .mv) [(.c (.int .i64 (.negSucc 0)))]]) (.keep [4] (.keep [4] .ret))) (.seq (.reg [iR 37 (.p .mv) [(.t 5)], iR 38 (.l (.load none)) [(.c (.ptr 0 0))], iR 39 (.p (.bin .leq)) [(.t 37), (.t 38)], iR 40 (.p .mv) [(.t 39)], iG 41 40 true (.p .mv) [(.t 0)], iG 42 40 true (.p .lenS) [(.t 41)], iG 43 40 true (.p (.bin .leq)) [(.t 42), (.c (.int .i64 (.ofNat 64)))], iR 44 (.p .pick) [(.t 40), (.t 43), (.c (.bool false))], iR 36 (.p .mv) [(.t 44)]]) (.keep [0, 1, 5, 36] (.cond (.t 36) (.seq .bad
    (.keep [4] (.keep [4] .ret))) .skip))))))))))))) (.keep [0, 1, 5] (.seq (.reg [iR 48 (.p .mv) [(.t 1)], iR 49 (.p .strIndex) [(.t 48), (.c (.int .i64 (.ofNat 0)))], iR 6 (.p .mv) [(.t 49)]]) (.keep [0, 1, 5, 6] (.seq (.reg [iR 50 (.p .mv) [(.t 1)], iR 51 (.p .strIndex) [(.t 50), (.c (.int .i64 (.ofNat 1)))], iR 7 (.p .mv) [(.t 51)]]) (.keep [0, 1, 5, 6, 7] (.seq (.reg [iR 8 (.p .mv) [(.c (.int .i64 (.ofNat 0)))]]) (.keep [0, 1, 5, 6, 7, 8] (.seq (.reg [iR 52 (.p .mv) [(.t 0)], iR 53 (.p .lenS) [(.t 52)], iR 54 (.p .mv) [(.t 5)], iR 55 (.p (.bin .sub)) [(.t 53), (.t 54)], iR 56 (.p (.bin .add)) [(.t 55), (.c (.int .i64 (.ofNat 1)))], iR 9 (.p .mv) [(.t 56)]]) (.keep [0, 1, 5, 6, 7, 8, 9] (.seq (.reg [iR 10 (.p .mv) [(.c (.int .i64 (.ofNat 0)))]]) (.keep [0, 1, 5, 6, 7, 8, 9, 10] (.seq (.block 1 (.loop (.keep [0, 1, 5, 6, 7, 8, 9, 10] (.seq (.seq (.reg [iR 57 (.p .mv) [(.t 8)],
    iR 58 (.p .mv) [(.t 9)], iR 59 (.p (.bin .lss)) [(.t 57), (.t 58)]]) (.keep [0, 1, 5, 6, 7, 8, 9, 10, 59] (.cond (.t 59) .skip (.keep [] (.exit 1))))) (.keep [0, 1, 5, 6, 7, 8, 9, 10] (.block 2 (.seq (.seq (.reg [iR 60 (.p .mv) [(.t 0)], iR 61 (.p .mv) [(.t 8)], iR 62 (.p .strIndex) [(.t 60), (.t 61)], iR 63 (.p .mv) [(.t 6)], iR 64 (.p (.bin .neq)) [(.t 62), (.t 63)]]) (.keep [0, 1, 5, 6, 7, 8, 9, 10, 64] (.cond (.t 64) (.seq (.reg [iR 65 (.p .mv) [(.t 0)], iR 66 (.p .mv) [(.t 8)], iR 67 (.p (.bin .add)) [(.t 66), (.c (.int .i64 (.ofNat 1)))], iR 68 (.p .mv) [(.t 9)], iR 69 (.p (.strSlice true true)) [(.t 65), (.t 67), (.t 68)], iR 70 (.p .mv) [(.t 6)], iR 71 (.call 100) [(.t 69), (.t 70)], iR 11 (.p .mv) [(.t 71)]]) (.keep [0, 1, 5, 6, 7, 8, 9, 10, 11] (.seq (.seq (.reg [iR 72 (.p .mv) [(.t 11)], iR 73 (.p (.bin .lss)) [(.t 72), (.c (.int .i64 (.ofNat 0)))]])
    (.keep [0, 1, 5, 6, 7, 8, 9, 10, 11, 73] (.cond (.t 73) (.seq (.reg [iR 4 (.p .mv) [(.c (.int .i64 (.negSucc 0)))]]) (.keep [4] (.keep [4] .ret))) .skip))) (.keep [0, 1, 5, 6, 7, 8, 9, 10, 11] (.reg [iR 74 (.p .mv) [(.t 8)], iR 75 (.p .mv) [(.t 11)], iR 76 (.p (.bin .add)) [(.t 75), (.c (.int .i64 (.ofNat 1)))], iR 77 (.p (.bin .add)) [(.t 74), (.t 76)], iR 8 (.p .mv) [(.t 77)]]))))) .skip))) (.keep [0, 1, 5, 6, 7, 8, 9, 10] (.seq (.seq (.reg [iR 78 (.p .mv) [(.t 0)], iR 79 (.p .mv) [(.t 8)], iR 80 (.p (.bin .add)) [(.t 79), (.c (.int .i64 (.ofNat 1)))], iR 81 (.p .strIndex) [(.t 78), (.t 80)], iR 82 (.p .mv) [(.t 7)], iR 83 (.p (.bin .eql)) [(.t 81), (.t 82)], iR 84 (.p .mv) [(.t 83)], iG 85 84 true (.p .mv) [(.t 0)], iG 86 84 true (.p .mv) [(.t 8)], iG 87 84 true (.p .mv) [(.t 8)], iG 88 84 true (.p .mv) [(.t 5)], iG 89 84 true (.p (.bin .add)) [(.t 87), (.t 88)],
    iG 90 84 true (.p (.strSlice true true)) [(.t 85), (.t 86), (.t 89)], iG 91 84 true (.p .mv) [(.t 1)], iG 92 84 true (.p (.bin .eql)) [(.t 90), (.t 91)], iR 93 (.p .pick) [(.t 84), (.t 92), (.c (.bool false))]]) (.keep [0, 1, 5, 6, 7, 8, 9, 10, 93] (.cond (.t 93) (.seq (.reg [iR 94 (.p .mv) [(.t 8)], iR 4 (.p .mv) [(.t 94)]]) (.keep [4] (.keep [4] .ret))) .skip))) (.keep [0, 1, 5, 6, 7, 8, 9, 10] (.seq (.reg [iR 95 (.p .mv) [(.t 8)], iR 96 (.p (.bin .add)) [(.t 95), (.c (.int .i64 (.ofNat 1)))], iR 8 (.p .mv) [(.t 96)]]) (.keep [0, 1, 5, 6, 7, 8, 9, 10] (.seq (.reg [iR 97 (.p .mv) [(.t 10)], iR 98 (.p (.bin .add)) [(.t 97), (.c (.int .i64 (.ofNat 1)))], iR 10 (.p .mv) [(.t 98)]]) (.keep [0, 1, 5, 6, 7, 8, 9, 10] (.seq (.reg [iR 99 (.p .mv) [(.t 5)], iR 100 (.l (.load none)) [(.c (.ptr 0 0))], iR 101 (.p (.bin .leq)) [(.t 99), (.t 100)], iR 102 (.p .mv) [(.t 101)],
    iG 103 102 true (.p .mv) [(.t 10)], iG 104 102 true (.p .mv) [(.t 8)], iG 105 102 true (.call 102) [(.t 104)], iG 106 102 true (.p (.bin .gtr)) [(.t 103), (.t 105)], iR 107 (.p .pick) [(.t 102), (.t 106), (.c (.bool false))]]) (.keep [0, 1, 5, 6, 7, 8, 9, 10, 107] (.cond (.t 107) (.seq .bad (.keep [8, 12] (.seq (.seq (.reg [iR 113 (.p .mv) [(.t 12)], iR 114 (.p (.bin .geq)) [(.t 113), (.c (.int .i64 (.ofNat 0)))]]) (.keep [8, 12, 114] (.cond (.t 114) (.seq (.reg [iR 115 (.p .mv) [(.t 12)], iR 116 (.p .mv) [(.t 8)], iR 117 (.p (.bin .add)) [(.t 115), (.t 116)], iR 4 (.p .mv) [(.t 117)]]) (.keep [4] (.keep [4] .ret))) .skip))) (.keep [] (.seq (.reg [iR 4 (.p .mv) [(.c (.int .i64 (.negSucc 0)))]]) (.keep [4] (.keep [4] .ret))))))) (.seq (.reg [iR 118 (.p .mv) [(.t 5)], iR 119 (.l (.load none)) [(.c (.ptr 0 0))], iR 120 (.p (.bin .gtr)) [(.t 118), (.t 119)],
    iR 121 (.p .mv) [(.t 120)], iG 122 121 true (.p .mv) [(.t 10)], iG 123 121 true (.p .mv) [(.t 8)], iG 124 121 true (.p (.bin .shr)) [(.t 123), (.c (.int .u64 (.ofNat 4)))], iG 125 121 true (.p (.bin .add)) [(.c (.int .i64 (.ofNat 4))), (.t 124)], iG 126 121 true (.p (.bin .geq)) [(.t 122), (.t 125)], iR 127 (.p .pick) [(.t 121), (.t 126), (.c (.bool false))], iR 128 (.p .mv) [(.t 127)], iG 129 128 true (.p .mv) [(.t 8)], iG 130 128 true (.p .mv) [(.t 9)], iG 131 128 true (.p (.bin .lss)) [(.t 129), (.t 130)], iR 132 (.p .pick) [(.t 128), (.t 131), (.c (.bool false))]]) (.keep [0, 1, 5, 6, 7, 8, 9, 10, 132] (.cond (.t 132) (.seq (.reg [iR 133 (.p .mv) [(.t 0)], iR 134 (.p .mv) [(.t 8)], iR 135 (.p (.strSlice true false)) [(.t 133), (.t 134)], iR 136 (.p .mv) [(.t 1)], iR 137 (.call 103) [(.t 135), (.t 136)], iR 13 (.p .mv) [(.t 137)]])
    (.keep [8, 13] (.seq (.seq (.reg [iR 138 (.p .mv) [(.t 13)], iR 139 (.p (.bin .lss)) [(.t 138), (.c (.int .i64 (.ofNat 0)))]]) (.keep [8, 13, 139] (.cond (.t 139) (.seq (.reg [iR 4 (.p .mv) [(.c (.int .i64 (.negSucc 0)))]]) (.keep [4] (.keep [4] .ret))) .skip))) (.keep [8, 13] (.seq (.reg [iR 140 (.p .mv) [(.t 8)], iR 141 (.p .mv) [(.t 13)], iR 142 (.p (.bin .add)) [(.t 140), (.t 141)], iR 4 (.p .mv) [(.t 142)]]) (.keep [4] (.keep [4] .ret))))))) .skip)))))))))))))))))))) (.keep [] (.seq (.reg [iR 4 (.p .mv) [(.c (.int .i64 (.negSucc 0)))]]) (.keep [4] (.keep [4] .ret))))))))))))))))))))), [(.t 4)]⟩
def s_stringslite_Index_j0 (call : CallK) (N : Nat) (q : KV) (st : St) (τ : Tape) : Ans := match st with
  | ⟨fr, H⟩ => q (.int .i64 (.negSucc 0)) H τ
def s_stringslite_Index_j2 (call : CallK) (N : Nat) (k : KC) (st : St) (τ : Tape) : Ans := match st with
  | ⟨fr, H⟩ => getK fr 0 fun t0 => getK fr 1 fun t1 => getK fr 5 fun t5 => getK fr 6 fun t6 => getK fr 7 fun t7 => getK fr 8 fun t8 => getK fr 9 fun t9 => getK fr 10 fun t10 => binK .add t8 (.int .i64 (.ofNat 1)) fun v39 => someK (pStrIndex [t0, v39]) fun v40 => binK .eql v40 t7 fun v41 => gK v41 true (fun q' => q' t0 H τ) H τ fun v42 H43 τ44 => gK v41 true (fun q' => q' t8 H43 τ44) H43 τ44 fun v45 H46 τ47 => gK v41 true (fun q' => q' t8 H46 τ47) H46 τ47 fun v48 H49 τ50 => gK v41 true (fun q' => q' t5 H49 τ50) H49 τ50 fun v51 H52 τ53 => gK v41 true (fun q' => binK .add v48 v51 fun v => q' v H52 τ53) H52 τ53 fun v54 H55 τ56 => gK v41 true (fun q' => someK (pStrSlice true true [v42, v45, v54]) fun v => q' v H55 τ56) H55 τ56 fun v57 H58 τ59 => gK v41 true (fun q' => q' t1 H58 τ59) H58 τ59 fun v60 H61 τ62 =>
    gK v41 true (fun q' => binK .eql v57 v60 fun v => q' v H61 τ62) H61 τ62 fun v63 H64 τ65 => someK (pPick [v41, v63, (.bool false)]) fun v66 => condK v66 (k .ret ⟨(T.set .leaf 4 t8), H64⟩ τ65) (binK .add t8 (.int .i64 (.ofNat 1)) fun v67 => binK .add t10 (.int .i64 (.ofNat 1)) fun v68 => someK (lLoad1 [(.ptr 0 0)] H64) fun v69 => binK .leq t5 v69 fun v70 => gK v70 true (fun q' => q' v68 H64 τ65) H64 τ65 fun v71 H72 τ73 => gK v70 true (fun q' => q' v67 H72 τ73) H72 τ73 fun v74 H75 τ76 => gK v70 true (fun q' => call f_bytealg_Cutover [v74] H75 τ76 q') H75 τ76 fun v77 H78 τ79 => gK v70 true (fun q' => binK .gtr v71 v77 fun v => q' v H78 τ79) H78 τ79 fun v80 H81 τ82 => someK (pPick [v70, v80, (.bool false)]) fun v83 => condK v83 (none) (someK (lLoad1 [(.ptr 0 0)] H81) fun v84 => binK .gtr t5 v84 fun v85 => gK v85 true (fun q' => q' v68 H81 τ82) H81 τ82 fun v86 H87 τ88 =>
    gK v85 true (fun q' => q' v67 H87 τ88) H87 τ88 fun v89 H90 τ91 => gK v85 true (fun q' => binK .shr v89 (.int .u64 (.ofNat 4)) fun v => q' v H90 τ91) H90 τ91 fun v92 H93 τ94 => gK v85 true (fun q' => binK .add (.int .i64 (.ofNat 4)) v92 fun v => q' v H93 τ94) H93 τ94 fun v95 H96 τ97 => gK v85 true (fun q' => binK .geq v86 v95 fun v => q' v H96 τ97) H96 τ97 fun v98 H99 τ100 => someK (pPick [v85, v98, (.bool false)]) fun v101 => gK v101 true (fun q' => q' v67 H99 τ100) H99 τ100 fun v102 H103 τ104 => gK v101 true (fun q' => q' t9 H103 τ104) H103 τ104 fun v105 H106 τ107 => gK v101 true (fun q' => binK .lss v102 v105 fun v => q' v H106 τ107) H106 τ107 fun v108 H109 τ110 => someK (pPick [v101, v108, (.bool false)]) fun v111 => condK v111 (someK (pStrSlice true false [t0, v67]) fun v112 => call f_bytealg_IndexRabinKarp_string [v112, t1] H109 τ110 fun v113 H114 τ115 =>
    binK .lss v113 (.int .i64 (.ofNat 0)) fun v116 => condK v116 (k .ret ⟨(T.set .leaf 4 (.int .i64 (.negSucc 0))), H114⟩ τ115) (binK .add v67 v113 fun v117 => k .ret ⟨(T.set .leaf 4 v117), H114⟩ τ115)) (k .normal ⟨(T.set (T.set (T.set (T.set (T.set (T.set (T.set (T.set (T.set .leaf 0 t0) 1 t1) 5 t5) 6 t6) 7 t7) 8 v67) 9 t9) 10 v68) 132 v111), H109⟩ τ110)))
def s_stringslite_Index_l1 (call : CallK) (N : Nat) (st : St) (τ : Tape) (k : KC) : Ans := match st with
  | ⟨fr, H⟩ => getK fr 0 fun t0 => getK fr 1 fun t1 => getK fr 5 fun t5 => getK fr 6 fun t6 => getK fr 7 fun t7 => getK fr 8 fun t8 => getK fr 9 fun t9 => getK fr 10 fun t10 => binK .lss t8 t9 fun v36 => condK v36 (someK (pStrIndex [t0, t8]) fun v37 => binK .neq v37 t6 fun v38 => condK v38 (binK .add t8 (.int .i64 (.ofNat 1)) fun v118 => someK (pStrSlice true true [t0, v118, t9]) fun v119 => call f_stringslite_IndexByte [v119, t6] H τ fun v120 H121 τ122 => binK .lss v120 (.int .i64 (.ofNat 0)) fun v123 => condK v123 (k .ret ⟨(T.set .leaf 4 (.int .i64 (.negSucc 0))), H121⟩ τ122) (binK .add v120 (.int .i64 (.ofNat 1)) fun v124 => binK .add t8 v124 fun v125 =>
    s_stringslite_Index_j2 call N k ⟨(T.set (T.set (T.set (T.set (T.set (T.set (T.set (T.set (T.set (T.set (T.set (T.set (T.set (T.set .leaf 0 t0) 1 t1) 5 t5) 6 t6) 7 t7) 8 t8) 9 t9) 10 t10) 11 v120) 74 t8) 75 v120) 76 v124) 77 v125) 8 v125), H121⟩ τ122)) (s_stringslite_Index_j2 call N k ⟨(T.set (T.set (T.set (T.set (T.set (T.set (T.set (T.set (T.set .leaf 0 t0) 1 t1) 5 t5) 6 t6) 7 t7) 8 t8) 9 t9) 10 t10) 64 v38), H⟩ τ)) (k (.exit 1) ⟨.leaf, H⟩ τ)
def s_stringslite_Index (call : CallK) (N : Nat) (a0 a1 : V) (H : Heap) (τ : Tape) (q : KV) : Ans := someK (pLenS [a1]) fun v0 => binK .eql v0 (.int .i64 (.ofNat 0)) fun v1 => gK v1 false (fun q' => q' a1 H τ) H τ fun v2 H3 τ4 => gK v1 false (fun q' => q' a0 H3 τ4) H3 τ4 fun v5 H6 τ7 => gK v1 false (fun q' => binK .eql v2 v5 fun v => q' v H6 τ7) H6 τ7 fun v8 H9 τ10 => someK (pPick [v1, (.bool true), v8]) fun v11 => condK v11 (q (.int .i64 (.ofNat 0)) H9 τ10) (binK .eql v0 (.int .i64 (.ofNat 1)) fun v12 => condK v12 (someK (pStrIndex [a1, (.int .i64 (.ofNat 0))]) fun v13 => call f_stringslite_IndexByte [a0, v13] H9 τ10 fun v14 H15 τ16 => q v14 H15 τ16) (someK (pLenS [a0]) fun v17 => binK .geq v0 v17 fun v18 => condK v18 (q (.int .i64 (.negSucc 0)) H9 τ10) (someK (lLoad1 [(.ptr 0 0)] H9) fun v19 => binK .leq v0 v19 fun v20 => gK v20 true (fun q' => q' a0 H9 τ10) H9 τ10 fun v21 H22 τ23 =>
    gK v20 true (fun q' => someK (pLenS [v21]) fun v => q' v H22 τ23) H22 τ23 fun v24 H25 τ26 => gK v20 true (fun q' => binK .leq v24 (.int .i64 (.ofNat 64)) fun v => q' v H25 τ26) H25 τ26 fun v27 H28 τ29 => someK (pPick [v20, v27, (.bool false)]) fun v30 => condK v30 (none) (someK (pStrIndex [a1, (.int .i64 (.ofNat 0))]) fun v31 => someK (pStrIndex [a1, (.int .i64 (.ofNat 1))]) fun v32 => someK (pLenS [a0]) fun v33 => binK .sub v33 v0 fun v34 => binK .add v34 (.int .i64 (.ofNat 1)) fun v35 => loopK (s_stringslite_Index_l1 call N) N ⟨(T.set (T.set (T.set (T.set (T.set (T.set (T.set (T.set .leaf 0 a0) 1 a1) 5 v0) 6 v31) 7 v32) 8 (.int .i64 (.ofNat 0))) 9 v35) 10 (.int .i64 (.ofNat 0))), H28⟩ τ29 (blockK 1 (seqK (s_stringslite_Index_j0 call N q) (endK [(.t 4)] q)))))))
theorem s_stringslite_Index_eq (call : CallK) (N : Nat) (a0 a1 : V) (H : Heap) (τ : Tape) (q : KV) : s_stringslite_Index call N a0 a1 H τ q = funK call N fn_stringslite_Index [a0, a1] H τ q := by kernel_rfl
def e_stringslite_Index (call : CallK) (N : Nat) (vs : List V) (H : Heap) (τ : Tape) (q : KV) : Ans := match vs with | [a0, a1] => s_stringslite_Index call N a0 a1 H τ q | _ => none
theorem e_stringslite_Index_ok : EntOk fn_stringslite_Index e_stringslite_Index := by
  intro call N vs H τ q r h
  unfold e_stringslite_Index at h
  split at h
  · rw [s_stringslite_Index_eq] at h; exact h
  · cases h
theorem e_stringslite_Index_nat : EntNat e_stringslite_Index := by
  intro c hn N vs H τ q
  unfold e_stringslite_Index
  split
  · rw [s_stringslite_Index_eq, s_stringslite_Index_eq]; exact funK_ent hn _ _ _ _ _ _
  · rfl
/-- internal/stringslite.CutPrefix -/
def fn_stringslite_CutPrefix : Fun := ⟨2, (.seq (.reg [iR 4 (.p .mv) [(.c (.str []))], iR 5 (.p .mv) [(.c (.bool false))]]) (.keep [0, 1] (.seq (.seq (.reg [iR 6 (.p .mv) [(.t 0)], iR 7 (.p .mv) [(.t 1)], iR 8 (.call 104) [(.t 6), (.t 7)], iR 9 (.p (.un .not)) [(.t 8)]]) (.keep [0, 1, 9] (.cond (.t 9) (.seq (.reg [iR 10 (.p .mv) [(.t 0)], iR 4 (.p .mv) [(.t 10)], iR 5 (.p .mv) [(.c (.bool false))]]) (.keep [4, 5] (.keep [4, 5] .ret))) .skip))) (.keep [0, 1] (.seq (.reg [iR 11 (.p .mv) [(.t 0)], iR 12 (.p .mv) [(.t 1)], iR 13 (.p .lenS) [(.t 12)], iR 14 (.p (.strSlice true false)) [(.t 11), (.t 13)], iR 4 (.p .mv) [(.t 14)], iR 5 (.p .mv) [(.c (.bool true))]]) (.keep [4, 5] (.keep [4, 5] .ret))))))), [(.t 4), (.t 5)]⟩
def s_stringslite_CutPrefix (call : CallK) (N : Nat) (a0 a1 : V) (H : Heap) (τ : Tape) (q : KV) : Ans := call f_stringslite_HasPrefix [a0, a1] H τ fun v0 H1 τ2 => unK .not v0 fun v3 => condK v3 (q (.tup [a0, (.bool false)]) H1 τ2) (someK (pLenS [a1]) fun v4 => someK (pStrSlice true false [a0, v4]) fun v5 => q (.tup [v5, (.bool true)]) H1 τ2)
theorem s_stringslite_CutPrefix_eq (call : CallK) (N : Nat) (a0 a1 : V) (H : Heap) (τ : Tape) (q : KV) : s_stringslite_CutPrefix call N a0 a1 H τ q = funK call N fn_stringslite_CutPrefix [a0, a1] H τ q := by kernel_rfl
def e_stringslite_CutPrefix (call : CallK) (N : Nat) (vs : List V) (H : Heap) (τ : Tape) (q : KV) : Ans := match vs with | [a0, a1] => s_stringslite_CutPrefix call N a0 a1 H τ q | _ => none
theorem e_stringslite_CutPrefix_ok : EntOk fn_stringslite_CutPrefix e_stringslite_CutPrefix := by
  intro call N vs H τ q r h
  unfold e_stringslite_CutPrefix at h
  split at h
  · rw [s_stringslite_CutPrefix_eq] at h; exact h
  · cases h
theorem e_stringslite_CutPrefix_nat : EntNat e_stringslite_CutPrefix := by
  intro c hn N vs H τ q
  unfold e_stringslite_CutPrefix
  split
  · rw [s_stringslite_CutPrefix_eq, s_stringslite_CutPrefix_eq]; exact funK_ent hn _ _ _ _ _ _
  · rfl
end Go.Am.X
