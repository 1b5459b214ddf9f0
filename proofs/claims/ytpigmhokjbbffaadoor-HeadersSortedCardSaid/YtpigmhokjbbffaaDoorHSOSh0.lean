/- The abstract machine, printed functions of the program, and what they are shown to be. -/
import Derived.Test.YtpigmhokjbbffaaDoorHSOM3
import Derived.KernelRfl
namespace Go.Am.X
set_option maxRecDepth 1000000
set_option linter.unusedVariables false
abbrev iR (n : Nat) (o : AOp) (a : List O) : Ins := ⟨some n, none, o, a, none⟩
abbrev iG (n g : Nat) (b : Bool) (o : AOp) (a : List O) : Ins := ⟨some n, some (g, b), o, a, none⟩
abbrev f_law5_HeadersSorted : Nat := 9
abbrev f_law5_known : Nat := 11
abbrev f_headers_Split : Nat := 12
abbrev f_law5_h : Nat := 13
abbrev f_book_Same_string : Nat := 14
abbrev f_headers_Range : Nat := 17
abbrev f_headers_Safe : Nat := 18
abbrev f_headers_Get : Nat := 20
abbrev f_book_Same_Header : Nat := 24
abbrev f_headers_Forbidden : Nat := 25
abbrev f_keep_FewHeaders : Nat := 31
abbrev f_headers_Sorted : Nat := 34
abbrev f_strings_Trim : Nat := 35
abbrev f_strings_CutPrefix : Nat := 36
abbrev f_strings_Cut : Nat := 37
abbrev f_headers_told : Nat := 38
abbrev f_infra_Lower : Nat := 39
abbrev f_headers_unsafe : Nat := 40
abbrev f_headers_tongues : Nat := 41
abbrev f_infra_Strip : Nat := 42
abbrev f_headers_is : Nat := 45
abbrev f_strings_Join : Nat := 46
abbrev f_strings_HasPrefix : Nat := 51
abbrev f_keep_Few : Nat := 53
abbrev f_slices_Sort_string : Nat := 56
abbrev f_slices_Compact_string : Nat := 57
abbrev f_strings_trimLeftByte : Nat := 58
abbrev f_strings_trimRightByte : Nat := 59
abbrev f_strings_makeASCIISet : Nat := 60
abbrev f_strings_trimLeftASCII : Nat := 61
abbrev f_strings_trimRightASCII : Nat := 62
abbrev f_strings_trimLeftUnicode : Nat := 63
abbrev f_strings_trimRightUnicode : Nat := 64
abbrev f_stringslite_CutPrefix : Nat := 65
abbrev f_stringslite_Cut : Nat := 66
abbrev f_infra_Int : Nat := 67
abbrev f_infra_mapped : Nat := 68
abbrev f_infra_Lower_1 : Nat := 69
abbrev f_strings_IndexByte : Nat := 70
abbrev f_stringslite_HasPrefix : Nat := 75
abbrev f_asciiSet_contains : Nat := 81
abbrev f_utf8_DecodeRuneInString : Nat := 82
abbrev f_strings_ContainsRune : Nat := 83
abbrev f_utf8_DecodeLastRuneInString : Nat := 84
abbrev f_stringslite_Index : Nat := 85
abbrev f_stringslite_IndexByte : Nat := 86
abbrev f_strings_IndexRune : Nat := 92
abbrev f_utf8_decodeRuneInStringSlow : Nat := 105
abbrev f_utf8_RuneStart : Nat := 106
abbrev f_bytealg_Cutover : Nat := 108
abbrev f_bytealg_IndexRabinKarp_string : Nat := 109
abbrev f_utf8_ValidRune : Nat := 114
abbrev f_bytealg_hashStr_string : Nat := 121
/-- ostiary/ostiarylaw5.HeadersSorted -/
def fn_law5_HeadersSorted : Fun := ⟨1, (.seq (.reg [iR 2 (.p .mv) [(.c (.bool false))]]) (.keep [0] (.seq (.reg [iR 7 (.p .mv) [(.t 0)], iR 8 (.call 31) [(.t 7), (.c (.int .i64 (.ofNat 20))), (.c (.int .i64 (.ofNat 200)))], iR 0 (.p .mv) [(.t 8)]]) (.keep [0] (.seq (.reg [iR 9 (.p .mv) [(.t 0)], iR 10 (.call 34) [(.t 9)], iR 3 (.p .mv) [(.t 10)]]) (.keep [0, 3] (.seq (.seq (.reg [iR 4 (.p .mv) [(.c (.int .i64 (.ofNat 0)))]]) (.keep [0, 3, 4] (.block 0 (.loop (.keep [0, 3, 4] (.seq (.seq (.reg [iR 11 (.p .mv) [(.t 4)], iR 12 (.p .mv) [(.t 3)], iR 13 (.p .len) [(.t 12)], iR 14 (.p (.bin .lss)) [(.t 11), (.t 13)]]) (.keep [0, 3, 4, 14] (.cond (.t 14) .skip (.keep [3] (.exit 0))))) (.keep [0, 3, 4] (.seq (.block 1 (.seq (.seq (.draw [iR 17 (.p .mv) [(.t 4)], iR 18 (.p (.bin .gtr)) [(.t 17), (.c (.int .i64 (.ofNat 0)))], iR 19 (.p .mv) [(.t 18)], iG 20 19 true (.p .mv) [(.t 3)],
    iG 21 19 true (.p .mv) [(.t 4)], iG 22 19 true (.p (.slIdx 2)) [(.t 20), (.t 21)], iG 23 19 true (.p (.fieldAddr 0)) [(.t 22)], iG 24 19 true (.l (.load none)) [(.t 23)], iG 25 19 true (.p .mv) [(.t 3)], iG 26 19 true (.p .mv) [(.t 4)], iG 27 19 true (.p (.bin .sub)) [(.t 26), (.c (.int .i64 (.ofNat 1)))], iG 28 19 true (.p (.slIdx 2)) [(.t 25), (.t 27)], iG 29 19 true (.p (.fieldAddr 0)) [(.t 28)], iG 30 19 true (.l (.load none)) [(.t 29)], iG 31 19 true (.p (.bin .lss)) [(.t 24), (.t 30)], iG 32 19 true (.p .mv) [(.t 31)], iG 33 32 false (.p .mv) [(.t 3)], iG 34 32 false (.p .mv) [(.t 4)], iG 35 32 false (.p (.slIdx 2)) [(.t 33), (.t 34)], iG 36 32 false (.p (.fieldAddr 0)) [(.t 35)], iG 37 32 false (.l (.load none)) [(.t 36)], iG 38 32 false (.p .mv) [(.t 3)], iG 39 32 false (.p .mv) [(.t 4)], iG 40 32 false (.p (.bin .sub)) [(.t 39), (.c (.int .i64 (.ofNat 1)))],
    iG 41 32 false (.p (.slIdx 2)) [(.t 38), (.t 40)], iG 42 32 false (.p (.fieldAddr 0)) [(.t 41)], iG 43 32 false (.l (.load none)) [(.t 42)], iG 44 32 false (.p (.bin .eql)) [(.t 37), (.t 43)], iG 45 32 false (.p .mv) [(.t 44)], iG 46 45 true (.p .mv) [(.t 3)], iG 47 45 true (.p .mv) [(.t 4)], iG 48 45 true (.p (.slIdx 2)) [(.t 46), (.t 47)], iG 49 45 true (.p (.fieldAddr 0)) [(.t 48)], iG 50 45 true (.l (.load none)) [(.t 49)], iG 51 45 true (.p (.bin .neq)) [(.t 50), (.c (.str (bs [115, 101, 116, 45, 99, 111, 111, 107, 105, 101])))], iG 52 32 false (.p .pick) [(.t 45), (.t 51), (.c (.bool false))], iG 53 19 true (.p .pick) [(.t 32), (.c (.bool true)), (.t 52)], iR 54 (.p .pick) [(.t 19), (.t 53), (.c (.bool false))]]) (.keep [0, 3, 4, 54] (.cond (.t 54) (.seq (.reg [iR 2 (.p .mv) [(.c (.bool false))]]) (.keep [2] (.keep [2] .ret))) .skip)))
    (.keep [0, 3, 4] (.seq (.reg [iR 56 (.p .mv) [(.t 0)], iR 57 (.p .mv) [(.t 3)], iR 58 (.p .mv) [(.t 4)], iR 59 (.p (.slIdx 2)) [(.t 57), (.t 58)], iR 60 (.p (.fieldAddr 0)) [(.t 59)], iR 61 (.l (.load none)) [(.t 60)], iR 62 (.call 20) [(.t 56), (.t 61)], iR 55 (.p .mv) [(.t 62)], iR 63 (.p (.extract 0)) [(.t 55)], iR 64 (.p (.extract 1)) [(.t 55)], iR 5 (.p .mv) [(.t 63)], iR 6 (.p .mv) [(.t 64)]]) (.keep [0, 3, 4, 5, 6] (.seq (.seq (.reg [iR 65 (.p .mv) [(.t 6)], iR 66 (.p (.un .not)) [(.t 65)], iR 67 (.p .mv) [(.t 66)], iG 68 67 false (.p .mv) [(.t 3)], iG 69 67 false (.p .mv) [(.t 4)], iG 70 67 false (.p (.slIdx 2)) [(.t 68), (.t 69)], iG 71 67 false (.p (.fieldAddr 0)) [(.t 70)], iG 72 67 false (.l (.load none)) [(.t 71)], iG 73 67 false (.p (.bin .neq)) [(.t 72), (.c (.str (bs [115, 101, 116, 45, 99, 111, 111, 107, 105, 101])))], iG 74 67 false (.p .mv) [(.t 73)],
    iG 75 74 true (.p .mv) [(.t 5)], iG 76 74 true (.p .mv) [(.t 3)], iG 77 74 true (.p .mv) [(.t 4)], iG 78 74 true (.p (.slIdx 2)) [(.t 76), (.t 77)], iG 79 74 true (.p (.fieldAddr 1)) [(.t 78)], iG 80 74 true (.l (.load none)) [(.t 79)], iG 81 74 true (.p (.bin .neq)) [(.t 75), (.t 80)], iG 82 67 false (.p .pick) [(.t 74), (.t 81), (.c (.bool false))], iR 83 (.p .pick) [(.t 67), (.c (.bool true)), (.t 82)]]) (.keep [0, 3, 4, 83] (.cond (.t 83) (.seq (.reg [iR 2 (.p .mv) [(.c (.bool false))]]) (.keep [2] (.keep [2] .ret))) .skip))) (.keep [0, 3, 4] (.seq (.draw [iR 84 (.p .mv) [(.t 3)], iR 85 (.p .mv) [(.t 4)], iR 86 (.p (.slIdx 2)) [(.t 84), (.t 85)], iR 87 (.p (.fieldAddr 0)) [(.t 86)], iR 88 (.l (.load none)) [(.t 87)], iR 89 (.p .mv) [(.t 3)], iR 90 (.p .mv) [(.t 4)], iR 91 (.p (.slIdx 2)) [(.t 89), (.t 90)], iR 92 (.p (.fieldAddr 1)) [(.t 91)],
    iR 93 (.l (.load none)) [(.t 92)], iR 94 (.call 18) [(.t 88), (.t 93)], iR 95 (.p .mv) [(.t 94)], iG 96 95 true (.p .mv) [(.t 3)], iG 97 95 true (.p .mv) [(.t 4)], iG 98 95 true (.p (.slIdx 2)) [(.t 96), (.t 97)], iG 99 95 true (.p (.fieldAddr 0)) [(.t 98)], iG 100 95 true (.l (.load none)) [(.t 99)], iG 101 95 true (.call 25) [(.t 100)], iR 102 (.p .pick) [(.t 95), (.t 101), (.c (.bool false))]]) (.keep [0, 3, 4, 102] (.cond (.t 102) (.seq (.reg [iR 2 (.p .mv) [(.c (.bool false))]]) (.keep [2] (.keep [2] .ret))) .skip)))))))))) (.keep [0, 3, 4] (.reg [iR 15 (.p .mv) [(.t 4)], iR 16 (.p (.bin .add)) [(.t 15), (.c (.int .i64 (.ofNat 1)))], iR 4 (.p .mv) [(.t 16)]])))))))))) (.keep [3] (.seq (.reg [iR 103 (.p .mv) [(.t 3)], iR 104 (.call 34) [(.t 103)], iR 105 (.p .mv) [(.t 3)], iR 106 (.call 24) [(.t 104), (.t 105)], iR 107 (.p .mv) [(.t 106)], iG 108 107 true (.call 11) [],
    iR 109 (.p .pick) [(.t 107), (.t 108), (.c (.bool false))], iR 2 (.p .mv) [(.t 109)]]) (.keep [2] (.keep [2] .ret))))))))))), [(.t 2)]⟩
def s_law5_HeadersSorted_j0 (call : CallK) (N : Nat) (q : KV) (st : St) (τ : Tape) : Ans := match st with
  | ⟨fr, H⟩ => getK fr 3 fun t3 => call f_headers_Sorted [t3] H τ fun v6 H7 τ8 => call f_book_Same_Header [v6, t3] H7 τ8 fun v9 H10 τ11 => gK v9 true (fun q' => call f_law5_known [] H10 τ11 q') H10 τ11 fun v12 H13 τ14 => someK (pPick [v9, v12, (.bool false)]) fun v15 => q v15 H13 τ14
def s_law5_HeadersSorted_l1 (call : CallK) (N : Nat) (st : St) (τ : Tape) (k : KC) : Ans := match st with
  | ⟨fr, H⟩ => getK fr 0 fun t0 => getK fr 3 fun t3 => getK fr 4 fun t4 => someK (pLen [t3]) fun v16 => binK .lss t4 v16 fun v17 => condK v17 (binK .gtr t4 (.int .i64 (.ofNat 0)) fun v18 => gK v18 true (fun q' => q' t3 H τ) H τ fun v19 H20 τ21 => gK v18 true (fun q' => q' t4 H20 τ21) H20 τ21 fun v22 H23 τ24 => gK v18 true (fun q' => someK (pSlIdx 2 [v19, v22]) fun v => q' v H23 τ24) H23 τ24 fun v25 H26 τ27 => gK v18 true (fun q' => someK (pFieldAddr 0 [v25]) fun v => q' v H26 τ27) H26 τ27 fun v28 H29 τ30 => gK v18 true (fun q' => someK (lLoad1 [v28] H29) fun v => q' v H29 τ30) H29 τ30 fun v31 H32 τ33 => gK v18 true (fun q' => q' t3 H32 τ33) H32 τ33 fun v34 H35 τ36 => gK v18 true (fun q' => q' t4 H35 τ36) H35 τ36 fun v37 H38 τ39 => gK v18 true (fun q' => binK .sub v37 (.int .i64 (.ofNat 1)) fun v => q' v H38 τ39) H38 τ39 fun v40 H41 τ42 =>
    gK v18 true (fun q' => someK (pSlIdx 2 [v34, v40]) fun v => q' v H41 τ42) H41 τ42 fun v43 H44 τ45 => gK v18 true (fun q' => someK (pFieldAddr 0 [v43]) fun v => q' v H44 τ45) H44 τ45 fun v46 H47 τ48 => gK v18 true (fun q' => someK (lLoad1 [v46] H47) fun v => q' v H47 τ48) H47 τ48 fun v49 H50 τ51 => gK v18 true (fun q' => binK .lss v31 v49 fun v => q' v H50 τ51) H50 τ51 fun v52 H53 τ54 => gK v18 true (fun q' => q' v52 H53 τ54) H53 τ54 fun v55 H56 τ57 => gK v55 false (fun q' => q' t3 H56 τ57) H56 τ57 fun v58 H59 τ60 => gK v55 false (fun q' => q' t4 H59 τ60) H59 τ60 fun v61 H62 τ63 => gK v55 false (fun q' => someK (pSlIdx 2 [v58, v61]) fun v => q' v H62 τ63) H62 τ63 fun v64 H65 τ66 => gK v55 false (fun q' => someK (pFieldAddr 0 [v64]) fun v => q' v H65 τ66) H65 τ66 fun v67 H68 τ69 => gK v55 false (fun q' => someK (lLoad1 [v67] H68) fun v => q' v H68 τ69) H68 τ69 fun v70 H71 τ72 =>
    gK v55 false (fun q' => q' t3 H71 τ72) H71 τ72 fun v73 H74 τ75 => gK v55 false (fun q' => q' t4 H74 τ75) H74 τ75 fun v76 H77 τ78 => gK v55 false (fun q' => binK .sub v76 (.int .i64 (.ofNat 1)) fun v => q' v H77 τ78) H77 τ78 fun v79 H80 τ81 => gK v55 false (fun q' => someK (pSlIdx 2 [v73, v79]) fun v => q' v H80 τ81) H80 τ81 fun v82 H83 τ84 => gK v55 false (fun q' => someK (pFieldAddr 0 [v82]) fun v => q' v H83 τ84) H83 τ84 fun v85 H86 τ87 => gK v55 false (fun q' => someK (lLoad1 [v85] H86) fun v => q' v H86 τ87) H86 τ87 fun v88 H89 τ90 => gK v55 false (fun q' => binK .eql v70 v88 fun v => q' v H89 τ90) H89 τ90 fun v91 H92 τ93 => gK v55 false (fun q' => q' v91 H92 τ93) H92 τ93 fun v94 H95 τ96 => gK v94 true (fun q' => q' t3 H95 τ96) H95 τ96 fun v97 H98 τ99 => gK v94 true (fun q' => q' t4 H98 τ99) H98 τ99 fun v100 H101 τ102 =>
    gK v94 true (fun q' => someK (pSlIdx 2 [v97, v100]) fun v => q' v H101 τ102) H101 τ102 fun v103 H104 τ105 => gK v94 true (fun q' => someK (pFieldAddr 0 [v103]) fun v => q' v H104 τ105) H104 τ105 fun v106 H107 τ108 => gK v94 true (fun q' => someK (lLoad1 [v106] H107) fun v => q' v H107 τ108) H107 τ108 fun v109 H110 τ111 => gK v94 true (fun q' => binK .neq v109 (.str (bs [115, 101, 116, 45, 99, 111, 111, 107, 105, 101])) fun v => q' v H110 τ111) H110 τ111 fun v112 H113 τ114 => gK v55 false (fun q' => someK (pPick [v94, v112, (.bool false)]) fun v => q' v H113 τ114) H113 τ114 fun v115 H116 τ117 => gK v18 true (fun q' => someK (pPick [v55, (.bool true), v115]) fun v => q' v H116 τ117) H116 τ117 fun v118 H119 τ120 => someK (pPick [v18, v118, (.bool false)]) fun v121 => condK v121 (k .ret ⟨(T.set .leaf 2 (.bool false)), H119⟩ τ120) (someK (pSlIdx 2 [t3, t4]) fun v122 =>
    someK (pFieldAddr 0 [v122]) fun v123 => someK (lLoad1 [v123] H119) fun v124 => call f_headers_Get [t0, v124] H119 τ120 fun v125 H126 τ127 => someK (pExtract 0 [v125]) fun v128 => someK (pExtract 1 [v125]) fun v129 => unK .not v129 fun v130 => gK v130 false (fun q' => q' t3 H126 τ127) H126 τ127 fun v131 H132 τ133 => gK v130 false (fun q' => q' t4 H132 τ133) H132 τ133 fun v134 H135 τ136 => gK v130 false (fun q' => someK (pSlIdx 2 [v131, v134]) fun v => q' v H135 τ136) H135 τ136 fun v137 H138 τ139 => gK v130 false (fun q' => someK (pFieldAddr 0 [v137]) fun v => q' v H138 τ139) H138 τ139 fun v140 H141 τ142 => gK v130 false (fun q' => someK (lLoad1 [v140] H141) fun v => q' v H141 τ142) H141 τ142 fun v143 H144 τ145 => gK v130 false (fun q' => binK .neq v143 (.str (bs [115, 101, 116, 45, 99, 111, 111, 107, 105, 101])) fun v => q' v H144 τ145) H144 τ145 fun v146 H147 τ148 =>
    gK v130 false (fun q' => q' v146 H147 τ148) H147 τ148 fun v149 H150 τ151 => gK v149 true (fun q' => q' v128 H150 τ151) H150 τ151 fun v152 H153 τ154 => gK v149 true (fun q' => q' t3 H153 τ154) H153 τ154 fun v155 H156 τ157 => gK v149 true (fun q' => q' t4 H156 τ157) H156 τ157 fun v158 H159 τ160 => gK v149 true (fun q' => someK (pSlIdx 2 [v155, v158]) fun v => q' v H159 τ160) H159 τ160 fun v161 H162 τ163 => gK v149 true (fun q' => someK (pFieldAddr 1 [v161]) fun v => q' v H162 τ163) H162 τ163 fun v164 H165 τ166 => gK v149 true (fun q' => someK (lLoad1 [v164] H165) fun v => q' v H165 τ166) H165 τ166 fun v167 H168 τ169 => gK v149 true (fun q' => binK .neq v152 v167 fun v => q' v H168 τ169) H168 τ169 fun v170 H171 τ172 => gK v130 false (fun q' => someK (pPick [v149, v170, (.bool false)]) fun v => q' v H171 τ172) H171 τ172 fun v173 H174 τ175 =>
    someK (pPick [v130, (.bool true), v173]) fun v176 => condK v176 (k .ret ⟨(T.set .leaf 2 (.bool false)), H174⟩ τ175) (someK (pSlIdx 2 [t3, t4]) fun v177 => someK (pFieldAddr 0 [v177]) fun v178 => someK (lLoad1 [v178] H174) fun v179 => someK (pSlIdx 2 [t3, t4]) fun v180 => someK (pFieldAddr 1 [v180]) fun v181 => someK (lLoad1 [v181] H174) fun v182 => call f_headers_Safe [v179, v182] H174 τ175 fun v183 H184 τ185 => gK v183 true (fun q' => q' t3 H184 τ185) H184 τ185 fun v186 H187 τ188 => gK v183 true (fun q' => q' t4 H187 τ188) H187 τ188 fun v189 H190 τ191 => gK v183 true (fun q' => someK (pSlIdx 2 [v186, v189]) fun v => q' v H190 τ191) H190 τ191 fun v192 H193 τ194 => gK v183 true (fun q' => someK (pFieldAddr 0 [v192]) fun v => q' v H193 τ194) H193 τ194 fun v195 H196 τ197 => gK v183 true (fun q' => someK (lLoad1 [v195] H196) fun v => q' v H196 τ197) H196 τ197 fun v198 H199 τ200 =>
    gK v183 true (fun q' => call f_headers_Forbidden [v198] H199 τ200 q') H199 τ200 fun v201 H202 τ203 => someK (pPick [v183, v201, (.bool false)]) fun v204 => condK v204 (k .ret ⟨(T.set .leaf 2 (.bool false)), H202⟩ τ203) (binK .add t4 (.int .i64 (.ofNat 1)) fun v205 => k .normal ⟨(T.set (T.set (T.set (T.set (T.set (T.set .leaf 0 t0) 3 t3) 4 t4) 15 t4) 16 v205) 4 v205), H202⟩ τ203)))) (k (.exit 0) ⟨(T.set .leaf 3 t3), H⟩ τ)
def s_law5_HeadersSorted (call : CallK) (N : Nat) (a0 : V) (H : Heap) (τ : Tape) (q : KV) : Ans := call f_keep_FewHeaders [a0, (.int .i64 (.ofNat 20)), (.int .i64 (.ofNat 200))] H τ fun v0 H1 τ2 => call f_headers_Sorted [v0] H1 τ2 fun v3 H4 τ5 => loopK (s_law5_HeadersSorted_l1 call N) N ⟨(T.set (T.set (T.set .leaf 0 v0) 3 v3) 4 (.int .i64 (.ofNat 0))), H4⟩ τ5 (blockK 0 (seqK (s_law5_HeadersSorted_j0 call N q) (endK [(.t 2)] q)))
theorem s_law5_HeadersSorted_eq (call : CallK) (N : Nat) (a0 : V) (H : Heap) (τ : Tape) (q : KV) : s_law5_HeadersSorted call N a0 H τ q = funK call N fn_law5_HeadersSorted [a0] H τ q := by kernel_rfl
def e_law5_HeadersSorted (call : CallK) (N : Nat) (vs : List V) (H : Heap) (τ : Tape) (q : KV) : Ans := match vs with | [a0] => s_law5_HeadersSorted call N a0 H τ q | _ => none
theorem e_law5_HeadersSorted_ok : EntOk fn_law5_HeadersSorted e_law5_HeadersSorted := by
  intro call N vs H τ q r h
  unfold e_law5_HeadersSorted at h
  split at h
  · rw [s_law5_HeadersSorted_eq] at h; exact h
  · cases h
theorem e_law5_HeadersSorted_nat : EntNat e_law5_HeadersSorted := by
  intro c hn N vs H τ q
  unfold e_law5_HeadersSorted
  split
  · rw [s_law5_HeadersSorted_eq, s_law5_HeadersSorted_eq]; exact funK_ent hn _ _ _ _ _ _
  · rfl
/-- ostiary/ostiarylaw5.known -/
def fn_law5_known : Fun := ⟨0, (.seq (.reg [iR 0 (.p .mv) [(.c (.bool false))]]) (.keep [] (.seq (.reg [iR 6 (.call 13) [(.c (.str (bs [65]))), (.c (.str (bs [49])))], iR 7 (.call 13) [(.c (.str (bs [98]))), (.c (.str (bs [50])))], iR 8 (.call 13) [(.c (.str (bs [97]))), (.c (.str (bs [51])))], iR 9 (.e (.buildSlice 3 2 (repl 6 [(.str [])]) [(0, 2), (2, 2), (4, 2)])) [(.t 6), (.t 7), (.t 8)], iR 10 (.call 20) [(.t 9), (.c (.str (bs [97])))], iR 5 (.p .mv) [(.t 10)], iR 11 (.p (.extract 0)) [(.t 5)], iR 12 (.p (.extract 1)) [(.t 5)], iR 1 (.p .mv) [(.t 11)], iR 2 (.p .mv) [(.t 12)]]) (.keep [1, 2] (.seq (.reg [iR 14 (.call 13) [(.c (.str (bs [97]))), (.c (.str (bs [120, 44, 32, 34, 121, 44, 32, 122, 34, 32, 44, 32, 119])))], iR 15 (.e (.buildSlice 1 2 [(.str []), (.str [])] [(0, 2)])) [(.t 14)], iR 16 (.call 12) [(.t 15), (.c (.str (bs [65])))], iR 13 (.p .mv) [(.t 16)],
    iR 17 (.p (.extract 0)) [(.t 13)], iR 18 (.p (.extract 1)) [(.t 13)], iR 3 (.p .mv) [(.t 17)], iR 4 (.p .mv) [(.t 18)]]) (.keep [1, 2, 3, 4] (.seq (.reg [iR 19 (.p .mv) [(.t 2)], iR 20 (.p .mv) [(.t 19)], iG 21 20 true (.p .mv) [(.t 1)], iG 22 20 true (.p (.bin .eql)) [(.t 21), (.c (.str (bs [49, 44, 32, 51])))], iR 23 (.p .pick) [(.t 20), (.t 22), (.c (.bool false))], iR 24 (.p .mv) [(.t 23)], iG 25 24 true (.p .mv) [(.t 4)], iR 26 (.p .pick) [(.t 24), (.t 25), (.c (.bool false))], iR 27 (.p .mv) [(.t 26)], iG 28 27 true (.p .mv) [(.t 3)], iG 29 27 true (.e (.buildSlice 3 1 [(.str []), (.str []), (.str [])] [(0, 1), (1, 1), (2, 1)])) [(.c (.str (bs [120]))), (.c (.str (bs [34, 121, 44, 32, 122, 34]))), (.c (.str (bs [119])))], iG 30 27 true (.call 14) [(.t 28), (.t 29)], iR 31 (.p .pick) [(.t 27), (.t 30), (.c (.bool false))], iR 32 (.p .mv) [(.t 31)],
    iG 33 32 true (.call 18) [(.c (.str (bs [67, 111, 110, 116, 101, 110, 116, 45, 84, 121, 112, 101]))), (.c (.str (bs [116, 101, 120, 116, 47, 112, 108, 97, 105, 110, 59, 113])))], iR 34 (.p .pick) [(.t 32), (.t 33), (.c (.bool false))], iR 0 (.p .mv) [(.t 34)]]) (.keep [0] (.keep [0] .ret))))))))), [(.t 0)]⟩
def s_law5_known (call : CallK) (N : Nat) (H : Heap) (τ : Tape) (q : KV) : Ans := call f_law5_h [(.str (bs [65])), (.str (bs [49]))] H τ fun v0 H1 τ2 => call f_law5_h [(.str (bs [98])), (.str (bs [50]))] H1 τ2 fun v3 H4 τ5 => call f_law5_h [(.str (bs [97])), (.str (bs [51]))] H4 τ5 fun v6 H7 τ8 => effK (eBuildSlice 3 2 (repl 6 [(.str [])]) [(0, 2), (2, 2), (4, 2)] [v0, v3, v6] H7 τ8) fun v9 H10 τ11 => call f_headers_Get [v9, (.str (bs [97]))] H10 τ11 fun v12 H13 τ14 => someK (pExtract 0 [v12]) fun v15 => someK (pExtract 1 [v12]) fun v16 => call f_law5_h [(.str (bs [97])), (.str (bs [120, 44, 32, 34, 121, 44, 32, 122, 34, 32, 44, 32, 119]))] H13 τ14 fun v17 H18 τ19 => effK (eBuildSlice 1 2 [(.str []), (.str [])] [(0, 2)] [v17] H18 τ19) fun v20 H21 τ22 => call f_headers_Split [v20, (.str (bs [65]))] H21 τ22 fun v23 H24 τ25 => someK (pExtract 0 [v23]) fun v26 =>
    someK (pExtract 1 [v23]) fun v27 => gK v16 true (fun q' => q' v15 H24 τ25) H24 τ25 fun v28 H29 τ30 => gK v16 true (fun q' => binK .eql v28 (.str (bs [49, 44, 32, 51])) fun v => q' v H29 τ30) H29 τ30 fun v31 H32 τ33 => someK (pPick [v16, v31, (.bool false)]) fun v34 => gK v34 true (fun q' => q' v27 H32 τ33) H32 τ33 fun v35 H36 τ37 => someK (pPick [v34, v35, (.bool false)]) fun v38 => gK v38 true (fun q' => q' v26 H36 τ37) H36 τ37 fun v39 H40 τ41 => gK v38 true (fun q' => effK (eBuildSlice 3 1 [(.str []), (.str []), (.str [])] [(0, 1), (1, 1), (2, 1)] [(.str (bs [120])), (.str (bs [34, 121, 44, 32, 122, 34])), (.str (bs [119]))] H40 τ41) q') H40 τ41 fun v42 H43 τ44 => gK v38 true (fun q' => call f_book_Same_string [v39, v42] H43 τ44 q') H43 τ44 fun v45 H46 τ47 => someK (pPick [v38, v45, (.bool false)]) fun v48 =>
    gK v48 true (fun q' => call f_headers_Safe [(.str (bs [67, 111, 110, 116, 101, 110, 116, 45, 84, 121, 112, 101])), (.str (bs [116, 101, 120, 116, 47, 112, 108, 97, 105, 110, 59, 113]))] H46 τ47 q') H46 τ47 fun v49 H50 τ51 => someK (pPick [v48, v49, (.bool false)]) fun v52 => q v52 H50 τ51
theorem s_law5_known_eq (call : CallK) (N : Nat) (H : Heap) (τ : Tape) (q : KV) : s_law5_known call N  H τ q = funK call N fn_law5_known [] H τ q := by kernel_rfl
def e_law5_known (call : CallK) (N : Nat) (vs : List V) (H : Heap) (τ : Tape) (q : KV) : Ans := match vs with | [] => s_law5_known call N  H τ q | _ => none
theorem e_law5_known_ok : EntOk fn_law5_known e_law5_known := by
  intro call N vs H τ q r h
  unfold e_law5_known at h
  split at h
  · rw [s_law5_known_eq] at h; exact h
  · cases h
theorem e_law5_known_nat : EntNat e_law5_known := by
  intro c hn N vs H τ q
  unfold e_law5_known
  split
  · rw [s_law5_known_eq, s_law5_known_eq]; exact funK_ent hn _ _ _ _ _ _
  · rfl
/-- ostiary/headers.Split -/
def fn_headers_Split : Fun := ⟨2, (.seq (.reg [iR 4 (.p .mv) [(.c .nils)], iR 5 (.p .mv) [(.c (.bool false))]]) (.keep [0, 1] (.seq (.reg [iR 13 (.p .mv) [(.t 0)], iR 14 (.p .mv) [(.t 1)], iR 15 (.call 20) [(.t 13), (.t 14)], iR 12 (.p .mv) [(.t 15)], iR 16 (.p (.extract 0)) [(.t 12)], iR 17 (.p (.extract 1)) [(.t 12)], iR 6 (.p .mv) [(.t 16)], iR 7 (.p .mv) [(.t 17)]]) (.keep [6, 7] (.seq (.seq (.reg [iR 18 (.p .mv) [(.t 7)], iR 19 (.p (.un .not)) [(.t 18)]]) (.keep [6, 19] (.cond (.t 19) (.seq (.reg [iR 4 (.p .mv) [(.c .nils)], iR 5 (.p .mv) [(.c (.bool false))]]) (.keep [4, 5] (.keep [4, 5] .ret))) .skip))) (.keep [6] (.seq (.reg [iR 8 (.p .mv) [(.c .nils)]]) (.keep [6, 8] (.seq (.reg [iR 9 (.p .mv) [(.c (.bool false))], iR 10 (.p .mv) [(.c (.int .i64 (.ofNat 0)))]]) (.keep [6, 8, 9, 10] (.seq (.seq (.reg [iR 11 (.p .mv) [(.c (.int .i64 (.ofNat 0)))]])
    (.keep [6, 8, 9, 10, 11] (.block 0 (.loop (.keep [6, 8, 9, 10, 11] (.seq (.seq (.reg [iR 20 (.p .mv) [(.t 11)], iR 21 (.p .mv) [(.t 6)], iR 22 (.p .lenS) [(.t 21)], iR 23 (.p (.bin .lss)) [(.t 20), (.t 22)]]) (.keep [6, 8, 9, 10, 11, 23] (.cond (.t 23) .skip (.keep [6, 8, 10] (.exit 0))))) (.keep [6, 8, 9, 10, 11] (.seq (.block 1 (.block 2 (.seq (.reg [iR 27 (.p .mv) [(.t 6)], iR 28 (.p .mv) [(.t 11)], iR 29 (.p .strIndex) [(.t 27), (.t 28)], iR 30 (.p (.bin .eql)) [(.t 29), (.c (.int .u8 (.ofNat 34)))], iR 26 (.p .mv) [(.t 30)]]) (.keep [6, 8, 9, 10, 11, 26] (.cond (.t 26) (.reg [iR 31 (.p .mv) [(.t 9)], iR 32 (.p (.un .not)) [(.t 31)], iR 9 (.p .mv) [(.t 32)]]) (.seq (.reg [iR 34 (.p .mv) [(.t 9)], iR 35 (.p .mv) [(.t 34)], iG 36 35 true (.p .mv) [(.t 6)], iG 37 35 true (.p .mv) [(.t 11)], iG 38 35 true (.p .strIndex) [(.t 36), (.t 37)],
    iG 39 35 true (.p (.bin .eql)) [(.t 38), (.c (.int .u8 (.ofNat 92)))], iR 40 (.p .pick) [(.t 35), (.t 39), (.c (.bool false))], iR 33 (.p .mv) [(.t 40)]]) (.keep [6, 8, 9, 10, 11, 33] (.cond (.t 33) (.reg [iR 41 (.p .mv) [(.t 11)], iR 42 (.p (.bin .add)) [(.t 41), (.c (.int .i64 (.ofNat 1)))], iR 11 (.p .mv) [(.t 42)]]) (.seq (.reg [iR 44 (.p .mv) [(.t 9)], iR 45 (.p (.un .not)) [(.t 44)], iR 46 (.p .mv) [(.t 45)], iG 47 46 true (.p .mv) [(.t 6)], iG 48 46 true (.p .mv) [(.t 11)], iG 49 46 true (.p .strIndex) [(.t 47), (.t 48)], iG 50 46 true (.p (.bin .eql)) [(.t 49), (.c (.int .u8 (.ofNat 44)))], iR 51 (.p .pick) [(.t 46), (.t 50), (.c (.bool false))], iR 43 (.p .mv) [(.t 51)]]) (.keep [6, 8, 9, 10, 11, 43] (.cond (.t 43) (.seq (.reg [iR 52 (.p .mv) [(.t 8)], iR 53 (.p .mv) [(.t 6)], iR 54 (.p .mv) [(.t 10)], iR 55 (.p .mv) [(.t 11)],
    iR 56 (.p (.strSlice true true)) [(.t 53), (.t 54), (.t 55)], iR 57 (.call 35) [(.t 56), (.c (.str (bs [9, 32])))], iR 58 (.e (.buildSlice 1 1 [(.str [])] [(0, 1)])) [(.t 57)], iR 59 (.e (.append 1 16)) [(.t 52), (.t 58)], iR 8 (.p .mv) [(.t 59)]]) (.keep [6, 8, 9, 11] (.reg [iR 60 (.p .mv) [(.t 11)], iR 61 (.p (.bin .add)) [(.t 60), (.c (.int .i64 (.ofNat 1)))], iR 10 (.p .mv) [(.t 61)]]))) .skip))))))))))) (.keep [6, 8, 9, 10, 11] (.reg [iR 24 (.p .mv) [(.t 11)], iR 25 (.p (.bin .add)) [(.t 24), (.c (.int .i64 (.ofNat 1)))], iR 11 (.p .mv) [(.t 25)]])))))))))) (.keep [6, 8, 10] (.seq (.reg [iR 62 (.p .mv) [(.t 8)], iR 63 (.p .mv) [(.t 6)], iR 64 (.p .mv) [(.t 10)], iR 65 (.p (.strSlice true false)) [(.t 63), (.t 64)], iR 66 (.call 35) [(.t 65), (.c (.str (bs [9, 32])))], iR 67 (.e (.buildSlice 1 1 [(.str [])] [(0, 1)])) [(.t 66)], iR 68 (.e (.append 1 16)) [(.t 62), (.t 67)],
    iR 4 (.p .mv) [(.t 68)], iR 5 (.p .mv) [(.c (.bool true))]]) (.keep [4, 5] (.keep [4, 5] .ret))))))))))))))), [(.t 4), (.t 5)]⟩
def s_headers_Split_j0 (call : CallK) (N : Nat) (q : KV) (st : St) (τ : Tape) : Ans := match st with
  | ⟨fr, H⟩ => getK fr 6 fun t6 => getK fr 8 fun t8 => getK fr 10 fun t10 => someK (pStrSlice true false [t6, t10]) fun v6 => call f_strings_Trim [v6, (.str (bs [9, 32]))] H τ fun v7 H8 τ9 => effK (eBuildSlice 1 1 [(.str [])] [(0, 1)] [v7] H8 τ9) fun v10 H11 τ12 => effK (eAppend 1 16 [t8, v10] H11 τ12) fun v13 H14 τ15 => q (.tup [v13, (.bool true)]) H14 τ15
def s_headers_Split_j2 (call : CallK) (N : Nat) (k : KC) (st : St) (τ : Tape) : Ans := match st with
  | ⟨fr, H⟩ => getK fr 6 fun t6 => getK fr 8 fun t8 => getK fr 9 fun t9 => getK fr 10 fun t10 => getK fr 11 fun t11 => binK .add t11 (.int .i64 (.ofNat 1)) fun v18 => k .normal ⟨(T.set (T.set (T.set (T.set (T.set (T.set (T.set (T.set .leaf 6 t6) 8 t8) 9 t9) 10 t10) 11 t11) 24 t11) 25 v18) 11 v18), H⟩ τ
def s_headers_Split_l1 (call : CallK) (N : Nat) (st : St) (τ : Tape) (k : KC) : Ans := match st with
  | ⟨fr, H⟩ => getK fr 6 fun t6 => getK fr 8 fun t8 => getK fr 9 fun t9 => getK fr 10 fun t10 => getK fr 11 fun t11 => someK (pLenS [t6]) fun v16 => binK .lss t11 v16 fun v17 => condK v17 (someK (pStrIndex [t6, t11]) fun v19 => binK .eql v19 (.int .u8 (.ofNat 34)) fun v20 => condK v20 (unK .not t9 fun v21 => s_headers_Split_j2 call N k ⟨(T.set (T.set (T.set (T.set (T.set (T.set (T.set (T.set (T.set .leaf 6 t6) 8 t8) 9 t9) 10 t10) 11 t11) 26 v20) 31 t9) 32 v21) 9 v21), H⟩ τ) (gK t9 true (fun q' => q' t6 H τ) H τ fun v22 H23 τ24 => gK t9 true (fun q' => q' t11 H23 τ24) H23 τ24 fun v25 H26 τ27 => gK t9 true (fun q' => someK (pStrIndex [v22, v25]) fun v => q' v H26 τ27) H26 τ27 fun v28 H29 τ30 => gK t9 true (fun q' => binK .eql v28 (.int .u8 (.ofNat 92)) fun v => q' v H29 τ30) H29 τ30 fun v31 H32 τ33 => someK (pPick [t9, v31, (.bool false)]) fun v34 => condK v34
    (binK .add t11 (.int .i64 (.ofNat 1)) fun v35 => s_headers_Split_j2 call N k ⟨(T.set (T.set (T.set (T.set (T.set (T.set (T.set (T.set (T.set .leaf 6 t6) 8 t8) 9 t9) 10 t10) 11 t11) 33 v34) 41 t11) 42 v35) 11 v35), H32⟩ τ33) (unK .not t9 fun v36 => gK v36 true (fun q' => q' t6 H32 τ33) H32 τ33 fun v37 H38 τ39 => gK v36 true (fun q' => q' t11 H38 τ39) H38 τ39 fun v40 H41 τ42 => gK v36 true (fun q' => someK (pStrIndex [v37, v40]) fun v => q' v H41 τ42) H41 τ42 fun v43 H44 τ45 => gK v36 true (fun q' => binK .eql v43 (.int .u8 (.ofNat 44)) fun v => q' v H44 τ45) H44 τ45 fun v46 H47 τ48 => someK (pPick [v36, v46, (.bool false)]) fun v49 => condK v49 (someK (pStrSlice true true [t6, t10, t11]) fun v50 => call f_strings_Trim [v50, (.str (bs [9, 32]))] H47 τ48 fun v51 H52 τ53 => effK (eBuildSlice 1 1 [(.str [])] [(0, 1)] [v51] H52 τ53) fun v54 H55 τ56 =>
    effK (eAppend 1 16 [t8, v54] H55 τ56) fun v57 H58 τ59 => binK .add t11 (.int .i64 (.ofNat 1)) fun v60 => s_headers_Split_j2 call N k ⟨(T.set (T.set (T.set (T.set (T.set (T.set (T.set .leaf 6 t6) 8 v57) 9 t9) 11 t11) 60 t11) 61 v60) 10 v60), H58⟩ τ59) (s_headers_Split_j2 call N k ⟨(T.set (T.set (T.set (T.set (T.set (T.set .leaf 6 t6) 8 t8) 9 t9) 10 t10) 11 t11) 43 v49), H47⟩ τ48)))) (k (.exit 0) ⟨(T.set (T.set (T.set .leaf 6 t6) 8 t8) 10 t10), H⟩ τ)
def s_headers_Split (call : CallK) (N : Nat) (a0 a1 : V) (H : Heap) (τ : Tape) (q : KV) : Ans := call f_headers_Get [a0, a1] H τ fun v0 H1 τ2 => someK (pExtract 0 [v0]) fun v3 => someK (pExtract 1 [v0]) fun v4 => unK .not v4 fun v5 => condK v5 (q (.tup [.nils, (.bool false)]) H1 τ2) (loopK (s_headers_Split_l1 call N) N ⟨(T.set (T.set (T.set (T.set (T.set .leaf 6 v3) 8 .nils) 9 (.bool false)) 10 (.int .i64 (.ofNat 0))) 11 (.int .i64 (.ofNat 0))), H1⟩ τ2 (blockK 0 (seqK (s_headers_Split_j0 call N q) (endK [(.t 4), (.t 5)] q))))
theorem s_headers_Split_eq (call : CallK) (N : Nat) (a0 a1 : V) (H : Heap) (τ : Tape) (q : KV) : s_headers_Split call N a0 a1 H τ q = funK call N fn_headers_Split [a0, a1] H τ q := by kernel_rfl
def e_headers_Split (call : CallK) (N : Nat) (vs : List V) (H : Heap) (τ : Tape) (q : KV) : Ans := match vs with | [a0, a1] => s_headers_Split call N a0 a1 H τ q | _ => none
theorem e_headers_Split_ok : EntOk fn_headers_Split e_headers_Split := by
  intro call N vs H τ q r h
  unfold e_headers_Split at h
  split at h
  · rw [s_headers_Split_eq] at h; exact h
  · cases h
theorem e_headers_Split_nat : EntNat e_headers_Split := by
  intro c hn N vs H τ q
  unfold e_headers_Split
  split
  · rw [s_headers_Split_eq, s_headers_Split_eq]; exact funK_ent hn _ _ _ _ _ _
  · rfl
/-- ostiary/ostiarylaw5.h -/
def fn_law5_h : Fun := ⟨2, (.seq (.reg [iR 4 (.e (.alloc [(.str []), (.str [])])) []]) (.keep [0, 1, 4] (.seq (.reg [iR 5 (.p .mv) [(.t 0)], iR 6 (.p .mv) [(.t 1)], iR 7 (.p (.build [(.str []), (.str [])] [(0, 1), (1, 1)])) [(.t 5), (.t 6)], ⟨none, none, (.e (.store 2)), [(.t 4), (.t 7)], none⟩]) (.keep [4] (.keep [4] .ret))))), [(.cell 4 (some 2))]⟩
def s_law5_h (call : CallK) (N : Nat) (a0 a1 : V) (H : Heap) (τ : Tape) (q : KV) : Ans := effK (eAlloc [(.str []), (.str [])] [] H τ) fun v0 H1 τ2 => someK (pBuild [(.str []), (.str [])] [(0, 1), (1, 1)] [a0, a1]) fun v3 => effK (eStore 2 [v0, v3] H1 τ2) fun v4 H5 τ6 => someK (results ⟨(T.set .leaf 4 v0), H5⟩ [(.cell 4 (some 2))]) fun v => q v H5 τ6
theorem s_law5_h_eq (call : CallK) (N : Nat) (a0 a1 : V) (H : Heap) (τ : Tape) (q : KV) : s_law5_h call N a0 a1 H τ q = funK call N fn_law5_h [a0, a1] H τ q := by kernel_rfl
def e_law5_h (call : CallK) (N : Nat) (vs : List V) (H : Heap) (τ : Tape) (q : KV) : Ans := match vs with | [a0, a1] => s_law5_h call N a0 a1 H τ q | _ => none
theorem e_law5_h_ok : EntOk fn_law5_h e_law5_h := by
  intro call N vs H τ q r h
  unfold e_law5_h at h
  split at h
  · rw [s_law5_h_eq] at h; exact h
  · cases h
theorem e_law5_h_nat : EntNat e_law5_h := by
  intro c hn N vs H τ q
  unfold e_law5_h
  split
  · rw [s_law5_h_eq, s_law5_h_eq]; exact funK_ent hn _ _ _ _ _ _
  · rfl
/-- ostiary/ostiarybook.Same[string] -/
def fn_book_Same_string : Fun := ⟨2, (.seq (.reg [iR 4 (.p .mv) [(.c (.bool false))]]) (.keep [0, 1] (.seq (.seq (.reg [iR 6 (.p .mv) [(.t 0)], iR 7 (.p .len) [(.t 6)], iR 8 (.p .mv) [(.t 1)], iR 9 (.p .len) [(.t 8)], iR 10 (.p (.bin .neq)) [(.t 7), (.t 9)]]) (.keep [0, 1, 10] (.cond (.t 10) (.seq (.reg [iR 4 (.p .mv) [(.c (.bool false))]]) (.keep [4] (.keep [4] .ret))) .skip))) (.keep [0, 1] (.seq (.seq (.reg [iR 5 (.p .mv) [(.c (.int .i64 (.ofNat 0)))]]) (.keep [0, 1, 5] (.block 0 (.loop (.keep [0, 1, 5] (.seq (.seq (.reg [iR 11 (.p .mv) [(.t 5)], iR 12 (.p .mv) [(.t 0)], iR 13 (.p .len) [(.t 12)], iR 14 (.p (.bin .lss)) [(.t 11), (.t 13)]]) (.keep [0, 1, 5, 14] (.cond (.t 14) .skip (.keep [] (.exit 0))))) (.keep [0, 1, 5] (.seq (.block 1 (.seq (.draw [iR 17 (.p .mv) [(.t 0)], iR 18 (.p .mv) [(.t 5)], iR 19 (.p (.slIdx 1)) [(.t 17), (.t 18)], iR 20 (.l (.load none)) [(.t 19)],
    iR 21 (.p .mv) [(.t 1)], iR 22 (.p .mv) [(.t 5)], iR 23 (.p (.slIdx 1)) [(.t 21), (.t 22)], iR 24 (.l (.load none)) [(.t 23)], iR 25 (.p (.bin .neq)) [(.t 20), (.t 24)]]) (.keep [0, 1, 5, 25] (.cond (.t 25) (.seq (.reg [iR 4 (.p .mv) [(.c (.bool false))]]) (.keep [4] (.keep [4] .ret))) .skip)))) (.keep [0, 1, 5] (.reg [iR 15 (.p .mv) [(.t 5)], iR 16 (.p (.bin .add)) [(.t 15), (.c (.int .i64 (.ofNat 1)))], iR 5 (.p .mv) [(.t 16)]])))))))))) (.keep [] (.seq (.reg [iR 4 (.p .mv) [(.c (.bool true))]]) (.keep [4] (.keep [4] .ret))))))))), [(.t 4)]⟩
def s_book_Same_string_j0 (call : CallK) (N : Nat) (q : KV) (st : St) (τ : Tape) : Ans := match st with
  | ⟨fr, H⟩ => q (.bool true) H τ
def s_book_Same_string_l1 (call : CallK) (N : Nat) (st : St) (τ : Tape) (k : KC) : Ans := match st with
  | ⟨fr, H⟩ => getK fr 0 fun t0 => getK fr 1 fun t1 => getK fr 5 fun t5 => someK (pLen [t0]) fun v3 => binK .lss t5 v3 fun v4 => condK v4 (someK (pSlIdx 1 [t0, t5]) fun v5 => someK (lLoad1 [v5] H) fun v6 => someK (pSlIdx 1 [t1, t5]) fun v7 => someK (lLoad1 [v7] H) fun v8 => binK .neq v6 v8 fun v9 => condK v9 (k .ret ⟨(T.set .leaf 4 (.bool false)), H⟩ τ) (binK .add t5 (.int .i64 (.ofNat 1)) fun v10 => k .normal ⟨(T.set (T.set (T.set (T.set (T.set (T.set .leaf 0 t0) 1 t1) 5 t5) 15 t5) 16 v10) 5 v10), H⟩ τ)) (k (.exit 0) ⟨.leaf, H⟩ τ)
def s_book_Same_string (call : CallK) (N : Nat) (a0 a1 : V) (H : Heap) (τ : Tape) (q : KV) : Ans := someK (pLen [a0]) fun v0 => someK (pLen [a1]) fun v1 => binK .neq v0 v1 fun v2 => condK v2 (q (.bool false) H τ) (loopK (s_book_Same_string_l1 call N) N ⟨(T.set (T.set (T.set .leaf 0 a0) 1 a1) 5 (.int .i64 (.ofNat 0))), H⟩ τ (blockK 0 (seqK (s_book_Same_string_j0 call N q) (endK [(.t 4)] q))))
theorem s_book_Same_string_eq (call : CallK) (N : Nat) (a0 a1 : V) (H : Heap) (τ : Tape) (q : KV) : s_book_Same_string call N a0 a1 H τ q = funK call N fn_book_Same_string [a0, a1] H τ q := by kernel_rfl
def e_book_Same_string (call : CallK) (N : Nat) (vs : List V) (H : Heap) (τ : Tape) (q : KV) : Ans := match vs with | [a0, a1] => s_book_Same_string call N a0 a1 H τ q | _ => none
theorem e_book_Same_string_ok : EntOk fn_book_Same_string e_book_Same_string := by
  intro call N vs H τ q r h
  unfold e_book_Same_string at h
  split at h
  · rw [s_book_Same_string_eq] at h; exact h
  · cases h
theorem e_book_Same_string_nat : EntNat e_book_Same_string := by
  intro c hn N vs H τ q
  unfold e_book_Same_string
  split
  · rw [s_book_Same_string_eq, s_book_Same_string_eq]; exact funK_ent hn _ _ _ _ _ _
  · rfl
/-- ostiary/headers.Range -/
def fn_headers_Range : Fun := ⟨1, (.seq (.reg [iR 2 (.p .mv) [(.c (.int .i64 (.ofNat 0)))], iR 3 (.p .mv) [(.c (.int .i64 (.ofNat 0)))], iR 4 (.p .mv) [(.c (.bool false))]]) (.keep [0] (.seq (.reg [iR 15 (.p .mv) [(.t 0)], iR 16 (.call 36) [(.t 15), (.c (.str (bs [98, 121, 116, 101, 115, 61])))], iR 14 (.p .mv) [(.t 16)], iR 17 (.p (.extract 0)) [(.t 14)], iR 18 (.p (.extract 1)) [(.t 14)], iR 5 (.p .mv) [(.t 17)], iR 6 (.p .mv) [(.t 18)]]) (.keep [5, 6] (.seq (.reg [iR 20 (.p .mv) [(.t 5)], iR 21 (.call 37) [(.t 20), (.c (.str (bs [45])))], iR 19 (.p .mv) [(.t 21)], iR 22 (.p (.extract 0)) [(.t 19)], iR 23 (.p (.extract 1)) [(.t 19)], iR 24 (.p (.extract 2)) [(.t 19)], iR 7 (.p .mv) [(.t 22)], iR 8 (.p .mv) [(.t 23)], iR 9 (.p .mv) [(.t 24)]]) (.keep [6, 7, 8, 9] (.seq (.reg [iR 26 (.p .mv) [(.t 7)], iR 27 (.call 38) [(.t 26)], iR 25 (.p .mv) [(.t 27)],
    iR 28 (.p (.extract 0)) [(.t 25)], iR 29 (.p (.extract 1)) [(.t 25)], iR 10 (.p .mv) [(.t 28)], iR 11 (.p .mv) [(.t 29)]]) (.keep [6, 8, 9, 10, 11] (.seq (.reg [iR 31 (.p .mv) [(.t 8)], iR 32 (.call 38) [(.t 31)], iR 30 (.p .mv) [(.t 32)], iR 33 (.p (.extract 0)) [(.t 30)], iR 34 (.p (.extract 1)) [(.t 30)], iR 12 (.p .mv) [(.t 33)], iR 13 (.p .mv) [(.t 34)]]) (.keep [6, 9, 10, 11, 12, 13] (.seq (.seq (.reg [iR 35 (.p .mv) [(.t 6)], iR 36 (.p (.un .not)) [(.t 35)], iR 37 (.p .mv) [(.t 36)], iG 38 37 false (.p .mv) [(.t 9)], iG 39 37 false (.p (.un .not)) [(.t 38)], iR 40 (.p .pick) [(.t 37), (.c (.bool true)), (.t 39)], iR 41 (.p .mv) [(.t 40)], iG 42 41 false (.p .mv) [(.t 11)], iG 43 41 false (.p (.un .not)) [(.t 42)], iR 44 (.p .pick) [(.t 41), (.c (.bool true)), (.t 43)], iR 45 (.p .mv) [(.t 44)], iG 46 45 false (.p .mv) [(.t 13)], iG 47 45 false (.p (.un .not)) [(.t 46)],
    iR 48 (.p .pick) [(.t 45), (.c (.bool true)), (.t 47)], iR 49 (.p .mv) [(.t 48)], iG 50 49 false (.p .mv) [(.t 10)], iG 51 49 false (.p (.bin .lss)) [(.t 50), (.c (.int .i64 (.ofNat 0)))], iG 52 49 false (.p .mv) [(.t 51)], iG 53 52 true (.p .mv) [(.t 12)], iG 54 52 true (.p (.bin .lss)) [(.t 53), (.c (.int .i64 (.ofNat 0)))], iG 55 49 false (.p .pick) [(.t 52), (.t 54), (.c (.bool false))], iR 56 (.p .pick) [(.t 49), (.c (.bool true)), (.t 55)], iR 57 (.p .mv) [(.t 56)], iG 58 57 false (.p .mv) [(.t 10)], iG 59 57 false (.p (.bin .geq)) [(.t 58), (.c (.int .i64 (.ofNat 0)))], iG 60 57 false (.p .mv) [(.t 59)], iG 61 60 true (.p .mv) [(.t 12)], iG 62 60 true (.p (.bin .geq)) [(.t 61), (.c (.int .i64 (.ofNat 0)))], iG 63 57 false (.p .pick) [(.t 60), (.t 62), (.c (.bool false))], iG 64 57 false (.p .mv) [(.t 63)], iG 65 64 true (.p .mv) [(.t 10)], iG 66 64 true (.p .mv) [(.t 12)],
    iG 67 64 true (.p (.bin .gtr)) [(.t 65), (.t 66)], iG 68 57 false (.p .pick) [(.t 64), (.t 67), (.c (.bool false))], iR 69 (.p .pick) [(.t 57), (.c (.bool true)), (.t 68)]]) (.keep [10, 12, 69] (.cond (.t 69) (.seq (.reg [iR 2 (.p .mv) [(.c (.int .i64 (.ofNat 0)))], iR 3 (.p .mv) [(.c (.int .i64 (.ofNat 0)))], iR 4 (.p .mv) [(.c (.bool false))]]) (.keep [2, 3, 4] (.keep [2, 3, 4] .ret))) .skip))) (.keep [10, 12] (.seq (.reg [iR 70 (.p .mv) [(.t 10)], iR 71 (.p .mv) [(.t 12)], iR 2 (.p .mv) [(.t 70)], iR 3 (.p .mv) [(.t 71)], iR 4 (.p .mv) [(.c (.bool true))]]) (.keep [2, 3, 4] (.keep [2, 3, 4] .ret))))))))))))))), [(.t 2), (.t 3), (.t 4)]⟩
def s_headers_Range (call : CallK) (N : Nat) (a0 : V) (H : Heap) (τ : Tape) (q : KV) : Ans := call f_strings_CutPrefix [a0, (.str (bs [98, 121, 116, 101, 115, 61]))] H τ fun v0 H1 τ2 => someK (pExtract 0 [v0]) fun v3 => someK (pExtract 1 [v0]) fun v4 => call f_strings_Cut [v3, (.str (bs [45]))] H1 τ2 fun v5 H6 τ7 => someK (pExtract 0 [v5]) fun v8 => someK (pExtract 1 [v5]) fun v9 => someK (pExtract 2 [v5]) fun v10 => call f_headers_told [v8] H6 τ7 fun v11 H12 τ13 => someK (pExtract 0 [v11]) fun v14 => someK (pExtract 1 [v11]) fun v15 => call f_headers_told [v9] H12 τ13 fun v16 H17 τ18 => someK (pExtract 0 [v16]) fun v19 => someK (pExtract 1 [v16]) fun v20 => unK .not v4 fun v21 => gK v21 false (fun q' => q' v10 H17 τ18) H17 τ18 fun v22 H23 τ24 => gK v21 false (fun q' => unK .not v22 fun v => q' v H23 τ24) H23 τ24 fun v25 H26 τ27 => someK (pPick [v21, (.bool true), v25]) fun v28 =>
    gK v28 false (fun q' => q' v15 H26 τ27) H26 τ27 fun v29 H30 τ31 => gK v28 false (fun q' => unK .not v29 fun v => q' v H30 τ31) H30 τ31 fun v32 H33 τ34 => someK (pPick [v28, (.bool true), v32]) fun v35 => gK v35 false (fun q' => q' v20 H33 τ34) H33 τ34 fun v36 H37 τ38 => gK v35 false (fun q' => unK .not v36 fun v => q' v H37 τ38) H37 τ38 fun v39 H40 τ41 => someK (pPick [v35, (.bool true), v39]) fun v42 => gK v42 false (fun q' => q' v14 H40 τ41) H40 τ41 fun v43 H44 τ45 => gK v42 false (fun q' => binK .lss v43 (.int .i64 (.ofNat 0)) fun v => q' v H44 τ45) H44 τ45 fun v46 H47 τ48 => gK v42 false (fun q' => q' v46 H47 τ48) H47 τ48 fun v49 H50 τ51 => gK v49 true (fun q' => q' v19 H50 τ51) H50 τ51 fun v52 H53 τ54 => gK v49 true (fun q' => binK .lss v52 (.int .i64 (.ofNat 0)) fun v => q' v H53 τ54) H53 τ54 fun v55 H56 τ57 =>
    gK v42 false (fun q' => someK (pPick [v49, v55, (.bool false)]) fun v => q' v H56 τ57) H56 τ57 fun v58 H59 τ60 => someK (pPick [v42, (.bool true), v58]) fun v61 => gK v61 false (fun q' => q' v14 H59 τ60) H59 τ60 fun v62 H63 τ64 => gK v61 false (fun q' => binK .geq v62 (.int .i64 (.ofNat 0)) fun v => q' v H63 τ64) H63 τ64 fun v65 H66 τ67 => gK v61 false (fun q' => q' v65 H66 τ67) H66 τ67 fun v68 H69 τ70 => gK v68 true (fun q' => q' v19 H69 τ70) H69 τ70 fun v71 H72 τ73 => gK v68 true (fun q' => binK .geq v71 (.int .i64 (.ofNat 0)) fun v => q' v H72 τ73) H72 τ73 fun v74 H75 τ76 => gK v61 false (fun q' => someK (pPick [v68, v74, (.bool false)]) fun v => q' v H75 τ76) H75 τ76 fun v77 H78 τ79 => gK v61 false (fun q' => q' v77 H78 τ79) H78 τ79 fun v80 H81 τ82 => gK v80 true (fun q' => q' v14 H81 τ82) H81 τ82 fun v83 H84 τ85 =>
    gK v80 true (fun q' => q' v19 H84 τ85) H84 τ85 fun v86 H87 τ88 => gK v80 true (fun q' => binK .gtr v83 v86 fun v => q' v H87 τ88) H87 τ88 fun v89 H90 τ91 => gK v61 false (fun q' => someK (pPick [v80, v89, (.bool false)]) fun v => q' v H90 τ91) H90 τ91 fun v92 H93 τ94 => someK (pPick [v61, (.bool true), v92]) fun v95 => condK v95 (q (.tup [(.int .i64 (.ofNat 0)), (.int .i64 (.ofNat 0)), (.bool false)]) H93 τ94) (q (.tup [v14, v19, (.bool true)]) H93 τ94)
theorem s_headers_Range_eq (call : CallK) (N : Nat) (a0 : V) (H : Heap) (τ : Tape) (q : KV) : s_headers_Range call N a0 H τ q = funK call N fn_headers_Range [a0] H τ q := by kernel_rfl
def e_headers_Range (call : CallK) (N : Nat) (vs : List V) (H : Heap) (τ : Tape) (q : KV) : Ans := match vs with | [a0] => s_headers_Range call N a0 H τ q | _ => none
theorem e_headers_Range_ok : EntOk fn_headers_Range e_headers_Range := by
  intro call N vs H τ q r h
  unfold e_headers_Range at h
  split at h
  · rw [s_headers_Range_eq] at h; exact h
  · cases h
theorem e_headers_Range_nat : EntNat e_headers_Range := by
  intro c hn N vs H τ q
  unfold e_headers_Range
  split
  · rw [s_headers_Range_eq, s_headers_Range_eq]; exact funK_ent hn _ _ _ _ _ _
  · rfl
/-- ostiary/headers.Safe -/
def fn_headers_Safe : Fun := ⟨2, (.seq (.reg [iR 4 (.p .mv) [(.c (.bool false))]]) (.keep [0, 1] (.seq (.seq (.reg [iR 11 (.p .mv) [(.t 1)], iR 12 (.p .lenS) [(.t 11)], iR 13 (.p (.bin .gtr)) [(.t 12), (.c (.int .i64 (.ofNat 128)))]]) (.keep [0, 1, 13] (.cond (.t 13) (.seq (.reg [iR 4 (.p .mv) [(.c (.bool false))]]) (.keep [4] (.keep [4] .ret))) .skip))) (.keep [0, 1] (.seq (.seq (.reg [iR 14 (.p .mv) [(.t 0)], iR 15 (.call 39) [(.t 14)]]) (.keep [1, 15] (.block 0 (.seq (.reg [iR 17 (.p (.bin .eql)) [(.t 15), (.c (.str (bs [97, 99, 99, 101, 112, 116])))], iR 16 (.p .mv) [(.t 17)]]) (.keep [1, 15, 16] (.cond (.t 16) (.seq (.reg [iR 18 (.p .mv) [(.t 1)], iR 19 (.call 40) [(.t 18)], iR 20 (.p (.un .not)) [(.t 19)], iR 4 (.p .mv) [(.t 20)]]) (.keep [4] (.keep [4] .ret)))
    (.seq (.seq (.reg [iR 22 (.p (.bin .eql)) [(.t 15), (.c (.str (bs [97, 99, 99, 101, 112, 116, 45, 108, 97, 110, 103, 117, 97, 103, 101])))], iR 21 (.p .mv) [(.t 22)]]) (.keep [1, 15, 21] (.cond (.t 21) .skip (.reg [iR 23 (.p (.bin .eql)) [(.t 15), (.c (.str (bs [99, 111, 110, 116, 101, 110, 116, 45, 108, 97, 110, 103, 117, 97, 103, 101])))], iR 21 (.p .mv) [(.t 23)]])))) (.keep [1, 15, 21] (.cond (.t 21) (.seq (.reg [iR 24 (.p .mv) [(.t 1)], iR 25 (.call 41) [(.t 24)], iR 4 (.p .mv) [(.t 25)]]) (.keep [4] (.keep [4] .ret))) (.seq (.reg [iR 27 (.p (.bin .eql)) [(.t 15), (.c (.str (bs [99, 111, 110, 116, 101, 110, 116, 45, 116, 121, 112, 101])))], iR 26 (.p .mv) [(.t 27)]]) (.keep [1, 15, 26] (.cond (.t 26) (.seq (.reg [iR 29 (.p .mv) [(.t 1)], iR 30 (.call 37) [(.t 29), (.c (.str (bs [59])))], iR 28 (.p .mv) [(.t 30)], iR 31 (.p (.extract 0)) [(.t 28)],
    iR 32 (.p (.extract 1)) [(.t 28)], iR 33 (.p (.extract 2)) [(.t 28)], iR 5 (.p .mv) [(.t 31)], iR 6 (.p .mv) [(.t 32)], iR 7 (.p .mv) [(.t 33)]]) (.keep [1, 5] (.seq (.reg [iR 34 (.p .mv) [(.t 5)], iR 35 (.call 42) [(.t 34)], iR 36 (.call 39) [(.t 35)]]) (.keep [1, 36] (.block 1 (.seq (.seq (.reg [iR 38 (.p (.bin .eql)) [(.t 36), (.c (.str (bs [97, 112, 112, 108, 105, 99, 97, 116, 105, 111, 110, 47, 120, 45, 119, 119, 119, 45, 102, 111, 114, 109, 45, 117, 114, 108, 101, 110, 99, 111, 100, 101, 100])))], iR 37 (.p .mv) [(.t 38)]]) (.keep [1, 36, 37] (.cond (.t 37) .skip (.seq (.reg [iR 39 (.p (.bin .eql)) [(.t 36), (.c (.str (bs [109, 117, 108, 116, 105, 112, 97, 114, 116, 47, 102, 111, 114, 109, 45, 100, 97, 116, 97])))], iR 37 (.p .mv) [(.t 39)]]) (.keep [1, 36, 37] (.cond (.t 37) .skip
    (.reg [iR 40 (.p (.bin .eql)) [(.t 36), (.c (.str (bs [116, 101, 120, 116, 47, 112, 108, 97, 105, 110])))], iR 37 (.p .mv) [(.t 40)]]))))))) (.keep [1, 37] (.cond (.t 37) (.seq (.reg [iR 41 (.p .mv) [(.t 1)], iR 42 (.call 40) [(.t 41)], iR 43 (.p (.un .not)) [(.t 42)], iR 4 (.p .mv) [(.t 43)]]) (.keep [4] (.keep [4] .ret))) .skip)))))))) (.seq (.reg [iR 45 (.p (.bin .eql)) [(.t 15), (.c (.str (bs [114, 97, 110, 103, 101])))], iR 44 (.p .mv) [(.t 45)]]) (.keep [1, 44] (.cond (.t 44) (.seq (.reg [iR 47 (.p .mv) [(.t 1)], iR 48 (.call 17) [(.t 47)], iR 46 (.p .mv) [(.t 48)], iR 49 (.p (.extract 0)) [(.t 46)], iR 50 (.p (.extract 1)) [(.t 46)], iR 51 (.p (.extract 2)) [(.t 46)], iR 8 (.p .mv) [(.t 49)], iR 9 (.p .mv) [(.t 50)], iR 10 (.p .mv) [(.t 51)]]) (.keep [8, 10] (.seq (.reg [iR 52 (.p .mv) [(.t 10)], iR 53 (.p .mv) [(.t 52)], iG 54 53 true (.p .mv) [(.t 8)],
    iG 55 53 true (.p (.bin .geq)) [(.t 54), (.c (.int .i64 (.ofNat 0)))], iR 56 (.p .pick) [(.t 53), (.t 55), (.c (.bool false))], iR 4 (.p .mv) [(.t 56)]]) (.keep [4] (.keep [4] .ret))))) .skip))))))))))))))) (.keep [] (.seq (.reg [iR 4 (.p .mv) [(.c (.bool false))]]) (.keep [4] (.keep [4] .ret))))))))), [(.t 4)]⟩
def s_headers_Safe_j0 (call : CallK) (N : Nat) (q : KV) (st : St) (τ : Tape) : Ans := match st with
  | ⟨fr, H⟩ => q (.bool false) H τ
def s_headers_Safe_j2 (call : CallK) (N : Nat) (q : KV) (st : St) (τ : Tape) : Ans := match st with
  | ⟨fr, H⟩ => getK fr 1 fun t1 => getK fr 37 fun t37 => condK t37 (call f_headers_unsafe [t1] H τ fun v28 H29 τ30 => unK .not v28 fun v31 => q v31 H29 τ30) (s_headers_Safe_j0 call N q ⟨(T.set (T.set .leaf 1 t1) 37 t37), H⟩ τ)
def s_headers_Safe_j1 (call : CallK) (N : Nat) (q : KV) (st : St) (τ : Tape) : Ans := match st with
  | ⟨fr, H⟩ => getK fr 1 fun t1 => getK fr 15 fun t15 => getK fr 21 fun t21 => condK t21 (call f_headers_tongues [t1] H τ fun v11 H12 τ13 => q v11 H12 τ13) (binK .eql t15 (.str (bs [99, 111, 110, 116, 101, 110, 116, 45, 116, 121, 112, 101])) fun v14 => condK v14 (call f_strings_Cut [t1, (.str (bs [59]))] H τ fun v15 H16 τ17 => someK (pExtract 0 [v15]) fun v18 => someK (pExtract 1 [v15]) fun v19 => someK (pExtract 2 [v15]) fun v20 => call f_infra_Strip [v18] H16 τ17 fun v21 H22 τ23 => call f_infra_Lower [v21] H22 τ23 fun v24 H25 τ26 => binK .eql v24 (.str (bs [97, 112, 112, 108, 105, 99, 97, 116, 105, 111, 110, 47, 120, 45, 119, 119, 119, 45, 102, 111, 114, 109, 45, 117, 114, 108, 101, 110, 99, 111, 100, 101, 100])) fun v27 => condK v27 (s_headers_Safe_j2 call N q ⟨(T.set (T.set (T.set .leaf 1 t1) 36 v24) 37 v27), H25⟩ τ26)
    (binK .eql v24 (.str (bs [109, 117, 108, 116, 105, 112, 97, 114, 116, 47, 102, 111, 114, 109, 45, 100, 97, 116, 97])) fun v32 => condK v32 (s_headers_Safe_j2 call N q ⟨(T.set (T.set (T.set .leaf 1 t1) 36 v24) 37 v32), H25⟩ τ26) (binK .eql v24 (.str (bs [116, 101, 120, 116, 47, 112, 108, 97, 105, 110])) fun v33 => s_headers_Safe_j2 call N q ⟨(T.set (T.set (T.set (T.set (T.set .leaf 1 t1) 36 v24) 37 v32) 40 v33) 37 v33), H25⟩ τ26))) (binK .eql t15 (.str (bs [114, 97, 110, 103, 101])) fun v34 => condK v34 (call f_headers_Range [t1] H τ fun v35 H36 τ37 => someK (pExtract 0 [v35]) fun v38 => someK (pExtract 1 [v35]) fun v39 => someK (pExtract 2 [v35]) fun v40 => gK v40 true (fun q' => q' v38 H36 τ37) H36 τ37 fun v41 H42 τ43 => gK v40 true (fun q' => binK .geq v41 (.int .i64 (.ofNat 0)) fun v => q' v H42 τ43) H42 τ43 fun v44 H45 τ46 => someK (pPick [v40, v44, (.bool false)]) fun v47 =>
    q v47 H45 τ46) (s_headers_Safe_j0 call N q ⟨(T.set (T.set .leaf 1 t1) 44 v34), H⟩ τ)))
def s_headers_Safe (call : CallK) (N : Nat) (a0 a1 : V) (H : Heap) (τ : Tape) (q : KV) : Ans := someK (pLenS [a1]) fun v0 => binK .gtr v0 (.int .i64 (.ofNat 128)) fun v1 => condK v1 (q (.bool false) H τ) (call f_infra_Lower [a0] H τ fun v2 H3 τ4 => binK .eql v2 (.str (bs [97, 99, 99, 101, 112, 116])) fun v5 => condK v5 (call f_headers_unsafe [a1] H3 τ4 fun v6 H7 τ8 => unK .not v6 fun v9 => q v9 H7 τ8) (binK .eql v2 (.str (bs [97, 99, 99, 101, 112, 116, 45, 108, 97, 110, 103, 117, 97, 103, 101])) fun v10 => condK v10 (s_headers_Safe_j1 call N q ⟨(T.set (T.set (T.set .leaf 1 a1) 15 v2) 21 v10), H3⟩ τ4) (binK .eql v2 (.str (bs [99, 111, 110, 116, 101, 110, 116, 45, 108, 97, 110, 103, 117, 97, 103, 101])) fun v48 => s_headers_Safe_j1 call N q ⟨(T.set (T.set (T.set (T.set (T.set .leaf 1 a1) 15 v2) 21 v10) 23 v48) 21 v48), H3⟩ τ4)))
theorem s_headers_Safe_eq (call : CallK) (N : Nat) (a0 a1 : V) (H : Heap) (τ : Tape) (q : KV) : s_headers_Safe call N a0 a1 H τ q = funK call N fn_headers_Safe [a0, a1] H τ q := by kernel_rfl
def e_headers_Safe (call : CallK) (N : Nat) (vs : List V) (H : Heap) (τ : Tape) (q : KV) : Ans := match vs with | [a0, a1] => s_headers_Safe call N a0 a1 H τ q | _ => none
theorem e_headers_Safe_ok : EntOk fn_headers_Safe e_headers_Safe := by
  intro call N vs H τ q r h
  unfold e_headers_Safe at h
  split at h
  · rw [s_headers_Safe_eq] at h; exact h
  · cases h
theorem e_headers_Safe_nat : EntNat e_headers_Safe := by
  intro c hn N vs H τ q
  unfold e_headers_Safe
  split
  · rw [s_headers_Safe_eq, s_headers_Safe_eq]; exact funK_ent hn _ _ _ _ _ _
  · rfl
/-- ostiary/headers.Get -/
def fn_headers_Get : Fun := ⟨2, (.seq (.reg [iR 4 (.p .mv) [(.c (.str []))], iR 5 (.p .mv) [(.c (.bool false))]]) (.keep [0, 1] (.seq (.reg [iR 6 (.p .mv) [(.c .nils)]]) (.keep [0, 1, 6] (.seq (.seq (.reg [iR 9 (.p .mv) [(.t 0)], iR 10 (.p .len) [(.t 9)], iR 11 (.p .mv) [(.c (.int .i64 (.ofNat 0)))]]) (.keep [1, 6, 9, 10, 11] (.block 0 (.loop (.keep [1, 6, 9, 10, 11] (.seq (.reg [iR 12 (.p (.bin .lss)) [(.t 11), (.t 10)]]) (.keep [1, 6, 9, 10, 11, 12] (.seq (.cond (.t 12) .skip (.keep [6] (.exit 0))) (.keep [1, 6, 9, 10, 11] (.seq (.block 1 (.seq (.reg [iR 13 (.p (.slIdx 2)) [(.t 9), (.t 11)], iR 14 (.l (.load (some 2))) [(.t 13)], iR 8 (.e (.alloc [(.str []), (.str [])])) [], ⟨none, none, (.e (.store 2)), [(.t 8), (.t 14)], none⟩]) (.keep [1, 6, 8, 9, 10, 11] (.seq (.reg [iR 15 (.l (.load (some 2))) [(.t 8)], iR 16 (.p .mv) [(.t 1)], iR 17 (.call 45) [(.t 15), (.t 16)]])
    (.keep [1, 6, 8, 9, 10, 11, 17] (.cond (.t 17) (.reg [iR 18 (.p .mv) [(.t 6)], iR 19 (.p (.fieldAddr 1)) [(.t 8)], iR 20 (.l (.load none)) [(.t 19)], iR 21 (.e (.buildSlice 1 1 [(.str [])] [(0, 1)])) [(.t 20)], iR 22 (.e (.append 1 16)) [(.t 18), (.t 21)], iR 6 (.p .mv) [(.t 22)]]) .skip)))))) (.keep [1, 6, 9, 10, 11] (.reg [iR 23 (.p (.bin .add)) [(.t 11), (.c (.int .i64 (.ofNat 1)))], iR 11 (.p .mv) [(.t 23)]])))))))))))) (.keep [6] (.seq (.reg [iR 24 (.p .mv) [(.t 6)], iR 25 (.call 46) [(.t 24), (.c (.str (bs [44, 32])))], iR 26 (.p .mv) [(.t 6)], iR 27 (.p .len) [(.t 26)], iR 28 (.p (.bin .gtr)) [(.t 27), (.c (.int .i64 (.ofNat 0)))], iR 4 (.p .mv) [(.t 25)], iR 5 (.p .mv) [(.t 28)]]) (.keep [4, 5] (.keep [4, 5] .ret))))))))), [(.t 4), (.t 5)]⟩
def s_headers_Get_j0 (call : CallK) (N : Nat) (q : KV) (st : St) (τ : Tape) : Ans := match st with
  | ⟨fr, H⟩ => getK fr 6 fun t6 => call f_strings_Join [t6, (.str (bs [44, 32]))] H τ fun v1 H2 τ3 => someK (pLen [t6]) fun v4 => binK .gtr v4 (.int .i64 (.ofNat 0)) fun v5 => q (.tup [v1, v5]) H2 τ3
def s_headers_Get_j2 (call : CallK) (N : Nat) (k : KC) (st : St) (τ : Tape) : Ans := match st with
  | ⟨fr, H⟩ => getK fr 1 fun t1 => getK fr 6 fun t6 => getK fr 9 fun t9 => getK fr 10 fun t10 => getK fr 11 fun t11 => binK .add t11 (.int .i64 (.ofNat 1)) fun v7 => k .normal ⟨(T.set (T.set (T.set (T.set (T.set (T.set (T.set .leaf 1 t1) 6 t6) 9 t9) 10 t10) 11 t11) 23 v7) 11 v7), H⟩ τ
def s_headers_Get_l1 (call : CallK) (N : Nat) (st : St) (τ : Tape) (k : KC) : Ans := match st with
  | ⟨fr, H⟩ => getK fr 1 fun t1 => getK fr 6 fun t6 => getK fr 9 fun t9 => getK fr 10 fun t10 => getK fr 11 fun t11 => binK .lss t11 t10 fun v6 => condK v6 (someK (pSlIdx 2 [t9, t11]) fun v8 => someK (lLoadN 2 [v8] H) fun v9 => effK (eAlloc [(.str []), (.str [])] [] H τ) fun v10 H11 τ12 => effK (eStore 2 [v10, v9] H11 τ12) fun v13 H14 τ15 => someK (lLoadN 2 [v10] H14) fun v16 => call f_headers_is [v16, t1] H14 τ15 fun v17 H18 τ19 => condK v17 (someK (pFieldAddr 1 [v10]) fun v20 => someK (lLoad1 [v20] H18) fun v21 => effK (eBuildSlice 1 1 [(.str [])] [(0, 1)] [v21] H18 τ19) fun v22 H23 τ24 => effK (eAppend 1 16 [t6, v22] H23 τ24) fun v25 H26 τ27 => s_headers_Get_j2 call N k ⟨(T.set (T.set (T.set (T.set (T.set (T.set (T.set (T.set (T.set (T.set (T.set (T.set (T.set .leaf 1 t1) 6 t6) 8 v10) 9 t9) 10 t10) 11 t11) 17 v17) 18 t6) 19 v20) 20 v21) 21 v22) 22 v25) 6 v25), H26⟩ τ27)
    (s_headers_Get_j2 call N k ⟨(T.set (T.set (T.set (T.set (T.set (T.set (T.set .leaf 1 t1) 6 t6) 8 v10) 9 t9) 10 t10) 11 t11) 17 v17), H18⟩ τ19)) (k (.exit 0) ⟨(T.set .leaf 6 t6), H⟩ τ)
def s_headers_Get (call : CallK) (N : Nat) (a0 a1 : V) (H : Heap) (τ : Tape) (q : KV) : Ans := someK (pLen [a0]) fun v0 => loopK (s_headers_Get_l1 call N) N ⟨(T.set (T.set (T.set (T.set (T.set .leaf 1 a1) 6 .nils) 9 a0) 10 v0) 11 (.int .i64 (.ofNat 0))), H⟩ τ (blockK 0 (seqK (s_headers_Get_j0 call N q) (endK [(.t 4), (.t 5)] q)))
theorem s_headers_Get_eq (call : CallK) (N : Nat) (a0 a1 : V) (H : Heap) (τ : Tape) (q : KV) : s_headers_Get call N a0 a1 H τ q = funK call N fn_headers_Get [a0, a1] H τ q := by kernel_rfl
def e_headers_Get (call : CallK) (N : Nat) (vs : List V) (H : Heap) (τ : Tape) (q : KV) : Ans := match vs with | [a0, a1] => s_headers_Get call N a0 a1 H τ q | _ => none
theorem e_headers_Get_ok : EntOk fn_headers_Get e_headers_Get := by
  intro call N vs H τ q r h
  unfold e_headers_Get at h
  split at h
  · rw [s_headers_Get_eq] at h; exact h
  · cases h
theorem e_headers_Get_nat : EntNat e_headers_Get := by
  intro c hn N vs H τ q
  unfold e_headers_Get
  split
  · rw [s_headers_Get_eq, s_headers_Get_eq]; exact funK_ent hn _ _ _ _ _ _
  · rfl
/-- ostiary/ostiarybook.Same[ostiary/api.Header] -/
def fn_book_Same_Header : Fun := ⟨2, (.seq (.reg [iR 4 (.p .mv) [(.c (.bool false))]]) (.keep [0, 1] (.seq (.seq (.reg [iR 6 (.p .mv) [(.t 0)], iR 7 (.p .len) [(.t 6)], iR 8 (.p .mv) [(.t 1)], iR 9 (.p .len) [(.t 8)], iR 10 (.p (.bin .neq)) [(.t 7), (.t 9)]]) (.keep [0, 1, 10] (.cond (.t 10) (.seq (.reg [iR 4 (.p .mv) [(.c (.bool false))]]) (.keep [4] (.keep [4] .ret))) .skip))) (.keep [0, 1] (.seq (.seq (.reg [iR 5 (.p .mv) [(.c (.int .i64 (.ofNat 0)))]]) (.keep [0, 1, 5] (.block 0 (.loop (.keep [0, 1, 5] (.seq (.seq (.reg [iR 11 (.p .mv) [(.t 5)], iR 12 (.p .mv) [(.t 0)], iR 13 (.p .len) [(.t 12)], iR 14 (.p (.bin .lss)) [(.t 11), (.t 13)]]) (.keep [0, 1, 5, 14] (.cond (.t 14) .skip (.keep [] (.exit 0))))) (.keep [0, 1, 5] (.seq (.block 1 (.seq (.draw [iR 17 (.p .mv) [(.t 0)], iR 18 (.p .mv) [(.t 5)], iR 19 (.p (.slIdx 2)) [(.t 17), (.t 18)],
    iR 20 (.l (.load (some 2))) [(.t 19)], iR 21 (.p .mv) [(.t 1)], iR 22 (.p .mv) [(.t 5)], iR 23 (.p (.slIdx 2)) [(.t 21), (.t 22)], iR 24 (.l (.load (some 2))) [(.t 23)], iR 25 (.p (.eq true (.flat [.str, .str]))) [(.t 20), (.t 24)]]) (.keep [0, 1, 5, 25] (.cond (.t 25) (.seq (.reg [iR 4 (.p .mv) [(.c (.bool false))]]) (.keep [4] (.keep [4] .ret))) .skip)))) (.keep [0, 1, 5] (.reg [iR 15 (.p .mv) [(.t 5)], iR 16 (.p (.bin .add)) [(.t 15), (.c (.int .i64 (.ofNat 1)))], iR 5 (.p .mv) [(.t 16)]])))))))))) (.keep [] (.seq (.reg [iR 4 (.p .mv) [(.c (.bool true))]]) (.keep [4] (.keep [4] .ret))))))))), [(.t 4)]⟩
def s_book_Same_Header_j0 (call : CallK) (N : Nat) (q : KV) (st : St) (τ : Tape) : Ans := match st with
  | ⟨fr, H⟩ => q (.bool true) H τ
def s_book_Same_Header_l1 (call : CallK) (N : Nat) (st : St) (τ : Tape) (k : KC) : Ans := match st with
  | ⟨fr, H⟩ => getK fr 0 fun t0 => getK fr 1 fun t1 => getK fr 5 fun t5 => someK (pLen [t0]) fun v3 => binK .lss t5 v3 fun v4 => condK v4 (someK (pSlIdx 2 [t0, t5]) fun v5 => someK (lLoadN 2 [v5] H) fun v6 => someK (pSlIdx 2 [t1, t5]) fun v7 => someK (lLoadN 2 [v7] H) fun v8 => someK (pEq true (.flat [.str, .str]) [v6, v8]) fun v9 => condK v9 (k .ret ⟨(T.set .leaf 4 (.bool false)), H⟩ τ) (binK .add t5 (.int .i64 (.ofNat 1)) fun v10 => k .normal ⟨(T.set (T.set (T.set (T.set (T.set (T.set .leaf 0 t0) 1 t1) 5 t5) 15 t5) 16 v10) 5 v10), H⟩ τ)) (k (.exit 0) ⟨.leaf, H⟩ τ)
def s_book_Same_Header (call : CallK) (N : Nat) (a0 a1 : V) (H : Heap) (τ : Tape) (q : KV) : Ans := someK (pLen [a0]) fun v0 => someK (pLen [a1]) fun v1 => binK .neq v0 v1 fun v2 => condK v2 (q (.bool false) H τ) (loopK (s_book_Same_Header_l1 call N) N ⟨(T.set (T.set (T.set .leaf 0 a0) 1 a1) 5 (.int .i64 (.ofNat 0))), H⟩ τ (blockK 0 (seqK (s_book_Same_Header_j0 call N q) (endK [(.t 4)] q))))
theorem s_book_Same_Header_eq (call : CallK) (N : Nat) (a0 a1 : V) (H : Heap) (τ : Tape) (q : KV) : s_book_Same_Header call N a0 a1 H τ q = funK call N fn_book_Same_Header [a0, a1] H τ q := by kernel_rfl
def e_book_Same_Header (call : CallK) (N : Nat) (vs : List V) (H : Heap) (τ : Tape) (q : KV) : Ans := match vs with | [a0, a1] => s_book_Same_Header call N a0 a1 H τ q | _ => none
theorem e_book_Same_Header_ok : EntOk fn_book_Same_Header e_book_Same_Header := by
  intro call N vs H τ q r h
  unfold e_book_Same_Header at h
  split at h
  · rw [s_book_Same_Header_eq] at h; exact h
  · cases h
theorem e_book_Same_Header_nat : EntNat e_book_Same_Header := by
  intro c hn N vs H τ q
  unfold e_book_Same_Header
  split
  · rw [s_book_Same_Header_eq, s_book_Same_Header_eq]; exact funK_ent hn _ _ _ _ _ _
  · rfl
/-- ostiary/headers.Forbidden -/
def fn_headers_Forbidden : Fun := ⟨1, (.seq (.reg [iR 2 (.p .mv) [(.c (.bool false))]]) (.keep [0] (.seq (.reg [iR 3 (.p .mv) [(.t 0)], iR 4 (.call 39) [(.t 3)], iR 0 (.p .mv) [(.t 4)]]) (.keep [0] (.seq (.seq (.reg [iR 5 (.p .mv) [(.t 0)]]) (.keep [0, 5] (.block 0 (.seq (.seq (.reg [iR 7 (.p (.bin .eql)) [(.t 5), (.c (.str (bs [104, 111, 115, 116])))], iR 6 (.p .mv) [(.t 7)]]) (.keep [0, 5, 6] (.cond (.t 6) .skip (.seq (.reg [iR 8 (.p (.bin .eql)) [(.t 5), (.c (.str (bs [99, 111, 111, 107, 105, 101])))], iR 6 (.p .mv) [(.t 8)]]) (.keep [0, 5, 6] (.cond (.t 6) .skip (.seq (.reg [iR 9 (.p (.bin .eql)) [(.t 5), (.c (.str (bs [111, 114, 105, 103, 105, 110])))], iR 6 (.p .mv) [(.t 9)]]) (.keep [0, 5, 6] (.cond (.t 6) .skip (.seq (.reg [iR 10 (.p (.bin .eql)) [(.t 5), (.c (.str (bs [114, 101, 102, 101, 114, 101, 114])))], iR 6 (.p .mv) [(.t 10)]]) (.keep [0, 5, 6] (.cond (.t 6) .skip
    (.seq (.reg [iR 11 (.p (.bin .eql)) [(.t 5), (.c (.str (bs [99, 111, 110, 116, 101, 110, 116, 45, 108, 101, 110, 103, 116, 104])))], iR 6 (.p .mv) [(.t 11)]]) (.keep [0, 5, 6] (.cond (.t 6) .skip (.seq (.reg [iR 12 (.p (.bin .eql)) [(.t 5), (.c (.str (bs [99, 111, 110, 110, 101, 99, 116, 105, 111, 110])))], iR 6 (.p .mv) [(.t 12)]]) (.keep [0, 5, 6] (.cond (.t 6) .skip (.seq (.reg [iR 13 (.p (.bin .eql)) [(.t 5), (.c (.str (bs [100, 97, 116, 101])))], iR 6 (.p .mv) [(.t 13)]]) (.keep [0, 5, 6] (.cond (.t 6) .skip (.seq (.reg [iR 14 (.p (.bin .eql)) [(.t 5), (.c (.str (bs [118, 105, 97])))], iR 6 (.p .mv) [(.t 14)]]) (.keep [0, 5, 6] (.cond (.t 6) .skip (.seq (.reg [iR 15 (.p (.bin .eql)) [(.t 5), (.c (.str (bs [116, 101])))], iR 6 (.p .mv) [(.t 15)]]) (.keep [0, 5, 6] (.cond (.t 6) .skip
    (.seq (.reg [iR 16 (.p (.bin .eql)) [(.t 5), (.c (.str (bs [117, 112, 103, 114, 97, 100, 101])))], iR 6 (.p .mv) [(.t 16)]]) (.keep [0, 5, 6] (.cond (.t 6) .skip (.seq (.reg [iR 17 (.p (.bin .eql)) [(.t 5), (.c (.str (bs [101, 120, 112, 101, 99, 116])))], iR 6 (.p .mv) [(.t 17)]]) (.keep [0, 5, 6] (.cond (.t 6) .skip (.seq (.reg [iR 18 (.p (.bin .eql)) [(.t 5), (.c (.str (bs [100, 110, 116])))], iR 6 (.p .mv) [(.t 18)]]) (.keep [0, 5, 6] (.cond (.t 6) .skip (.seq (.reg [iR 19 (.p (.bin .eql)) [(.t 5), (.c (.str (bs [97, 99, 99, 101, 112, 116, 45, 99, 104, 97, 114, 115, 101, 116])))], iR 6 (.p .mv) [(.t 19)]]) (.keep [0, 5, 6] (.cond (.t 6) .skip (.seq (.reg [iR 20 (.p (.bin .eql)) [(.t 5), (.c (.str (bs [97, 99, 99, 101, 112, 116, 45, 101, 110, 99, 111, 100, 105, 110, 103])))], iR 6 (.p .mv) [(.t 20)]]) (.keep [0, 5, 6] (.cond (.t 6) .skip
    (.seq (.reg [iR 21 (.p (.bin .eql)) [(.t 5), (.c (.str (bs [97, 99, 99, 101, 115, 115, 45, 99, 111, 110, 116, 114, 111, 108, 45, 114, 101, 113, 117, 101, 115, 116, 45, 104, 101, 97, 100, 101, 114, 115])))], iR 6 (.p .mv) [(.t 21)]]) (.keep [0, 5, 6] (.cond (.t 6) .skip (.seq (.reg [iR 22 (.p (.bin .eql)) [(.t 5), (.c (.str (bs [97, 99, 99, 101, 115, 115, 45, 99, 111, 110, 116, 114, 111, 108, 45, 114, 101, 113, 117, 101, 115, 116, 45, 109, 101, 116, 104, 111, 100])))], iR 6 (.p .mv) [(.t 22)]]) (.keep [0, 5, 6] (.cond (.t 6) .skip (.seq (.reg [iR 23 (.p (.bin .eql)) [(.t 5), (.c (.str (bs [107, 101, 101, 112, 45, 97, 108, 105, 118, 101])))], iR 6 (.p .mv) [(.t 23)]]) (.keep [0, 5, 6] (.cond (.t 6) .skip (.seq (.reg [iR 24 (.p (.bin .eql)) [(.t 5), (.c (.str (bs [116, 114, 97, 105, 108, 101, 114])))], iR 6 (.p .mv) [(.t 24)]]) (.keep [0, 5, 6] (.cond (.t 6) .skip
    (.reg [iR 25 (.p (.bin .eql)) [(.t 5), (.c (.str (bs [116, 114, 97, 110, 115, 102, 101, 114, 45, 101, 110, 99, 111, 100, 105, 110, 103])))], iR 6 (.p .mv) [(.t 25)]]))))))))))))))))))))))))))))))))))))))))))))))))))))))) (.keep [0, 6] (.cond (.t 6) (.seq (.reg [iR 2 (.p .mv) [(.c (.bool true))]]) (.keep [2] (.keep [2] .ret))) .skip)))))) (.keep [0] (.seq (.reg [iR 26 (.p .mv) [(.t 0)], iR 27 (.call 51) [(.t 26), (.c (.str (bs [112, 114, 111, 120, 121, 45])))], iR 28 (.p .mv) [(.t 27)], iG 29 28 false (.p .mv) [(.t 0)], iG 30 28 false (.call 51) [(.t 29), (.c (.str (bs [115, 101, 99, 45])))], iR 31 (.p .pick) [(.t 28), (.c (.bool true)), (.t 30)], iR 2 (.p .mv) [(.t 31)]]) (.keep [2] (.keep [2] .ret))))))))), [(.t 2)]⟩
def s_headers_Forbidden_j0 (call : CallK) (N : Nat) (q : KV) (st : St) (τ : Tape) : Ans := match st with
  | ⟨fr, H⟩ => getK fr 0 fun t0 => call f_strings_HasPrefix [t0, (.str (bs [112, 114, 111, 120, 121, 45]))] H τ fun v4 H5 τ6 => gK v4 false (fun q' => q' t0 H5 τ6) H5 τ6 fun v7 H8 τ9 => gK v4 false (fun q' => call f_strings_HasPrefix [v7, (.str (bs [115, 101, 99, 45]))] H8 τ9 q') H8 τ9 fun v10 H11 τ12 => someK (pPick [v4, (.bool true), v10]) fun v13 => q v13 H11 τ12
def s_headers_Forbidden_j1 (call : CallK) (N : Nat) (q : KV) (st : St) (τ : Tape) : Ans := match st with
  | ⟨fr, H⟩ => getK fr 0 fun t0 => getK fr 6 fun t6 => condK t6 (q (.bool true) H τ) (s_headers_Forbidden_j0 call N q ⟨(T.set (T.set .leaf 0 t0) 6 t6), H⟩ τ)
def s_headers_Forbidden (call : CallK) (N : Nat) (a0 : V) (H : Heap) (τ : Tape) (q : KV) : Ans := call f_infra_Lower [a0] H τ fun v0 H1 τ2 => binK .eql v0 (.str (bs [104, 111, 115, 116])) fun v3 => condK v3 (s_headers_Forbidden_j1 call N q ⟨(T.set (T.set (T.set .leaf 0 v0) 5 v0) 6 v3), H1⟩ τ2) (binK .eql v0 (.str (bs [99, 111, 111, 107, 105, 101])) fun v14 => condK v14 (s_headers_Forbidden_j1 call N q ⟨(T.set (T.set (T.set .leaf 0 v0) 5 v0) 6 v14), H1⟩ τ2) (binK .eql v0 (.str (bs [111, 114, 105, 103, 105, 110])) fun v15 => condK v15 (s_headers_Forbidden_j1 call N q ⟨(T.set (T.set (T.set .leaf 0 v0) 5 v0) 6 v15), H1⟩ τ2) (binK .eql v0 (.str (bs [114, 101, 102, 101, 114, 101, 114])) fun v16 => condK v16 (s_headers_Forbidden_j1 call N q ⟨(T.set (T.set (T.set .leaf 0 v0) 5 v0) 6 v16), H1⟩ τ2)
    (binK .eql v0 (.str (bs [99, 111, 110, 116, 101, 110, 116, 45, 108, 101, 110, 103, 116, 104])) fun v17 => condK v17 (s_headers_Forbidden_j1 call N q ⟨(T.set (T.set (T.set .leaf 0 v0) 5 v0) 6 v17), H1⟩ τ2) (binK .eql v0 (.str (bs [99, 111, 110, 110, 101, 99, 116, 105, 111, 110])) fun v18 => condK v18 (s_headers_Forbidden_j1 call N q ⟨(T.set (T.set (T.set .leaf 0 v0) 5 v0) 6 v18), H1⟩ τ2) (binK .eql v0 (.str (bs [100, 97, 116, 101])) fun v19 => condK v19 (s_headers_Forbidden_j1 call N q ⟨(T.set (T.set (T.set .leaf 0 v0) 5 v0) 6 v19), H1⟩ τ2) (binK .eql v0 (.str (bs [118, 105, 97])) fun v20 => condK v20 (s_headers_Forbidden_j1 call N q ⟨(T.set (T.set (T.set .leaf 0 v0) 5 v0) 6 v20), H1⟩ τ2) (binK .eql v0 (.str (bs [116, 101])) fun v21 => condK v21 (s_headers_Forbidden_j1 call N q ⟨(T.set (T.set (T.set .leaf 0 v0) 5 v0) 6 v21), H1⟩ τ2)
    (binK .eql v0 (.str (bs [117, 112, 103, 114, 97, 100, 101])) fun v22 => condK v22 (s_headers_Forbidden_j1 call N q ⟨(T.set (T.set (T.set .leaf 0 v0) 5 v0) 6 v22), H1⟩ τ2) (binK .eql v0 (.str (bs [101, 120, 112, 101, 99, 116])) fun v23 => condK v23 (s_headers_Forbidden_j1 call N q ⟨(T.set (T.set (T.set .leaf 0 v0) 5 v0) 6 v23), H1⟩ τ2) (binK .eql v0 (.str (bs [100, 110, 116])) fun v24 => condK v24 (s_headers_Forbidden_j1 call N q ⟨(T.set (T.set (T.set .leaf 0 v0) 5 v0) 6 v24), H1⟩ τ2) (binK .eql v0 (.str (bs [97, 99, 99, 101, 112, 116, 45, 99, 104, 97, 114, 115, 101, 116])) fun v25 => condK v25 (s_headers_Forbidden_j1 call N q ⟨(T.set (T.set (T.set .leaf 0 v0) 5 v0) 6 v25), H1⟩ τ2) (binK .eql v0 (.str (bs [97, 99, 99, 101, 112, 116, 45, 101, 110, 99, 111, 100, 105, 110, 103])) fun v26 => condK v26
    (s_headers_Forbidden_j1 call N q ⟨(T.set (T.set (T.set .leaf 0 v0) 5 v0) 6 v26), H1⟩ τ2) (binK .eql v0 (.str (bs [97, 99, 99, 101, 115, 115, 45, 99, 111, 110, 116, 114, 111, 108, 45, 114, 101, 113, 117, 101, 115, 116, 45, 104, 101, 97, 100, 101, 114, 115])) fun v27 => condK v27 (s_headers_Forbidden_j1 call N q ⟨(T.set (T.set (T.set .leaf 0 v0) 5 v0) 6 v27), H1⟩ τ2) (binK .eql v0 (.str (bs [97, 99, 99, 101, 115, 115, 45, 99, 111, 110, 116, 114, 111, 108, 45, 114, 101, 113, 117, 101, 115, 116, 45, 109, 101, 116, 104, 111, 100])) fun v28 => condK v28 (s_headers_Forbidden_j1 call N q ⟨(T.set (T.set (T.set .leaf 0 v0) 5 v0) 6 v28), H1⟩ τ2) (binK .eql v0 (.str (bs [107, 101, 101, 112, 45, 97, 108, 105, 118, 101])) fun v29 => condK v29 (s_headers_Forbidden_j1 call N q ⟨(T.set (T.set (T.set .leaf 0 v0) 5 v0) 6 v29), H1⟩ τ2)
    (binK .eql v0 (.str (bs [116, 114, 97, 105, 108, 101, 114])) fun v30 => condK v30 (s_headers_Forbidden_j1 call N q ⟨(T.set (T.set (T.set .leaf 0 v0) 5 v0) 6 v30), H1⟩ τ2) (binK .eql v0 (.str (bs [116, 114, 97, 110, 115, 102, 101, 114, 45, 101, 110, 99, 111, 100, 105, 110, 103])) fun v31 => s_headers_Forbidden_j1 call N q ⟨(T.set (T.set (T.set (T.set (T.set .leaf 0 v0) 5 v0) 6 v30) 25 v31) 6 v31), H1⟩ τ2))))))))))))))))))
theorem s_headers_Forbidden_eq (call : CallK) (N : Nat) (a0 : V) (H : Heap) (τ : Tape) (q : KV) : s_headers_Forbidden call N a0 H τ q = funK call N fn_headers_Forbidden [a0] H τ q := by kernel_rfl
def e_headers_Forbidden (call : CallK) (N : Nat) (vs : List V) (H : Heap) (τ : Tape) (q : KV) : Ans := match vs with | [a0] => s_headers_Forbidden call N a0 H τ q | _ => none
theorem e_headers_Forbidden_ok : EntOk fn_headers_Forbidden e_headers_Forbidden := by
  intro call N vs H τ q r h
  unfold e_headers_Forbidden at h
  split at h
  · rw [s_headers_Forbidden_eq] at h; exact h
  · cases h
theorem e_headers_Forbidden_nat : EntNat e_headers_Forbidden := by
  intro c hn N vs H τ q
  unfold e_headers_Forbidden
  split
  · rw [s_headers_Forbidden_eq, s_headers_Forbidden_eq]; exact funK_ent hn _ _ _ _ _ _
  · rfl
/-- ostiary/ostiarykeep.FewHeaders -/
def fn_keep_FewHeaders : Fun := ⟨3, (.seq (.reg [iR 6 (.p .mv) [(.c .nils)]]) (.keep [0, 1, 2] (.seq (.reg [iR 7 (.p .mv) [(.c .nils)]]) (.keep [0, 1, 2, 7] (.seq (.seq (.reg [iR 8 (.p .mv) [(.c (.int .i64 (.ofNat 0)))]]) (.keep [0, 1, 2, 7, 8] (.block 0 (.loop (.keep [0, 1, 2, 7, 8] (.seq (.seq (.reg [iR 9 (.p .mv) [(.t 8)], iR 10 (.p .mv) [(.t 0)], iR 11 (.p .len) [(.t 10)], iR 12 (.p (.bin .lss)) [(.t 9), (.t 11)], iR 13 (.p .mv) [(.t 12)], iG 14 13 true (.p .mv) [(.t 8)], iG 15 13 true (.p .mv) [(.t 1)], iG 16 13 true (.p (.bin .lss)) [(.t 14), (.t 15)], iR 17 (.p .pick) [(.t 13), (.t 16), (.c (.bool false))]]) (.keep [0, 1, 2, 7, 8, 17] (.cond (.t 17) .skip (.keep [7] (.exit 0))))) (.keep [0, 1, 2, 7, 8] (.seq (.block 1 (.draw [iR 20 (.p .mv) [(.t 7)], iR 21 (.p .mv) [(.t 0)], iR 22 (.p .mv) [(.t 8)], iR 23 (.p (.slIdx 2)) [(.t 21), (.t 22)],
    iR 24 (.p (.fieldAddr 0)) [(.t 23)], iR 25 (.l (.load none)) [(.t 24)], iR 26 (.p .mv) [(.t 2)], iR 27 (.call 53) [(.t 25), (.t 26)], iR 28 (.p .mv) [(.t 0)], iR 29 (.p .mv) [(.t 8)], iR 30 (.p (.slIdx 2)) [(.t 28), (.t 29)], iR 31 (.p (.fieldAddr 1)) [(.t 30)], ⟨(some 32), none, (.l (.load none)), [(.t 31)], some (0, 1)⟩, iR 33 (.p .mv) [(.t 2)], iR 34 (.call 53) [(.t 32), (.t 33)], iR 35 (.p (.build [(.str []), (.str [])] [(0, 1), (1, 1)])) [(.t 27), (.t 34)], iR 36 (.e (.buildSlice 1 2 [(.str []), (.str [])] [(0, 2)])) [(.t 35)], iR 37 (.e (.append 2 32)) [(.t 20), (.t 36)], iR 7 (.p .mv) [(.t 37)]])) (.keep [0, 1, 2, 7, 8] (.reg [iR 18 (.p .mv) [(.t 8)], iR 19 (.p (.bin .add)) [(.t 18), (.c (.int .i64 (.ofNat 1)))], iR 8 (.p .mv) [(.t 19)]])))))))))) (.keep [7] (.seq (.reg [iR 38 (.p .mv) [(.t 7)], iR 6 (.p .mv) [(.t 38)]]) (.keep [6] (.keep [6] .ret))))))))), [(.t 6)]⟩
def s_keep_FewHeaders_j0 (call : CallK) (N : Nat) (q : KV) (st : St) (τ : Tape) : Ans := match st with
  | ⟨fr, H⟩ => getK fr 7 fun t7 => q t7 H τ
def s_keep_FewHeaders_l1 (call : CallK) (N : Nat) (st : St) (τ : Tape) (k : KC) : Ans := match st with
  | ⟨fr, H⟩ => getK fr 0 fun t0 => getK fr 1 fun t1 => getK fr 2 fun t2 => getK fr 7 fun t7 => getK fr 8 fun t8 => someK (pLen [t0]) fun v0 => binK .lss t8 v0 fun v1 => gK v1 true (fun q' => q' t8 H τ) H τ fun v2 H3 τ4 => gK v1 true (fun q' => q' t1 H3 τ4) H3 τ4 fun v5 H6 τ7 => gK v1 true (fun q' => binK .lss v2 v5 fun v => q' v H6 τ7) H6 τ7 fun v8 H9 τ10 => someK (pPick [v1, v8, (.bool false)]) fun v11 => condK v11 (someK (pSlIdx 2 [t0, t8]) fun v12 => someK (pFieldAddr 0 [v12]) fun v13 => someK (lLoad1 [v13] H9) fun v14 => call f_keep_Few [v14, t2] H9 τ10 fun v15 H16 τ17 => someK (pSlIdx 2 [t0, t8]) fun v18 => someK (pFieldAddr 1 [v18]) fun v19 => someK (lLoad1 [v19] H16) fun v20 => call f_keep_Few [v20, t2] H16 τ17 fun v21 H22 τ23 => someK (pBuild [(.str []), (.str [])] [(0, 1), (1, 1)] [v15, v21]) fun v24 =>
    effK (eBuildSlice 1 2 [(.str []), (.str [])] [(0, 2)] [v24] H22 τ23) fun v25 H26 τ27 => effK (eAppend 2 32 [t7, v25] H26 τ27) fun v28 H29 τ30 => bif chkLoads [H9, H16, H22, H26, H29] (((.load none), [v19], 0, 1) :: []) then binK .add t8 (.int .i64 (.ofNat 1)) fun v31 => k .normal ⟨(T.set (T.set (T.set (T.set (T.set (T.set (T.set (T.set .leaf 0 t0) 1 t1) 2 t2) 7 v28) 8 t8) 18 t8) 19 v31) 8 v31), H29⟩ τ30 else none) (k (.exit 0) ⟨(T.set .leaf 7 t7), H9⟩ τ10)
def s_keep_FewHeaders (call : CallK) (N : Nat) (a0 a1 a2 : V) (H : Heap) (τ : Tape) (q : KV) : Ans := loopK (s_keep_FewHeaders_l1 call N) N ⟨(T.set (T.set (T.set (T.set (T.set .leaf 0 a0) 1 a1) 2 a2) 7 .nils) 8 (.int .i64 (.ofNat 0))), H⟩ τ (blockK 0 (seqK (s_keep_FewHeaders_j0 call N q) (endK [(.t 6)] q)))
theorem s_keep_FewHeaders_eq (call : CallK) (N : Nat) (a0 a1 a2 : V) (H : Heap) (τ : Tape) (q : KV) : s_keep_FewHeaders call N a0 a1 a2 H τ q = funK call N fn_keep_FewHeaders [a0, a1, a2] H τ q := by kernel_rfl
def e_keep_FewHeaders (call : CallK) (N : Nat) (vs : List V) (H : Heap) (τ : Tape) (q : KV) : Ans := match vs with | [a0, a1, a2] => s_keep_FewHeaders call N a0 a1 a2 H τ q | _ => none
theorem e_keep_FewHeaders_ok : EntOk fn_keep_FewHeaders e_keep_FewHeaders := by
  intro call N vs H τ q r h
  unfold e_keep_FewHeaders at h
  split at h
  · rw [s_keep_FewHeaders_eq] at h; exact h
  · cases h
theorem e_keep_FewHeaders_nat : EntNat e_keep_FewHeaders := by
  intro c hn N vs H τ q
  unfold e_keep_FewHeaders
  split
  · rw [s_keep_FewHeaders_eq, s_keep_FewHeaders_eq]; exact funK_ent hn _ _ _ _ _ _
  · rfl
/-- ostiary/headers.Sorted -/
def fn_headers_Sorted : Fun := ⟨1, (.seq (.reg [iR 2 (.p .mv) [(.c .nils)]]) (.keep [0] (.seq (.reg [iR 3 (.p .mv) [(.c .nils)]]) (.keep [0, 3] (.seq (.seq (.reg [iR 13 (.p .mv) [(.t 0)], iR 14 (.p .len) [(.t 13)], iR 15 (.p .mv) [(.c (.int .i64 (.ofNat 0)))]]) (.keep [0, 3, 13, 14, 15] (.block 0 (.loop (.keep [0, 3, 13, 14, 15] (.seq (.reg [iR 16 (.p (.bin .lss)) [(.t 15), (.t 14)]]) (.keep [0, 3, 13, 14, 15, 16] (.seq (.cond (.t 16) .skip (.keep [0, 3] (.exit 0))) (.keep [0, 3, 13, 14, 15] (.seq (.block 1 (.seq (.reg [iR 17 (.p (.slIdx 2)) [(.t 13), (.t 15)], iR 18 (.l (.load (some 2))) [(.t 17)], iR 5 (.e (.alloc [(.str []), (.str [])])) [], ⟨none, none, (.e (.store 2)), [(.t 5), (.t 18)], none⟩]) (.keep [0, 3, 5, 13, 14, 15] (.reg [iR 19 (.p .mv) [(.t 3)], iR 20 (.p (.fieldAddr 0)) [(.t 5)], iR 21 (.l (.load none)) [(.t 20)], iR 22 (.call 39) [(.t 21)],
    iR 23 (.e (.buildSlice 1 1 [(.str [])] [(0, 1)])) [(.t 22)], iR 24 (.e (.append 1 16)) [(.t 19), (.t 23)], iR 3 (.p .mv) [(.t 24)]])))) (.keep [0, 3, 13, 14, 15] (.reg [iR 25 (.p (.bin .add)) [(.t 15), (.c (.int .i64 (.ofNat 1)))], iR 15 (.p .mv) [(.t 25)]])))))))))))) (.keep [0, 3] (.seq (.reg [iR 26 (.p .mv) [(.t 3)], iR 27 (.call 56) [(.t 26)]]) (.keep [0, 3] (.seq (.reg [iR 6 (.p .mv) [(.c .nils)]]) (.keep [0, 3, 6] (.seq (.seq (.reg [iR 28 (.p .mv) [(.t 3)], iR 29 (.call 57) [(.t 28)], iR 30 (.p .len) [(.t 29)], iR 31 (.p .mv) [(.c (.int .i64 (.ofNat 0)))]]) (.keep [0, 6, 29, 30, 31] (.block 2 (.loop (.keep [0, 6, 29, 30, 31] (.seq (.reg [iR 32 (.p (.bin .lss)) [(.t 31), (.t 30)]]) (.keep [0, 6, 29, 30, 31, 32] (.seq (.cond (.t 32) .skip (.keep [6] (.exit 2))) (.keep [0, 6, 29, 30, 31] (.seq (.block 3 (.seq (.reg [iR 33 (.p (.slIdx 1)) [(.t 29), (.t 31)],
    iR 34 (.l (.load none)) [(.t 33)], iR 8 (.p .mv) [(.t 34)]]) (.keep [0, 6, 8, 29, 30, 31] (.seq (.seq (.reg [iR 35 (.p .mv) [(.t 8)], iR 36 (.p (.bin .neq)) [(.t 35), (.c (.str (bs [115, 101, 116, 45, 99, 111, 111, 107, 105, 101])))]]) (.keep [0, 6, 8, 29, 30, 31, 36] (.cond (.t 36) (.seq (.reg [iR 38 (.p .mv) [(.t 0)], iR 39 (.p .mv) [(.t 8)], iR 40 (.call 20) [(.t 38), (.t 39)], iR 37 (.p .mv) [(.t 40)], iR 41 (.p (.extract 0)) [(.t 37)], iR 42 (.p (.extract 1)) [(.t 37)], iR 9 (.p .mv) [(.t 41)], iR 10 (.p .mv) [(.t 42)]]) (.keep [0, 6, 8, 9, 29, 30, 31] (.seq (.reg [iR 43 (.p .mv) [(.t 6)], iR 44 (.p .mv) [(.t 8)], iR 45 (.p .mv) [(.t 9)], iR 46 (.p (.build [(.str []), (.str [])] [(0, 1), (1, 1)])) [(.t 44), (.t 45)], iR 47 (.e (.buildSlice 1 2 [(.str []), (.str [])] [(0, 2)])) [(.t 46)], iR 48 (.e (.append 2 32)) [(.t 43), (.t 47)], iR 6 (.p .mv) [(.t 48)]])
    (.keep [0, 6, 29, 30, 31] (.keep [0, 6, 29, 30, 31] (.exit 3)))))) .skip))) (.keep [0, 6, 8, 29, 30, 31] (.seq (.reg [iR 49 (.p .mv) [(.t 0)], iR 50 (.p .len) [(.t 49)], iR 51 (.p .mv) [(.c (.int .i64 (.ofNat 0)))]]) (.keep [0, 6, 8, 29, 30, 31, 49, 50, 51] (.block 4 (.loop (.keep [0, 6, 8, 29, 30, 31, 49, 50, 51] (.seq (.reg [iR 52 (.p (.bin .lss)) [(.t 51), (.t 50)]]) (.keep [0, 6, 8, 29, 30, 31, 49, 50, 51, 52] (.seq (.cond (.t 52) .skip (.keep [0, 6, 29, 30, 31] (.exit 4))) (.keep [0, 6, 8, 29, 30, 31, 49, 50, 51] (.seq (.block 5 (.seq (.reg [iR 53 (.p (.slIdx 2)) [(.t 49), (.t 51)], iR 54 (.l (.load (some 2))) [(.t 53)], iR 12 (.e (.alloc [(.str []), (.str [])])) [], ⟨none, none, (.e (.store 2)), [(.t 12), (.t 54)], none⟩]) (.keep [0, 6, 8, 12, 29, 30, 31, 49, 50, 51] (.seq (.reg [iR 55 (.l (.load (some 2))) [(.t 12)], iR 56 (.p .mv) [(.t 8)],
    iR 57 (.call 45) [(.t 55), (.t 56)]]) (.keep [0, 6, 8, 12, 29, 30, 31, 49, 50, 51, 57] (.cond (.t 57) (.reg [iR 58 (.p .mv) [(.t 6)], iR 59 (.p .mv) [(.t 8)], iR 60 (.p (.fieldAddr 1)) [(.t 12)], iR 61 (.l (.load none)) [(.t 60)], iR 62 (.p (.build [(.str []), (.str [])] [(0, 1), (1, 1)])) [(.t 59), (.t 61)], iR 63 (.e (.buildSlice 1 2 [(.str []), (.str [])] [(0, 2)])) [(.t 62)], iR 64 (.e (.append 2 32)) [(.t 58), (.t 63)], iR 6 (.p .mv) [(.t 64)]]) .skip)))))) (.keep [0, 6, 8, 29, 30, 31, 49, 50, 51] (.reg [iR 65 (.p (.bin .add)) [(.t 51), (.c (.int .i64 (.ofNat 1)))], iR 51 (.p .mv) [(.t 65)]]))))))))))))))))) (.keep [0, 6, 29, 30, 31] (.reg [iR 66 (.p (.bin .add)) [(.t 31), (.c (.int .i64 (.ofNat 1)))], iR 31 (.p .mv) [(.t 66)]])))))))))))) (.keep [6] (.seq (.reg [iR 67 (.p .mv) [(.t 6)], iR 2 (.p .mv) [(.t 67)]]) (.keep [2] (.keep [2] .ret))))))))))))))), [(.t 2)]⟩
def s_headers_Sorted_j1 (call : CallK) (N : Nat) (q : KV) (st : St) (τ : Tape) : Ans := match st with
  | ⟨fr, H⟩ => getK fr 6 fun t6 => q t6 H τ
def s_headers_Sorted_j3 (call : CallK) (N : Nat) (k : KC) (st : St) (τ : Tape) : Ans := match st with
  | ⟨fr, H⟩ => getK fr 0 fun t0 => getK fr 6 fun t6 => getK fr 29 fun t29 => getK fr 30 fun t30 => getK fr 31 fun t31 => binK .add t31 (.int .i64 (.ofNat 1)) fun v9 => k .normal ⟨(T.set (T.set (T.set (T.set (T.set (T.set (T.set .leaf 0 t0) 6 t6) 29 t29) 30 t30) 31 t31) 66 v9) 31 v9), H⟩ τ
def s_headers_Sorted_j5 (call : CallK) (N : Nat) (k : KC) (st : St) (τ : Tape) : Ans := match st with
  | ⟨fr, H⟩ => getK fr 0 fun t0 => getK fr 6 fun t6 => getK fr 8 fun t8 => getK fr 29 fun t29 => getK fr 30 fun t30 => getK fr 31 fun t31 => getK fr 49 fun t49 => getK fr 50 fun t50 => getK fr 51 fun t51 => binK .add t51 (.int .i64 (.ofNat 1)) fun v27 => k .normal ⟨(T.set (T.set (T.set (T.set (T.set (T.set (T.set (T.set (T.set (T.set (T.set .leaf 0 t0) 6 t6) 8 t8) 29 t29) 30 t30) 31 t31) 49 t49) 50 t50) 51 t51) 65 v27) 51 v27), H⟩ τ
def s_headers_Sorted_l4 (call : CallK) (N : Nat) (st : St) (τ : Tape) (k : KC) : Ans := match st with
  | ⟨fr, H⟩ => getK fr 0 fun t0 => getK fr 6 fun t6 => getK fr 8 fun t8 => getK fr 29 fun t29 => getK fr 30 fun t30 => getK fr 31 fun t31 => getK fr 49 fun t49 => getK fr 50 fun t50 => getK fr 51 fun t51 => binK .lss t51 t50 fun v26 => condK v26 (someK (pSlIdx 2 [t49, t51]) fun v28 => someK (lLoadN 2 [v28] H) fun v29 => effK (eAlloc [(.str []), (.str [])] [] H τ) fun v30 H31 τ32 => effK (eStore 2 [v30, v29] H31 τ32) fun v33 H34 τ35 => someK (lLoadN 2 [v30] H34) fun v36 => call f_headers_is [v36, t8] H34 τ35 fun v37 H38 τ39 => condK v37 (someK (pFieldAddr 1 [v30]) fun v40 => someK (lLoad1 [v40] H38) fun v41 => someK (pBuild [(.str []), (.str [])] [(0, 1), (1, 1)] [t8, v41]) fun v42 => effK (eBuildSlice 1 2 [(.str []), (.str [])] [(0, 2)] [v42] H38 τ39) fun v43 H44 τ45 => effK (eAppend 2 32 [t6, v43] H44 τ45) fun v46 H47 τ48 =>
    s_headers_Sorted_j5 call N k ⟨(T.set (T.set (T.set (T.set (T.set (T.set (T.set (T.set (T.set (T.set (T.set (T.set (T.set (T.set (T.set (T.set (T.set (T.set (T.set .leaf 0 t0) 6 t6) 8 t8) 12 v30) 29 t29) 30 t30) 31 t31) 49 t49) 50 t50) 51 t51) 57 v37) 58 t6) 59 t8) 60 v40) 61 v41) 62 v42) 63 v43) 64 v46) 6 v46), H47⟩ τ48) (s_headers_Sorted_j5 call N k ⟨(T.set (T.set (T.set (T.set (T.set (T.set (T.set (T.set (T.set (T.set (T.set .leaf 0 t0) 6 t6) 8 t8) 12 v30) 29 t29) 30 t30) 31 t31) 49 t49) 50 t50) 51 t51) 57 v37), H38⟩ τ39)) (k (.exit 4) ⟨(T.set (T.set (T.set (T.set (T.set .leaf 0 t0) 6 t6) 29 t29) 30 t30) 31 t31), H⟩ τ)
def s_headers_Sorted_l2 (call : CallK) (N : Nat) (st : St) (τ : Tape) (k : KC) : Ans := match st with
  | ⟨fr, H⟩ => getK fr 0 fun t0 => getK fr 6 fun t6 => getK fr 29 fun t29 => getK fr 30 fun t30 => getK fr 31 fun t31 => binK .lss t31 t30 fun v8 => condK v8 (someK (pSlIdx 1 [t29, t31]) fun v10 => someK (lLoad1 [v10] H) fun v11 => binK .neq v11 (.str (bs [115, 101, 116, 45, 99, 111, 111, 107, 105, 101])) fun v12 => condK v12 (call f_headers_Get [t0, v11] H τ fun v13 H14 τ15 => someK (pExtract 0 [v13]) fun v16 => someK (pExtract 1 [v13]) fun v17 => someK (pBuild [(.str []), (.str [])] [(0, 1), (1, 1)] [v11, v16]) fun v18 => effK (eBuildSlice 1 2 [(.str []), (.str [])] [(0, 2)] [v18] H14 τ15) fun v19 H20 τ21 => effK (eAppend 2 32 [t6, v19] H20 τ21) fun v22 H23 τ24 => s_headers_Sorted_j3 call N k ⟨(T.set (T.set (T.set (T.set (T.set .leaf 0 t0) 6 v22) 29 t29) 30 t30) 31 t31), H23⟩ τ24) (someK (pLen [t0]) fun v25 =>
    loopK (s_headers_Sorted_l4 call N) N ⟨(T.set (T.set (T.set (T.set (T.set (T.set (T.set (T.set (T.set .leaf 0 t0) 6 t6) 8 v11) 29 t29) 30 t30) 31 t31) 49 t0) 50 v25) 51 (.int .i64 (.ofNat 0))), H⟩ τ (blockK 4 (blockK 3 (seqK (s_headers_Sorted_j3 call N k) k))))) (k (.exit 2) ⟨(T.set .leaf 6 t6), H⟩ τ)
def s_headers_Sorted_j0 (call : CallK) (N : Nat) (q : KV) (st : St) (τ : Tape) : Ans := match st with
  | ⟨fr, H⟩ => getK fr 0 fun t0 => getK fr 3 fun t3 => call f_slices_Sort_string [t3] H τ fun v1 H2 τ3 => call f_slices_Compact_string [t3] H2 τ3 fun v4 H5 τ6 => someK (pLen [v4]) fun v7 => loopK (s_headers_Sorted_l2 call N) N ⟨(T.set (T.set (T.set (T.set (T.set .leaf 0 t0) 6 .nils) 29 v4) 30 v7) 31 (.int .i64 (.ofNat 0))), H5⟩ τ6 (blockK 2 (seqK (s_headers_Sorted_j1 call N q) (endK [(.t 2)] q)))
def s_headers_Sorted_l6 (call : CallK) (N : Nat) (st : St) (τ : Tape) (k : KC) : Ans := match st with
  | ⟨fr, H⟩ => getK fr 0 fun t0 => getK fr 3 fun t3 => getK fr 13 fun t13 => getK fr 14 fun t14 => getK fr 15 fun t15 => binK .lss t15 t14 fun v49 => condK v49 (someK (pSlIdx 2 [t13, t15]) fun v50 => someK (lLoadN 2 [v50] H) fun v51 => effK (eAlloc [(.str []), (.str [])] [] H τ) fun v52 H53 τ54 => effK (eStore 2 [v52, v51] H53 τ54) fun v55 H56 τ57 => someK (pFieldAddr 0 [v52]) fun v58 => someK (lLoad1 [v58] H56) fun v59 => call f_infra_Lower [v59] H56 τ57 fun v60 H61 τ62 => effK (eBuildSlice 1 1 [(.str [])] [(0, 1)] [v60] H61 τ62) fun v63 H64 τ65 => effK (eAppend 1 16 [t3, v63] H64 τ65) fun v66 H67 τ68 => binK .add t15 (.int .i64 (.ofNat 1)) fun v69 => k .normal ⟨(T.set (T.set (T.set (T.set (T.set (T.set (T.set .leaf 0 t0) 3 v66) 13 t13) 14 t14) 15 t15) 25 v69) 15 v69), H67⟩ τ68) (k (.exit 0) ⟨(T.set (T.set .leaf 0 t0) 3 t3), H⟩ τ)
def s_headers_Sorted (call : CallK) (N : Nat) (a0 : V) (H : Heap) (τ : Tape) (q : KV) : Ans := someK (pLen [a0]) fun v0 => loopK (s_headers_Sorted_l6 call N) N ⟨(T.set (T.set (T.set (T.set (T.set .leaf 0 a0) 3 .nils) 13 a0) 14 v0) 15 (.int .i64 (.ofNat 0))), H⟩ τ (blockK 0 (seqK (s_headers_Sorted_j0 call N q) (endK [(.t 2)] q)))
theorem s_headers_Sorted_eq (call : CallK) (N : Nat) (a0 : V) (H : Heap) (τ : Tape) (q : KV) : s_headers_Sorted call N a0 H τ q = funK call N fn_headers_Sorted [a0] H τ q := by kernel_rfl
def e_headers_Sorted (call : CallK) (N : Nat) (vs : List V) (H : Heap) (τ : Tape) (q : KV) : Ans := match vs with | [a0] => s_headers_Sorted call N a0 H τ q | _ => none
theorem e_headers_Sorted_ok : EntOk fn_headers_Sorted e_headers_Sorted := by
  intro call N vs H τ q r h
  unfold e_headers_Sorted at h
  split at h
  · rw [s_headers_Sorted_eq] at h; exact h
  · cases h
theorem e_headers_Sorted_nat : EntNat e_headers_Sorted := by
  intro c hn N vs H τ q
  unfold e_headers_Sorted
  split
  · rw [s_headers_Sorted_eq, s_headers_Sorted_eq]; exact funK_ent hn _ _ _ _ _ _
  · rfl
/-- strings.Trim -/
def fn_strings_Trim : Fun := ⟨2, (.seq (.reg [iR 4 (.p .mv) [(.c (.str []))]]) (.keep [0, 1] (.seq (.seq (.reg [iR 7 (.p .mv) [(.t 0)], iR 8 (.p (.bin .eql)) [(.t 7), (.c (.str []))], iR 9 (.p .mv) [(.t 8)], iG 10 9 false (.p .mv) [(.t 1)], iG 11 9 false (.p (.bin .eql)) [(.t 10), (.c (.str []))], iR 12 (.p .pick) [(.t 9), (.c (.bool true)), (.t 11)]]) (.keep [0, 1, 12] (.cond (.t 12) (.seq (.reg [iR 13 (.p .mv) [(.t 0)], iR 4 (.p .mv) [(.t 13)]]) (.keep [4] (.keep [4] .ret))) .skip))) (.keep [0, 1] (.seq (.seq (.reg [iR 14 (.p .mv) [(.t 1)], iR 15 (.p .lenS) [(.t 14)], iR 16 (.p (.bin .eql)) [(.t 15), (.c (.int .i64 (.ofNat 1)))], iR 17 (.p .mv) [(.t 16)], iG 18 17 true (.p .mv) [(.t 1)], iG 19 17 true (.p .strIndex) [(.t 18), (.c (.int .i64 (.ofNat 0)))], iG 20 17 true (.p (.bin .lss)) [(.t 19), (.c (.int .u8 (.ofNat 128)))],
    iR 21 (.p .pick) [(.t 17), (.t 20), (.c (.bool false))]]) (.keep [0, 1, 21] (.cond (.t 21) (.seq (.draw [iR 22 (.p .mv) [(.t 0)], iR 23 (.p .mv) [(.t 1)], iR 24 (.p .strIndex) [(.t 23), (.c (.int .i64 (.ofNat 0)))], iR 25 (.call 59) [(.t 22), (.t 24)], iR 26 (.p .mv) [(.t 1)], iR 27 (.p .strIndex) [(.t 26), (.c (.int .i64 (.ofNat 0)))], iR 28 (.call 58) [(.t 25), (.t 27)], iR 4 (.p .mv) [(.t 28)]]) (.keep [4] (.keep [4] .ret))) .skip))) (.keep [0, 1] (.seq (.seq (.reg [iR 30 (.p .mv) [(.t 1)], iR 31 (.call 60) [(.t 30)], iR 29 (.p .mv) [(.t 31)], iR 32 (.p (.extract 0)) [(.t 29)], iR 33 (.p (.extract 1)) [(.t 29)], iR 5 (.e (.alloc (repl 256 [(.bool false)]))) [], ⟨none, none, (.e (.store 256)), [(.t 5), (.t 32)], none⟩, iR 6 (.p .mv) [(.t 33)]]) (.keep [0, 1, 5, 6] (.seq (.reg [iR 34 (.p .mv) [(.t 6)]]) (.keep [0, 1, 5, 34] (.cond (.t 34) (.seq (.reg [iR 35 (.p .mv) [(.t 0)],
    iR 36 (.call 62) [(.t 35), (.t 5)], iR 37 (.call 61) [(.t 36), (.t 5)], iR 4 (.p .mv) [(.t 37)]]) (.keep [4] (.keep [4] .ret))) .skip))))) (.keep [0, 1] (.seq (.reg [iR 38 (.p .mv) [(.t 0)], iR 39 (.p .mv) [(.t 1)], iR 40 (.call 64) [(.t 38), (.t 39)], iR 41 (.p .mv) [(.t 1)], iR 42 (.call 63) [(.t 40), (.t 41)], iR 4 (.p .mv) [(.t 42)]]) (.keep [4] (.keep [4] .ret))))))))))), [(.t 4)]⟩
def s_strings_Trim (call : CallK) (N : Nat) (a0 a1 : V) (H : Heap) (τ : Tape) (q : KV) : Ans := binK .eql a0 (.str []) fun v0 => gK v0 false (fun q' => q' a1 H τ) H τ fun v1 H2 τ3 => gK v0 false (fun q' => binK .eql v1 (.str []) fun v => q' v H2 τ3) H2 τ3 fun v4 H5 τ6 => someK (pPick [v0, (.bool true), v4]) fun v7 => condK v7 (q a0 H5 τ6) (someK (pLenS [a1]) fun v8 => binK .eql v8 (.int .i64 (.ofNat 1)) fun v9 => gK v9 true (fun q' => q' a1 H5 τ6) H5 τ6 fun v10 H11 τ12 => gK v9 true (fun q' => someK (pStrIndex [v10, (.int .i64 (.ofNat 0))]) fun v => q' v H11 τ12) H11 τ12 fun v13 H14 τ15 => gK v9 true (fun q' => binK .lss v13 (.int .u8 (.ofNat 128)) fun v => q' v H14 τ15) H14 τ15 fun v16 H17 τ18 => someK (pPick [v9, v16, (.bool false)]) fun v19 => condK v19 (someK (pStrIndex [a1, (.int .i64 (.ofNat 0))]) fun v20 => call f_strings_trimRightByte [a0, v20] H17 τ18 fun v21 H22 τ23 =>
    someK (pStrIndex [a1, (.int .i64 (.ofNat 0))]) fun v24 => call f_strings_trimLeftByte [v21, v24] H22 τ23 fun v25 H26 τ27 => q v25 H26 τ27) (call f_strings_makeASCIISet [a1] H17 τ18 fun v28 H29 τ30 => someK (pExtract 0 [v28]) fun v31 => someK (pExtract 1 [v28]) fun v32 => effK (eAlloc (repl 256 [(.bool false)]) [] H29 τ30) fun v33 H34 τ35 => effK (eStore 256 [v33, v31] H34 τ35) fun v36 H37 τ38 => condK v32 (call f_strings_trimRightASCII [a0, v33] H37 τ38 fun v39 H40 τ41 => call f_strings_trimLeftASCII [v39, v33] H40 τ41 fun v42 H43 τ44 => q v42 H43 τ44) (call f_strings_trimRightUnicode [a0, a1] H37 τ38 fun v45 H46 τ47 => call f_strings_trimLeftUnicode [v45, a1] H46 τ47 fun v48 H49 τ50 => q v48 H49 τ50)))
theorem s_strings_Trim_eq (call : CallK) (N : Nat) (a0 a1 : V) (H : Heap) (τ : Tape) (q : KV) : s_strings_Trim call N a0 a1 H τ q = funK call N fn_strings_Trim [a0, a1] H τ q := by kernel_rfl
def e_strings_Trim (call : CallK) (N : Nat) (vs : List V) (H : Heap) (τ : Tape) (q : KV) : Ans := match vs with | [a0, a1] => s_strings_Trim call N a0 a1 H τ q | _ => none
theorem e_strings_Trim_ok : EntOk fn_strings_Trim e_strings_Trim := by
  intro call N vs H τ q r h
  unfold e_strings_Trim at h
  split at h
  · rw [s_strings_Trim_eq] at h; exact h
  · cases h
theorem e_strings_Trim_nat : EntNat e_strings_Trim := by
  intro c hn N vs H τ q
  unfold e_strings_Trim
  split
  · rw [s_strings_Trim_eq, s_strings_Trim_eq]; exact funK_ent hn _ _ _ _ _ _
  · rfl
/-- strings.CutPrefix -/
def fn_strings_CutPrefix : Fun := ⟨2, (.seq (.reg [iR 4 (.p .mv) [(.c (.str []))], iR 5 (.p .mv) [(.c (.bool false))]]) (.keep [0, 1] (.seq (.reg [iR 6 (.p .mv) [(.t 0)], iR 7 (.p .mv) [(.t 1)], iR 8 (.call 65) [(.t 6), (.t 7)], iR 9 (.p (.extract 0)) [(.t 8)], iR 10 (.p (.extract 1)) [(.t 8)], iR 4 (.p .mv) [(.t 9)], iR 5 (.p .mv) [(.t 10)]]) (.keep [4, 5] (.keep [4, 5] .ret))))), [(.t 4), (.t 5)]⟩
def s_strings_CutPrefix (call : CallK) (N : Nat) (a0 a1 : V) (H : Heap) (τ : Tape) (q : KV) : Ans := call f_stringslite_CutPrefix [a0, a1] H τ fun v0 H1 τ2 => someK (pExtract 0 [v0]) fun v3 => someK (pExtract 1 [v0]) fun v4 => q (.tup [v3, v4]) H1 τ2
theorem s_strings_CutPrefix_eq (call : CallK) (N : Nat) (a0 a1 : V) (H : Heap) (τ : Tape) (q : KV) : s_strings_CutPrefix call N a0 a1 H τ q = funK call N fn_strings_CutPrefix [a0, a1] H τ q := by kernel_rfl
def e_strings_CutPrefix (call : CallK) (N : Nat) (vs : List V) (H : Heap) (τ : Tape) (q : KV) : Ans := match vs with | [a0, a1] => s_strings_CutPrefix call N a0 a1 H τ q | _ => none
theorem e_strings_CutPrefix_ok : EntOk fn_strings_CutPrefix e_strings_CutPrefix := by
  intro call N vs H τ q r h
  unfold e_strings_CutPrefix at h
  split at h
  · rw [s_strings_CutPrefix_eq] at h; exact h
  · cases h
theorem e_strings_CutPrefix_nat : EntNat e_strings_CutPrefix := by
  intro c hn N vs H τ q
  unfold e_strings_CutPrefix
  split
  · rw [s_strings_CutPrefix_eq, s_strings_CutPrefix_eq]; exact funK_ent hn _ _ _ _ _ _
  · rfl
/-- strings.Cut -/
def fn_strings_Cut : Fun := ⟨2, (.seq (.reg [iR 4 (.p .mv) [(.c (.str []))], iR 5 (.p .mv) [(.c (.str []))], iR 6 (.p .mv) [(.c (.bool false))]]) (.keep [0, 1] (.seq (.reg [iR 7 (.p .mv) [(.t 0)], iR 8 (.p .mv) [(.t 1)], iR 9 (.call 66) [(.t 7), (.t 8)], iR 10 (.p (.extract 0)) [(.t 9)], iR 11 (.p (.extract 1)) [(.t 9)], iR 12 (.p (.extract 2)) [(.t 9)], iR 4 (.p .mv) [(.t 10)], iR 5 (.p .mv) [(.t 11)], iR 6 (.p .mv) [(.t 12)]]) (.keep [4, 5, 6] (.keep [4, 5, 6] .ret))))), [(.t 4), (.t 5), (.t 6)]⟩
def s_strings_Cut (call : CallK) (N : Nat) (a0 a1 : V) (H : Heap) (τ : Tape) (q : KV) : Ans := call f_stringslite_Cut [a0, a1] H τ fun v0 H1 τ2 => someK (pExtract 0 [v0]) fun v3 => someK (pExtract 1 [v0]) fun v4 => someK (pExtract 2 [v0]) fun v5 => q (.tup [v3, v4, v5]) H1 τ2
theorem s_strings_Cut_eq (call : CallK) (N : Nat) (a0 a1 : V) (H : Heap) (τ : Tape) (q : KV) : s_strings_Cut call N a0 a1 H τ q = funK call N fn_strings_Cut [a0, a1] H τ q := by kernel_rfl
def e_strings_Cut (call : CallK) (N : Nat) (vs : List V) (H : Heap) (τ : Tape) (q : KV) : Ans := match vs with | [a0, a1] => s_strings_Cut call N a0 a1 H τ q | _ => none
theorem e_strings_Cut_ok : EntOk fn_strings_Cut e_strings_Cut := by
  intro call N vs H τ q r h
  unfold e_strings_Cut at h
  split at h
  · rw [s_strings_Cut_eq] at h; exact h
  · cases h
theorem e_strings_Cut_nat : EntNat e_strings_Cut := by
  intro c hn N vs H τ q
  unfold e_strings_Cut
  split
  · rw [s_strings_Cut_eq, s_strings_Cut_eq]; exact funK_ent hn _ _ _ _ _ _
  · rfl
/-- ostiary/headers.told -/
def fn_headers_told : Fun := ⟨1, (.seq (.reg [iR 2 (.p .mv) [(.c (.int .i64 (.ofNat 0)))], iR 3 (.p .mv) [(.c (.bool false))]]) (.keep [0] (.seq (.seq (.reg [iR 4 (.p .mv) [(.t 0)], iR 5 (.p (.bin .eql)) [(.t 4), (.c (.str []))]]) (.keep [0, 5] (.cond (.t 5) (.seq (.reg [iR 2 (.p .mv) [(.c (.int .i64 (.negSucc 0)))], iR 3 (.p .mv) [(.c (.bool true))]]) (.keep [2, 3] (.keep [2, 3] .ret))) .skip))) (.keep [0] (.seq (.reg [iR 6 (.p .mv) [(.t 0)], iR 7 (.call 67) [(.t 6)], iR 8 (.p (.extract 0)) [(.t 7)], iR 9 (.p (.extract 1)) [(.t 7)], iR 2 (.p .mv) [(.t 8)], iR 3 (.p .mv) [(.t 9)]]) (.keep [2, 3] (.keep [2, 3] .ret))))))), [(.t 2), (.t 3)]⟩
def s_headers_told (call : CallK) (N : Nat) (a0 : V) (H : Heap) (τ : Tape) (q : KV) : Ans := binK .eql a0 (.str []) fun v0 => condK v0 (q (.tup [(.int .i64 (.negSucc 0)), (.bool true)]) H τ) (call f_infra_Int [a0] H τ fun v1 H2 τ3 => someK (pExtract 0 [v1]) fun v4 => someK (pExtract 1 [v1]) fun v5 => q (.tup [v4, v5]) H2 τ3)
theorem s_headers_told_eq (call : CallK) (N : Nat) (a0 : V) (H : Heap) (τ : Tape) (q : KV) : s_headers_told call N a0 H τ q = funK call N fn_headers_told [a0] H τ q := by kernel_rfl
def e_headers_told (call : CallK) (N : Nat) (vs : List V) (H : Heap) (τ : Tape) (q : KV) : Ans := match vs with | [a0] => s_headers_told call N a0 H τ q | _ => none
theorem e_headers_told_ok : EntOk fn_headers_told e_headers_told := by
  intro call N vs H τ q r h
  unfold e_headers_told at h
  split at h
  · rw [s_headers_told_eq] at h; exact h
  · cases h
theorem e_headers_told_nat : EntNat e_headers_told := by
  intro c hn N vs H τ q
  unfold e_headers_told
  split
  · rw [s_headers_told_eq, s_headers_told_eq]; exact funK_ent hn _ _ _ _ _ _
  · rfl
/-- ostiary/infra.Lower -/
def fn_infra_Lower : Fun := ⟨1, (.seq (.reg [iR 2 (.p .mv) [(.c (.str []))]]) (.keep [0] (.seq (.reg [iR 3 (.p .mv) [(.t 0)], iR 4 (.call 68) [(.t 3), (.c (.func 69 [] []))], iR 2 (.p .mv) [(.t 4)]]) (.keep [2] (.keep [2] .ret))))), [(.t 2)]⟩
def s_infra_Lower (call : CallK) (N : Nat) (a0 : V) (H : Heap) (τ : Tape) (q : KV) : Ans := call f_infra_mapped [a0, (.func f_infra_Lower_1 [] [])] H τ fun v0 H1 τ2 => q v0 H1 τ2
theorem s_infra_Lower_eq (call : CallK) (N : Nat) (a0 : V) (H : Heap) (τ : Tape) (q : KV) : s_infra_Lower call N a0 H τ q = funK call N fn_infra_Lower [a0] H τ q := by kernel_rfl
def e_infra_Lower (call : CallK) (N : Nat) (vs : List V) (H : Heap) (τ : Tape) (q : KV) : Ans := match vs with | [a0] => s_infra_Lower call N a0 H τ q | _ => none
theorem e_infra_Lower_ok : EntOk fn_infra_Lower e_infra_Lower := by
  intro call N vs H τ q r h
  unfold e_infra_Lower at h
  split at h
  · rw [s_infra_Lower_eq] at h; exact h
  · cases h
theorem e_infra_Lower_nat : EntNat e_infra_Lower := by
  intro c hn N vs H τ q
  unfold e_infra_Lower
  split
  · rw [s_infra_Lower_eq, s_infra_Lower_eq]; exact funK_ent hn _ _ _ _ _ _
  · rfl
/-- ostiary/headers.un-safe -/
def fn_headers_unsafe : Fun := ⟨1, (.seq (.reg [iR 2 (.p .mv) [(.c (.bool false))]]) (.keep [0] (.seq (.seq (.reg [iR 5 (.p .mv) [(.t 0)], iR 6 (.p .lenS) [(.t 5)], iR 7 (.p .mv) [(.c (.int .i64 (.ofNat 0)))]]) (.keep [0, 6, 7] (.block 0 (.loop (.keep [0, 6, 7] (.seq (.reg [iR 8 (.p (.bin .lss)) [(.t 7), (.t 6)]]) (.keep [0, 6, 7, 8] (.seq (.cond (.t 8) .skip (.keep [] (.exit 0))) (.keep [0, 6, 7] (.seq (.block 1 (.seq (.reg [iR 9 (.p .mv) [(.t 7)], iR 3 (.p .mv) [(.t 9)]]) (.keep [0, 3, 6, 7] (.seq (.reg [iR 10 (.p .mv) [(.t 0)], iR 11 (.p .mv) [(.t 3)], iR 12 (.p .strIndex) [(.t 10), (.t 11)], iR 4 (.p .mv) [(.t 12)]]) (.keep [0, 4, 6, 7] (.seq (.reg [iR 13 (.p .mv) [(.t 4)], iR 14 (.p (.bin .lss)) [(.t 13), (.c (.int .u8 (.ofNat 32)))], iR 15 (.p .mv) [(.t 14)], iG 16 15 true (.p .mv) [(.t 4)], iG 17 15 true (.p (.bin .neq)) [(.t 16), (.c (.int .u8 (.ofNat 9)))],
    iR 18 (.p .pick) [(.t 15), (.t 17), (.c (.bool false))], iR 19 (.p .mv) [(.t 18)], iG 20 19 false (.p .mv) [(.t 4)], iG 21 19 false (.p (.bin .eql)) [(.t 20), (.c (.int .u8 (.ofNat 127)))], iR 22 (.p .pick) [(.t 19), (.c (.bool true)), (.t 21)], iR 23 (.p .mv) [(.t 22)], iG 24 23 false (.p .mv) [(.t 4)], iG 25 23 false (.call 70) [(.c (.str (bs [34, 40, 41, 58, 60, 62, 63, 64, 91, 92, 93, 123, 125]))), (.t 24)], iG 26 23 false (.p (.bin .geq)) [(.t 25), (.c (.int .i64 (.ofNat 0)))], iR 27 (.p .pick) [(.t 23), (.c (.bool true)), (.t 26)]]) (.keep [0, 6, 7, 27] (.cond (.t 27) (.seq (.reg [iR 2 (.p .mv) [(.c (.bool true))]]) (.keep [2] (.keep [2] .ret))) .skip)))))))) (.keep [0, 6, 7] (.reg [iR 28 (.p (.bin .add)) [(.t 7), (.c (.int .i64 (.ofNat 1)))], iR 7 (.p .mv) [(.t 28)]])))))))))))) (.keep [] (.seq (.reg [iR 2 (.p .mv) [(.c (.bool false))]]) (.keep [2] (.keep [2] .ret))))))),
    [(.t 2)]⟩
def s_headers_unsafe_j0 (call : CallK) (N : Nat) (q : KV) (st : St) (τ : Tape) : Ans := match st with
  | ⟨fr, H⟩ => q (.bool false) H τ
def s_headers_unsafe_l1 (call : CallK) (N : Nat) (st : St) (τ : Tape) (k : KC) : Ans := match st with
  | ⟨fr, H⟩ => getK fr 0 fun t0 => getK fr 6 fun t6 => getK fr 7 fun t7 => binK .lss t7 t6 fun v1 => condK v1 (someK (pStrIndex [t0, t7]) fun v2 => binK .lss v2 (.int .u8 (.ofNat 32)) fun v3 => gK v3 true (fun q' => q' v2 H τ) H τ fun v4 H5 τ6 => gK v3 true (fun q' => binK .neq v4 (.int .u8 (.ofNat 9)) fun v => q' v H5 τ6) H5 τ6 fun v7 H8 τ9 => someK (pPick [v3, v7, (.bool false)]) fun v10 => gK v10 false (fun q' => q' v2 H8 τ9) H8 τ9 fun v11 H12 τ13 => gK v10 false (fun q' => binK .eql v11 (.int .u8 (.ofNat 127)) fun v => q' v H12 τ13) H12 τ13 fun v14 H15 τ16 => someK (pPick [v10, (.bool true), v14]) fun v17 => gK v17 false (fun q' => q' v2 H15 τ16) H15 τ16 fun v18 H19 τ20 => gK v17 false (fun q' => call f_strings_IndexByte [(.str (bs [34, 40, 41, 58, 60, 62, 63, 64, 91, 92, 93, 123, 125])), v18] H19 τ20 q') H19 τ20 fun v21 H22 τ23 =>
    gK v17 false (fun q' => binK .geq v21 (.int .i64 (.ofNat 0)) fun v => q' v H22 τ23) H22 τ23 fun v24 H25 τ26 => someK (pPick [v17, (.bool true), v24]) fun v27 => condK v27 (k .ret ⟨(T.set .leaf 2 (.bool true)), H25⟩ τ26) (binK .add t7 (.int .i64 (.ofNat 1)) fun v28 => k .normal ⟨(T.set (T.set (T.set (T.set (T.set .leaf 0 t0) 6 t6) 7 t7) 28 v28) 7 v28), H25⟩ τ26)) (k (.exit 0) ⟨.leaf, H⟩ τ)
def s_headers_unsafe (call : CallK) (N : Nat) (a0 : V) (H : Heap) (τ : Tape) (q : KV) : Ans := someK (pLenS [a0]) fun v0 => loopK (s_headers_unsafe_l1 call N) N ⟨(T.set (T.set (T.set .leaf 0 a0) 6 v0) 7 (.int .i64 (.ofNat 0))), H⟩ τ (blockK 0 (seqK (s_headers_unsafe_j0 call N q) (endK [(.t 2)] q)))
theorem s_headers_unsafe_eq (call : CallK) (N : Nat) (a0 : V) (H : Heap) (τ : Tape) (q : KV) : s_headers_unsafe call N a0 H τ q = funK call N fn_headers_unsafe [a0] H τ q := by kernel_rfl
def e_headers_unsafe (call : CallK) (N : Nat) (vs : List V) (H : Heap) (τ : Tape) (q : KV) : Ans := match vs with | [a0] => s_headers_unsafe call N a0 H τ q | _ => none
theorem e_headers_unsafe_ok : EntOk fn_headers_unsafe e_headers_unsafe := by
  intro call N vs H τ q r h
  unfold e_headers_unsafe at h
  split at h
  · rw [s_headers_unsafe_eq] at h; exact h
  · cases h
theorem e_headers_unsafe_nat : EntNat e_headers_unsafe := by
  intro c hn N vs H τ q
  unfold e_headers_unsafe
  split
  · rw [s_headers_unsafe_eq, s_headers_unsafe_eq]; exact funK_ent hn _ _ _ _ _ _
  · rfl
/-- ostiary/headers.tongues -/
def fn_headers_tongues : Fun := ⟨1, (.seq (.reg [iR 2 (.p .mv) [(.c (.bool false))]]) (.keep [0] (.seq (.seq (.reg [iR 5 (.p .mv) [(.t 0)], iR 6 (.p .lenS) [(.t 5)], iR 7 (.p .mv) [(.c (.int .i64 (.ofNat 0)))]]) (.keep [0, 6, 7] (.block 0 (.loop (.keep [0, 6, 7] (.seq (.reg [iR 8 (.p (.bin .lss)) [(.t 7), (.t 6)]]) (.keep [0, 6, 7, 8] (.seq (.cond (.t 8) .skip (.keep [] (.exit 0))) (.keep [0, 6, 7] (.seq (.block 1 (.seq (.reg [iR 9 (.p .mv) [(.t 7)], iR 3 (.p .mv) [(.t 9)]]) (.keep [0, 3, 6, 7] (.seq (.reg [iR 10 (.p .mv) [(.t 0)], iR 11 (.p .mv) [(.t 3)], iR 12 (.p .strIndex) [(.t 10), (.t 11)], iR 4 (.p .mv) [(.t 12)]]) (.keep [0, 4, 6, 7] (.seq (.reg [iR 13 (.p .mv) [(.t 4)], iR 14 (.p (.bin .geq)) [(.t 13), (.c (.int .u8 (.ofNat 97)))], iR 15 (.p .mv) [(.t 14)], iG 16 15 true (.p .mv) [(.t 4)], iG 17 15 true (.p (.bin .leq)) [(.t 16), (.c (.int .u8 (.ofNat 122)))],
    iR 18 (.p .pick) [(.t 15), (.t 17), (.c (.bool false))], iR 19 (.p .mv) [(.t 18)], iG 20 19 false (.p .mv) [(.t 4)], iG 21 19 false (.p (.bin .geq)) [(.t 20), (.c (.int .u8 (.ofNat 65)))], iG 22 19 false (.p .mv) [(.t 21)], iG 23 22 true (.p .mv) [(.t 4)], iG 24 22 true (.p (.bin .leq)) [(.t 23), (.c (.int .u8 (.ofNat 90)))], iG 25 19 false (.p .pick) [(.t 22), (.t 24), (.c (.bool false))], iR 26 (.p .pick) [(.t 19), (.c (.bool true)), (.t 25)], iR 27 (.p .mv) [(.t 26)], iG 28 27 false (.p .mv) [(.t 4)], iG 29 27 false (.p (.bin .geq)) [(.t 28), (.c (.int .u8 (.ofNat 48)))], iG 30 27 false (.p .mv) [(.t 29)], iG 31 30 true (.p .mv) [(.t 4)], iG 32 30 true (.p (.bin .leq)) [(.t 31), (.c (.int .u8 (.ofNat 57)))], iG 33 27 false (.p .pick) [(.t 30), (.t 32), (.c (.bool false))], iR 34 (.p .pick) [(.t 27), (.c (.bool true)), (.t 33)], iR 35 (.p (.un .not)) [(.t 34)],
    iR 36 (.p .mv) [(.t 35)], iG 37 36 true (.p .mv) [(.t 4)], iG 38 36 true (.call 70) [(.c (.str (bs [32, 42, 44, 45, 46, 59, 61]))), (.t 37)], iG 39 36 true (.p (.bin .lss)) [(.t 38), (.c (.int .i64 (.ofNat 0)))], iR 40 (.p .pick) [(.t 36), (.t 39), (.c (.bool false))]]) (.keep [0, 6, 7, 40] (.cond (.t 40) (.seq (.reg [iR 2 (.p .mv) [(.c (.bool false))]]) (.keep [2] (.keep [2] .ret))) .skip)))))))) (.keep [0, 6, 7] (.reg [iR 41 (.p (.bin .add)) [(.t 7), (.c (.int .i64 (.ofNat 1)))], iR 7 (.p .mv) [(.t 41)]])))))))))))) (.keep [] (.seq (.reg [iR 2 (.p .mv) [(.c (.bool true))]]) (.keep [2] (.keep [2] .ret))))))), [(.t 2)]⟩
def s_headers_tongues_j0 (call : CallK) (N : Nat) (q : KV) (st : St) (τ : Tape) : Ans := match st with
  | ⟨fr, H⟩ => q (.bool true) H τ
def s_headers_tongues_l1 (call : CallK) (N : Nat) (st : St) (τ : Tape) (k : KC) : Ans := match st with
  | ⟨fr, H⟩ => getK fr 0 fun t0 => getK fr 6 fun t6 => getK fr 7 fun t7 => binK .lss t7 t6 fun v1 => condK v1 (someK (pStrIndex [t0, t7]) fun v2 => binK .geq v2 (.int .u8 (.ofNat 97)) fun v3 => gK v3 true (fun q' => q' v2 H τ) H τ fun v4 H5 τ6 => gK v3 true (fun q' => binK .leq v4 (.int .u8 (.ofNat 122)) fun v => q' v H5 τ6) H5 τ6 fun v7 H8 τ9 => someK (pPick [v3, v7, (.bool false)]) fun v10 => gK v10 false (fun q' => q' v2 H8 τ9) H8 τ9 fun v11 H12 τ13 => gK v10 false (fun q' => binK .geq v11 (.int .u8 (.ofNat 65)) fun v => q' v H12 τ13) H12 τ13 fun v14 H15 τ16 => gK v10 false (fun q' => q' v14 H15 τ16) H15 τ16 fun v17 H18 τ19 => gK v17 true (fun q' => q' v2 H18 τ19) H18 τ19 fun v20 H21 τ22 => gK v17 true (fun q' => binK .leq v20 (.int .u8 (.ofNat 90)) fun v => q' v H21 τ22) H21 τ22 fun v23 H24 τ25 =>
    gK v10 false (fun q' => someK (pPick [v17, v23, (.bool false)]) fun v => q' v H24 τ25) H24 τ25 fun v26 H27 τ28 => someK (pPick [v10, (.bool true), v26]) fun v29 => gK v29 false (fun q' => q' v2 H27 τ28) H27 τ28 fun v30 H31 τ32 => gK v29 false (fun q' => binK .geq v30 (.int .u8 (.ofNat 48)) fun v => q' v H31 τ32) H31 τ32 fun v33 H34 τ35 => gK v29 false (fun q' => q' v33 H34 τ35) H34 τ35 fun v36 H37 τ38 => gK v36 true (fun q' => q' v2 H37 τ38) H37 τ38 fun v39 H40 τ41 => gK v36 true (fun q' => binK .leq v39 (.int .u8 (.ofNat 57)) fun v => q' v H40 τ41) H40 τ41 fun v42 H43 τ44 => gK v29 false (fun q' => someK (pPick [v36, v42, (.bool false)]) fun v => q' v H43 τ44) H43 τ44 fun v45 H46 τ47 => someK (pPick [v29, (.bool true), v45]) fun v48 => unK .not v48 fun v49 => gK v49 true (fun q' => q' v2 H46 τ47) H46 τ47 fun v50 H51 τ52 =>
    gK v49 true (fun q' => call f_strings_IndexByte [(.str (bs [32, 42, 44, 45, 46, 59, 61])), v50] H51 τ52 q') H51 τ52 fun v53 H54 τ55 => gK v49 true (fun q' => binK .lss v53 (.int .i64 (.ofNat 0)) fun v => q' v H54 τ55) H54 τ55 fun v56 H57 τ58 => someK (pPick [v49, v56, (.bool false)]) fun v59 => condK v59 (k .ret ⟨(T.set .leaf 2 (.bool false)), H57⟩ τ58) (binK .add t7 (.int .i64 (.ofNat 1)) fun v60 => k .normal ⟨(T.set (T.set (T.set (T.set (T.set .leaf 0 t0) 6 t6) 7 t7) 41 v60) 7 v60), H57⟩ τ58)) (k (.exit 0) ⟨.leaf, H⟩ τ)
def s_headers_tongues (call : CallK) (N : Nat) (a0 : V) (H : Heap) (τ : Tape) (q : KV) : Ans := someK (pLenS [a0]) fun v0 => loopK (s_headers_tongues_l1 call N) N ⟨(T.set (T.set (T.set .leaf 0 a0) 6 v0) 7 (.int .i64 (.ofNat 0))), H⟩ τ (blockK 0 (seqK (s_headers_tongues_j0 call N q) (endK [(.t 2)] q)))
theorem s_headers_tongues_eq (call : CallK) (N : Nat) (a0 : V) (H : Heap) (τ : Tape) (q : KV) : s_headers_tongues call N a0 H τ q = funK call N fn_headers_tongues [a0] H τ q := by kernel_rfl
def e_headers_tongues (call : CallK) (N : Nat) (vs : List V) (H : Heap) (τ : Tape) (q : KV) : Ans := match vs with | [a0] => s_headers_tongues call N a0 H τ q | _ => none
theorem e_headers_tongues_ok : EntOk fn_headers_tongues e_headers_tongues := by
  intro call N vs H τ q r h
  unfold e_headers_tongues at h
  split at h
  · rw [s_headers_tongues_eq] at h; exact h
  · cases h
theorem e_headers_tongues_nat : EntNat e_headers_tongues := by
  intro c hn N vs H τ q
  unfold e_headers_tongues
  split
  · rw [s_headers_tongues_eq, s_headers_tongues_eq]; exact funK_ent hn _ _ _ _ _ _
  · rfl
/-- ostiary/infra.Strip -/
def fn_infra_Strip : Fun := ⟨1, (.seq (.reg [iR 2 (.p .mv) [(.c (.str []))]]) (.keep [0] (.seq (.reg [iR 3 (.p .mv) [(.t 0)], iR 4 (.call 35) [(.t 3), (.c (.str (bs [9, 10, 12, 13, 32])))], iR 2 (.p .mv) [(.t 4)]]) (.keep [2] (.keep [2] .ret))))), [(.t 2)]⟩
def s_infra_Strip (call : CallK) (N : Nat) (a0 : V) (H : Heap) (τ : Tape) (q : KV) : Ans := call f_strings_Trim [a0, (.str (bs [9, 10, 12, 13, 32]))] H τ fun v0 H1 τ2 => q v0 H1 τ2
theorem s_infra_Strip_eq (call : CallK) (N : Nat) (a0 : V) (H : Heap) (τ : Tape) (q : KV) : s_infra_Strip call N a0 H τ q = funK call N fn_infra_Strip [a0] H τ q := by kernel_rfl
def e_infra_Strip (call : CallK) (N : Nat) (vs : List V) (H : Heap) (τ : Tape) (q : KV) : Ans := match vs with | [a0] => s_infra_Strip call N a0 H τ q | _ => none
theorem e_infra_Strip_ok : EntOk fn_infra_Strip e_infra_Strip := by
  intro call N vs H τ q r h
  unfold e_infra_Strip at h
  split at h
  · rw [s_infra_Strip_eq] at h; exact h
  · cases h
theorem e_infra_Strip_nat : EntNat e_infra_Strip := by
  intro c hn N vs H τ q
  unfold e_infra_Strip
  split
  · rw [s_infra_Strip_eq, s_infra_Strip_eq]; exact funK_ent hn _ _ _ _ _ _
  · rfl
/-- ostiary/headers.is -/
def fn_headers_is : Fun := ⟨2, (.seq (.reg [iR 2 (.e .box) [(.t 0)], iR 4 (.p .mv) [(.c (.bool false))]]) (.keep [1, 2] (.seq (.reg [iR 5 (.p (.fieldAddr 0)) [(.t 2)], iR 6 (.l (.load none)) [(.t 5)], iR 7 (.call 39) [(.t 6)], iR 8 (.p .mv) [(.t 1)], iR 9 (.call 39) [(.t 8)], iR 10 (.p (.bin .eql)) [(.t 7), (.t 9)], iR 4 (.p .mv) [(.t 10)]]) (.keep [4] (.keep [4] .ret))))), [(.t 4)]⟩
def s_headers_is (call : CallK) (N : Nat) (a0 a1 : V) (H : Heap) (τ : Tape) (q : KV) : Ans := effK (eBox [a0] H τ) fun v0 H1 τ2 => someK (pFieldAddr 0 [v0]) fun v3 => someK (lLoad1 [v3] H1) fun v4 => call f_infra_Lower [v4] H1 τ2 fun v5 H6 τ7 => call f_infra_Lower [a1] H6 τ7 fun v8 H9 τ10 => binK .eql v5 v8 fun v11 => q v11 H9 τ10
theorem s_headers_is_eq (call : CallK) (N : Nat) (a0 a1 : V) (H : Heap) (τ : Tape) (q : KV) : s_headers_is call N a0 a1 H τ q = funK call N fn_headers_is [a0, a1] H τ q := by kernel_rfl
def e_headers_is (call : CallK) (N : Nat) (vs : List V) (H : Heap) (τ : Tape) (q : KV) : Ans := match vs with | [a0, a1] => s_headers_is call N a0 a1 H τ q | _ => none
theorem e_headers_is_ok : EntOk fn_headers_is e_headers_is := by
  intro call N vs H τ q r h
  unfold e_headers_is at h
  split at h
  · rw [s_headers_is_eq] at h; exact h
  · cases h
theorem e_headers_is_nat : EntNat e_headers_is := by
  intro c hn N vs H τ q
  unfold e_headers_is
  split
  · rw [s_headers_is_eq, s_headers_is_eq]; exact funK_ent hn _ _ _ _ _ _
  · rfl
/-- strings.HasPrefix -/
def fn_strings_HasPrefix : Fun := ⟨2, (.seq (.reg [iR 4 (.p .mv) [(.c (.bool false))]]) (.keep [0, 1] (.seq (.reg [iR 5 (.p .mv) [(.t 0)], iR 6 (.p .mv) [(.t 1)], iR 7 (.call 75) [(.t 5), (.t 6)], iR 4 (.p .mv) [(.t 7)]]) (.keep [4] (.keep [4] .ret))))), [(.t 4)]⟩
def s_strings_HasPrefix (call : CallK) (N : Nat) (a0 a1 : V) (H : Heap) (τ : Tape) (q : KV) : Ans := call f_stringslite_HasPrefix [a0, a1] H τ fun v0 H1 τ2 => q v0 H1 τ2
theorem s_strings_HasPrefix_eq (call : CallK) (N : Nat) (a0 a1 : V) (H : Heap) (τ : Tape) (q : KV) : s_strings_HasPrefix call N a0 a1 H τ q = funK call N fn_strings_HasPrefix [a0, a1] H τ q := by kernel_rfl
def e_strings_HasPrefix (call : CallK) (N : Nat) (vs : List V) (H : Heap) (τ : Tape) (q : KV) : Ans := match vs with | [a0, a1] => s_strings_HasPrefix call N a0 a1 H τ q | _ => none
theorem e_strings_HasPrefix_ok : EntOk fn_strings_HasPrefix e_strings_HasPrefix := by
  intro call N vs H τ q r h
  unfold e_strings_HasPrefix at h
  split at h
  · rw [s_strings_HasPrefix_eq] at h; exact h
  · cases h
theorem e_strings_HasPrefix_nat : EntNat e_strings_HasPrefix := by
  intro c hn N vs H τ q
  unfold e_strings_HasPrefix
  split
  · rw [s_strings_HasPrefix_eq, s_strings_HasPrefix_eq]; exact funK_ent hn _ _ _ _ _ _
  · rfl
/-- ostiary/ostiarykeep.Few -/
def fn_keep_Few : Fun := ⟨2, (.seq (.reg [iR 4 (.p .mv) [(.c (.str []))]]) (.keep [0, 1] (.seq (.seq (.reg [iR 5 (.p .mv) [(.t 0)], iR 6 (.p .lenS) [(.t 5)], iR 7 (.p .mv) [(.t 1)], iR 8 (.p (.bin .gtr)) [(.t 6), (.t 7)]]) (.keep [0, 1, 8] (.cond (.t 8) (.seq (.reg [iR 9 (.p .mv) [(.t 0)], iR 10 (.p .mv) [(.t 1)], iR 11 (.p (.strSlice false true)) [(.t 9), (.t 10)], iR 4 (.p .mv) [(.t 11)]]) (.keep [4] (.keep [4] .ret))) .skip))) (.keep [0] (.seq (.reg [iR 12 (.p .mv) [(.t 0)], iR 4 (.p .mv) [(.t 12)]]) (.keep [4] (.keep [4] .ret))))))), [(.t 4)]⟩
def s_keep_Few (call : CallK) (N : Nat) (a0 a1 : V) (H : Heap) (τ : Tape) (q : KV) : Ans := someK (pLenS [a0]) fun v0 => binK .gtr v0 a1 fun v1 => condK v1 (someK (pStrSlice false true [a0, a1]) fun v2 => q v2 H τ) (q a0 H τ)
theorem s_keep_Few_eq (call : CallK) (N : Nat) (a0 a1 : V) (H : Heap) (τ : Tape) (q : KV) : s_keep_Few call N a0 a1 H τ q = funK call N fn_keep_Few [a0, a1] H τ q := by kernel_rfl
def e_keep_Few (call : CallK) (N : Nat) (vs : List V) (H : Heap) (τ : Tape) (q : KV) : Ans := match vs with | [a0, a1] => s_keep_Few call N a0 a1 H τ q | _ => none
theorem e_keep_Few_ok : EntOk fn_keep_Few e_keep_Few := by
  intro call N vs H τ q r h
  unfold e_keep_Few at h
  split at h
  · rw [s_keep_Few_eq] at h; exact h
  · cases h
theorem e_keep_Few_nat : EntNat e_keep_Few := by
  intro c hn N vs H τ q
  unfold e_keep_Few
  split
  · rw [s_keep_Few_eq, s_keep_Few_eq]; exact funK_ent hn _ _ _ _ _ _
  · rfl
/-- strings.trimLeftByte -/
def fn_strings_trimLeftByte : Fun := ⟨2, (.seq (.reg [iR 4 (.p .mv) [(.c (.str []))]]) (.keep [0, 1] (.seq (.block 0 (.loop (.keep [0, 1] (.seq (.seq (.reg [iR 5 (.p .mv) [(.t 0)], iR 6 (.p .lenS) [(.t 5)], iR 7 (.p (.bin .gtr)) [(.t 6), (.c (.int .i64 (.ofNat 0)))], iR 8 (.p .mv) [(.t 7)], iG 9 8 true (.p .mv) [(.t 0)], iG 10 8 true (.p .strIndex) [(.t 9), (.c (.int .i64 (.ofNat 0)))], iG 11 8 true (.p .mv) [(.t 1)], iG 12 8 true (.p (.bin .eql)) [(.t 10), (.t 11)], iR 13 (.p .pick) [(.t 8), (.t 12), (.c (.bool false))]]) (.keep [0, 1, 13] (.cond (.t 13) .skip (.keep [0] (.exit 0))))) (.keep [0, 1] (.block 1 (.reg [iR 14 (.p .mv) [(.t 0)], iR 15 (.p (.strSlice true false)) [(.t 14), (.c (.int .i64 (.ofNat 1)))], iR 0 (.p .mv) [(.t 15)]]))))))) (.keep [0] (.seq (.reg [iR 16 (.p .mv) [(.t 0)], iR 4 (.p .mv) [(.t 16)]]) (.keep [4] (.keep [4] .ret))))))), [(.t 4)]⟩
def s_strings_trimLeftByte_j0 (call : CallK) (N : Nat) (q : KV) (st : St) (τ : Tape) : Ans := match st with
  | ⟨fr, H⟩ => getK fr 0 fun t0 => q t0 H τ
def s_strings_trimLeftByte_l1 (call : CallK) (N : Nat) (st : St) (τ : Tape) (k : KC) : Ans := match st with
  | ⟨fr, H⟩ => getK fr 0 fun t0 => getK fr 1 fun t1 => someK (pLenS [t0]) fun v0 => binK .gtr v0 (.int .i64 (.ofNat 0)) fun v1 => gK v1 true (fun q' => q' t0 H τ) H τ fun v2 H3 τ4 => gK v1 true (fun q' => someK (pStrIndex [v2, (.int .i64 (.ofNat 0))]) fun v => q' v H3 τ4) H3 τ4 fun v5 H6 τ7 => gK v1 true (fun q' => q' t1 H6 τ7) H6 τ7 fun v8 H9 τ10 => gK v1 true (fun q' => binK .eql v5 v8 fun v => q' v H9 τ10) H9 τ10 fun v11 H12 τ13 => someK (pPick [v1, v11, (.bool false)]) fun v14 => condK v14 (someK (pStrSlice true false [t0, (.int .i64 (.ofNat 1))]) fun v15 => k .normal ⟨(T.set (T.set (T.set (T.set (T.set .leaf 0 t0) 1 t1) 14 t0) 15 v15) 0 v15), H12⟩ τ13) (k (.exit 0) ⟨(T.set .leaf 0 t0), H12⟩ τ13)
def s_strings_trimLeftByte (call : CallK) (N : Nat) (a0 a1 : V) (H : Heap) (τ : Tape) (q : KV) : Ans := loopK (s_strings_trimLeftByte_l1 call N) N ⟨(T.set (T.set .leaf 0 a0) 1 a1), H⟩ τ (blockK 0 (seqK (s_strings_trimLeftByte_j0 call N q) (endK [(.t 4)] q)))
theorem s_strings_trimLeftByte_eq (call : CallK) (N : Nat) (a0 a1 : V) (H : Heap) (τ : Tape) (q : KV) : s_strings_trimLeftByte call N a0 a1 H τ q = funK call N fn_strings_trimLeftByte [a0, a1] H τ q := by kernel_rfl
def e_strings_trimLeftByte (call : CallK) (N : Nat) (vs : List V) (H : Heap) (τ : Tape) (q : KV) : Ans := match vs with | [a0, a1] => s_strings_trimLeftByte call N a0 a1 H τ q | _ => none
theorem e_strings_trimLeftByte_ok : EntOk fn_strings_trimLeftByte e_strings_trimLeftByte := by
  intro call N vs H τ q r h
  unfold e_strings_trimLeftByte at h
  split at h
  · rw [s_strings_trimLeftByte_eq] at h; exact h
  · cases h
theorem e_strings_trimLeftByte_nat : EntNat e_strings_trimLeftByte := by
  intro c hn N vs H τ q
  unfold e_strings_trimLeftByte
  split
  · rw [s_strings_trimLeftByte_eq, s_strings_trimLeftByte_eq]; exact funK_ent hn _ _ _ _ _ _
  · rfl
/-- strings.trimRightByte -/
def fn_strings_trimRightByte : Fun := ⟨2, (.seq (.reg [iR 4 (.p .mv) [(.c (.str []))]]) (.keep [0, 1] (.seq (.block 0 (.loop (.keep [0, 1] (.seq (.seq (.reg [iR 5 (.p .mv) [(.t 0)], iR 6 (.p .lenS) [(.t 5)], iR 7 (.p (.bin .gtr)) [(.t 6), (.c (.int .i64 (.ofNat 0)))], iR 8 (.p .mv) [(.t 7)], iG 9 8 true (.p .mv) [(.t 0)], iG 10 8 true (.p .mv) [(.t 0)], iG 11 8 true (.p .lenS) [(.t 10)], iG 12 8 true (.p (.bin .sub)) [(.t 11), (.c (.int .i64 (.ofNat 1)))], iG 13 8 true (.p .strIndex) [(.t 9), (.t 12)], iG 14 8 true (.p .mv) [(.t 1)], iG 15 8 true (.p (.bin .eql)) [(.t 13), (.t 14)], iR 16 (.p .pick) [(.t 8), (.t 15), (.c (.bool false))]]) (.keep [0, 1, 16] (.cond (.t 16) .skip (.keep [0] (.exit 0))))) (.keep [0, 1] (.block 1 (.reg [iR 17 (.p .mv) [(.t 0)], iR 18 (.p .mv) [(.t 0)], iR 19 (.p .lenS) [(.t 18)], iR 20 (.p (.bin .sub)) [(.t 19), (.c (.int .i64 (.ofNat 1)))],
    iR 21 (.p (.strSlice false true)) [(.t 17), (.t 20)], iR 0 (.p .mv) [(.t 21)]]))))))) (.keep [0] (.seq (.reg [iR 22 (.p .mv) [(.t 0)], iR 4 (.p .mv) [(.t 22)]]) (.keep [4] (.keep [4] .ret))))))), [(.t 4)]⟩
def s_strings_trimRightByte_j0 (call : CallK) (N : Nat) (q : KV) (st : St) (τ : Tape) : Ans := match st with
  | ⟨fr, H⟩ => getK fr 0 fun t0 => q t0 H τ
def s_strings_trimRightByte_l1 (call : CallK) (N : Nat) (st : St) (τ : Tape) (k : KC) : Ans := match st with
  | ⟨fr, H⟩ => getK fr 0 fun t0 => getK fr 1 fun t1 => someK (pLenS [t0]) fun v0 => binK .gtr v0 (.int .i64 (.ofNat 0)) fun v1 => gK v1 true (fun q' => q' t0 H τ) H τ fun v2 H3 τ4 => gK v1 true (fun q' => q' t0 H3 τ4) H3 τ4 fun v5 H6 τ7 => gK v1 true (fun q' => someK (pLenS [v5]) fun v => q' v H6 τ7) H6 τ7 fun v8 H9 τ10 => gK v1 true (fun q' => binK .sub v8 (.int .i64 (.ofNat 1)) fun v => q' v H9 τ10) H9 τ10 fun v11 H12 τ13 => gK v1 true (fun q' => someK (pStrIndex [v2, v11]) fun v => q' v H12 τ13) H12 τ13 fun v14 H15 τ16 => gK v1 true (fun q' => q' t1 H15 τ16) H15 τ16 fun v17 H18 τ19 => gK v1 true (fun q' => binK .eql v14 v17 fun v => q' v H18 τ19) H18 τ19 fun v20 H21 τ22 => someK (pPick [v1, v20, (.bool false)]) fun v23 => condK v23 (someK (pLenS [t0]) fun v24 => binK .sub v24 (.int .i64 (.ofNat 1)) fun v25 => someK (pStrSlice false true [t0, v25]) fun v26 =>
    k .normal ⟨(T.set (T.set (T.set (T.set (T.set (T.set (T.set (T.set .leaf 0 t0) 1 t1) 17 t0) 18 t0) 19 v24) 20 v25) 21 v26) 0 v26), H21⟩ τ22) (k (.exit 0) ⟨(T.set .leaf 0 t0), H21⟩ τ22)
def s_strings_trimRightByte (call : CallK) (N : Nat) (a0 a1 : V) (H : Heap) (τ : Tape) (q : KV) : Ans := loopK (s_strings_trimRightByte_l1 call N) N ⟨(T.set (T.set .leaf 0 a0) 1 a1), H⟩ τ (blockK 0 (seqK (s_strings_trimRightByte_j0 call N q) (endK [(.t 4)] q)))
theorem s_strings_trimRightByte_eq (call : CallK) (N : Nat) (a0 a1 : V) (H : Heap) (τ : Tape) (q : KV) : s_strings_trimRightByte call N a0 a1 H τ q = funK call N fn_strings_trimRightByte [a0, a1] H τ q := by kernel_rfl
def e_strings_trimRightByte (call : CallK) (N : Nat) (vs : List V) (H : Heap) (τ : Tape) (q : KV) : Ans := match vs with | [a0, a1] => s_strings_trimRightByte call N a0 a1 H τ q | _ => none
theorem e_strings_trimRightByte_ok : EntOk fn_strings_trimRightByte e_strings_trimRightByte := by
  intro call N vs H τ q r h
  unfold e_strings_trimRightByte at h
  split at h
  · rw [s_strings_trimRightByte_eq] at h; exact h
  · cases h
theorem e_strings_trimRightByte_nat : EntNat e_strings_trimRightByte := by
  intro c hn N vs H τ q
  unfold e_strings_trimRightByte
  split
  · rw [s_strings_trimRightByte_eq, s_strings_trimRightByte_eq]; exact funK_ent hn _ _ _ _ _ _
  · rfl
/-- strings.makeASCIISet -/
def fn_strings_makeASCIISet : Fun := ⟨1, (.seq (.reg [iR 2 (.e (.alloc (repl 256 [(.bool false)]))) [], iR 3 (.p .mv) [(.c (.bool false))]]) (.keep [0, 2] (.seq (.seq (.reg [iR 4 (.p .mv) [(.c (.int .i64 (.ofNat 0)))]]) (.keep [0, 2, 4] (.block 0 (.loop (.keep [0, 2, 4] (.seq (.seq (.reg [iR 6 (.p .mv) [(.t 4)], iR 7 (.p .mv) [(.t 0)], iR 8 (.p .lenS) [(.t 7)], iR 9 (.p (.bin .lss)) [(.t 6), (.t 8)]]) (.keep [0, 2, 4, 9] (.cond (.t 9) .skip (.keep [2] (.exit 0))))) (.keep [0, 2, 4] (.seq (.block 1 (.seq (.reg [iR 12 (.p .mv) [(.t 0)], iR 13 (.p .mv) [(.t 4)], iR 14 (.p .strIndex) [(.t 12), (.t 13)], iR 5 (.p .mv) [(.t 14)]]) (.keep [0, 2, 4, 5] (.seq (.seq (.reg [iR 15 (.p .mv) [(.t 5)], iR 16 (.p (.bin .geq)) [(.t 15), (.c (.int .u8 (.ofNat 128)))]]) (.keep [0, 2, 4, 5, 16] (.cond (.t 16) (.seq (.reg [iR 17 (.l (.load (some 256))) [(.t 2)],
    ⟨none, none, (.e (.store 256)), [(.t 2), (.t 17)], none⟩, iR 3 (.p .mv) [(.c (.bool false))]]) (.keep [2, 3] (.keep [2, 3] .ret))) .skip))) (.keep [0, 2, 4, 5] (.reg [iR 18 (.p .mv) [(.t 5)], iR 19 (.p (.arrIdx 256 1)) [(.t 2), (.t 18)], ⟨none, none, (.e (.store 1)), [(.t 19), (.c (.bool true))], none⟩])))))) (.keep [0, 2, 4] (.reg [iR 10 (.p .mv) [(.t 4)], iR 11 (.p (.bin .add)) [(.t 10), (.c (.int .i64 (.ofNat 1)))], iR 4 (.p .mv) [(.t 11)]])))))))))) (.keep [2] (.seq (.reg [iR 20 (.l (.load (some 256))) [(.t 2)], ⟨none, none, (.e (.store 256)), [(.t 2), (.t 20)], none⟩, iR 3 (.p .mv) [(.c (.bool true))]]) (.keep [2, 3] (.keep [2, 3] .ret))))))), [(.cell 2 (some 256)), (.t 3)]⟩
def s_strings_makeASCIISet_j0 (call : CallK) (N : Nat) (q : KV) (st : St) (τ : Tape) : Ans := match st with
  | ⟨fr, H⟩ => getK fr 2 fun t2 => someK (lLoadN 256 [t2] H) fun v3 => effK (eStore 256 [t2, v3] H τ) fun v4 H5 τ6 => someK (results ⟨(T.set (T.set .leaf 2 t2) 3 (.bool true)), H5⟩ [(.cell 2 (some 256)), (.t 3)]) fun v => q v H5 τ6
def s_strings_makeASCIISet_l1 (call : CallK) (N : Nat) (st : St) (τ : Tape) (k : KC) : Ans := match st with
  | ⟨fr, H⟩ => getK fr 0 fun t0 => getK fr 2 fun t2 => getK fr 4 fun t4 => someK (pLenS [t0]) fun v7 => binK .lss t4 v7 fun v8 => condK v8 (someK (pStrIndex [t0, t4]) fun v9 => binK .geq v9 (.int .u8 (.ofNat 128)) fun v10 => condK v10 (someK (lLoadN 256 [t2] H) fun v11 => effK (eStore 256 [t2, v11] H τ) fun v12 H13 τ14 => k .ret ⟨(T.set (T.set .leaf 2 t2) 3 (.bool false)), H13⟩ τ14) (someK (pArrIdx 256 1 [t2, v9]) fun v15 => effK (eStore 1 [v15, (.bool true)] H τ) fun v16 H17 τ18 => binK .add t4 (.int .i64 (.ofNat 1)) fun v19 => k .normal ⟨(T.set (T.set (T.set (T.set (T.set (T.set .leaf 0 t0) 2 t2) 4 t4) 10 t4) 11 v19) 4 v19), H17⟩ τ18)) (k (.exit 0) ⟨(T.set .leaf 2 t2), H⟩ τ)
def s_strings_makeASCIISet (call : CallK) (N : Nat) (a0 : V) (H : Heap) (τ : Tape) (q : KV) : Ans := effK (eAlloc (repl 256 [(.bool false)]) [] H τ) fun v0 H1 τ2 => loopK (s_strings_makeASCIISet_l1 call N) N ⟨(T.set (T.set (T.set .leaf 0 a0) 2 v0) 4 (.int .i64 (.ofNat 0))), H1⟩ τ2 (blockK 0 (seqK (s_strings_makeASCIISet_j0 call N q) (endK [(.cell 2 (some 256)), (.t 3)] q)))
theorem s_strings_makeASCIISet_eq (call : CallK) (N : Nat) (a0 : V) (H : Heap) (τ : Tape) (q : KV) : s_strings_makeASCIISet call N a0 H τ q = funK call N fn_strings_makeASCIISet [a0] H τ q := by kernel_rfl
def e_strings_makeASCIISet (call : CallK) (N : Nat) (vs : List V) (H : Heap) (τ : Tape) (q : KV) : Ans := match vs with | [a0] => s_strings_makeASCIISet call N a0 H τ q | _ => none
theorem e_strings_makeASCIISet_ok : EntOk fn_strings_makeASCIISet e_strings_makeASCIISet := by
  intro call N vs H τ q r h
  unfold e_strings_makeASCIISet at h
  split at h
  · rw [s_strings_makeASCIISet_eq] at h; exact h
  · cases h
theorem e_strings_makeASCIISet_nat : EntNat e_strings_makeASCIISet := by
  intro c hn N vs H τ q
  unfold e_strings_makeASCIISet
  split
  · rw [s_strings_makeASCIISet_eq, s_strings_makeASCIISet_eq]; exact funK_ent hn _ _ _ _ _ _
  · rfl
/-- strings.trimLeftASCII -/
def fn_strings_trimLeftASCII : Fun := ⟨2, (.seq (.reg [iR 4 (.p .mv) [(.c (.str []))]]) (.keep [0, 1] (.seq (.block 0 (.loop (.keep [0, 1] (.seq (.seq (.reg [iR 5 (.p .mv) [(.t 0)], iR 6 (.p .lenS) [(.t 5)], iR 7 (.p (.bin .gtr)) [(.t 6), (.c (.int .i64 (.ofNat 0)))]]) (.keep [0, 1, 7] (.cond (.t 7) .skip (.keep [0] (.exit 0))))) (.keep [0, 1] (.block 1 (.seq (.seq (.reg [iR 8 (.p .mv) [(.t 1)], iR 9 (.p .mv) [(.t 0)], iR 10 (.p .strIndex) [(.t 9), (.c (.int .i64 (.ofNat 0)))], iR 11 (.call 81) [(.t 8), (.t 10)], iR 12 (.p (.un .not)) [(.t 11)]]) (.keep [0, 1, 12] (.cond (.t 12) (.keep [0] (.exit 0)) .skip))) (.keep [0, 1] (.reg [iR 13 (.p .mv) [(.t 0)], iR 14 (.p (.strSlice true false)) [(.t 13), (.c (.int .i64 (.ofNat 1)))], iR 0 (.p .mv) [(.t 14)]]))))))))) (.keep [0] (.seq (.reg [iR 15 (.p .mv) [(.t 0)], iR 4 (.p .mv) [(.t 15)]]) (.keep [4] (.keep [4] .ret))))))), [(.t 4)]⟩
def s_strings_trimLeftASCII_j0 (call : CallK) (N : Nat) (q : KV) (st : St) (τ : Tape) : Ans := match st with
  | ⟨fr, H⟩ => getK fr 0 fun t0 => q t0 H τ
def s_strings_trimLeftASCII_l1 (call : CallK) (N : Nat) (st : St) (τ : Tape) (k : KC) : Ans := match st with
  | ⟨fr, H⟩ => getK fr 0 fun t0 => getK fr 1 fun t1 => someK (pLenS [t0]) fun v0 => binK .gtr v0 (.int .i64 (.ofNat 0)) fun v1 => condK v1 (someK (pStrIndex [t0, (.int .i64 (.ofNat 0))]) fun v2 => call f_asciiSet_contains [t1, v2] H τ fun v3 H4 τ5 => unK .not v3 fun v6 => condK v6 (k (.exit 0) ⟨(T.set .leaf 0 t0), H4⟩ τ5) (someK (pStrSlice true false [t0, (.int .i64 (.ofNat 1))]) fun v7 => k .normal ⟨(T.set (T.set (T.set (T.set (T.set .leaf 0 t0) 1 t1) 13 t0) 14 v7) 0 v7), H4⟩ τ5)) (k (.exit 0) ⟨(T.set .leaf 0 t0), H⟩ τ)
def s_strings_trimLeftASCII (call : CallK) (N : Nat) (a0 a1 : V) (H : Heap) (τ : Tape) (q : KV) : Ans := loopK (s_strings_trimLeftASCII_l1 call N) N ⟨(T.set (T.set .leaf 0 a0) 1 a1), H⟩ τ (blockK 0 (seqK (s_strings_trimLeftASCII_j0 call N q) (endK [(.t 4)] q)))
theorem s_strings_trimLeftASCII_eq (call : CallK) (N : Nat) (a0 a1 : V) (H : Heap) (τ : Tape) (q : KV) : s_strings_trimLeftASCII call N a0 a1 H τ q = funK call N fn_strings_trimLeftASCII [a0, a1] H τ q := by kernel_rfl
def e_strings_trimLeftASCII (call : CallK) (N : Nat) (vs : List V) (H : Heap) (τ : Tape) (q : KV) : Ans := match vs with | [a0, a1] => s_strings_trimLeftASCII call N a0 a1 H τ q | _ => none
theorem e_strings_trimLeftASCII_ok : EntOk fn_strings_trimLeftASCII e_strings_trimLeftASCII := by
  intro call N vs H τ q r h
  unfold e_strings_trimLeftASCII at h
  split at h
  · rw [s_strings_trimLeftASCII_eq] at h; exact h
  · cases h
theorem e_strings_trimLeftASCII_nat : EntNat e_strings_trimLeftASCII := by
  intro c hn N vs H τ q
  unfold e_strings_trimLeftASCII
  split
  · rw [s_strings_trimLeftASCII_eq, s_strings_trimLeftASCII_eq]; exact funK_ent hn _ _ _ _ _ _
  · rfl
/-- strings.trimRightASCII -/
def fn_strings_trimRightASCII : Fun := ⟨2, (.seq (.reg [iR 4 (.p .mv) [(.c (.str []))]]) (.keep [0, 1] (.seq (.block 0 (.loop (.keep [0, 1] (.seq (.seq (.reg [iR 5 (.p .mv) [(.t 0)], iR 6 (.p .lenS) [(.t 5)], iR 7 (.p (.bin .gtr)) [(.t 6), (.c (.int .i64 (.ofNat 0)))]]) (.keep [0, 1, 7] (.cond (.t 7) .skip (.keep [0] (.exit 0))))) (.keep [0, 1] (.block 1 (.seq (.seq (.reg [iR 8 (.p .mv) [(.t 1)], iR 9 (.p .mv) [(.t 0)], iR 10 (.p .mv) [(.t 0)], iR 11 (.p .lenS) [(.t 10)], iR 12 (.p (.bin .sub)) [(.t 11), (.c (.int .i64 (.ofNat 1)))], iR 13 (.p .strIndex) [(.t 9), (.t 12)], iR 14 (.call 81) [(.t 8), (.t 13)], iR 15 (.p (.un .not)) [(.t 14)]]) (.keep [0, 1, 15] (.cond (.t 15) (.keep [0] (.exit 0)) .skip))) (.keep [0, 1] (.reg [iR 16 (.p .mv) [(.t 0)], iR 17 (.p .mv) [(.t 0)], iR 18 (.p .lenS) [(.t 17)], iR 19 (.p (.bin .sub)) [(.t 18), (.c (.int .i64 (.ofNat 1)))],
    iR 20 (.p (.strSlice false true)) [(.t 16), (.t 19)], iR 0 (.p .mv) [(.t 20)]]))))))))) (.keep [0] (.seq (.reg [iR 21 (.p .mv) [(.t 0)], iR 4 (.p .mv) [(.t 21)]]) (.keep [4] (.keep [4] .ret))))))), [(.t 4)]⟩
def s_strings_trimRightASCII_j0 (call : CallK) (N : Nat) (q : KV) (st : St) (τ : Tape) : Ans := match st with
  | ⟨fr, H⟩ => getK fr 0 fun t0 => q t0 H τ
def s_strings_trimRightASCII_l1 (call : CallK) (N : Nat) (st : St) (τ : Tape) (k : KC) : Ans := match st with
  | ⟨fr, H⟩ => getK fr 0 fun t0 => getK fr 1 fun t1 => someK (pLenS [t0]) fun v0 => binK .gtr v0 (.int .i64 (.ofNat 0)) fun v1 => condK v1 (someK (pLenS [t0]) fun v2 => binK .sub v2 (.int .i64 (.ofNat 1)) fun v3 => someK (pStrIndex [t0, v3]) fun v4 => call f_asciiSet_contains [t1, v4] H τ fun v5 H6 τ7 => unK .not v5 fun v8 => condK v8 (k (.exit 0) ⟨(T.set .leaf 0 t0), H6⟩ τ7) (someK (pLenS [t0]) fun v9 => binK .sub v9 (.int .i64 (.ofNat 1)) fun v10 => someK (pStrSlice false true [t0, v10]) fun v11 => k .normal ⟨(T.set (T.set (T.set (T.set (T.set (T.set (T.set (T.set .leaf 0 t0) 1 t1) 16 t0) 17 t0) 18 v9) 19 v10) 20 v11) 0 v11), H6⟩ τ7)) (k (.exit 0) ⟨(T.set .leaf 0 t0), H⟩ τ)
def s_strings_trimRightASCII (call : CallK) (N : Nat) (a0 a1 : V) (H : Heap) (τ : Tape) (q : KV) : Ans := loopK (s_strings_trimRightASCII_l1 call N) N ⟨(T.set (T.set .leaf 0 a0) 1 a1), H⟩ τ (blockK 0 (seqK (s_strings_trimRightASCII_j0 call N q) (endK [(.t 4)] q)))
theorem s_strings_trimRightASCII_eq (call : CallK) (N : Nat) (a0 a1 : V) (H : Heap) (τ : Tape) (q : KV) : s_strings_trimRightASCII call N a0 a1 H τ q = funK call N fn_strings_trimRightASCII [a0, a1] H τ q := by kernel_rfl
def e_strings_trimRightASCII (call : CallK) (N : Nat) (vs : List V) (H : Heap) (τ : Tape) (q : KV) : Ans := match vs with | [a0, a1] => s_strings_trimRightASCII call N a0 a1 H τ q | _ => none
theorem e_strings_trimRightASCII_ok : EntOk fn_strings_trimRightASCII e_strings_trimRightASCII := by
  intro call N vs H τ q r h
  unfold e_strings_trimRightASCII at h
  split at h
  · rw [s_strings_trimRightASCII_eq] at h; exact h
  · cases h
theorem e_strings_trimRightASCII_nat : EntNat e_strings_trimRightASCII := by
  intro c hn N vs H τ q
  unfold e_strings_trimRightASCII
  split
  · rw [s_strings_trimRightASCII_eq, s_strings_trimRightASCII_eq]; exact funK_ent hn _ _ _ _ _ _
  · rfl
/-- strings.trimLeftUnicode -/
def fn_strings_trimLeftUnicode : Fun := ⟨2, (.seq (.reg [iR 4 (.p .mv) [(.c (.str []))]]) (.keep [0, 1] (.seq (.block 0 (.loop (.keep [0, 1] (.seq (.seq (.reg [iR 7 (.p .mv) [(.t 0)], iR 8 (.p .lenS) [(.t 7)], iR 9 (.p (.bin .gtr)) [(.t 8), (.c (.int .i64 (.ofNat 0)))]]) (.keep [0, 1, 9] (.cond (.t 9) .skip (.keep [0] (.exit 0))))) (.keep [0, 1] (.block 1 (.seq (.reg [iR 11 (.p .mv) [(.t 0)], iR 12 (.call 82) [(.t 11)], iR 10 (.p .mv) [(.t 12)], iR 13 (.p (.extract 0)) [(.t 10)], iR 14 (.p (.extract 1)) [(.t 10)], iR 5 (.p .mv) [(.t 13)], iR 6 (.p .mv) [(.t 14)]]) (.keep [0, 1, 5, 6] (.seq (.seq (.reg [iR 15 (.p .mv) [(.t 1)], iR 16 (.p .mv) [(.t 5)], iR 17 (.call 83) [(.t 15), (.t 16)], iR 18 (.p (.un .not)) [(.t 17)]]) (.keep [0, 1, 6, 18] (.cond (.t 18) (.keep [0] (.exit 0)) .skip))) (.keep [0, 1, 6] (.reg [iR 19 (.p .mv) [(.t 0)], iR 20 (.p .mv) [(.t 6)],
    iR 21 (.p (.strSlice true false)) [(.t 19), (.t 20)], iR 0 (.p .mv) [(.t 21)]]))))))))))) (.keep [0] (.seq (.reg [iR 22 (.p .mv) [(.t 0)], iR 4 (.p .mv) [(.t 22)]]) (.keep [4] (.keep [4] .ret))))))), [(.t 4)]⟩
def s_strings_trimLeftUnicode_j0 (call : CallK) (N : Nat) (q : KV) (st : St) (τ : Tape) : Ans := match st with
  | ⟨fr, H⟩ => getK fr 0 fun t0 => q t0 H τ
def s_strings_trimLeftUnicode_l1 (call : CallK) (N : Nat) (st : St) (τ : Tape) (k : KC) : Ans := match st with
  | ⟨fr, H⟩ => getK fr 0 fun t0 => getK fr 1 fun t1 => someK (pLenS [t0]) fun v0 => binK .gtr v0 (.int .i64 (.ofNat 0)) fun v1 => condK v1 (call f_utf8_DecodeRuneInString [t0] H τ fun v2 H3 τ4 => someK (pExtract 0 [v2]) fun v5 => someK (pExtract 1 [v2]) fun v6 => call f_strings_ContainsRune [t1, v5] H3 τ4 fun v7 H8 τ9 => unK .not v7 fun v10 => condK v10 (k (.exit 0) ⟨(T.set .leaf 0 t0), H8⟩ τ9) (someK (pStrSlice true false [t0, v6]) fun v11 => k .normal ⟨(T.set (T.set (T.set (T.set (T.set (T.set (T.set .leaf 0 t0) 1 t1) 6 v6) 19 t0) 20 v6) 21 v11) 0 v11), H8⟩ τ9)) (k (.exit 0) ⟨(T.set .leaf 0 t0), H⟩ τ)
def s_strings_trimLeftUnicode (call : CallK) (N : Nat) (a0 a1 : V) (H : Heap) (τ : Tape) (q : KV) : Ans := loopK (s_strings_trimLeftUnicode_l1 call N) N ⟨(T.set (T.set .leaf 0 a0) 1 a1), H⟩ τ (blockK 0 (seqK (s_strings_trimLeftUnicode_j0 call N q) (endK [(.t 4)] q)))
theorem s_strings_trimLeftUnicode_eq (call : CallK) (N : Nat) (a0 a1 : V) (H : Heap) (τ : Tape) (q : KV) : s_strings_trimLeftUnicode call N a0 a1 H τ q = funK call N fn_strings_trimLeftUnicode [a0, a1] H τ q := by kernel_rfl
def e_strings_trimLeftUnicode (call : CallK) (N : Nat) (vs : List V) (H : Heap) (τ : Tape) (q : KV) : Ans := match vs with | [a0, a1] => s_strings_trimLeftUnicode call N a0 a1 H τ q | _ => none
theorem e_strings_trimLeftUnicode_ok : EntOk fn_strings_trimLeftUnicode e_strings_trimLeftUnicode := by
  intro call N vs H τ q r h
  unfold e_strings_trimLeftUnicode at h
  split at h
  · rw [s_strings_trimLeftUnicode_eq] at h; exact h
  · cases h
theorem e_strings_trimLeftUnicode_nat : EntNat e_strings_trimLeftUnicode := by
  intro c hn N vs H τ q
  unfold e_strings_trimLeftUnicode
  split
  · rw [s_strings_trimLeftUnicode_eq, s_strings_trimLeftUnicode_eq]; exact funK_ent hn _ _ _ _ _ _
  · rfl
/-- strings.trimRightUnicode -/
def fn_strings_trimRightUnicode : Fun := ⟨2, (.seq (.reg [iR 4 (.p .mv) [(.c (.str []))]]) (.keep [0, 1] (.seq (.block 0 (.loop (.keep [0, 1] (.seq (.seq (.reg [iR 7 (.p .mv) [(.t 0)], iR 8 (.p .lenS) [(.t 7)], iR 9 (.p (.bin .gtr)) [(.t 8), (.c (.int .i64 (.ofNat 0)))]]) (.keep [0, 1, 9] (.cond (.t 9) .skip (.keep [0] (.exit 0))))) (.keep [0, 1] (.block 1 (.seq (.reg [iR 10 (.p .mv) [(.t 0)], iR 11 (.p .mv) [(.t 0)], iR 12 (.p .lenS) [(.t 11)], iR 13 (.p (.bin .sub)) [(.t 12), (.c (.int .i64 (.ofNat 1)))], iR 14 (.p .strIndex) [(.t 10), (.t 13)], iR 15 (.p (.toInt .i32)) [(.t 14)], iR 5 (.p .mv) [(.t 15)], iR 6 (.p .mv) [(.c (.int .i64 (.ofNat 1)))]]) (.keep [0, 1, 5, 6] (.seq (.seq (.reg [iR 16 (.p .mv) [(.t 5)], iR 17 (.p (.bin .geq)) [(.t 16), (.c (.int .i32 (.ofNat 128)))]]) (.keep [0, 1, 5, 6, 17] (.cond (.t 17) (.reg [iR 19 (.p .mv) [(.t 0)], iR 20 (.call 84) [(.t 19)],
    iR 18 (.p .mv) [(.t 20)], iR 21 (.p (.extract 0)) [(.t 18)], iR 22 (.p (.extract 1)) [(.t 18)], iR 5 (.p .mv) [(.t 21)], iR 6 (.p .mv) [(.t 22)]]) .skip))) (.keep [0, 1, 5, 6] (.seq (.seq (.reg [iR 23 (.p .mv) [(.t 1)], iR 24 (.p .mv) [(.t 5)], iR 25 (.call 83) [(.t 23), (.t 24)], iR 26 (.p (.un .not)) [(.t 25)]]) (.keep [0, 1, 6, 26] (.cond (.t 26) (.keep [0] (.exit 0)) .skip))) (.keep [0, 1, 6] (.reg [iR 27 (.p .mv) [(.t 0)], iR 28 (.p .mv) [(.t 0)], iR 29 (.p .lenS) [(.t 28)], iR 30 (.p .mv) [(.t 6)], iR 31 (.p (.bin .sub)) [(.t 29), (.t 30)], iR 32 (.p (.strSlice false true)) [(.t 27), (.t 31)], iR 0 (.p .mv) [(.t 32)]]))))))))))))) (.keep [0] (.seq (.reg [iR 33 (.p .mv) [(.t 0)], iR 4 (.p .mv) [(.t 33)]]) (.keep [4] (.keep [4] .ret))))))), [(.t 4)]⟩
def s_strings_trimRightUnicode_j0 (call : CallK) (N : Nat) (q : KV) (st : St) (τ : Tape) : Ans := match st with
  | ⟨fr, H⟩ => getK fr 0 fun t0 => q t0 H τ
def s_strings_trimRightUnicode_j2 (call : CallK) (N : Nat) (k : KC) (st : St) (τ : Tape) : Ans := match st with
  | ⟨fr, H⟩ => getK fr 0 fun t0 => getK fr 1 fun t1 => getK fr 5 fun t5 => getK fr 6 fun t6 => call f_strings_ContainsRune [t1, t5] H τ fun v7 H8 τ9 => unK .not v7 fun v10 => condK v10 (k (.exit 0) ⟨(T.set .leaf 0 t0), H8⟩ τ9) (someK (pLenS [t0]) fun v11 => binK .sub v11 t6 fun v12 => someK (pStrSlice false true [t0, v12]) fun v13 => k .normal ⟨(T.set (T.set (T.set (T.set (T.set (T.set (T.set (T.set (T.set (T.set .leaf 0 t0) 1 t1) 6 t6) 27 t0) 28 t0) 29 v11) 30 t6) 31 v12) 32 v13) 0 v13), H8⟩ τ9)
def s_strings_trimRightUnicode_l1 (call : CallK) (N : Nat) (st : St) (τ : Tape) (k : KC) : Ans := match st with
  | ⟨fr, H⟩ => getK fr 0 fun t0 => getK fr 1 fun t1 => someK (pLenS [t0]) fun v0 => binK .gtr v0 (.int .i64 (.ofNat 0)) fun v1 => condK v1 (someK (pLenS [t0]) fun v2 => binK .sub v2 (.int .i64 (.ofNat 1)) fun v3 => someK (pStrIndex [t0, v3]) fun v4 => toIntK .i32 v4 fun v5 => binK .geq v5 (.int .i32 (.ofNat 128)) fun v6 => condK v6 (call f_utf8_DecodeLastRuneInString [t0] H τ fun v14 H15 τ16 => someK (pExtract 0 [v14]) fun v17 => someK (pExtract 1 [v14]) fun v18 => s_strings_trimRightUnicode_j2 call N k ⟨(T.set (T.set (T.set (T.set (T.set (T.set (T.set (T.set (T.set (T.set (T.set (T.set .leaf 0 t0) 1 t1) 5 v5) 6 (.int .i64 (.ofNat 1))) 17 v6) 19 t0) 20 v14) 18 v14) 21 v17) 22 v18) 5 v17) 6 v18), H15⟩ τ16) (s_strings_trimRightUnicode_j2 call N k ⟨(T.set (T.set (T.set (T.set (T.set .leaf 0 t0) 1 t1) 5 v5) 6 (.int .i64 (.ofNat 1))) 17 v6), H⟩ τ)) (k (.exit 0) ⟨(T.set .leaf 0 t0), H⟩ τ)
def s_strings_trimRightUnicode (call : CallK) (N : Nat) (a0 a1 : V) (H : Heap) (τ : Tape) (q : KV) : Ans := loopK (s_strings_trimRightUnicode_l1 call N) N ⟨(T.set (T.set .leaf 0 a0) 1 a1), H⟩ τ (blockK 0 (seqK (s_strings_trimRightUnicode_j0 call N q) (endK [(.t 4)] q)))
theorem s_strings_trimRightUnicode_eq (call : CallK) (N : Nat) (a0 a1 : V) (H : Heap) (τ : Tape) (q : KV) : s_strings_trimRightUnicode call N a0 a1 H τ q = funK call N fn_strings_trimRightUnicode [a0, a1] H τ q := by kernel_rfl
def e_strings_trimRightUnicode (call : CallK) (N : Nat) (vs : List V) (H : Heap) (τ : Tape) (q : KV) : Ans := match vs with | [a0, a1] => s_strings_trimRightUnicode call N a0 a1 H τ q | _ => none
theorem e_strings_trimRightUnicode_ok : EntOk fn_strings_trimRightUnicode e_strings_trimRightUnicode := by
  intro call N vs H τ q r h
  unfold e_strings_trimRightUnicode at h
  split at h
  · rw [s_strings_trimRightUnicode_eq] at h; exact h
  · cases h
theorem e_strings_trimRightUnicode_nat : EntNat e_strings_trimRightUnicode := by
  intro c hn N vs H τ q
  unfold e_strings_trimRightUnicode
  split
  · rw [s_strings_trimRightUnicode_eq, s_strings_trimRightUnicode_eq]; exact funK_ent hn _ _ _ _ _ _
  · rfl
/-- internal/stringslite.CutPrefix -/
def fn_stringslite_CutPrefix : Fun := ⟨2, (.seq (.reg [iR 4 (.p .mv) [(.c (.str []))], iR 5 (.p .mv) [(.c (.bool false))]]) (.keep [0, 1] (.seq (.seq (.reg [iR 6 (.p .mv) [(.t 0)], iR 7 (.p .mv) [(.t 1)], iR 8 (.call 75) [(.t 6), (.t 7)], iR 9 (.p (.un .not)) [(.t 8)]]) (.keep [0, 1, 9] (.cond (.t 9) (.seq (.reg [iR 10 (.p .mv) [(.t 0)], iR 4 (.p .mv) [(.t 10)], iR 5 (.p .mv) [(.c (.bool false))]]) (.keep [4, 5] (.keep [4, 5] .ret))) .skip))) (.keep [0, 1] (.seq (.reg [iR 11 (.p .mv) [(.t 0)], iR 12 (.p .mv) [(.t 1)], iR 13 (.p .lenS) [(.t 12)], iR 14 (.p (.strSlice true false)) [(.t 11), (.t 13)], iR 4 (.p .mv) [(.t 14)], iR 5 (.p .mv) [(.c (.bool true))]]) (.keep [4, 5] (.keep [4, 5] .ret))))))), [(.t 4), (.t 5)]⟩
def s_stringslite_CutPrefix (call : CallK) (N : Nat) (a0 a1 : V) (H : Heap) (τ : Tape) (q : KV) : Ans := call f_stringslite_HasPrefix [a0, a1] H τ fun v0 H1 τ2 => unK .not v0 fun v3 => condK v3 (q (.tup [a0, (.bool false)]) H1 τ2) (someK (pLenS [a1]) fun v4 => someK (pStrSlice true false [a0, v4]) fun v5 => q (.tup [v5, (.bool true)]) H1 τ2)
theorem s_stringslite_CutPrefix_eq (call : CallK) (N : Nat) (a0 a1 : V) (H : Heap) (τ : Tape) (q : KV) : s_stringslite_CutPrefix call N a0 a1 H τ q = funK call N fn_stringslite_CutPrefix [a0, a1] H τ q := by kernel_rfl
def e_stringslite_CutPrefix (call : CallK) (N : Nat) (vs : List V) (H : Heap) (τ : Tape) (q : KV) : Ans := match vs with | [a0, a1] => s_stringslite_CutPrefix call N a0 a1 H τ q | _ => none
theorem e_stringslite_CutPrefix_ok : EntOk fn_stringslite_CutPrefix e_stringslite_CutPrefix := by
  intro call N vs H τ q r h
  unfold e_stringslite_CutPrefix at h
  split at h
  · rw [s_stringslite_CutPrefix_eq] at h; exact h
  · cases h
theorem e_stringslite_CutPrefix_nat : EntNat e_stringslite_CutPrefix := by
  intro c hn N vs H τ q
  unfold e_stringslite_CutPrefix
  split
  · rw [s_stringslite_CutPrefix_eq, s_stringslite_CutPrefix_eq]; exact funK_ent hn _ _ _ _ _ _
  · rfl
/-- internal/stringslite.Cut -/
def fn_stringslite_Cut : Fun := ⟨2, (.seq (.reg [iR 4 (.p .mv) [(.c (.str []))], iR 5 (.p .mv) [(.c (.str []))], iR 6 (.p .mv) [(.c (.bool false))]]) (.keep [0, 1] (.seq (.seq (.reg [iR 8 (.p .mv) [(.t 0)], iR 9 (.p .mv) [(.t 1)], iR 10 (.call 85) [(.t 8), (.t 9)], iR 7 (.p .mv) [(.t 10)]]) (.keep [0, 1, 7] (.seq (.reg [iR 11 (.p .mv) [(.t 7)], iR 12 (.p (.bin .geq)) [(.t 11), (.c (.int .i64 (.ofNat 0)))]]) (.keep [0, 1, 7, 12] (.cond (.t 12) (.seq (.draw [iR 13 (.p .mv) [(.t 0)], iR 14 (.p .mv) [(.t 7)], iR 15 (.p (.strSlice false true)) [(.t 13), (.t 14)], iR 16 (.p .mv) [(.t 0)], iR 17 (.p .mv) [(.t 7)], iR 18 (.p .mv) [(.t 1)], iR 19 (.p .lenS) [(.t 18)], iR 20 (.p (.bin .add)) [(.t 17), (.t 19)], iR 21 (.p (.strSlice true false)) [(.t 16), (.t 20)], iR 4 (.p .mv) [(.t 15)], iR 5 (.p .mv) [(.t 21)], iR 6 (.p .mv) [(.c (.bool true))]]) (.keep [4, 5, 6] (.keep [4, 5, 6] .ret)))
    .skip))))) (.keep [0] (.seq (.reg [iR 22 (.p .mv) [(.t 0)], iR 4 (.p .mv) [(.t 22)], iR 5 (.p .mv) [(.c (.str []))], iR 6 (.p .mv) [(.c (.bool false))]]) (.keep [4, 5, 6] (.keep [4, 5, 6] .ret))))))), [(.t 4), (.t 5), (.t 6)]⟩
def s_stringslite_Cut (call : CallK) (N : Nat) (a0 a1 : V) (H : Heap) (τ : Tape) (q : KV) : Ans := call f_stringslite_Index [a0, a1] H τ fun v0 H1 τ2 => binK .geq v0 (.int .i64 (.ofNat 0)) fun v3 => condK v3 (someK (pStrSlice false true [a0, v0]) fun v4 => someK (pLenS [a1]) fun v5 => binK .add v0 v5 fun v6 => someK (pStrSlice true false [a0, v6]) fun v7 => q (.tup [v4, v7, (.bool true)]) H1 τ2) (q (.tup [a0, (.str []), (.bool false)]) H1 τ2)
theorem s_stringslite_Cut_eq (call : CallK) (N : Nat) (a0 a1 : V) (H : Heap) (τ : Tape) (q : KV) : s_stringslite_Cut call N a0 a1 H τ q = funK call N fn_stringslite_Cut [a0, a1] H τ q := by kernel_rfl
def e_stringslite_Cut (call : CallK) (N : Nat) (vs : List V) (H : Heap) (τ : Tape) (q : KV) : Ans := match vs with | [a0, a1] => s_stringslite_Cut call N a0 a1 H τ q | _ => none
theorem e_stringslite_Cut_ok : EntOk fn_stringslite_Cut e_stringslite_Cut := by
  intro call N vs H τ q r h
  unfold e_stringslite_Cut at h
  split at h
  · rw [s_stringslite_Cut_eq] at h; exact h
  · cases h
theorem e_stringslite_Cut_nat : EntNat e_stringslite_Cut := by
  intro c hn N vs H τ q
  unfold e_stringslite_Cut
  split
  · rw [s_stringslite_Cut_eq, s_stringslite_Cut_eq]; exact funK_ent hn _ _ _ _ _ _
  · rfl
/-- ostiary/infra.Int -/
def fn_infra_Int : Fun := ⟨1, (.seq (.reg [iR 2 (.p .mv) [(.c (.int .i64 (.ofNat 0)))], iR 3 (.p .mv) [(.c (.bool false))]]) (.keep [0] (.seq (.reg [iR 4 (.p .mv) [(.c (.int .i64 (.ofNat 0)))]]) (.keep [0, 4] (.seq (.seq (.reg [iR 8 (.p .mv) [(.t 0)], iR 9 (.p .lenS) [(.t 8)], iR 10 (.p .mv) [(.c (.int .i64 (.ofNat 0)))]]) (.keep [0, 4, 9, 10] (.block 0 (.loop (.keep [0, 4, 9, 10] (.seq (.reg [iR 11 (.p (.bin .lss)) [(.t 10), (.t 9)]]) (.keep [0, 4, 9, 10, 11] (.seq (.cond (.t 11) .skip (.keep [0, 4] (.exit 0))) (.keep [0, 4, 9, 10] (.seq (.block 1 (.seq (.reg [iR 12 (.p .mv) [(.t 10)], iR 5 (.p .mv) [(.t 12)]]) (.keep [0, 4, 5, 9, 10] (.seq (.reg [iR 13 (.p .mv) [(.t 0)], iR 14 (.p .mv) [(.t 5)], iR 15 (.p .strIndex) [(.t 13), (.t 14)], iR 6 (.p .mv) [(.t 15)]]) (.keep [0, 4, 6, 9, 10] (.seq (.seq (.reg [iR 16 (.p .mv) [(.t 6)],
    iR 17 (.p (.bin .lss)) [(.t 16), (.c (.int .u8 (.ofNat 48)))], iR 18 (.p .mv) [(.t 17)], iG 19 18 false (.p .mv) [(.t 6)], iG 20 18 false (.p (.bin .gtr)) [(.t 19), (.c (.int .u8 (.ofNat 57)))], iR 21 (.p .pick) [(.t 18), (.c (.bool true)), (.t 20)]]) (.keep [0, 4, 6, 9, 10, 21] (.cond (.t 21) (.seq (.reg [iR 2 (.p .mv) [(.c (.int .i64 (.ofNat 0)))], iR 3 (.p .mv) [(.c (.bool false))]]) (.keep [2, 3] (.keep [2, 3] .ret))) .skip))) (.keep [0, 4, 6, 9, 10] (.seq (.reg [iR 22 (.p .mv) [(.t 6)], iR 23 (.p (.bin .sub)) [(.t 22), (.c (.int .u8 (.ofNat 48)))], iR 24 (.p (.toInt .i64)) [(.t 23)], iR 7 (.p .mv) [(.t 24)]]) (.keep [0, 4, 7, 9, 10] (.seq (.seq (.reg [iR 25 (.p .mv) [(.t 4)], iR 26 (.p .mv) [(.t 7)], iR 27 (.p (.bin .sub)) [(.c (.int .i64 (.ofNat 9223372036854775807))), (.t 26)], iR 28 (.p (.bin .quo)) [(.t 27), (.c (.int .i64 (.ofNat 10)))],
    iR 29 (.p (.bin .gtr)) [(.t 25), (.t 28)]]) (.keep [0, 4, 7, 9, 10, 29] (.cond (.t 29) (.seq (.reg [iR 4 (.p .mv) [(.c (.int .i64 (.ofNat 9223372036854775807)))]]) (.keep [0, 4, 9, 10] (.keep [0, 4, 9, 10] (.exit 1)))) .skip))) (.keep [0, 4, 7, 9, 10] (.reg [iR 30 (.p .mv) [(.t 4)], iR 31 (.p (.bin .mul)) [(.t 30), (.c (.int .i64 (.ofNat 10)))], iR 32 (.p .mv) [(.t 7)], iR 33 (.p (.bin .add)) [(.t 31), (.t 32)], iR 4 (.p .mv) [(.t 33)]])))))))))))) (.keep [0, 4, 9, 10] (.reg [iR 34 (.p (.bin .add)) [(.t 10), (.c (.int .i64 (.ofNat 1)))], iR 10 (.p .mv) [(.t 34)]])))))))))))) (.keep [0, 4] (.seq (.reg [iR 35 (.p .mv) [(.t 4)], iR 36 (.p .mv) [(.t 0)], iR 37 (.p .lenS) [(.t 36)], iR 38 (.p (.bin .gtr)) [(.t 37), (.c (.int .i64 (.ofNat 0)))], iR 2 (.p .mv) [(.t 35)], iR 3 (.p .mv) [(.t 38)]]) (.keep [2, 3] (.keep [2, 3] .ret))))))))), [(.t 2), (.t 3)]⟩
def s_infra_Int_j0 (call : CallK) (N : Nat) (q : KV) (st : St) (τ : Tape) : Ans := match st with
  | ⟨fr, H⟩ => getK fr 0 fun t0 => getK fr 4 fun t4 => someK (pLenS [t0]) fun v1 => binK .gtr v1 (.int .i64 (.ofNat 0)) fun v2 => q (.tup [t4, v2]) H τ
def s_infra_Int_j2 (call : CallK) (N : Nat) (k : KC) (st : St) (τ : Tape) : Ans := match st with
  | ⟨fr, H⟩ => getK fr 0 fun t0 => getK fr 4 fun t4 => getK fr 9 fun t9 => getK fr 10 fun t10 => binK .add t10 (.int .i64 (.ofNat 1)) fun v4 => k .normal ⟨(T.set (T.set (T.set (T.set (T.set (T.set .leaf 0 t0) 4 t4) 9 t9) 10 t10) 34 v4) 10 v4), H⟩ τ
def s_infra_Int_l1 (call : CallK) (N : Nat) (st : St) (τ : Tape) (k : KC) : Ans := match st with
  | ⟨fr, H⟩ => getK fr 0 fun t0 => getK fr 4 fun t4 => getK fr 9 fun t9 => getK fr 10 fun t10 => binK .lss t10 t9 fun v3 => condK v3 (someK (pStrIndex [t0, t10]) fun v5 => binK .lss v5 (.int .u8 (.ofNat 48)) fun v6 => gK v6 false (fun q' => q' v5 H τ) H τ fun v7 H8 τ9 => gK v6 false (fun q' => binK .gtr v7 (.int .u8 (.ofNat 57)) fun v => q' v H8 τ9) H8 τ9 fun v10 H11 τ12 => someK (pPick [v6, (.bool true), v10]) fun v13 => condK v13 (k .ret ⟨(T.set (T.set .leaf 2 (.int .i64 (.ofNat 0))) 3 (.bool false)), H11⟩ τ12) (binK .sub v5 (.int .u8 (.ofNat 48)) fun v14 => toIntK .i64 v14 fun v15 => binK .sub (.int .i64 (.ofNat 9223372036854775807)) v15 fun v16 => binK .quo v16 (.int .i64 (.ofNat 10)) fun v17 => binK .gtr t4 v17 fun v18 => condK v18 (s_infra_Int_j2 call N k ⟨(T.set (T.set (T.set (T.set .leaf 0 t0) 4 (.int .i64 (.ofNat 9223372036854775807))) 9 t9) 10 t10), H11⟩ τ12)
    (binK .mul t4 (.int .i64 (.ofNat 10)) fun v19 => binK .add v19 v15 fun v20 => s_infra_Int_j2 call N k ⟨(T.set (T.set (T.set (T.set (T.set (T.set (T.set (T.set (T.set (T.set .leaf 0 t0) 4 t4) 7 v15) 9 t9) 10 t10) 30 t4) 31 v19) 32 v15) 33 v20) 4 v20), H11⟩ τ12))) (k (.exit 0) ⟨(T.set (T.set .leaf 0 t0) 4 t4), H⟩ τ)
def s_infra_Int (call : CallK) (N : Nat) (a0 : V) (H : Heap) (τ : Tape) (q : KV) : Ans := someK (pLenS [a0]) fun v0 => loopK (s_infra_Int_l1 call N) N ⟨(T.set (T.set (T.set (T.set .leaf 0 a0) 4 (.int .i64 (.ofNat 0))) 9 v0) 10 (.int .i64 (.ofNat 0))), H⟩ τ (blockK 0 (seqK (s_infra_Int_j0 call N q) (endK [(.t 2), (.t 3)] q)))
theorem s_infra_Int_eq (call : CallK) (N : Nat) (a0 : V) (H : Heap) (τ : Tape) (q : KV) : s_infra_Int call N a0 H τ q = funK call N fn_infra_Int [a0] H τ q := by kernel_rfl
def e_infra_Int (call : CallK) (N : Nat) (vs : List V) (H : Heap) (τ : Tape) (q : KV) : Ans := match vs with | [a0] => s_infra_Int call N a0 H τ q | _ => none
theorem e_infra_Int_ok : EntOk fn_infra_Int e_infra_Int := by
  intro call N vs H τ q r h
  unfold e_infra_Int at h
  split at h
  · rw [s_infra_Int_eq] at h; exact h
  · cases h
theorem e_infra_Int_nat : EntNat e_infra_Int := by
  intro c hn N vs H τ q
  unfold e_infra_Int
  split
  · rw [s_infra_Int_eq, s_infra_Int_eq]; exact funK_ent hn _ _ _ _ _ _
  · rfl
/-- ostiary/infra.mapped -/
def fn_infra_mapped : Fun := ⟨2, (.seq (.reg [iR 4 (.p .mv) [(.c (.str []))]]) (.keep [0, 1] (.seq (.reg [iR 8 (.p .mv) [(.t 0)], iR 9 (.e .strBytes) [(.t 8)], iR 5 (.p .mv) [(.t 9)]]) (.keep [1, 5] (.seq (.seq (.reg [iR 10 (.p .mv) [(.t 5)], iR 11 (.p .len) [(.t 10)], iR 12 (.p .mv) [(.c (.int .i64 (.ofNat 0)))]]) (.keep [1, 5, 10, 11, 12] (.block 0 (.loop (.keep [1, 5, 10, 11, 12] (.seq (.reg [iR 13 (.p (.bin .lss)) [(.t 12), (.t 11)]]) (.keep [1, 5, 10, 11, 12, 13] (.seq (.cond (.t 13) .skip (.keep [5] (.exit 0))) (.keep [1, 5, 10, 11, 12] (.seq (.block 1 (.seq (.reg [iR 14 (.p .mv) [(.t 12)], iR 15 (.p (.slIdx 1)) [(.t 10), (.t 12)], iR 16 (.l (.load none)) [(.t 15)], iR 6 (.p .mv) [(.t 14)], iR 7 (.p .mv) [(.t 16)]]) (.keep [1, 5, 6, 7, 10, 11, 12] (.reg [iR 17 (.p .mv) [(.t 5)], iR 18 (.p .mv) [(.t 6)], iR 19 (.p .mv) [(.t 1)], iR 20 (.p .mv) [(.t 7)],
    iR 21 .callv [(.t 19), (.t 20)], iR 22 (.p (.slIdx 1)) [(.t 17), (.t 18)], ⟨none, none, (.e (.store 1)), [(.t 22), (.t 21)], none⟩])))) (.keep [1, 5, 10, 11, 12] (.reg [iR 23 (.p (.bin .add)) [(.t 12), (.c (.int .i64 (.ofNat 1)))], iR 12 (.p .mv) [(.t 23)]])))))))))))) (.keep [5] (.seq (.reg [iR 24 (.p .mv) [(.t 5)], iR 25 (.l .bytesStr) [(.t 24)], iR 4 (.p .mv) [(.t 25)]]) (.keep [4] (.keep [4] .ret))))))))), [(.t 4)]⟩
def s_infra_mapped_j0 (call : CallK) (N : Nat) (q : KV) (st : St) (τ : Tape) : Ans := match st with
  | ⟨fr, H⟩ => getK fr 5 fun t5 => someK (lBytesStr [t5] H) fun v4 => q v4 H τ
def s_infra_mapped_l1 (call : CallK) (N : Nat) (st : St) (τ : Tape) (k : KC) : Ans := match st with
  | ⟨fr, H⟩ => getK fr 1 fun t1 => getK fr 5 fun t5 => getK fr 10 fun t10 => getK fr 11 fun t11 => getK fr 12 fun t12 => binK .lss t12 t11 fun v5 => condK v5 (someK (pSlIdx 1 [t10, t12]) fun v6 => someK (lLoad1 [v6] H) fun v7 => opK call .callv [t1, v7] H τ fun v8 H9 τ10 => someK (pSlIdx 1 [t5, t12]) fun v11 => effK (eStore 1 [v11, v8] H9 τ10) fun v12 H13 τ14 => binK .add t12 (.int .i64 (.ofNat 1)) fun v15 => k .normal ⟨(T.set (T.set (T.set (T.set (T.set (T.set (T.set .leaf 1 t1) 5 t5) 10 t10) 11 t11) 12 t12) 23 v15) 12 v15), H13⟩ τ14) (k (.exit 0) ⟨(T.set .leaf 5 t5), H⟩ τ)
def s_infra_mapped (call : CallK) (N : Nat) (a0 a1 : V) (H : Heap) (τ : Tape) (q : KV) : Ans := effK (eStrBytes [a0] H τ) fun v0 H1 τ2 => someK (pLen [v0]) fun v3 => loopK (s_infra_mapped_l1 call N) N ⟨(T.set (T.set (T.set (T.set (T.set .leaf 1 a1) 5 v0) 10 v0) 11 v3) 12 (.int .i64 (.ofNat 0))), H1⟩ τ2 (blockK 0 (seqK (s_infra_mapped_j0 call N q) (endK [(.t 4)] q)))
theorem s_infra_mapped_eq (call : CallK) (N : Nat) (a0 a1 : V) (H : Heap) (τ : Tape) (q : KV) : s_infra_mapped call N a0 a1 H τ q = funK call N fn_infra_mapped [a0, a1] H τ q := by kernel_rfl
def e_infra_mapped (call : CallK) (N : Nat) (vs : List V) (H : Heap) (τ : Tape) (q : KV) : Ans := match vs with | [a0, a1] => s_infra_mapped call N a0 a1 H τ q | _ => none
theorem e_infra_mapped_ok : EntOk fn_infra_mapped e_infra_mapped := by
  intro call N vs H τ q r h
  unfold e_infra_mapped at h
  split at h
  · rw [s_infra_mapped_eq] at h; exact h
  · cases h
theorem e_infra_mapped_nat : EntNat e_infra_mapped := by
  intro c hn N vs H τ q
  unfold e_infra_mapped
  split
  · rw [s_infra_mapped_eq, s_infra_mapped_eq]; exact funK_ent hn _ _ _ _ _ _
  · rfl
/-- ostiary/infra.Lower$1 -/
def fn_infra_Lower_1 : Fun := ⟨1, (.seq (.reg [iR 2 (.p .mv) [(.c (.int .u8 (.ofNat 0)))]]) (.keep [0] (.seq (.seq (.reg [iR 3 (.p .mv) [(.t 0)], iR 4 (.p (.bin .geq)) [(.t 3), (.c (.int .u8 (.ofNat 65)))], iR 5 (.p .mv) [(.t 4)], iG 6 5 true (.p .mv) [(.t 0)], iG 7 5 true (.p (.bin .leq)) [(.t 6), (.c (.int .u8 (.ofNat 90)))], iR 8 (.p .pick) [(.t 5), (.t 7), (.c (.bool false))]]) (.keep [0, 8] (.cond (.t 8) (.reg [iR 9 (.p .mv) [(.t 0)], iR 10 (.p (.bin .add)) [(.t 9), (.c (.int .u8 (.ofNat 32)))], iR 0 (.p .mv) [(.t 10)]]) .skip))) (.keep [0] (.seq (.reg [iR 11 (.p .mv) [(.t 0)], iR 2 (.p .mv) [(.t 11)]]) (.keep [2] (.keep [2] .ret))))))), [(.t 2)]⟩
def s_infra_Lower_1_j0 (call : CallK) (N : Nat) (q : KV) (st : St) (τ : Tape) : Ans := match st with
  | ⟨fr, H⟩ => getK fr 0 fun t0 => q t0 H τ
def s_infra_Lower_1 (call : CallK) (N : Nat) (a0 : V) (H : Heap) (τ : Tape) (q : KV) : Ans := binK .geq a0 (.int .u8 (.ofNat 65)) fun v0 => gK v0 true (fun q' => q' a0 H τ) H τ fun v1 H2 τ3 => gK v0 true (fun q' => binK .leq v1 (.int .u8 (.ofNat 90)) fun v => q' v H2 τ3) H2 τ3 fun v4 H5 τ6 => someK (pPick [v0, v4, (.bool false)]) fun v7 => condK v7 (binK .add a0 (.int .u8 (.ofNat 32)) fun v8 => s_infra_Lower_1_j0 call N q ⟨(T.set (T.set (T.set (T.set (T.set .leaf 0 a0) 8 v7) 9 a0) 10 v8) 0 v8), H5⟩ τ6) (s_infra_Lower_1_j0 call N q ⟨(T.set (T.set .leaf 0 a0) 8 v7), H5⟩ τ6)
theorem s_infra_Lower_1_eq (call : CallK) (N : Nat) (a0 : V) (H : Heap) (τ : Tape) (q : KV) : s_infra_Lower_1 call N a0 H τ q = funK call N fn_infra_Lower_1 [a0] H τ q := by kernel_rfl
def e_infra_Lower_1 (call : CallK) (N : Nat) (vs : List V) (H : Heap) (τ : Tape) (q : KV) : Ans := match vs with | [a0] => s_infra_Lower_1 call N a0 H τ q | _ => none
theorem e_infra_Lower_1_ok : EntOk fn_infra_Lower_1 e_infra_Lower_1 := by
  intro call N vs H τ q r h
  unfold e_infra_Lower_1 at h
  split at h
  · rw [s_infra_Lower_1_eq] at h; exact h
  · cases h
theorem e_infra_Lower_1_nat : EntNat e_infra_Lower_1 := by
  intro c hn N vs H τ q
  unfold e_infra_Lower_1
  split
  · rw [s_infra_Lower_1_eq, s_infra_Lower_1_eq]; exact funK_ent hn _ _ _ _ _ _
  · rfl
/-- strings.IndexByte -/
def fn_strings_IndexByte : Fun := ⟨2, (.seq (.reg [iR 4 (.p .mv) [(.c (.int .i64 (.ofNat 0)))]]) (.keep [0, 1] (.seq (.reg [iR 5 (.p .mv) [(.t 0)], iR 6 (.p .mv) [(.t 1)], iR 7 (.call 86) [(.t 5), (.t 6)], iR 4 (.p .mv) [(.t 7)]]) (.keep [4] (.keep [4] .ret))))), [(.t 4)]⟩
def s_strings_IndexByte (call : CallK) (N : Nat) (a0 a1 : V) (H : Heap) (τ : Tape) (q : KV) : Ans := call f_stringslite_IndexByte [a0, a1] H τ fun v0 H1 τ2 => q v0 H1 τ2
theorem s_strings_IndexByte_eq (call : CallK) (N : Nat) (a0 a1 : V) (H : Heap) (τ : Tape) (q : KV) : s_strings_IndexByte call N a0 a1 H τ q = funK call N fn_strings_IndexByte [a0, a1] H τ q := by kernel_rfl
def e_strings_IndexByte (call : CallK) (N : Nat) (vs : List V) (H : Heap) (τ : Tape) (q : KV) : Ans := match vs with | [a0, a1] => s_strings_IndexByte call N a0 a1 H τ q | _ => none
theorem e_strings_IndexByte_ok : EntOk fn_strings_IndexByte e_strings_IndexByte := by
  intro call N vs H τ q r h
  unfold e_strings_IndexByte at h
  split at h
  · rw [s_strings_IndexByte_eq] at h; exact h
  · cases h
theorem e_strings_IndexByte_nat : EntNat e_strings_IndexByte := by
  intro c hn N vs H τ q
  unfold e_strings_IndexByte
  split
  · rw [s_strings_IndexByte_eq, s_strings_IndexByte_eq]; exact funK_ent hn _ _ _ _ _ _
  · rfl
/-- internal/stringslite.HasPrefix -/
def fn_stringslite_HasPrefix : Fun := ⟨2, (.seq (.reg [iR 4 (.p .mv) [(.c (.bool false))]]) (.keep [0, 1] (.seq (.reg [iR 5 (.p .mv) [(.t 0)], iR 6 (.p .lenS) [(.t 5)], iR 7 (.p .mv) [(.t 1)], iR 8 (.p .lenS) [(.t 7)], iR 9 (.p (.bin .geq)) [(.t 6), (.t 8)], iR 10 (.p .mv) [(.t 9)], iG 11 10 true (.p .mv) [(.t 0)], iG 12 10 true (.p .mv) [(.t 1)], iG 13 10 true (.p .lenS) [(.t 12)], iG 14 10 true (.p (.strSlice false true)) [(.t 11), (.t 13)], iG 15 10 true (.p .mv) [(.t 1)], iG 16 10 true (.p (.bin .eql)) [(.t 14), (.t 15)], iR 17 (.p .pick) [(.t 10), (.t 16), (.c (.bool false))], iR 4 (.p .mv) [(.t 17)]]) (.keep [4] (.keep [4] .ret))))), [(.t 4)]⟩
def s_stringslite_HasPrefix (call : CallK) (N : Nat) (a0 a1 : V) (H : Heap) (τ : Tape) (q : KV) : Ans := someK (pLenS [a0]) fun v0 => someK (pLenS [a1]) fun v1 => binK .geq v0 v1 fun v2 => gK v2 true (fun q' => q' a0 H τ) H τ fun v3 H4 τ5 => gK v2 true (fun q' => q' a1 H4 τ5) H4 τ5 fun v6 H7 τ8 => gK v2 true (fun q' => someK (pLenS [v6]) fun v => q' v H7 τ8) H7 τ8 fun v9 H10 τ11 => gK v2 true (fun q' => someK (pStrSlice false true [v3, v9]) fun v => q' v H10 τ11) H10 τ11 fun v12 H13 τ14 => gK v2 true (fun q' => q' a1 H13 τ14) H13 τ14 fun v15 H16 τ17 => gK v2 true (fun q' => binK .eql v12 v15 fun v => q' v H16 τ17) H16 τ17 fun v18 H19 τ20 => someK (pPick [v2, v18, (.bool false)]) fun v21 => q v21 H19 τ20
theorem s_stringslite_HasPrefix_eq (call : CallK) (N : Nat) (a0 a1 : V) (H : Heap) (τ : Tape) (q : KV) : s_stringslite_HasPrefix call N a0 a1 H τ q = funK call N fn_stringslite_HasPrefix [a0, a1] H τ q := by kernel_rfl
def e_stringslite_HasPrefix (call : CallK) (N : Nat) (vs : List V) (H : Heap) (τ : Tape) (q : KV) : Ans := match vs with | [a0, a1] => s_stringslite_HasPrefix call N a0 a1 H τ q | _ => none
theorem e_stringslite_HasPrefix_ok : EntOk fn_stringslite_HasPrefix e_stringslite_HasPrefix := by
  intro call N vs H τ q r h
  unfold e_stringslite_HasPrefix at h
  split at h
  · rw [s_stringslite_HasPrefix_eq] at h; exact h
  · cases h
theorem e_stringslite_HasPrefix_nat : EntNat e_stringslite_HasPrefix := by
  intro c hn N vs H τ q
  unfold e_stringslite_HasPrefix
  split
  · rw [s_stringslite_HasPrefix_eq, s_stringslite_HasPrefix_eq]; exact funK_ent hn _ _ _ _ _ _
  · rfl
/-- (*strings.asciiSet).contains -/
def fn_asciiSet_contains : Fun := ⟨2, (.seq (.reg [iR 4 (.p .mv) [(.c (.bool false))]]) (.keep [0, 1] (.seq (.reg [iR 5 (.p .mv) [(.t 0)], iR 6 (.p .mv) [(.t 1)], iR 7 (.p .nilck) [(.t 5)], iR 8 (.p (.arrIdx 256 1)) [(.t 7), (.t 6)], iR 9 (.l (.load none)) [(.t 8)], iR 4 (.p .mv) [(.t 9)]]) (.keep [4] (.keep [4] .ret))))), [(.t 4)]⟩
def s_asciiSet_contains (call : CallK) (N : Nat) (a0 a1 : V) (H : Heap) (τ : Tape) (q : KV) : Ans := someK (pNilck [a0]) fun v0 => someK (pArrIdx 256 1 [v0, a1]) fun v1 => someK (lLoad1 [v1] H) fun v2 => q v2 H τ
theorem s_asciiSet_contains_eq (call : CallK) (N : Nat) (a0 a1 : V) (H : Heap) (τ : Tape) (q : KV) : s_asciiSet_contains call N a0 a1 H τ q = funK call N fn_asciiSet_contains [a0, a1] H τ q := by kernel_rfl
def e_asciiSet_contains (call : CallK) (N : Nat) (vs : List V) (H : Heap) (τ : Tape) (q : KV) : Ans := match vs with | [a0, a1] => s_asciiSet_contains call N a0 a1 H τ q | _ => none
theorem e_asciiSet_contains_ok : EntOk fn_asciiSet_contains e_asciiSet_contains := by
  intro call N vs H τ q r h
  unfold e_asciiSet_contains at h
  split at h
  · rw [s_asciiSet_contains_eq] at h; exact h
  · cases h
theorem e_asciiSet_contains_nat : EntNat e_asciiSet_contains := by
  intro c hn N vs H τ q
  unfold e_asciiSet_contains
  split
  · rw [s_asciiSet_contains_eq, s_asciiSet_contains_eq]; exact funK_ent hn _ _ _ _ _ _
  · rfl
/-- unicode/utf8.DecodeRuneInString -/
def fn_utf8_DecodeRuneInString : Fun := ⟨1, (.seq (.reg [iR 2 (.p .mv) [(.c (.int .i32 (.ofNat 0)))], iR 3 (.p .mv) [(.c (.int .i64 (.ofNat 0)))]]) (.keep [0] (.seq (.seq (.reg [iR 4 (.p .mv) [(.t 0)], iR 5 (.p (.bin .neq)) [(.t 4), (.c (.str []))], iR 6 (.p .mv) [(.t 5)], iG 7 6 true (.p .mv) [(.t 0)], iG 8 6 true (.p .strIndex) [(.t 7), (.c (.int .i64 (.ofNat 0)))], iG 9 6 true (.p (.bin .lss)) [(.t 8), (.c (.int .u8 (.ofNat 128)))], iR 10 (.p .pick) [(.t 6), (.t 9), (.c (.bool false))]]) (.keep [0, 10] (.cond (.t 10) (.seq (.reg [iR 11 (.p .mv) [(.t 0)], iR 12 (.p .strIndex) [(.t 11), (.c (.int .i64 (.ofNat 0)))], iR 13 (.p (.toInt .i32)) [(.t 12)], iR 2 (.p .mv) [(.t 13)], iR 3 (.p .mv) [(.c (.int .i64 (.ofNat 1)))]]) (.keep [2, 3] (.keep [2, 3] .ret))) (.reg [iR 15 (.p .mv) [(.t 0)], iR 16 (.call 105) [(.t 15)], iR 14 (.p .mv) [(.t 16)], iR 17 (.p (.extract 0)) [(.t 14)],
    iR 18 (.p (.extract 1)) [(.t 14)], iR 2 (.p .mv) [(.t 17)], iR 3 (.p .mv) [(.t 18)]])))) (.keep [2, 3] (.keep [2, 3] .ret))))), [(.t 2), (.t 3)]⟩
def s_utf8_DecodeRuneInString (call : CallK) (N : Nat) (a0 : V) (H : Heap) (τ : Tape) (q : KV) : Ans := binK .neq a0 (.str []) fun v0 => gK v0 true (fun q' => q' a0 H τ) H τ fun v1 H2 τ3 => gK v0 true (fun q' => someK (pStrIndex [v1, (.int .i64 (.ofNat 0))]) fun v => q' v H2 τ3) H2 τ3 fun v4 H5 τ6 => gK v0 true (fun q' => binK .lss v4 (.int .u8 (.ofNat 128)) fun v => q' v H5 τ6) H5 τ6 fun v7 H8 τ9 => someK (pPick [v0, v7, (.bool false)]) fun v10 => condK v10 (someK (pStrIndex [a0, (.int .i64 (.ofNat 0))]) fun v11 => toIntK .i32 v11 fun v12 => q (.tup [v12, (.int .i64 (.ofNat 1))]) H8 τ9) (call f_utf8_decodeRuneInStringSlow [a0] H8 τ9 fun v13 H14 τ15 => someK (pExtract 0 [v13]) fun v16 => someK (pExtract 1 [v13]) fun v17 => q (.tup [v16, v17]) H14 τ15)
theorem s_utf8_DecodeRuneInString_eq (call : CallK) (N : Nat) (a0 : V) (H : Heap) (τ : Tape) (q : KV) : s_utf8_DecodeRuneInString call N a0 H τ q = funK call N fn_utf8_DecodeRuneInString [a0] H τ q := by kernel_rfl
def e_utf8_DecodeRuneInString (call : CallK) (N : Nat) (vs : List V) (H : Heap) (τ : Tape) (q : KV) : Ans := match vs with | [a0] => s_utf8_DecodeRuneInString call N a0 H τ q | _ => none
theorem e_utf8_DecodeRuneInString_ok : EntOk fn_utf8_DecodeRuneInString e_utf8_DecodeRuneInString := by
  intro call N vs H τ q r h
  unfold e_utf8_DecodeRuneInString at h
  split at h
  · rw [s_utf8_DecodeRuneInString_eq] at h; exact h
  · cases h
theorem e_utf8_DecodeRuneInString_nat : EntNat e_utf8_DecodeRuneInString := by
  intro c hn N vs H τ q
  unfold e_utf8_DecodeRuneInString
  split
  · rw [s_utf8_DecodeRuneInString_eq, s_utf8_DecodeRuneInString_eq]; exact funK_ent hn _ _ _ _ _ _
  · rfl
/-- strings.ContainsRune -/
def fn_strings_ContainsRune : Fun := ⟨2, (.seq (.reg [iR 4 (.p .mv) [(.c (.bool false))]]) (.keep [0, 1] (.seq (.reg [iR 5 (.p .mv) [(.t 0)], iR 6 (.p .mv) [(.t 1)], iR 7 (.call 92) [(.t 5), (.t 6)], iR 8 (.p (.bin .geq)) [(.t 7), (.c (.int .i64 (.ofNat 0)))], iR 4 (.p .mv) [(.t 8)]]) (.keep [4] (.keep [4] .ret))))), [(.t 4)]⟩
def s_strings_ContainsRune (call : CallK) (N : Nat) (a0 a1 : V) (H : Heap) (τ : Tape) (q : KV) : Ans := call f_strings_IndexRune [a0, a1] H τ fun v0 H1 τ2 => binK .geq v0 (.int .i64 (.ofNat 0)) fun v3 => q v3 H1 τ2
theorem s_strings_ContainsRune_eq (call : CallK) (N : Nat) (a0 a1 : V) (H : Heap) (τ : Tape) (q : KV) : s_strings_ContainsRune call N a0 a1 H τ q = funK call N fn_strings_ContainsRune [a0, a1] H τ q := by kernel_rfl
def e_strings_ContainsRune (call : CallK) (N : Nat) (vs : List V) (H : Heap) (τ : Tape) (q : KV) : Ans := match vs with | [a0, a1] => s_strings_ContainsRune call N a0 a1 H τ q | _ => none
theorem e_strings_ContainsRune_ok : EntOk fn_strings_ContainsRune e_strings_ContainsRune := by
  intro call N vs H τ q r h
  unfold e_strings_ContainsRune at h
  split at h
  · rw [s_strings_ContainsRune_eq] at h; exact h
  · cases h
theorem e_strings_ContainsRune_nat : EntNat e_strings_ContainsRune := by
  intro c hn N vs H τ q
  unfold e_strings_ContainsRune
  split
  · rw [s_strings_ContainsRune_eq, s_strings_ContainsRune_eq]; exact funK_ent hn _ _ _ _ _ _
  · rfl
/-- unicode/utf8.DecodeLastRuneInString -/
def fn_utf8_DecodeLastRuneInString : Fun := ⟨1, (.seq (.reg [iR 2 (.p .mv) [(.c (.int .i32 (.ofNat 0)))], iR 3 (.p .mv) [(.c (.int .i64 (.ofNat 0)))]]) (.keep [0] (.seq (.reg [iR 7 (.p .mv) [(.t 0)], iR 8 (.p .lenS) [(.t 7)], iR 4 (.p .mv) [(.t 8)]]) (.keep [0, 4] (.seq (.seq (.reg [iR 9 (.p .mv) [(.t 4)], iR 10 (.p (.bin .eql)) [(.t 9), (.c (.int .i64 (.ofNat 0)))]]) (.keep [0, 4, 10] (.cond (.t 10) (.seq (.reg [iR 2 (.p .mv) [(.c (.int .i32 (.ofNat 65533)))], iR 3 (.p .mv) [(.c (.int .i64 (.ofNat 0)))]]) (.keep [2, 3] (.keep [2, 3] .ret))) .skip))) (.keep [0, 4] (.seq (.reg [iR 11 (.p .mv) [(.t 4)], iR 12 (.p (.bin .sub)) [(.t 11), (.c (.int .i64 (.ofNat 1)))], iR 5 (.p .mv) [(.t 12)]]) (.keep [0, 4, 5] (.seq (.reg [iR 13 (.p .mv) [(.t 0)], iR 14 (.p .mv) [(.t 5)], iR 15 (.p .strIndex) [(.t 13), (.t 14)], iR 16 (.p (.toInt .i32)) [(.t 15)], iR 2 (.p .mv) [(.t 16)]])
    (.keep [0, 2, 4, 5] (.seq (.seq (.reg [iR 17 (.p .mv) [(.t 2)], iR 18 (.p (.bin .lss)) [(.t 17), (.c (.int .i32 (.ofNat 128)))]]) (.keep [0, 2, 4, 5, 18] (.cond (.t 18) (.seq (.reg [iR 19 (.p .mv) [(.t 2)], iR 2 (.p .mv) [(.t 19)], iR 3 (.p .mv) [(.c (.int .i64 (.ofNat 1)))]]) (.keep [2, 3] (.keep [2, 3] .ret))) .skip))) (.keep [0, 4, 5] (.seq (.reg [iR 20 (.p .mv) [(.t 4)], iR 21 (.p (.bin .sub)) [(.t 20), (.c (.int .i64 (.ofNat 4)))], iR 22 (.p .max2) [(.t 21), (.c (.int .i64 (.ofNat 0)))], iR 6 (.p .mv) [(.t 22)]]) (.keep [0, 4, 5, 6] (.seq (.seq (.reg [iR 23 (.p .mv) [(.t 5)], iR 24 (.p (.bin .sub)) [(.t 23), (.c (.int .i64 (.ofNat 1)))], iR 5 (.p .mv) [(.t 24)]]) (.keep [0, 4, 5, 6] (.block 0 (.loop (.keep [0, 4, 5, 6] (.seq (.seq (.reg [iR 25 (.p .mv) [(.t 5)], iR 26 (.p .mv) [(.t 6)], iR 27 (.p (.bin .geq)) [(.t 25), (.t 26)]]) (.keep [0, 4, 5, 6, 27] (.cond (.t 27) .skip
    (.keep [0, 4, 5] (.exit 0))))) (.keep [0, 4, 5, 6] (.seq (.block 1 (.seq (.reg [iR 30 (.p .mv) [(.t 0)], iR 31 (.p .mv) [(.t 5)], iR 32 (.p .strIndex) [(.t 30), (.t 31)], iR 33 (.call 106) [(.t 32)]]) (.keep [0, 4, 5, 6, 33] (.cond (.t 33) (.keep [0, 4, 5] (.exit 0)) .skip)))) (.keep [0, 4, 5, 6] (.reg [iR 28 (.p .mv) [(.t 5)], iR 29 (.p (.bin .sub)) [(.t 28), (.c (.int .i64 (.ofNat 1)))], iR 5 (.p .mv) [(.t 29)]])))))))))) (.keep [0, 4, 5] (.seq (.seq (.reg [iR 34 (.p .mv) [(.t 5)], iR 35 (.p (.bin .lss)) [(.t 34), (.c (.int .i64 (.ofNat 0)))]]) (.keep [0, 4, 5, 35] (.cond (.t 35) (.reg [iR 5 (.p .mv) [(.c (.int .i64 (.ofNat 0)))]]) .skip))) (.keep [0, 4, 5] (.seq (.reg [iR 37 (.p .mv) [(.t 0)], iR 38 (.p .mv) [(.t 5)], iR 39 (.p .mv) [(.t 4)], iR 40 (.p (.strSlice true true)) [(.t 37), (.t 38), (.t 39)], iR 41 (.call 82) [(.t 40)], iR 36 (.p .mv) [(.t 41)],
    iR 42 (.p (.extract 0)) [(.t 36)], iR 43 (.p (.extract 1)) [(.t 36)], iR 2 (.p .mv) [(.t 42)], iR 3 (.p .mv) [(.t 43)]]) (.keep [2, 3, 4, 5] (.seq (.seq (.reg [iR 44 (.p .mv) [(.t 5)], iR 45 (.p .mv) [(.t 3)], iR 46 (.p (.bin .add)) [(.t 44), (.t 45)], iR 47 (.p .mv) [(.t 4)], iR 48 (.p (.bin .neq)) [(.t 46), (.t 47)]]) (.keep [2, 3, 48] (.cond (.t 48) (.seq (.reg [iR 2 (.p .mv) [(.c (.int .i32 (.ofNat 65533)))], iR 3 (.p .mv) [(.c (.int .i64 (.ofNat 1)))]]) (.keep [2, 3] (.keep [2, 3] .ret))) .skip))) (.keep [2, 3] (.seq (.reg [iR 49 (.p .mv) [(.t 2)], iR 50 (.p .mv) [(.t 3)], iR 2 (.p .mv) [(.t 49)], iR 3 (.p .mv) [(.t 50)]]) (.keep [2, 3] (.keep [2, 3] .ret))))))))))))))))))))))))), [(.t 2), (.t 3)]⟩
def s_utf8_DecodeLastRuneInString_j1 (call : CallK) (N : Nat) (q : KV) (st : St) (τ : Tape) : Ans := match st with
  | ⟨fr, H⟩ => getK fr 0 fun t0 => getK fr 4 fun t4 => getK fr 5 fun t5 => someK (pStrSlice true true [t0, t5, t4]) fun v10 => call f_utf8_DecodeRuneInString [v10] H τ fun v11 H12 τ13 => someK (pExtract 0 [v11]) fun v14 => someK (pExtract 1 [v11]) fun v15 => binK .add t5 v15 fun v16 => binK .neq v16 t4 fun v17 => condK v17 (q (.tup [(.int .i32 (.ofNat 65533)), (.int .i64 (.ofNat 1))]) H12 τ13) (q (.tup [v14, v15]) H12 τ13)
def s_utf8_DecodeLastRuneInString_j0 (call : CallK) (N : Nat) (q : KV) (st : St) (τ : Tape) : Ans := match st with
  | ⟨fr, H⟩ => getK fr 0 fun t0 => getK fr 4 fun t4 => getK fr 5 fun t5 => binK .lss t5 (.int .i64 (.ofNat 0)) fun v9 => condK v9 (s_utf8_DecodeLastRuneInString_j1 call N q ⟨(T.set (T.set (T.set (T.set (T.set .leaf 0 t0) 4 t4) 5 t5) 35 v9) 5 (.int .i64 (.ofNat 0))), H⟩ τ) (s_utf8_DecodeLastRuneInString_j1 call N q ⟨(T.set (T.set (T.set (T.set .leaf 0 t0) 4 t4) 5 t5) 35 v9), H⟩ τ)
def s_utf8_DecodeLastRuneInString_l2 (call : CallK) (N : Nat) (st : St) (τ : Tape) (k : KC) : Ans := match st with
  | ⟨fr, H⟩ => getK fr 0 fun t0 => getK fr 4 fun t4 => getK fr 5 fun t5 => getK fr 6 fun t6 => binK .geq t5 t6 fun v18 => condK v18 (someK (pStrIndex [t0, t5]) fun v19 => call f_utf8_RuneStart [v19] H τ fun v20 H21 τ22 => condK v20 (k (.exit 0) ⟨(T.set (T.set (T.set .leaf 0 t0) 4 t4) 5 t5), H21⟩ τ22) (binK .sub t5 (.int .i64 (.ofNat 1)) fun v23 => k .normal ⟨(T.set (T.set (T.set (T.set (T.set (T.set (T.set .leaf 0 t0) 4 t4) 5 t5) 6 t6) 28 t5) 29 v23) 5 v23), H21⟩ τ22)) (k (.exit 0) ⟨(T.set (T.set (T.set .leaf 0 t0) 4 t4) 5 t5), H⟩ τ)
def s_utf8_DecodeLastRuneInString (call : CallK) (N : Nat) (a0 : V) (H : Heap) (τ : Tape) (q : KV) : Ans := someK (pLenS [a0]) fun v0 => binK .eql v0 (.int .i64 (.ofNat 0)) fun v1 => condK v1 (q (.tup [(.int .i32 (.ofNat 65533)), (.int .i64 (.ofNat 0))]) H τ) (binK .sub v0 (.int .i64 (.ofNat 1)) fun v2 => someK (pStrIndex [a0, v2]) fun v3 => toIntK .i32 v3 fun v4 => binK .lss v4 (.int .i32 (.ofNat 128)) fun v5 => condK v5 (q (.tup [v4, (.int .i64 (.ofNat 1))]) H τ) (binK .sub v0 (.int .i64 (.ofNat 4)) fun v6 => someK (pMax [v6, (.int .i64 (.ofNat 0))]) fun v7 => binK .sub v2 (.int .i64 (.ofNat 1)) fun v8 => loopK (s_utf8_DecodeLastRuneInString_l2 call N) N ⟨(T.set (T.set (T.set (T.set .leaf 0 a0) 4 v0) 5 v8) 6 v7), H⟩ τ (blockK 0 (seqK (s_utf8_DecodeLastRuneInString_j0 call N q) (endK [(.t 2), (.t 3)] q)))))
theorem s_utf8_DecodeLastRuneInString_eq (call : CallK) (N : Nat) (a0 : V) (H : Heap) (τ : Tape) (q : KV) : s_utf8_DecodeLastRuneInString call N a0 H τ q = funK call N fn_utf8_DecodeLastRuneInString [a0] H τ q := by kernel_rfl
def e_utf8_DecodeLastRuneInString (call : CallK) (N : Nat) (vs : List V) (H : Heap) (τ : Tape) (q : KV) : Ans := match vs with | [a0] => s_utf8_DecodeLastRuneInString call N a0 H τ q | _ => none
theorem e_utf8_DecodeLastRuneInString_ok : EntOk fn_utf8_DecodeLastRuneInString e_utf8_DecodeLastRuneInString := by
  intro call N vs H τ q r h
  unfold e_utf8_DecodeLastRuneInString at h
  split at h
  · rw [s_utf8_DecodeLastRuneInString_eq] at h; exact h
  · cases h
theorem e_utf8_DecodeLastRuneInString_nat : EntNat e_utf8_DecodeLastRuneInString := by
  intro c hn N vs H τ q
  unfold e_utf8_DecodeLastRuneInString
  split
  · rw [s_utf8_DecodeLastRuneInString_eq, s_utf8_DecodeLastRuneInString_eq]; exact funK_ent hn _ _ _ _ _ _
  · rfl
/-- internal/stringslite.Index -/
def fn_stringslite_Index : Fun := ⟨2, (.seq (.reg [iR 4 (.p .mv) [(.c (.int .i64 (.ofNat 0)))]]) (.keep [0, 1] (.seq (.reg [iR 14 (.p .mv) [(.t 1)], iR 15 (.p .lenS) [(.t 14)], iR 5 (.p .mv) [(.t 15)]]) (.keep [0, 1, 5] (.seq (.block 0 (.seq (.reg [iR 17 (.p .mv) [(.t 5)], iR 18 (.p (.bin .eql)) [(.t 17), (.c (.int .i64 (.ofNat 0)))], iR 19 (.p .mv) [(.t 18)], iG 20 19 false (.p .mv) [(.t 1)], iG 21 19 false (.p .mv) [(.t 0)], iG 22 19 false (.p (.bin .eql)) [(.t 20), (.t 21)], iR 23 (.p .pick) [(.t 19), (.c (.bool true)), (.t 22)], iR 16 (.p .mv) [(.t 23)]]) (.keep [0, 1, 5, 16] (.cond (.t 16) (.seq (.reg [iR 4 (.p .mv) [(.c (.int .i64 (.ofNat 0)))]]) (.keep [4] (.keep [4] .ret))) (.seq (.reg [iR 25 (.p .mv) [(.t 5)], iR 26 (.p (.bin .eql)) [(.t 25), (.c (.int .i64 (.ofNat 1)))], iR 24 (.p .mv) [(.t 26)]]) (.keep [0, 1, 5, 24] (.cond (.t 24) (.seq (.reg [iR 27 (.p .mv) [(.t 0)],
    iR 28 (.p .mv) [(.t 1)], iR 29 (.p .strIndex) [(.t 28), (.c (.int .i64 (.ofNat 0)))], iR 30 (.call 86) [(.t 27), (.t 29)], iR 4 (.p .mv) [(.t 30)]]) (.keep [4] (.keep [4] .ret))) (.seq (.reg [iR 32 (.p .mv) [(.t 5)], iR 33 (.p .mv) [(.t 0)], iR 34 (.p .lenS) [(.t 33)], iR 35 (.p (.bin .geq)) [(.t 32), (.t 34)], iR 31 (.p .mv) [(.t 35)]]) (.keep [0, 1, 5, 31] (.cond (.t 31) (.seq (.reg [iR 4 (.p .mv) [(.c (.int .i64 (.negSucc 0)))]]) (.keep [4] (.keep [4] .ret))) (.seq (.reg [iR 37 (.p .mv) [(.t 5)], iR 38 (.l (.load none)) [(.c (.ptr 0 0))], iR 39 (.p (.bin .leq)) [(.t 37), (.t 38)], iR 40 (.p .mv) [(.t 39)], iG 41 40 true (.p .mv) [(.t 0)], iG 42 40 true (.p .lenS) [(.t 41)], iG 43 40 true (.p (.bin .leq)) [(.t 42), (.c (.int .i64 (.ofNat 64)))], iR 44 (.p .pick) [(.t 40), (.t 43), (.c (.bool false))], iR 36 (.p .mv) [(.t 44)]]) (.keep [0, 1, 5, 36] (.cond (.t 36) (.seq .bad
    (.keep [4] (.keep [4] .ret))) .skip))))))))))))) (.keep [0, 1, 5] (.seq (.reg [iR 48 (.p .mv) [(.t 1)], iR 49 (.p .strIndex) [(.t 48), (.c (.int .i64 (.ofNat 0)))], iR 6 (.p .mv) [(.t 49)]]) (.keep [0, 1, 5, 6] (.seq (.reg [iR 50 (.p .mv) [(.t 1)], iR 51 (.p .strIndex) [(.t 50), (.c (.int .i64 (.ofNat 1)))], iR 7 (.p .mv) [(.t 51)]]) (.keep [0, 1, 5, 6, 7] (.seq (.reg [iR 8 (.p .mv) [(.c (.int .i64 (.ofNat 0)))]]) (.keep [0, 1, 5, 6, 7, 8] (.seq (.reg [iR 52 (.p .mv) [(.t 0)], iR 53 (.p .lenS) [(.t 52)], iR 54 (.p .mv) [(.t 5)], iR 55 (.p (.bin .sub)) [(.t 53), (.t 54)], iR 56 (.p (.bin .add)) [(.t 55), (.c (.int .i64 (.ofNat 1)))], iR 9 (.p .mv) [(.t 56)]]) (.keep [0, 1, 5, 6, 7, 8, 9] (.seq (.reg [iR 10 (.p .mv) [(.c (.int .i64 (.ofNat 0)))]]) (.keep [0, 1, 5, 6, 7, 8, 9, 10] (.seq (.block 1 (.loop (.keep [0, 1, 5, 6, 7, 8, 9, 10] (.seq (.seq (.reg [iR 57 (.p .mv) [(.t 8)],
    iR 58 (.p .mv) [(.t 9)], iR 59 (.p (.bin .lss)) [(.t 57), (.t 58)]]) (.keep [0, 1, 5, 6, 7, 8, 9, 10, 59] (.cond (.t 59) .skip (.keep [] (.exit 1))))) (.keep [0, 1, 5, 6, 7, 8, 9, 10] (.block 2 (.seq (.seq (.reg [iR 60 (.p .mv) [(.t 0)], iR 61 (.p .mv) [(.t 8)], iR 62 (.p .strIndex) [(.t 60), (.t 61)], iR 63 (.p .mv) [(.t 6)], iR 64 (.p (.bin .neq)) [(.t 62), (.t 63)]]) (.keep [0, 1, 5, 6, 7, 8, 9, 10, 64] (.cond (.t 64) (.seq (.reg [iR 65 (.p .mv) [(.t 0)], iR 66 (.p .mv) [(.t 8)], iR 67 (.p (.bin .add)) [(.t 66), (.c (.int .i64 (.ofNat 1)))], iR 68 (.p .mv) [(.t 9)], iR 69 (.p (.strSlice true true)) [(.t 65), (.t 67), (.t 68)], iR 70 (.p .mv) [(.t 6)], iR 71 (.call 86) [(.t 69), (.t 70)], iR 11 (.p .mv) [(.t 71)]]) (.keep [0, 1, 5, 6, 7, 8, 9, 10, 11] (.seq (.seq (.reg [iR 72 (.p .mv) [(.t 11)], iR 73 (.p (.bin .lss)) [(.t 72), (.c (.int .i64 (.ofNat 0)))]])
    (.keep [0, 1, 5, 6, 7, 8, 9, 10, 11, 73] (.cond (.t 73) (.seq (.reg [iR 4 (.p .mv) [(.c (.int .i64 (.negSucc 0)))]]) (.keep [4] (.keep [4] .ret))) .skip))) (.keep [0, 1, 5, 6, 7, 8, 9, 10, 11] (.reg [iR 74 (.p .mv) [(.t 8)], iR 75 (.p .mv) [(.t 11)], iR 76 (.p (.bin .add)) [(.t 75), (.c (.int .i64 (.ofNat 1)))], iR 77 (.p (.bin .add)) [(.t 74), (.t 76)], iR 8 (.p .mv) [(.t 77)]]))))) .skip))) (.keep [0, 1, 5, 6, 7, 8, 9, 10] (.seq (.seq (.reg [iR 78 (.p .mv) [(.t 0)], iR 79 (.p .mv) [(.t 8)], iR 80 (.p (.bin .add)) [(.t 79), (.c (.int .i64 (.ofNat 1)))], iR 81 (.p .strIndex) [(.t 78), (.t 80)], iR 82 (.p .mv) [(.t 7)], iR 83 (.p (.bin .eql)) [(.t 81), (.t 82)], iR 84 (.p .mv) [(.t 83)], iG 85 84 true (.p .mv) [(.t 0)], iG 86 84 true (.p .mv) [(.t 8)], iG 87 84 true (.p .mv) [(.t 8)], iG 88 84 true (.p .mv) [(.t 5)], iG 89 84 true (.p (.bin .add)) [(.t 87), (.t 88)],
    iG 90 84 true (.p (.strSlice true true)) [(.t 85), (.t 86), (.t 89)], iG 91 84 true (.p .mv) [(.t 1)], iG 92 84 true (.p (.bin .eql)) [(.t 90), (.t 91)], iR 93 (.p .pick) [(.t 84), (.t 92), (.c (.bool false))]]) (.keep [0, 1, 5, 6, 7, 8, 9, 10, 93] (.cond (.t 93) (.seq (.reg [iR 94 (.p .mv) [(.t 8)], iR 4 (.p .mv) [(.t 94)]]) (.keep [4] (.keep [4] .ret))) .skip))) (.keep [0, 1, 5, 6, 7, 8, 9, 10] (.seq (.reg [iR 95 (.p .mv) [(.t 8)], iR 96 (.p (.bin .add)) [(.t 95), (.c (.int .i64 (.ofNat 1)))], iR 8 (.p .mv) [(.t 96)]]) (.keep [0, 1, 5, 6, 7, 8, 9, 10] (.seq (.reg [iR 97 (.p .mv) [(.t 10)], iR 98 (.p (.bin .add)) [(.t 97), (.c (.int .i64 (.ofNat 1)))], iR 10 (.p .mv) [(.t 98)]]) (.keep [0, 1, 5, 6, 7, 8, 9, 10] (.seq (.reg [iR 99 (.p .mv) [(.t 5)], iR 100 (.l (.load none)) [(.c (.ptr 0 0))], iR 101 (.p (.bin .leq)) [(.t 99), (.t 100)], iR 102 (.p .mv) [(.t 101)],
    iG 103 102 true (.p .mv) [(.t 10)], iG 104 102 true (.p .mv) [(.t 8)], iG 105 102 true (.call 108) [(.t 104)], iG 106 102 true (.p (.bin .gtr)) [(.t 103), (.t 105)], iR 107 (.p .pick) [(.t 102), (.t 106), (.c (.bool false))]]) (.keep [0, 1, 5, 6, 7, 8, 9, 10, 107] (.cond (.t 107) (.seq .bad (.keep [8, 12] (.seq (.seq (.reg [iR 113 (.p .mv) [(.t 12)], iR 114 (.p (.bin .geq)) [(.t 113), (.c (.int .i64 (.ofNat 0)))]]) (.keep [8, 12, 114] (.cond (.t 114) (.seq (.reg [iR 115 (.p .mv) [(.t 12)], iR 116 (.p .mv) [(.t 8)], iR 117 (.p (.bin .add)) [(.t 115), (.t 116)], iR 4 (.p .mv) [(.t 117)]]) (.keep [4] (.keep [4] .ret))) .skip))) (.keep [] (.seq (.reg [iR 4 (.p .mv) [(.c (.int .i64 (.negSucc 0)))]]) (.keep [4] (.keep [4] .ret))))))) (.seq (.reg [iR 118 (.p .mv) [(.t 5)], iR 119 (.l (.load none)) [(.c (.ptr 0 0))], iR 120 (.p (.bin .gtr)) [(.t 118), (.t 119)],
    iR 121 (.p .mv) [(.t 120)], iG 122 121 true (.p .mv) [(.t 10)], iG 123 121 true (.p .mv) [(.t 8)], iG 124 121 true (.p (.bin .shr)) [(.t 123), (.c (.int .u64 (.ofNat 4)))], iG 125 121 true (.p (.bin .add)) [(.c (.int .i64 (.ofNat 4))), (.t 124)], iG 126 121 true (.p (.bin .geq)) [(.t 122), (.t 125)], iR 127 (.p .pick) [(.t 121), (.t 126), (.c (.bool false))], iR 128 (.p .mv) [(.t 127)], iG 129 128 true (.p .mv) [(.t 8)], iG 130 128 true (.p .mv) [(.t 9)], iG 131 128 true (.p (.bin .lss)) [(.t 129), (.t 130)], iR 132 (.p .pick) [(.t 128), (.t 131), (.c (.bool false))]]) (.keep [0, 1, 5, 6, 7, 8, 9, 10, 132] (.cond (.t 132) (.seq (.reg [iR 133 (.p .mv) [(.t 0)], iR 134 (.p .mv) [(.t 8)], iR 135 (.p (.strSlice true false)) [(.t 133), (.t 134)], iR 136 (.p .mv) [(.t 1)], iR 137 (.call 109) [(.t 135), (.t 136)], iR 13 (.p .mv) [(.t 137)]])
    (.keep [8, 13] (.seq (.seq (.reg [iR 138 (.p .mv) [(.t 13)], iR 139 (.p (.bin .lss)) [(.t 138), (.c (.int .i64 (.ofNat 0)))]]) (.keep [8, 13, 139] (.cond (.t 139) (.seq (.reg [iR 4 (.p .mv) [(.c (.int .i64 (.negSucc 0)))]]) (.keep [4] (.keep [4] .ret))) .skip))) (.keep [8, 13] (.seq (.reg [iR 140 (.p .mv) [(.t 8)], iR 141 (.p .mv) [(.t 13)], iR 142 (.p (.bin .add)) [(.t 140), (.t 141)], iR 4 (.p .mv) [(.t 142)]]) (.keep [4] (.keep [4] .ret))))))) .skip)))))))))))))))))))) (.keep [] (.seq (.reg [iR 4 (.p .mv) [(.c (.int .i64 (.negSucc 0)))]]) (.keep [4] (.keep [4] .ret))))))))))))))))))))), [(.t 4)]⟩
def s_stringslite_Index_j0 (call : CallK) (N : Nat) (q : KV) (st : St) (τ : Tape) : Ans := match st with
  | ⟨fr, H⟩ => q (.int .i64 (.negSucc 0)) H τ
def s_stringslite_Index_j2 (call : CallK) (N : Nat) (k : KC) (st : St) (τ : Tape) : Ans := match st with
  | ⟨fr, H⟩ => getK fr 0 fun t0 => getK fr 1 fun t1 => getK fr 5 fun t5 => getK fr 6 fun t6 => getK fr 7 fun t7 => getK fr 8 fun t8 => getK fr 9 fun t9 => getK fr 10 fun t10 => binK .add t8 (.int .i64 (.ofNat 1)) fun v39 => someK (pStrIndex [t0, v39]) fun v40 => binK .eql v40 t7 fun v41 => gK v41 true (fun q' => q' t0 H τ) H τ fun v42 H43 τ44 => gK v41 true (fun q' => q' t8 H43 τ44) H43 τ44 fun v45 H46 τ47 => gK v41 true (fun q' => q' t8 H46 τ47) H46 τ47 fun v48 H49 τ50 => gK v41 true (fun q' => q' t5 H49 τ50) H49 τ50 fun v51 H52 τ53 => gK v41 true (fun q' => binK .add v48 v51 fun v => q' v H52 τ53) H52 τ53 fun v54 H55 τ56 => gK v41 true (fun q' => someK (pStrSlice true true [v42, v45, v54]) fun v => q' v H55 τ56) H55 τ56 fun v57 H58 τ59 => gK v41 true (fun q' => q' t1 H58 τ59) H58 τ59 fun v60 H61 τ62 =>
    gK v41 true (fun q' => binK .eql v57 v60 fun v => q' v H61 τ62) H61 τ62 fun v63 H64 τ65 => someK (pPick [v41, v63, (.bool false)]) fun v66 => condK v66 (k .ret ⟨(T.set .leaf 4 t8), H64⟩ τ65) (binK .add t8 (.int .i64 (.ofNat 1)) fun v67 => binK .add t10 (.int .i64 (.ofNat 1)) fun v68 => someK (lLoad1 [(.ptr 0 0)] H64) fun v69 => binK .leq t5 v69 fun v70 => gK v70 true (fun q' => q' v68 H64 τ65) H64 τ65 fun v71 H72 τ73 => gK v70 true (fun q' => q' v67 H72 τ73) H72 τ73 fun v74 H75 τ76 => gK v70 true (fun q' => call f_bytealg_Cutover [v74] H75 τ76 q') H75 τ76 fun v77 H78 τ79 => gK v70 true (fun q' => binK .gtr v71 v77 fun v => q' v H78 τ79) H78 τ79 fun v80 H81 τ82 => someK (pPick [v70, v80, (.bool false)]) fun v83 => condK v83 (none) (someK (lLoad1 [(.ptr 0 0)] H81) fun v84 => binK .gtr t5 v84 fun v85 => gK v85 true (fun q' => q' v68 H81 τ82) H81 τ82 fun v86 H87 τ88 =>
    gK v85 true (fun q' => q' v67 H87 τ88) H87 τ88 fun v89 H90 τ91 => gK v85 true (fun q' => binK .shr v89 (.int .u64 (.ofNat 4)) fun v => q' v H90 τ91) H90 τ91 fun v92 H93 τ94 => gK v85 true (fun q' => binK .add (.int .i64 (.ofNat 4)) v92 fun v => q' v H93 τ94) H93 τ94 fun v95 H96 τ97 => gK v85 true (fun q' => binK .geq v86 v95 fun v => q' v H96 τ97) H96 τ97 fun v98 H99 τ100 => someK (pPick [v85, v98, (.bool false)]) fun v101 => gK v101 true (fun q' => q' v67 H99 τ100) H99 τ100 fun v102 H103 τ104 => gK v101 true (fun q' => q' t9 H103 τ104) H103 τ104 fun v105 H106 τ107 => gK v101 true (fun q' => binK .lss v102 v105 fun v => q' v H106 τ107) H106 τ107 fun v108 H109 τ110 => someK (pPick [v101, v108, (.bool false)]) fun v111 => condK v111 (someK (pStrSlice true false [t0, v67]) fun v112 => call f_bytealg_IndexRabinKarp_string [v112, t1] H109 τ110 fun v113 H114 τ115 =>
    binK .lss v113 (.int .i64 (.ofNat 0)) fun v116 => condK v116 (k .ret ⟨(T.set .leaf 4 (.int .i64 (.negSucc 0))), H114⟩ τ115) (binK .add v67 v113 fun v117 => k .ret ⟨(T.set .leaf 4 v117), H114⟩ τ115)) (k .normal ⟨(T.set (T.set (T.set (T.set (T.set (T.set (T.set (T.set (T.set .leaf 0 t0) 1 t1) 5 t5) 6 t6) 7 t7) 8 v67) 9 t9) 10 v68) 132 v111), H109⟩ τ110)))
def s_stringslite_Index_l1 (call : CallK) (N : Nat) (st : St) (τ : Tape) (k : KC) : Ans := match st with
  | ⟨fr, H⟩ => getK fr 0 fun t0 => getK fr 1 fun t1 => getK fr 5 fun t5 => getK fr 6 fun t6 => getK fr 7 fun t7 => getK fr 8 fun t8 => getK fr 9 fun t9 => getK fr 10 fun t10 => binK .lss t8 t9 fun v36 => condK v36 (someK (pStrIndex [t0, t8]) fun v37 => binK .neq v37 t6 fun v38 => condK v38 (binK .add t8 (.int .i64 (.ofNat 1)) fun v118 => someK (pStrSlice true true [t0, v118, t9]) fun v119 => call f_stringslite_IndexByte [v119, t6] H τ fun v120 H121 τ122 => binK .lss v120 (.int .i64 (.ofNat 0)) fun v123 => condK v123 (k .ret ⟨(T.set .leaf 4 (.int .i64 (.negSucc 0))), H121⟩ τ122) (binK .add v120 (.int .i64 (.ofNat 1)) fun v124 => binK .add t8 v124 fun v125 =>
    s_stringslite_Index_j2 call N k ⟨(T.set (T.set (T.set (T.set (T.set (T.set (T.set (T.set (T.set (T.set (T.set (T.set (T.set (T.set .leaf 0 t0) 1 t1) 5 t5) 6 t6) 7 t7) 8 t8) 9 t9) 10 t10) 11 v120) 74 t8) 75 v120) 76 v124) 77 v125) 8 v125), H121⟩ τ122)) (s_stringslite_Index_j2 call N k ⟨(T.set (T.set (T.set (T.set (T.set (T.set (T.set (T.set (T.set .leaf 0 t0) 1 t1) 5 t5) 6 t6) 7 t7) 8 t8) 9 t9) 10 t10) 64 v38), H⟩ τ)) (k (.exit 1) ⟨.leaf, H⟩ τ)
def s_stringslite_Index (call : CallK) (N : Nat) (a0 a1 : V) (H : Heap) (τ : Tape) (q : KV) : Ans := someK (pLenS [a1]) fun v0 => binK .eql v0 (.int .i64 (.ofNat 0)) fun v1 => gK v1 false (fun q' => q' a1 H τ) H τ fun v2 H3 τ4 => gK v1 false (fun q' => q' a0 H3 τ4) H3 τ4 fun v5 H6 τ7 => gK v1 false (fun q' => binK .eql v2 v5 fun v => q' v H6 τ7) H6 τ7 fun v8 H9 τ10 => someK (pPick [v1, (.bool true), v8]) fun v11 => condK v11 (q (.int .i64 (.ofNat 0)) H9 τ10) (binK .eql v0 (.int .i64 (.ofNat 1)) fun v12 => condK v12 (someK (pStrIndex [a1, (.int .i64 (.ofNat 0))]) fun v13 => call f_stringslite_IndexByte [a0, v13] H9 τ10 fun v14 H15 τ16 => q v14 H15 τ16) (someK (pLenS [a0]) fun v17 => binK .geq v0 v17 fun v18 => condK v18 (q (.int .i64 (.negSucc 0)) H9 τ10) (someK (lLoad1 [(.ptr 0 0)] H9) fun v19 => binK .leq v0 v19 fun v20 => gK v20 true (fun q' => q' a0 H9 τ10) H9 τ10 fun v21 H22 τ23 =>
    gK v20 true (fun q' => someK (pLenS [v21]) fun v => q' v H22 τ23) H22 τ23 fun v24 H25 τ26 => gK v20 true (fun q' => binK .leq v24 (.int .i64 (.ofNat 64)) fun v => q' v H25 τ26) H25 τ26 fun v27 H28 τ29 => someK (pPick [v20, v27, (.bool false)]) fun v30 => condK v30 (none) (someK (pStrIndex [a1, (.int .i64 (.ofNat 0))]) fun v31 => someK (pStrIndex [a1, (.int .i64 (.ofNat 1))]) fun v32 => someK (pLenS [a0]) fun v33 => binK .sub v33 v0 fun v34 => binK .add v34 (.int .i64 (.ofNat 1)) fun v35 => loopK (s_stringslite_Index_l1 call N) N ⟨(T.set (T.set (T.set (T.set (T.set (T.set (T.set (T.set .leaf 0 a0) 1 a1) 5 v0) 6 v31) 7 v32) 8 (.int .i64 (.ofNat 0))) 9 v35) 10 (.int .i64 (.ofNat 0))), H28⟩ τ29 (blockK 1 (seqK (s_stringslite_Index_j0 call N q) (endK [(.t 4)] q)))))))
theorem s_stringslite_Index_eq (call : CallK) (N : Nat) (a0 a1 : V) (H : Heap) (τ : Tape) (q : KV) : s_stringslite_Index call N a0 a1 H τ q = funK call N fn_stringslite_Index [a0, a1] H τ q := by kernel_rfl
def e_stringslite_Index (call : CallK) (N : Nat) (vs : List V) (H : Heap) (τ : Tape) (q : KV) : Ans := match vs with | [a0, a1] => s_stringslite_Index call N a0 a1 H τ q | _ => none
theorem e_stringslite_Index_ok : EntOk fn_stringslite_Index e_stringslite_Index := by
  intro call N vs H τ q r h
  unfold e_stringslite_Index at h
  split at h
  · rw [s_stringslite_Index_eq] at h; exact h
  · cases h
theorem e_stringslite_Index_nat : EntNat e_stringslite_Index := by
  intro c hn N vs H τ q
  unfold e_stringslite_Index
  split
  · rw [s_stringslite_Index_eq, s_stringslite_Index_eq]; exact funK_ent hn _ _ _ _ _ _
  · rfl
end Go.Am.X
