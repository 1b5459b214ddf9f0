/- The abstract machine, printed functions of the program, and what they are shown to be. -/
import Derived.Test.YtlpedafppdffoaaGreatDoorCMAM5
import Derived.KernelRfl
set_option linter.unusedVariables false
namespace Go.Am.X
set_option maxRecDepth 1000000
abbrev funE (fn : Fun) : Ent := fun call N vs H τ q => funK call N fn vs H τ q
theorem funE_ok (fn : Fun) : EntOk fn (funE fn) := fun _ _ _ _ _ _ _ h => h
theorem funE_nat (fn : Fun) : EntNat (funE fn) := fun _ hn _ _ _ _ _ => funK_ent hn _ _ _ _ _ _
abbrev iR (n : Nat) (o : AOp) (a : List O) : Ins := ⟨some n, none, o, a, none⟩
abbrev iG (n g : Nat) (b : Bool) (o : AOp) (a : List O) : Ins := ⟨some n, some (g, b), o, a, none⟩
abbrev iM (n a : Nat) : Ins := ⟨some n, none, .p .mv, [.t a], none⟩
abbrev iN (n g : Nat) (b : Bool) (a : Nat) : Ins := ⟨some n, some (g, b), .p .mv, [.t a], none⟩
abbrev iC (n : Nat) : O := .c (.int .i64 (.ofNat n))
abbrev iU (n : Nat) : O := .c (.int .u8 (.ofNat n))
abbrev iB (b : BinOp) : AOp := .p (.bin b)
abbrev iK (l : List Nat) (c : C) : C := .keep l c
theorem iA {a b : Prop} (h : a) (k : b) : a ∧ b := ⟨h, k⟩
theorem iT : True := trivial
abbrev f_law18_CorsMany : Nat := 5
abbrev f_keep_Few : Nat := 10
abbrev f_book_Within : Nat := 30
abbrev f_book_Same_string : Nat := 31
abbrev f_cors_Unsafe : Nat := 32
abbrev f_ref18_Unsafe : Nat := 33
abbrev f_law18_known : Nat := 34
abbrev f_cors_Method : Nat := 36
abbrev f_law18_allow : Nat := 37
abbrev f_cors_Check : Nat := 38
abbrev f_law18_of : Nat := 39
abbrev f_ref1_Lower : Nat := 55
abbrev f_infra_Lower : Nat := 59
abbrev f_headers_Get : Nat := 60
abbrev f_infra_Int : Nat := 61
abbrev f_keep_URL : Nat := 62
abbrev f_ref4_Of : Nat := 63
abbrev f_headers_Safe : Nat := 69
abbrev f_maps_Copy_int : Nat := 70
abbrev f_cors_names : Nat := 71
abbrev f_ref5_Safe : Nat := 72
abbrev f_ref1_Sorted : Nat := 73
abbrev f_infra_Token : Nat := 75
abbrev f_origin_Text : Nat := 76
abbrev f_infra_mapped : Nat := 85
abbrev f_infra_Lower_1 : Nat := 86
abbrev f_headers_is : Nat := 87
abbrev f_strings_Join : Nat := 88
abbrev f_ref3_Parse : Nat := 89
abbrev f_ref3_Special : Nat := 90
abbrev f_ref4_Port : Nat := 91
abbrev f_headers_unsafe : Nat := 98
abbrev f_headers_tongues : Nat := 99
abbrev f_strings_Cut : Nat := 100
abbrev f_infra_Strip : Nat := 101
abbrev f_headers_Range : Nat := 102
abbrev f_ref5_unsafe : Nat := 105
abbrev f_ref5_language : Nat := 106
abbrev f_ref1_Part : Nat := 107
abbrev f_ref1_Strip : Nat := 108
abbrev f_ref5_Range : Nat := 109
abbrev f_strings_Trim : Nat := 110
abbrev f_strings_IndexByte : Nat := 111
abbrev f_url_Own : Nat := 112
abbrev f_strconv_Itoa : Nat := 113
abbrev f_ref1_Letter : Nat := 114
abbrev f_ref1_Digit : Nat := 115
abbrev f_ref3_Own : Nat := 118
abbrev f_ref1_Numeral : Nat := 119
abbrev f_ref3_split : Nat := 125
abbrev f_ref3_clean : Nat := 126
abbrev f_ref3_scheme : Nat := 127
abbrev f_ref3_full : Nat := 128
abbrev f_stringslite_Cut : Nat := 130
abbrev f_strings_CutPrefix : Nat := 131
abbrev f_headers_told : Nat := 132
abbrev f_ref1_Blank : Nat := 135
abbrev f_ref1_Begins : Nat := 136
abbrev f_ref1_Int : Nat := 137
abbrev f_strings_trimLeftByte : Nat := 138
abbrev f_strings_trimRightByte : Nat := 139
abbrev f_strings_makeASCIISet : Nat := 140
abbrev f_strings_trimLeftASCII : Nat := 141
abbrev f_strings_trimRightASCII : Nat := 142
abbrev f_strings_trimLeftUnicode : Nat := 143
abbrev f_strings_trimRightUnicode : Nat := 144
abbrev f_stringslite_IndexByte : Nat := 145
abbrev f_strconv_Itoa_n146 : Nat := 146
abbrev f_bits_Len64 : Nat := 158
abbrev f_ref1_Percent : Nat := 161
abbrev f_ref3_far : Nat := 162
abbrev f_ref3_over : Nat := 163
abbrev f_ref3_slashes : Nat := 164
abbrev f_ref3_rest : Nat := 165
abbrev f_ref3_ahead : Nat := 166
abbrev f_ref3_query : Nat := 167
abbrev f_stringslite_Index : Nat := 168
abbrev f_stringslite_CutPrefix : Nat := 169
abbrev f_asciiSet_contains : Nat := 171
abbrev f_utf8_DecodeRuneInString : Nat := 172
abbrev f_strings_ContainsRune : Nat := 173
abbrev f_utf8_DecodeLastRuneInString : Nat := 174
abbrev f_strconv_FormatInt : Nat := 176
abbrev f_ref1_In : Nat := 185
abbrev f_ref1_Escape : Nat := 186
abbrev f_ref3_authority : Nat := 187
abbrev f_ref3_path : Nat := 188
abbrev f_bytealg_Cutover : Nat := 190
abbrev f_bytealg_IndexRabinKarp_string : Nat := 191
abbrev f_stringslite_HasPrefix : Nat := 192
abbrev f_utf8_decodeRuneInStringSlow : Nat := 193
abbrev f_strings_IndexRune : Nat := 194
abbrev f_utf8_RuneStart : Nat := 195
abbrev f_strconv_small : Nat := 196
abbrev f_strconv_numDigits : Nat := 197
abbrev f_strconv_formatBase10 : Nat := 198
abbrev f_strconv_formatBits : Nat := 199
abbrev f_ref2_Parse : Nat := 201
abbrev f_ref1_Cut : Nat := 202
abbrev f_ref3_dots : Nat := 203
abbrev f_bytealg_hashStr_string : Nat := 204
abbrev f_utf8_ValidRune : Nat := 205
abbrev f_strconv_log10Pow2 : Nat := 206
abbrev f_strconv_bool2_int : Nat := 207
abbrev f_strconv_isPowerOfTwo : Nat := 208
abbrev f_bits_TrailingZeros : Nat := 209
abbrev f_ref1_Ends : Nat := 210
abbrev f_ref2_Six : Nat := 211
abbrev f_ref2_Text6 : Nat := 212
abbrev f_ref2_bad : Nat := 213
abbrev f_ref1_Unpercent : Nat := 214
abbrev f_ref2_Numbered : Nat := 215
abbrev f_ref2_Four : Nat := 216
abbrev f_ref2_Text4 : Nat := 217
abbrev f_bits_TrailingZeros32 : Nat := 218
abbrev f_bits_TrailingZeros64 : Nat := 219
abbrev f_ref2_pieces : Nat := 220
abbrev f_ref2_digits : Nat := 221
abbrev f_ref1_Hex : Nat := 222
abbrev f_ref2_labels : Nat := 223
abbrev f_ref2_number : Nat := 224
abbrev f_ref2_decimals : Nat := 225
/-- ostiary/ostiarylaw18.CorsMany -/
def fn_law18_CorsMany : Fun := ⟨3,(.seq (.reg [iR 6 (.p .mv) [(.c (.bool false))]]) (iK [0,1,2] (.seq (.reg [iM 11 0,iR 12 (.call 30) [(.t 11),(iC 0),(iC 20)],iM 0 12]) (iK [0,1,2] (.seq (.reg [iM 13 1,iR 14 (.call 30) [(.t 13),(iC 0),(iC 130)],iM 1 14]) (iK [0,1,2] (.seq (.reg [iR 7 (.p .mv) [(.c .nils)]]) (iK [0,1,2,7] (.seq (.seq (.reg [iR 8 (.p .mv) [(iC 0)]]) (iK [0,1,2,7,8] (.block 0 (.loop (iK [0,1,2,7,8] (.seq (.seq (.reg [iM 15 8,iM 16 0,iR 17 (iB .lss) [(.t 15),(.t 16)]]) (iK [0,1,2,7,8,17] (.cond (.t 17) .skip (iK [2,7] (.exit 0))))) (iK [0,1,2,7,8] (.seq (.block 1 (.seq (.reg [iM 20 1,
    iR 21 (.e (.makeSlice 1 1 [(.int .u8 (.ofNat 0))])) [(.t 20),(.t 20)],iM 9 21]) (iK [0,1,2,7,8,9] (.seq (.seq (.reg [iR 10 (.p .mv) [(iC 0)]]) (iK [0,1,2,7,8,9,10] (.block 2 (.loop (iK [0,1,2,7,8,9,10] (.seq (.seq (.reg [iM 22 10,iM 23 1,iR 24 (iB .lss) [(.t 22),(.t 23)]]) (iK [0,1,2,7,8,9,10,24] (.cond (.t 24) .skip (iK [0,1,2,7,8,9] (.exit 2))))) (iK [0,1,2,7,8,9,10] (.seq (.block 3 (.reg [iM 27 9,iM 28 10,iR 29 (.p (.slIdx 1)) [(.t 27),(.t 28)],⟨none,none,(.e (.store 1)),[(.t 29),(iU 97)],none⟩])) (iK [0,1,2,7,8,9,10] (.reg [iM 25 10,iR 26 (iB .add) [(.t 25),(iC 1)],iM 10 26]))))))))))
    (iK [0,1,2,7,8,9] (.draw [iM 30 7,iR 31 (.e (.buildSlice 3 1 [(.str []),(.str []),(.str [])] [(0,1),(1,1),(2,1)])) [(.c (.str (bs [65,99,99,101,112,116]))),(.c (.str (bs [97,99,99,101,112,116,45,108,97,110,103,117,97,103,101]))),(.c (.str (bs [67,111,110,116,101,110,116,45,76,97,110,103,117,97,103,101])))],iM 32 8,iR 33 (iB .rem) [(.t 32),(iC 3)],iR 34 (.p (.slIdx 1)) [(.t 31),(.t 33)],iR 35 (.l (.load none)) [(.t 34)],iM 36 9,⟨(some 37),none,(.l .bytesStr),[(.t 36)],some (0,1)⟩,iR 38 (.p (.build [(.str []),(.str [])] [(0,1),(1,1)])) [(.t 35),(.t 37)],iR 39 (.e (.buildSlice 1 2 [(.str []),(.str [])] [(0,2)])) [(.t 38)],iR 40 (.e (.append 2 32)) [(.t 30),(.t 39)],iM 7 40]))))))
    (iK [0,1,2,7,8] (.reg [iM 18 8,iR 19 (iB .add) [(.t 18),(iC 1)],iM 8 19])))))))))) (iK [2,7] (.seq (.reg [iM 41 7,iM 42 2,iR 43 (.call 10) [(.t 42),(iC 30)],iR 44 (.p (.build [(.str []),(.str [])] [(0,1),(1,1)])) [(.t 43),(.c (.str (bs [120])))],iR 45 (.e (.buildSlice 1 2 [(.str []),(.str [])] [(0,2)])) [(.t 44)],iR 46 (.e (.append 2 32)) [(.t 41),(.t 45)],iM 7 46]) (iK [7] (.seq (.reg [iM 47 7,iR 48 (.call 32) [(.t 47)],iM 49 7,iR 50 (.call 33) [(.t 49)],iR 51 (.call 31) [(.t 48),(.t 50)],iM 52 51,iG 53 52 true (.call 34) [],iR 54 (.p .pick) [(.t 52),(.t 53),(.c (.bool false))],iM 6 54]) (iK [6] (iK [6] .ret))))))))))))))),[(.t 6)]⟩
def s_law18_CorsMany_j0 (call : CallK) (N : Nat) (q : KV) (st : St) (τ : Tape) : Ans := match st with
  | ⟨fr,H⟩ => getK fr 2 fun t2 => getK fr 7 fun t7 => call f_keep_Few [t2,(.int .i64 (.ofNat 30))] H τ fun v6 H7 τ8 => someK (pBuild [(.str []),(.str [])] [(0,1),(1,1)] [v6,(.str (bs [120]))]) fun v9 => effK (eBuildSlice 1 2 [(.str []),(.str [])] [(0,2)] [v9] H7 τ8) fun v10 H11 τ12 => effK (eAppend 2 32 [t7,v10] H11 τ12) fun v13 H14 τ15 => call f_cors_Unsafe [v13] H14 τ15 fun v16 H17 τ18 => call f_ref18_Unsafe [v13] H17 τ18 fun v19 H20 τ21 => call f_book_Same_string [v16,v19] H20 τ21 fun v22 H23 τ24 => gK v22 true (fun q' => call f_law18_known [] H23 τ24 q') H23 τ24 fun v25 H26 τ27 => someK (pPick [v22,v25,(.bool false)]) fun v28 => q v28 H26 τ27
def s_law18_CorsMany_j2 (call : CallK) (N : Nat) (k : KC) (st : St) (τ : Tape) : Ans := match st with
  | ⟨fr,H⟩ => getK fr 0 fun t0 => getK fr 1 fun t1 => getK fr 2 fun t2 => getK fr 7 fun t7 => getK fr 8 fun t8 => binK .add t8 (.int .i64 (.ofNat 1)) fun v33 => k .normal ⟨(T.set (T.set (T.set (T.set (T.set (T.set (T.set (T.set .leaf 0 t0) 1 t1) 2 t2) 7 t7) 8 t8) 18 t8) 19 v33) 8 v33),H⟩ τ
def s_law18_CorsMany_j3 (call : CallK) (N : Nat) (k : KC) (st : St) (τ : Tape) : Ans := match st with
  | ⟨fr,H⟩ => getK fr 0 fun t0 => getK fr 1 fun t1 => getK fr 2 fun t2 => getK fr 7 fun t7 => getK fr 8 fun t8 => getK fr 9 fun t9 => effK (eBuildSlice 3 1 [(.str []),(.str []),(.str [])] [(0,1),(1,1),(2,1)] [(.str (bs [65,99,99,101,112,116])),(.str (bs [97,99,99,101,112,116,45,108,97,110,103,117,97,103,101])),(.str (bs [67,111,110,116,101,110,116,45,76,97,110,103,117,97,103,101]))] H τ) fun v34 H35 τ36 => binK .rem t8 (.int .i64 (.ofNat 3)) fun v37 => someK (pSlIdx 1 [v34,v37]) fun v38 => someK (lLoad1 [v38] H35) fun v39 => someK (lBytesStr [t9] H35) fun v40 => someK (pBuild [(.str []),(.str [])] [(0,1),(1,1)] [v39,v40]) fun v41 => effK (eBuildSlice 1 2 [(.str []),(.str [])] [(0,2)] [v41] H35 τ36) fun v42 H43 τ44 => effK (eAppend 2 32 [t7,v42] H43 τ44) fun v45 H46 τ47 =>
    bif chkLoads [H,H35,H43,H46] ((.bytesStr,[t9],0,1) :: []) then s_law18_CorsMany_j2 call N k ⟨(T.set (T.set (T.set (T.set (T.set (T.set (T.set (T.set (T.set (T.set (T.set (T.set (T.set (T.set (T.set (T.set (T.set (T.set .leaf 0 t0) 1 t1) 2 t2) 7 t7) 8 t8) 9 t9) 30 t7) 31 v34) 32 t8) 33 v37) 34 v38) 35 v39) 36 t9) 37 v40) 38 v41) 39 v42) 40 v45) 7 v45),H46⟩ τ47 else none
def s_law18_CorsMany_l4 (call : CallK) (N : Nat) (st : St) (τ : Tape) (k : KC) : Ans := match st with
  | ⟨fr,H⟩ => getK fr 0 fun t0 => getK fr 1 fun t1 => getK fr 2 fun t2 => getK fr 7 fun t7 => getK fr 8 fun t8 => getK fr 9 fun t9 => getK fr 10 fun t10 => binK .lss t10 t1 fun v48 => condK v48 (someK (pSlIdx 1 [t9,t10]) fun v49 => effK (eStore 1 [v49,(.int .u8 (.ofNat 97))] H τ) fun v50 H51 τ52 => binK .add t10 (.int .i64 (.ofNat 1)) fun v53 => k .normal ⟨(T.set (T.set (T.set (T.set (T.set (T.set (T.set (T.set (T.set (T.set .leaf 0 t0) 1 t1) 2 t2) 7 t7) 8 t8) 9 t9) 10 t10) 25 t10) 26 v53) 10 v53),H51⟩ τ52) (k (.exit 2) ⟨(T.set (T.set (T.set (T.set (T.set (T.set .leaf 0 t0) 1 t1) 2 t2) 7 t7) 8 t8) 9 t9),H⟩ τ)
def s_law18_CorsMany_l1 (call : CallK) (N : Nat) (st : St) (τ : Tape) (k : KC) : Ans := match st with
  | ⟨fr,H⟩ => getK fr 0 fun t0 => getK fr 1 fun t1 => getK fr 2 fun t2 => getK fr 7 fun t7 => getK fr 8 fun t8 => binK .lss t8 t0 fun v29 => condK v29 (effK (eMakeSlice 1 1 [(.int .u8 (.ofNat 0))] [t1,t1] H τ) fun v30 H31 τ32 => loopK (s_law18_CorsMany_l4 call N) N ⟨(T.set (T.set (T.set (T.set (T.set (T.set (T.set .leaf 0 t0) 1 t1) 2 t2) 7 t7) 8 t8) 9 v30) 10 (.int .i64 (.ofNat 0))),H31⟩ τ32 (blockK 2 (seqK (s_law18_CorsMany_j3 call N k) (blockK 1 (seqK (s_law18_CorsMany_j2 call N k) k))))) (k (.exit 0) ⟨(T.set (T.set .leaf 2 t2) 7 t7),H⟩ τ)
def s_law18_CorsMany (call : CallK) (N : Nat) (a0 a1 a2 : V) (H : Heap) (τ : Tape) (q : KV) : Ans := call f_book_Within [a0,(.int .i64 (.ofNat 0)),(.int .i64 (.ofNat 20))] H τ fun v0 H1 τ2 => call f_book_Within [a1,(.int .i64 (.ofNat 0)),(.int .i64 (.ofNat 130))] H1 τ2 fun v3 H4 τ5 => loopK (s_law18_CorsMany_l1 call N) N ⟨(T.set (T.set (T.set (T.set (T.set .leaf 0 v0) 1 v3) 2 a2) 7 .nils) 8 (.int .i64 (.ofNat 0))),H4⟩ τ5 (blockK 0 (seqK (s_law18_CorsMany_j0 call N q) (endK [(.t 6)] q)))
theorem s_law18_CorsMany_eq (call : CallK) (N : Nat) (a0 a1 a2 : V) (H : Heap) (τ : Tape) (q : KV) : s_law18_CorsMany call N a0 a1 a2 H τ q = funK call N fn_law18_CorsMany [a0, a1, a2] H τ q := by kernel_rfl
def e_law18_CorsMany (call : CallK) (N : Nat) (vs : List V) (H : Heap) (τ : Tape) (q : KV) : Ans := match vs with | [a0, a1, a2] => s_law18_CorsMany call N a0 a1 a2 H τ q | _ => none
theorem e_law18_CorsMany_ok : EntOk fn_law18_CorsMany e_law18_CorsMany := by
  intro call N vs H τ q r h
  unfold e_law18_CorsMany at h
  split at h
  · rw [s_law18_CorsMany_eq] at h; exact h
  · cases h
theorem e_law18_CorsMany_nat : EntNat e_law18_CorsMany := by
  intro c hn N vs H τ q
  unfold e_law18_CorsMany
  split
  · rw [s_law18_CorsMany_eq, s_law18_CorsMany_eq]; exact funK_ent hn _ _ _ _ _ _
  · rfl
/-- ostiary/ostiarykeep.Few -/
def fn_keep_Few : Fun := ⟨2,(.seq (.reg [iR 4 (.p .mv) [(.c (.str []))]]) (iK [0,1] (.seq (.seq (.reg [iM 5 0,iR 6 (.p .lenS) [(.t 5)],iM 7 1,iR 8 (iB .gtr) [(.t 6),(.t 7)]]) (iK [0,1,8] (.cond (.t 8) (.seq (.reg [iM 9 0,iM 10 1,iR 11 (.p (.strSlice false true)) [(.t 9),(.t 10)],iM 4 11]) (iK [4] (iK [4] .ret))) .skip))) (iK [0] (.seq (.reg [iM 12 0,iM 4 12]) (iK [4] (iK [4] .ret))))))),[(.t 4)]⟩
def s_keep_Few (call : CallK) (N : Nat) (a0 a1 : V) (H : Heap) (τ : Tape) (q : KV) : Ans := someK (pLenS [a0]) fun v0 => binK .gtr v0 a1 fun v1 => condK v1 (someK (pStrSlice false true [a0,a1]) fun v2 => q v2 H τ) (q a0 H τ)
theorem s_keep_Few_eq (call : CallK) (N : Nat) (a0 a1 : V) (H : Heap) (τ : Tape) (q : KV) : s_keep_Few call N a0 a1 H τ q = funK call N fn_keep_Few [a0, a1] H τ q := by kernel_rfl
def e_keep_Few (call : CallK) (N : Nat) (vs : List V) (H : Heap) (τ : Tape) (q : KV) : Ans := match vs with | [a0, a1] => s_keep_Few call N a0 a1 H τ q | _ => none
theorem e_keep_Few_ok : EntOk fn_keep_Few e_keep_Few := by
  intro call N vs H τ q r h
  unfold e_keep_Few at h
  split at h
  · rw [s_keep_Few_eq] at h; exact h
  · cases h
theorem e_keep_Few_nat : EntNat e_keep_Few := by
  intro c hn N vs H τ q
  unfold e_keep_Few
  split
  · rw [s_keep_Few_eq, s_keep_Few_eq]; exact funK_ent hn _ _ _ _ _ _
  · rfl
/-- ostiary/ostiarybook.Within -/
def fn_book_Within : Fun := ⟨3,(.seq (.reg [iR 6 (.p .mv) [(iC 0)]]) (iK [0,1,2] (.seq (.reg [iM 7 0,iM 8 2,iM 9 1,iR 10 (iB .sub) [(.t 8),(.t 9)],iR 11 (iB .add) [(.t 10),(iC 1)],iR 12 (iB .rem) [(.t 7),(.t 11)],iM 0 12]) (iK [0,1,2] (.seq (.seq (.reg [iM 13 0,iR 14 (iB .lss) [(.t 13),(iC 0)]]) (iK [0,1,2,14] (.cond (.t 14) (.reg [iM 15 0,iM 16 2,iR 17 (iB .add) [(.t 15),(.t 16)],iM 18 1,iR 19 (iB .sub) [(.t 17),(.t 18)],iR 20 (iB .add) [(.t 19),(iC 1)],iM 0 20]) .skip))) (iK [0,1] (.seq (.reg [iM 21 1,iM 22 0,
    iR 23 (iB .add) [(.t 21),(.t 22)],iM 6 23]) (iK [6] (iK [6] .ret))))))))),[(.t 6)]⟩
def s_book_Within_j0 (call : CallK) (N : Nat) (q : KV) (st : St) (τ : Tape) : Ans := match st with
  | ⟨fr,H⟩ => getK fr 0 fun t0 => getK fr 1 fun t1 => binK .add t1 t0 fun v4 => q v4 H τ
def s_book_Within (call : CallK) (N : Nat) (a0 a1 a2 : V) (H : Heap) (τ : Tape) (q : KV) : Ans := binK .sub a2 a1 fun v0 => binK .add v0 (.int .i64 (.ofNat 1)) fun v1 => binK .rem a0 v1 fun v2 => binK .lss v2 (.int .i64 (.ofNat 0)) fun v3 => condK v3 (binK .add v2 a2 fun v5 => binK .sub v5 a1 fun v6 => binK .add v6 (.int .i64 (.ofNat 1)) fun v7 => s_book_Within_j0 call N q ⟨(T.set (T.set (T.set (T.set (T.set (T.set (T.set (T.set (T.set (T.set (T.set .leaf 0 v2) 1 a1) 2 a2) 14 v3) 15 v2) 16 a2) 17 v5) 18 a1) 19 v6) 20 v7) 0 v7),H⟩ τ) (s_book_Within_j0 call N q ⟨(T.set (T.set (T.set (T.set .leaf 0 v2) 1 a1) 2 a2) 14 v3),H⟩ τ)
theorem s_book_Within_eq (call : CallK) (N : Nat) (a0 a1 a2 : V) (H : Heap) (τ : Tape) (q : KV) : s_book_Within call N a0 a1 a2 H τ q = funK call N fn_book_Within [a0, a1, a2] H τ q := by kernel_rfl
def e_book_Within (call : CallK) (N : Nat) (vs : List V) (H : Heap) (τ : Tape) (q : KV) : Ans := match vs with | [a0, a1, a2] => s_book_Within call N a0 a1 a2 H τ q | _ => none
theorem e_book_Within_ok : EntOk fn_book_Within e_book_Within := by
  intro call N vs H τ q r h
  unfold e_book_Within at h
  split at h
  · rw [s_book_Within_eq] at h; exact h
  · cases h
theorem e_book_Within_nat : EntNat e_book_Within := by
  intro c hn N vs H τ q
  unfold e_book_Within
  split
  · rw [s_book_Within_eq, s_book_Within_eq]; exact funK_ent hn _ _ _ _ _ _
  · rfl
/-- ostiary/ostiarybook.Same[string] -/
def fn_book_Same_string : Fun := ⟨2,(.seq (.reg [iR 4 (.p .mv) [(.c (.bool false))]]) (iK [0,1] (.seq (.seq (.reg [iM 6 0,iR 7 (.p .len) [(.t 6)],iM 8 1,iR 9 (.p .len) [(.t 8)],iR 10 (iB .neq) [(.t 7),(.t 9)]]) (iK [0,1,10] (.cond (.t 10) (.seq (.reg [iR 4 (.p .mv) [(.c (.bool false))]]) (iK [4] (iK [4] .ret))) .skip))) (iK [0,1] (.seq (.seq (.reg [iR 5 (.p .mv) [(iC 0)]]) (iK [0,1,5] (.block 0 (.loop (iK [0,1,5] (.seq (.seq (.reg [iM 11 5,iM 12 0,iR 13 (.p .len) [(.t 12)],iR 14 (iB .lss) [(.t 11),(.t 13)]]) (iK [0,1,5,14] (.cond (.t 14) .skip (iK [] (.exit 0))))) (iK [0,1,5] (.seq (.block 1 (.seq (.draw [iM 17 0,iM 18 5,iR 19 (.p (.slIdx 1)) [(.t 17),(.t 18)],iR 20 (.l (.load none)) [(.t 19)],
    iM 21 1,iM 22 5,iR 23 (.p (.slIdx 1)) [(.t 21),(.t 22)],iR 24 (.l (.load none)) [(.t 23)],iR 25 (iB .neq) [(.t 20),(.t 24)]]) (iK [0,1,5,25] (.cond (.t 25) (.seq (.reg [iR 4 (.p .mv) [(.c (.bool false))]]) (iK [4] (iK [4] .ret))) .skip)))) (iK [0,1,5] (.reg [iM 15 5,iR 16 (iB .add) [(.t 15),(iC 1)],iM 5 16])))))))))) (iK [] (.seq (.reg [iR 4 (.p .mv) [(.c (.bool true))]]) (iK [4] (iK [4] .ret))))))))),[(.t 4)]⟩
def s_book_Same_string_j0 (call : CallK) (N : Nat) (q : KV) (st : St) (τ : Tape) : Ans := match st with
  | ⟨fr,H⟩ => q (.bool true) H τ
def s_book_Same_string_l1 (call : CallK) (N : Nat) (st : St) (τ : Tape) (k : KC) : Ans := match st with
  | ⟨fr,H⟩ => getK fr 0 fun t0 => getK fr 1 fun t1 => getK fr 5 fun t5 => someK (pLen [t0]) fun v3 => binK .lss t5 v3 fun v4 => condK v4 (someK (pSlIdx 1 [t0,t5]) fun v5 => someK (lLoad1 [v5] H) fun v6 => someK (pSlIdx 1 [t1,t5]) fun v7 => someK (lLoad1 [v7] H) fun v8 => binK .neq v6 v8 fun v9 => condK v9 (k .ret ⟨(T.set .leaf 4 (.bool false)),H⟩ τ) (binK .add t5 (.int .i64 (.ofNat 1)) fun v10 => k .normal ⟨(T.set (T.set (T.set (T.set (T.set (T.set .leaf 0 t0) 1 t1) 5 t5) 15 t5) 16 v10) 5 v10),H⟩ τ)) (k (.exit 0) ⟨.leaf,H⟩ τ)
def s_book_Same_string (call : CallK) (N : Nat) (a0 a1 : V) (H : Heap) (τ : Tape) (q : KV) : Ans := someK (pLen [a0]) fun v0 => someK (pLen [a1]) fun v1 => binK .neq v0 v1 fun v2 => condK v2 (q (.bool false) H τ) (loopK (s_book_Same_string_l1 call N) N ⟨(T.set (T.set (T.set .leaf 0 a0) 1 a1) 5 (.int .i64 (.ofNat 0))),H⟩ τ (blockK 0 (seqK (s_book_Same_string_j0 call N q) (endK [(.t 4)] q))))
theorem s_book_Same_string_eq (call : CallK) (N : Nat) (a0 a1 : V) (H : Heap) (τ : Tape) (q : KV) : s_book_Same_string call N a0 a1 H τ q = funK call N fn_book_Same_string [a0, a1] H τ q := by kernel_rfl
def e_book_Same_string (call : CallK) (N : Nat) (vs : List V) (H : Heap) (τ : Tape) (q : KV) : Ans := match vs with | [a0, a1] => s_book_Same_string call N a0 a1 H τ q | _ => none
theorem e_book_Same_string_ok : EntOk fn_book_Same_string e_book_Same_string := by
  intro call N vs H τ q r h
  unfold e_book_Same_string at h
  split at h
  · rw [s_book_Same_string_eq] at h; exact h
  · cases h
theorem e_book_Same_string_nat : EntNat e_book_Same_string := by
  intro c hn N vs H τ q
  unfold e_book_Same_string
  split
  · rw [s_book_Same_string_eq, s_book_Same_string_eq]; exact funK_ent hn _ _ _ _ _ _
  · rfl
/-- ostiary/cors.Unsafe -/
def fn_cors_Unsafe : Fun := ⟨1,(.seq (.reg [iR 2 (.p .mv) [(.c .nils)]]) (iK [0] (.seq (.reg [iR 9 (.e .mkMap) [],iR 10 (.e .mkMap) [],iM 3 9,iM 4 10]) (iK [0,3,4] (.seq (.reg [iR 5 (.p .mv) [(iC 0)]]) (iK [0,3,4,5] (.seq (.seq (.reg [iM 11 0,iR 12 (.p .len) [(.t 11)],iR 13 (.p .mv) [(iC 0)]]) (iK [3,4,5,11,12,13] (.block 0 (.loop (iK [3,4,5,11,12,13] (.seq (.reg [iR 14 (iB .lss) [(.t 13),(.t 12)]]) (iK [3,4,5,11,12,13,14] (.seq (.cond (.t 14) .skip (iK [3,4,5] (.exit 0))) (iK [3,4,5,11,12,13] (.seq (.block 1 (.seq (.reg [iR 15 (.p (.slIdx 2)) [(.t 11),(.t 13)],iR 16 (.l (.load (some 2))) [(.t 15)],iR 7 (.e (.alloc [(.str []),(.str [])])) [],⟨none,none,(.e (.store 2)),[(.t 7),(.t 16)],none⟩])
    (iK [3,4,5,7,11,12,13] (.seq (.reg [iR 17 (.p (.fieldAddr 0)) [(.t 7)],iR 18 (.l (.load none)) [(.t 17)],iR 19 (.call 59) [(.t 18)],iM 8 19]) (iK [3,4,5,7,8,11,12,13] (.seq (.seq (.reg [iR 20 (.p (.fieldAddr 0)) [(.t 7)],iR 21 (.l (.load none)) [(.t 20)],iR 22 (.p (.fieldAddr 1)) [(.t 7)],iR 23 (.l (.load none)) [(.t 22)],iR 24 (.call 69) [(.t 21),(.t 23)],iR 25 (.p (.un .not)) [(.t 24)]]) (iK [3,4,5,7,8,11,12,13,25] (.cond (.t 25) (.seq (.reg [iM 26 3,iM 27 8,iR 28 (.l (.mlook (.int .i64 (.ofNat 0)) false)) [(.t 26),(.t 27)],iR 29 (iB .add) [(.t 28),(iC 1)],⟨none,none,(.e .mput),[(.t 26),(.t 27),(.t 29)],none⟩]) (iK [3,4,5,11,12,13] (iK [3,4,5,11,12,13] (.exit 1)))) .skip)))
    (iK [3,4,5,7,8,11,12,13] (.seq (.reg [iM 30 4,iM 31 8,iR 32 (.l (.mlook (.int .i64 (.ofNat 0)) false)) [(.t 30),(.t 31)],iR 33 (iB .add) [(.t 32),(iC 1)],⟨none,none,(.e .mput),[(.t 30),(.t 31),(.t 33)],none⟩]) (iK [3,4,5,7,11,12,13] (.reg [iM 34 5,iR 35 (.p (.fieldAddr 1)) [(.t 7)],iR 36 (.l (.load none)) [(.t 35)],iR 37 (.p .lenS) [(.t 36)],iR 38 (iB .add) [(.t 34),(.t 37)],iM 5 38])))))))))) (iK [3,4,5,11,12,13] (.reg [iR 39 (iB .add) [(.t 13),(iC 1)],iM 13 39])))))))))))) (iK [3,4,5] (.seq (.seq (.reg [iM 40 5,iR 41 (iB .gtr) [(.t 40),(iC 1024)]]) (iK [3,4,41] (.cond (.t 41) (.reg [iM 42 3,iM 43 4,
    iR 44 (.call 70) [(.t 42),(.t 43)]]) .skip))) (iK [3] (.seq (.reg [iM 45 3,iR 46 (.call 71) [(.t 45)],iM 2 46]) (iK [2] (iK [2] .ret))))))))))))),[(.t 2)]⟩
def s_cors_Unsafe_j1 (call : CallK) (N : Nat) (q : KV) (st : St) (τ : Tape) : Ans := match st with
  | ⟨fr,H⟩ => getK fr 3 fun t3 => call f_cors_names [t3] H τ fun v8 H9 τ10 => q v8 H9 τ10
def s_cors_Unsafe_j0 (call : CallK) (N : Nat) (q : KV) (st : St) (τ : Tape) : Ans := match st with
  | ⟨fr,H⟩ => getK fr 3 fun t3 => getK fr 4 fun t4 => getK fr 5 fun t5 => binK .gtr t5 (.int .i64 (.ofNat 1024)) fun v7 => condK v7 (call f_maps_Copy_int [t3,t4] H τ fun v11 H12 τ13 => s_cors_Unsafe_j1 call N q ⟨(T.set (T.set (T.set (T.set (T.set (T.set .leaf 3 t3) 4 t4) 41 v7) 42 t3) 43 t4) 44 v11),H12⟩ τ13) (s_cors_Unsafe_j1 call N q ⟨(T.set (T.set (T.set .leaf 3 t3) 4 t4) 41 v7),H⟩ τ)
def s_cors_Unsafe_j3 (call : CallK) (N : Nat) (k : KC) (st : St) (τ : Tape) : Ans := match st with
  | ⟨fr,H⟩ => getK fr 3 fun t3 => getK fr 4 fun t4 => getK fr 5 fun t5 => getK fr 11 fun t11 => getK fr 12 fun t12 => getK fr 13 fun t13 => binK .add t13 (.int .i64 (.ofNat 1)) fun v15 => k .normal ⟨(T.set (T.set (T.set (T.set (T.set (T.set (T.set (T.set .leaf 3 t3) 4 t4) 5 t5) 11 t11) 12 t12) 13 t13) 39 v15) 13 v15),H⟩ τ
def s_cors_Unsafe_l2 (call : CallK) (N : Nat) (st : St) (τ : Tape) (k : KC) : Ans := match st with
  | ⟨fr,H⟩ => getK fr 3 fun t3 => getK fr 4 fun t4 => getK fr 5 fun t5 => getK fr 11 fun t11 => getK fr 12 fun t12 => getK fr 13 fun t13 => binK .lss t13 t12 fun v14 => condK v14 (someK (pSlIdx 2 [t11,t13]) fun v16 => someK (lLoadN 2 [v16] H) fun v17 => effK (eAlloc [(.str []),(.str [])] [] H τ) fun v18 H19 τ20 => effK (eStore 2 [v18,v17] H19 τ20) fun v21 H22 τ23 => someK (pFieldAddr 0 [v18]) fun v24 => someK (lLoad1 [v24] H22) fun v25 => call f_infra_Lower [v25] H22 τ23 fun v26 H27 τ28 => someK (pFieldAddr 0 [v18]) fun v29 => someK (lLoad1 [v29] H27) fun v30 => someK (pFieldAddr 1 [v18]) fun v31 => someK (lLoad1 [v31] H27) fun v32 => call f_headers_Safe [v30,v32] H27 τ28 fun v33 H34 τ35 => unK .not v33 fun v36 => condK v36 (someK (lLook (.int .i64 (.ofNat 0)) false [t3,v26] H34) fun v37 => binK .add v37 (.int .i64 (.ofNat 1)) fun v38 =>
    effK (eMput [t3,v26,v38] H34 τ35) fun v39 H40 τ41 => s_cors_Unsafe_j3 call N k ⟨(T.set (T.set (T.set (T.set (T.set (T.set .leaf 3 t3) 4 t4) 5 t5) 11 t11) 12 t12) 13 t13),H40⟩ τ41) (someK (lLook (.int .i64 (.ofNat 0)) false [t4,v26] H34) fun v42 => binK .add v42 (.int .i64 (.ofNat 1)) fun v43 => effK (eMput [t4,v26,v43] H34 τ35) fun v44 H45 τ46 => someK (pFieldAddr 1 [v18]) fun v47 => someK (lLoad1 [v47] H45) fun v48 => someK (pLenS [v48]) fun v49 => binK .add t5 v49 fun v50 => s_cors_Unsafe_j3 call N k ⟨(T.set (T.set (T.set (T.set (T.set (T.set (T.set (T.set (T.set (T.set (T.set (T.set (T.set .leaf 3 t3) 4 t4) 5 t5) 7 v18) 11 t11) 12 t12) 13 t13) 34 t5) 35 v47) 36 v48) 37 v49) 38 v50) 5 v50),H45⟩ τ46)) (k (.exit 0) ⟨(T.set (T.set (T.set .leaf 3 t3) 4 t4) 5 t5),H⟩ τ)
def s_cors_Unsafe (call : CallK) (N : Nat) (a0 : V) (H : Heap) (τ : Tape) (q : KV) : Ans := effK (eMkMap [] H τ) fun v0 H1 τ2 => effK (eMkMap [] H1 τ2) fun v3 H4 τ5 => someK (pLen [a0]) fun v6 => loopK (s_cors_Unsafe_l2 call N) N ⟨(T.set (T.set (T.set (T.set (T.set (T.set .leaf 3 v0) 4 v3) 5 (.int .i64 (.ofNat 0))) 11 a0) 12 v6) 13 (.int .i64 (.ofNat 0))),H4⟩ τ5 (blockK 0 (seqK (s_cors_Unsafe_j0 call N q) (endK [(.t 2)] q)))
theorem s_cors_Unsafe_eq (call : CallK) (N : Nat) (a0 : V) (H : Heap) (τ : Tape) (q : KV) : s_cors_Unsafe call N a0 H τ q = funK call N fn_cors_Unsafe [a0] H τ q := by kernel_rfl
def e_cors_Unsafe (call : CallK) (N : Nat) (vs : List V) (H : Heap) (τ : Tape) (q : KV) : Ans := match vs with | [a0] => s_cors_Unsafe call N a0 H τ q | _ => none
theorem e_cors_Unsafe_ok : EntOk fn_cors_Unsafe e_cors_Unsafe := by
  intro call N vs H τ q r h
  unfold e_cors_Unsafe at h
  split at h
  · rw [s_cors_Unsafe_eq] at h; exact h
  · cases h
theorem e_cors_Unsafe_nat : EntNat e_cors_Unsafe := by
  intro c hn N vs H τ q
  unfold e_cors_Unsafe
  split
  · rw [s_cors_Unsafe_eq, s_cors_Unsafe_eq]; exact funK_ent hn _ _ _ _ _ _
  · rfl
/-- ostiary/ostiaryref18.Unsafe -/
def fn_ref18_Unsafe : Fun := ⟨1,(.seq (.reg [iR 2 (.p .mv) [(.c .nils)]]) (iK [0] (.seq (.reg [iR 3 (.p .mv) [(.c .nils)],iR 4 (.p .mv) [(.c .nils)]]) (iK [0,3,4] (.seq (.reg [iR 5 (.p .mv) [(iC 0)]]) (iK [0,3,4,5] (.seq (.seq (.reg [iR 6 (.p .mv) [(iC 0)]]) (iK [0,3,4,5,6] (.block 0 (.loop (iK [0,3,4,5,6] (.seq (.seq (.reg [iM 8 6,iM 9 0,iR 10 (.p .len) [(.t 9)],iR 11 (iB .lss) [(.t 8),(.t 10)]]) (iK [0,3,4,5,6,11] (.cond (.t 11) .skip (iK [3,4,5] (.exit 0))))) (iK [0,3,4,5,6] (.seq (.block 1 (.seq (.reg [iM 14 0,iM 15 6,iR 16 (.p (.slIdx 2)) [(.t 14),(.t 15)],iR 17 (.p (.fieldAddr 0)) [(.t 16)],iR 18 (.l (.load none)) [(.t 17)],iR 19 (.call 55) [(.t 18)],iM 7 19])
    (iK [0,3,4,5,6,7] (.seq (.seq (.reg [iM 20 7,iM 21 0,iM 22 6,iR 23 (.p (.slIdx 2)) [(.t 21),(.t 22)],iR 24 (.p (.fieldAddr 1)) [(.t 23)],iR 25 (.l (.load none)) [(.t 24)],iR 26 (.call 72) [(.t 20),(.t 25)],iR 27 (.p (.un .not)) [(.t 26)]]) (iK [0,3,4,5,6,7,27] (.cond (.t 27) (.seq (.reg [iM 28 3,iM 29 7,iR 30 (.e (.buildSlice 1 1 [(.str [])] [(0,1)])) [(.t 29)],iR 31 (.e (.append 1 16)) [(.t 28),(.t 30)],iM 3 31]) (iK [0,3,4,5,6] (iK [0,3,4,5,6] (.exit 1)))) .skip))) (iK [0,3,4,5,6,7] (.seq (.reg [iM 32 4,iM 33 7,iR 34 (.e (.buildSlice 1 1 [(.str [])] [(0,1)])) [(.t 33)],iR 35 (.e (.append 1 16)) [(.t 32),(.t 34)],iM 4 35]) (iK [0,3,4,5,6] (.reg [iM 36 5,
    iM 37 0,iM 38 6,iR 39 (.p (.slIdx 2)) [(.t 37),(.t 38)],iR 40 (.p (.fieldAddr 1)) [(.t 39)],iR 41 (.l (.load none)) [(.t 40)],iR 42 (.p .lenS) [(.t 41)],iR 43 (iB .add) [(.t 36),(.t 42)],iM 5 43])))))))) (iK [0,3,4,5,6] (.reg [iM 12 6,iR 13 (iB .add) [(.t 12),(iC 1)],iM 6 13])))))))))) (iK [3,4,5] (.seq (.seq (.reg [iM 44 5,iR 45 (iB .gtr) [(.t 44),(iC 1024)]]) (iK [3,4,45] (.cond (.t 45) (.reg [iM 46 3,iM 47 4,iR 48 (.e (.append 1 16)) [(.t 46),(.t 47)],iM 3 48]) .skip))) (iK [3] (.seq (.reg [iM 49 3,iR 50 (.call 73) [(.t 49)],iM 2 50]) (iK [2] (iK [2] .ret))))))))))))),[(.t 2)]⟩
def s_ref18_Unsafe_j1 (call : CallK) (N : Nat) (q : KV) (st : St) (τ : Tape) : Ans := match st with
  | ⟨fr,H⟩ => getK fr 3 fun t3 => call f_ref1_Sorted [t3] H τ fun v1 H2 τ3 => q v1 H2 τ3
def s_ref18_Unsafe_j0 (call : CallK) (N : Nat) (q : KV) (st : St) (τ : Tape) : Ans := match st with
  | ⟨fr,H⟩ => getK fr 3 fun t3 => getK fr 4 fun t4 => getK fr 5 fun t5 => binK .gtr t5 (.int .i64 (.ofNat 1024)) fun v0 => condK v0 (effK (eAppend 1 16 [t3,t4] H τ) fun v4 H5 τ6 => s_ref18_Unsafe_j1 call N q ⟨(T.set (T.set (T.set (T.set (T.set (T.set (T.set .leaf 3 t3) 4 t4) 45 v0) 46 t3) 47 t4) 48 v4) 3 v4),H5⟩ τ6) (s_ref18_Unsafe_j1 call N q ⟨(T.set (T.set (T.set .leaf 3 t3) 4 t4) 45 v0),H⟩ τ)
def s_ref18_Unsafe_j3 (call : CallK) (N : Nat) (k : KC) (st : St) (τ : Tape) : Ans := match st with
  | ⟨fr,H⟩ => getK fr 0 fun t0 => getK fr 3 fun t3 => getK fr 4 fun t4 => getK fr 5 fun t5 => getK fr 6 fun t6 => binK .add t6 (.int .i64 (.ofNat 1)) fun v9 => k .normal ⟨(T.set (T.set (T.set (T.set (T.set (T.set (T.set (T.set .leaf 0 t0) 3 t3) 4 t4) 5 t5) 6 t6) 12 t6) 13 v9) 6 v9),H⟩ τ
def s_ref18_Unsafe_l2 (call : CallK) (N : Nat) (st : St) (τ : Tape) (k : KC) : Ans := match st with
  | ⟨fr,H⟩ => getK fr 0 fun t0 => getK fr 3 fun t3 => getK fr 4 fun t4 => getK fr 5 fun t5 => getK fr 6 fun t6 => someK (pLen [t0]) fun v7 => binK .lss t6 v7 fun v8 => condK v8 (someK (pSlIdx 2 [t0,t6]) fun v10 => someK (pFieldAddr 0 [v10]) fun v11 => someK (lLoad1 [v11] H) fun v12 => call f_ref1_Lower [v12] H τ fun v13 H14 τ15 => someK (pSlIdx 2 [t0,t6]) fun v16 => someK (pFieldAddr 1 [v16]) fun v17 => someK (lLoad1 [v17] H14) fun v18 => call f_ref5_Safe [v13,v18] H14 τ15 fun v19 H20 τ21 => unK .not v19 fun v22 => condK v22 (effK (eBuildSlice 1 1 [(.str [])] [(0,1)] [v13] H20 τ21) fun v23 H24 τ25 => effK (eAppend 1 16 [t3,v23] H24 τ25) fun v26 H27 τ28 => s_ref18_Unsafe_j3 call N k ⟨(T.set (T.set (T.set (T.set (T.set .leaf 0 t0) 3 v26) 4 t4) 5 t5) 6 t6),H27⟩ τ28) (effK (eBuildSlice 1 1 [(.str [])] [(0,1)] [v13] H20 τ21) fun v29 H30 τ31 =>
    effK (eAppend 1 16 [t4,v29] H30 τ31) fun v32 H33 τ34 => someK (pSlIdx 2 [t0,t6]) fun v35 => someK (pFieldAddr 1 [v35]) fun v36 => someK (lLoad1 [v36] H33) fun v37 => someK (pLenS [v37]) fun v38 => binK .add t5 v38 fun v39 => s_ref18_Unsafe_j3 call N k ⟨(T.set (T.set (T.set (T.set (T.set (T.set (T.set (T.set (T.set (T.set (T.set (T.set (T.set (T.set .leaf 0 t0) 3 t3) 4 v32) 5 t5) 6 t6) 36 t5) 37 t0) 38 t6) 39 v35) 40 v36) 41 v37) 42 v38) 43 v39) 5 v39),H33⟩ τ34)) (k (.exit 0) ⟨(T.set (T.set (T.set .leaf 3 t3) 4 t4) 5 t5),H⟩ τ)
def s_ref18_Unsafe (call : CallK) (N : Nat) (a0 : V) (H : Heap) (τ : Tape) (q : KV) : Ans := loopK (s_ref18_Unsafe_l2 call N) N ⟨(T.set (T.set (T.set (T.set (T.set .leaf 0 a0) 3 .nils) 4 .nils) 5 (.int .i64 (.ofNat 0))) 6 (.int .i64 (.ofNat 0))),H⟩ τ (blockK 0 (seqK (s_ref18_Unsafe_j0 call N q) (endK [(.t 2)] q)))
theorem s_ref18_Unsafe_eq (call : CallK) (N : Nat) (a0 : V) (H : Heap) (τ : Tape) (q : KV) : s_ref18_Unsafe call N a0 H τ q = funK call N fn_ref18_Unsafe [a0] H τ q := by kernel_rfl
def e_ref18_Unsafe (call : CallK) (N : Nat) (vs : List V) (H : Heap) (τ : Tape) (q : KV) : Ans := match vs with | [a0] => s_ref18_Unsafe call N a0 H τ q | _ => none
theorem e_ref18_Unsafe_ok : EntOk fn_ref18_Unsafe e_ref18_Unsafe := by
  intro call N vs H τ q r h
  unfold e_ref18_Unsafe at h
  split at h
  · rw [s_ref18_Unsafe_eq] at h; exact h
  · cases h
theorem e_ref18_Unsafe_nat : EntNat e_ref18_Unsafe := by
  intro c hn N vs H τ q
  unfold e_ref18_Unsafe
  split
  · rw [s_ref18_Unsafe_eq, s_ref18_Unsafe_eq]; exact funK_ent hn _ _ _ _ _ _
  · rfl
/-- ostiary/ostiarylaw18.known -/
def fn_law18_known : Fun := ⟨0,(.seq (.reg [iR 0 (.p .mv) [(.c (.bool false))]]) (iK [] (.seq (.reg [iR 8 (.call 36) [(.c (.str (bs [112,79,115,116])))],iM 7 8,iR 9 (.p (.extract 0)) [(.t 7)],iR 10 (.p (.extract 1)) [(.t 7)],iM 1 9,iM 2 10]) (iK [1,2] (.seq (.reg [iR 12 (.call 36) [(.c (.str (bs [112,97,116,99,104])))],iM 11 12,iR 13 (.p (.extract 0)) [(.t 11)],iR 14 (.p (.extract 1)) [(.t 11)],iM 3 13,iM 4 14]) (iK [1,2,3,4] (.seq (.reg [iR 16 (.call 36) [(.c (.str (bs [84,82,65,67,69])))],iM 15 16,iR 17 (.p (.extract 0)) [(.t 15)],iR 18 (.p (.extract 1)) [(.t 15)],iM 5 17,iM 6 18]) (iK [1,2,3,4,6] (.seq (.reg [iM 19 1,
    iR 20 (iB .eql) [(.t 19),(.c (.str (bs [80,79,83,84])))],iM 21 20,iN 22 21 true 2,iR 23 (.p .pick) [(.t 21),(.t 22),(.c (.bool false))],iM 24 23,iN 25 24 true 3,iG 26 24 true (iB .eql) [(.t 25),(.c (.str (bs [112,97,116,99,104])))],iR 27 (.p .pick) [(.t 24),(.t 26),(.c (.bool false))],iM 28 27,iN 29 28 true 4,iR 30 (.p .pick) [(.t 28),(.t 29),(.c (.bool false))],iM 31 30,iN 32 31 true 6,iG 33 31 true (.p (.un .not)) [(.t 32)],iR 34 (.p .pick) [(.t 31),(.t 33),(.c (.bool false))],iM 35 34,iG 36 35 true (.call 39) [(.c (.str (bs [104,116,116,112,115,58,47,47,97])))],iG 37 35 true (.call 37) [(.c (.str (bs [42])))],iG 38 35 true (.call 38) [(.t 36),(.c (.bool true)),(.t 37)],
    iG 39 35 true (.p (.un .not)) [(.t 38)],iR 40 (.p .pick) [(.t 35),(.t 39),(.c (.bool false))],iM 41 40,iG 42 41 true (.call 39) [(.c (.str (bs [104,116,116,112,115,58,47,47,97])))],iG 43 41 true (.call 37) [(.c (.str (bs [42])))],iG 44 41 true (.call 38) [(.t 42),(.c (.bool false)),(.t 43)],iR 45 (.p .pick) [(.t 41),(.t 44),(.c (.bool false))],iM 0 45]) (iK [0] (iK [0] .ret))))))))))),[(.t 0)]⟩
/-- ostiary/cors.Method -/
def fn_cors_Method : Fun := ⟨1,(.seq (.reg [iR 2 (.p .mv) [(.c (.str []))],iR 3 (.p .mv) [(.c (.bool false))]]) (iK [0] (.seq (.seq (.reg [iM 4 0,iR 5 (.call 75) [(.t 4)],iR 6 (.p (.un .not)) [(.t 5)]]) (iK [0,6] (.cond (.t 6) (.seq (.reg [iR 2 (.p .mv) [(.c (.str []))],iR 3 (.p .mv) [(.c (.bool false))]]) (iK [2,3] (iK [2,3] .ret))) .skip))) (iK [0] (.seq (.seq (.reg [iM 7 0,iR 8 (.call 59) [(.t 7)]]) (iK [0,8] (.block 0 (.seq (.seq (.reg [iR 10 (iB .eql) [(.t 8),(.c (.str (bs [99,111,110,110,101,99,116])))],iM 9 10]) (iK [0,8,9] (.cond (.t 9) .skip (.seq (.reg [iR 11 (iB .eql) [(.t 8),(.c (.str (bs [116,114,97,99,101])))],iM 9 11]) (iK [0,8,9] (.cond (.t 9) .skip (.reg [iR 12 (iB .eql) [(.t 8),(.c (.str (bs [116,114,97,99,107])))],
    iM 9 12]))))))) (iK [0,8,9] (.cond (.t 9) (.seq (.reg [iR 2 (.p .mv) [(.c (.str []))],iR 3 (.p .mv) [(.c (.bool false))]]) (iK [2,3] (iK [2,3] .ret))) (.seq (.reg [iR 14 (iB .eql) [(.t 8),(.c (.str (bs [100,101,108,101,116,101])))],iM 13 14]) (iK [0,8,13] (.cond (.t 13) (.seq (.reg [iR 2 (.p .mv) [(.c (.str (bs [68,69,76,69,84,69])))],iR 3 (.p .mv) [(.c (.bool true))]]) (iK [2,3] (iK [2,3] .ret))) (.seq (.reg [iR 16 (iB .eql) [(.t 8),(.c (.str (bs [103,101,116])))],iM 15 16]) (iK [0,8,15] (.cond (.t 15) (.seq (.reg [iR 2 (.p .mv) [(.c (.str (bs [71,69,84])))],iR 3 (.p .mv) [(.c (.bool true))]]) (iK [2,3] (iK [2,3] .ret))) (.seq (.reg [iR 18 (iB .eql) [(.t 8),(.c (.str (bs [104,101,97,100])))],iM 17 18])
    (iK [0,8,17] (.cond (.t 17) (.seq (.reg [iR 2 (.p .mv) [(.c (.str (bs [72,69,65,68])))],iR 3 (.p .mv) [(.c (.bool true))]]) (iK [2,3] (iK [2,3] .ret))) (.seq (.reg [iR 20 (iB .eql) [(.t 8),(.c (.str (bs [111,112,116,105,111,110,115])))],iM 19 20]) (iK [0,8,19] (.cond (.t 19) (.seq (.reg [iR 2 (.p .mv) [(.c (.str (bs [79,80,84,73,79,78,83])))],iR 3 (.p .mv) [(.c (.bool true))]]) (iK [2,3] (iK [2,3] .ret))) (.seq (.reg [iR 22 (iB .eql) [(.t 8),(.c (.str (bs [112,111,115,116])))],iM 21 22]) (iK [0,8,21] (.cond (.t 21) (.seq (.reg [iR 2 (.p .mv) [(.c (.str (bs [80,79,83,84])))],iR 3 (.p .mv) [(.c (.bool true))]]) (iK [2,3] (iK [2,3] .ret))) (.seq (.reg [iR 24 (iB .eql) [(.t 8),(.c (.str (bs [112,117,116])))],iM 23 24])
    (iK [0,23] (.cond (.t 23) (.seq (.reg [iR 2 (.p .mv) [(.c (.str (bs [80,85,84])))],iR 3 (.p .mv) [(.c (.bool true))]]) (iK [2,3] (iK [2,3] .ret))) .skip)))))))))))))))))))))))) (iK [0] (.seq (.reg [iM 25 0,iM 2 25,iR 3 (.p .mv) [(.c (.bool true))]]) (iK [2,3] (iK [2,3] .ret))))))))),[(.t 2),(.t 3)]⟩
/-- ostiary/ostiarylaw18.allow -/
def fn_law18_allow : Fun := ⟨1,(.seq (.reg [iR 2 (.p .mv) [(.c .nils)]]) (iK [0] (.seq (.reg [iM 3 0,iR 4 (.p (.build [(.str []),(.str [])] [(0,1),(1,1)])) [(.c (.str (bs [65,99,99,101,115,115,45,67,111,110,116,114,111,108,45,65,108,108,111,119,45,79,114,105,103,105,110]))),(.t 3)],iR 5 (.e (.buildSlice 1 2 [(.str []),(.str [])] [(0,2)])) [(.t 4)],iM 2 5]) (iK [2] (iK [2] .ret))))),[(.t 2)]⟩
/-- ostiary/cors.Check -/
def fn_cors_Check : Fun := ⟨3,(.seq (.reg [iR 3 (.e .box) [(.t 0)],iR 6 (.p .mv) [(.c (.bool false))]]) (iK [1,2,3] (.seq (.reg [iM 10 2,iR 11 (.call 60) [(.t 10),(.c (.str (bs [97,99,99,101,115,115,45,99,111,110,116,114,111,108,45,97,108,108,111,119,45,111,114,105,103,105,110])))],iM 9 11,iR 12 (.p (.extract 0)) [(.t 9)],iR 13 (.p (.extract 1)) [(.t 9)],iM 7 12,iM 8 13]) (iK [1,2,3,7,8] (.seq (.block 0 (.seq (.reg [iM 15 8,iR 16 (.p (.un .not)) [(.t 15)],iM 14 16]) (iK [1,2,3,7,14] (.cond (.t 14) (.seq (.reg [iR 6 (.p .mv) [(.c (.bool false))]]) (iK [6] (iK [6] .ret))) (.seq (.reg [iM 18 7,iR 19 (iB .eql) [(.t 18),(.c (.str (bs [42])))],iM 20 19,iN 21 20 true 1,
    iG 22 20 true (.p (.un .not)) [(.t 21)],iR 23 (.p .pick) [(.t 20),(.t 22),(.c (.bool false))],iM 17 23]) (iK [1,2,3,7,17] (.cond (.t 17) (.seq (.reg [iR 6 (.p .mv) [(.c (.bool true))]]) (iK [6] (iK [6] .ret))) (.seq (.reg [iM 25 7,iR 26 (.l (.load (some 4))) [(.t 3)],iR 27 (.call 76) [(.t 26)],iR 28 (iB .neq) [(.t 25),(.t 27)],iM 24 28]) (iK [1,2,24] (.cond (.t 24) (.seq (.reg [iR 6 (.p .mv) [(.c (.bool false))]]) (iK [6] (iK [6] .ret))) .skip)))))))))) (iK [1,2] (.seq (.reg [iM 30 2,iR 31 (.call 60) [(.t 30),(.c (.str (bs [97,99,99,101,115,115,45,99,111,110,116,114,111,108,45,97,108,108,111,119,45,99,114,101,100,101,110,116,105,97,108,115])))],iM 29 31,iR 32 (.p (.extract 0)) [(.t 29)],iR 33 (.p (.extract 1)) [(.t 29)],
    iM 7 32]) (iK [1,7] (.seq (.reg [iM 34 1,iR 35 (.p (.un .not)) [(.t 34)],iM 36 35,iN 37 36 false 7,iG 38 36 false (iB .eql) [(.t 37),(.c (.str (bs [116,114,117,101])))],iR 39 (.p .pick) [(.t 36),(.c (.bool true)),(.t 38)],iM 6 39]) (iK [6] (iK [6] .ret))))))))))),[(.t 6)]⟩
/-- ostiary/ostiarylaw18.of -/
def fn_law18_of : Fun := ⟨1,(.seq (.reg [iR 2 (.e (.alloc [(.str []),(.str []),(.int .i64 (.ofNat 0)),(.bool false)])) []]) (iK [0,2] (.seq (.reg [iM 6 0,iR 7 (.call 62) [(.t 6)],iM 5 7,iR 8 (.p (.extract 0)) [(.t 5)],iR 9 (.p (.extract 1)) [(.t 5)],iR 3 (.e (.alloc [(.str []),(.str []),(.str []),(.str []),(.bool false),(.int .i64 (.ofNat 0)),(.bool false),.nils,(.str []),(.str []),(.bool false),(.bool false)])) [],⟨none,none,(.e (.store 12)),[(.t 3),(.t 8)],none⟩,iM 4 9]) (iK [2,3] (.seq (.reg [iR 10 (.l (.load (some 12))) [(.t 3)],iR 11 (.call 63) [(.t 10)],⟨none,none,(.e (.store 4)),[(.t 2),(.t 11)],none⟩]) (iK [2] (iK [2] .ret))))))),[(.cell 2 (some 4))]⟩
/-- ostiary/ostiaryref1.Lower -/
def fn_ref1_Lower : Fun := ⟨1,(.seq (.reg [iR 2 (.p .mv) [(.c (.str []))]]) (iK [0] (.seq (.reg [iM 5 0,iR 6 (.e .strBytes) [(.t 5)],iM 3 6]) (iK [3] (.seq (.seq (.reg [iR 4 (.p .mv) [(iC 0)]]) (iK [3,4] (.block 0 (.loop (iK [3,4] (.seq (.seq (.reg [iM 7 4,iM 8 3,iR 9 (.p .len) [(.t 8)],iR 10 (iB .lss) [(.t 7),(.t 9)]]) (iK [3,4,10] (.cond (.t 10) .skip (iK [3] (.exit 0))))) (iK [3,4] (.seq (.block 1 (.seq (.reg [iM 13 3,iM 14 4,iR 15 (.p (.slIdx 1)) [(.t 13),(.t 14)],iR 16 (.l (.load none)) [(.t 15)],iR 17 (iB .geq) [(.t 16),(iU 65)],iM 18 17,iN 19 18 true 3,iN 20 18 true 4,iG 21 18 true (.p (.slIdx 1)) [(.t 19),(.t 20)],
    iG 22 18 true (.l (.load none)) [(.t 21)],iG 23 18 true (iB .leq) [(.t 22),(iU 90)],iR 24 (.p .pick) [(.t 18),(.t 23),(.c (.bool false))]]) (iK [3,4,24] (.cond (.t 24) (.reg [iM 25 3,iM 26 4,iM 27 3,iM 28 4,iR 29 (.p (.slIdx 1)) [(.t 27),(.t 28)],iR 30 (.l (.load none)) [(.t 29)],iR 31 (iB .add) [(.t 30),(iU 32)],iR 32 (.p (.slIdx 1)) [(.t 25),(.t 26)],⟨none,none,(.e (.store 1)),[(.t 32),(.t 31)],none⟩]) .skip)))) (iK [3,4] (.reg [iM 11 4,iR 12 (iB .add) [(.t 11),(iC 1)],iM 4 12])))))))))) (iK [3] (.seq (.reg [iM 33 3,iR 34 (.l .bytesStr) [(.t 33)],iM 2 34]) (iK [2] (iK [2] .ret))))))))),[(.t 2)]⟩
def s_ref1_Lower_j0 (call : CallK) (N : Nat) (q : KV) (st : St) (τ : Tape) : Ans := match st with
  | ⟨fr,H⟩ => getK fr 3 fun t3 => someK (lBytesStr [t3] H) fun v3 => q v3 H τ
def s_ref1_Lower_j2 (call : CallK) (N : Nat) (k : KC) (st : St) (τ : Tape) : Ans := match st with
  | ⟨fr,H⟩ => getK fr 3 fun t3 => getK fr 4 fun t4 => binK .add t4 (.int .i64 (.ofNat 1)) fun v6 => k .normal ⟨(T.set (T.set (T.set (T.set (T.set .leaf 3 t3) 4 t4) 11 t4) 12 v6) 4 v6),H⟩ τ
def s_ref1_Lower_l1 (call : CallK) (N : Nat) (st : St) (τ : Tape) (k : KC) : Ans := match st with
  | ⟨fr,H⟩ => getK fr 3 fun t3 => getK fr 4 fun t4 => someK (pLen [t3]) fun v4 => binK .lss t4 v4 fun v5 => condK v5 (someK (pSlIdx 1 [t3,t4]) fun v7 => someK (lLoad1 [v7] H) fun v8 => binK .geq v8 (.int .u8 (.ofNat 65)) fun v9 => gK v9 true (fun q' => q' t3 H τ) H τ fun v10 H11 τ12 => gK v9 true (fun q' => q' t4 H11 τ12) H11 τ12 fun v13 H14 τ15 => gK v9 true (fun q' => someK (pSlIdx 1 [v10,v13]) fun v => q' v H14 τ15) H14 τ15 fun v16 H17 τ18 => gK v9 true (fun q' => someK (lLoad1 [v16] H17) fun v => q' v H17 τ18) H17 τ18 fun v19 H20 τ21 => gK v9 true (fun q' => binK .leq v19 (.int .u8 (.ofNat 90)) fun v => q' v H20 τ21) H20 τ21 fun v22 H23 τ24 => someK (pPick [v9,v22,(.bool false)]) fun v25 => condK v25 (someK (pSlIdx 1 [t3,t4]) fun v26 => someK (lLoad1 [v26] H23) fun v27 => binK .add v27 (.int .u8 (.ofNat 32)) fun v28 => someK (pSlIdx 1 [t3,t4]) fun v29 =>
    effK (eStore 1 [v29,v28] H23 τ24) fun v30 H31 τ32 => s_ref1_Lower_j2 call N k ⟨(T.set (T.set (T.set (T.set (T.set (T.set (T.set (T.set (T.set (T.set (T.set .leaf 3 t3) 4 t4) 24 v25) 25 t3) 26 t4) 27 t3) 28 t4) 29 v26) 30 v27) 31 v28) 32 v29),H31⟩ τ32) (s_ref1_Lower_j2 call N k ⟨(T.set (T.set (T.set .leaf 3 t3) 4 t4) 24 v25),H23⟩ τ24)) (k (.exit 0) ⟨(T.set .leaf 3 t3),H⟩ τ)
def s_ref1_Lower (call : CallK) (N : Nat) (a0 : V) (H : Heap) (τ : Tape) (q : KV) : Ans := effK (eStrBytes [a0] H τ) fun v0 H1 τ2 => loopK (s_ref1_Lower_l1 call N) N ⟨(T.set (T.set .leaf 3 v0) 4 (.int .i64 (.ofNat 0))),H1⟩ τ2 (blockK 0 (seqK (s_ref1_Lower_j0 call N q) (endK [(.t 2)] q)))
theorem s_ref1_Lower_eq (call : CallK) (N : Nat) (a0 : V) (H : Heap) (τ : Tape) (q : KV) : s_ref1_Lower call N a0 H τ q = funK call N fn_ref1_Lower [a0] H τ q := by kernel_rfl
def e_ref1_Lower (call : CallK) (N : Nat) (vs : List V) (H : Heap) (τ : Tape) (q : KV) : Ans := match vs with | [a0] => s_ref1_Lower call N a0 H τ q | _ => none
theorem e_ref1_Lower_ok : EntOk fn_ref1_Lower e_ref1_Lower := by
  intro call N vs H τ q r h
  unfold e_ref1_Lower at h
  split at h
  · rw [s_ref1_Lower_eq] at h; exact h
  · cases h
theorem e_ref1_Lower_nat : EntNat e_ref1_Lower := by
  intro c hn N vs H τ q
  unfold e_ref1_Lower
  split
  · rw [s_ref1_Lower_eq, s_ref1_Lower_eq]; exact funK_ent hn _ _ _ _ _ _
  · rfl
/-- ostiary/infra.Lower -/
def fn_infra_Lower : Fun := ⟨1,(.seq (.reg [iR 2 (.p .mv) [(.c (.str []))]]) (iK [0] (.seq (.reg [iM 3 0,iR 4 (.call 85) [(.t 3),(.c (.func 86 [] []))],iM 2 4]) (iK [2] (iK [2] .ret))))),[(.t 2)]⟩
/-- ostiary/headers.Get -/
def fn_headers_Get : Fun := ⟨2,(.seq (.reg [iR 4 (.p .mv) [(.c (.str []))],iR 5 (.p .mv) [(.c (.bool false))]]) (iK [0,1] (.seq (.reg [iR 6 (.p .mv) [(.c .nils)]]) (iK [0,1,6] (.seq (.seq (.reg [iM 9 0,iR 10 (.p .len) [(.t 9)],iR 11 (.p .mv) [(iC 0)]]) (iK [1,6,9,10,11] (.block 0 (.loop (iK [1,6,9,10,11] (.seq (.reg [iR 12 (iB .lss) [(.t 11),(.t 10)]]) (iK [1,6,9,10,11,12] (.seq (.cond (.t 12) .skip (iK [6] (.exit 0))) (iK [1,6,9,10,11] (.seq (.block 1 (.seq (.reg [iR 13 (.p (.slIdx 2)) [(.t 9),(.t 11)],iR 14 (.l (.load (some 2))) [(.t 13)],iR 8 (.e (.alloc [(.str []),(.str [])])) [],⟨none,none,(.e (.store 2)),[(.t 8),(.t 14)],none⟩]) (iK [1,6,8,9,10,11] (.seq (.reg [iR 15 (.l (.load (some 2))) [(.t 8)],iM 16 1,iR 17 (.call 87) [(.t 15),(.t 16)]])
    (iK [1,6,8,9,10,11,17] (.cond (.t 17) (.reg [iM 18 6,iR 19 (.p (.fieldAddr 1)) [(.t 8)],iR 20 (.l (.load none)) [(.t 19)],iR 21 (.e (.buildSlice 1 1 [(.str [])] [(0,1)])) [(.t 20)],iR 22 (.e (.append 1 16)) [(.t 18),(.t 21)],iM 6 22]) .skip)))))) (iK [1,6,9,10,11] (.reg [iR 23 (iB .add) [(.t 11),(iC 1)],iM 11 23])))))))))))) (iK [6] (.seq (.reg [iM 24 6,iR 25 (.call 88) [(.t 24),(.c (.str (bs [44,32])))],iM 26 6,iR 27 (.p .len) [(.t 26)],iR 28 (iB .gtr) [(.t 27),(iC 0)],iM 4 25,iM 5 28]) (iK [4,5] (iK [4,5] .ret))))))))),[(.t 4),(.t 5)]⟩
/-- ostiary/infra.Int -/
def fn_infra_Int : Fun := ⟨1,(.seq (.reg [iR 2 (.p .mv) [(iC 0)],iR 3 (.p .mv) [(.c (.bool false))]]) (iK [0] (.seq (.reg [iR 4 (.p .mv) [(iC 0)]]) (iK [0,4] (.seq (.seq (.reg [iM 8 0,iR 9 (.p .lenS) [(.t 8)],iR 10 (.p .mv) [(iC 0)]]) (iK [0,4,9,10] (.block 0 (.loop (iK [0,4,9,10] (.seq (.reg [iR 11 (iB .lss) [(.t 10),(.t 9)]]) (iK [0,4,9,10,11] (.seq (.cond (.t 11) .skip (iK [0,4] (.exit 0))) (iK [0,4,9,10] (.seq (.block 1 (.seq (.reg [iM 12 10,iM 5 12]) (iK [0,4,5,9,10] (.seq (.reg [iM 13 0,iM 14 5,iR 15 (.p .strIndex) [(.t 13),(.t 14)],iM 6 15]) (iK [0,4,6,9,10] (.seq (.seq (.reg [iM 16 6,
    iR 17 (iB .lss) [(.t 16),(iU 48)],iM 18 17,iN 19 18 false 6,iG 20 18 false (iB .gtr) [(.t 19),(iU 57)],iR 21 (.p .pick) [(.t 18),(.c (.bool true)),(.t 20)]]) (iK [0,4,6,9,10,21] (.cond (.t 21) (.seq (.reg [iR 2 (.p .mv) [(iC 0)],iR 3 (.p .mv) [(.c (.bool false))]]) (iK [2,3] (iK [2,3] .ret))) .skip))) (iK [0,4,6,9,10] (.seq (.reg [iM 22 6,iR 23 (iB .sub) [(.t 22),(iU 48)],iR 24 (.p (.toInt .i64)) [(.t 23)],iM 7 24]) (iK [0,4,7,9,10] (.seq (.seq (.reg [iM 25 4,iM 26 7,iR 27 (iB .sub) [(iC 9223372036854775807),(.t 26)],iR 28 (iB .quo) [(.t 27),(iC 10)],
    iR 29 (iB .gtr) [(.t 25),(.t 28)]]) (iK [0,4,7,9,10,29] (.cond (.t 29) (.seq (.reg [iR 4 (.p .mv) [(iC 9223372036854775807)]]) (iK [0,4,9,10] (iK [0,4,9,10] (.exit 1)))) .skip))) (iK [0,4,7,9,10] (.reg [iM 30 4,iR 31 (iB .mul) [(.t 30),(iC 10)],iM 32 7,iR 33 (iB .add) [(.t 31),(.t 32)],iM 4 33])))))))))))) (iK [0,4,9,10] (.reg [iR 34 (iB .add) [(.t 10),(iC 1)],iM 10 34])))))))))))) (iK [0,4] (.seq (.reg [iM 35 4,iM 36 0,iR 37 (.p .lenS) [(.t 36)],iR 38 (iB .gtr) [(.t 37),(iC 0)],iM 2 35,iM 3 38]) (iK [2,3] (iK [2,3] .ret))))))))),[(.t 2),(.t 3)]⟩
def s_infra_Int_j0 (call : CallK) (N : Nat) (q : KV) (st : St) (τ : Tape) : Ans := match st with
  | ⟨fr,H⟩ => getK fr 0 fun t0 => getK fr 4 fun t4 => someK (pLenS [t0]) fun v1 => binK .gtr v1 (.int .i64 (.ofNat 0)) fun v2 => q (.tup [t4,v2]) H τ
def s_infra_Int_j2 (call : CallK) (N : Nat) (k : KC) (st : St) (τ : Tape) : Ans := match st with
  | ⟨fr,H⟩ => getK fr 0 fun t0 => getK fr 4 fun t4 => getK fr 9 fun t9 => getK fr 10 fun t10 => binK .add t10 (.int .i64 (.ofNat 1)) fun v4 => k .normal ⟨(T.set (T.set (T.set (T.set (T.set (T.set .leaf 0 t0) 4 t4) 9 t9) 10 t10) 34 v4) 10 v4),H⟩ τ
def s_infra_Int_l1 (call : CallK) (N : Nat) (st : St) (τ : Tape) (k : KC) : Ans := match st with
  | ⟨fr,H⟩ => getK fr 0 fun t0 => getK fr 4 fun t4 => getK fr 9 fun t9 => getK fr 10 fun t10 => binK .lss t10 t9 fun v3 => condK v3 (someK (pStrIndex [t0,t10]) fun v5 => binK .lss v5 (.int .u8 (.ofNat 48)) fun v6 => gK v6 false (fun q' => q' v5 H τ) H τ fun v7 H8 τ9 => gK v6 false (fun q' => binK .gtr v7 (.int .u8 (.ofNat 57)) fun v => q' v H8 τ9) H8 τ9 fun v10 H11 τ12 => someK (pPick [v6,(.bool true),v10]) fun v13 => condK v13 (k .ret ⟨(T.set (T.set .leaf 2 (.int .i64 (.ofNat 0))) 3 (.bool false)),H11⟩ τ12) (binK .sub v5 (.int .u8 (.ofNat 48)) fun v14 => toIntK .i64 v14 fun v15 => binK .sub (.int .i64 (.ofNat 9223372036854775807)) v15 fun v16 => binK .quo v16 (.int .i64 (.ofNat 10)) fun v17 => binK .gtr t4 v17 fun v18 => condK v18 (s_infra_Int_j2 call N k ⟨(T.set (T.set (T.set (T.set .leaf 0 t0) 4 (.int .i64 (.ofNat 9223372036854775807))) 9 t9) 10 t10),H11⟩ τ12)
    (binK .mul t4 (.int .i64 (.ofNat 10)) fun v19 => binK .add v19 v15 fun v20 => s_infra_Int_j2 call N k ⟨(T.set (T.set (T.set (T.set (T.set (T.set (T.set (T.set (T.set (T.set .leaf 0 t0) 4 t4) 7 v15) 9 t9) 10 t10) 30 t4) 31 v19) 32 v15) 33 v20) 4 v20),H11⟩ τ12))) (k (.exit 0) ⟨(T.set (T.set .leaf 0 t0) 4 t4),H⟩ τ)
def s_infra_Int (call : CallK) (N : Nat) (a0 : V) (H : Heap) (τ : Tape) (q : KV) : Ans := someK (pLenS [a0]) fun v0 => loopK (s_infra_Int_l1 call N) N ⟨(T.set (T.set (T.set (T.set .leaf 0 a0) 4 (.int .i64 (.ofNat 0))) 9 v0) 10 (.int .i64 (.ofNat 0))),H⟩ τ (blockK 0 (seqK (s_infra_Int_j0 call N q) (endK [(.t 2),(.t 3)] q)))
theorem s_infra_Int_eq (call : CallK) (N : Nat) (a0 : V) (H : Heap) (τ : Tape) (q : KV) : s_infra_Int call N a0 H τ q = funK call N fn_infra_Int [a0] H τ q := by kernel_rfl
def e_infra_Int (call : CallK) (N : Nat) (vs : List V) (H : Heap) (τ : Tape) (q : KV) : Ans := match vs with | [a0] => s_infra_Int call N a0 H τ q | _ => none
theorem e_infra_Int_ok : EntOk fn_infra_Int e_infra_Int := by
  intro call N vs H τ q r h
  unfold e_infra_Int at h
  split at h
  · rw [s_infra_Int_eq] at h; exact h
  · cases h
theorem e_infra_Int_nat : EntNat e_infra_Int := by
  intro c hn N vs H τ q
  unfold e_infra_Int
  split
  · rw [s_infra_Int_eq, s_infra_Int_eq]; exact funK_ent hn _ _ _ _ _ _
  · rfl
/-- ostiary/ostiarykeep.URL -/
def fn_keep_URL : Fun := ⟨1,(.seq (.reg [iR 2 (.e (.alloc [(.str []),(.str []),(.str []),(.str []),(.bool false),(.int .i64 (.ofNat 0)),(.bool false),.nils,(.str []),(.str []),(.bool false),(.bool false)])) [],iR 3 (.p .mv) [(.c (.bool false))]]) (iK [0,2] (.seq (.reg [iM 7 0,iR 8 (.call 10) [(.t 7),(iC 300)],iR 9 (.call 89) [(.t 8)],iM 6 9,iR 10 (.p (.extract 0)) [(.t 6)],iR 11 (.p (.extract 1)) [(.t 6)],iR 4 (.e (.alloc [(.str []),(.str []),(.str []),(.str []),(.bool false),(.int .i64 (.ofNat 0)),(.bool false),.nils,(.str []),(.str []),(.bool false),(.bool false)])) [],⟨none,none,(.e (.store 12)),[(.t 4),(.t 10)],none⟩,iM 5 11]) (iK [2,4,5] (.seq (.reg [iR 12 (.l (.load (some 12))) [(.t 4)],iM 13 5,
    iR 14 (iB .eql) [(.t 13),(iC 0)],⟨none,none,(.e (.store 12)),[(.t 2),(.t 12)],none⟩,iM 3 14]) (iK [2,3] (iK [2,3] .ret))))))),[(.cell 2 (some 12)),(.t 3)]⟩
/-- ostiary/ostiaryref4.Of -/
def fn_ref4_Of : Fun := ⟨1,(.seq (.reg [iR 1 (.e .box) [(.t 0)],iR 2 (.e (.alloc [(.str []),(.str []),(.int .i64 (.ofNat 0)),(.bool false)])) []]) (iK [1,2] (.seq (.seq (.reg [iR 5 (.p (.fieldAddr 0)) [(.t 1)],iR 6 (.l (.load none)) [(.t 5)],iR 7 (iB .eql) [(.t 6),(.c (.str (bs [98,108,111,98])))],iM 8 7,iG 9 8 true (.p (.fieldAddr 6)) [(.t 1)],iG 10 8 true (.l (.load none)) [(.t 9)],iR 11 (.p .pick) [(.t 8),(.t 10),(.c (.bool false))],iM 12 11,iG 13 12 true (.p (.fieldAddr 7)) [(.t 1)],iG 14 12 true (.l (.load none)) [(.t 13)],iG 15 12 true (.p .len) [(.t 14)],iG 16 12 true (iB .eql) [(.t 15),(iC 1)],iR 17 (.p .pick) [(.t 12),(.t 16),(.c (.bool false))]]) (iK [1,2,17] (.cond (.t 17) (.seq (.reg [iR 19 (.p (.fieldAddr 7)) [(.t 1)],iR 20 (.l (.load none)) [(.t 19)],
    iR 21 (.p (.slIdx 1)) [(.t 20),(iC 0)],iR 22 (.l (.load none)) [(.t 21)],iR 23 (.call 89) [(.t 22)],iM 18 23,iR 24 (.p (.extract 0)) [(.t 18)],iR 25 (.p (.extract 1)) [(.t 18)],iR 3 (.e (.alloc [(.str []),(.str []),(.str []),(.str []),(.bool false),(.int .i64 (.ofNat 0)),(.bool false),.nils,(.str []),(.str []),(.bool false),(.bool false)])) [],⟨none,none,(.e (.store 12)),[(.t 3),(.t 24)],none⟩,iM 4 25]) (iK [1,2,3,4] (.seq (.reg [iM 26 4,iR 27 (iB .eql) [(.t 26),(iC 0)],iM 28 27,iG 29 28 true (.p (.fieldAddr 0)) [(.t 3)],iG 30 28 true (.l (.load none)) [(.t 29)],iG 31 28 true (iB .eql) [(.t 30),(.c (.str (bs [104,116,116,112])))],iN 32 28 true 31,iG 33 32 false (.p (.fieldAddr 0)) [(.t 3)],
    iG 34 32 false (.l (.load none)) [(.t 33)],iG 35 32 false (iB .eql) [(.t 34),(.c (.str (bs [104,116,116,112,115])))],iG 36 28 true (.p .pick) [(.t 32),(.c (.bool true)),(.t 35)],iR 37 (.p .pick) [(.t 28),(.t 36),(.c (.bool false))]]) (iK [1,2,3,37] (.cond (.t 37) (.seq (.reg [iR 38 (.l (.load (some 12))) [(.t 3)],iR 39 (.call 63) [(.t 38)],⟨none,none,(.e (.store 4)),[(.t 2),(.t 39)],none⟩]) (iK [2] (iK [2] .ret))) .skip))))) .skip))) (iK [1,2] (.seq (.seq (.reg [iR 40 (.p (.fieldAddr 0)) [(.t 1)],iR 41 (.l (.load none)) [(.t 40)],iR 42 (.call 90) [(.t 41)],iR 43 (.p (.un .not)) [(.t 42)]]) (iK [1,2,43] (.cond (.t 43) (.seq (.reg [iR 44 (.p (.build [(.str []),(.str []),(.int .i64 (.ofNat 0)),(.bool false)] [(3,1)])) [(.c (.bool true))],⟨none,none,(.e (.store 4)),[(.t 2),(.t 44)],none⟩]) (iK [2] (iK [2] .ret)))
    .skip))) (iK [1,2] (.seq (.draw [iR 45 (.p (.fieldAddr 0)) [(.t 1)],⟨(some 46),none,(.l (.load none)),[(.t 45)],some (0,1)⟩,iR 47 (.p (.fieldAddr 3)) [(.t 1)],⟨(some 48),none,(.l (.load none)),[(.t 47)],some (0,1)⟩,iR 49 (.l (.load (some 12))) [(.t 1)],iR 50 (.call 91) [(.t 49)],iR 51 (.p (.build [(.str []),(.str []),(.int .i64 (.ofNat 0)),(.bool false)] [(0,1),(1,1),(2,1)])) [(.t 46),(.t 48),(.t 50)],⟨none,none,(.e (.store 4)),[(.t 2),(.t 51)],none⟩]) (iK [2] (iK [2] .ret))))))))),[(.cell 2 (some 4))]⟩
/-- ostiary/headers.Safe -/
def fn_headers_Safe : Fun := ⟨2,(.seq (.reg [iR 4 (.p .mv) [(.c (.bool false))]]) (iK [0,1] (.seq (.seq (.reg [iM 11 1,iR 12 (.p .lenS) [(.t 11)],iR 13 (iB .gtr) [(.t 12),(iC 128)]]) (iK [0,1,13] (.cond (.t 13) (.seq (.reg [iR 4 (.p .mv) [(.c (.bool false))]]) (iK [4] (iK [4] .ret))) .skip))) (iK [0,1] (.seq (.seq (.reg [iM 14 0,iR 15 (.call 59) [(.t 14)]]) (iK [1,15] (.block 0 (.seq (.reg [iR 17 (iB .eql) [(.t 15),(.c (.str (bs [97,99,99,101,112,116])))],iM 16 17]) (iK [1,15,16] (.cond (.t 16) (.seq (.reg [iM 18 1,iR 19 (.call 98) [(.t 18)],iR 20 (.p (.un .not)) [(.t 19)],iM 4 20]) (iK [4] (iK [4] .ret)))
    (.seq (.seq (.reg [iR 22 (iB .eql) [(.t 15),(.c (.str (bs [97,99,99,101,112,116,45,108,97,110,103,117,97,103,101])))],iM 21 22]) (iK [1,15,21] (.cond (.t 21) .skip (.reg [iR 23 (iB .eql) [(.t 15),(.c (.str (bs [99,111,110,116,101,110,116,45,108,97,110,103,117,97,103,101])))],iM 21 23])))) (iK [1,15,21] (.cond (.t 21) (.seq (.reg [iM 24 1,iR 25 (.call 99) [(.t 24)],iM 4 25]) (iK [4] (iK [4] .ret))) (.seq (.reg [iR 27 (iB .eql) [(.t 15),(.c (.str (bs [99,111,110,116,101,110,116,45,116,121,112,101])))],iM 26 27]) (iK [1,15,26] (.cond (.t 26) (.seq (.reg [iM 29 1,iR 30 (.call 100) [(.t 29),(.c (.str (bs [59])))],iM 28 30,iR 31 (.p (.extract 0)) [(.t 28)],
    iR 32 (.p (.extract 1)) [(.t 28)],iR 33 (.p (.extract 2)) [(.t 28)],iM 5 31,iM 6 32,iM 7 33]) (iK [1,5] (.seq (.reg [iM 34 5,iR 35 (.call 101) [(.t 34)],iR 36 (.call 59) [(.t 35)]]) (iK [1,36] (.block 1 (.seq (.seq (.reg [iR 38 (iB .eql) [(.t 36),(.c (.str (bs [97,112,112,108,105,99,97,116,105,111,110,47,120,45,119,119,119,45,102,111,114,109,45,117,114,108,101,110,99,111,100,101,100])))],iM 37 38]) (iK [1,36,37] (.cond (.t 37) .skip (.seq (.reg [iR 39 (iB .eql) [(.t 36),(.c (.str (bs [109,117,108,116,105,112,97,114,116,47,102,111,114,109,45,100,97,116,97])))],iM 37 39]) (iK [1,36,37] (.cond (.t 37) .skip
    (.reg [iR 40 (iB .eql) [(.t 36),(.c (.str (bs [116,101,120,116,47,112,108,97,105,110])))],iM 37 40]))))))) (iK [1,37] (.cond (.t 37) (.seq (.reg [iM 41 1,iR 42 (.call 98) [(.t 41)],iR 43 (.p (.un .not)) [(.t 42)],iM 4 43]) (iK [4] (iK [4] .ret))) .skip)))))))) (.seq (.reg [iR 45 (iB .eql) [(.t 15),(.c (.str (bs [114,97,110,103,101])))],iM 44 45]) (iK [1,44] (.cond (.t 44) (.seq (.reg [iM 47 1,iR 48 (.call 102) [(.t 47)],iM 46 48,iR 49 (.p (.extract 0)) [(.t 46)],iR 50 (.p (.extract 1)) [(.t 46)],iR 51 (.p (.extract 2)) [(.t 46)],iM 8 49,iM 9 50,iM 10 51]) (iK [8,10] (.seq (.reg [iM 52 10,iM 53 52,iN 54 53 true 8,
    iG 55 53 true (iB .geq) [(.t 54),(iC 0)],iR 56 (.p .pick) [(.t 53),(.t 55),(.c (.bool false))],iM 4 56]) (iK [4] (iK [4] .ret))))) .skip))))))))))))))) (iK [] (.seq (.reg [iR 4 (.p .mv) [(.c (.bool false))]]) (iK [4] (iK [4] .ret))))))))),[(.t 4)]⟩
def s_headers_Safe_j0 (call : CallK) (N : Nat) (q : KV) (st : St) (τ : Tape) : Ans := match st with
  | ⟨fr,H⟩ => q (.bool false) H τ
def s_headers_Safe_j2 (call : CallK) (N : Nat) (q : KV) (st : St) (τ : Tape) : Ans := match st with
  | ⟨fr,H⟩ => getK fr 1 fun t1 => getK fr 37 fun t37 => condK t37 (call f_headers_unsafe [t1] H τ fun v28 H29 τ30 => unK .not v28 fun v31 => q v31 H29 τ30) (s_headers_Safe_j0 call N q ⟨(T.set (T.set .leaf 1 t1) 37 t37),H⟩ τ)
def s_headers_Safe_j1 (call : CallK) (N : Nat) (q : KV) (st : St) (τ : Tape) : Ans := match st with
  | ⟨fr,H⟩ => getK fr 1 fun t1 => getK fr 15 fun t15 => getK fr 21 fun t21 => condK t21 (call f_headers_tongues [t1] H τ fun v11 H12 τ13 => q v11 H12 τ13) (binK .eql t15 (.str (bs [99,111,110,116,101,110,116,45,116,121,112,101])) fun v14 => condK v14 (call f_strings_Cut [t1,(.str (bs [59]))] H τ fun v15 H16 τ17 => someK (pExtract 0 [v15]) fun v18 => someK (pExtract 1 [v15]) fun v19 => someK (pExtract 2 [v15]) fun v20 => call f_infra_Strip [v18] H16 τ17 fun v21 H22 τ23 => call f_infra_Lower [v21] H22 τ23 fun v24 H25 τ26 => binK .eql v24 (.str (bs [97,112,112,108,105,99,97,116,105,111,110,47,120,45,119,119,119,45,102,111,114,109,45,117,114,108,101,110,99,111,100,101,100])) fun v27 => condK v27 (s_headers_Safe_j2 call N q ⟨(T.set (T.set (T.set .leaf 1 t1) 36 v24) 37 v27),H25⟩ τ26)
    (binK .eql v24 (.str (bs [109,117,108,116,105,112,97,114,116,47,102,111,114,109,45,100,97,116,97])) fun v32 => condK v32 (s_headers_Safe_j2 call N q ⟨(T.set (T.set (T.set .leaf 1 t1) 36 v24) 37 v32),H25⟩ τ26) (binK .eql v24 (.str (bs [116,101,120,116,47,112,108,97,105,110])) fun v33 => s_headers_Safe_j2 call N q ⟨(T.set (T.set (T.set (T.set (T.set .leaf 1 t1) 36 v24) 37 v32) 40 v33) 37 v33),H25⟩ τ26))) (binK .eql t15 (.str (bs [114,97,110,103,101])) fun v34 => condK v34 (call f_headers_Range [t1] H τ fun v35 H36 τ37 => someK (pExtract 0 [v35]) fun v38 => someK (pExtract 1 [v35]) fun v39 => someK (pExtract 2 [v35]) fun v40 => gK v40 true (fun q' => q' v38 H36 τ37) H36 τ37 fun v41 H42 τ43 => gK v40 true (fun q' => binK .geq v41 (.int .i64 (.ofNat 0)) fun v => q' v H42 τ43) H42 τ43 fun v44 H45 τ46 => someK (pPick [v40,v44,(.bool false)]) fun v47 =>
    q v47 H45 τ46) (s_headers_Safe_j0 call N q ⟨(T.set (T.set .leaf 1 t1) 44 v34),H⟩ τ)))
def s_headers_Safe (call : CallK) (N : Nat) (a0 a1 : V) (H : Heap) (τ : Tape) (q : KV) : Ans := someK (pLenS [a1]) fun v0 => binK .gtr v0 (.int .i64 (.ofNat 128)) fun v1 => condK v1 (q (.bool false) H τ) (call f_infra_Lower [a0] H τ fun v2 H3 τ4 => binK .eql v2 (.str (bs [97,99,99,101,112,116])) fun v5 => condK v5 (call f_headers_unsafe [a1] H3 τ4 fun v6 H7 τ8 => unK .not v6 fun v9 => q v9 H7 τ8) (binK .eql v2 (.str (bs [97,99,99,101,112,116,45,108,97,110,103,117,97,103,101])) fun v10 => condK v10 (s_headers_Safe_j1 call N q ⟨(T.set (T.set (T.set .leaf 1 a1) 15 v2) 21 v10),H3⟩ τ4) (binK .eql v2 (.str (bs [99,111,110,116,101,110,116,45,108,97,110,103,117,97,103,101])) fun v48 => s_headers_Safe_j1 call N q ⟨(T.set (T.set (T.set (T.set (T.set .leaf 1 a1) 15 v2) 21 v10) 23 v48) 21 v48),H3⟩ τ4)))
theorem s_headers_Safe_eq (call : CallK) (N : Nat) (a0 a1 : V) (H : Heap) (τ : Tape) (q : KV) : s_headers_Safe call N a0 a1 H τ q = funK call N fn_headers_Safe [a0, a1] H τ q := by kernel_rfl
def e_headers_Safe (call : CallK) (N : Nat) (vs : List V) (H : Heap) (τ : Tape) (q : KV) : Ans := match vs with | [a0, a1] => s_headers_Safe call N a0 a1 H τ q | _ => none
theorem e_headers_Safe_ok : EntOk fn_headers_Safe e_headers_Safe := by
  intro call N vs H τ q r h
  unfold e_headers_Safe at h
  split at h
  · rw [s_headers_Safe_eq] at h; exact h
  · cases h
theorem e_headers_Safe_nat : EntNat e_headers_Safe := by
  intro c hn N vs H τ q
  unfold e_headers_Safe
  split
  · rw [s_headers_Safe_eq, s_headers_Safe_eq]; exact funK_ent hn _ _ _ _ _ _
  · rfl
/-- ostiary/ostiaryref5.Safe -/
def fn_ref5_Safe : Fun := ⟨2,(.seq (.reg [iR 4 (.p .mv) [(.c (.bool false))]]) (iK [0,1] (.seq (.seq (.reg [iM 11 1,iR 12 (.p .lenS) [(.t 11)],iR 13 (iB .gtr) [(.t 12),(iC 128)]]) (iK [0,1,13] (.cond (.t 13) (.seq (.reg [iR 4 (.p .mv) [(.c (.bool false))]]) (iK [4] (iK [4] .ret))) .skip))) (iK [0,1] (.seq (.seq (.reg [iM 14 0,iR 15 (.call 55) [(.t 14)]]) (iK [1,15] (.block 0 (.seq (.reg [iR 17 (iB .eql) [(.t 15),(.c (.str (bs [97,99,99,101,112,116])))],iM 16 17]) (iK [1,15,16] (.cond (.t 16) (.seq (.reg [iM 18 1,iR 19 (.call 105) [(.t 18)],iR 20 (.p (.un .not)) [(.t 19)],iM 4 20]) (iK [4] (iK [4] .ret)))
    (.seq (.seq (.reg [iR 22 (iB .eql) [(.t 15),(.c (.str (bs [97,99,99,101,112,116,45,108,97,110,103,117,97,103,101])))],iM 21 22]) (iK [1,15,21] (.cond (.t 21) .skip (.reg [iR 23 (iB .eql) [(.t 15),(.c (.str (bs [99,111,110,116,101,110,116,45,108,97,110,103,117,97,103,101])))],iM 21 23])))) (iK [1,15,21] (.cond (.t 21) (.seq (.reg [iM 24 1,iR 25 (.call 106) [(.t 24)],iM 4 25]) (iK [4] (iK [4] .ret))) (.seq (.reg [iR 27 (iB .eql) [(.t 15),(.c (.str (bs [99,111,110,116,101,110,116,45,116,121,112,101])))],iM 26 27]) (iK [1,15,26] (.cond (.t 26) (.seq (.reg [iM 29 1,iR 30 (.call 107) [(.t 29),(iU 59)],iM 28 30,iR 31 (.p (.extract 0)) [(.t 28)],
    iR 32 (.p (.extract 1)) [(.t 28)],iR 33 (.p (.extract 2)) [(.t 28)],iM 5 31,iM 6 32,iM 7 33]) (iK [1,5] (.seq (.reg [iM 34 5,iR 35 (.call 108) [(.t 34)],iR 36 (.call 55) [(.t 35)],iM 5 36]) (iK [1,5] (.seq (.reg [iM 37 1,iR 38 (.call 105) [(.t 37)],iR 39 (.p (.un .not)) [(.t 38)],iM 40 39,iN 41 40 true 5,iG 42 40 true (iB .eql) [(.t 41),(.c (.str (bs [97,112,112,108,105,99,97,116,105,111,110,47,120,45,119,119,119,45,102,111,114,109,45,117,114,108,101,110,99,111,100,101,100])))],iN 43 40 true 42,iN 44 43 false 5,
    iG 45 43 false (iB .eql) [(.t 44),(.c (.str (bs [109,117,108,116,105,112,97,114,116,47,102,111,114,109,45,100,97,116,97])))],iG 46 40 true (.p .pick) [(.t 43),(.c (.bool true)),(.t 45)],iN 47 40 true 46,iN 48 47 false 5,iG 49 47 false (iB .eql) [(.t 48),(.c (.str (bs [116,101,120,116,47,112,108,97,105,110])))],iG 50 40 true (.p .pick) [(.t 47),(.c (.bool true)),(.t 49)],iR 51 (.p .pick) [(.t 40),(.t 50),(.c (.bool false))],iM 4 51]) (iK [4] (iK [4] .ret))))))) (.seq (.reg [iR 53 (iB .eql) [(.t 15),(.c (.str (bs [114,97,110,103,101])))],iM 52 53]) (iK [1,52] (.cond (.t 52) (.seq (.reg [iM 55 1,iR 56 (.call 109) [(.t 55)],iM 54 56,iR 57 (.p (.extract 0)) [(.t 54)],iR 58 (.p (.extract 1)) [(.t 54)],
    iR 59 (.p (.extract 2)) [(.t 54)],iM 8 57,iM 9 58,iM 10 59]) (iK [8,10] (.seq (.reg [iM 60 10,iM 61 60,iN 62 61 true 8,iG 63 61 true (iB .geq) [(.t 62),(iC 0)],iR 64 (.p .pick) [(.t 61),(.t 63),(.c (.bool false))],iM 4 64]) (iK [4] (iK [4] .ret))))) .skip))))))))))))))) (iK [] (.seq (.reg [iR 4 (.p .mv) [(.c (.bool false))]]) (iK [4] (iK [4] .ret))))))))),[(.t 4)]⟩
def s_ref5_Safe_j0 (call : CallK) (N : Nat) (q : KV) (st : St) (τ : Tape) : Ans := match st with
  | ⟨fr,H⟩ => q (.bool false) H τ
def s_ref5_Safe_j1 (call : CallK) (N : Nat) (q : KV) (st : St) (τ : Tape) : Ans := match st with
  | ⟨fr,H⟩ => getK fr 1 fun t1 => getK fr 15 fun t15 => getK fr 21 fun t21 => condK t21 (call f_ref5_language [t1] H τ fun v11 H12 τ13 => q v11 H12 τ13) (binK .eql t15 (.str (bs [99,111,110,116,101,110,116,45,116,121,112,101])) fun v14 => condK v14 (call f_ref1_Part [t1,(.int .u8 (.ofNat 59))] H τ fun v15 H16 τ17 => someK (pExtract 0 [v15]) fun v18 => someK (pExtract 1 [v15]) fun v19 => someK (pExtract 2 [v15]) fun v20 => call f_ref1_Strip [v18] H16 τ17 fun v21 H22 τ23 => call f_ref1_Lower [v21] H22 τ23 fun v24 H25 τ26 => call f_ref5_unsafe [t1] H25 τ26 fun v27 H28 τ29 => unK .not v27 fun v30 => gK v30 true (fun q' => q' v24 H28 τ29) H28 τ29 fun v31 H32 τ33 =>
    gK v30 true (fun q' => binK .eql v31 (.str (bs [97,112,112,108,105,99,97,116,105,111,110,47,120,45,119,119,119,45,102,111,114,109,45,117,114,108,101,110,99,111,100,101,100])) fun v => q' v H32 τ33) H32 τ33 fun v34 H35 τ36 => gK v30 true (fun q' => q' v34 H35 τ36) H35 τ36 fun v37 H38 τ39 => gK v37 false (fun q' => q' v24 H38 τ39) H38 τ39 fun v40 H41 τ42 => gK v37 false (fun q' => binK .eql v40 (.str (bs [109,117,108,116,105,112,97,114,116,47,102,111,114,109,45,100,97,116,97])) fun v => q' v H41 τ42) H41 τ42 fun v43 H44 τ45 => gK v30 true (fun q' => someK (pPick [v37,(.bool true),v43]) fun v => q' v H44 τ45) H44 τ45 fun v46 H47 τ48 => gK v30 true (fun q' => q' v46 H47 τ48) H47 τ48 fun v49 H50 τ51 => gK v49 false (fun q' => q' v24 H50 τ51) H50 τ51 fun v52 H53 τ54 =>
    gK v49 false (fun q' => binK .eql v52 (.str (bs [116,101,120,116,47,112,108,97,105,110])) fun v => q' v H53 τ54) H53 τ54 fun v55 H56 τ57 => gK v30 true (fun q' => someK (pPick [v49,(.bool true),v55]) fun v => q' v H56 τ57) H56 τ57 fun v58 H59 τ60 => someK (pPick [v30,v58,(.bool false)]) fun v61 => q v61 H59 τ60) (binK .eql t15 (.str (bs [114,97,110,103,101])) fun v62 => condK v62 (call f_ref5_Range [t1] H τ fun v63 H64 τ65 => someK (pExtract 0 [v63]) fun v66 => someK (pExtract 1 [v63]) fun v67 => someK (pExtract 2 [v63]) fun v68 => gK v68 true (fun q' => q' v66 H64 τ65) H64 τ65 fun v69 H70 τ71 => gK v68 true (fun q' => binK .geq v69 (.int .i64 (.ofNat 0)) fun v => q' v H70 τ71) H70 τ71 fun v72 H73 τ74 => someK (pPick [v68,v72,(.bool false)]) fun v75 => q v75 H73 τ74) (s_ref5_Safe_j0 call N q ⟨(T.set (T.set .leaf 1 t1) 52 v62),H⟩ τ)))
def s_ref5_Safe (call : CallK) (N : Nat) (a0 a1 : V) (H : Heap) (τ : Tape) (q : KV) : Ans := someK (pLenS [a1]) fun v0 => binK .gtr v0 (.int .i64 (.ofNat 128)) fun v1 => condK v1 (q (.bool false) H τ) (call f_ref1_Lower [a0] H τ fun v2 H3 τ4 => binK .eql v2 (.str (bs [97,99,99,101,112,116])) fun v5 => condK v5 (call f_ref5_unsafe [a1] H3 τ4 fun v6 H7 τ8 => unK .not v6 fun v9 => q v9 H7 τ8) (binK .eql v2 (.str (bs [97,99,99,101,112,116,45,108,97,110,103,117,97,103,101])) fun v10 => condK v10 (s_ref5_Safe_j1 call N q ⟨(T.set (T.set (T.set .leaf 1 a1) 15 v2) 21 v10),H3⟩ τ4) (binK .eql v2 (.str (bs [99,111,110,116,101,110,116,45,108,97,110,103,117,97,103,101])) fun v76 => s_ref5_Safe_j1 call N q ⟨(T.set (T.set (T.set (T.set (T.set .leaf 1 a1) 15 v2) 21 v10) 23 v76) 21 v76),H3⟩ τ4)))
theorem s_ref5_Safe_eq (call : CallK) (N : Nat) (a0 a1 : V) (H : Heap) (τ : Tape) (q : KV) : s_ref5_Safe call N a0 a1 H τ q = funK call N fn_ref5_Safe [a0, a1] H τ q := by kernel_rfl
def e_ref5_Safe (call : CallK) (N : Nat) (vs : List V) (H : Heap) (τ : Tape) (q : KV) : Ans := match vs with | [a0, a1] => s_ref5_Safe call N a0 a1 H τ q | _ => none
theorem e_ref5_Safe_ok : EntOk fn_ref5_Safe e_ref5_Safe := by
  intro call N vs H τ q r h
  unfold e_ref5_Safe at h
  split at h
  · rw [s_ref5_Safe_eq] at h; exact h
  · cases h
theorem e_ref5_Safe_nat : EntNat e_ref5_Safe := by
  intro c hn N vs H τ q
  unfold e_ref5_Safe
  split
  · rw [s_ref5_Safe_eq, s_ref5_Safe_eq]; exact funK_ent hn _ _ _ _ _ _
  · rfl
/-- ostiary/ostiaryref1.Sorted -/
def fn_ref1_Sorted : Fun := ⟨1,(.seq (.reg [iR 2 (.p .mv) [(.c .nils)]]) (iK [0] (.seq (.reg [iR 3 (.p .mv) [(.c .nils)]]) (iK [0,3] (.seq (.seq (.reg [iR 4 (.p .mv) [(iC 0)]]) (iK [0,3,4] (.block 0 (.loop (iK [0,3,4] (.seq (.seq (.reg [iM 6 4,iM 7 0,iR 8 (.p .len) [(.t 7)],iR 9 (iB .lss) [(.t 6),(.t 8)]]) (iK [0,3,4,9] (.cond (.t 9) .skip (iK [3] (.exit 0))))) (iK [0,3,4] (.seq (.block 1 (.seq (.reg [iR 5 (.p .mv) [(iC 0)]]) (iK [0,3,4,5] (.seq (.block 2 (.loop (iK [0,3,4,5] (.seq (.seq (.draw [iM 12 5,iM 13 3,iR 14 (.p .len) [(.t 13)],iR 15 (iB .lss) [(.t 12),(.t 14)],iM 16 15,iN 17 16 true 3,iN 18 16 true 5,iG 19 16 true (.p (.slIdx 1)) [(.t 17),(.t 18)],
    iG 20 16 true (.l (.load none)) [(.t 19)],iN 21 16 true 0,iN 22 16 true 4,iG 23 16 true (.p (.slIdx 1)) [(.t 21),(.t 22)],iG 24 16 true (.l (.load none)) [(.t 23)],iG 25 16 true (iB .lss) [(.t 20),(.t 24)],iR 26 (.p .pick) [(.t 16),(.t 25),(.c (.bool false))]]) (iK [0,3,4,5,26] (.cond (.t 26) .skip (iK [0,3,4,5] (.exit 2))))) (iK [0,3,4,5] (.block 3 (.reg [iM 27 5,iR 28 (iB .add) [(.t 27),(iC 1)],iM 5 28]))))))) (iK [0,3,4,5] (.seq (.seq (.draw [iM 29 5,iM 30 3,iR 31 (.p .len) [(.t 30)],iR 32 (iB .lss) [(.t 29),(.t 31)],iM 33 32,iN 34 33 true 3,iN 35 33 true 5,iG 36 33 true (.p (.slIdx 1)) [(.t 34),(.t 35)],
    iG 37 33 true (.l (.load none)) [(.t 36)],iN 38 33 true 0,iN 39 33 true 4,iG 40 33 true (.p (.slIdx 1)) [(.t 38),(.t 39)],iG 41 33 true (.l (.load none)) [(.t 40)],iG 42 33 true (iB .eql) [(.t 37),(.t 41)],iR 43 (.p .pick) [(.t 33),(.t 42),(.c (.bool false))]]) (iK [0,3,4,5,43] (.cond (.t 43) (iK [0,3,4] (.exit 1)) .skip))) (iK [0,3,4,5] (.seq (.reg [iM 44 3,iR 45 (.e (.buildSlice 1 1 [(.str [])] [(0,1)])) [(.c (.str []))],iR 46 (.e (.append 1 16)) [(.t 44),(.t 45)],iM 3 46]) (iK [0,3,4,5] (.seq (.draw [iM 47 3,iM 48 5,iR 49 (iB .add) [(.t 48),(iC 1)],iR 50 (.p (.slSlice 1 true false false)) [(.t 47),(.t 49)],iM 51 3,iM 52 5,
    iR 53 (.p (.slSlice 1 true false false)) [(.t 51),(.t 52)],iR 54 (.e (.copy 1)) [(.t 50),(.t 53)]]) (iK [0,3,4,5] (.reg [iM 55 3,iM 56 5,iM 57 0,iM 58 4,iR 59 (.p (.slIdx 1)) [(.t 57),(.t 58)],iR 60 (.l (.load none)) [(.t 59)],iR 61 (.p (.slIdx 1)) [(.t 55),(.t 56)],⟨none,none,(.e (.store 1)),[(.t 61),(.t 60)],none⟩])))))))))))) (iK [0,3,4] (.reg [iM 10 4,iR 11 (iB .add) [(.t 10),(iC 1)],iM 4 11])))))))))) (iK [3] (.seq (.reg [iM 62 3,iM 2 62]) (iK [2] (iK [2] .ret))))))))),[(.t 2)]⟩
def s_ref1_Sorted_j0 (call : CallK) (N : Nat) (q : KV) (st : St) (τ : Tape) : Ans := match st with
  | ⟨fr,H⟩ => getK fr 3 fun t3 => q t3 H τ
def s_ref1_Sorted_j2 (call : CallK) (N : Nat) (k : KC) (st : St) (τ : Tape) : Ans := match st with
  | ⟨fr,H⟩ => getK fr 0 fun t0 => getK fr 3 fun t3 => getK fr 4 fun t4 => binK .add t4 (.int .i64 (.ofNat 1)) fun v2 => k .normal ⟨(T.set (T.set (T.set (T.set (T.set (T.set .leaf 0 t0) 3 t3) 4 t4) 10 t4) 11 v2) 4 v2),H⟩ τ
def s_ref1_Sorted_j3 (call : CallK) (N : Nat) (k : KC) (st : St) (τ : Tape) : Ans := match st with
  | ⟨fr,H⟩ => getK fr 0 fun t0 => getK fr 3 fun t3 => getK fr 4 fun t4 => getK fr 5 fun t5 => someK (pLen [t3]) fun v3 => binK .lss t5 v3 fun v4 => gK v4 true (fun q' => q' t3 H τ) H τ fun v5 H6 τ7 => gK v4 true (fun q' => q' t5 H6 τ7) H6 τ7 fun v8 H9 τ10 => gK v4 true (fun q' => someK (pSlIdx 1 [v5,v8]) fun v => q' v H9 τ10) H9 τ10 fun v11 H12 τ13 => gK v4 true (fun q' => someK (lLoad1 [v11] H12) fun v => q' v H12 τ13) H12 τ13 fun v14 H15 τ16 => gK v4 true (fun q' => q' t0 H15 τ16) H15 τ16 fun v17 H18 τ19 => gK v4 true (fun q' => q' t4 H18 τ19) H18 τ19 fun v20 H21 τ22 => gK v4 true (fun q' => someK (pSlIdx 1 [v17,v20]) fun v => q' v H21 τ22) H21 τ22 fun v23 H24 τ25 => gK v4 true (fun q' => someK (lLoad1 [v23] H24) fun v => q' v H24 τ25) H24 τ25 fun v26 H27 τ28 => gK v4 true (fun q' => binK .eql v14 v26 fun v => q' v H27 τ28) H27 τ28 fun v29 H30 τ31 =>
    someK (pPick [v4,v29,(.bool false)]) fun v32 => condK v32 (s_ref1_Sorted_j2 call N k ⟨(T.set (T.set (T.set .leaf 0 t0) 3 t3) 4 t4),H30⟩ τ31) (effK (eBuildSlice 1 1 [(.str [])] [(0,1)] [(.str [])] H30 τ31) fun v33 H34 τ35 => effK (eAppend 1 16 [t3,v33] H34 τ35) fun v36 H37 τ38 => binK .add t5 (.int .i64 (.ofNat 1)) fun v39 => someK (pSlSlice 1 true false false [v36,v39]) fun v40 => someK (pSlSlice 1 true false false [v36,t5]) fun v41 => effK (eCopy 1 [v40,v41] H37 τ38) fun v42 H43 τ44 => someK (pSlIdx 1 [t0,t4]) fun v45 => someK (lLoad1 [v45] H43) fun v46 => someK (pSlIdx 1 [v36,t5]) fun v47 => effK (eStore 1 [v47,v46] H43 τ44) fun v48 H49 τ50 => s_ref1_Sorted_j2 call N k ⟨(T.set (T.set (T.set (T.set (T.set (T.set (T.set (T.set (T.set (T.set (T.set .leaf 0 t0) 3 v36) 4 t4) 5 t5) 55 v36) 56 t5) 57 t0) 58 t4) 59 v45) 60 v46) 61 v47),H49⟩ τ50)
def s_ref1_Sorted_l4 (call : CallK) (N : Nat) (st : St) (τ : Tape) (k : KC) : Ans := match st with
  | ⟨fr,H⟩ => getK fr 0 fun t0 => getK fr 3 fun t3 => getK fr 4 fun t4 => getK fr 5 fun t5 => someK (pLen [t3]) fun v51 => binK .lss t5 v51 fun v52 => gK v52 true (fun q' => q' t3 H τ) H τ fun v53 H54 τ55 => gK v52 true (fun q' => q' t5 H54 τ55) H54 τ55 fun v56 H57 τ58 => gK v52 true (fun q' => someK (pSlIdx 1 [v53,v56]) fun v => q' v H57 τ58) H57 τ58 fun v59 H60 τ61 => gK v52 true (fun q' => someK (lLoad1 [v59] H60) fun v => q' v H60 τ61) H60 τ61 fun v62 H63 τ64 => gK v52 true (fun q' => q' t0 H63 τ64) H63 τ64 fun v65 H66 τ67 => gK v52 true (fun q' => q' t4 H66 τ67) H66 τ67 fun v68 H69 τ70 => gK v52 true (fun q' => someK (pSlIdx 1 [v65,v68]) fun v => q' v H69 τ70) H69 τ70 fun v71 H72 τ73 => gK v52 true (fun q' => someK (lLoad1 [v71] H72) fun v => q' v H72 τ73) H72 τ73 fun v74 H75 τ76 => gK v52 true (fun q' => binK .lss v62 v74 fun v => q' v H75 τ76) H75 τ76 fun v77 H78 τ79 =>
    someK (pPick [v52,v77,(.bool false)]) fun v80 => condK v80 (binK .add t5 (.int .i64 (.ofNat 1)) fun v81 => k .normal ⟨(T.set (T.set (T.set (T.set (T.set (T.set (T.set .leaf 0 t0) 3 t3) 4 t4) 5 t5) 27 t5) 28 v81) 5 v81),H78⟩ τ79) (k (.exit 2) ⟨(T.set (T.set (T.set (T.set .leaf 0 t0) 3 t3) 4 t4) 5 t5),H78⟩ τ79)
def s_ref1_Sorted_l1 (call : CallK) (N : Nat) (st : St) (τ : Tape) (k : KC) : Ans := match st with
  | ⟨fr,H⟩ => getK fr 0 fun t0 => getK fr 3 fun t3 => getK fr 4 fun t4 => someK (pLen [t0]) fun v0 => binK .lss t4 v0 fun v1 => condK v1 (loopK (s_ref1_Sorted_l4 call N) N ⟨(T.set (T.set (T.set (T.set .leaf 0 t0) 3 t3) 4 t4) 5 (.int .i64 (.ofNat 0))),H⟩ τ (blockK 2 (seqK (s_ref1_Sorted_j3 call N k) (blockK 1 (seqK (s_ref1_Sorted_j2 call N k) k))))) (k (.exit 0) ⟨(T.set .leaf 3 t3),H⟩ τ)
def s_ref1_Sorted (call : CallK) (N : Nat) (a0 : V) (H : Heap) (τ : Tape) (q : KV) : Ans := loopK (s_ref1_Sorted_l1 call N) N ⟨(T.set (T.set (T.set .leaf 0 a0) 3 .nils) 4 (.int .i64 (.ofNat 0))),H⟩ τ (blockK 0 (seqK (s_ref1_Sorted_j0 call N q) (endK [(.t 2)] q)))
theorem s_ref1_Sorted_eq (call : CallK) (N : Nat) (a0 : V) (H : Heap) (τ : Tape) (q : KV) : s_ref1_Sorted call N a0 H τ q = funK call N fn_ref1_Sorted [a0] H τ q := by kernel_rfl
def e_ref1_Sorted (call : CallK) (N : Nat) (vs : List V) (H : Heap) (τ : Tape) (q : KV) : Ans := match vs with | [a0] => s_ref1_Sorted call N a0 H τ q | _ => none
theorem e_ref1_Sorted_ok : EntOk fn_ref1_Sorted e_ref1_Sorted := by
  intro call N vs H τ q r h
  unfold e_ref1_Sorted at h
  split at h
  · rw [s_ref1_Sorted_eq] at h; exact h
  · cases h
theorem e_ref1_Sorted_nat : EntNat e_ref1_Sorted := by
  intro c hn N vs H τ q
  unfold e_ref1_Sorted
  split
  · rw [s_ref1_Sorted_eq, s_ref1_Sorted_eq]; exact funK_ent hn _ _ _ _ _ _
  · rfl
/-- ostiary/infra.Token -/
def fn_infra_Token : Fun := ⟨1,(.seq (.reg [iR 2 (.p .mv) [(.c (.bool false))]]) (iK [0] (.seq (.seq (.reg [iM 6 0,iR 7 (.p .lenS) [(.t 6)],iR 8 (.p .mv) [(iC 0)]]) (iK [0,7,8] (.block 0 (.loop (iK [0,7,8] (.seq (.reg [iR 9 (iB .lss) [(.t 8),(.t 7)]]) (iK [0,7,8,9] (.seq (.cond (.t 9) .skip (iK [0] (.exit 0))) (iK [0,7,8] (.seq (.block 1 (.seq (.reg [iM 10 8,iM 3 10]) (iK [0,3,7,8] (.seq (.reg [iM 11 0,iM 12 3,iR 13 (.p .strIndex) [(.t 11),(.t 12)],iM 4 13]) (iK [0,4,7,8] (.seq (.reg [iM 14 4,iR 15 (iB .geq) [(.t 14),(iU 97)],iM 16 15,iN 17 16 true 4,iG 18 16 true (iB .leq) [(.t 17),(iU 122)],
    iR 19 (.p .pick) [(.t 16),(.t 18),(.c (.bool false))],iM 20 19,iN 21 20 false 4,iG 22 20 false (iB .geq) [(.t 21),(iU 65)],iN 23 20 false 22,iN 24 23 true 4,iG 25 23 true (iB .leq) [(.t 24),(iU 90)],iG 26 20 false (.p .pick) [(.t 23),(.t 25),(.c (.bool false))],iR 27 (.p .pick) [(.t 20),(.c (.bool true)),(.t 26)],iM 28 27,iN 29 28 false 4,iG 30 28 false (iB .geq) [(.t 29),(iU 48)],iN 31 28 false 30,iN 32 31 true 4,iG 33 31 true (iB .leq) [(.t 32),(iU 57)],iG 34 28 false (.p .pick) [(.t 31),(.t 33),(.c (.bool false))],iR 35 (.p .pick) [(.t 28),(.c (.bool true)),(.t 34)],iM 5 35])
    (iK [0,4,5,7,8] (.seq (.reg [iM 36 5,iR 37 (.p (.un .not)) [(.t 36)],iM 38 37,iN 39 38 true 4,iG 40 38 true (.call 111) [(.c (.str (bs [33,35,36,37,38,39,42,43,45,46,94,95,96,124,126]))),(.t 39)],iG 41 38 true (iB .lss) [(.t 40),(iC 0)],iR 42 (.p .pick) [(.t 38),(.t 41),(.c (.bool false))]]) (iK [0,7,8,42] (.cond (.t 42) (.seq (.reg [iR 2 (.p .mv) [(.c (.bool false))]]) (iK [2] (iK [2] .ret))) .skip)))))))))) (iK [0,7,8] (.reg [iR 43 (iB .add) [(.t 8),(iC 1)],iM 8 43])))))))))))) (iK [0] (.seq (.reg [iM 44 0,iR 45 (iB .neq) [(.t 44),(.c (.str []))],iM 2 45]) (iK [2] (iK [2] .ret))))))),[(.t 2)]⟩
/-- ostiary/origin.Text -/
def fn_origin_Text : Fun := ⟨1,(.seq (.reg [iR 1 (.e .box) [(.t 0)],iR 2 (.p .mv) [(.c (.str []))]]) (iK [1] (.seq (.seq (.reg [iR 4 (.p (.fieldAddr 3)) [(.t 1)],iR 5 (.l (.load none)) [(.t 4)]]) (iK [1,5] (.cond (.t 5) (.seq (.reg [iR 2 (.p .mv) [(.c (.str (bs [110,117,108,108])))]]) (iK [2] (iK [2] .ret))) .skip))) (iK [1] (.seq (.reg [iR 6 (.p (.fieldAddr 0)) [(.t 1)],iR 7 (.l (.load none)) [(.t 6)],iR 8 (iB .add) [(.t 7),(.c (.str (bs [58,47,47])))],iR 9 (.p (.fieldAddr 1)) [(.t 1)],iR 10 (.l (.load none)) [(.t 9)],iR 11 (iB .add) [(.t 8),(.t 10)],iM 3 11]) (iK [1,3] (.seq (.seq (.draw [iR 12 (.p (.fieldAddr 2)) [(.t 1)],⟨(some 13),none,(.l (.load none)),[(.t 12)],some (0,1)⟩,iR 14 (.p (.fieldAddr 0)) [(.t 1)],iR 15 (.l (.load none)) [(.t 14)],iR 16 (.call 112) [(.t 15)],
    iR 17 (iB .neq) [(.t 13),(.t 16)]]) (iK [1,3,17] (.cond (.t 17) (.reg [iM 18 3,iR 19 (.p (.fieldAddr 2)) [(.t 1)],iR 20 (.l (.load none)) [(.t 19)],iR 21 (.call 113) [(.t 20)],iR 22 (iB .add) [(.c (.str (bs [58]))),(.t 21)],iR 23 (iB .add) [(.t 18),(.t 22)],iM 3 23]) .skip))) (iK [3] (.seq (.reg [iM 24 3,iM 2 24]) (iK [2] (iK [2] .ret))))))))))),[(.t 2)]⟩
/-- ostiary/infra.mapped -/
def fn_infra_mapped : Fun := ⟨2,(.seq (.reg [iR 4 (.p .mv) [(.c (.str []))]]) (iK [0,1] (.seq (.reg [iM 8 0,iR 9 (.e .strBytes) [(.t 8)],iM 5 9]) (iK [1,5] (.seq (.seq (.reg [iM 10 5,iR 11 (.p .len) [(.t 10)],iR 12 (.p .mv) [(iC 0)]]) (iK [1,5,10,11,12] (.block 0 (.loop (iK [1,5,10,11,12] (.seq (.reg [iR 13 (iB .lss) [(.t 12),(.t 11)]]) (iK [1,5,10,11,12,13] (.seq (.cond (.t 13) .skip (iK [5] (.exit 0))) (iK [1,5,10,11,12] (.seq (.block 1 (.seq (.reg [iM 14 12,iR 15 (.p (.slIdx 1)) [(.t 10),(.t 12)],iR 16 (.l (.load none)) [(.t 15)],iM 6 14,iM 7 16]) (iK [1,5,6,7,10,11,12] (.reg [iM 17 5,iM 18 6,iM 19 1,iM 20 7,
    iR 21 .callv [(.t 19),(.t 20)],iR 22 (.p (.slIdx 1)) [(.t 17),(.t 18)],⟨none,none,(.e (.store 1)),[(.t 22),(.t 21)],none⟩])))) (iK [1,5,10,11,12] (.reg [iR 23 (iB .add) [(.t 12),(iC 1)],iM 12 23])))))))))))) (iK [5] (.seq (.reg [iM 24 5,iR 25 (.l .bytesStr) [(.t 24)],iM 4 25]) (iK [4] (iK [4] .ret))))))))),[(.t 4)]⟩
def s_infra_mapped_j0 (call : CallK) (N : Nat) (q : KV) (st : St) (τ : Tape) : Ans := match st with
  | ⟨fr,H⟩ => getK fr 5 fun t5 => someK (lBytesStr [t5] H) fun v4 => q v4 H τ
def s_infra_mapped_l1 (call : CallK) (N : Nat) (st : St) (τ : Tape) (k : KC) : Ans := match st with
  | ⟨fr,H⟩ => getK fr 1 fun t1 => getK fr 5 fun t5 => getK fr 10 fun t10 => getK fr 11 fun t11 => getK fr 12 fun t12 => binK .lss t12 t11 fun v5 => condK v5 (someK (pSlIdx 1 [t10,t12]) fun v6 => someK (lLoad1 [v6] H) fun v7 => opK call .callv [t1,v7] H τ fun v8 H9 τ10 => someK (pSlIdx 1 [t5,t12]) fun v11 => effK (eStore 1 [v11,v8] H9 τ10) fun v12 H13 τ14 => binK .add t12 (.int .i64 (.ofNat 1)) fun v15 => k .normal ⟨(T.set (T.set (T.set (T.set (T.set (T.set (T.set .leaf 1 t1) 5 t5) 10 t10) 11 t11) 12 t12) 23 v15) 12 v15),H13⟩ τ14) (k (.exit 0) ⟨(T.set .leaf 5 t5),H⟩ τ)
def s_infra_mapped (call : CallK) (N : Nat) (a0 a1 : V) (H : Heap) (τ : Tape) (q : KV) : Ans := effK (eStrBytes [a0] H τ) fun v0 H1 τ2 => someK (pLen [v0]) fun v3 => loopK (s_infra_mapped_l1 call N) N ⟨(T.set (T.set (T.set (T.set (T.set .leaf 1 a1) 5 v0) 10 v0) 11 v3) 12 (.int .i64 (.ofNat 0))),H1⟩ τ2 (blockK 0 (seqK (s_infra_mapped_j0 call N q) (endK [(.t 4)] q)))
theorem s_infra_mapped_eq (call : CallK) (N : Nat) (a0 a1 : V) (H : Heap) (τ : Tape) (q : KV) : s_infra_mapped call N a0 a1 H τ q = funK call N fn_infra_mapped [a0, a1] H τ q := by kernel_rfl
def e_infra_mapped (call : CallK) (N : Nat) (vs : List V) (H : Heap) (τ : Tape) (q : KV) : Ans := match vs with | [a0, a1] => s_infra_mapped call N a0 a1 H τ q | _ => none
theorem e_infra_mapped_ok : EntOk fn_infra_mapped e_infra_mapped := by
  intro call N vs H τ q r h
  unfold e_infra_mapped at h
  split at h
  · rw [s_infra_mapped_eq] at h; exact h
  · cases h
theorem e_infra_mapped_nat : EntNat e_infra_mapped := by
  intro c hn N vs H τ q
  unfold e_infra_mapped
  split
  · rw [s_infra_mapped_eq, s_infra_mapped_eq]; exact funK_ent hn _ _ _ _ _ _
  · rfl
/-- ostiary/infra.Lower$1 -/
def fn_infra_Lower_1 : Fun := ⟨1,(.seq (.reg [iR 2 (.p .mv) [(iU 0)]]) (iK [0] (.seq (.seq (.reg [iM 3 0,iR 4 (iB .geq) [(.t 3),(iU 65)],iM 5 4,iN 6 5 true 0,iG 7 5 true (iB .leq) [(.t 6),(iU 90)],iR 8 (.p .pick) [(.t 5),(.t 7),(.c (.bool false))]]) (iK [0,8] (.cond (.t 8) (.reg [iM 9 0,iR 10 (iB .add) [(.t 9),(iU 32)],iM 0 10]) .skip))) (iK [0] (.seq (.reg [iM 11 0,iM 2 11]) (iK [2] (iK [2] .ret))))))),[(.t 2)]⟩
def s_infra_Lower_1_j0 (call : CallK) (N : Nat) (q : KV) (st : St) (τ : Tape) : Ans := match st with
  | ⟨fr,H⟩ => getK fr 0 fun t0 => q t0 H τ
def s_infra_Lower_1 (call : CallK) (N : Nat) (a0 : V) (H : Heap) (τ : Tape) (q : KV) : Ans := binK .geq a0 (.int .u8 (.ofNat 65)) fun v0 => gK v0 true (fun q' => q' a0 H τ) H τ fun v1 H2 τ3 => gK v0 true (fun q' => binK .leq v1 (.int .u8 (.ofNat 90)) fun v => q' v H2 τ3) H2 τ3 fun v4 H5 τ6 => someK (pPick [v0,v4,(.bool false)]) fun v7 => condK v7 (binK .add a0 (.int .u8 (.ofNat 32)) fun v8 => s_infra_Lower_1_j0 call N q ⟨(T.set (T.set (T.set (T.set (T.set .leaf 0 a0) 8 v7) 9 a0) 10 v8) 0 v8),H5⟩ τ6) (s_infra_Lower_1_j0 call N q ⟨(T.set (T.set .leaf 0 a0) 8 v7),H5⟩ τ6)
theorem s_infra_Lower_1_eq (call : CallK) (N : Nat) (a0 : V) (H : Heap) (τ : Tape) (q : KV) : s_infra_Lower_1 call N a0 H τ q = funK call N fn_infra_Lower_1 [a0] H τ q := by kernel_rfl
def e_infra_Lower_1 (call : CallK) (N : Nat) (vs : List V) (H : Heap) (τ : Tape) (q : KV) : Ans := match vs with | [a0] => s_infra_Lower_1 call N a0 H τ q | _ => none
theorem e_infra_Lower_1_ok : EntOk fn_infra_Lower_1 e_infra_Lower_1 := by
  intro call N vs H τ q r h
  unfold e_infra_Lower_1 at h
  split at h
  · rw [s_infra_Lower_1_eq] at h; exact h
  · cases h
theorem e_infra_Lower_1_nat : EntNat e_infra_Lower_1 := by
  intro c hn N vs H τ q
  unfold e_infra_Lower_1
  split
  · rw [s_infra_Lower_1_eq, s_infra_Lower_1_eq]; exact funK_ent hn _ _ _ _ _ _
  · rfl
/-- ostiary/headers.is -/
def fn_headers_is : Fun := ⟨2,(.seq (.reg [iR 2 (.e .box) [(.t 0)],iR 4 (.p .mv) [(.c (.bool false))]]) (iK [1,2] (.seq (.reg [iR 5 (.p (.fieldAddr 0)) [(.t 2)],iR 6 (.l (.load none)) [(.t 5)],iR 7 (.call 59) [(.t 6)],iM 8 1,iR 9 (.call 59) [(.t 8)],iR 10 (iB .eql) [(.t 7),(.t 9)],iM 4 10]) (iK [4] (iK [4] .ret))))),[(.t 4)]⟩
/-- ostiary/ostiaryref3.Parse -/
def fn_ref3_Parse : Fun := ⟨1,(.seq (.reg [iR 2 (.e (.alloc [(.str []),(.str []),(.str []),(.str []),(.bool false),(.int .i64 (.ofNat 0)),(.bool false),.nils,(.str []),(.str []),(.bool false),(.bool false)])) [],iR 3 (.p .mv) [(iC 0)]]) (iK [0,2] (.seq (.seq (.reg [iM 10 0,iR 11 (.p .lenS) [(.t 10)],iR 12 (iB .gtr) [(.t 11),(iC 4096)]]) (iK [0,2,12] (.cond (.t 12) (.seq (.reg [iR 13 (.p (.build [(.str []),(.str []),(.str []),(.str []),(.bool false),(.int .i64 (.ofNat 0)),(.bool false),.nils,(.str []),(.str []),(.bool false),(.bool false)] [])) [],⟨none,none,(.e (.store 12)),[(.t 2),(.t 13)],none⟩,iR 3 (.p .mv) [(iC 3)]]) (iK [2,3] (iK [2,3] .ret))) .skip)))
    (iK [0,2] (.seq (.reg [iR 4 (.e (.alloc [(.str []),(.str []),(.str []),(.str []),(.bool false),(.int .i64 (.ofNat 0)),(.bool false),.nils,(.str []),(.str []),(.bool false),(.bool false)])) []]) (iK [0,2,4] (.seq (.reg [iM 14 0,iR 15 (.call 126) [(.t 14)],iR 16 (.call 125) [(.t 4),(.t 15)],iM 5 16]) (iK [2,4,5] (.seq (.reg [iM 18 5,iR 19 (.call 127) [(.t 18)],iM 17 19,iR 20 (.p (.extract 0)) [(.t 17)],iR 21 (.p (.extract 1)) [(.t 17)],iR 22 (.p (.extract 2)) [(.t 17)],iM 6 20,iM 7 21,iM 8 22]) (iK [2,4,6,7,8] (.seq (.seq (.reg [iM 23 8,iR 24 (.p (.un .not)) [(.t 23)]]) (iK [2,4,6,7,24] (.cond (.t 24)
    (.seq (.reg [iR 25 (.p (.build [(.str []),(.str []),(.str []),(.str []),(.bool false),(.int .i64 (.ofNat 0)),(.bool false),.nils,(.str []),(.str []),(.bool false),(.bool false)] [])) [],⟨none,none,(.e (.store 12)),[(.t 2),(.t 25)],none⟩,iR 3 (.p .mv) [(iC 12)]]) (iK [2,3] (iK [2,3] .ret))) .skip))) (iK [2,4,6,7] (.seq (.reg [iM 26 6,iR 27 (.p (.fieldAddr 0)) [(.t 4)],⟨none,none,(.e (.store 1)),[(.t 27),(.t 26)],none⟩]) (iK [2,4,7] (.seq (.reg [iM 28 7,iR 29 (.call 128) [(.t 4),(.t 28)],iM 9 29]) (iK [2,4,9] (.seq (.seq (.reg [iM 30 9,iR 31 (iB .neq) [(.t 30),(iC 0)]]) (iK [2,4,9,31] (.cond (.t 31)
    (.seq (.reg [iR 32 (.p (.build [(.str []),(.str []),(.str []),(.str []),(.bool false),(.int .i64 (.ofNat 0)),(.bool false),.nils,(.str []),(.str []),(.bool false),(.bool false)] [])) [],iM 33 9,⟨none,none,(.e (.store 12)),[(.t 2),(.t 32)],none⟩,iM 3 33]) (iK [2,3] (iK [2,3] .ret))) .skip))) (iK [2,4] (.seq (.reg [iR 34 (.l (.load (some 12))) [(.t 4)],⟨none,none,(.e (.store 12)),[(.t 2),(.t 34)],none⟩,iR 3 (.p .mv) [(iC 0)]]) (iK [2,3] (iK [2,3] .ret))))))))))))))))))))),[(.cell 2 (some 12)),(.t 3)]⟩
/-- ostiary/ostiaryref3.Special -/
def fn_ref3_Special : Fun := ⟨1,(.seq (.reg [iR 2 (.p .mv) [(.c (.bool false))]]) (iK [0] (.seq (.reg [iM 3 0,iR 4 (.call 118) [(.t 3)],iR 5 (iB .geq) [(.t 4),(iC 0)],iM 2 5]) (iK [2] (iK [2] .ret))))),[(.t 2)]⟩
/-- ostiary/ostiaryref4.Port -/
def fn_ref4_Port : Fun := ⟨1,(.seq (.reg [iR 1 (.e .box) [(.t 0)],iR 2 (.p .mv) [(iC 0)]]) (iK [1] (.seq (.seq (.reg [iR 3 (.p (.fieldAddr 5)) [(.t 1)],iR 4 (.l (.load none)) [(.t 3)],iR 5 (iB .eql) [(.t 4),(.c (.int .i64 (.negSucc 0)))]]) (iK [1,5] (.cond (.t 5) (.seq (.reg [iR 6 (.p (.fieldAddr 0)) [(.t 1)],iR 7 (.l (.load none)) [(.t 6)],iR 8 (.call 118) [(.t 7)],iM 2 8]) (iK [2] (iK [2] .ret))) .skip))) (iK [1] (.seq (.reg [iR 9 (.p (.fieldAddr 5)) [(.t 1)],iR 10 (.l (.load none)) [(.t 9)],iM 2 10]) (iK [2] (iK [2] .ret))))))),[(.t 2)]⟩
/-- ostiary/headers.un-safe -/
def fn_headers_unsafe : Fun := ⟨1,(.seq (.reg [iR 2 (.p .mv) [(.c (.bool false))]]) (iK [0] (.seq (.seq (.reg [iM 5 0,iR 6 (.p .lenS) [(.t 5)],iR 7 (.p .mv) [(iC 0)]]) (iK [0,6,7] (.block 0 (.loop (iK [0,6,7] (.seq (.reg [iR 8 (iB .lss) [(.t 7),(.t 6)]]) (iK [0,6,7,8] (.seq (.cond (.t 8) .skip (iK [] (.exit 0))) (iK [0,6,7] (.seq (.block 1 (.seq (.reg [iM 9 7,iM 3 9]) (iK [0,3,6,7] (.seq (.reg [iM 10 0,iM 11 3,iR 12 (.p .strIndex) [(.t 10),(.t 11)],iM 4 12]) (iK [0,4,6,7] (.seq (.reg [iM 13 4,iR 14 (iB .lss) [(.t 13),(iU 32)],iM 15 14,iN 16 15 true 4,iG 17 15 true (iB .neq) [(.t 16),(iU 9)],
    iR 18 (.p .pick) [(.t 15),(.t 17),(.c (.bool false))],iM 19 18,iN 20 19 false 4,iG 21 19 false (iB .eql) [(.t 20),(iU 127)],iR 22 (.p .pick) [(.t 19),(.c (.bool true)),(.t 21)],iM 23 22,iN 24 23 false 4,iG 25 23 false (.call 111) [(.c (.str (bs [34,40,41,58,60,62,63,64,91,92,93,123,125]))),(.t 24)],iG 26 23 false (iB .geq) [(.t 25),(iC 0)],iR 27 (.p .pick) [(.t 23),(.c (.bool true)),(.t 26)]]) (iK [0,6,7,27] (.cond (.t 27) (.seq (.reg [iR 2 (.p .mv) [(.c (.bool true))]]) (iK [2] (iK [2] .ret))) .skip)))))))) (iK [0,6,7] (.reg [iR 28 (iB .add) [(.t 7),(iC 1)],iM 7 28])))))))))))) (iK [] (.seq (.reg [iR 2 (.p .mv) [(.c (.bool false))]]) (iK [2] (iK [2] .ret))))))),
    [(.t 2)]⟩
def s_headers_unsafe_j0 (call : CallK) (N : Nat) (q : KV) (st : St) (τ : Tape) : Ans := match st with
  | ⟨fr,H⟩ => q (.bool false) H τ
def s_headers_unsafe_l1 (call : CallK) (N : Nat) (st : St) (τ : Tape) (k : KC) : Ans := match st with
  | ⟨fr,H⟩ => getK fr 0 fun t0 => getK fr 6 fun t6 => getK fr 7 fun t7 => binK .lss t7 t6 fun v1 => condK v1 (someK (pStrIndex [t0,t7]) fun v2 => binK .lss v2 (.int .u8 (.ofNat 32)) fun v3 => gK v3 true (fun q' => q' v2 H τ) H τ fun v4 H5 τ6 => gK v3 true (fun q' => binK .neq v4 (.int .u8 (.ofNat 9)) fun v => q' v H5 τ6) H5 τ6 fun v7 H8 τ9 => someK (pPick [v3,v7,(.bool false)]) fun v10 => gK v10 false (fun q' => q' v2 H8 τ9) H8 τ9 fun v11 H12 τ13 => gK v10 false (fun q' => binK .eql v11 (.int .u8 (.ofNat 127)) fun v => q' v H12 τ13) H12 τ13 fun v14 H15 τ16 => someK (pPick [v10,(.bool true),v14]) fun v17 => gK v17 false (fun q' => q' v2 H15 τ16) H15 τ16 fun v18 H19 τ20 => gK v17 false (fun q' => call f_strings_IndexByte [(.str (bs [34,40,41,58,60,62,63,64,91,92,93,123,125])),v18] H19 τ20 q') H19 τ20 fun v21 H22 τ23 =>
    gK v17 false (fun q' => binK .geq v21 (.int .i64 (.ofNat 0)) fun v => q' v H22 τ23) H22 τ23 fun v24 H25 τ26 => someK (pPick [v17,(.bool true),v24]) fun v27 => condK v27 (k .ret ⟨(T.set .leaf 2 (.bool true)),H25⟩ τ26) (binK .add t7 (.int .i64 (.ofNat 1)) fun v28 => k .normal ⟨(T.set (T.set (T.set (T.set (T.set .leaf 0 t0) 6 t6) 7 t7) 28 v28) 7 v28),H25⟩ τ26)) (k (.exit 0) ⟨.leaf,H⟩ τ)
def s_headers_unsafe (call : CallK) (N : Nat) (a0 : V) (H : Heap) (τ : Tape) (q : KV) : Ans := someK (pLenS [a0]) fun v0 => loopK (s_headers_unsafe_l1 call N) N ⟨(T.set (T.set (T.set .leaf 0 a0) 6 v0) 7 (.int .i64 (.ofNat 0))),H⟩ τ (blockK 0 (seqK (s_headers_unsafe_j0 call N q) (endK [(.t 2)] q)))
theorem s_headers_unsafe_eq (call : CallK) (N : Nat) (a0 : V) (H : Heap) (τ : Tape) (q : KV) : s_headers_unsafe call N a0 H τ q = funK call N fn_headers_unsafe [a0] H τ q := by kernel_rfl
def e_headers_unsafe (call : CallK) (N : Nat) (vs : List V) (H : Heap) (τ : Tape) (q : KV) : Ans := match vs with | [a0] => s_headers_unsafe call N a0 H τ q | _ => none
theorem e_headers_unsafe_ok : EntOk fn_headers_unsafe e_headers_unsafe := by
  intro call N vs H τ q r h
  unfold e_headers_unsafe at h
  split at h
  · rw [s_headers_unsafe_eq] at h; exact h
  · cases h
theorem e_headers_unsafe_nat : EntNat e_headers_unsafe := by
  intro c hn N vs H τ q
  unfold e_headers_unsafe
  split
  · rw [s_headers_unsafe_eq, s_headers_unsafe_eq]; exact funK_ent hn _ _ _ _ _ _
  · rfl
/-- ostiary/headers.tongues -/
def fn_headers_tongues : Fun := ⟨1,(.seq (.reg [iR 2 (.p .mv) [(.c (.bool false))]]) (iK [0] (.seq (.seq (.reg [iM 5 0,iR 6 (.p .lenS) [(.t 5)],iR 7 (.p .mv) [(iC 0)]]) (iK [0,6,7] (.block 0 (.loop (iK [0,6,7] (.seq (.reg [iR 8 (iB .lss) [(.t 7),(.t 6)]]) (iK [0,6,7,8] (.seq (.cond (.t 8) .skip (iK [] (.exit 0))) (iK [0,6,7] (.seq (.block 1 (.seq (.reg [iM 9 7,iM 3 9]) (iK [0,3,6,7] (.seq (.reg [iM 10 0,iM 11 3,iR 12 (.p .strIndex) [(.t 10),(.t 11)],iM 4 12]) (iK [0,4,6,7] (.seq (.reg [iM 13 4,iR 14 (iB .geq) [(.t 13),(iU 97)],iM 15 14,iN 16 15 true 4,iG 17 15 true (iB .leq) [(.t 16),(iU 122)],
    iR 18 (.p .pick) [(.t 15),(.t 17),(.c (.bool false))],iM 19 18,iN 20 19 false 4,iG 21 19 false (iB .geq) [(.t 20),(iU 65)],iN 22 19 false 21,iN 23 22 true 4,iG 24 22 true (iB .leq) [(.t 23),(iU 90)],iG 25 19 false (.p .pick) [(.t 22),(.t 24),(.c (.bool false))],iR 26 (.p .pick) [(.t 19),(.c (.bool true)),(.t 25)],iM 27 26,iN 28 27 false 4,iG 29 27 false (iB .geq) [(.t 28),(iU 48)],iN 30 27 false 29,iN 31 30 true 4,iG 32 30 true (iB .leq) [(.t 31),(iU 57)],iG 33 27 false (.p .pick) [(.t 30),(.t 32),(.c (.bool false))],iR 34 (.p .pick) [(.t 27),(.c (.bool true)),(.t 33)],iR 35 (.p (.un .not)) [(.t 34)],
    iM 36 35,iN 37 36 true 4,iG 38 36 true (.call 111) [(.c (.str (bs [32,42,44,45,46,59,61]))),(.t 37)],iG 39 36 true (iB .lss) [(.t 38),(iC 0)],iR 40 (.p .pick) [(.t 36),(.t 39),(.c (.bool false))]]) (iK [0,6,7,40] (.cond (.t 40) (.seq (.reg [iR 2 (.p .mv) [(.c (.bool false))]]) (iK [2] (iK [2] .ret))) .skip)))))))) (iK [0,6,7] (.reg [iR 41 (iB .add) [(.t 7),(iC 1)],iM 7 41])))))))))))) (iK [] (.seq (.reg [iR 2 (.p .mv) [(.c (.bool true))]]) (iK [2] (iK [2] .ret))))))),[(.t 2)]⟩
def s_headers_tongues_j0 (call : CallK) (N : Nat) (q : KV) (st : St) (τ : Tape) : Ans := match st with
  | ⟨fr,H⟩ => q (.bool true) H τ
def s_headers_tongues_l1 (call : CallK) (N : Nat) (st : St) (τ : Tape) (k : KC) : Ans := match st with
  | ⟨fr,H⟩ => getK fr 0 fun t0 => getK fr 6 fun t6 => getK fr 7 fun t7 => binK .lss t7 t6 fun v1 => condK v1 (someK (pStrIndex [t0,t7]) fun v2 => binK .geq v2 (.int .u8 (.ofNat 97)) fun v3 => gK v3 true (fun q' => q' v2 H τ) H τ fun v4 H5 τ6 => gK v3 true (fun q' => binK .leq v4 (.int .u8 (.ofNat 122)) fun v => q' v H5 τ6) H5 τ6 fun v7 H8 τ9 => someK (pPick [v3,v7,(.bool false)]) fun v10 => gK v10 false (fun q' => q' v2 H8 τ9) H8 τ9 fun v11 H12 τ13 => gK v10 false (fun q' => binK .geq v11 (.int .u8 (.ofNat 65)) fun v => q' v H12 τ13) H12 τ13 fun v14 H15 τ16 => gK v10 false (fun q' => q' v14 H15 τ16) H15 τ16 fun v17 H18 τ19 => gK v17 true (fun q' => q' v2 H18 τ19) H18 τ19 fun v20 H21 τ22 => gK v17 true (fun q' => binK .leq v20 (.int .u8 (.ofNat 90)) fun v => q' v H21 τ22) H21 τ22 fun v23 H24 τ25 =>
    gK v10 false (fun q' => someK (pPick [v17,v23,(.bool false)]) fun v => q' v H24 τ25) H24 τ25 fun v26 H27 τ28 => someK (pPick [v10,(.bool true),v26]) fun v29 => gK v29 false (fun q' => q' v2 H27 τ28) H27 τ28 fun v30 H31 τ32 => gK v29 false (fun q' => binK .geq v30 (.int .u8 (.ofNat 48)) fun v => q' v H31 τ32) H31 τ32 fun v33 H34 τ35 => gK v29 false (fun q' => q' v33 H34 τ35) H34 τ35 fun v36 H37 τ38 => gK v36 true (fun q' => q' v2 H37 τ38) H37 τ38 fun v39 H40 τ41 => gK v36 true (fun q' => binK .leq v39 (.int .u8 (.ofNat 57)) fun v => q' v H40 τ41) H40 τ41 fun v42 H43 τ44 => gK v29 false (fun q' => someK (pPick [v36,v42,(.bool false)]) fun v => q' v H43 τ44) H43 τ44 fun v45 H46 τ47 => someK (pPick [v29,(.bool true),v45]) fun v48 => unK .not v48 fun v49 => gK v49 true (fun q' => q' v2 H46 τ47) H46 τ47 fun v50 H51 τ52 =>
    gK v49 true (fun q' => call f_strings_IndexByte [(.str (bs [32,42,44,45,46,59,61])),v50] H51 τ52 q') H51 τ52 fun v53 H54 τ55 => gK v49 true (fun q' => binK .lss v53 (.int .i64 (.ofNat 0)) fun v => q' v H54 τ55) H54 τ55 fun v56 H57 τ58 => someK (pPick [v49,v56,(.bool false)]) fun v59 => condK v59 (k .ret ⟨(T.set .leaf 2 (.bool false)),H57⟩ τ58) (binK .add t7 (.int .i64 (.ofNat 1)) fun v60 => k .normal ⟨(T.set (T.set (T.set (T.set (T.set .leaf 0 t0) 6 t6) 7 t7) 41 v60) 7 v60),H57⟩ τ58)) (k (.exit 0) ⟨.leaf,H⟩ τ)
def s_headers_tongues (call : CallK) (N : Nat) (a0 : V) (H : Heap) (τ : Tape) (q : KV) : Ans := someK (pLenS [a0]) fun v0 => loopK (s_headers_tongues_l1 call N) N ⟨(T.set (T.set (T.set .leaf 0 a0) 6 v0) 7 (.int .i64 (.ofNat 0))),H⟩ τ (blockK 0 (seqK (s_headers_tongues_j0 call N q) (endK [(.t 2)] q)))
theorem s_headers_tongues_eq (call : CallK) (N : Nat) (a0 : V) (H : Heap) (τ : Tape) (q : KV) : s_headers_tongues call N a0 H τ q = funK call N fn_headers_tongues [a0] H τ q := by kernel_rfl
def e_headers_tongues (call : CallK) (N : Nat) (vs : List V) (H : Heap) (τ : Tape) (q : KV) : Ans := match vs with | [a0] => s_headers_tongues call N a0 H τ q | _ => none
theorem e_headers_tongues_ok : EntOk fn_headers_tongues e_headers_tongues := by
  intro call N vs H τ q r h
  unfold e_headers_tongues at h
  split at h
  · rw [s_headers_tongues_eq] at h; exact h
  · cases h
theorem e_headers_tongues_nat : EntNat e_headers_tongues := by
  intro c hn N vs H τ q
  unfold e_headers_tongues
  split
  · rw [s_headers_tongues_eq, s_headers_tongues_eq]; exact funK_ent hn _ _ _ _ _ _
  · rfl
/-- strings.Cut -/
def fn_strings_Cut : Fun := ⟨2,(.seq (.reg [iR 4 (.p .mv) [(.c (.str []))],iR 5 (.p .mv) [(.c (.str []))],iR 6 (.p .mv) [(.c (.bool false))]]) (iK [0,1] (.seq (.reg [iM 7 0,iM 8 1,iR 9 (.call 130) [(.t 7),(.t 8)],iR 10 (.p (.extract 0)) [(.t 9)],iR 11 (.p (.extract 1)) [(.t 9)],iR 12 (.p (.extract 2)) [(.t 9)],iM 4 10,iM 5 11,iM 6 12]) (iK [4,5,6] (iK [4,5,6] .ret))))),[(.t 4),(.t 5),(.t 6)]⟩
def s_strings_Cut (call : CallK) (N : Nat) (a0 a1 : V) (H : Heap) (τ : Tape) (q : KV) : Ans := call f_stringslite_Cut [a0,a1] H τ fun v0 H1 τ2 => someK (pExtract 0 [v0]) fun v3 => someK (pExtract 1 [v0]) fun v4 => someK (pExtract 2 [v0]) fun v5 => q (.tup [v3,v4,v5]) H1 τ2
theorem s_strings_Cut_eq (call : CallK) (N : Nat) (a0 a1 : V) (H : Heap) (τ : Tape) (q : KV) : s_strings_Cut call N a0 a1 H τ q = funK call N fn_strings_Cut [a0, a1] H τ q := by kernel_rfl
def e_strings_Cut (call : CallK) (N : Nat) (vs : List V) (H : Heap) (τ : Tape) (q : KV) : Ans := match vs with | [a0, a1] => s_strings_Cut call N a0 a1 H τ q | _ => none
theorem e_strings_Cut_ok : EntOk fn_strings_Cut e_strings_Cut := by
  intro call N vs H τ q r h
  unfold e_strings_Cut at h
  split at h
  · rw [s_strings_Cut_eq] at h; exact h
  · cases h
theorem e_strings_Cut_nat : EntNat e_strings_Cut := by
  intro c hn N vs H τ q
  unfold e_strings_Cut
  split
  · rw [s_strings_Cut_eq, s_strings_Cut_eq]; exact funK_ent hn _ _ _ _ _ _
  · rfl
/-- ostiary/infra.Strip -/
def fn_infra_Strip : Fun := ⟨1,(.seq (.reg [iR 2 (.p .mv) [(.c (.str []))]]) (iK [0] (.seq (.reg [iM 3 0,iR 4 (.call 110) [(.t 3),(.c (.str (bs [9,10,12,13,32])))],iM 2 4]) (iK [2] (iK [2] .ret))))),[(.t 2)]⟩
def s_infra_Strip (call : CallK) (N : Nat) (a0 : V) (H : Heap) (τ : Tape) (q : KV) : Ans := call f_strings_Trim [a0,(.str (bs [9,10,12,13,32]))] H τ fun v0 H1 τ2 => q v0 H1 τ2
theorem s_infra_Strip_eq (call : CallK) (N : Nat) (a0 : V) (H : Heap) (τ : Tape) (q : KV) : s_infra_Strip call N a0 H τ q = funK call N fn_infra_Strip [a0] H τ q := by kernel_rfl
def e_infra_Strip (call : CallK) (N : Nat) (vs : List V) (H : Heap) (τ : Tape) (q : KV) : Ans := match vs with | [a0] => s_infra_Strip call N a0 H τ q | _ => none
theorem e_infra_Strip_ok : EntOk fn_infra_Strip e_infra_Strip := by
  intro call N vs H τ q r h
  unfold e_infra_Strip at h
  split at h
  · rw [s_infra_Strip_eq] at h; exact h
  · cases h
theorem e_infra_Strip_nat : EntNat e_infra_Strip := by
  intro c hn N vs H τ q
  unfold e_infra_Strip
  split
  · rw [s_infra_Strip_eq, s_infra_Strip_eq]; exact funK_ent hn _ _ _ _ _ _
  · rfl
/-- ostiary/headers.Range -/
def fn_headers_Range : Fun := ⟨1,(.seq (.reg [iR 2 (.p .mv) [(iC 0)],iR 3 (.p .mv) [(iC 0)],iR 4 (.p .mv) [(.c (.bool false))]]) (iK [0] (.seq (.reg [iM 15 0,iR 16 (.call 131) [(.t 15),(.c (.str (bs [98,121,116,101,115,61])))],iM 14 16,iR 17 (.p (.extract 0)) [(.t 14)],iR 18 (.p (.extract 1)) [(.t 14)],iM 5 17,iM 6 18]) (iK [5,6] (.seq (.reg [iM 20 5,iR 21 (.call 100) [(.t 20),(.c (.str (bs [45])))],iM 19 21,iR 22 (.p (.extract 0)) [(.t 19)],iR 23 (.p (.extract 1)) [(.t 19)],iR 24 (.p (.extract 2)) [(.t 19)],iM 7 22,iM 8 23,iM 9 24]) (iK [6,7,8,9] (.seq (.reg [iM 26 7,iR 27 (.call 132) [(.t 26)],iM 25 27,
    iR 28 (.p (.extract 0)) [(.t 25)],iR 29 (.p (.extract 1)) [(.t 25)],iM 10 28,iM 11 29]) (iK [6,8,9,10,11] (.seq (.reg [iM 31 8,iR 32 (.call 132) [(.t 31)],iM 30 32,iR 33 (.p (.extract 0)) [(.t 30)],iR 34 (.p (.extract 1)) [(.t 30)],iM 12 33,iM 13 34]) (iK [6,9,10,11,12,13] (.seq (.seq (.reg [iM 35 6,iR 36 (.p (.un .not)) [(.t 35)],iM 37 36,iN 38 37 false 9,iG 39 37 false (.p (.un .not)) [(.t 38)],iR 40 (.p .pick) [(.t 37),(.c (.bool true)),(.t 39)],iM 41 40,iN 42 41 false 11,iG 43 41 false (.p (.un .not)) [(.t 42)],iR 44 (.p .pick) [(.t 41),(.c (.bool true)),(.t 43)],iM 45 44,iN 46 45 false 13,iG 47 45 false (.p (.un .not)) [(.t 46)],
    iR 48 (.p .pick) [(.t 45),(.c (.bool true)),(.t 47)],iM 49 48,iN 50 49 false 10,iG 51 49 false (iB .lss) [(.t 50),(iC 0)],iN 52 49 false 51,iN 53 52 true 12,iG 54 52 true (iB .lss) [(.t 53),(iC 0)],iG 55 49 false (.p .pick) [(.t 52),(.t 54),(.c (.bool false))],iR 56 (.p .pick) [(.t 49),(.c (.bool true)),(.t 55)],iM 57 56,iN 58 57 false 10,iG 59 57 false (iB .geq) [(.t 58),(iC 0)],iN 60 57 false 59,iN 61 60 true 12,iG 62 60 true (iB .geq) [(.t 61),(iC 0)],iG 63 57 false (.p .pick) [(.t 60),(.t 62),(.c (.bool false))],iN 64 57 false 63,iN 65 64 true 10,iN 66 64 true 12,
    iG 67 64 true (iB .gtr) [(.t 65),(.t 66)],iG 68 57 false (.p .pick) [(.t 64),(.t 67),(.c (.bool false))],iR 69 (.p .pick) [(.t 57),(.c (.bool true)),(.t 68)]]) (iK [10,12,69] (.cond (.t 69) (.seq (.reg [iR 2 (.p .mv) [(iC 0)],iR 3 (.p .mv) [(iC 0)],iR 4 (.p .mv) [(.c (.bool false))]]) (iK [2,3,4] (iK [2,3,4] .ret))) .skip))) (iK [10,12] (.seq (.reg [iM 70 10,iM 71 12,iM 2 70,iM 3 71,iR 4 (.p .mv) [(.c (.bool true))]]) (iK [2,3,4] (iK [2,3,4] .ret))))))))))))))),[(.t 2),(.t 3),(.t 4)]⟩
def s_headers_Range (call : CallK) (N : Nat) (a0 : V) (H : Heap) (τ : Tape) (q : KV) : Ans := call f_strings_CutPrefix [a0,(.str (bs [98,121,116,101,115,61]))] H τ fun v0 H1 τ2 => someK (pExtract 0 [v0]) fun v3 => someK (pExtract 1 [v0]) fun v4 => call f_strings_Cut [v3,(.str (bs [45]))] H1 τ2 fun v5 H6 τ7 => someK (pExtract 0 [v5]) fun v8 => someK (pExtract 1 [v5]) fun v9 => someK (pExtract 2 [v5]) fun v10 => call f_headers_told [v8] H6 τ7 fun v11 H12 τ13 => someK (pExtract 0 [v11]) fun v14 => someK (pExtract 1 [v11]) fun v15 => call f_headers_told [v9] H12 τ13 fun v16 H17 τ18 => someK (pExtract 0 [v16]) fun v19 => someK (pExtract 1 [v16]) fun v20 => unK .not v4 fun v21 => gK v21 false (fun q' => q' v10 H17 τ18) H17 τ18 fun v22 H23 τ24 => gK v21 false (fun q' => unK .not v22 fun v => q' v H23 τ24) H23 τ24 fun v25 H26 τ27 => someK (pPick [v21,(.bool true),v25]) fun v28 =>
    gK v28 false (fun q' => q' v15 H26 τ27) H26 τ27 fun v29 H30 τ31 => gK v28 false (fun q' => unK .not v29 fun v => q' v H30 τ31) H30 τ31 fun v32 H33 τ34 => someK (pPick [v28,(.bool true),v32]) fun v35 => gK v35 false (fun q' => q' v20 H33 τ34) H33 τ34 fun v36 H37 τ38 => gK v35 false (fun q' => unK .not v36 fun v => q' v H37 τ38) H37 τ38 fun v39 H40 τ41 => someK (pPick [v35,(.bool true),v39]) fun v42 => gK v42 false (fun q' => q' v14 H40 τ41) H40 τ41 fun v43 H44 τ45 => gK v42 false (fun q' => binK .lss v43 (.int .i64 (.ofNat 0)) fun v => q' v H44 τ45) H44 τ45 fun v46 H47 τ48 => gK v42 false (fun q' => q' v46 H47 τ48) H47 τ48 fun v49 H50 τ51 => gK v49 true (fun q' => q' v19 H50 τ51) H50 τ51 fun v52 H53 τ54 => gK v49 true (fun q' => binK .lss v52 (.int .i64 (.ofNat 0)) fun v => q' v H53 τ54) H53 τ54 fun v55 H56 τ57 =>
    gK v42 false (fun q' => someK (pPick [v49,v55,(.bool false)]) fun v => q' v H56 τ57) H56 τ57 fun v58 H59 τ60 => someK (pPick [v42,(.bool true),v58]) fun v61 => gK v61 false (fun q' => q' v14 H59 τ60) H59 τ60 fun v62 H63 τ64 => gK v61 false (fun q' => binK .geq v62 (.int .i64 (.ofNat 0)) fun v => q' v H63 τ64) H63 τ64 fun v65 H66 τ67 => gK v61 false (fun q' => q' v65 H66 τ67) H66 τ67 fun v68 H69 τ70 => gK v68 true (fun q' => q' v19 H69 τ70) H69 τ70 fun v71 H72 τ73 => gK v68 true (fun q' => binK .geq v71 (.int .i64 (.ofNat 0)) fun v => q' v H72 τ73) H72 τ73 fun v74 H75 τ76 => gK v61 false (fun q' => someK (pPick [v68,v74,(.bool false)]) fun v => q' v H75 τ76) H75 τ76 fun v77 H78 τ79 => gK v61 false (fun q' => q' v77 H78 τ79) H78 τ79 fun v80 H81 τ82 => gK v80 true (fun q' => q' v14 H81 τ82) H81 τ82 fun v83 H84 τ85 =>
    gK v80 true (fun q' => q' v19 H84 τ85) H84 τ85 fun v86 H87 τ88 => gK v80 true (fun q' => binK .gtr v83 v86 fun v => q' v H87 τ88) H87 τ88 fun v89 H90 τ91 => gK v61 false (fun q' => someK (pPick [v80,v89,(.bool false)]) fun v => q' v H90 τ91) H90 τ91 fun v92 H93 τ94 => someK (pPick [v61,(.bool true),v92]) fun v95 => condK v95 (q (.tup [(.int .i64 (.ofNat 0)),(.int .i64 (.ofNat 0)),(.bool false)]) H93 τ94) (q (.tup [v14,v19,(.bool true)]) H93 τ94)
theorem s_headers_Range_eq (call : CallK) (N : Nat) (a0 : V) (H : Heap) (τ : Tape) (q : KV) : s_headers_Range call N a0 H τ q = funK call N fn_headers_Range [a0] H τ q := by kernel_rfl
def e_headers_Range (call : CallK) (N : Nat) (vs : List V) (H : Heap) (τ : Tape) (q : KV) : Ans := match vs with | [a0] => s_headers_Range call N a0 H τ q | _ => none
theorem e_headers_Range_ok : EntOk fn_headers_Range e_headers_Range := by
  intro call N vs H τ q r h
  unfold e_headers_Range at h
  split at h
  · rw [s_headers_Range_eq] at h; exact h
  · cases h
theorem e_headers_Range_nat : EntNat e_headers_Range := by
  intro c hn N vs H τ q
  unfold e_headers_Range
  split
  · rw [s_headers_Range_eq, s_headers_Range_eq]; exact funK_ent hn _ _ _ _ _ _
  · rfl
/-- ostiary/ostiaryref5.un-safe -/
def fn_ref5_unsafe : Fun := ⟨1,(.seq (.reg [iR 2 (.p .mv) [(.c (.bool false))]]) (iK [0] (.seq (.seq (.reg [iR 3 (.p .mv) [(iC 0)]]) (iK [0,3] (.block 0 (.loop (iK [0,3] (.seq (.seq (.reg [iM 5 3,iM 6 0,iR 7 (.p .lenS) [(.t 6)],iR 8 (iB .lss) [(.t 5),(.t 7)]]) (iK [0,3,8] (.cond (.t 8) .skip (iK [] (.exit 0))))) (iK [0,3] (.seq (.block 1 (.seq (.seq (.reg [iM 11 0,iM 12 3,iR 13 (.p .strIndex) [(.t 11),(.t 12)],iR 14 (iB .lss) [(.t 13),(iU 32)],iM 15 14,iN 16 15 true 0,iN 17 15 true 3,iG 18 15 true (.p .strIndex) [(.t 16),(.t 17)],iG 19 15 true (iB .neq) [(.t 18),(iU 9)],iR 20 (.p .pick) [(.t 15),(.t 19),(.c (.bool false))],
    iM 21 20,iN 22 21 false 0,iN 23 21 false 3,iG 24 21 false (.p .strIndex) [(.t 22),(.t 23)],iG 25 21 false (iB .eql) [(.t 24),(iU 127)],iR 26 (.p .pick) [(.t 21),(.c (.bool true)),(.t 25)]]) (iK [0,3,26] (.cond (.t 26) (.seq (.reg [iR 2 (.p .mv) [(.c (.bool true))]]) (iK [2] (iK [2] .ret))) .skip))) (iK [0,3] (.seq (.reg [iR 4 (.p .mv) [(iC 0)]]) (iK [0,3,4] (.block 2 (.loop (iK [0,3,4] (.seq (.seq (.reg [iM 27 4,iR 28 (iB .lss) [(.t 27),(iC 13)]]) (iK [0,3,4,28] (.cond (.t 28) .skip (iK [0,3] (.exit 2))))) (iK [0,3,4] (.seq (.block 3 (.seq (.draw [iM 31 0,iM 32 3,iR 33 (.p .strIndex) [(.t 31),(.t 32)],iM 34 4,
    iR 35 (.p .strIndex) [(.c (.str (bs [34,40,41,58,60,62,63,64,91,92,93,123,125]))),(.t 34)],iR 36 (iB .eql) [(.t 33),(.t 35)]]) (iK [0,3,4,36] (.cond (.t 36) (.seq (.reg [iR 2 (.p .mv) [(.c (.bool true))]]) (iK [2] (iK [2] .ret))) .skip)))) (iK [0,3,4] (.reg [iM 29 4,iR 30 (iB .add) [(.t 29),(iC 1)],iM 4 30]))))))))))))) (iK [0,3] (.reg [iM 9 3,iR 10 (iB .add) [(.t 9),(iC 1)],iM 3 10])))))))))) (iK [] (.seq (.reg [iR 2 (.p .mv) [(.c (.bool false))]]) (iK [2] (iK [2] .ret))))))),[(.t 2)]⟩
def s_ref5_unsafe_j0 (call : CallK) (N : Nat) (q : KV) (st : St) (τ : Tape) : Ans := match st with
  | ⟨fr,H⟩ => q (.bool false) H τ
def s_ref5_unsafe_j2 (call : CallK) (N : Nat) (k : KC) (st : St) (τ : Tape) : Ans := match st with
  | ⟨fr,H⟩ => getK fr 0 fun t0 => getK fr 3 fun t3 => binK .add t3 (.int .i64 (.ofNat 1)) fun v2 => k .normal ⟨(T.set (T.set (T.set (T.set (T.set .leaf 0 t0) 3 t3) 9 t3) 10 v2) 3 v2),H⟩ τ
def s_ref5_unsafe_l3 (call : CallK) (N : Nat) (st : St) (τ : Tape) (k : KC) : Ans := match st with
  | ⟨fr,H⟩ => getK fr 0 fun t0 => getK fr 3 fun t3 => getK fr 4 fun t4 => binK .lss t4 (.int .i64 (.ofNat 13)) fun v31 => condK v31 (someK (pStrIndex [t0,t3]) fun v32 => someK (pStrIndex [(.str (bs [34,40,41,58,60,62,63,64,91,92,93,123,125])),t4]) fun v33 => binK .eql v32 v33 fun v34 => condK v34 (k .ret ⟨(T.set .leaf 2 (.bool true)),H⟩ τ) (binK .add t4 (.int .i64 (.ofNat 1)) fun v35 => k .normal ⟨(T.set (T.set (T.set (T.set (T.set (T.set .leaf 0 t0) 3 t3) 4 t4) 29 t4) 30 v35) 4 v35),H⟩ τ)) (k (.exit 2) ⟨(T.set (T.set .leaf 0 t0) 3 t3),H⟩ τ)
def s_ref5_unsafe_l1 (call : CallK) (N : Nat) (st : St) (τ : Tape) (k : KC) : Ans := match st with
  | ⟨fr,H⟩ => getK fr 0 fun t0 => getK fr 3 fun t3 => someK (pLenS [t0]) fun v0 => binK .lss t3 v0 fun v1 => condK v1 (someK (pStrIndex [t0,t3]) fun v3 => binK .lss v3 (.int .u8 (.ofNat 32)) fun v4 => gK v4 true (fun q' => q' t0 H τ) H τ fun v5 H6 τ7 => gK v4 true (fun q' => q' t3 H6 τ7) H6 τ7 fun v8 H9 τ10 => gK v4 true (fun q' => someK (pStrIndex [v5,v8]) fun v => q' v H9 τ10) H9 τ10 fun v11 H12 τ13 => gK v4 true (fun q' => binK .neq v11 (.int .u8 (.ofNat 9)) fun v => q' v H12 τ13) H12 τ13 fun v14 H15 τ16 => someK (pPick [v4,v14,(.bool false)]) fun v17 => gK v17 false (fun q' => q' t0 H15 τ16) H15 τ16 fun v18 H19 τ20 => gK v17 false (fun q' => q' t3 H19 τ20) H19 τ20 fun v21 H22 τ23 => gK v17 false (fun q' => someK (pStrIndex [v18,v21]) fun v => q' v H22 τ23) H22 τ23 fun v24 H25 τ26 =>
    gK v17 false (fun q' => binK .eql v24 (.int .u8 (.ofNat 127)) fun v => q' v H25 τ26) H25 τ26 fun v27 H28 τ29 => someK (pPick [v17,(.bool true),v27]) fun v30 => condK v30 (k .ret ⟨(T.set .leaf 2 (.bool true)),H28⟩ τ29) (loopK (s_ref5_unsafe_l3 call N) N ⟨(T.set (T.set (T.set .leaf 0 t0) 3 t3) 4 (.int .i64 (.ofNat 0))),H28⟩ τ29 (blockK 2 (blockK 1 (seqK (s_ref5_unsafe_j2 call N k) k))))) (k (.exit 0) ⟨.leaf,H⟩ τ)
def s_ref5_unsafe (call : CallK) (N : Nat) (a0 : V) (H : Heap) (τ : Tape) (q : KV) : Ans := loopK (s_ref5_unsafe_l1 call N) N ⟨(T.set (T.set .leaf 0 a0) 3 (.int .i64 (.ofNat 0))),H⟩ τ (blockK 0 (seqK (s_ref5_unsafe_j0 call N q) (endK [(.t 2)] q)))
theorem s_ref5_unsafe_eq (call : CallK) (N : Nat) (a0 : V) (H : Heap) (τ : Tape) (q : KV) : s_ref5_unsafe call N a0 H τ q = funK call N fn_ref5_unsafe [a0] H τ q := by kernel_rfl
def e_ref5_unsafe (call : CallK) (N : Nat) (vs : List V) (H : Heap) (τ : Tape) (q : KV) : Ans := match vs with | [a0] => s_ref5_unsafe call N a0 H τ q | _ => none
theorem e_ref5_unsafe_ok : EntOk fn_ref5_unsafe e_ref5_unsafe := by
  intro call N vs H τ q r h
  unfold e_ref5_unsafe at h
  split at h
  · rw [s_ref5_unsafe_eq] at h; exact h
  · cases h
theorem e_ref5_unsafe_nat : EntNat e_ref5_unsafe := by
  intro c hn N vs H τ q
  unfold e_ref5_unsafe
  split
  · rw [s_ref5_unsafe_eq, s_ref5_unsafe_eq]; exact funK_ent hn _ _ _ _ _ _
  · rfl
/-- ostiary/ostiaryref5.language -/
def fn_ref5_language : Fun := ⟨1,(.seq (.reg [iR 2 (.p .mv) [(.c (.bool false))]]) (iK [0] (.seq (.seq (.reg [iR 3 (.p .mv) [(iC 0)]]) (iK [0,3] (.block 0 (.loop (iK [0,3] (.seq (.seq (.reg [iM 6 3,iM 7 0,iR 8 (.p .lenS) [(.t 7)],iR 9 (iB .lss) [(.t 6),(.t 8)]]) (iK [0,3,9] (.cond (.t 9) .skip (iK [] (.exit 0))))) (iK [0,3] (.seq (.block 1 (.seq (.reg [iM 12 0,iM 13 3,iR 14 (.p .strIndex) [(.t 12),(.t 13)],iR 15 (.call 114) [(.t 14)],iM 16 15,iN 17 16 false 0,iN 18 16 false 3,iG 19 16 false (.p .strIndex) [(.t 17),(.t 18)],iG 20 16 false (.call 115) [(.t 19)],iR 21 (.p .pick) [(.t 16),(.c (.bool true)),(.t 20)],iM 4 21])
    (iK [0,3,4] (.seq (.seq (.reg [iR 5 (.p .mv) [(iC 0)]]) (iK [0,3,4,5] (.block 2 (.loop (iK [0,3,4,5] (.seq (.seq (.reg [iM 22 5,iR 23 (iB .lss) [(.t 22),(iC 7)]]) (iK [0,3,4,5,23] (.cond (.t 23) .skip (iK [0,3,4] (.exit 2))))) (iK [0,3,4,5] (.seq (.block 3 (.draw [iM 26 4,iM 27 26,iN 28 27 false 0,iN 29 27 false 3,iG 30 27 false (.p .strIndex) [(.t 28),(.t 29)],iN 31 27 false 5,iG 32 27 false (.p .strIndex) [(.c (.str (bs [32,42,44,45,46,59,61]))),(.t 31)],iG 33 27 false (iB .eql) [(.t 30),(.t 32)],iR 34 (.p .pick) [(.t 27),(.c (.bool true)),(.t 33)],iM 4 34])) (iK [0,3,4,5] (.reg [iM 24 5,
    iR 25 (iB .add) [(.t 24),(iC 1)],iM 5 25])))))))))) (iK [0,3,4] (.seq (.reg [iM 35 4,iR 36 (.p (.un .not)) [(.t 35)]]) (iK [0,3,36] (.cond (.t 36) (.seq (.reg [iR 2 (.p .mv) [(.c (.bool false))]]) (iK [2] (iK [2] .ret))) .skip)))))))) (iK [0,3] (.reg [iM 10 3,iR 11 (iB .add) [(.t 10),(iC 1)],iM 3 11])))))))))) (iK [] (.seq (.reg [iR 2 (.p .mv) [(.c (.bool true))]]) (iK [2] (iK [2] .ret))))))),[(.t 2)]⟩
def s_ref5_language_j0 (call : CallK) (N : Nat) (q : KV) (st : St) (τ : Tape) : Ans := match st with
  | ⟨fr,H⟩ => q (.bool true) H τ
def s_ref5_language_j2 (call : CallK) (N : Nat) (k : KC) (st : St) (τ : Tape) : Ans := match st with
  | ⟨fr,H⟩ => getK fr 0 fun t0 => getK fr 3 fun t3 => binK .add t3 (.int .i64 (.ofNat 1)) fun v19 => k .normal ⟨(T.set (T.set (T.set (T.set (T.set .leaf 0 t0) 3 t3) 10 t3) 11 v19) 3 v19),H⟩ τ
def s_ref5_language_j3 (call : CallK) (N : Nat) (k : KC) (st : St) (τ : Tape) : Ans := match st with
  | ⟨fr,H⟩ => getK fr 0 fun t0 => getK fr 3 fun t3 => getK fr 4 fun t4 => unK .not t4 fun v20 => condK v20 (k .ret ⟨(T.set .leaf 2 (.bool false)),H⟩ τ) (s_ref5_language_j2 call N k ⟨(T.set (T.set (T.set .leaf 0 t0) 3 t3) 36 v20),H⟩ τ)
def s_ref5_language_l4 (call : CallK) (N : Nat) (st : St) (τ : Tape) (k : KC) : Ans := match st with
  | ⟨fr,H⟩ => getK fr 0 fun t0 => getK fr 3 fun t3 => getK fr 4 fun t4 => getK fr 5 fun t5 => binK .lss t5 (.int .i64 (.ofNat 7)) fun v21 => condK v21 (gK t4 false (fun q' => q' t0 H τ) H τ fun v22 H23 τ24 => gK t4 false (fun q' => q' t3 H23 τ24) H23 τ24 fun v25 H26 τ27 => gK t4 false (fun q' => someK (pStrIndex [v22,v25]) fun v => q' v H26 τ27) H26 τ27 fun v28 H29 τ30 => gK t4 false (fun q' => q' t5 H29 τ30) H29 τ30 fun v31 H32 τ33 => gK t4 false (fun q' => someK (pStrIndex [(.str (bs [32,42,44,45,46,59,61])),v31]) fun v => q' v H32 τ33) H32 τ33 fun v34 H35 τ36 => gK t4 false (fun q' => binK .eql v28 v34 fun v => q' v H35 τ36) H35 τ36 fun v37 H38 τ39 => someK (pPick [t4,(.bool true),v37]) fun v40 => binK .add t5 (.int .i64 (.ofNat 1)) fun v41 => k .normal ⟨(T.set (T.set (T.set (T.set (T.set (T.set (T.set .leaf 0 t0) 3 t3) 4 v40) 5 t5) 24 t5) 25 v41) 5 v41),H38⟩ τ39)
    (k (.exit 2) ⟨(T.set (T.set (T.set .leaf 0 t0) 3 t3) 4 t4),H⟩ τ)
def s_ref5_language_l1 (call : CallK) (N : Nat) (st : St) (τ : Tape) (k : KC) : Ans := match st with
  | ⟨fr,H⟩ => getK fr 0 fun t0 => getK fr 3 fun t3 => someK (pLenS [t0]) fun v0 => binK .lss t3 v0 fun v1 => condK v1 (someK (pStrIndex [t0,t3]) fun v2 => call f_ref1_Letter [v2] H τ fun v3 H4 τ5 => gK v3 false (fun q' => q' t0 H4 τ5) H4 τ5 fun v6 H7 τ8 => gK v3 false (fun q' => q' t3 H7 τ8) H7 τ8 fun v9 H10 τ11 => gK v3 false (fun q' => someK (pStrIndex [v6,v9]) fun v => q' v H10 τ11) H10 τ11 fun v12 H13 τ14 => gK v3 false (fun q' => call f_ref1_Digit [v12] H13 τ14 q') H13 τ14 fun v15 H16 τ17 => someK (pPick [v3,(.bool true),v15]) fun v18 => loopK (s_ref5_language_l4 call N) N ⟨(T.set (T.set (T.set (T.set .leaf 0 t0) 3 t3) 4 v18) 5 (.int .i64 (.ofNat 0))),H16⟩ τ17 (blockK 2 (seqK (s_ref5_language_j3 call N k) (blockK 1 (seqK (s_ref5_language_j2 call N k) k))))) (k (.exit 0) ⟨.leaf,H⟩ τ)
def s_ref5_language (call : CallK) (N : Nat) (a0 : V) (H : Heap) (τ : Tape) (q : KV) : Ans := loopK (s_ref5_language_l1 call N) N ⟨(T.set (T.set .leaf 0 a0) 3 (.int .i64 (.ofNat 0))),H⟩ τ (blockK 0 (seqK (s_ref5_language_j0 call N q) (endK [(.t 2)] q)))
theorem s_ref5_language_eq (call : CallK) (N : Nat) (a0 : V) (H : Heap) (τ : Tape) (q : KV) : s_ref5_language call N a0 H τ q = funK call N fn_ref5_language [a0] H τ q := by kernel_rfl
def e_ref5_language (call : CallK) (N : Nat) (vs : List V) (H : Heap) (τ : Tape) (q : KV) : Ans := match vs with | [a0] => s_ref5_language call N a0 H τ q | _ => none
theorem e_ref5_language_ok : EntOk fn_ref5_language e_ref5_language := by
  intro call N vs H τ q r h
  unfold e_ref5_language at h
  split at h
  · rw [s_ref5_language_eq] at h; exact h
  · cases h
theorem e_ref5_language_nat : EntNat e_ref5_language := by
  intro c hn N vs H τ q
  unfold e_ref5_language
  split
  · rw [s_ref5_language_eq, s_ref5_language_eq]; exact funK_ent hn _ _ _ _ _ _
  · rfl
/-- ostiary/ostiaryref1.Part -/
def fn_ref1_Part : Fun := ⟨2,(.seq (.reg [iR 4 (.p .mv) [(.c (.str []))],iR 5 (.p .mv) [(.c (.str []))],iR 6 (.p .mv) [(.c (.bool false))]]) (iK [0,1] (.seq (.seq (.reg [iR 7 (.p .mv) [(iC 0)]]) (iK [0,1,7] (.block 0 (.loop (iK [0,1,7] (.seq (.seq (.reg [iM 8 7,iM 9 0,iR 10 (.p .lenS) [(.t 9)],iR 11 (iB .lss) [(.t 8),(.t 10)]]) (iK [0,1,7,11] (.cond (.t 11) .skip (iK [0] (.exit 0))))) (iK [0,1,7] (.seq (.block 1 (.seq (.reg [iM 14 0,iM 15 7,iR 16 (.p .strIndex) [(.t 14),(.t 15)],iM 17 1,iR 18 (iB .eql) [(.t 16),(.t 17)]]) (iK [0,1,7,18] (.cond (.t 18) (.seq (.draw [iM 19 0,iM 20 7,iR 21 (.p (.strSlice false true)) [(.t 19),(.t 20)],iM 22 0,iM 23 7,
    iR 24 (iB .add) [(.t 23),(iC 1)],iR 25 (.p (.strSlice true false)) [(.t 22),(.t 24)],iM 4 21,iM 5 25,iR 6 (.p .mv) [(.c (.bool true))]]) (iK [4,5,6] (iK [4,5,6] .ret))) .skip)))) (iK [0,1,7] (.reg [iM 12 7,iR 13 (iB .add) [(.t 12),(iC 1)],iM 7 13])))))))))) (iK [0] (.seq (.reg [iM 26 0,iM 4 26,iR 5 (.p .mv) [(.c (.str []))],iR 6 (.p .mv) [(.c (.bool false))]]) (iK [4,5,6] (iK [4,5,6] .ret))))))),[(.t 4),(.t 5),(.t 6)]⟩
def s_ref1_Part_j0 (call : CallK) (N : Nat) (q : KV) (st : St) (τ : Tape) : Ans := match st with
  | ⟨fr,H⟩ => getK fr 0 fun t0 => q (.tup [t0,(.str []),(.bool false)]) H τ
def s_ref1_Part_l1 (call : CallK) (N : Nat) (st : St) (τ : Tape) (k : KC) : Ans := match st with
  | ⟨fr,H⟩ => getK fr 0 fun t0 => getK fr 1 fun t1 => getK fr 7 fun t7 => someK (pLenS [t0]) fun v0 => binK .lss t7 v0 fun v1 => condK v1 (someK (pStrIndex [t0,t7]) fun v2 => binK .eql v2 t1 fun v3 => condK v3 (someK (pStrSlice false true [t0,t7]) fun v4 => binK .add t7 (.int .i64 (.ofNat 1)) fun v5 => someK (pStrSlice true false [t0,v5]) fun v6 => k .ret ⟨(T.set (T.set (T.set .leaf 4 v4) 5 v6) 6 (.bool true)),H⟩ τ) (binK .add t7 (.int .i64 (.ofNat 1)) fun v7 => k .normal ⟨(T.set (T.set (T.set (T.set (T.set (T.set .leaf 0 t0) 1 t1) 7 t7) 12 t7) 13 v7) 7 v7),H⟩ τ)) (k (.exit 0) ⟨(T.set .leaf 0 t0),H⟩ τ)
def s_ref1_Part (call : CallK) (N : Nat) (a0 a1 : V) (H : Heap) (τ : Tape) (q : KV) : Ans := loopK (s_ref1_Part_l1 call N) N ⟨(T.set (T.set (T.set .leaf 0 a0) 1 a1) 7 (.int .i64 (.ofNat 0))),H⟩ τ (blockK 0 (seqK (s_ref1_Part_j0 call N q) (endK [(.t 4),(.t 5),(.t 6)] q)))
theorem s_ref1_Part_eq (call : CallK) (N : Nat) (a0 a1 : V) (H : Heap) (τ : Tape) (q : KV) : s_ref1_Part call N a0 a1 H τ q = funK call N fn_ref1_Part [a0, a1] H τ q := by kernel_rfl
def e_ref1_Part (call : CallK) (N : Nat) (vs : List V) (H : Heap) (τ : Tape) (q : KV) : Ans := match vs with | [a0, a1] => s_ref1_Part call N a0 a1 H τ q | _ => none
theorem e_ref1_Part_ok : EntOk fn_ref1_Part e_ref1_Part := by
  intro call N vs H τ q r h
  unfold e_ref1_Part at h
  split at h
  · rw [s_ref1_Part_eq] at h; exact h
  · cases h
theorem e_ref1_Part_nat : EntNat e_ref1_Part := by
  intro c hn N vs H τ q
  unfold e_ref1_Part
  split
  · rw [s_ref1_Part_eq, s_ref1_Part_eq]; exact funK_ent hn _ _ _ _ _ _
  · rfl
/-- ostiary/ostiaryref1.Strip -/
def fn_ref1_Strip : Fun := ⟨1,(.seq (.reg [iR 2 (.p .mv) [(.c (.str []))]]) (iK [0] (.seq (.block 0 (.loop (iK [0] (.seq (.seq (.reg [iM 3 0,iR 4 (.p .lenS) [(.t 3)],iR 5 (iB .gtr) [(.t 4),(iC 0)],iM 6 5,iN 7 6 true 0,iG 8 6 true (.p .strIndex) [(.t 7),(iC 0)],iG 9 6 true (.call 135) [(.t 8)],iR 10 (.p .pick) [(.t 6),(.t 9),(.c (.bool false))]]) (iK [0,10] (.cond (.t 10) .skip (iK [0] (.exit 0))))) (iK [0] (.block 1 (.reg [iM 11 0,iR 12 (.p (.strSlice true false)) [(.t 11),(iC 1)],iM 0 12]))))))) (iK [0] (.seq (.block 2 (.loop (iK [0] (.seq (.seq (.reg [iM 13 0,iR 14 (.p .lenS) [(.t 13)],iR 15 (iB .gtr) [(.t 14),(iC 0)],iM 16 15,
    iN 17 16 true 0,iN 18 16 true 0,iG 19 16 true (.p .lenS) [(.t 18)],iG 20 16 true (iB .sub) [(.t 19),(iC 1)],iG 21 16 true (.p .strIndex) [(.t 17),(.t 20)],iG 22 16 true (.call 135) [(.t 21)],iR 23 (.p .pick) [(.t 16),(.t 22),(.c (.bool false))]]) (iK [0,23] (.cond (.t 23) .skip (iK [0] (.exit 2))))) (iK [0] (.block 3 (.reg [iM 24 0,iM 25 0,iR 26 (.p .lenS) [(.t 25)],iR 27 (iB .sub) [(.t 26),(iC 1)],iR 28 (.p (.strSlice false true)) [(.t 24),(.t 27)],iM 0 28]))))))) (iK [0] (.seq (.reg [iM 29 0,iM 2 29]) (iK [2] (iK [2] .ret))))))))),[(.t 2)]⟩
def s_ref1_Strip_j1 (call : CallK) (N : Nat) (q : KV) (st : St) (τ : Tape) : Ans := match st with
  | ⟨fr,H⟩ => getK fr 0 fun t0 => q t0 H τ
def s_ref1_Strip_l2 (call : CallK) (N : Nat) (st : St) (τ : Tape) (k : KC) : Ans := match st with
  | ⟨fr,H⟩ => getK fr 0 fun t0 => someK (pLenS [t0]) fun v0 => binK .gtr v0 (.int .i64 (.ofNat 0)) fun v1 => gK v1 true (fun q' => q' t0 H τ) H τ fun v2 H3 τ4 => gK v1 true (fun q' => q' t0 H3 τ4) H3 τ4 fun v5 H6 τ7 => gK v1 true (fun q' => someK (pLenS [v5]) fun v => q' v H6 τ7) H6 τ7 fun v8 H9 τ10 => gK v1 true (fun q' => binK .sub v8 (.int .i64 (.ofNat 1)) fun v => q' v H9 τ10) H9 τ10 fun v11 H12 τ13 => gK v1 true (fun q' => someK (pStrIndex [v2,v11]) fun v => q' v H12 τ13) H12 τ13 fun v14 H15 τ16 => gK v1 true (fun q' => call f_ref1_Blank [v14] H15 τ16 q') H15 τ16 fun v17 H18 τ19 => someK (pPick [v1,v17,(.bool false)]) fun v20 => condK v20 (someK (pLenS [t0]) fun v21 => binK .sub v21 (.int .i64 (.ofNat 1)) fun v22 => someK (pStrSlice false true [t0,v22]) fun v23 =>
    k .normal ⟨(T.set (T.set (T.set (T.set (T.set (T.set (T.set .leaf 0 t0) 24 t0) 25 t0) 26 v21) 27 v22) 28 v23) 0 v23),H18⟩ τ19) (k (.exit 2) ⟨(T.set .leaf 0 t0),H18⟩ τ19)
def s_ref1_Strip_j0 (call : CallK) (N : Nat) (q : KV) (st : St) (τ : Tape) : Ans := match st with
  | ⟨fr,H⟩ => getK fr 0 fun t0 => loopK (s_ref1_Strip_l2 call N) N ⟨(T.set .leaf 0 t0),H⟩ τ (blockK 2 (seqK (s_ref1_Strip_j1 call N q) (endK [(.t 2)] q)))
def s_ref1_Strip_l3 (call : CallK) (N : Nat) (st : St) (τ : Tape) (k : KC) : Ans := match st with
  | ⟨fr,H⟩ => getK fr 0 fun t0 => someK (pLenS [t0]) fun v24 => binK .gtr v24 (.int .i64 (.ofNat 0)) fun v25 => gK v25 true (fun q' => q' t0 H τ) H τ fun v26 H27 τ28 => gK v25 true (fun q' => someK (pStrIndex [v26,(.int .i64 (.ofNat 0))]) fun v => q' v H27 τ28) H27 τ28 fun v29 H30 τ31 => gK v25 true (fun q' => call f_ref1_Blank [v29] H30 τ31 q') H30 τ31 fun v32 H33 τ34 => someK (pPick [v25,v32,(.bool false)]) fun v35 => condK v35 (someK (pStrSlice true false [t0,(.int .i64 (.ofNat 1))]) fun v36 => k .normal ⟨(T.set (T.set (T.set (T.set .leaf 0 t0) 11 t0) 12 v36) 0 v36),H33⟩ τ34) (k (.exit 0) ⟨(T.set .leaf 0 t0),H33⟩ τ34)
def s_ref1_Strip (call : CallK) (N : Nat) (a0 : V) (H : Heap) (τ : Tape) (q : KV) : Ans := loopK (s_ref1_Strip_l3 call N) N ⟨(T.set .leaf 0 a0),H⟩ τ (blockK 0 (seqK (s_ref1_Strip_j0 call N q) (endK [(.t 2)] q)))
theorem s_ref1_Strip_eq (call : CallK) (N : Nat) (a0 : V) (H : Heap) (τ : Tape) (q : KV) : s_ref1_Strip call N a0 H τ q = funK call N fn_ref1_Strip [a0] H τ q := by kernel_rfl
def e_ref1_Strip (call : CallK) (N : Nat) (vs : List V) (H : Heap) (τ : Tape) (q : KV) : Ans := match vs with | [a0] => s_ref1_Strip call N a0 H τ q | _ => none
theorem e_ref1_Strip_ok : EntOk fn_ref1_Strip e_ref1_Strip := by
  intro call N vs H τ q r h
  unfold e_ref1_Strip at h
  split at h
  · rw [s_ref1_Strip_eq] at h; exact h
  · cases h
theorem e_ref1_Strip_nat : EntNat e_ref1_Strip := by
  intro c hn N vs H τ q
  unfold e_ref1_Strip
  split
  · rw [s_ref1_Strip_eq, s_ref1_Strip_eq]; exact funK_ent hn _ _ _ _ _ _
  · rfl
/-- ostiary/ostiaryref5.Range -/
def fn_ref5_Range : Fun := ⟨1,(.seq (.reg [iR 2 (.p .mv) [(iC 0)],iR 3 (.p .mv) [(iC 0)],iR 4 (.p .mv) [(.c (.bool false))]]) (iK [0] (.seq (.seq (.reg [iM 11 0,iR 12 (.call 136) [(.t 11),(.c (.str (bs [98,121,116,101,115,61])))],iR 13 (.p (.un .not)) [(.t 12)]]) (iK [0,13] (.cond (.t 13) (.seq (.reg [iR 2 (.p .mv) [(iC 0)],iR 3 (.p .mv) [(iC 0)],iR 4 (.p .mv) [(.c (.bool false))]]) (iK [2,3,4] (iK [2,3,4] .ret))) .skip))) (iK [0] (.seq (.reg [iM 15 0,iR 16 (.p (.strSlice true false)) [(.t 15),(iC 6)],iR 17 (.call 107) [(.t 16),(iU 45)],iM 14 17,iR 18 (.p (.extract 0)) [(.t 14)],iR 19 (.p (.extract 1)) [(.t 14)],iR 20 (.p (.extract 2)) [(.t 14)],iM 5 18,
    iM 6 19,iM 7 20]) (iK [5,6,7] (.seq (.seq (.reg [iM 21 7,iR 22 (.p (.un .not)) [(.t 21)],iM 23 22,iN 24 23 false 5,iG 25 23 false (iB .eql) [(.t 24),(.c (.str []))],iN 26 23 false 25,iN 27 26 true 6,iG 28 26 true (iB .eql) [(.t 27),(.c (.str []))],iG 29 23 false (.p .pick) [(.t 26),(.t 28),(.c (.bool false))],iR 30 (.p .pick) [(.t 23),(.c (.bool true)),(.t 29)]]) (iK [5,6,7,30] (.cond (.t 30) (.seq (.reg [iR 2 (.p .mv) [(iC 0)],iR 3 (.p .mv) [(iC 0)],iR 4 (.p .mv) [(.c (.bool false))]]) (iK [2,3,4] (iK [2,3,4] .ret))) .skip))) (iK [5,6,7] (.seq (.reg [iR 8 (.p .mv) [(.c (.int .i64 (.negSucc 0)))]])
    (iK [5,6,7,8] (.seq (.reg [iR 9 (.p .mv) [(.c (.int .i64 (.negSucc 0)))]]) (iK [5,6,7,8,9] (.seq (.seq (.reg [iM 31 5,iR 32 (iB .neq) [(.t 31),(.c (.str []))]]) (iK [5,6,7,8,9,32] (.cond (.t 32) (.reg [iM 34 5,iR 35 (.call 137) [(.t 34)],iM 33 35,iR 36 (.p (.extract 0)) [(.t 33)],iR 37 (.p (.extract 1)) [(.t 33)],iM 8 36,iM 7 37]) .skip))) (iK [6,7,8,9] (.seq (.reg [iR 10 (.p .mv) [(.c (.bool true))]]) (iK [6,7,8,9,10] (.seq (.seq (.reg [iM 38 6,iR 39 (iB .neq) [(.t 38),(.c (.str []))]]) (iK [6,7,8,9,10,39] (.cond (.t 39) (.reg [iM 41 6,iR 42 (.call 137) [(.t 41)],iM 40 42,iR 43 (.p (.extract 0)) [(.t 40)],iR 44 (.p (.extract 1)) [(.t 40)],iM 9 43,
    iM 10 44]) .skip))) (iK [7,8,9,10] (.seq (.seq (.reg [iM 45 7,iR 46 (.p (.un .not)) [(.t 45)],iM 47 46,iN 48 47 false 10,iG 49 47 false (.p (.un .not)) [(.t 48)],iR 50 (.p .pick) [(.t 47),(.c (.bool true)),(.t 49)],iM 51 50,iN 52 51 false 8,iG 53 51 false (iB .geq) [(.t 52),(iC 0)],iN 54 51 false 53,iN 55 54 true 9,iG 56 54 true (iB .geq) [(.t 55),(iC 0)],iG 57 51 false (.p .pick) [(.t 54),(.t 56),(.c (.bool false))],iN 58 51 false 57,iN 59 58 true 8,iN 60 58 true 9,iG 61 58 true (iB .gtr) [(.t 59),(.t 60)],iG 62 51 false (.p .pick) [(.t 58),(.t 61),(.c (.bool false))],
    iR 63 (.p .pick) [(.t 51),(.c (.bool true)),(.t 62)]]) (iK [8,9,63] (.cond (.t 63) (.seq (.reg [iR 2 (.p .mv) [(iC 0)],iR 3 (.p .mv) [(iC 0)],iR 4 (.p .mv) [(.c (.bool false))]]) (iK [2,3,4] (iK [2,3,4] .ret))) .skip))) (iK [8,9] (.seq (.reg [iM 64 8,iM 65 9,iM 2 64,iM 3 65,iR 4 (.p .mv) [(.c (.bool true))]]) (iK [2,3,4] (iK [2,3,4] .ret))))))))))))))))))))))),[(.t 2),(.t 3),(.t 4)]⟩
def s_ref5_Range_j1 (call : CallK) (N : Nat) (q : KV) (st : St) (τ : Tape) : Ans := match st with
  | ⟨fr,H⟩ => getK fr 7 fun t7 => getK fr 8 fun t8 => getK fr 9 fun t9 => getK fr 10 fun t10 => unK .not t7 fun v33 => gK v33 false (fun q' => q' t10 H τ) H τ fun v34 H35 τ36 => gK v33 false (fun q' => unK .not v34 fun v => q' v H35 τ36) H35 τ36 fun v37 H38 τ39 => someK (pPick [v33,(.bool true),v37]) fun v40 => gK v40 false (fun q' => q' t8 H38 τ39) H38 τ39 fun v41 H42 τ43 => gK v40 false (fun q' => binK .geq v41 (.int .i64 (.ofNat 0)) fun v => q' v H42 τ43) H42 τ43 fun v44 H45 τ46 => gK v40 false (fun q' => q' v44 H45 τ46) H45 τ46 fun v47 H48 τ49 => gK v47 true (fun q' => q' t9 H48 τ49) H48 τ49 fun v50 H51 τ52 => gK v47 true (fun q' => binK .geq v50 (.int .i64 (.ofNat 0)) fun v => q' v H51 τ52) H51 τ52 fun v53 H54 τ55 => gK v40 false (fun q' => someK (pPick [v47,v53,(.bool false)]) fun v => q' v H54 τ55) H54 τ55 fun v56 H57 τ58 =>
    gK v40 false (fun q' => q' v56 H57 τ58) H57 τ58 fun v59 H60 τ61 => gK v59 true (fun q' => q' t8 H60 τ61) H60 τ61 fun v62 H63 τ64 => gK v59 true (fun q' => q' t9 H63 τ64) H63 τ64 fun v65 H66 τ67 => gK v59 true (fun q' => binK .gtr v62 v65 fun v => q' v H66 τ67) H66 τ67 fun v68 H69 τ70 => gK v40 false (fun q' => someK (pPick [v59,v68,(.bool false)]) fun v => q' v H69 τ70) H69 τ70 fun v71 H72 τ73 => someK (pPick [v40,(.bool true),v71]) fun v74 => condK v74 (q (.tup [(.int .i64 (.ofNat 0)),(.int .i64 (.ofNat 0)),(.bool false)]) H72 τ73) (q (.tup [t8,t9,(.bool true)]) H72 τ73)
def s_ref5_Range_j0 (call : CallK) (N : Nat) (q : KV) (st : St) (τ : Tape) : Ans := match st with
  | ⟨fr,H⟩ => getK fr 6 fun t6 => getK fr 7 fun t7 => getK fr 8 fun t8 => getK fr 9 fun t9 => binK .neq t6 (.str []) fun v32 => condK v32 (call f_ref1_Int [t6] H τ fun v75 H76 τ77 => someK (pExtract 0 [v75]) fun v78 => someK (pExtract 1 [v75]) fun v79 => s_ref5_Range_j1 call N q ⟨(T.set (T.set (T.set (T.set (T.set (T.set (T.set (T.set (T.set (T.set (T.set (T.set (T.set .leaf 6 t6) 7 t7) 8 t8) 9 t9) 10 (.bool true)) 39 v32) 41 t6) 42 v75) 40 v75) 43 v78) 44 v79) 9 v78) 10 v79),H76⟩ τ77) (s_ref5_Range_j1 call N q ⟨(T.set (T.set (T.set (T.set (T.set (T.set .leaf 6 t6) 7 t7) 8 t8) 9 t9) 10 (.bool true)) 39 v32),H⟩ τ)
def s_ref5_Range (call : CallK) (N : Nat) (a0 : V) (H : Heap) (τ : Tape) (q : KV) : Ans := call f_ref1_Begins [a0,(.str (bs [98,121,116,101,115,61]))] H τ fun v0 H1 τ2 => unK .not v0 fun v3 => condK v3 (q (.tup [(.int .i64 (.ofNat 0)),(.int .i64 (.ofNat 0)),(.bool false)]) H1 τ2) (someK (pStrSlice true false [a0,(.int .i64 (.ofNat 6))]) fun v4 => call f_ref1_Part [v4,(.int .u8 (.ofNat 45))] H1 τ2 fun v5 H6 τ7 => someK (pExtract 0 [v5]) fun v8 => someK (pExtract 1 [v5]) fun v9 => someK (pExtract 2 [v5]) fun v10 => unK .not v10 fun v11 => gK v11 false (fun q' => q' v8 H6 τ7) H6 τ7 fun v12 H13 τ14 => gK v11 false (fun q' => binK .eql v12 (.str []) fun v => q' v H13 τ14) H13 τ14 fun v15 H16 τ17 => gK v11 false (fun q' => q' v15 H16 τ17) H16 τ17 fun v18 H19 τ20 => gK v18 true (fun q' => q' v9 H19 τ20) H19 τ20 fun v21 H22 τ23 =>
    gK v18 true (fun q' => binK .eql v21 (.str []) fun v => q' v H22 τ23) H22 τ23 fun v24 H25 τ26 => gK v11 false (fun q' => someK (pPick [v18,v24,(.bool false)]) fun v => q' v H25 τ26) H25 τ26 fun v27 H28 τ29 => someK (pPick [v11,(.bool true),v27]) fun v30 => condK v30 (q (.tup [(.int .i64 (.ofNat 0)),(.int .i64 (.ofNat 0)),(.bool false)]) H28 τ29) (binK .neq v8 (.str []) fun v31 => condK v31 (call f_ref1_Int [v8] H28 τ29 fun v80 H81 τ82 => someK (pExtract 0 [v80]) fun v83 => someK (pExtract 1 [v80]) fun v84 => s_ref5_Range_j0 call N q ⟨(T.set (T.set (T.set (T.set (T.set (T.set (T.set (T.set (T.set (T.set (T.set (T.set (T.set .leaf 5 v8) 6 v9) 7 v10) 8 (.int .i64 (.negSucc 0))) 9 (.int .i64 (.negSucc 0))) 32 v31) 34 v8) 35 v80) 33 v80) 36 v83) 37 v84) 8 v83) 7 v84),H81⟩ τ82)
    (s_ref5_Range_j0 call N q ⟨(T.set (T.set (T.set (T.set (T.set (T.set .leaf 5 v8) 6 v9) 7 v10) 8 (.int .i64 (.negSucc 0))) 9 (.int .i64 (.negSucc 0))) 32 v31),H28⟩ τ29)))
theorem s_ref5_Range_eq (call : CallK) (N : Nat) (a0 : V) (H : Heap) (τ : Tape) (q : KV) : s_ref5_Range call N a0 H τ q = funK call N fn_ref5_Range [a0] H τ q := by kernel_rfl
def e_ref5_Range (call : CallK) (N : Nat) (vs : List V) (H : Heap) (τ : Tape) (q : KV) : Ans := match vs with | [a0] => s_ref5_Range call N a0 H τ q | _ => none
theorem e_ref5_Range_ok : EntOk fn_ref5_Range e_ref5_Range := by
  intro call N vs H τ q r h
  unfold e_ref5_Range at h
  split at h
  · rw [s_ref5_Range_eq] at h; exact h
  · cases h
theorem e_ref5_Range_nat : EntNat e_ref5_Range := by
  intro c hn N vs H τ q
  unfold e_ref5_Range
  split
  · rw [s_ref5_Range_eq, s_ref5_Range_eq]; exact funK_ent hn _ _ _ _ _ _
  · rfl
/-- strings.Trim -/
def fn_strings_Trim : Fun := ⟨2,(.seq (.reg [iR 4 (.p .mv) [(.c (.str []))]]) (iK [0,1] (.seq (.seq (.reg [iM 7 0,iR 8 (iB .eql) [(.t 7),(.c (.str []))],iM 9 8,iN 10 9 false 1,iG 11 9 false (iB .eql) [(.t 10),(.c (.str []))],iR 12 (.p .pick) [(.t 9),(.c (.bool true)),(.t 11)]]) (iK [0,1,12] (.cond (.t 12) (.seq (.reg [iM 13 0,iM 4 13]) (iK [4] (iK [4] .ret))) .skip))) (iK [0,1] (.seq (.seq (.reg [iM 14 1,iR 15 (.p .lenS) [(.t 14)],iR 16 (iB .eql) [(.t 15),(iC 1)],iM 17 16,iN 18 17 true 1,iG 19 17 true (.p .strIndex) [(.t 18),(iC 0)],iG 20 17 true (iB .lss) [(.t 19),(iU 128)],
    iR 21 (.p .pick) [(.t 17),(.t 20),(.c (.bool false))]]) (iK [0,1,21] (.cond (.t 21) (.seq (.draw [iM 22 0,iM 23 1,iR 24 (.p .strIndex) [(.t 23),(iC 0)],iR 25 (.call 139) [(.t 22),(.t 24)],iM 26 1,iR 27 (.p .strIndex) [(.t 26),(iC 0)],iR 28 (.call 138) [(.t 25),(.t 27)],iM 4 28]) (iK [4] (iK [4] .ret))) .skip))) (iK [0,1] (.seq (.seq (.reg [iM 30 1,iR 31 (.call 140) [(.t 30)],iM 29 31,iR 32 (.p (.extract 0)) [(.t 29)],iR 33 (.p (.extract 1)) [(.t 29)],iR 5 (.e (.alloc (repl 256 [(.bool false)]))) [],⟨none,none,(.e (.store 256)),[(.t 5),(.t 32)],none⟩,iM 6 33]) (iK [0,1,5,6] (.seq (.reg [iM 34 6]) (iK [0,1,5,34] (.cond (.t 34) (.seq (.reg [iM 35 0,
    iR 36 (.call 142) [(.t 35),(.t 5)],iR 37 (.call 141) [(.t 36),(.t 5)],iM 4 37]) (iK [4] (iK [4] .ret))) .skip))))) (iK [0,1] (.seq (.reg [iM 38 0,iM 39 1,iR 40 (.call 144) [(.t 38),(.t 39)],iM 41 1,iR 42 (.call 143) [(.t 40),(.t 41)],iM 4 42]) (iK [4] (iK [4] .ret))))))))))),[(.t 4)]⟩
def s_strings_Trim (call : CallK) (N : Nat) (a0 a1 : V) (H : Heap) (τ : Tape) (q : KV) : Ans := binK .eql a0 (.str []) fun v0 => gK v0 false (fun q' => q' a1 H τ) H τ fun v1 H2 τ3 => gK v0 false (fun q' => binK .eql v1 (.str []) fun v => q' v H2 τ3) H2 τ3 fun v4 H5 τ6 => someK (pPick [v0,(.bool true),v4]) fun v7 => condK v7 (q a0 H5 τ6) (someK (pLenS [a1]) fun v8 => binK .eql v8 (.int .i64 (.ofNat 1)) fun v9 => gK v9 true (fun q' => q' a1 H5 τ6) H5 τ6 fun v10 H11 τ12 => gK v9 true (fun q' => someK (pStrIndex [v10,(.int .i64 (.ofNat 0))]) fun v => q' v H11 τ12) H11 τ12 fun v13 H14 τ15 => gK v9 true (fun q' => binK .lss v13 (.int .u8 (.ofNat 128)) fun v => q' v H14 τ15) H14 τ15 fun v16 H17 τ18 => someK (pPick [v9,v16,(.bool false)]) fun v19 => condK v19 (someK (pStrIndex [a1,(.int .i64 (.ofNat 0))]) fun v20 => call f_strings_trimRightByte [a0,v20] H17 τ18 fun v21 H22 τ23 =>
    someK (pStrIndex [a1,(.int .i64 (.ofNat 0))]) fun v24 => call f_strings_trimLeftByte [v21,v24] H22 τ23 fun v25 H26 τ27 => q v25 H26 τ27) (call f_strings_makeASCIISet [a1] H17 τ18 fun v28 H29 τ30 => someK (pExtract 0 [v28]) fun v31 => someK (pExtract 1 [v28]) fun v32 => effK (eAlloc (repl 256 [(.bool false)]) [] H29 τ30) fun v33 H34 τ35 => effK (eStore 256 [v33,v31] H34 τ35) fun v36 H37 τ38 => condK v32 (call f_strings_trimRightASCII [a0,v33] H37 τ38 fun v39 H40 τ41 => call f_strings_trimLeftASCII [v39,v33] H40 τ41 fun v42 H43 τ44 => q v42 H43 τ44) (call f_strings_trimRightUnicode [a0,a1] H37 τ38 fun v45 H46 τ47 => call f_strings_trimLeftUnicode [v45,a1] H46 τ47 fun v48 H49 τ50 => q v48 H49 τ50)))
theorem s_strings_Trim_eq (call : CallK) (N : Nat) (a0 a1 : V) (H : Heap) (τ : Tape) (q : KV) : s_strings_Trim call N a0 a1 H τ q = funK call N fn_strings_Trim [a0, a1] H τ q := by kernel_rfl
def e_strings_Trim (call : CallK) (N : Nat) (vs : List V) (H : Heap) (τ : Tape) (q : KV) : Ans := match vs with | [a0, a1] => s_strings_Trim call N a0 a1 H τ q | _ => none
theorem e_strings_Trim_ok : EntOk fn_strings_Trim e_strings_Trim := by
  intro call N vs H τ q r h
  unfold e_strings_Trim at h
  split at h
  · rw [s_strings_Trim_eq] at h; exact h
  · cases h
theorem e_strings_Trim_nat : EntNat e_strings_Trim := by
  intro c hn N vs H τ q
  unfold e_strings_Trim
  split
  · rw [s_strings_Trim_eq, s_strings_Trim_eq]; exact funK_ent hn _ _ _ _ _ _
  · rfl
/-- strings.IndexByte -/
def fn_strings_IndexByte : Fun := ⟨2,(.seq (.reg [iR 4 (.p .mv) [(iC 0)]]) (iK [0,1] (.seq (.reg [iM 5 0,iM 6 1,iR 7 (.call 145) [(.t 5),(.t 6)],iM 4 7]) (iK [4] (iK [4] .ret))))),[(.t 4)]⟩
def s_strings_IndexByte (call : CallK) (N : Nat) (a0 a1 : V) (H : Heap) (τ : Tape) (q : KV) : Ans := call f_stringslite_IndexByte [a0,a1] H τ fun v0 H1 τ2 => q v0 H1 τ2
theorem s_strings_IndexByte_eq (call : CallK) (N : Nat) (a0 a1 : V) (H : Heap) (τ : Tape) (q : KV) : s_strings_IndexByte call N a0 a1 H τ q = funK call N fn_strings_IndexByte [a0, a1] H τ q := by kernel_rfl
def e_strings_IndexByte (call : CallK) (N : Nat) (vs : List V) (H : Heap) (τ : Tape) (q : KV) : Ans := match vs with | [a0, a1] => s_strings_IndexByte call N a0 a1 H τ q | _ => none
theorem e_strings_IndexByte_ok : EntOk fn_strings_IndexByte e_strings_IndexByte := by
  intro call N vs H τ q r h
  unfold e_strings_IndexByte at h
  split at h
  · rw [s_strings_IndexByte_eq] at h; exact h
  · cases h
theorem e_strings_IndexByte_nat : EntNat e_strings_IndexByte := by
  intro c hn N vs H τ q
  unfold e_strings_IndexByte
  split
  · rw [s_strings_IndexByte_eq, s_strings_IndexByte_eq]; exact funK_ent hn _ _ _ _ _ _
  · rfl
/-- ostiary/url.Own -/
def fn_url_Own : Fun := ⟨1,(.seq (.reg [iR 2 (.p .mv) [(iC 0)]]) (iK [0] (.seq (.seq (.reg [iM 3 0]) (iK [3] (.block 0 (.seq (.seq (.reg [iR 5 (iB .eql) [(.t 3),(.c (.str (bs [104,116,116,112])))],iM 4 5]) (iK [3,4] (.cond (.t 4) .skip (.reg [iR 6 (iB .eql) [(.t 3),(.c (.str (bs [119,115])))],iM 4 6])))) (iK [3,4] (.cond (.t 4) (.seq (.reg [iR 2 (.p .mv) [(iC 80)]]) (iK [2] (iK [2] .ret))) (.seq (.seq (.reg [iR 8 (iB .eql) [(.t 3),(.c (.str (bs [104,116,116,112,115])))],iM 7 8]) (iK [3,7] (.cond (.t 7) .skip (.reg [iR 9 (iB .eql) [(.t 3),(.c (.str (bs [119,115,115])))],iM 7 9])))) (iK [3,7] (.cond (.t 7) (.seq (.reg [iR 2 (.p .mv) [(iC 443)]])
    (iK [2] (iK [2] .ret))) (.seq (.reg [iR 11 (iB .eql) [(.t 3),(.c (.str (bs [102,116,112])))],iM 10 11]) (iK [10] (.cond (.t 10) (.seq (.reg [iR 2 (.p .mv) [(iC 21)]]) (iK [2] (iK [2] .ret))) .skip)))))))))))) (iK [] (.seq (.reg [iR 2 (.p .mv) [(.c (.int .i64 (.negSucc 0)))]]) (iK [2] (iK [2] .ret))))))),[(.t 2)]⟩
/-- strconv.Itoa -/
def fn_strconv_Itoa : Fun := ⟨1,(.seq (.reg [iR 2 (.p .mv) [(.c (.str []))]]) (iK [0] (.seq (.reg [iM 3 0,iR 4 (.call 146) [(.t 3)],iM 2 4]) (iK [2] (iK [2] .ret))))),[(.t 2)]⟩
/-- ostiary/ostiaryref1.Letter -/
def fn_ref1_Letter : Fun := ⟨1,(.seq (.reg [iR 2 (.p .mv) [(.c (.bool false))]]) (iK [0] (.seq (.reg [iM 3 0,iR 4 (iB .geq) [(.t 3),(iU 97)],iM 5 4,iN 6 5 true 0,iG 7 5 true (iB .leq) [(.t 6),(iU 122)],iR 8 (.p .pick) [(.t 5),(.t 7),(.c (.bool false))],iM 9 8,iN 10 9 false 0,iG 11 9 false (iB .geq) [(.t 10),(iU 65)],iN 12 9 false 11,iN 13 12 true 0,iG 14 12 true (iB .leq) [(.t 13),(iU 90)],iG 15 9 false (.p .pick) [(.t 12),(.t 14),(.c (.bool false))],iR 16 (.p .pick) [(.t 9),(.c (.bool true)),(.t 15)],iM 2 16]) (iK [2] (iK [2] .ret))))),[(.t 2)]⟩
def s_ref1_Letter (call : CallK) (N : Nat) (a0 : V) (H : Heap) (τ : Tape) (q : KV) : Ans := binK .geq a0 (.int .u8 (.ofNat 97)) fun v0 => gK v0 true (fun q' => q' a0 H τ) H τ fun v1 H2 τ3 => gK v0 true (fun q' => binK .leq v1 (.int .u8 (.ofNat 122)) fun v => q' v H2 τ3) H2 τ3 fun v4 H5 τ6 => someK (pPick [v0,v4,(.bool false)]) fun v7 => gK v7 false (fun q' => q' a0 H5 τ6) H5 τ6 fun v8 H9 τ10 => gK v7 false (fun q' => binK .geq v8 (.int .u8 (.ofNat 65)) fun v => q' v H9 τ10) H9 τ10 fun v11 H12 τ13 => gK v7 false (fun q' => q' v11 H12 τ13) H12 τ13 fun v14 H15 τ16 => gK v14 true (fun q' => q' a0 H15 τ16) H15 τ16 fun v17 H18 τ19 => gK v14 true (fun q' => binK .leq v17 (.int .u8 (.ofNat 90)) fun v => q' v H18 τ19) H18 τ19 fun v20 H21 τ22 => gK v7 false (fun q' => someK (pPick [v14,v20,(.bool false)]) fun v => q' v H21 τ22) H21 τ22 fun v23 H24 τ25 =>
    someK (pPick [v7,(.bool true),v23]) fun v26 => q v26 H24 τ25
theorem s_ref1_Letter_eq (call : CallK) (N : Nat) (a0 : V) (H : Heap) (τ : Tape) (q : KV) : s_ref1_Letter call N a0 H τ q = funK call N fn_ref1_Letter [a0] H τ q := by kernel_rfl
def e_ref1_Letter (call : CallK) (N : Nat) (vs : List V) (H : Heap) (τ : Tape) (q : KV) : Ans := match vs with | [a0] => s_ref1_Letter call N a0 H τ q | _ => none
theorem e_ref1_Letter_ok : EntOk fn_ref1_Letter e_ref1_Letter := by
  intro call N vs H τ q r h
  unfold e_ref1_Letter at h
  split at h
  · rw [s_ref1_Letter_eq] at h; exact h
  · cases h
theorem e_ref1_Letter_nat : EntNat e_ref1_Letter := by
  intro c hn N vs H τ q
  unfold e_ref1_Letter
  split
  · rw [s_ref1_Letter_eq, s_ref1_Letter_eq]; exact funK_ent hn _ _ _ _ _ _
  · rfl
/-- ostiary/ostiaryref1.Digit -/
def fn_ref1_Digit : Fun := ⟨1,(.seq (.reg [iR 2 (.p .mv) [(.c (.bool false))]]) (iK [0] (.seq (.reg [iM 3 0,iR 4 (iB .geq) [(.t 3),(iU 48)],iM 5 4,iN 6 5 true 0,iG 7 5 true (iB .leq) [(.t 6),(iU 57)],iR 8 (.p .pick) [(.t 5),(.t 7),(.c (.bool false))],iM 2 8]) (iK [2] (iK [2] .ret))))),[(.t 2)]⟩
def s_ref1_Digit (call : CallK) (N : Nat) (a0 : V) (H : Heap) (τ : Tape) (q : KV) : Ans := binK .geq a0 (.int .u8 (.ofNat 48)) fun v0 => gK v0 true (fun q' => q' a0 H τ) H τ fun v1 H2 τ3 => gK v0 true (fun q' => binK .leq v1 (.int .u8 (.ofNat 57)) fun v => q' v H2 τ3) H2 τ3 fun v4 H5 τ6 => someK (pPick [v0,v4,(.bool false)]) fun v7 => q v7 H5 τ6
theorem s_ref1_Digit_eq (call : CallK) (N : Nat) (a0 : V) (H : Heap) (τ : Tape) (q : KV) : s_ref1_Digit call N a0 H τ q = funK call N fn_ref1_Digit [a0] H τ q := by kernel_rfl
def e_ref1_Digit (call : CallK) (N : Nat) (vs : List V) (H : Heap) (τ : Tape) (q : KV) : Ans := match vs with | [a0] => s_ref1_Digit call N a0 H τ q | _ => none
theorem e_ref1_Digit_ok : EntOk fn_ref1_Digit e_ref1_Digit := by
  intro call N vs H τ q r h
  unfold e_ref1_Digit at h
  split at h
  · rw [s_ref1_Digit_eq] at h; exact h
  · cases h
theorem e_ref1_Digit_nat : EntNat e_ref1_Digit := by
  intro c hn N vs H τ q
  unfold e_ref1_Digit
  split
  · rw [s_ref1_Digit_eq, s_ref1_Digit_eq]; exact funK_ent hn _ _ _ _ _ _
  · rfl
/-- ostiary/ostiaryref3.Own -/
def fn_ref3_Own : Fun := ⟨1,(.seq (.reg [iR 2 (.p .mv) [(iC 0)]]) (iK [0] (.seq (.seq (.reg [iM 3 0]) (iK [3] (.block 0 (.seq (.seq (.reg [iR 5 (iB .eql) [(.t 3),(.c (.str (bs [104,116,116,112])))],iM 4 5]) (iK [3,4] (.cond (.t 4) .skip (.reg [iR 6 (iB .eql) [(.t 3),(.c (.str (bs [119,115])))],iM 4 6])))) (iK [3,4] (.cond (.t 4) (.seq (.reg [iR 2 (.p .mv) [(iC 80)]]) (iK [2] (iK [2] .ret))) (.seq (.seq (.reg [iR 8 (iB .eql) [(.t 3),(.c (.str (bs [104,116,116,112,115])))],iM 7 8]) (iK [3,7] (.cond (.t 7) .skip (.reg [iR 9 (iB .eql) [(.t 3),(.c (.str (bs [119,115,115])))],iM 7 9])))) (iK [3,7] (.cond (.t 7) (.seq (.reg [iR 2 (.p .mv) [(iC 443)]])
    (iK [2] (iK [2] .ret))) (.seq (.reg [iR 11 (iB .eql) [(.t 3),(.c (.str (bs [102,116,112])))],iM 10 11]) (iK [10] (.cond (.t 10) (.seq (.reg [iR 2 (.p .mv) [(iC 21)]]) (iK [2] (iK [2] .ret))) .skip)))))))))))) (iK [] (.seq (.reg [iR 2 (.p .mv) [(.c (.int .i64 (.negSucc 0)))]]) (iK [2] (iK [2] .ret))))))),[(.t 2)]⟩
/-- ostiary/ostiaryref1.Numeral -/
def fn_ref1_Numeral : Fun := ⟨1,(.seq (.reg [iR 2 (.p .mv) [(.c (.str []))]]) (iK [0] (.seq (.seq (.reg [iM 5 0,iR 6 (iB .eql) [(.t 5),(.c (.int .i64 (.negSucc 9223372036854775807)))]]) (iK [0,6] (.cond (.t 6) (.seq (.reg [iR 2 (.p .mv) [(.c (.str (bs [45,57,50,50,51,51,55,50,48,51,54,56,53,52,55,55,53,56,48,56])))]]) (iK [2] (iK [2] .ret))) .skip))) (iK [0] (.seq (.seq (.reg [iM 7 0,iR 8 (iB .lss) [(.t 7),(iC 0)]]) (iK [0,8] (.cond (.t 8) (.seq (.reg [iM 9 0,iR 10 (.p (.un .neg)) [(.t 9)],iR 11 (.call 119) [(.t 10)],iR 12 (iB .add) [(.c (.str (bs [45]))),(.t 11)],iM 2 12]) (iK [2] (iK [2] .ret))) .skip))) (iK [0] (.seq (.reg [iR 3 (.p .mv) [(.c (.str []))]]) (iK [0,3] (.seq (.block 0 (.loop
    (iK [0,3] (.seq (.seq (.reg [iM 13 0,iR 14 (iB .gtr) [(.t 13),(iC 0)],iM 15 14,iN 16 15 false 3,iG 17 15 false (iB .eql) [(.t 16),(.c (.str []))],iR 18 (.p .pick) [(.t 15),(.c (.bool true)),(.t 17)]]) (iK [0,3,18] (.cond (.t 18) .skip (iK [3] (.exit 0))))) (iK [0,3] (.block 1 (.seq (.reg [iM 19 0,iR 20 (iB .rem) [(.t 19),(iC 10)],iM 4 20]) (iK [0,3,4] (.seq (.reg [iM 21 4,iM 22 4,iR 23 (iB .add) [(.t 22),(iC 1)],iR 24 (.p (.strSlice true true)) [(.c (.str (bs [48,49,50,51,52,53,54,55,56,57]))),(.t 21),(.t 23)],iM 25 3,iR 26 (iB .add) [(.t 24),(.t 25)],iM 3 26])
    (iK [0,3] (.reg [iM 27 0,iR 28 (iB .quo) [(.t 27),(iC 10)],iM 0 28]))))))))))) (iK [3] (.seq (.reg [iM 29 3,iM 2 29]) (iK [2] (iK [2] .ret))))))))))))),[(.t 2)]⟩
/-- ostiary/ostiaryref3.split -/
def fn_ref3_split : Fun := ⟨2,(.seq (.reg [iR 4 (.p .mv) [(.c (.str []))]]) (iK [0,1] (.seq (.reg [iM 9 1,iR 10 (.call 107) [(.t 9),(iU 35)],iM 8 10,iR 11 (.p (.extract 0)) [(.t 8)],iR 12 (.p (.extract 1)) [(.t 8)],iR 13 (.p (.extract 2)) [(.t 8)],iM 5 11,iM 6 12,iM 7 13]) (iK [0,5,6,7] (.seq (.seq (.reg [iM 14 7]) (iK [0,5,6,14] (.cond (.t 14) (.seq (.reg [iM 15 0,iR 16 (.p .nilck) [(.t 15)],iR 17 (.p (.fieldAddr 11)) [(.t 16)],⟨none,none,(.e (.store 1)),[(.t 17),(.c (.bool true))],none⟩]) (iK [0,5,6] (.reg [iM 18 0,iM 19 6,iR 20 (.call 161) [(.t 19),(iC 2)],iR 21 (.p .nilck) [(.t 18)],iR 22 (.p (.fieldAddr 9)) [(.t 21)],
    ⟨none,none,(.e (.store 1)),[(.t 22),(.t 20)],none⟩]))) .skip))) (iK [5] (.seq (.reg [iM 23 5,iM 4 23]) (iK [4] (iK [4] .ret))))))))),[(.t 4)]⟩
/-- ostiary/ostiaryref3.clean -/
def fn_ref3_clean : Fun := ⟨1,(.seq (.reg [iR 2 (.p .mv) [(.c (.str []))]]) (iK [0] (.seq (.block 0 (.loop (iK [0] (.seq (.seq (.reg [iM 5 0,iR 6 (.p .lenS) [(.t 5)],iR 7 (iB .gtr) [(.t 6),(iC 0)],iM 8 7,iN 9 8 true 0,iG 10 8 true (.p .strIndex) [(.t 9),(iC 0)],iG 11 8 true (iB .leq) [(.t 10),(iU 32)],iR 12 (.p .pick) [(.t 8),(.t 11),(.c (.bool false))]]) (iK [0,12] (.cond (.t 12) .skip (iK [0] (.exit 0))))) (iK [0] (.block 1 (.reg [iM 13 0,iR 14 (.p (.strSlice true false)) [(.t 13),(iC 1)],iM 0 14]))))))) (iK [0] (.seq (.block 2 (.loop (iK [0] (.seq (.seq (.reg [iM 15 0,iR 16 (.p .lenS) [(.t 15)],
    iR 17 (iB .gtr) [(.t 16),(iC 0)],iM 18 17,iN 19 18 true 0,iN 20 18 true 0,iG 21 18 true (.p .lenS) [(.t 20)],iG 22 18 true (iB .sub) [(.t 21),(iC 1)],iG 23 18 true (.p .strIndex) [(.t 19),(.t 22)],iG 24 18 true (iB .leq) [(.t 23),(iU 32)],iR 25 (.p .pick) [(.t 18),(.t 24),(.c (.bool false))]]) (iK [0,25] (.cond (.t 25) .skip (iK [0] (.exit 2))))) (iK [0] (.block 3 (.reg [iM 26 0,iM 27 0,iR 28 (.p .lenS) [(.t 27)],iR 29 (iB .sub) [(.t 28),(iC 1)],iR 30 (.p (.strSlice false true)) [(.t 26),(.t 29)],iM 0 30]))))))) (iK [0] (.seq (.reg [iR 3 (.p .mv) [(.c (.str []))]]) (iK [0,3] (.seq (.seq (.reg [iR 4 (.p .mv) [(iC 0)]])
    (iK [0,3,4] (.block 4 (.loop (iK [0,3,4] (.seq (.seq (.reg [iM 31 4,iM 32 0,iR 33 (.p .lenS) [(.t 32)],iR 34 (iB .lss) [(.t 31),(.t 33)]]) (iK [0,3,4,34] (.cond (.t 34) .skip (iK [3] (.exit 4))))) (iK [0,3,4] (.seq (.block 5 (.seq (.reg [iM 37 0,iM 38 4,iR 39 (.p .strIndex) [(.t 37),(.t 38)],iR 40 (iB .neq) [(.t 39),(iU 9)],iM 41 40,iN 42 41 true 0,iN 43 41 true 4,iG 44 41 true (.p .strIndex) [(.t 42),(.t 43)],iG 45 41 true (iB .neq) [(.t 44),(iU 10)],iR 46 (.p .pick) [(.t 41),(.t 45),(.c (.bool false))],iM 47 46,iN 48 47 true 0,iN 49 47 true 4,iG 50 47 true (.p .strIndex) [(.t 48),(.t 49)],
    iG 51 47 true (iB .neq) [(.t 50),(iU 13)],iR 52 (.p .pick) [(.t 47),(.t 51),(.c (.bool false))]]) (iK [0,3,4,52] (.cond (.t 52) (.reg [iM 53 3,iM 54 0,iM 55 4,iM 56 4,iR 57 (iB .add) [(.t 56),(iC 1)],iR 58 (.p (.strSlice true true)) [(.t 54),(.t 55),(.t 57)],iR 59 (iB .add) [(.t 53),(.t 58)],iM 3 59]) .skip)))) (iK [0,3,4] (.reg [iM 35 4,iR 36 (iB .add) [(.t 35),(iC 1)],iM 4 36])))))))))) (iK [3] (.seq (.reg [iM 60 3,iM 2 60]) (iK [2] (iK [2] .ret))))))))))))),[(.t 2)]⟩
/-- ostiary/ostiaryref3.scheme -/
def fn_ref3_scheme : Fun := ⟨1,(.seq (.reg [iR 2 (.p .mv) [(.c (.str []))],iR 3 (.p .mv) [(.c (.str []))],iR 4 (.p .mv) [(.c (.bool false))]]) (iK [0] (.seq (.seq (.reg [iR 5 (.p .mv) [(iC 0)]]) (iK [0,5] (.block 0 (.loop (iK [0,5] (.seq (.seq (.reg [iM 7 5,iM 8 0,iR 9 (.p .lenS) [(.t 8)],iR 10 (iB .lss) [(.t 7),(.t 9)]]) (iK [0,5,10] (.cond (.t 10) .skip (iK [] (.exit 0))))) (iK [0,5] (.seq (.block 1 (.seq (.reg [iM 13 0,iM 14 5,iR 15 (.p .strIndex) [(.t 13),(.t 14)],iM 6 15]) (iK [0,5,6] (.seq (.seq (.reg [iM 16 6,iR 17 (iB .eql) [(.t 16),(iU 58)],iM 18 17,iN 19 18 true 5,iG 20 18 true (iB .gtr) [(.t 19),(iC 0)],
    iR 21 (.p .pick) [(.t 18),(.t 20),(.c (.bool false))]]) (iK [0,5,6,21] (.cond (.t 21) (.seq (.draw [iM 22 0,iM 23 5,iR 24 (.p (.strSlice false true)) [(.t 22),(.t 23)],iR 25 (.call 55) [(.t 24)],iM 26 0,iM 27 5,iR 28 (iB .add) [(.t 27),(iC 1)],iR 29 (.p (.strSlice true false)) [(.t 26),(.t 28)],iM 2 25,iM 3 29,iR 4 (.p .mv) [(.c (.bool true))]]) (iK [2,3,4] (iK [2,3,4] .ret))) .skip))) (iK [0,5,6] (.seq (.reg [iM 30 6,iR 31 (.call 114) [(.t 30)],iR 32 (.p (.un .not)) [(.t 31)],iM 33 32,iN 34 33 true 5,iG 35 33 true (iB .eql) [(.t 34),(iC 0)],iN 36 33 true 35,iN 37 36 false 6,
    iG 38 36 false (.call 115) [(.t 37)],iG 39 36 false (.p (.un .not)) [(.t 38)],iN 40 36 false 39,iN 41 40 true 6,iG 42 40 true (iB .neq) [(.t 41),(iU 43)],iG 43 36 false (.p .pick) [(.t 40),(.t 42),(.c (.bool false))],iN 44 36 false 43,iN 45 44 true 6,iG 46 44 true (iB .neq) [(.t 45),(iU 45)],iG 47 36 false (.p .pick) [(.t 44),(.t 46),(.c (.bool false))],iN 48 36 false 47,iN 49 48 true 6,iG 50 48 true (iB .neq) [(.t 49),(iU 46)],iG 51 36 false (.p .pick) [(.t 48),(.t 50),(.c (.bool false))],iG 52 33 true (.p .pick) [(.t 36),(.c (.bool true)),(.t 51)],iR 53 (.p .pick) [(.t 33),(.t 52),(.c (.bool false))]]) (iK [0,5,53] (.cond (.t 53)
    (.seq (.reg [iR 2 (.p .mv) [(.c (.str []))],iR 3 (.p .mv) [(.c (.str []))],iR 4 (.p .mv) [(.c (.bool false))]]) (iK [2,3,4] (iK [2,3,4] .ret))) .skip)))))))) (iK [0,5] (.reg [iM 11 5,iR 12 (iB .add) [(.t 11),(iC 1)],iM 5 12])))))))))) (iK [] (.seq (.reg [iR 2 (.p .mv) [(.c (.str []))],iR 3 (.p .mv) [(.c (.str []))],iR 4 (.p .mv) [(.c (.bool false))]]) (iK [2,3,4] (iK [2,3,4] .ret))))))),[(.t 2),(.t 3),(.t 4)]⟩
/-- ostiary/ostiaryref3.full -/
def fn_ref3_full : Fun := ⟨2,(.seq (.reg [iR 4 (.p .mv) [(iC 0)]]) (iK [0,1] (.seq (.reg [iM 7 0,iR 8 (.p .nilck) [(.t 7)],iR 9 (.p (.fieldAddr 5)) [(.t 8)],⟨none,none,(.e (.store 1)),[(.t 9),(.c (.int .i64 (.negSucc 0)))],none⟩]) (iK [0,1] (.seq (.seq (.reg [iM 10 0,iR 11 (.p .nilck) [(.t 10)],iR 12 (.p (.fieldAddr 0)) [(.t 11)],iR 13 (.l (.load none)) [(.t 12)],iR 14 (.call 90) [(.t 13)]]) (iK [0,1,14] (.cond (.t 14) (.seq (.reg [iM 15 0,iM 16 1,iR 17 (.call 164) [(.t 16)],iR 18 (.call 163) [(.t 17)],iR 19 (.call 162) [(.t 15),(.t 18)],iM 4 19]) (iK [4] (iK [4] .ret))) .skip))) (iK [0,1] (.seq (.seq (.reg [iM 20 1,iR 21 (.call 136) [(.t 20),(.c (.str (bs [47,47])))]]) (iK [0,1,21] (.cond (.t 21)
    (.seq (.reg [iM 22 0,iM 23 1,iR 24 (.p (.strSlice true false)) [(.t 23),(iC 2)],iR 25 (.call 162) [(.t 22),(.t 24)],iM 4 25]) (iK [4] (iK [4] .ret))) .skip))) (iK [0,1] (.seq (.seq (.reg [iM 26 1,iR 27 (.call 136) [(.t 26),(.c (.str (bs [47])))]]) (iK [0,1,27] (.cond (.t 27) (.seq (.reg [iM 28 0,iM 29 1,iR 30 (.call 165) [(.t 28),(.t 29)]]) (iK [] (.seq (.reg [iR 4 (.p .mv) [(iC 0)]]) (iK [4] (iK [4] .ret))))) .skip))) (iK [0,1] (.seq (.reg [iM 32 1,iR 33 (.call 166) [(.t 32),(iU 63),(iU 63)],iM 31 33,iR 34 (.p (.extract 0)) [(.t 31)],iR 35 (.p (.extract 1)) [(.t 31)],iM 5 34,iM 6 35])
    (iK [0,1,5] (.seq (.reg [iM 36 0,iR 37 (.p .nilck) [(.t 36)],iR 38 (.p (.fieldAddr 6)) [(.t 37)],⟨none,none,(.e (.store 1)),[(.t 38),(.c (.bool true))],none⟩]) (iK [0,1,5] (.seq (.reg [iM 39 0,iM 40 5,iR 41 (.call 161) [(.t 40),(iC 1)],iR 42 (.e (.buildSlice 1 1 [(.str [])] [(0,1)])) [(.t 41)],iR 43 (.p .nilck) [(.t 39)],iR 44 (.p (.fieldAddr 7)) [(.t 43)],⟨none,none,(.e (.store 1)),[(.t 44),(.t 42)],none⟩]) (iK [0,1] (.seq (.reg [iM 45 0,iM 46 1,iR 47 (.call 167) [(.t 45),(.t 46)]]) (iK [] (.seq (.reg [iR 4 (.p .mv) [(iC 0)]]) (iK [4] (iK [4] .ret))))))))))))))))))))),[(.t 4)]⟩
/-- internal/stringslite.Cut -/
def fn_stringslite_Cut : Fun := ⟨2,(.seq (.reg [iR 4 (.p .mv) [(.c (.str []))],iR 5 (.p .mv) [(.c (.str []))],iR 6 (.p .mv) [(.c (.bool false))]]) (iK [0,1] (.seq (.seq (.reg [iM 8 0,iM 9 1,iR 10 (.call 168) [(.t 8),(.t 9)],iM 7 10]) (iK [0,1,7] (.seq (.reg [iM 11 7,iR 12 (iB .geq) [(.t 11),(iC 0)]]) (iK [0,1,7,12] (.cond (.t 12) (.seq (.draw [iM 13 0,iM 14 7,iR 15 (.p (.strSlice false true)) [(.t 13),(.t 14)],iM 16 0,iM 17 7,iM 18 1,iR 19 (.p .lenS) [(.t 18)],iR 20 (iB .add) [(.t 17),(.t 19)],iR 21 (.p (.strSlice true false)) [(.t 16),(.t 20)],iM 4 15,iM 5 21,iR 6 (.p .mv) [(.c (.bool true))]]) (iK [4,5,6] (iK [4,5,6] .ret)))
    .skip))))) (iK [0] (.seq (.reg [iM 22 0,iM 4 22,iR 5 (.p .mv) [(.c (.str []))],iR 6 (.p .mv) [(.c (.bool false))]]) (iK [4,5,6] (iK [4,5,6] .ret))))))),[(.t 4),(.t 5),(.t 6)]⟩
def s_stringslite_Cut (call : CallK) (N : Nat) (a0 a1 : V) (H : Heap) (τ : Tape) (q : KV) : Ans := call f_stringslite_Index [a0,a1] H τ fun v0 H1 τ2 => binK .geq v0 (.int .i64 (.ofNat 0)) fun v3 => condK v3 (someK (pStrSlice false true [a0,v0]) fun v4 => someK (pLenS [a1]) fun v5 => binK .add v0 v5 fun v6 => someK (pStrSlice true false [a0,v6]) fun v7 => q (.tup [v4,v7,(.bool true)]) H1 τ2) (q (.tup [a0,(.str []),(.bool false)]) H1 τ2)
theorem s_stringslite_Cut_eq (call : CallK) (N : Nat) (a0 a1 : V) (H : Heap) (τ : Tape) (q : KV) : s_stringslite_Cut call N a0 a1 H τ q = funK call N fn_stringslite_Cut [a0, a1] H τ q := by kernel_rfl
def e_stringslite_Cut (call : CallK) (N : Nat) (vs : List V) (H : Heap) (τ : Tape) (q : KV) : Ans := match vs with | [a0, a1] => s_stringslite_Cut call N a0 a1 H τ q | _ => none
theorem e_stringslite_Cut_ok : EntOk fn_stringslite_Cut e_stringslite_Cut := by
  intro call N vs H τ q r h
  unfold e_stringslite_Cut at h
  split at h
  · rw [s_stringslite_Cut_eq] at h; exact h
  · cases h
theorem e_stringslite_Cut_nat : EntNat e_stringslite_Cut := by
  intro c hn N vs H τ q
  unfold e_stringslite_Cut
  split
  · rw [s_stringslite_Cut_eq, s_stringslite_Cut_eq]; exact funK_ent hn _ _ _ _ _ _
  · rfl
/-- strings.CutPrefix -/
def fn_strings_CutPrefix : Fun := ⟨2,(.seq (.reg [iR 4 (.p .mv) [(.c (.str []))],iR 5 (.p .mv) [(.c (.bool false))]]) (iK [0,1] (.seq (.reg [iM 6 0,iM 7 1,iR 8 (.call 169) [(.t 6),(.t 7)],iR 9 (.p (.extract 0)) [(.t 8)],iR 10 (.p (.extract 1)) [(.t 8)],iM 4 9,iM 5 10]) (iK [4,5] (iK [4,5] .ret))))),[(.t 4),(.t 5)]⟩
def s_strings_CutPrefix (call : CallK) (N : Nat) (a0 a1 : V) (H : Heap) (τ : Tape) (q : KV) : Ans := call f_stringslite_CutPrefix [a0,a1] H τ fun v0 H1 τ2 => someK (pExtract 0 [v0]) fun v3 => someK (pExtract 1 [v0]) fun v4 => q (.tup [v3,v4]) H1 τ2
theorem s_strings_CutPrefix_eq (call : CallK) (N : Nat) (a0 a1 : V) (H : Heap) (τ : Tape) (q : KV) : s_strings_CutPrefix call N a0 a1 H τ q = funK call N fn_strings_CutPrefix [a0, a1] H τ q := by kernel_rfl
def e_strings_CutPrefix (call : CallK) (N : Nat) (vs : List V) (H : Heap) (τ : Tape) (q : KV) : Ans := match vs with | [a0, a1] => s_strings_CutPrefix call N a0 a1 H τ q | _ => none
theorem e_strings_CutPrefix_ok : EntOk fn_strings_CutPrefix e_strings_CutPrefix := by
  intro call N vs H τ q r h
  unfold e_strings_CutPrefix at h
  split at h
  · rw [s_strings_CutPrefix_eq] at h; exact h
  · cases h
theorem e_strings_CutPrefix_nat : EntNat e_strings_CutPrefix := by
  intro c hn N vs H τ q
  unfold e_strings_CutPrefix
  split
  · rw [s_strings_CutPrefix_eq, s_strings_CutPrefix_eq]; exact funK_ent hn _ _ _ _ _ _
  · rfl
/-- ostiary/headers.told -/
def fn_headers_told : Fun := ⟨1,(.seq (.reg [iR 2 (.p .mv) [(iC 0)],iR 3 (.p .mv) [(.c (.bool false))]]) (iK [0] (.seq (.seq (.reg [iM 4 0,iR 5 (iB .eql) [(.t 4),(.c (.str []))]]) (iK [0,5] (.cond (.t 5) (.seq (.reg [iR 2 (.p .mv) [(.c (.int .i64 (.negSucc 0)))],iR 3 (.p .mv) [(.c (.bool true))]]) (iK [2,3] (iK [2,3] .ret))) .skip))) (iK [0] (.seq (.reg [iM 6 0,iR 7 (.call 61) [(.t 6)],iR 8 (.p (.extract 0)) [(.t 7)],iR 9 (.p (.extract 1)) [(.t 7)],iM 2 8,iM 3 9]) (iK [2,3] (iK [2,3] .ret))))))),[(.t 2),(.t 3)]⟩
def s_headers_told (call : CallK) (N : Nat) (a0 : V) (H : Heap) (τ : Tape) (q : KV) : Ans := binK .eql a0 (.str []) fun v0 => condK v0 (q (.tup [(.int .i64 (.negSucc 0)),(.bool true)]) H τ) (call f_infra_Int [a0] H τ fun v1 H2 τ3 => someK (pExtract 0 [v1]) fun v4 => someK (pExtract 1 [v1]) fun v5 => q (.tup [v4,v5]) H2 τ3)
theorem s_headers_told_eq (call : CallK) (N : Nat) (a0 : V) (H : Heap) (τ : Tape) (q : KV) : s_headers_told call N a0 H τ q = funK call N fn_headers_told [a0] H τ q := by kernel_rfl
def e_headers_told (call : CallK) (N : Nat) (vs : List V) (H : Heap) (τ : Tape) (q : KV) : Ans := match vs with | [a0] => s_headers_told call N a0 H τ q | _ => none
theorem e_headers_told_ok : EntOk fn_headers_told e_headers_told := by
  intro call N vs H τ q r h
  unfold e_headers_told at h
  split at h
  · rw [s_headers_told_eq] at h; exact h
  · cases h
theorem e_headers_told_nat : EntNat e_headers_told := by
  intro c hn N vs H τ q
  unfold e_headers_told
  split
  · rw [s_headers_told_eq, s_headers_told_eq]; exact funK_ent hn _ _ _ _ _ _
  · rfl
/-- ostiary/ostiaryref1.Blank -/
def fn_ref1_Blank : Fun := ⟨1,(.seq (.reg [iR 2 (.p .mv) [(.c (.bool false))]]) (iK [0] (.seq (.reg [iM 3 0,iR 4 (iB .eql) [(.t 3),(iU 9)],iM 5 4,iN 6 5 false 0,iG 7 5 false (iB .eql) [(.t 6),(iU 10)],iR 8 (.p .pick) [(.t 5),(.c (.bool true)),(.t 7)],iM 9 8,iN 10 9 false 0,iG 11 9 false (iB .eql) [(.t 10),(iU 12)],iR 12 (.p .pick) [(.t 9),(.c (.bool true)),(.t 11)],iM 13 12,iN 14 13 false 0,iG 15 13 false (iB .eql) [(.t 14),(iU 13)],iR 16 (.p .pick) [(.t 13),(.c (.bool true)),(.t 15)],iM 17 16,iN 18 17 false 0,iG 19 17 false (iB .eql) [(.t 18),(iU 32)],
    iR 20 (.p .pick) [(.t 17),(.c (.bool true)),(.t 19)],iM 2 20]) (iK [2] (iK [2] .ret))))),[(.t 2)]⟩
def s_ref1_Blank (call : CallK) (N : Nat) (a0 : V) (H : Heap) (τ : Tape) (q : KV) : Ans := binK .eql a0 (.int .u8 (.ofNat 9)) fun v0 => gK v0 false (fun q' => q' a0 H τ) H τ fun v1 H2 τ3 => gK v0 false (fun q' => binK .eql v1 (.int .u8 (.ofNat 10)) fun v => q' v H2 τ3) H2 τ3 fun v4 H5 τ6 => someK (pPick [v0,(.bool true),v4]) fun v7 => gK v7 false (fun q' => q' a0 H5 τ6) H5 τ6 fun v8 H9 τ10 => gK v7 false (fun q' => binK .eql v8 (.int .u8 (.ofNat 12)) fun v => q' v H9 τ10) H9 τ10 fun v11 H12 τ13 => someK (pPick [v7,(.bool true),v11]) fun v14 => gK v14 false (fun q' => q' a0 H12 τ13) H12 τ13 fun v15 H16 τ17 => gK v14 false (fun q' => binK .eql v15 (.int .u8 (.ofNat 13)) fun v => q' v H16 τ17) H16 τ17 fun v18 H19 τ20 => someK (pPick [v14,(.bool true),v18]) fun v21 => gK v21 false (fun q' => q' a0 H19 τ20) H19 τ20 fun v22 H23 τ24 =>
    gK v21 false (fun q' => binK .eql v22 (.int .u8 (.ofNat 32)) fun v => q' v H23 τ24) H23 τ24 fun v25 H26 τ27 => someK (pPick [v21,(.bool true),v25]) fun v28 => q v28 H26 τ27
theorem s_ref1_Blank_eq (call : CallK) (N : Nat) (a0 : V) (H : Heap) (τ : Tape) (q : KV) : s_ref1_Blank call N a0 H τ q = funK call N fn_ref1_Blank [a0] H τ q := by kernel_rfl
def e_ref1_Blank (call : CallK) (N : Nat) (vs : List V) (H : Heap) (τ : Tape) (q : KV) : Ans := match vs with | [a0] => s_ref1_Blank call N a0 H τ q | _ => none
theorem e_ref1_Blank_ok : EntOk fn_ref1_Blank e_ref1_Blank := by
  intro call N vs H τ q r h
  unfold e_ref1_Blank at h
  split at h
  · rw [s_ref1_Blank_eq] at h; exact h
  · cases h
theorem e_ref1_Blank_nat : EntNat e_ref1_Blank := by
  intro c hn N vs H τ q
  unfold e_ref1_Blank
  split
  · rw [s_ref1_Blank_eq, s_ref1_Blank_eq]; exact funK_ent hn _ _ _ _ _ _
  · rfl
/-- ostiary/ostiaryref1.Begins -/
def fn_ref1_Begins : Fun := ⟨2,(.seq (.reg [iR 4 (.p .mv) [(.c (.bool false))]]) (iK [0,1] (.seq (.reg [iM 5 0,iR 6 (.p .lenS) [(.t 5)],iM 7 1,iR 8 (.p .lenS) [(.t 7)],iR 9 (iB .geq) [(.t 6),(.t 8)],iM 10 9,iN 11 10 true 0,iN 12 10 true 1,iG 13 10 true (.p .lenS) [(.t 12)],iG 14 10 true (.p (.strSlice false true)) [(.t 11),(.t 13)],iN 15 10 true 1,iG 16 10 true (iB .eql) [(.t 14),(.t 15)],iR 17 (.p .pick) [(.t 10),(.t 16),(.c (.bool false))],iM 4 17]) (iK [4] (iK [4] .ret))))),[(.t 4)]⟩
def s_ref1_Begins (call : CallK) (N : Nat) (a0 a1 : V) (H : Heap) (τ : Tape) (q : KV) : Ans := someK (pLenS [a0]) fun v0 => someK (pLenS [a1]) fun v1 => binK .geq v0 v1 fun v2 => gK v2 true (fun q' => q' a0 H τ) H τ fun v3 H4 τ5 => gK v2 true (fun q' => q' a1 H4 τ5) H4 τ5 fun v6 H7 τ8 => gK v2 true (fun q' => someK (pLenS [v6]) fun v => q' v H7 τ8) H7 τ8 fun v9 H10 τ11 => gK v2 true (fun q' => someK (pStrSlice false true [v3,v9]) fun v => q' v H10 τ11) H10 τ11 fun v12 H13 τ14 => gK v2 true (fun q' => q' a1 H13 τ14) H13 τ14 fun v15 H16 τ17 => gK v2 true (fun q' => binK .eql v12 v15 fun v => q' v H16 τ17) H16 τ17 fun v18 H19 τ20 => someK (pPick [v2,v18,(.bool false)]) fun v21 => q v21 H19 τ20
theorem s_ref1_Begins_eq (call : CallK) (N : Nat) (a0 a1 : V) (H : Heap) (τ : Tape) (q : KV) : s_ref1_Begins call N a0 a1 H τ q = funK call N fn_ref1_Begins [a0, a1] H τ q := by kernel_rfl
def e_ref1_Begins (call : CallK) (N : Nat) (vs : List V) (H : Heap) (τ : Tape) (q : KV) : Ans := match vs with | [a0, a1] => s_ref1_Begins call N a0 a1 H τ q | _ => none
theorem e_ref1_Begins_ok : EntOk fn_ref1_Begins e_ref1_Begins := by
  intro call N vs H τ q r h
  unfold e_ref1_Begins at h
  split at h
  · rw [s_ref1_Begins_eq] at h; exact h
  · cases h
theorem e_ref1_Begins_nat : EntNat e_ref1_Begins := by
  intro c hn N vs H τ q
  unfold e_ref1_Begins
  split
  · rw [s_ref1_Begins_eq, s_ref1_Begins_eq]; exact funK_ent hn _ _ _ _ _ _
  · rfl
/-- ostiary/ostiaryref1.Int -/
def fn_ref1_Int : Fun := ⟨1,(.seq (.reg [iR 2 (.p .mv) [(iC 0)],iR 3 (.p .mv) [(.c (.bool false))]]) (iK [0] (.seq (.reg [iR 4 (.p .mv) [(iC 0)]]) (iK [0,4] (.seq (.seq (.reg [iR 5 (.p .mv) [(iC 0)]]) (iK [0,4,5] (.block 0 (.loop (iK [0,4,5] (.seq (.seq (.reg [iM 7 5,iM 8 0,iR 9 (.p .lenS) [(.t 8)],iR 10 (iB .lss) [(.t 7),(.t 9)]]) (iK [0,4,5,10] (.cond (.t 10) .skip (iK [0,4] (.exit 0))))) (iK [0,4,5] (.seq (.block 1 (.seq (.seq (.reg [iM 13 0,iM 14 5,iR 15 (.p .strIndex) [(.t 13),(.t 14)],iR 16 (.call 115) [(.t 15)],iR 17 (.p (.un .not)) [(.t 16)]]) (iK [0,4,5,17] (.cond (.t 17) (.seq (.reg [iR 2 (.p .mv) [(iC 0)],iR 3 (.p .mv) [(.c (.bool false))]])
    (iK [2,3] (iK [2,3] .ret))) .skip))) (iK [0,4,5] (.seq (.reg [iM 18 0,iM 19 5,iR 20 (.p .strIndex) [(.t 18),(.t 19)],iR 21 (iB .sub) [(.t 20),(iU 48)],iR 22 (.p (.toInt .i64)) [(.t 21)],iM 6 22]) (iK [0,4,5,6] (.seq (.seq (.reg [iM 23 4,iM 24 6,iR 25 (iB .sub) [(iC 9223372036854775807),(.t 24)],iR 26 (iB .quo) [(.t 25),(iC 10)],iR 27 (iB .gtr) [(.t 23),(.t 26)]]) (iK [0,4,5,6,27] (.cond (.t 27) (.seq (.reg [iR 4 (.p .mv) [(iC 9223372036854775807)]]) (iK [0,4,5] (iK [0,4,5] (.exit 1)))) .skip))) (iK [0,4,5,6] (.reg [iM 28 4,iR 29 (iB .mul) [(.t 28),(iC 10)],iM 30 6,
    iR 31 (iB .add) [(.t 29),(.t 30)],iM 4 31])))))))) (iK [0,4,5] (.reg [iM 11 5,iR 12 (iB .add) [(.t 11),(iC 1)],iM 5 12])))))))))) (iK [0,4] (.seq (.reg [iM 32 4,iM 33 0,iR 34 (.p .lenS) [(.t 33)],iR 35 (iB .gtr) [(.t 34),(iC 0)],iM 2 32,iM 3 35]) (iK [2,3] (iK [2,3] .ret))))))))),[(.t 2),(.t 3)]⟩
def s_ref1_Int_j0 (call : CallK) (N : Nat) (q : KV) (st : St) (τ : Tape) : Ans := match st with
  | ⟨fr,H⟩ => getK fr 0 fun t0 => getK fr 4 fun t4 => someK (pLenS [t0]) fun v0 => binK .gtr v0 (.int .i64 (.ofNat 0)) fun v1 => q (.tup [t4,v1]) H τ
def s_ref1_Int_j2 (call : CallK) (N : Nat) (k : KC) (st : St) (τ : Tape) : Ans := match st with
  | ⟨fr,H⟩ => getK fr 0 fun t0 => getK fr 4 fun t4 => getK fr 5 fun t5 => binK .add t5 (.int .i64 (.ofNat 1)) fun v4 => k .normal ⟨(T.set (T.set (T.set (T.set (T.set (T.set .leaf 0 t0) 4 t4) 5 t5) 11 t5) 12 v4) 5 v4),H⟩ τ
def s_ref1_Int_l1 (call : CallK) (N : Nat) (st : St) (τ : Tape) (k : KC) : Ans := match st with
  | ⟨fr,H⟩ => getK fr 0 fun t0 => getK fr 4 fun t4 => getK fr 5 fun t5 => someK (pLenS [t0]) fun v2 => binK .lss t5 v2 fun v3 => condK v3 (someK (pStrIndex [t0,t5]) fun v5 => call f_ref1_Digit [v5] H τ fun v6 H7 τ8 => unK .not v6 fun v9 => condK v9 (k .ret ⟨(T.set (T.set .leaf 2 (.int .i64 (.ofNat 0))) 3 (.bool false)),H7⟩ τ8) (someK (pStrIndex [t0,t5]) fun v10 => binK .sub v10 (.int .u8 (.ofNat 48)) fun v11 => toIntK .i64 v11 fun v12 => binK .sub (.int .i64 (.ofNat 9223372036854775807)) v12 fun v13 => binK .quo v13 (.int .i64 (.ofNat 10)) fun v14 => binK .gtr t4 v14 fun v15 => condK v15 (s_ref1_Int_j2 call N k ⟨(T.set (T.set (T.set .leaf 0 t0) 4 (.int .i64 (.ofNat 9223372036854775807))) 5 t5),H7⟩ τ8) (binK .mul t4 (.int .i64 (.ofNat 10)) fun v16 => binK .add v16 v12 fun v17 =>
    s_ref1_Int_j2 call N k ⟨(T.set (T.set (T.set (T.set (T.set (T.set (T.set (T.set (T.set .leaf 0 t0) 4 t4) 5 t5) 6 v12) 28 t4) 29 v16) 30 v12) 31 v17) 4 v17),H7⟩ τ8))) (k (.exit 0) ⟨(T.set (T.set .leaf 0 t0) 4 t4),H⟩ τ)
def s_ref1_Int (call : CallK) (N : Nat) (a0 : V) (H : Heap) (τ : Tape) (q : KV) : Ans := loopK (s_ref1_Int_l1 call N) N ⟨(T.set (T.set (T.set .leaf 0 a0) 4 (.int .i64 (.ofNat 0))) 5 (.int .i64 (.ofNat 0))),H⟩ τ (blockK 0 (seqK (s_ref1_Int_j0 call N q) (endK [(.t 2),(.t 3)] q)))
theorem s_ref1_Int_eq (call : CallK) (N : Nat) (a0 : V) (H : Heap) (τ : Tape) (q : KV) : s_ref1_Int call N a0 H τ q = funK call N fn_ref1_Int [a0] H τ q := by kernel_rfl
def e_ref1_Int (call : CallK) (N : Nat) (vs : List V) (H : Heap) (τ : Tape) (q : KV) : Ans := match vs with | [a0] => s_ref1_Int call N a0 H τ q | _ => none
theorem e_ref1_Int_ok : EntOk fn_ref1_Int e_ref1_Int := by
  intro call N vs H τ q r h
  unfold e_ref1_Int at h
  split at h
  · rw [s_ref1_Int_eq] at h; exact h
  · cases h
theorem e_ref1_Int_nat : EntNat e_ref1_Int := by
  intro c hn N vs H τ q
  unfold e_ref1_Int
  split
  · rw [s_ref1_Int_eq, s_ref1_Int_eq]; exact funK_ent hn _ _ _ _ _ _
  · rfl
/-- strings.trimLeftByte -/
def fn_strings_trimLeftByte : Fun := ⟨2,(.seq (.reg [iR 4 (.p .mv) [(.c (.str []))]]) (iK [0,1] (.seq (.block 0 (.loop (iK [0,1] (.seq (.seq (.reg [iM 5 0,iR 6 (.p .lenS) [(.t 5)],iR 7 (iB .gtr) [(.t 6),(iC 0)],iM 8 7,iN 9 8 true 0,iG 10 8 true (.p .strIndex) [(.t 9),(iC 0)],iN 11 8 true 1,iG 12 8 true (iB .eql) [(.t 10),(.t 11)],iR 13 (.p .pick) [(.t 8),(.t 12),(.c (.bool false))]]) (iK [0,1,13] (.cond (.t 13) .skip (iK [0] (.exit 0))))) (iK [0,1] (.block 1 (.reg [iM 14 0,iR 15 (.p (.strSlice true false)) [(.t 14),(iC 1)],iM 0 15]))))))) (iK [0] (.seq (.reg [iM 16 0,iM 4 16]) (iK [4] (iK [4] .ret))))))),[(.t 4)]⟩
/-- strings.trimRightByte -/
def fn_strings_trimRightByte : Fun := ⟨2,(.seq (.reg [iR 4 (.p .mv) [(.c (.str []))]]) (iK [0,1] (.seq (.block 0 (.loop (iK [0,1] (.seq (.seq (.reg [iM 5 0,iR 6 (.p .lenS) [(.t 5)],iR 7 (iB .gtr) [(.t 6),(iC 0)],iM 8 7,iN 9 8 true 0,iN 10 8 true 0,iG 11 8 true (.p .lenS) [(.t 10)],iG 12 8 true (iB .sub) [(.t 11),(iC 1)],iG 13 8 true (.p .strIndex) [(.t 9),(.t 12)],iN 14 8 true 1,iG 15 8 true (iB .eql) [(.t 13),(.t 14)],iR 16 (.p .pick) [(.t 8),(.t 15),(.c (.bool false))]]) (iK [0,1,16] (.cond (.t 16) .skip (iK [0] (.exit 0))))) (iK [0,1] (.block 1 (.reg [iM 17 0,iM 18 0,iR 19 (.p .lenS) [(.t 18)],iR 20 (iB .sub) [(.t 19),(iC 1)],
    iR 21 (.p (.strSlice false true)) [(.t 17),(.t 20)],iM 0 21]))))))) (iK [0] (.seq (.reg [iM 22 0,iM 4 22]) (iK [4] (iK [4] .ret))))))),[(.t 4)]⟩
/-- strings.makeASCIISet -/
def fn_strings_makeASCIISet : Fun := ⟨1,(.seq (.reg [iR 2 (.e (.alloc (repl 256 [(.bool false)]))) [],iR 3 (.p .mv) [(.c (.bool false))]]) (iK [0,2] (.seq (.seq (.reg [iR 4 (.p .mv) [(iC 0)]]) (iK [0,2,4] (.block 0 (.loop (iK [0,2,4] (.seq (.seq (.reg [iM 6 4,iM 7 0,iR 8 (.p .lenS) [(.t 7)],iR 9 (iB .lss) [(.t 6),(.t 8)]]) (iK [0,2,4,9] (.cond (.t 9) .skip (iK [2] (.exit 0))))) (iK [0,2,4] (.seq (.block 1 (.seq (.reg [iM 12 0,iM 13 4,iR 14 (.p .strIndex) [(.t 12),(.t 13)],iM 5 14]) (iK [0,2,4,5] (.seq (.seq (.reg [iM 15 5,iR 16 (iB .geq) [(.t 15),(iU 128)]]) (iK [0,2,4,5,16] (.cond (.t 16) (.seq (.reg [iR 17 (.l (.load (some 256))) [(.t 2)],
    ⟨none,none,(.e (.store 256)),[(.t 2),(.t 17)],none⟩,iR 3 (.p .mv) [(.c (.bool false))]]) (iK [2,3] (iK [2,3] .ret))) .skip))) (iK [0,2,4,5] (.reg [iM 18 5,iR 19 (.p (.arrIdx 256 1)) [(.t 2),(.t 18)],⟨none,none,(.e (.store 1)),[(.t 19),(.c (.bool true))],none⟩])))))) (iK [0,2,4] (.reg [iM 10 4,iR 11 (iB .add) [(.t 10),(iC 1)],iM 4 11])))))))))) (iK [2] (.seq (.reg [iR 20 (.l (.load (some 256))) [(.t 2)],⟨none,none,(.e (.store 256)),[(.t 2),(.t 20)],none⟩,iR 3 (.p .mv) [(.c (.bool true))]]) (iK [2,3] (iK [2,3] .ret))))))),[(.cell 2 (some 256)),(.t 3)]⟩
def s_strings_makeASCIISet_j0 (call : CallK) (N : Nat) (q : KV) (st : St) (τ : Tape) : Ans := match st with
  | ⟨fr,H⟩ => getK fr 2 fun t2 => someK (lLoadN 256 [t2] H) fun v3 => effK (eStore 256 [t2,v3] H τ) fun v4 H5 τ6 => someK (results ⟨(T.set (T.set .leaf 2 t2) 3 (.bool true)),H5⟩ [(.cell 2 (some 256)),(.t 3)]) fun v => q v H5 τ6
def s_strings_makeASCIISet_l1 (call : CallK) (N : Nat) (st : St) (τ : Tape) (k : KC) : Ans := match st with
  | ⟨fr,H⟩ => getK fr 0 fun t0 => getK fr 2 fun t2 => getK fr 4 fun t4 => someK (pLenS [t0]) fun v7 => binK .lss t4 v7 fun v8 => condK v8 (someK (pStrIndex [t0,t4]) fun v9 => binK .geq v9 (.int .u8 (.ofNat 128)) fun v10 => condK v10 (someK (lLoadN 256 [t2] H) fun v11 => effK (eStore 256 [t2,v11] H τ) fun v12 H13 τ14 => k .ret ⟨(T.set (T.set .leaf 2 t2) 3 (.bool false)),H13⟩ τ14) (someK (pArrIdx 256 1 [t2,v9]) fun v15 => effK (eStore 1 [v15,(.bool true)] H τ) fun v16 H17 τ18 => binK .add t4 (.int .i64 (.ofNat 1)) fun v19 => k .normal ⟨(T.set (T.set (T.set (T.set (T.set (T.set .leaf 0 t0) 2 t2) 4 t4) 10 t4) 11 v19) 4 v19),H17⟩ τ18)) (k (.exit 0) ⟨(T.set .leaf 2 t2),H⟩ τ)
def s_strings_makeASCIISet (call : CallK) (N : Nat) (a0 : V) (H : Heap) (τ : Tape) (q : KV) : Ans := effK (eAlloc (repl 256 [(.bool false)]) [] H τ) fun v0 H1 τ2 => loopK (s_strings_makeASCIISet_l1 call N) N ⟨(T.set (T.set (T.set .leaf 0 a0) 2 v0) 4 (.int .i64 (.ofNat 0))),H1⟩ τ2 (blockK 0 (seqK (s_strings_makeASCIISet_j0 call N q) (endK [(.cell 2 (some 256)),(.t 3)] q)))
theorem s_strings_makeASCIISet_eq (call : CallK) (N : Nat) (a0 : V) (H : Heap) (τ : Tape) (q : KV) : s_strings_makeASCIISet call N a0 H τ q = funK call N fn_strings_makeASCIISet [a0] H τ q := by kernel_rfl
def e_strings_makeASCIISet (call : CallK) (N : Nat) (vs : List V) (H : Heap) (τ : Tape) (q : KV) : Ans := match vs with | [a0] => s_strings_makeASCIISet call N a0 H τ q | _ => none
theorem e_strings_makeASCIISet_ok : EntOk fn_strings_makeASCIISet e_strings_makeASCIISet := by
  intro call N vs H τ q r h
  unfold e_strings_makeASCIISet at h
  split at h
  · rw [s_strings_makeASCIISet_eq] at h; exact h
  · cases h
theorem e_strings_makeASCIISet_nat : EntNat e_strings_makeASCIISet := by
  intro c hn N vs H τ q
  unfold e_strings_makeASCIISet
  split
  · rw [s_strings_makeASCIISet_eq, s_strings_makeASCIISet_eq]; exact funK_ent hn _ _ _ _ _ _
  · rfl
/-- strings.trimLeftASCII -/
def fn_strings_trimLeftASCII : Fun := ⟨2,(.seq (.reg [iR 4 (.p .mv) [(.c (.str []))]]) (iK [0,1] (.seq (.block 0 (.loop (iK [0,1] (.seq (.seq (.reg [iM 5 0,iR 6 (.p .lenS) [(.t 5)],iR 7 (iB .gtr) [(.t 6),(iC 0)]]) (iK [0,1,7] (.cond (.t 7) .skip (iK [0] (.exit 0))))) (iK [0,1] (.block 1 (.seq (.seq (.reg [iM 8 1,iM 9 0,iR 10 (.p .strIndex) [(.t 9),(iC 0)],iR 11 (.call 171) [(.t 8),(.t 10)],iR 12 (.p (.un .not)) [(.t 11)]]) (iK [0,1,12] (.cond (.t 12) (iK [0] (.exit 0)) .skip))) (iK [0,1] (.reg [iM 13 0,iR 14 (.p (.strSlice true false)) [(.t 13),(iC 1)],iM 0 14]))))))))) (iK [0] (.seq (.reg [iM 15 0,iM 4 15]) (iK [4] (iK [4] .ret))))))),[(.t 4)]⟩
def s_strings_trimLeftASCII_j0 (call : CallK) (N : Nat) (q : KV) (st : St) (τ : Tape) : Ans := match st with
  | ⟨fr,H⟩ => getK fr 0 fun t0 => q t0 H τ
def s_strings_trimLeftASCII_l1 (call : CallK) (N : Nat) (st : St) (τ : Tape) (k : KC) : Ans := match st with
  | ⟨fr,H⟩ => getK fr 0 fun t0 => getK fr 1 fun t1 => someK (pLenS [t0]) fun v0 => binK .gtr v0 (.int .i64 (.ofNat 0)) fun v1 => condK v1 (someK (pStrIndex [t0,(.int .i64 (.ofNat 0))]) fun v2 => call f_asciiSet_contains [t1,v2] H τ fun v3 H4 τ5 => unK .not v3 fun v6 => condK v6 (k (.exit 0) ⟨(T.set .leaf 0 t0),H4⟩ τ5) (someK (pStrSlice true false [t0,(.int .i64 (.ofNat 1))]) fun v7 => k .normal ⟨(T.set (T.set (T.set (T.set (T.set .leaf 0 t0) 1 t1) 13 t0) 14 v7) 0 v7),H4⟩ τ5)) (k (.exit 0) ⟨(T.set .leaf 0 t0),H⟩ τ)
def s_strings_trimLeftASCII (call : CallK) (N : Nat) (a0 a1 : V) (H : Heap) (τ : Tape) (q : KV) : Ans := loopK (s_strings_trimLeftASCII_l1 call N) N ⟨(T.set (T.set .leaf 0 a0) 1 a1),H⟩ τ (blockK 0 (seqK (s_strings_trimLeftASCII_j0 call N q) (endK [(.t 4)] q)))
theorem s_strings_trimLeftASCII_eq (call : CallK) (N : Nat) (a0 a1 : V) (H : Heap) (τ : Tape) (q : KV) : s_strings_trimLeftASCII call N a0 a1 H τ q = funK call N fn_strings_trimLeftASCII [a0, a1] H τ q := by kernel_rfl
def e_strings_trimLeftASCII (call : CallK) (N : Nat) (vs : List V) (H : Heap) (τ : Tape) (q : KV) : Ans := match vs with | [a0, a1] => s_strings_trimLeftASCII call N a0 a1 H τ q | _ => none
theorem e_strings_trimLeftASCII_ok : EntOk fn_strings_trimLeftASCII e_strings_trimLeftASCII := by
  intro call N vs H τ q r h
  unfold e_strings_trimLeftASCII at h
  split at h
  · rw [s_strings_trimLeftASCII_eq] at h; exact h
  · cases h
theorem e_strings_trimLeftASCII_nat : EntNat e_strings_trimLeftASCII := by
  intro c hn N vs H τ q
  unfold e_strings_trimLeftASCII
  split
  · rw [s_strings_trimLeftASCII_eq, s_strings_trimLeftASCII_eq]; exact funK_ent hn _ _ _ _ _ _
  · rfl
/-- strings.trimRightASCII -/
def fn_strings_trimRightASCII : Fun := ⟨2,(.seq (.reg [iR 4 (.p .mv) [(.c (.str []))]]) (iK [0,1] (.seq (.block 0 (.loop (iK [0,1] (.seq (.seq (.reg [iM 5 0,iR 6 (.p .lenS) [(.t 5)],iR 7 (iB .gtr) [(.t 6),(iC 0)]]) (iK [0,1,7] (.cond (.t 7) .skip (iK [0] (.exit 0))))) (iK [0,1] (.block 1 (.seq (.seq (.reg [iM 8 1,iM 9 0,iM 10 0,iR 11 (.p .lenS) [(.t 10)],iR 12 (iB .sub) [(.t 11),(iC 1)],iR 13 (.p .strIndex) [(.t 9),(.t 12)],iR 14 (.call 171) [(.t 8),(.t 13)],iR 15 (.p (.un .not)) [(.t 14)]]) (iK [0,1,15] (.cond (.t 15) (iK [0] (.exit 0)) .skip))) (iK [0,1] (.reg [iM 16 0,iM 17 0,iR 18 (.p .lenS) [(.t 17)],iR 19 (iB .sub) [(.t 18),(iC 1)],
    iR 20 (.p (.strSlice false true)) [(.t 16),(.t 19)],iM 0 20]))))))))) (iK [0] (.seq (.reg [iM 21 0,iM 4 21]) (iK [4] (iK [4] .ret))))))),[(.t 4)]⟩
def s_strings_trimRightASCII_j0 (call : CallK) (N : Nat) (q : KV) (st : St) (τ : Tape) : Ans := match st with
  | ⟨fr,H⟩ => getK fr 0 fun t0 => q t0 H τ
def s_strings_trimRightASCII_l1 (call : CallK) (N : Nat) (st : St) (τ : Tape) (k : KC) : Ans := match st with
  | ⟨fr,H⟩ => getK fr 0 fun t0 => getK fr 1 fun t1 => someK (pLenS [t0]) fun v0 => binK .gtr v0 (.int .i64 (.ofNat 0)) fun v1 => condK v1 (someK (pLenS [t0]) fun v2 => binK .sub v2 (.int .i64 (.ofNat 1)) fun v3 => someK (pStrIndex [t0,v3]) fun v4 => call f_asciiSet_contains [t1,v4] H τ fun v5 H6 τ7 => unK .not v5 fun v8 => condK v8 (k (.exit 0) ⟨(T.set .leaf 0 t0),H6⟩ τ7) (someK (pLenS [t0]) fun v9 => binK .sub v9 (.int .i64 (.ofNat 1)) fun v10 => someK (pStrSlice false true [t0,v10]) fun v11 => k .normal ⟨(T.set (T.set (T.set (T.set (T.set (T.set (T.set (T.set .leaf 0 t0) 1 t1) 16 t0) 17 t0) 18 v9) 19 v10) 20 v11) 0 v11),H6⟩ τ7)) (k (.exit 0) ⟨(T.set .leaf 0 t0),H⟩ τ)
def s_strings_trimRightASCII (call : CallK) (N : Nat) (a0 a1 : V) (H : Heap) (τ : Tape) (q : KV) : Ans := loopK (s_strings_trimRightASCII_l1 call N) N ⟨(T.set (T.set .leaf 0 a0) 1 a1),H⟩ τ (blockK 0 (seqK (s_strings_trimRightASCII_j0 call N q) (endK [(.t 4)] q)))
theorem s_strings_trimRightASCII_eq (call : CallK) (N : Nat) (a0 a1 : V) (H : Heap) (τ : Tape) (q : KV) : s_strings_trimRightASCII call N a0 a1 H τ q = funK call N fn_strings_trimRightASCII [a0, a1] H τ q := by kernel_rfl
def e_strings_trimRightASCII (call : CallK) (N : Nat) (vs : List V) (H : Heap) (τ : Tape) (q : KV) : Ans := match vs with | [a0, a1] => s_strings_trimRightASCII call N a0 a1 H τ q | _ => none
theorem e_strings_trimRightASCII_ok : EntOk fn_strings_trimRightASCII e_strings_trimRightASCII := by
  intro call N vs H τ q r h
  unfold e_strings_trimRightASCII at h
  split at h
  · rw [s_strings_trimRightASCII_eq] at h; exact h
  · cases h
theorem e_strings_trimRightASCII_nat : EntNat e_strings_trimRightASCII := by
  intro c hn N vs H τ q
  unfold e_strings_trimRightASCII
  split
  · rw [s_strings_trimRightASCII_eq, s_strings_trimRightASCII_eq]; exact funK_ent hn _ _ _ _ _ _
  · rfl
/-- strings.trimLeftUnicode -/
def fn_strings_trimLeftUnicode : Fun := ⟨2,(.seq (.reg [iR 4 (.p .mv) [(.c (.str []))]]) (iK [0,1] (.seq (.block 0 (.loop (iK [0,1] (.seq (.seq (.reg [iM 7 0,iR 8 (.p .lenS) [(.t 7)],iR 9 (iB .gtr) [(.t 8),(iC 0)]]) (iK [0,1,9] (.cond (.t 9) .skip (iK [0] (.exit 0))))) (iK [0,1] (.block 1 (.seq (.reg [iM 11 0,iR 12 (.call 172) [(.t 11)],iM 10 12,iR 13 (.p (.extract 0)) [(.t 10)],iR 14 (.p (.extract 1)) [(.t 10)],iM 5 13,iM 6 14]) (iK [0,1,5,6] (.seq (.seq (.reg [iM 15 1,iM 16 5,iR 17 (.call 173) [(.t 15),(.t 16)],iR 18 (.p (.un .not)) [(.t 17)]]) (iK [0,1,6,18] (.cond (.t 18) (iK [0] (.exit 0)) .skip))) (iK [0,1,6] (.reg [iM 19 0,iM 20 6,
    iR 21 (.p (.strSlice true false)) [(.t 19),(.t 20)],iM 0 21]))))))))))) (iK [0] (.seq (.reg [iM 22 0,iM 4 22]) (iK [4] (iK [4] .ret))))))),[(.t 4)]⟩
/-- strings.trimRightUnicode -/
def fn_strings_trimRightUnicode : Fun := ⟨2,(.seq (.reg [iR 4 (.p .mv) [(.c (.str []))]]) (iK [0,1] (.seq (.block 0 (.loop (iK [0,1] (.seq (.seq (.reg [iM 7 0,iR 8 (.p .lenS) [(.t 7)],iR 9 (iB .gtr) [(.t 8),(iC 0)]]) (iK [0,1,9] (.cond (.t 9) .skip (iK [0] (.exit 0))))) (iK [0,1] (.block 1 (.seq (.reg [iM 10 0,iM 11 0,iR 12 (.p .lenS) [(.t 11)],iR 13 (iB .sub) [(.t 12),(iC 1)],iR 14 (.p .strIndex) [(.t 10),(.t 13)],iR 15 (.p (.toInt .i32)) [(.t 14)],iM 5 15,iR 6 (.p .mv) [(iC 1)]]) (iK [0,1,5,6] (.seq (.seq (.reg [iM 16 5,iR 17 (iB .geq) [(.t 16),(.c (.int .i32 (.ofNat 128)))]]) (iK [0,1,5,6,17] (.cond (.t 17) (.reg [iM 19 0,iR 20 (.call 174) [(.t 19)],
    iM 18 20,iR 21 (.p (.extract 0)) [(.t 18)],iR 22 (.p (.extract 1)) [(.t 18)],iM 5 21,iM 6 22]) .skip))) (iK [0,1,5,6] (.seq (.seq (.reg [iM 23 1,iM 24 5,iR 25 (.call 173) [(.t 23),(.t 24)],iR 26 (.p (.un .not)) [(.t 25)]]) (iK [0,1,6,26] (.cond (.t 26) (iK [0] (.exit 0)) .skip))) (iK [0,1,6] (.reg [iM 27 0,iM 28 0,iR 29 (.p .lenS) [(.t 28)],iM 30 6,iR 31 (iB .sub) [(.t 29),(.t 30)],iR 32 (.p (.strSlice false true)) [(.t 27),(.t 31)],iM 0 32]))))))))))))) (iK [0] (.seq (.reg [iM 33 0,iM 4 33]) (iK [4] (iK [4] .ret))))))),[(.t 4)]⟩
/-- internal/strconv.Itoa -/
def fn_strconv_Itoa_n146 : Fun := ⟨1,(.seq (.reg [iR 2 (.p .mv) [(.c (.str []))]]) (iK [0] (.seq (.reg [iM 3 0,iR 4 (.call 176) [(.t 3),(iC 10)],iM 2 4]) (iK [2] (iK [2] .ret))))),[(.t 2)]⟩
/-- math/bits.Len64 -/
def fn_bits_Len64 : Fun := ⟨1,(.seq (.reg [iR 2 (.p .mv) [(iC 0)]]) (iK [0,2] (.seq (.seq (.reg [iM 3 0,iR 4 (iB .geq) [(.t 3),(.c (.int .u64 (.ofNat 4294967296)))]]) (iK [0,2,4] (.cond (.t 4) (.seq (.reg [iM 5 0,iR 6 (iB .shr) [(.t 5),(.c (.int .u64 (.ofNat 32)))],iM 0 6]) (iK [0] (.reg [iR 2 (.p .mv) [(iC 32)]]))) .skip))) (iK [0,2] (.seq (.seq (.reg [iM 7 0,iR 8 (iB .geq) [(.t 7),(.c (.int .u64 (.ofNat 65536)))]]) (iK [0,2,8] (.cond (.t 8) (.seq (.reg [iM 9 0,iR 10 (iB .shr) [(.t 9),(.c (.int .u64 (.ofNat 16)))],iM 0 10]) (iK [0,2] (.reg [iM 11 2,iR 12 (iB .add) [(.t 11),(iC 16)],iM 2 12]))) .skip)))
    (iK [0,2] (.seq (.seq (.reg [iM 13 0,iR 14 (iB .geq) [(.t 13),(.c (.int .u64 (.ofNat 256)))]]) (iK [0,2,14] (.cond (.t 14) (.seq (.reg [iM 15 0,iR 16 (iB .shr) [(.t 15),(.c (.int .u64 (.ofNat 8)))],iM 0 16]) (iK [0,2] (.reg [iM 17 2,iR 18 (iB .add) [(.t 17),(iC 8)],iM 2 18]))) .skip))) (iK [0,2] (.seq (.reg [iM 19 2,iM 20 0,iR 21 (.p (.toInt .u8)) [(.t 20)],
    iR 22 (.p .strIndex) [(.c (.str (bs [0,1,2,2,3,3,3,3,4,4,4,4,4,4,4,4,5,5,5,5,5,5,5,5,5,5,5,5,5,5,5,5,6,6,6,6,6,6,6,6,6,6,6,6,6,6,6,6,6,6,6,6,6,6,6,6,6,6,6,6,6,6,6,6,7,7,7,7,7,7,7,7,7,7,7,7,7,7,7,7,7,7,7,7,7,7,7,7,7,7,7,7,7,7,7,7,7,7,7,7,7,7,7,7,7,7,7,7,7,7,7,7,7,7,7,7,7,7,7,7,7,7,7,7,7,7,7,7,8,8,8,8,8,8,8,8,8,8,8,8,8,8,8,8,8,8,8,8,8,8,8,8,8,8,8,8,8,8,8,8,8,8,8,8,8,8,8,8,8,8,8,8,8,8,8,8,8,8,8,8,8,8,8,8,8,8,8,8,8,8,8,8,8,8,8,8,8,8,8,8,8,8,8,8,8,8,8,8,8,8,8,8,8,8,8,8,8,8,8,8,8,8,8,8,8,8,8,8,8,8,8,8,8,8,8,8,8,8,8,8,8,8,8,8,8,8,8,8,8,8,8,8,8,8,8,8]))),(.t 21)],iR 23 (.p (.toInt .i64)) [(.t 22)],
    iR 24 (iB .add) [(.t 19),(.t 23)],iM 2 24]) (iK [2] (iK [2] .ret))))))))))),[(.t 2)]⟩
/-- ostiary/ostiaryref1.Percent -/
def fn_ref1_Percent : Fun := ⟨2,(.seq (.reg [iR 4 (.p .mv) [(.c (.str []))]]) (iK [0,1] (.seq (.reg [iR 5 (.p .mv) [(.c (.str []))]]) (iK [0,1,5] (.seq (.seq (.reg [iR 6 (.p .mv) [(iC 0)]]) (iK [0,1,5,6] (.block 0 (.loop (iK [0,1,5,6] (.seq (.seq (.reg [iM 7 6,iM 8 0,iR 9 (.p .lenS) [(.t 8)],iR 10 (iB .lss) [(.t 7),(.t 9)]]) (iK [0,1,5,6,10] (.cond (.t 10) .skip (iK [5] (.exit 0))))) (iK [0,1,5,6] (.seq (.block 1 (.seq (.reg [iM 13 0,iM 14 6,iR 15 (.p .strIndex) [(.t 13),(.t 14)],iM 16 1,iR 17 (.call 185) [(.t 15),(.t 16)]]) (iK [0,1,5,6,17] (.cond (.t 17) (.reg [iM 18 5,iM 19 0,iM 20 6,iR 21 (.p .strIndex) [(.t 19),(.t 20)],iR 22 (.call 186) [(.t 21)],
    iR 23 (iB .add) [(.t 18),(.t 22)],iM 5 23]) (.reg [iM 24 5,iM 25 0,iM 26 6,iM 27 6,iR 28 (iB .add) [(.t 27),(iC 1)],iR 29 (.p (.strSlice true true)) [(.t 25),(.t 26),(.t 28)],iR 30 (iB .add) [(.t 24),(.t 29)],iM 5 30]))))) (iK [0,1,5,6] (.reg [iM 11 6,iR 12 (iB .add) [(.t 11),(iC 1)],iM 6 12])))))))))) (iK [5] (.seq (.reg [iM 31 5,iM 4 31]) (iK [4] (iK [4] .ret))))))))),[(.t 4)]⟩
/-- ostiary/ostiaryref3.far -/
def fn_ref3_far : Fun := ⟨2,(.seq (.reg [iR 4 (.p .mv) [(iC 0)]]) (iK [0,1] (.seq (.reg [iM 9 1,iR 10 (.call 166) [(.t 9),(iU 47),(iU 63)],iM 8 10,iR 11 (.p (.extract 0)) [(.t 8)],iR 12 (.p (.extract 1)) [(.t 8)],iM 5 11,iM 6 12]) (iK [0,5,6] (.seq (.reg [iM 13 0,iM 14 5,iR 15 (.call 187) [(.t 13),(.t 14)],iM 7 15]) (iK [0,6,7] (.seq (.seq (.reg [iM 16 7,iR 17 (iB .neq) [(.t 16),(iC 0)]]) (iK [0,6,7,17] (.cond (.t 17) (.seq (.reg [iM 18 7,iM 4 18]) (iK [4] (iK [4] .ret))) .skip))) (iK [0,6] (.seq (.reg [iM 19 0,iM 20 6,iR 21 (.call 165) [(.t 19),(.t 20)]])
    (iK [] (.seq (.reg [iR 4 (.p .mv) [(iC 0)]]) (iK [4] (iK [4] .ret))))))))))))),[(.t 4)]⟩
/-- ostiary/ostiaryref3.over -/
def fn_ref3_over : Fun := ⟨1,(.seq (.reg [iR 2 (.p .mv) [(.c (.str []))]]) (iK [0] (.seq (.block 0 (.loop (iK [0] (.seq (.seq (.reg [iM 3 0,iR 4 (.p .lenS) [(.t 3)],iR 5 (iB .gtr) [(.t 4),(iC 0)],iM 6 5,iN 7 6 true 0,iG 8 6 true (.p .strIndex) [(.t 7),(iC 0)],iG 9 6 true (iB .eql) [(.t 8),(iU 47)],iR 10 (.p .pick) [(.t 6),(.t 9),(.c (.bool false))]]) (iK [0,10] (.cond (.t 10) .skip (iK [0] (.exit 0))))) (iK [0] (.block 1 (.reg [iM 11 0,iR 12 (.p (.strSlice true false)) [(.t 11),(iC 1)],iM 0 12]))))))) (iK [0] (.seq (.reg [iM 13 0,iM 2 13]) (iK [2] (iK [2] .ret))))))),[(.t 2)]⟩
/-- ostiary/ostiaryref3.slashes -/
def fn_ref3_slashes : Fun := ⟨1,(.seq (.reg [iR 2 (.p .mv) [(.c (.str []))]]) (iK [0] (.seq (.reg [iM 5 0,iR 6 (.e .strBytes) [(.t 5)],iM 3 6]) (iK [3] (.seq (.seq (.reg [iR 4 (.p .mv) [(iC 0)]]) (iK [3,4] (.block 0 (.loop (iK [3,4] (.seq (.seq (.reg [iM 7 4,iM 8 3,iR 9 (.p .len) [(.t 8)],iR 10 (iB .lss) [(.t 7),(.t 9)],iM 11 10,iN 12 11 true 3,iN 13 11 true 4,iG 14 11 true (.p (.slIdx 1)) [(.t 12),(.t 13)],iG 15 11 true (.l (.load none)) [(.t 14)],iG 16 11 true (iB .neq) [(.t 15),(iU 63)],iR 17 (.p .pick) [(.t 11),(.t 16),(.c (.bool false))]]) (iK [3,4,17] (.cond (.t 17) .skip (iK [3] (.exit 0))))) (iK [3,4] (.seq (.block 1 (.seq (.reg [iM 20 3,
    iM 21 4,iR 22 (.p (.slIdx 1)) [(.t 20),(.t 21)],iR 23 (.l (.load none)) [(.t 22)],iR 24 (iB .eql) [(.t 23),(iU 92)]]) (iK [3,4,24] (.cond (.t 24) (.reg [iM 25 3,iM 26 4,iR 27 (.p (.slIdx 1)) [(.t 25),(.t 26)],⟨none,none,(.e (.store 1)),[(.t 27),(iU 47)],none⟩]) .skip)))) (iK [3,4] (.reg [iM 18 4,iR 19 (iB .add) [(.t 18),(iC 1)],iM 4 19])))))))))) (iK [3] (.seq (.reg [iM 28 3,iR 29 (.l .bytesStr) [(.t 28)],iM 2 29]) (iK [2] (iK [2] .ret))))))))),[(.t 2)]⟩
/-- ostiary/ostiaryref3.rest -/
def fn_ref3_rest : Fun := ⟨2,(.seq (.reg [iM 7 1,iR 8 (.call 166) [(.t 7),(iU 63),(iU 63)],iM 6 8,iR 9 (.p (.extract 0)) [(.t 6)],iR 10 (.p (.extract 1)) [(.t 6)],iM 4 9,iM 5 10]) (iK [0,1,4] (.seq (.reg [iM 11 0,iM 12 1,iR 13 (.call 167) [(.t 11),(.t 12)]]) (iK [0,4] (.block 0 (.seq (.reg [iM 20 4,iR 21 (iB .eql) [(.t 20),(.c (.str []))],iM 22 21,iN 23 22 true 0,iG 24 22 true (.p .nilck) [(.t 23)],iG 25 22 true (.p (.fieldAddr 0)) [(.t 24)],iG 26 22 true (.l (.load none)) [(.t 25)],iG 27 22 true (.call 90) [(.t 26)],iR 28 (.p .pick) [(.t 22),(.t 27),(.c (.bool false))],iM 19 28]) (iK [0,4,19] (.cond (.t 19) (.reg [iM 29 0,
    iR 30 (.e (.buildSlice 1 1 [(.str [])] [(0,1)])) [(.c (.str []))],iR 31 (.p .nilck) [(.t 29)],iR 32 (.p (.fieldAddr 7)) [(.t 31)],⟨none,none,(.e (.store 1)),[(.t 32),(.t 30)],none⟩]) (.seq (.reg [iM 34 4,iR 35 (iB .eql) [(.t 34),(.c (.str []))],iM 33 35]) (iK [0,4,33] (.cond (.t 33) (.reg [iM 36 0,iR 37 (.p .nilck) [(.t 36)],iR 38 (.p (.fieldAddr 7)) [(.t 37)],⟨none,none,(.e (.store 1)),[(.t 38),(.c .nils)],none⟩]) (.seq (.reg [iM 40 4,iR 41 (.p .strIndex) [(.t 40),(iC 0)],iR 42 (iB .eql) [(.t 41),(iU 47)],iM 39 42]) (iK [0,4,39] (.cond (.t 39) (.reg [iM 43 0,iM 44 4,iR 45 (.p (.strSlice true false)) [(.t 44),(iC 1)],
    iR 46 (.call 188) [(.c .nils),(.t 45)],iR 47 (.p .nilck) [(.t 43)],iR 48 (.p (.fieldAddr 7)) [(.t 47)],⟨none,none,(.e (.store 1)),[(.t 48),(.t 46)],none⟩]) (.reg [iM 14 0,iM 15 4,iR 16 (.call 188) [(.c .nils),(.t 15)],iR 17 (.p .nilck) [(.t 14)],iR 18 (.p (.fieldAddr 7)) [(.t 17)],⟨none,none,(.e (.store 1)),[(.t 18),(.t 16)],none⟩]))))))))))))))),[]⟩
end Go.Am.X
