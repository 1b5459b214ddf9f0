/- The abstract machine, printed functions of the program, and what they are shown to be. -/
import Derived.Test.YtbkhmjpamfepbaaDoorARM3
import Derived.KernelRfl
namespace Go.Am.X
set_option maxRecDepth 1000000
set_option linter.unusedVariables false
abbrev iR (n : Nat) (o : AOp) (a : List O) : Ins := ⟨some n, none, o, a, none⟩
abbrev iG (n g : Nat) (b : Bool) (o : AOp) (a : List O) : Ins := ⟨some n, some (g, b), o, a, none⟩
abbrev f_law16_AgeReckons : Nat := 10
abbrev f_keep_Few : Nat := 14
abbrev f_keep_FewHeaders : Nat := 30
abbrev f_age_Age : Nat := 31
abbrev f_age_Fresh : Nat := 32
abbrev f_age_Add : Nat := 33
abbrev f_law16_known : Nat := 34
abbrev f_law16_cc : Nat := 36
abbrev f_age_Vary : Nat := 37
abbrev f_book_Same_string : Nat := 38
abbrev f_age_Parse : Nat := 39
abbrev f_ref16_Parse : Nat := 40
abbrev f_ref16_Vary : Nat := 41
abbrev f_ref16_Add : Nat := 42
abbrev f_ref16_Age : Nat := 43
abbrev f_ref16_Fresh : Nat := 44
abbrev f_strings_ContainsRune : Nat := 61
abbrev f_strings_Cut : Nat := 62
abbrev f_ref1_Part : Nat := 65
abbrev f_headers_Get : Nat := 80
abbrev f_infra_Int : Nat := 81
abbrev f_infra_Strip : Nat := 82
abbrev f_age_since : Nat := 83
abbrev f_headers_Split : Nat := 84
abbrev f_infra_Lower : Nat := 85
abbrev f_slices_Sort_string : Nat := 86
abbrev f_slices_Contains_string : Nat := 87
abbrev f_slices_Compact_string : Nat := 88
abbrev f_age_piece : Nat := 89
abbrev f_ref5_Split : Nat := 90
abbrev f_ref1_Strip : Nat := 91
abbrev f_ref1_Lower : Nat := 92
abbrev f_ref1_Int : Nat := 93
abbrev f_ref1_Sorted : Nat := 94
abbrev f_ref5_Get : Nat := 95
abbrev f_strings_IndexRune : Nat := 102
abbrev f_stringslite_Cut : Nat := 103
abbrev f_ref1_Blank : Nat := 104
abbrev f_strings_IndexByte : Nat := 105
abbrev f_headers_is : Nat := 113
abbrev f_strings_Join : Nat := 114
abbrev f_strings_Trim : Nat := 115
abbrev f_infra_mapped : Nat := 116
abbrev f_infra_Lower_1 : Nat := 117
abbrev f_slices_Index_string : Nat := 120
abbrev f_ref1_Trim : Nat := 121
abbrev f_ref1_Digit : Nat := 122
abbrev f_ref5_Named : Nat := 123
abbrev f_utf8_ValidRune : Nat := 127
abbrev f_bytealg_Cutover : Nat := 128
abbrev f_stringslite_Index : Nat := 130
abbrev f_stringslite_IndexByte : Nat := 131
abbrev f_strings_trimLeftByte : Nat := 141
abbrev f_strings_trimRightByte : Nat := 142
abbrev f_strings_makeASCIISet : Nat := 143
abbrev f_strings_trimLeftASCII : Nat := 144
abbrev f_strings_trimRightASCII : Nat := 145
abbrev f_strings_trimLeftUnicode : Nat := 146
abbrev f_strings_trimRightUnicode : Nat := 147
abbrev f_ref1_ends : Nat := 159
abbrev f_bytealg_IndexRabinKarp_string : Nat := 162
abbrev f_asciiSet_contains : Nat := 175
abbrev f_utf8_DecodeRuneInString : Nat := 176
abbrev f_utf8_DecodeLastRuneInString : Nat := 177
abbrev f_bytealg_hashStr_string : Nat := 186
abbrev f_utf8_decodeRuneInStringSlow : Nat := 195
abbrev f_utf8_RuneStart : Nat := 196
/-- ostiary/ostiarylaw16.AgeReckons -/
def fn_law16_AgeReckons : Fun := ⟨5, (.seq (.reg [iR 10 (.p .mv) [(.c (.bool false))]]) (.keep [0, 1, 2, 3, 4] (.seq (.reg [iR 17 (.p .mv) [(.t 0)], iR 18 (.call 30) [(.t 17), (.c (.int .i64 (.ofNat 10))), (.c (.int .i64 (.ofNat 200)))], iR 0 (.p .mv) [(.t 18)]]) (.keep [0, 1, 2, 3, 4] (.seq (.reg [iR 19 (.p .mv) [(.t 0)], iR 20 (.call 39) [(.t 19)], iR 11 (.e (.alloc [(.bool false), (.bool false), (.int .i64 (.ofNat 0))])) [], ⟨none, none, (.e (.store 3)), [(.t 11), (.t 20)], none⟩]) (.keep [0, 1, 2, 3, 4, 11] (.seq (.reg [iR 21 (.p .mv) [(.t 0)], iR 22 (.call 40) [(.t 21)], iR 12 (.e (.alloc [(.bool false), (.bool false), (.int .i64 (.ofNat 0))])) [], ⟨none, none, (.e (.store 3)), [(.t 12), (.t 22)], none⟩]) (.keep [0, 1, 2, 3, 4, 11, 12] (.seq (.reg [iR 24 (.p .mv) [(.t 0)], iR 25 (.call 37) [(.t 24)], iR 23 (.p .mv) [(.t 25)], iR 26 (.p (.extract 0)) [(.t 23)],
    iR 27 (.p (.extract 1)) [(.t 23)], iR 13 (.p .mv) [(.t 26)], iR 14 (.p .mv) [(.t 27)]]) (.keep [0, 1, 2, 3, 4, 11, 12, 13, 14] (.seq (.reg [iR 29 (.p .mv) [(.t 0)], iR 30 (.call 41) [(.t 29)], iR 28 (.p .mv) [(.t 30)], iR 31 (.p (.extract 0)) [(.t 28)], iR 32 (.p (.extract 1)) [(.t 28)], iR 15 (.p .mv) [(.t 31)], iR 16 (.p .mv) [(.t 32)]]) (.keep [0, 1, 2, 3, 4, 11, 12, 13, 14, 15, 16] (.seq (.reg [iR 33 (.l (.load (some 3))) [(.t 11)], iR 34 (.p (.fieldAddr 0)) [(.t 12)], iR 35 (.l (.load none)) [(.t 34)], iR 36 (.p (.fieldAddr 1)) [(.t 12)], iR 37 (.l (.load none)) [(.t 36)], iR 38 (.p (.fieldAddr 2)) [(.t 12)], iR 39 (.l (.load none)) [(.t 38)], iR 40 (.p (.build [(.bool false), (.bool false), (.int .i64 (.ofNat 0))] [(0, 1), (1, 1), (2, 1)])) [(.t 35), (.t 37), (.t 39)], iR 41 (.p (.eq false (.flat [.bool, .bool, .int]))) [(.t 33), (.t 40)], iR 42 (.p .mv) [(.t 41)],
    iG 43 42 true (.p .mv) [(.t 3)], iG 44 42 true (.p .mv) [(.t 4)], iG 45 42 true (.call 33) [(.t 43), (.t 44)], iG 46 42 true (.p .mv) [(.t 3)], iG 47 42 true (.p .mv) [(.t 4)], iG 48 42 true (.call 42) [(.t 46), (.t 47)], iG 49 42 true (.p (.bin .eql)) [(.t 45), (.t 48)], iR 50 (.p .pick) [(.t 42), (.t 49), (.c (.bool false))], iR 51 (.p .mv) [(.t 50)], iG 52 51 true (.p .mv) [(.t 0)], iG 53 51 true (.p .mv) [(.t 1)], iG 54 51 true (.p .mv) [(.t 2)], iG 55 51 true (.call 31) [(.t 52), (.t 53), (.t 54)], iG 56 51 true (.p .mv) [(.t 0)], iG 57 51 true (.p .mv) [(.t 1)], iG 58 51 true (.p .mv) [(.t 2)], iG 59 51 true (.call 43) [(.t 56), (.t 57), (.t 58)], iG 60 51 true (.p (.bin .eql)) [(.t 55), (.t 59)], iR 61 (.p .pick) [(.t 51), (.t 60), (.c (.bool false))], iR 62 (.p .mv) [(.t 61)], iG 63 62 true (.p .mv) [(.t 0)], iG 64 62 true (.p .mv) [(.t 1)],
    iG 65 62 true (.p .mv) [(.t 2)], iG 66 62 true (.call 32) [(.t 63), (.t 64), (.t 65)], iG 67 62 true (.p .mv) [(.t 0)], iG 68 62 true (.p .mv) [(.t 1)], iG 69 62 true (.p .mv) [(.t 2)], iG 70 62 true (.call 44) [(.t 67), (.t 68), (.t 69)], iG 71 62 true (.p (.eq false .bool)) [(.t 66), (.t 70)], iR 72 (.p .pick) [(.t 62), (.t 71), (.c (.bool false))], iR 73 (.p .mv) [(.t 72)], iG 74 73 true (.p .mv) [(.t 13)], iG 75 73 true (.p .mv) [(.t 15)], iG 76 73 true (.call 38) [(.t 74), (.t 75)], iR 77 (.p .pick) [(.t 73), (.t 76), (.c (.bool false))], iR 78 (.p .mv) [(.t 77)], iG 79 78 true (.p .mv) [(.t 14)], iG 80 78 true (.p .mv) [(.t 16)], iG 81 78 true (.p (.eq false .bool)) [(.t 79), (.t 80)], iR 82 (.p .pick) [(.t 78), (.t 81), (.c (.bool false))], iR 83 (.p .mv) [(.t 82)], iG 84 83 true (.call 34) [], iR 85 (.p .pick) [(.t 83), (.t 84), (.c (.bool false))],
    iR 10 (.p .mv) [(.t 85)]]) (.keep [10] (.keep [10] .ret))))))))))))))), [(.t 10)]⟩
def s_law16_AgeReckons (call : CallK) (N : Nat) (a0 a1 a2 a3 a4 : V) (H : Heap) (τ : Tape) (q : KV) : Ans := call f_keep_FewHeaders [a0, (.int .i64 (.ofNat 10)), (.int .i64 (.ofNat 200))] H τ fun v0 H1 τ2 => call f_age_Parse [v0] H1 τ2 fun v3 H4 τ5 => effK (eAlloc [(.bool false), (.bool false), (.int .i64 (.ofNat 0))] [] H4 τ5) fun v6 H7 τ8 => effK (eStore 3 [v6, v3] H7 τ8) fun v9 H10 τ11 => call f_ref16_Parse [v0] H10 τ11 fun v12 H13 τ14 => effK (eAlloc [(.bool false), (.bool false), (.int .i64 (.ofNat 0))] [] H13 τ14) fun v15 H16 τ17 => effK (eStore 3 [v15, v12] H16 τ17) fun v18 H19 τ20 => call f_age_Vary [v0] H19 τ20 fun v21 H22 τ23 => someK (pExtract 0 [v21]) fun v24 => someK (pExtract 1 [v21]) fun v25 => call f_ref16_Vary [v0] H22 τ23 fun v26 H27 τ28 => someK (pExtract 0 [v26]) fun v29 => someK (pExtract 1 [v26]) fun v30 => someK (lLoadN 3 [v6] H27) fun v31 =>
    someK (pFieldAddr 0 [v15]) fun v32 => someK (lLoad1 [v32] H27) fun v33 => someK (pFieldAddr 1 [v15]) fun v34 => someK (lLoad1 [v34] H27) fun v35 => someK (pFieldAddr 2 [v15]) fun v36 => someK (lLoad1 [v36] H27) fun v37 => someK (pBuild [(.bool false), (.bool false), (.int .i64 (.ofNat 0))] [(0, 1), (1, 1), (2, 1)] [v33, v35, v37]) fun v38 => someK (pEq false (.flat [.bool, .bool, .int]) [v31, v38]) fun v39 => gK v39 true (fun q' => q' a3 H27 τ28) H27 τ28 fun v40 H41 τ42 => gK v39 true (fun q' => q' a4 H41 τ42) H41 τ42 fun v43 H44 τ45 => gK v39 true (fun q' => call f_age_Add [v40, v43] H44 τ45 q') H44 τ45 fun v46 H47 τ48 => gK v39 true (fun q' => q' a3 H47 τ48) H47 τ48 fun v49 H50 τ51 => gK v39 true (fun q' => q' a4 H50 τ51) H50 τ51 fun v52 H53 τ54 => gK v39 true (fun q' => call f_ref16_Add [v49, v52] H53 τ54 q') H53 τ54 fun v55 H56 τ57 =>
    gK v39 true (fun q' => binK .eql v46 v55 fun v => q' v H56 τ57) H56 τ57 fun v58 H59 τ60 => someK (pPick [v39, v58, (.bool false)]) fun v61 => gK v61 true (fun q' => q' v0 H59 τ60) H59 τ60 fun v62 H63 τ64 => gK v61 true (fun q' => q' a1 H63 τ64) H63 τ64 fun v65 H66 τ67 => gK v61 true (fun q' => q' a2 H66 τ67) H66 τ67 fun v68 H69 τ70 => gK v61 true (fun q' => call f_age_Age [v62, v65, v68] H69 τ70 q') H69 τ70 fun v71 H72 τ73 => gK v61 true (fun q' => q' v0 H72 τ73) H72 τ73 fun v74 H75 τ76 => gK v61 true (fun q' => q' a1 H75 τ76) H75 τ76 fun v77 H78 τ79 => gK v61 true (fun q' => q' a2 H78 τ79) H78 τ79 fun v80 H81 τ82 => gK v61 true (fun q' => call f_ref16_Age [v74, v77, v80] H81 τ82 q') H81 τ82 fun v83 H84 τ85 => gK v61 true (fun q' => binK .eql v71 v83 fun v => q' v H84 τ85) H84 τ85 fun v86 H87 τ88 => someK (pPick [v61, v86, (.bool false)]) fun v89 =>
    gK v89 true (fun q' => q' v0 H87 τ88) H87 τ88 fun v90 H91 τ92 => gK v89 true (fun q' => q' a1 H91 τ92) H91 τ92 fun v93 H94 τ95 => gK v89 true (fun q' => q' a2 H94 τ95) H94 τ95 fun v96 H97 τ98 => gK v89 true (fun q' => call f_age_Fresh [v90, v93, v96] H97 τ98 q') H97 τ98 fun v99 H100 τ101 => gK v89 true (fun q' => q' v0 H100 τ101) H100 τ101 fun v102 H103 τ104 => gK v89 true (fun q' => q' a1 H103 τ104) H103 τ104 fun v105 H106 τ107 => gK v89 true (fun q' => q' a2 H106 τ107) H106 τ107 fun v108 H109 τ110 => gK v89 true (fun q' => call f_ref16_Fresh [v102, v105, v108] H109 τ110 q') H109 τ110 fun v111 H112 τ113 => gK v89 true (fun q' => someK (pEq false .bool [v99, v111]) fun v => q' v H112 τ113) H112 τ113 fun v114 H115 τ116 => someK (pPick [v89, v114, (.bool false)]) fun v117 => gK v117 true (fun q' => q' v24 H115 τ116) H115 τ116 fun v118 H119 τ120 =>
    gK v117 true (fun q' => q' v29 H119 τ120) H119 τ120 fun v121 H122 τ123 => gK v117 true (fun q' => call f_book_Same_string [v118, v121] H122 τ123 q') H122 τ123 fun v124 H125 τ126 => someK (pPick [v117, v124, (.bool false)]) fun v127 => gK v127 true (fun q' => q' v25 H125 τ126) H125 τ126 fun v128 H129 τ130 => gK v127 true (fun q' => q' v30 H129 τ130) H129 τ130 fun v131 H132 τ133 => gK v127 true (fun q' => someK (pEq false .bool [v128, v131]) fun v => q' v H132 τ133) H132 τ133 fun v134 H135 τ136 => someK (pPick [v127, v134, (.bool false)]) fun v137 => gK v137 true (fun q' => call f_law16_known [] H135 τ136 q') H135 τ136 fun v138 H139 τ140 => someK (pPick [v137, v138, (.bool false)]) fun v141 => q v141 H139 τ140
theorem s_law16_AgeReckons_eq (call : CallK) (N : Nat) (a0 a1 a2 a3 a4 : V) (H : Heap) (τ : Tape) (q : KV) : s_law16_AgeReckons call N a0 a1 a2 a3 a4 H τ q = funK call N fn_law16_AgeReckons [a0, a1, a2, a3, a4] H τ q := by kernel_rfl
def e_law16_AgeReckons (call : CallK) (N : Nat) (vs : List V) (H : Heap) (τ : Tape) (q : KV) : Ans := match vs with | [a0, a1, a2, a3, a4] => s_law16_AgeReckons call N a0 a1 a2 a3 a4 H τ q | _ => none
theorem e_law16_AgeReckons_ok : EntOk fn_law16_AgeReckons e_law16_AgeReckons := by
  intro call N vs H τ q r h
  unfold e_law16_AgeReckons at h
  split at h
  · rw [s_law16_AgeReckons_eq] at h; exact h
  · cases h
theorem e_law16_AgeReckons_nat : EntNat e_law16_AgeReckons := by
  intro c hn N vs H τ q
  unfold e_law16_AgeReckons
  split
  · rw [s_law16_AgeReckons_eq, s_law16_AgeReckons_eq]; exact funK_ent hn _ _ _ _ _ _
  · rfl
/-- ostiary/ostiarykeep.Few -/
def fn_keep_Few : Fun := ⟨2, (.seq (.reg [iR 4 (.p .mv) [(.c (.str []))]]) (.keep [0, 1] (.seq (.seq (.reg [iR 5 (.p .mv) [(.t 0)], iR 6 (.p .lenS) [(.t 5)], iR 7 (.p .mv) [(.t 1)], iR 8 (.p (.bin .gtr)) [(.t 6), (.t 7)]]) (.keep [0, 1, 8] (.cond (.t 8) (.seq (.reg [iR 9 (.p .mv) [(.t 0)], iR 10 (.p .mv) [(.t 1)], iR 11 (.p (.strSlice false true)) [(.t 9), (.t 10)], iR 4 (.p .mv) [(.t 11)]]) (.keep [4] (.keep [4] .ret))) .skip))) (.keep [0] (.seq (.reg [iR 12 (.p .mv) [(.t 0)], iR 4 (.p .mv) [(.t 12)]]) (.keep [4] (.keep [4] .ret))))))), [(.t 4)]⟩
def s_keep_Few (call : CallK) (N : Nat) (a0 a1 : V) (H : Heap) (τ : Tape) (q : KV) : Ans := someK (pLenS [a0]) fun v0 => binK .gtr v0 a1 fun v1 => condK v1 (someK (pStrSlice false true [a0, a1]) fun v2 => q v2 H τ) (q a0 H τ)
theorem s_keep_Few_eq (call : CallK) (N : Nat) (a0 a1 : V) (H : Heap) (τ : Tape) (q : KV) : s_keep_Few call N a0 a1 H τ q = funK call N fn_keep_Few [a0, a1] H τ q := by kernel_rfl
def e_keep_Few (call : CallK) (N : Nat) (vs : List V) (H : Heap) (τ : Tape) (q : KV) : Ans := match vs with | [a0, a1] => s_keep_Few call N a0 a1 H τ q | _ => none
theorem e_keep_Few_ok : EntOk fn_keep_Few e_keep_Few := by
  intro call N vs H τ q r h
  unfold e_keep_Few at h
  split at h
  · rw [s_keep_Few_eq] at h; exact h
  · cases h
theorem e_keep_Few_nat : EntNat e_keep_Few := by
  intro c hn N vs H τ q
  unfold e_keep_Few
  split
  · rw [s_keep_Few_eq, s_keep_Few_eq]; exact funK_ent hn _ _ _ _ _ _
  · rfl
/-- ostiary/ostiarykeep.FewHeaders -/
def fn_keep_FewHeaders : Fun := ⟨3, (.seq (.reg [iR 6 (.p .mv) [(.c .nils)]]) (.keep [0, 1, 2] (.seq (.reg [iR 7 (.p .mv) [(.c .nils)]]) (.keep [0, 1, 2, 7] (.seq (.seq (.reg [iR 8 (.p .mv) [(.c (.int .i64 (.ofNat 0)))]]) (.keep [0, 1, 2, 7, 8] (.block 0 (.loop (.keep [0, 1, 2, 7, 8] (.seq (.seq (.reg [iR 9 (.p .mv) [(.t 8)], iR 10 (.p .mv) [(.t 0)], iR 11 (.p .len) [(.t 10)], iR 12 (.p (.bin .lss)) [(.t 9), (.t 11)], iR 13 (.p .mv) [(.t 12)], iG 14 13 true (.p .mv) [(.t 8)], iG 15 13 true (.p .mv) [(.t 1)], iG 16 13 true (.p (.bin .lss)) [(.t 14), (.t 15)], iR 17 (.p .pick) [(.t 13), (.t 16), (.c (.bool false))]]) (.keep [0, 1, 2, 7, 8, 17] (.cond (.t 17) .skip (.keep [7] (.exit 0))))) (.keep [0, 1, 2, 7, 8] (.seq (.block 1 (.draw [iR 20 (.p .mv) [(.t 7)], iR 21 (.p .mv) [(.t 0)], iR 22 (.p .mv) [(.t 8)], iR 23 (.p (.slIdx 2)) [(.t 21), (.t 22)],
    iR 24 (.p (.fieldAddr 0)) [(.t 23)], iR 25 (.l (.load none)) [(.t 24)], iR 26 (.p .mv) [(.t 2)], iR 27 (.call 14) [(.t 25), (.t 26)], iR 28 (.p .mv) [(.t 0)], iR 29 (.p .mv) [(.t 8)], iR 30 (.p (.slIdx 2)) [(.t 28), (.t 29)], iR 31 (.p (.fieldAddr 1)) [(.t 30)], ⟨(some 32), none, (.l (.load none)), [(.t 31)], some (0, 1)⟩, iR 33 (.p .mv) [(.t 2)], iR 34 (.call 14) [(.t 32), (.t 33)], iR 35 (.p (.build [(.str []), (.str [])] [(0, 1), (1, 1)])) [(.t 27), (.t 34)], iR 36 (.e (.buildSlice 1 2 [(.str []), (.str [])] [(0, 2)])) [(.t 35)], iR 37 (.e (.append 2 32)) [(.t 20), (.t 36)], iR 7 (.p .mv) [(.t 37)]])) (.keep [0, 1, 2, 7, 8] (.reg [iR 18 (.p .mv) [(.t 8)], iR 19 (.p (.bin .add)) [(.t 18), (.c (.int .i64 (.ofNat 1)))], iR 8 (.p .mv) [(.t 19)]])))))))))) (.keep [7] (.seq (.reg [iR 38 (.p .mv) [(.t 7)], iR 6 (.p .mv) [(.t 38)]]) (.keep [6] (.keep [6] .ret))))))))), [(.t 6)]⟩
def s_keep_FewHeaders_j0 (call : CallK) (N : Nat) (q : KV) (st : St) (τ : Tape) : Ans := match st with
  | ⟨fr, H⟩ => getK fr 7 fun t7 => q t7 H τ
def s_keep_FewHeaders_l1 (call : CallK) (N : Nat) (st : St) (τ : Tape) (k : KC) : Ans := match st with
  | ⟨fr, H⟩ => getK fr 0 fun t0 => getK fr 1 fun t1 => getK fr 2 fun t2 => getK fr 7 fun t7 => getK fr 8 fun t8 => someK (pLen [t0]) fun v0 => binK .lss t8 v0 fun v1 => gK v1 true (fun q' => q' t8 H τ) H τ fun v2 H3 τ4 => gK v1 true (fun q' => q' t1 H3 τ4) H3 τ4 fun v5 H6 τ7 => gK v1 true (fun q' => binK .lss v2 v5 fun v => q' v H6 τ7) H6 τ7 fun v8 H9 τ10 => someK (pPick [v1, v8, (.bool false)]) fun v11 => condK v11 (someK (pSlIdx 2 [t0, t8]) fun v12 => someK (pFieldAddr 0 [v12]) fun v13 => someK (lLoad1 [v13] H9) fun v14 => call f_keep_Few [v14, t2] H9 τ10 fun v15 H16 τ17 => someK (pSlIdx 2 [t0, t8]) fun v18 => someK (pFieldAddr 1 [v18]) fun v19 => someK (lLoad1 [v19] H16) fun v20 => call f_keep_Few [v20, t2] H16 τ17 fun v21 H22 τ23 => someK (pBuild [(.str []), (.str [])] [(0, 1), (1, 1)] [v15, v21]) fun v24 =>
    effK (eBuildSlice 1 2 [(.str []), (.str [])] [(0, 2)] [v24] H22 τ23) fun v25 H26 τ27 => effK (eAppend 2 32 [t7, v25] H26 τ27) fun v28 H29 τ30 => bif chkLoads [H9, H16, H22, H26, H29] (((.load none), [v19], 0, 1) :: []) then binK .add t8 (.int .i64 (.ofNat 1)) fun v31 => k .normal ⟨(T.set (T.set (T.set (T.set (T.set (T.set (T.set (T.set .leaf 0 t0) 1 t1) 2 t2) 7 v28) 8 t8) 18 t8) 19 v31) 8 v31), H29⟩ τ30 else none) (k (.exit 0) ⟨(T.set .leaf 7 t7), H9⟩ τ10)
def s_keep_FewHeaders (call : CallK) (N : Nat) (a0 a1 a2 : V) (H : Heap) (τ : Tape) (q : KV) : Ans := loopK (s_keep_FewHeaders_l1 call N) N ⟨(T.set (T.set (T.set (T.set (T.set .leaf 0 a0) 1 a1) 2 a2) 7 .nils) 8 (.int .i64 (.ofNat 0))), H⟩ τ (blockK 0 (seqK (s_keep_FewHeaders_j0 call N q) (endK [(.t 6)] q)))
theorem s_keep_FewHeaders_eq (call : CallK) (N : Nat) (a0 a1 a2 : V) (H : Heap) (τ : Tape) (q : KV) : s_keep_FewHeaders call N a0 a1 a2 H τ q = funK call N fn_keep_FewHeaders [a0, a1, a2] H τ q := by kernel_rfl
def e_keep_FewHeaders (call : CallK) (N : Nat) (vs : List V) (H : Heap) (τ : Tape) (q : KV) : Ans := match vs with | [a0, a1, a2] => s_keep_FewHeaders call N a0 a1 a2 H τ q | _ => none
theorem e_keep_FewHeaders_ok : EntOk fn_keep_FewHeaders e_keep_FewHeaders := by
  intro call N vs H τ q r h
  unfold e_keep_FewHeaders at h
  split at h
  · rw [s_keep_FewHeaders_eq] at h; exact h
  · cases h
theorem e_keep_FewHeaders_nat : EntNat e_keep_FewHeaders := by
  intro c hn N vs H τ q
  unfold e_keep_FewHeaders
  split
  · rw [s_keep_FewHeaders_eq, s_keep_FewHeaders_eq]; exact funK_ent hn _ _ _ _ _ _
  · rfl
/-- ostiary/age.Age -/
def fn_age_Age : Fun := ⟨3, (.seq (.reg [iR 6 (.p .mv) [(.c (.int .i64 (.ofNat 0)))]]) (.keep [0, 1, 2] (.seq (.reg [iR 12 (.p .mv) [(.t 0)], iR 13 (.call 80) [(.t 12), (.c (.str (bs [97, 103, 101])))], iR 11 (.p .mv) [(.t 13)], iR 14 (.p (.extract 0)) [(.t 11)], iR 15 (.p (.extract 1)) [(.t 11)], iR 7 (.p .mv) [(.t 14)], iR 8 (.p .mv) [(.t 15)]]) (.keep [1, 2, 7] (.seq (.reg [iR 17 (.p .mv) [(.t 7)], iR 18 (.call 82) [(.t 17)], iR 19 (.call 81) [(.t 18)], iR 16 (.p .mv) [(.t 19)], iR 20 (.p (.extract 0)) [(.t 16)], iR 21 (.p (.extract 1)) [(.t 16)], iR 9 (.p .mv) [(.t 20)], iR 10 (.p .mv) [(.t 21)]]) (.keep [1, 2, 9] (.seq (.reg [iR 22 (.p .mv) [(.t 9)], iR 23 (.p .mv) [(.t 1)], iR 24 (.p .mv) [(.t 2)], iR 25 (.call 83) [(.t 23), (.t 24)], iR 26 (.call 33) [(.t 22), (.t 25)], iR 6 (.p .mv) [(.t 26)]]) (.keep [6] (.keep [6] .ret))))))))), [(.t 6)]⟩
def s_age_Age (call : CallK) (N : Nat) (a0 a1 a2 : V) (H : Heap) (τ : Tape) (q : KV) : Ans := call f_headers_Get [a0, (.str (bs [97, 103, 101]))] H τ fun v0 H1 τ2 => someK (pExtract 0 [v0]) fun v3 => someK (pExtract 1 [v0]) fun v4 => call f_infra_Strip [v3] H1 τ2 fun v5 H6 τ7 => call f_infra_Int [v5] H6 τ7 fun v8 H9 τ10 => someK (pExtract 0 [v8]) fun v11 => someK (pExtract 1 [v8]) fun v12 => call f_age_since [a1, a2] H9 τ10 fun v13 H14 τ15 => call f_age_Add [v11, v13] H14 τ15 fun v16 H17 τ18 => q v16 H17 τ18
theorem s_age_Age_eq (call : CallK) (N : Nat) (a0 a1 a2 : V) (H : Heap) (τ : Tape) (q : KV) : s_age_Age call N a0 a1 a2 H τ q = funK call N fn_age_Age [a0, a1, a2] H τ q := by kernel_rfl
def e_age_Age (call : CallK) (N : Nat) (vs : List V) (H : Heap) (τ : Tape) (q : KV) : Ans := match vs with | [a0, a1, a2] => s_age_Age call N a0 a1 a2 H τ q | _ => none
theorem e_age_Age_ok : EntOk fn_age_Age e_age_Age := by
  intro call N vs H τ q r h
  unfold e_age_Age at h
  split at h
  · rw [s_age_Age_eq] at h; exact h
  · cases h
theorem e_age_Age_nat : EntNat e_age_Age := by
  intro c hn N vs H τ q
  unfold e_age_Age
  split
  · rw [s_age_Age_eq, s_age_Age_eq]; exact funK_ent hn _ _ _ _ _ _
  · rfl
/-- ostiary/age.Fresh -/
def fn_age_Fresh : Fun := ⟨3, (.seq (.reg [iR 6 (.p .mv) [(.c (.bool false))]]) (.keep [0, 1, 2] (.seq (.reg [iR 8 (.p .mv) [(.t 0)], iR 9 (.call 39) [(.t 8)], iR 7 (.e (.alloc [(.bool false), (.bool false), (.int .i64 (.ofNat 0))])) [], ⟨none, none, (.e (.store 3)), [(.t 7), (.t 9)], none⟩]) (.keep [0, 1, 2, 7] (.seq (.draw [iR 10 (.p (.fieldAddr 1)) [(.t 7)], iR 11 (.l (.load none)) [(.t 10)], iR 12 (.p (.un .not)) [(.t 11)], iR 13 (.p .mv) [(.t 12)], iG 14 13 true (.p (.fieldAddr 2)) [(.t 7)], ⟨(some 15), some (13, true), (.l (.load none)), [(.t 14)], some (0, 1)⟩, iG 16 13 true (.p .mv) [(.t 0)], iG 17 13 true (.p .mv) [(.t 1)], iG 18 13 true (.p .mv) [(.t 2)], iG 19 13 true (.call 31) [(.t 16), (.t 17), (.t 18)], iG 20 13 true (.p (.bin .gtr)) [(.t 15), (.t 19)], iR 21 (.p .pick) [(.t 13), (.t 20), (.c (.bool false))], iR 6 (.p .mv) [(.t 21)]]) (.keep [6] (.keep [6] .ret))))))),
    [(.t 6)]⟩
def s_age_Fresh (call : CallK) (N : Nat) (a0 a1 a2 : V) (H : Heap) (τ : Tape) (q : KV) : Ans := call f_age_Parse [a0] H τ fun v0 H1 τ2 => effK (eAlloc [(.bool false), (.bool false), (.int .i64 (.ofNat 0))] [] H1 τ2) fun v3 H4 τ5 => effK (eStore 3 [v3, v0] H4 τ5) fun v6 H7 τ8 => someK (pFieldAddr 1 [v3]) fun v9 => someK (lLoad1 [v9] H7) fun v10 => unK .not v10 fun v11 => gK v11 true (fun q' => someK (pFieldAddr 2 [v3]) fun v => q' v H7 τ8) H7 τ8 fun v12 H13 τ14 => gK v11 true (fun q' => someK (lLoad1 [v12] H13) fun v => q' v H13 τ14) H13 τ14 fun v15 H16 τ17 => gK v11 true (fun q' => q' a0 H16 τ17) H16 τ17 fun v18 H19 τ20 => gK v11 true (fun q' => q' a1 H19 τ20) H19 τ20 fun v21 H22 τ23 => gK v11 true (fun q' => q' a2 H22 τ23) H22 τ23 fun v24 H25 τ26 => gK v11 true (fun q' => call f_age_Age [v18, v21, v24] H25 τ26 q') H25 τ26 fun v27 H28 τ29 =>
    gK v11 true (fun q' => binK .gtr v15 v27 fun v => q' v H28 τ29) H28 τ29 fun v30 H31 τ32 => someK (pPick [v11, v30, (.bool false)]) fun v33 => bif chkLoads [H7, H28] (match wantsV v11 true with | some true => (((.load none), [v12], 0, 1) :: []) | _ => []) then q v33 H31 τ32 else none
theorem s_age_Fresh_eq (call : CallK) (N : Nat) (a0 a1 a2 : V) (H : Heap) (τ : Tape) (q : KV) : s_age_Fresh call N a0 a1 a2 H τ q = funK call N fn_age_Fresh [a0, a1, a2] H τ q := by kernel_rfl
def e_age_Fresh (call : CallK) (N : Nat) (vs : List V) (H : Heap) (τ : Tape) (q : KV) : Ans := match vs with | [a0, a1, a2] => s_age_Fresh call N a0 a1 a2 H τ q | _ => none
theorem e_age_Fresh_ok : EntOk fn_age_Fresh e_age_Fresh := by
  intro call N vs H τ q r h
  unfold e_age_Fresh at h
  split at h
  · rw [s_age_Fresh_eq] at h; exact h
  · cases h
theorem e_age_Fresh_nat : EntNat e_age_Fresh := by
  intro c hn N vs H τ q
  unfold e_age_Fresh
  split
  · rw [s_age_Fresh_eq, s_age_Fresh_eq]; exact funK_ent hn _ _ _ _ _ _
  · rfl
/-- ostiary/age.Add -/
def fn_age_Add : Fun := ⟨2, (.seq (.reg [iR 4 (.p .mv) [(.c (.int .i64 (.ofNat 0)))]]) (.keep [0, 1] (.seq (.block 0 (.seq (.reg [iR 6 (.p .mv) [(.t 1)], iR 7 (.p (.bin .gtr)) [(.t 6), (.c (.int .i64 (.ofNat 0)))], iR 8 (.p .mv) [(.t 7)], iG 9 8 true (.p .mv) [(.t 0)], iG 10 8 true (.p .mv) [(.t 1)], iG 11 8 true (.p (.bin .sub)) [(.c (.int .i64 (.ofNat 9223372036854775807))), (.t 10)], iG 12 8 true (.p (.bin .gtr)) [(.t 9), (.t 11)], iR 13 (.p .pick) [(.t 8), (.t 12), (.c (.bool false))], iR 5 (.p .mv) [(.t 13)]]) (.keep [0, 1, 5] (.cond (.t 5) (.seq (.reg [iR 4 (.p .mv) [(.c (.int .i64 (.ofNat 9223372036854775807)))]]) (.keep [4] (.keep [4] .ret))) (.seq (.reg [iR 15 (.p .mv) [(.t 1)], iR 16 (.p (.bin .lss)) [(.t 15), (.c (.int .i64 (.ofNat 0)))], iR 17 (.p .mv) [(.t 16)], iG 18 17 true (.p .mv) [(.t 0)], iG 19 17 true (.p .mv) [(.t 1)],
    iG 20 17 true (.p (.bin .sub)) [(.c (.int .i64 (.negSucc 9223372036854775807))), (.t 19)], iG 21 17 true (.p (.bin .lss)) [(.t 18), (.t 20)], iR 22 (.p .pick) [(.t 17), (.t 21), (.c (.bool false))], iR 14 (.p .mv) [(.t 22)]]) (.keep [0, 1, 14] (.cond (.t 14) (.seq (.reg [iR 4 (.p .mv) [(.c (.int .i64 (.ofNat 0)))]]) (.keep [4] (.keep [4] .ret))) .skip))))))) (.keep [0, 1] (.seq (.reg [iR 23 (.p .mv) [(.t 0)], iR 24 (.p .mv) [(.t 1)], iR 25 (.p (.bin .add)) [(.t 23), (.t 24)], iR 26 (.p .max2) [(.t 25), (.c (.int .i64 (.ofNat 0)))], iR 4 (.p .mv) [(.t 26)]]) (.keep [4] (.keep [4] .ret))))))), [(.t 4)]⟩
def s_age_Add (call : CallK) (N : Nat) (a0 a1 : V) (H : Heap) (τ : Tape) (q : KV) : Ans := binK .gtr a1 (.int .i64 (.ofNat 0)) fun v0 => gK v0 true (fun q' => q' a0 H τ) H τ fun v1 H2 τ3 => gK v0 true (fun q' => q' a1 H2 τ3) H2 τ3 fun v4 H5 τ6 => gK v0 true (fun q' => binK .sub (.int .i64 (.ofNat 9223372036854775807)) v4 fun v => q' v H5 τ6) H5 τ6 fun v7 H8 τ9 => gK v0 true (fun q' => binK .gtr v1 v7 fun v => q' v H8 τ9) H8 τ9 fun v10 H11 τ12 => someK (pPick [v0, v10, (.bool false)]) fun v13 => condK v13 (q (.int .i64 (.ofNat 9223372036854775807)) H11 τ12) (binK .lss a1 (.int .i64 (.ofNat 0)) fun v14 => gK v14 true (fun q' => q' a0 H11 τ12) H11 τ12 fun v15 H16 τ17 => gK v14 true (fun q' => q' a1 H16 τ17) H16 τ17 fun v18 H19 τ20 => gK v14 true (fun q' => binK .sub (.int .i64 (.negSucc 9223372036854775807)) v18 fun v => q' v H19 τ20) H19 τ20 fun v21 H22 τ23 =>
    gK v14 true (fun q' => binK .lss v15 v21 fun v => q' v H22 τ23) H22 τ23 fun v24 H25 τ26 => someK (pPick [v14, v24, (.bool false)]) fun v27 => condK v27 (q (.int .i64 (.ofNat 0)) H25 τ26) (binK .add a0 a1 fun v28 => someK (pMax [v28, (.int .i64 (.ofNat 0))]) fun v29 => q v29 H25 τ26))
theorem s_age_Add_eq (call : CallK) (N : Nat) (a0 a1 : V) (H : Heap) (τ : Tape) (q : KV) : s_age_Add call N a0 a1 H τ q = funK call N fn_age_Add [a0, a1] H τ q := by kernel_rfl
def e_age_Add (call : CallK) (N : Nat) (vs : List V) (H : Heap) (τ : Tape) (q : KV) : Ans := match vs with | [a0, a1] => s_age_Add call N a0 a1 H τ q | _ => none
theorem e_age_Add_ok : EntOk fn_age_Add e_age_Add := by
  intro call N vs H τ q r h
  unfold e_age_Add at h
  split at h
  · rw [s_age_Add_eq] at h; exact h
  · cases h
theorem e_age_Add_nat : EntNat e_age_Add := by
  intro c hn N vs H τ q
  unfold e_age_Add
  split
  · rw [s_age_Add_eq, s_age_Add_eq]; exact funK_ent hn _ _ _ _ _ _
  · rfl
/-- ostiary/ostiarylaw16.known -/
def fn_law16_known : Fun := ⟨0, (.seq (.reg [iR 0 (.p .mv) [(.c (.bool false))]]) (.keep [] (.seq (.reg [iR 1 (.call 36) [(.c (.str (bs [77, 97, 120, 45, 65, 103, 101, 61, 34, 53, 34, 44, 32, 110, 111, 45, 99, 97, 99, 104, 101, 61, 120])))], iR 2 (.call 39) [(.t 1)], iR 3 (.p (.build [(.bool false), (.bool false), (.int .i64 (.ofNat 0))] [(1, 1), (2, 1)])) [(.c (.bool true)), (.c (.int .i64 (.ofNat 5)))], iR 4 (.p (.eq false (.flat [.bool, .bool, .int]))) [(.t 2), (.t 3)], iR 5 (.p .mv) [(.t 4)], iG 6 5 true (.call 36) [(.c (.str (bs [109, 97, 120, 45, 97, 103, 101, 61, 53])))], iG 7 5 true (.call 32) [(.t 6), (.c (.int .i64 (.ofNat 0))), (.c (.int .i64 (.ofNat 4)))], iR 8 (.p .pick) [(.t 5), (.t 7), (.c (.bool false))], iR 9 (.p .mv) [(.t 8)], iG 10 9 true (.call 36) [(.c (.str (bs [109, 97, 120, 45, 97, 103, 101, 61, 53])))],
    iG 11 9 true (.call 32) [(.t 10), (.c (.int .i64 (.ofNat 0))), (.c (.int .i64 (.ofNat 5)))], iG 12 9 true (.p (.un .not)) [(.t 11)], iR 13 (.p .pick) [(.t 9), (.t 12), (.c (.bool false))], iR 0 (.p .mv) [(.t 13)]]) (.keep [0] (.keep [0] .ret))))), [(.t 0)]⟩
def s_law16_known (call : CallK) (N : Nat) (H : Heap) (τ : Tape) (q : KV) : Ans := call f_law16_cc [(.str (bs [77, 97, 120, 45, 65, 103, 101, 61, 34, 53, 34, 44, 32, 110, 111, 45, 99, 97, 99, 104, 101, 61, 120]))] H τ fun v0 H1 τ2 => call f_age_Parse [v0] H1 τ2 fun v3 H4 τ5 => someK (pBuild [(.bool false), (.bool false), (.int .i64 (.ofNat 0))] [(1, 1), (2, 1)] [(.bool true), (.int .i64 (.ofNat 5))]) fun v6 => someK (pEq false (.flat [.bool, .bool, .int]) [v3, v6]) fun v7 => gK v7 true (fun q' => call f_law16_cc [(.str (bs [109, 97, 120, 45, 97, 103, 101, 61, 53]))] H4 τ5 q') H4 τ5 fun v8 H9 τ10 => gK v7 true (fun q' => call f_age_Fresh [v8, (.int .i64 (.ofNat 0)), (.int .i64 (.ofNat 4))] H9 τ10 q') H9 τ10 fun v11 H12 τ13 => someK (pPick [v7, v11, (.bool false)]) fun v14 =>
    gK v14 true (fun q' => call f_law16_cc [(.str (bs [109, 97, 120, 45, 97, 103, 101, 61, 53]))] H12 τ13 q') H12 τ13 fun v15 H16 τ17 => gK v14 true (fun q' => call f_age_Fresh [v15, (.int .i64 (.ofNat 0)), (.int .i64 (.ofNat 5))] H16 τ17 q') H16 τ17 fun v18 H19 τ20 => gK v14 true (fun q' => unK .not v18 fun v => q' v H19 τ20) H19 τ20 fun v21 H22 τ23 => someK (pPick [v14, v21, (.bool false)]) fun v24 => q v24 H22 τ23
theorem s_law16_known_eq (call : CallK) (N : Nat) (H : Heap) (τ : Tape) (q : KV) : s_law16_known call N  H τ q = funK call N fn_law16_known [] H τ q := by kernel_rfl
def e_law16_known (call : CallK) (N : Nat) (vs : List V) (H : Heap) (τ : Tape) (q : KV) : Ans := match vs with | [] => s_law16_known call N  H τ q | _ => none
theorem e_law16_known_ok : EntOk fn_law16_known e_law16_known := by
  intro call N vs H τ q r h
  unfold e_law16_known at h
  split at h
  · rw [s_law16_known_eq] at h; exact h
  · cases h
theorem e_law16_known_nat : EntNat e_law16_known := by
  intro c hn N vs H τ q
  unfold e_law16_known
  split
  · rw [s_law16_known_eq, s_law16_known_eq]; exact funK_ent hn _ _ _ _ _ _
  · rfl
/-- ostiary/ostiarylaw16.cc -/
def fn_law16_cc : Fun := ⟨1, (.seq (.reg [iR 2 (.p .mv) [(.c .nils)]]) (.keep [0] (.seq (.reg [iR 3 (.p .mv) [(.t 0)], iR 4 (.p (.build [(.str []), (.str [])] [(0, 1), (1, 1)])) [(.c (.str (bs [67, 97, 99, 104, 101, 45, 67, 111, 110, 116, 114, 111, 108]))), (.t 3)], iR 5 (.e (.buildSlice 1 2 [(.str []), (.str [])] [(0, 2)])) [(.t 4)], iR 2 (.p .mv) [(.t 5)]]) (.keep [2] (.keep [2] .ret))))), [(.t 2)]⟩
def s_law16_cc (call : CallK) (N : Nat) (a0 : V) (H : Heap) (τ : Tape) (q : KV) : Ans := someK (pBuild [(.str []), (.str [])] [(0, 1), (1, 1)] [(.str (bs [67, 97, 99, 104, 101, 45, 67, 111, 110, 116, 114, 111, 108])), a0]) fun v0 => effK (eBuildSlice 1 2 [(.str []), (.str [])] [(0, 2)] [v0] H τ) fun v1 H2 τ3 => q v1 H2 τ3
theorem s_law16_cc_eq (call : CallK) (N : Nat) (a0 : V) (H : Heap) (τ : Tape) (q : KV) : s_law16_cc call N a0 H τ q = funK call N fn_law16_cc [a0] H τ q := by kernel_rfl
def e_law16_cc (call : CallK) (N : Nat) (vs : List V) (H : Heap) (τ : Tape) (q : KV) : Ans := match vs with | [a0] => s_law16_cc call N a0 H τ q | _ => none
theorem e_law16_cc_ok : EntOk fn_law16_cc e_law16_cc := by
  intro call N vs H τ q r h
  unfold e_law16_cc at h
  split at h
  · rw [s_law16_cc_eq] at h; exact h
  · cases h
theorem e_law16_cc_nat : EntNat e_law16_cc := by
  intro c hn N vs H τ q
  unfold e_law16_cc
  split
  · rw [s_law16_cc_eq, s_law16_cc_eq]; exact funK_ent hn _ _ _ _ _ _
  · rfl
/-- ostiary/age.Vary -/
def fn_age_Vary : Fun := ⟨1, (.seq (.reg [iR 2 (.p .mv) [(.c .nils)], iR 3 (.p .mv) [(.c (.bool false))]]) (.keep [0] (.seq (.reg [iR 10 (.p .mv) [(.t 0)], iR 11 (.call 84) [(.t 10), (.c (.str (bs [118, 97, 114, 121])))], iR 9 (.p .mv) [(.t 11)], iR 12 (.p (.extract 0)) [(.t 9)], iR 13 (.p (.extract 1)) [(.t 9)], iR 4 (.p .mv) [(.t 12)], iR 5 (.p .mv) [(.t 13)]]) (.keep [4] (.seq (.reg [iR 6 (.p .mv) [(.c .nils)]]) (.keep [4, 6] (.seq (.seq (.reg [iR 14 (.p .mv) [(.t 4)], iR 15 (.p .len) [(.t 14)], iR 16 (.p .mv) [(.c (.int .i64 (.ofNat 0)))]]) (.keep [6, 14, 15, 16] (.block 0 (.loop (.keep [6, 14, 15, 16] (.seq (.reg [iR 17 (.p (.bin .lss)) [(.t 16), (.t 15)]]) (.keep [6, 14, 15, 16, 17] (.seq (.cond (.t 17) .skip (.keep [6] (.exit 0))) (.keep [6, 14, 15, 16] (.seq (.block 1 (.seq (.reg [iR 18 (.p (.slIdx 1)) [(.t 14), (.t 16)], iR 19 (.l (.load none)) [(.t 18)],
    iR 8 (.p .mv) [(.t 19)]]) (.keep [6, 8, 14, 15, 16] (.seq (.reg [iR 20 (.p .mv) [(.t 8)], iR 21 (.call 85) [(.t 20)], iR 8 (.p .mv) [(.t 21)]]) (.keep [6, 8, 14, 15, 16] (.seq (.reg [iR 22 (.p .mv) [(.t 8)], iR 23 (.p (.bin .neq)) [(.t 22), (.c (.str []))]]) (.keep [6, 8, 14, 15, 16, 23] (.cond (.t 23) (.reg [iR 24 (.p .mv) [(.t 6)], iR 25 (.p .mv) [(.t 8)], iR 26 (.e (.buildSlice 1 1 [(.str [])] [(0, 1)])) [(.t 25)], iR 27 (.e (.append 1 16)) [(.t 24), (.t 26)], iR 6 (.p .mv) [(.t 27)]]) .skip)))))))) (.keep [6, 14, 15, 16] (.reg [iR 28 (.p (.bin .add)) [(.t 16), (.c (.int .i64 (.ofNat 1)))], iR 16 (.p .mv) [(.t 28)]])))))))))))) (.keep [6] (.seq (.reg [iR 29 (.p .mv) [(.t 6)], iR 30 (.call 86) [(.t 29)]]) (.keep [6] (.seq (.seq (.reg [iR 31 (.p .mv) [(.t 6)], iR 32 (.call 87) [(.t 31), (.c (.str (bs [42])))]]) (.keep [6, 32] (.cond (.t 32)
    (.seq (.reg [iR 2 (.p .mv) [(.c .nils)], iR 3 (.p .mv) [(.c (.bool false))]]) (.keep [2, 3] (.keep [2, 3] .ret))) .skip))) (.keep [6] (.seq (.reg [iR 33 (.p .mv) [(.t 6)], iR 34 (.call 88) [(.t 33)], iR 2 (.p .mv) [(.t 34)], iR 3 (.p .mv) [(.c (.bool true))]]) (.keep [2, 3] (.keep [2, 3] .ret))))))))))))))), [(.t 2), (.t 3)]⟩
def s_age_Vary_j0 (call : CallK) (N : Nat) (q : KV) (st : St) (τ : Tape) : Ans := match st with
  | ⟨fr, H⟩ => getK fr 6 fun t6 => call f_slices_Sort_string [t6] H τ fun v6 H7 τ8 => call f_slices_Contains_string [t6, (.str (bs [42]))] H7 τ8 fun v9 H10 τ11 => condK v9 (q (.tup [.nils, (.bool false)]) H10 τ11) (call f_slices_Compact_string [t6] H10 τ11 fun v12 H13 τ14 => q (.tup [v12, (.bool true)]) H13 τ14)
def s_age_Vary_j2 (call : CallK) (N : Nat) (k : KC) (st : St) (τ : Tape) : Ans := match st with
  | ⟨fr, H⟩ => getK fr 6 fun t6 => getK fr 14 fun t14 => getK fr 15 fun t15 => getK fr 16 fun t16 => binK .add t16 (.int .i64 (.ofNat 1)) fun v16 => k .normal ⟨(T.set (T.set (T.set (T.set (T.set (T.set .leaf 6 t6) 14 t14) 15 t15) 16 t16) 28 v16) 16 v16), H⟩ τ
def s_age_Vary_l1 (call : CallK) (N : Nat) (st : St) (τ : Tape) (k : KC) : Ans := match st with
  | ⟨fr, H⟩ => getK fr 6 fun t6 => getK fr 14 fun t14 => getK fr 15 fun t15 => getK fr 16 fun t16 => binK .lss t16 t15 fun v15 => condK v15 (someK (pSlIdx 1 [t14, t16]) fun v17 => someK (lLoad1 [v17] H) fun v18 => call f_infra_Lower [v18] H τ fun v19 H20 τ21 => binK .neq v19 (.str []) fun v22 => condK v22 (effK (eBuildSlice 1 1 [(.str [])] [(0, 1)] [v19] H20 τ21) fun v23 H24 τ25 => effK (eAppend 1 16 [t6, v23] H24 τ25) fun v26 H27 τ28 => s_age_Vary_j2 call N k ⟨(T.set (T.set (T.set (T.set (T.set (T.set (T.set (T.set (T.set (T.set (T.set .leaf 6 t6) 8 v19) 14 t14) 15 t15) 16 t16) 23 v22) 24 t6) 25 v19) 26 v23) 27 v26) 6 v26), H27⟩ τ28) (s_age_Vary_j2 call N k ⟨(T.set (T.set (T.set (T.set (T.set (T.set .leaf 6 t6) 8 v19) 14 t14) 15 t15) 16 t16) 23 v22), H20⟩ τ21)) (k (.exit 0) ⟨(T.set .leaf 6 t6), H⟩ τ)
def s_age_Vary (call : CallK) (N : Nat) (a0 : V) (H : Heap) (τ : Tape) (q : KV) : Ans := call f_headers_Split [a0, (.str (bs [118, 97, 114, 121]))] H τ fun v0 H1 τ2 => someK (pExtract 0 [v0]) fun v3 => someK (pExtract 1 [v0]) fun v4 => someK (pLen [v3]) fun v5 => loopK (s_age_Vary_l1 call N) N ⟨(T.set (T.set (T.set (T.set .leaf 6 .nils) 14 v3) 15 v5) 16 (.int .i64 (.ofNat 0))), H1⟩ τ2 (blockK 0 (seqK (s_age_Vary_j0 call N q) (endK [(.t 2), (.t 3)] q)))
theorem s_age_Vary_eq (call : CallK) (N : Nat) (a0 : V) (H : Heap) (τ : Tape) (q : KV) : s_age_Vary call N a0 H τ q = funK call N fn_age_Vary [a0] H τ q := by kernel_rfl
def e_age_Vary (call : CallK) (N : Nat) (vs : List V) (H : Heap) (τ : Tape) (q : KV) : Ans := match vs with | [a0] => s_age_Vary call N a0 H τ q | _ => none
theorem e_age_Vary_ok : EntOk fn_age_Vary e_age_Vary := by
  intro call N vs H τ q r h
  unfold e_age_Vary at h
  split at h
  · rw [s_age_Vary_eq] at h; exact h
  · cases h
theorem e_age_Vary_nat : EntNat e_age_Vary := by
  intro c hn N vs H τ q
  unfold e_age_Vary
  split
  · rw [s_age_Vary_eq, s_age_Vary_eq]; exact funK_ent hn _ _ _ _ _ _
  · rfl
/-- ostiary/ostiarybook.Same[string] -/
def fn_book_Same_string : Fun := ⟨2, (.seq (.reg [iR 4 (.p .mv) [(.c (.bool false))]]) (.keep [0, 1] (.seq (.seq (.reg [iR 6 (.p .mv) [(.t 0)], iR 7 (.p .len) [(.t 6)], iR 8 (.p .mv) [(.t 1)], iR 9 (.p .len) [(.t 8)], iR 10 (.p (.bin .neq)) [(.t 7), (.t 9)]]) (.keep [0, 1, 10] (.cond (.t 10) (.seq (.reg [iR 4 (.p .mv) [(.c (.bool false))]]) (.keep [4] (.keep [4] .ret))) .skip))) (.keep [0, 1] (.seq (.seq (.reg [iR 5 (.p .mv) [(.c (.int .i64 (.ofNat 0)))]]) (.keep [0, 1, 5] (.block 0 (.loop (.keep [0, 1, 5] (.seq (.seq (.reg [iR 11 (.p .mv) [(.t 5)], iR 12 (.p .mv) [(.t 0)], iR 13 (.p .len) [(.t 12)], iR 14 (.p (.bin .lss)) [(.t 11), (.t 13)]]) (.keep [0, 1, 5, 14] (.cond (.t 14) .skip (.keep [] (.exit 0))))) (.keep [0, 1, 5] (.seq (.block 1 (.seq (.draw [iR 17 (.p .mv) [(.t 0)], iR 18 (.p .mv) [(.t 5)], iR 19 (.p (.slIdx 1)) [(.t 17), (.t 18)], iR 20 (.l (.load none)) [(.t 19)],
    iR 21 (.p .mv) [(.t 1)], iR 22 (.p .mv) [(.t 5)], iR 23 (.p (.slIdx 1)) [(.t 21), (.t 22)], iR 24 (.l (.load none)) [(.t 23)], iR 25 (.p (.bin .neq)) [(.t 20), (.t 24)]]) (.keep [0, 1, 5, 25] (.cond (.t 25) (.seq (.reg [iR 4 (.p .mv) [(.c (.bool false))]]) (.keep [4] (.keep [4] .ret))) .skip)))) (.keep [0, 1, 5] (.reg [iR 15 (.p .mv) [(.t 5)], iR 16 (.p (.bin .add)) [(.t 15), (.c (.int .i64 (.ofNat 1)))], iR 5 (.p .mv) [(.t 16)]])))))))))) (.keep [] (.seq (.reg [iR 4 (.p .mv) [(.c (.bool true))]]) (.keep [4] (.keep [4] .ret))))))))), [(.t 4)]⟩
def s_book_Same_string_j0 (call : CallK) (N : Nat) (q : KV) (st : St) (τ : Tape) : Ans := match st with
  | ⟨fr, H⟩ => q (.bool true) H τ
def s_book_Same_string_l1 (call : CallK) (N : Nat) (st : St) (τ : Tape) (k : KC) : Ans := match st with
  | ⟨fr, H⟩ => getK fr 0 fun t0 => getK fr 1 fun t1 => getK fr 5 fun t5 => someK (pLen [t0]) fun v3 => binK .lss t5 v3 fun v4 => condK v4 (someK (pSlIdx 1 [t0, t5]) fun v5 => someK (lLoad1 [v5] H) fun v6 => someK (pSlIdx 1 [t1, t5]) fun v7 => someK (lLoad1 [v7] H) fun v8 => binK .neq v6 v8 fun v9 => condK v9 (k .ret ⟨(T.set .leaf 4 (.bool false)), H⟩ τ) (binK .add t5 (.int .i64 (.ofNat 1)) fun v10 => k .normal ⟨(T.set (T.set (T.set (T.set (T.set (T.set .leaf 0 t0) 1 t1) 5 t5) 15 t5) 16 v10) 5 v10), H⟩ τ)) (k (.exit 0) ⟨.leaf, H⟩ τ)
def s_book_Same_string (call : CallK) (N : Nat) (a0 a1 : V) (H : Heap) (τ : Tape) (q : KV) : Ans := someK (pLen [a0]) fun v0 => someK (pLen [a1]) fun v1 => binK .neq v0 v1 fun v2 => condK v2 (q (.bool false) H τ) (loopK (s_book_Same_string_l1 call N) N ⟨(T.set (T.set (T.set .leaf 0 a0) 1 a1) 5 (.int .i64 (.ofNat 0))), H⟩ τ (blockK 0 (seqK (s_book_Same_string_j0 call N q) (endK [(.t 4)] q))))
theorem s_book_Same_string_eq (call : CallK) (N : Nat) (a0 a1 : V) (H : Heap) (τ : Tape) (q : KV) : s_book_Same_string call N a0 a1 H τ q = funK call N fn_book_Same_string [a0, a1] H τ q := by kernel_rfl
def e_book_Same_string (call : CallK) (N : Nat) (vs : List V) (H : Heap) (τ : Tape) (q : KV) : Ans := match vs with | [a0, a1] => s_book_Same_string call N a0 a1 H τ q | _ => none
theorem e_book_Same_string_ok : EntOk fn_book_Same_string e_book_Same_string := by
  intro call N vs H τ q r h
  unfold e_book_Same_string at h
  split at h
  · rw [s_book_Same_string_eq] at h; exact h
  · cases h
theorem e_book_Same_string_nat : EntNat e_book_Same_string := by
  intro c hn N vs H τ q
  unfold e_book_Same_string
  split
  · rw [s_book_Same_string_eq, s_book_Same_string_eq]; exact funK_ent hn _ _ _ _ _ _
  · rfl
/-- ostiary/age.Parse -/
def fn_age_Parse : Fun := ⟨1, (.seq (.reg [iR 2 (.e (.alloc [(.bool false), (.bool false), (.int .i64 (.ofNat 0))])) []]) (.keep [0, 2] (.seq (.reg [iR 12 (.p (.build [(.bool false), (.bool false), (.int .i64 (.ofNat 0))] [(2, 1)])) [(.c (.int .i64 (.negSucc 0)))], iR 3 (.e (.alloc [(.bool false), (.bool false), (.int .i64 (.ofNat 0))])) [], ⟨none, none, (.e (.store 3)), [(.t 3), (.t 12)], none⟩]) (.keep [0, 2, 3] (.seq (.reg [iR 14 (.p .mv) [(.t 0)], iR 15 (.call 84) [(.t 14), (.c (.str (bs [99, 97, 99, 104, 101, 45, 99, 111, 110, 116, 114, 111, 108])))], iR 13 (.p .mv) [(.t 15)], iR 16 (.p (.extract 0)) [(.t 13)], iR 17 (.p (.extract 1)) [(.t 13)], iR 4 (.p .mv) [(.t 16)], iR 5 (.p .mv) [(.t 17)]]) (.keep [2, 3, 4] (.seq (.seq (.reg [iR 18 (.p .mv) [(.t 4)], iR 19 (.p .len) [(.t 18)], iR 20 (.p .mv) [(.c (.int .i64 (.ofNat 0)))]]) (.keep [2, 3, 18, 19, 20] (.block 0 (.loop
    (.keep [2, 3, 18, 19, 20] (.seq (.reg [iR 21 (.p (.bin .lss)) [(.t 20), (.t 19)]]) (.keep [2, 3, 18, 19, 20, 21] (.seq (.cond (.t 21) .skip (.keep [2, 3] (.exit 0))) (.keep [2, 3, 18, 19, 20] (.seq (.block 1 (.seq (.reg [iR 22 (.p (.slIdx 1)) [(.t 18), (.t 20)], iR 23 (.l (.load none)) [(.t 22)], iR 7 (.p .mv) [(.t 23)]]) (.keep [2, 3, 7, 18, 19, 20] (.seq (.reg [iR 25 (.p .mv) [(.t 7)], iR 26 (.call 89) [(.t 25)], iR 24 (.p .mv) [(.t 26)], iR 27 (.p (.extract 0)) [(.t 24)], iR 28 (.p (.extract 1)) [(.t 24)], iR 8 (.p .mv) [(.t 27)], iR 9 (.p .mv) [(.t 28)]]) (.keep [2, 3, 8, 9, 18, 19, 20] (.seq (.reg [iR 29 (.p .mv) [(.t 8)]]) (.keep [2, 3, 9, 18, 19, 20, 29] (.block 2 (.seq (.reg [iR 31 (.p (.bin .eql)) [(.t 29), (.c (.str (bs [110, 111, 45, 115, 116, 111, 114, 101])))], iR 30 (.p .mv) [(.t 31)]]) (.keep [2, 3, 9, 18, 19, 20, 29, 30] (.cond (.t 30)
    (.reg [iR 32 (.p (.fieldAddr 0)) [(.t 3)], ⟨none, none, (.e (.store 1)), [(.t 32), (.c (.bool true))], none⟩]) (.seq (.reg [iR 34 (.p (.bin .eql)) [(.t 29), (.c (.str (bs [110, 111, 45, 99, 97, 99, 104, 101])))], iR 33 (.p .mv) [(.t 34)]]) (.keep [2, 3, 9, 18, 19, 20, 29, 33] (.cond (.t 33) (.reg [iR 35 (.p (.fieldAddr 1)) [(.t 3)], ⟨none, none, (.e (.store 1)), [(.t 35), (.c (.bool true))], none⟩]) (.seq (.reg [iR 37 (.p (.bin .eql)) [(.t 29), (.c (.str (bs [109, 97, 120, 45, 97, 103, 101])))], iR 36 (.p .mv) [(.t 37)]]) (.keep [2, 3, 9, 18, 19, 20, 36] (.cond (.t 36) (.seq (.reg [iR 39 (.p .mv) [(.t 9)], iR 40 (.call 81) [(.t 39)], iR 38 (.p .mv) [(.t 40)], iR 41 (.p (.extract 0)) [(.t 38)], iR 42 (.p (.extract 1)) [(.t 38)], iR 10 (.p .mv) [(.t 41)], iR 11 (.p .mv) [(.t 42)]]) (.keep [2, 3, 10, 11, 18, 19, 20] (.seq (.reg [iR 43 (.p .mv) [(.t 11)],
    iR 44 (.p .mv) [(.t 43)], iG 45 44 true (.p (.fieldAddr 2)) [(.t 3)], iG 46 44 true (.l (.load none)) [(.t 45)], iG 47 44 true (.p (.bin .lss)) [(.t 46), (.c (.int .i64 (.ofNat 0)))], iR 48 (.p .pick) [(.t 44), (.t 47), (.c (.bool false))]]) (.keep [2, 3, 10, 18, 19, 20, 48] (.cond (.t 48) (.reg [iR 49 (.p .mv) [(.t 10)], iR 50 (.p (.fieldAddr 2)) [(.t 3)], ⟨none, none, (.e (.store 1)), [(.t 50), (.t 49)], none⟩]) .skip))))) .skip))))))))))))))))) (.keep [2, 3, 18, 19, 20] (.reg [iR 51 (.p (.bin .add)) [(.t 20), (.c (.int .i64 (.ofNat 1)))], iR 20 (.p .mv) [(.t 51)]])))))))))))) (.keep [2, 3] (.seq (.reg [iR 52 (.l (.load (some 3))) [(.t 3)], ⟨none, none, (.e (.store 3)), [(.t 2), (.t 52)], none⟩]) (.keep [2] (.keep [2] .ret))))))))))), [(.cell 2 (some 3))]⟩
def s_age_Parse_j0 (call : CallK) (N : Nat) (q : KV) (st : St) (τ : Tape) : Ans := match st with
  | ⟨fr, H⟩ => getK fr 2 fun t2 => getK fr 3 fun t3 => someK (lLoadN 3 [t3] H) fun v16 => effK (eStore 3 [t2, v16] H τ) fun v17 H18 τ19 => someK (results ⟨(T.set .leaf 2 t2), H18⟩ [(.cell 2 (some 3))]) fun v => q v H18 τ19
def s_age_Parse_j2 (call : CallK) (N : Nat) (k : KC) (st : St) (τ : Tape) : Ans := match st with
  | ⟨fr, H⟩ => getK fr 2 fun t2 => getK fr 3 fun t3 => getK fr 18 fun t18 => getK fr 19 fun t19 => getK fr 20 fun t20 => binK .add t20 (.int .i64 (.ofNat 1)) fun v21 => k .normal ⟨(T.set (T.set (T.set (T.set (T.set (T.set (T.set .leaf 2 t2) 3 t3) 18 t18) 19 t19) 20 t20) 51 v21) 20 v21), H⟩ τ
def s_age_Parse_l1 (call : CallK) (N : Nat) (st : St) (τ : Tape) (k : KC) : Ans := match st with
  | ⟨fr, H⟩ => getK fr 2 fun t2 => getK fr 3 fun t3 => getK fr 18 fun t18 => getK fr 19 fun t19 => getK fr 20 fun t20 => binK .lss t20 t19 fun v20 => condK v20 (someK (pSlIdx 1 [t18, t20]) fun v22 => someK (lLoad1 [v22] H) fun v23 => call f_age_piece [v23] H τ fun v24 H25 τ26 => someK (pExtract 0 [v24]) fun v27 => someK (pExtract 1 [v24]) fun v28 => binK .eql v27 (.str (bs [110, 111, 45, 115, 116, 111, 114, 101])) fun v29 => condK v29 (someK (pFieldAddr 0 [t3]) fun v30 => effK (eStore 1 [v30, (.bool true)] H25 τ26) fun v31 H32 τ33 => s_age_Parse_j2 call N k ⟨(T.set (T.set (T.set (T.set (T.set (T.set (T.set (T.set (T.set .leaf 2 t2) 3 t3) 9 v28) 18 t18) 19 t19) 20 t20) 29 v27) 30 v29) 32 v30), H32⟩ τ33) (binK .eql v27 (.str (bs [110, 111, 45, 99, 97, 99, 104, 101])) fun v34 => condK v34 (someK (pFieldAddr 1 [t3]) fun v35 => effK (eStore 1 [v35, (.bool true)] H25 τ26) fun v36 H37 τ38 =>
    s_age_Parse_j2 call N k ⟨(T.set (T.set (T.set (T.set (T.set (T.set (T.set (T.set (T.set .leaf 2 t2) 3 t3) 9 v28) 18 t18) 19 t19) 20 t20) 29 v27) 33 v34) 35 v35), H37⟩ τ38) (binK .eql v27 (.str (bs [109, 97, 120, 45, 97, 103, 101])) fun v39 => condK v39 (call f_infra_Int [v28] H25 τ26 fun v40 H41 τ42 => someK (pExtract 0 [v40]) fun v43 => someK (pExtract 1 [v40]) fun v44 => gK v44 true (fun q' => someK (pFieldAddr 2 [t3]) fun v => q' v H41 τ42) H41 τ42 fun v45 H46 τ47 => gK v44 true (fun q' => someK (lLoad1 [v45] H46) fun v => q' v H46 τ47) H46 τ47 fun v48 H49 τ50 => gK v44 true (fun q' => binK .lss v48 (.int .i64 (.ofNat 0)) fun v => q' v H49 τ50) H49 τ50 fun v51 H52 τ53 => someK (pPick [v44, v51, (.bool false)]) fun v54 => condK v54 (someK (pFieldAddr 2 [t3]) fun v55 => effK (eStore 1 [v55, v43] H52 τ53) fun v56 H57 τ58 =>
    s_age_Parse_j2 call N k ⟨(T.set (T.set (T.set (T.set (T.set (T.set (T.set (T.set (T.set .leaf 2 t2) 3 t3) 10 v43) 18 t18) 19 t19) 20 t20) 48 v54) 49 v43) 50 v55), H57⟩ τ58) (s_age_Parse_j2 call N k ⟨(T.set (T.set (T.set (T.set (T.set (T.set (T.set .leaf 2 t2) 3 t3) 10 v43) 18 t18) 19 t19) 20 t20) 48 v54), H52⟩ τ53)) (s_age_Parse_j2 call N k ⟨(T.set (T.set (T.set (T.set (T.set (T.set (T.set .leaf 2 t2) 3 t3) 9 v28) 18 t18) 19 t19) 20 t20) 36 v39), H25⟩ τ26)))) (k (.exit 0) ⟨(T.set (T.set .leaf 2 t2) 3 t3), H⟩ τ)
def s_age_Parse (call : CallK) (N : Nat) (a0 : V) (H : Heap) (τ : Tape) (q : KV) : Ans := effK (eAlloc [(.bool false), (.bool false), (.int .i64 (.ofNat 0))] [] H τ) fun v0 H1 τ2 => someK (pBuild [(.bool false), (.bool false), (.int .i64 (.ofNat 0))] [(2, 1)] [(.int .i64 (.negSucc 0))]) fun v3 => effK (eAlloc [(.bool false), (.bool false), (.int .i64 (.ofNat 0))] [] H1 τ2) fun v4 H5 τ6 => effK (eStore 3 [v4, v3] H5 τ6) fun v7 H8 τ9 => call f_headers_Split [a0, (.str (bs [99, 97, 99, 104, 101, 45, 99, 111, 110, 116, 114, 111, 108]))] H8 τ9 fun v10 H11 τ12 => someK (pExtract 0 [v10]) fun v13 => someK (pExtract 1 [v10]) fun v14 => someK (pLen [v13]) fun v15 => loopK (s_age_Parse_l1 call N) N ⟨(T.set (T.set (T.set (T.set (T.set .leaf 2 v0) 3 v4) 18 v13) 19 v15) 20 (.int .i64 (.ofNat 0))), H11⟩ τ12 (blockK 0 (seqK (s_age_Parse_j0 call N q) (endK [(.cell 2 (some 3))] q)))
theorem s_age_Parse_eq (call : CallK) (N : Nat) (a0 : V) (H : Heap) (τ : Tape) (q : KV) : s_age_Parse call N a0 H τ q = funK call N fn_age_Parse [a0] H τ q := by kernel_rfl
def e_age_Parse (call : CallK) (N : Nat) (vs : List V) (H : Heap) (τ : Tape) (q : KV) : Ans := match vs with | [a0] => s_age_Parse call N a0 H τ q | _ => none
theorem e_age_Parse_ok : EntOk fn_age_Parse e_age_Parse := by
  intro call N vs H τ q r h
  unfold e_age_Parse at h
  split at h
  · rw [s_age_Parse_eq] at h; exact h
  · cases h
theorem e_age_Parse_nat : EntNat e_age_Parse := by
  intro c hn N vs H τ q
  unfold e_age_Parse
  split
  · rw [s_age_Parse_eq, s_age_Parse_eq]; exact funK_ent hn _ _ _ _ _ _
  · rfl
/-- ostiary/ostiaryref16.Parse -/
def fn_ref16_Parse : Fun := ⟨1, (.seq (.reg [iR 2 (.e (.alloc [(.bool false), (.bool false), (.int .i64 (.ofNat 0))])) []]) (.keep [0, 2] (.seq (.reg [iR 12 (.p (.build [(.bool false), (.bool false), (.int .i64 (.ofNat 0))] [(2, 1)])) [(.c (.int .i64 (.negSucc 0)))], iR 3 (.e (.alloc [(.bool false), (.bool false), (.int .i64 (.ofNat 0))])) [], ⟨none, none, (.e (.store 3)), [(.t 3), (.t 12)], none⟩]) (.keep [0, 2, 3] (.seq (.reg [iR 14 (.p .mv) [(.t 0)], iR 15 (.call 90) [(.t 14), (.c (.str (bs [99, 97, 99, 104, 101, 45, 99, 111, 110, 116, 114, 111, 108])))], iR 13 (.p .mv) [(.t 15)], iR 16 (.p (.extract 0)) [(.t 13)], iR 17 (.p (.extract 1)) [(.t 13)], iR 4 (.p .mv) [(.t 16)], iR 5 (.p .mv) [(.t 17)]]) (.keep [2, 3, 4] (.seq (.seq (.reg [iR 6 (.p .mv) [(.c (.int .i64 (.ofNat 0)))]]) (.keep [2, 3, 4, 6] (.block 0 (.loop (.keep [2, 3, 4, 6] (.seq (.seq (.reg [iR 18 (.p .mv) [(.t 6)],
    iR 19 (.p .mv) [(.t 4)], iR 20 (.p .len) [(.t 19)], iR 21 (.p (.bin .lss)) [(.t 18), (.t 20)]]) (.keep [2, 3, 4, 6, 21] (.cond (.t 21) .skip (.keep [2, 3] (.exit 0))))) (.keep [2, 3, 4, 6] (.seq (.block 1 (.seq (.reg [iR 25 (.p .mv) [(.t 4)], iR 26 (.p .mv) [(.t 6)], iR 27 (.p (.slIdx 1)) [(.t 25), (.t 26)], iR 28 (.l (.load none)) [(.t 27)], iR 29 (.call 65) [(.t 28), (.c (.int .u8 (.ofNat 61)))], iR 24 (.p .mv) [(.t 29)], iR 30 (.p (.extract 0)) [(.t 24)], iR 31 (.p (.extract 1)) [(.t 24)], iR 32 (.p (.extract 2)) [(.t 24)], iR 7 (.p .mv) [(.t 30)], iR 8 (.p .mv) [(.t 31)], iR 9 (.p .mv) [(.t 32)]]) (.keep [2, 3, 4, 6, 7, 8, 9] (.seq (.reg [iR 33 (.p .mv) [(.t 8)], iR 34 (.call 91) [(.t 33)], iR 8 (.p .mv) [(.t 34)]]) (.keep [2, 3, 4, 6, 7, 8, 9] (.seq (.seq (.reg [iR 35 (.p .mv) [(.t 8)], iR 36 (.p .lenS) [(.t 35)],
    iR 37 (.p (.bin .gtr)) [(.t 36), (.c (.int .i64 (.ofNat 1)))], iR 38 (.p .mv) [(.t 37)], iG 39 38 true (.p .mv) [(.t 8)], iG 40 38 true (.p .strIndex) [(.t 39), (.c (.int .i64 (.ofNat 0)))], iG 41 38 true (.p (.bin .eql)) [(.t 40), (.c (.int .u8 (.ofNat 34)))], iR 42 (.p .pick) [(.t 38), (.t 41), (.c (.bool false))], iR 43 (.p .mv) [(.t 42)], iG 44 43 true (.p .mv) [(.t 8)], iG 45 43 true (.p .mv) [(.t 8)], iG 46 43 true (.p .lenS) [(.t 45)], iG 47 43 true (.p (.bin .sub)) [(.t 46), (.c (.int .i64 (.ofNat 1)))], iG 48 43 true (.p .strIndex) [(.t 44), (.t 47)], iG 49 43 true (.p (.bin .eql)) [(.t 48), (.c (.int .u8 (.ofNat 34)))], iR 50 (.p .pick) [(.t 43), (.t 49), (.c (.bool false))]]) (.keep [2, 3, 4, 6, 7, 8, 9, 50] (.cond (.t 50) (.reg [iR 51 (.p .mv) [(.t 8)], iR 52 (.p .mv) [(.t 8)], iR 53 (.p .lenS) [(.t 52)],
    iR 54 (.p (.bin .sub)) [(.t 53), (.c (.int .i64 (.ofNat 1)))], iR 55 (.p (.strSlice true true)) [(.t 51), (.c (.int .i64 (.ofNat 1))), (.t 54)], iR 8 (.p .mv) [(.t 55)]]) .skip))) (.keep [2, 3, 4, 6, 7, 8, 9] (.seq (.reg [iR 56 (.p .mv) [(.t 7)], iR 57 (.call 91) [(.t 56)], iR 58 (.call 92) [(.t 57)]]) (.keep [2, 3, 4, 6, 8, 9, 58] (.block 2 (.seq (.reg [iR 60 (.p (.bin .eql)) [(.t 58), (.c (.str (bs [110, 111, 45, 115, 116, 111, 114, 101])))], iR 59 (.p .mv) [(.t 60)]]) (.keep [2, 3, 4, 6, 8, 9, 58, 59] (.cond (.t 59) (.reg [iR 61 (.p (.fieldAddr 0)) [(.t 3)], ⟨none, none, (.e (.store 1)), [(.t 61), (.c (.bool true))], none⟩]) (.seq (.reg [iR 63 (.p (.bin .eql)) [(.t 58), (.c (.str (bs [110, 111, 45, 99, 97, 99, 104, 101])))], iR 62 (.p .mv) [(.t 63)]]) (.keep [2, 3, 4, 6, 8, 9, 58, 62] (.cond (.t 62) (.reg [iR 64 (.p (.fieldAddr 1)) [(.t 3)],
    ⟨none, none, (.e (.store 1)), [(.t 64), (.c (.bool true))], none⟩]) (.seq (.reg [iR 66 (.p (.bin .eql)) [(.t 58), (.c (.str (bs [109, 97, 120, 45, 97, 103, 101])))], iR 65 (.p .mv) [(.t 66)]]) (.keep [2, 3, 4, 6, 8, 9, 65] (.cond (.t 65) (.seq (.reg [iR 68 (.p .mv) [(.t 8)], iR 69 (.call 93) [(.t 68)], iR 67 (.p .mv) [(.t 69)], iR 70 (.p (.extract 0)) [(.t 67)], iR 71 (.p (.extract 1)) [(.t 67)], iR 10 (.p .mv) [(.t 70)], iR 11 (.p .mv) [(.t 71)]]) (.keep [2, 3, 4, 6, 9, 10, 11] (.seq (.reg [iR 72 (.p .mv) [(.t 9)], iR 73 (.p .mv) [(.t 72)], iG 74 73 true (.p .mv) [(.t 11)], iR 75 (.p .pick) [(.t 73), (.t 74), (.c (.bool false))], iR 76 (.p .mv) [(.t 75)], iG 77 76 true (.p (.fieldAddr 2)) [(.t 3)], iG 78 76 true (.l (.load none)) [(.t 77)], iG 79 76 true (.p (.bin .lss)) [(.t 78), (.c (.int .i64 (.ofNat 0)))], iR 80 (.p .pick) [(.t 76), (.t 79), (.c (.bool false))]])
    (.keep [2, 3, 4, 6, 10, 80] (.cond (.t 80) (.reg [iR 81 (.p .mv) [(.t 10)], iR 82 (.p (.fieldAddr 2)) [(.t 3)], ⟨none, none, (.e (.store 1)), [(.t 82), (.t 81)], none⟩]) .skip))))) .skip))))))))))))))))))) (.keep [2, 3, 4, 6] (.reg [iR 22 (.p .mv) [(.t 6)], iR 23 (.p (.bin .add)) [(.t 22), (.c (.int .i64 (.ofNat 1)))], iR 6 (.p .mv) [(.t 23)]])))))))))) (.keep [2, 3] (.seq (.reg [iR 83 (.l (.load (some 3))) [(.t 3)], ⟨none, none, (.e (.store 3)), [(.t 2), (.t 83)], none⟩]) (.keep [2] (.keep [2] .ret))))))))))), [(.cell 2 (some 3))]⟩
def s_ref16_Parse_j0 (call : CallK) (N : Nat) (q : KV) (st : St) (τ : Tape) : Ans := match st with
  | ⟨fr, H⟩ => getK fr 2 fun t2 => getK fr 3 fun t3 => someK (lLoadN 3 [t3] H) fun v15 => effK (eStore 3 [t2, v15] H τ) fun v16 H17 τ18 => someK (results ⟨(T.set .leaf 2 t2), H17⟩ [(.cell 2 (some 3))]) fun v => q v H17 τ18
def s_ref16_Parse_j2 (call : CallK) (N : Nat) (k : KC) (st : St) (τ : Tape) : Ans := match st with
  | ⟨fr, H⟩ => getK fr 2 fun t2 => getK fr 3 fun t3 => getK fr 4 fun t4 => getK fr 6 fun t6 => binK .add t6 (.int .i64 (.ofNat 1)) fun v21 => k .normal ⟨(T.set (T.set (T.set (T.set (T.set (T.set (T.set .leaf 2 t2) 3 t3) 4 t4) 6 t6) 22 t6) 23 v21) 6 v21), H⟩ τ
def s_ref16_Parse_j3 (call : CallK) (N : Nat) (k : KC) (st : St) (τ : Tape) : Ans := match st with
  | ⟨fr, H⟩ => getK fr 2 fun t2 => getK fr 3 fun t3 => getK fr 4 fun t4 => getK fr 6 fun t6 => getK fr 7 fun t7 => getK fr 8 fun t8 => getK fr 9 fun t9 => call f_ref1_Strip [t7] H τ fun v64 H65 τ66 => call f_ref1_Lower [v64] H65 τ66 fun v67 H68 τ69 => binK .eql v67 (.str (bs [110, 111, 45, 115, 116, 111, 114, 101])) fun v70 => condK v70 (someK (pFieldAddr 0 [t3]) fun v71 => effK (eStore 1 [v71, (.bool true)] H68 τ69) fun v72 H73 τ74 => s_ref16_Parse_j2 call N k ⟨(T.set (T.set (T.set (T.set (T.set (T.set (T.set (T.set (T.set .leaf 2 t2) 3 t3) 4 t4) 6 t6) 8 t8) 9 t9) 58 v67) 59 v70) 61 v71), H73⟩ τ74) (binK .eql v67 (.str (bs [110, 111, 45, 99, 97, 99, 104, 101])) fun v75 => condK v75 (someK (pFieldAddr 1 [t3]) fun v76 => effK (eStore 1 [v76, (.bool true)] H68 τ69) fun v77 H78 τ79 =>
    s_ref16_Parse_j2 call N k ⟨(T.set (T.set (T.set (T.set (T.set (T.set (T.set (T.set (T.set .leaf 2 t2) 3 t3) 4 t4) 6 t6) 8 t8) 9 t9) 58 v67) 62 v75) 64 v76), H78⟩ τ79) (binK .eql v67 (.str (bs [109, 97, 120, 45, 97, 103, 101])) fun v80 => condK v80 (call f_ref1_Int [t8] H68 τ69 fun v81 H82 τ83 => someK (pExtract 0 [v81]) fun v84 => someK (pExtract 1 [v81]) fun v85 => gK t9 true (fun q' => q' v85 H82 τ83) H82 τ83 fun v86 H87 τ88 => someK (pPick [t9, v86, (.bool false)]) fun v89 => gK v89 true (fun q' => someK (pFieldAddr 2 [t3]) fun v => q' v H87 τ88) H87 τ88 fun v90 H91 τ92 => gK v89 true (fun q' => someK (lLoad1 [v90] H91) fun v => q' v H91 τ92) H91 τ92 fun v93 H94 τ95 => gK v89 true (fun q' => binK .lss v93 (.int .i64 (.ofNat 0)) fun v => q' v H94 τ95) H94 τ95 fun v96 H97 τ98 => someK (pPick [v89, v96, (.bool false)]) fun v99 => condK v99 (someK (pFieldAddr 2 [t3]) fun v100 =>
    effK (eStore 1 [v100, v84] H97 τ98) fun v101 H102 τ103 => s_ref16_Parse_j2 call N k ⟨(T.set (T.set (T.set (T.set (T.set (T.set (T.set (T.set .leaf 2 t2) 3 t3) 4 t4) 6 t6) 10 v84) 80 v99) 81 v84) 82 v100), H102⟩ τ103) (s_ref16_Parse_j2 call N k ⟨(T.set (T.set (T.set (T.set (T.set (T.set .leaf 2 t2) 3 t3) 4 t4) 6 t6) 10 v84) 80 v99), H97⟩ τ98)) (s_ref16_Parse_j2 call N k ⟨(T.set (T.set (T.set (T.set (T.set (T.set (T.set .leaf 2 t2) 3 t3) 4 t4) 6 t6) 8 t8) 9 t9) 65 v80), H68⟩ τ69)))
def s_ref16_Parse_l1 (call : CallK) (N : Nat) (st : St) (τ : Tape) (k : KC) : Ans := match st with
  | ⟨fr, H⟩ => getK fr 2 fun t2 => getK fr 3 fun t3 => getK fr 4 fun t4 => getK fr 6 fun t6 => someK (pLen [t4]) fun v19 => binK .lss t6 v19 fun v20 => condK v20 (someK (pSlIdx 1 [t4, t6]) fun v22 => someK (lLoad1 [v22] H) fun v23 => call f_ref1_Part [v23, (.int .u8 (.ofNat 61))] H τ fun v24 H25 τ26 => someK (pExtract 0 [v24]) fun v27 => someK (pExtract 1 [v24]) fun v28 => someK (pExtract 2 [v24]) fun v29 => call f_ref1_Strip [v28] H25 τ26 fun v30 H31 τ32 => someK (pLenS [v30]) fun v33 => binK .gtr v33 (.int .i64 (.ofNat 1)) fun v34 => gK v34 true (fun q' => q' v30 H31 τ32) H31 τ32 fun v35 H36 τ37 => gK v34 true (fun q' => someK (pStrIndex [v35, (.int .i64 (.ofNat 0))]) fun v => q' v H36 τ37) H36 τ37 fun v38 H39 τ40 => gK v34 true (fun q' => binK .eql v38 (.int .u8 (.ofNat 34)) fun v => q' v H39 τ40) H39 τ40 fun v41 H42 τ43 => someK (pPick [v34, v41, (.bool false)]) fun v44 =>
    gK v44 true (fun q' => q' v30 H42 τ43) H42 τ43 fun v45 H46 τ47 => gK v44 true (fun q' => q' v30 H46 τ47) H46 τ47 fun v48 H49 τ50 => gK v44 true (fun q' => someK (pLenS [v48]) fun v => q' v H49 τ50) H49 τ50 fun v51 H52 τ53 => gK v44 true (fun q' => binK .sub v51 (.int .i64 (.ofNat 1)) fun v => q' v H52 τ53) H52 τ53 fun v54 H55 τ56 => gK v44 true (fun q' => someK (pStrIndex [v45, v54]) fun v => q' v H55 τ56) H55 τ56 fun v57 H58 τ59 => gK v44 true (fun q' => binK .eql v57 (.int .u8 (.ofNat 34)) fun v => q' v H58 τ59) H58 τ59 fun v60 H61 τ62 => someK (pPick [v44, v60, (.bool false)]) fun v63 => condK v63 (someK (pLenS [v30]) fun v104 => binK .sub v104 (.int .i64 (.ofNat 1)) fun v105 => someK (pStrSlice true true [v30, (.int .i64 (.ofNat 1)), v105]) fun v106 =>
    s_ref16_Parse_j3 call N k ⟨(T.set (T.set (T.set (T.set (T.set (T.set (T.set (T.set (T.set (T.set (T.set (T.set (T.set (T.set .leaf 2 t2) 3 t3) 4 t4) 6 t6) 7 v27) 8 v30) 9 v29) 50 v63) 51 v30) 52 v30) 53 v104) 54 v105) 55 v106) 8 v106), H61⟩ τ62) (s_ref16_Parse_j3 call N k ⟨(T.set (T.set (T.set (T.set (T.set (T.set (T.set (T.set .leaf 2 t2) 3 t3) 4 t4) 6 t6) 7 v27) 8 v30) 9 v29) 50 v63), H61⟩ τ62)) (k (.exit 0) ⟨(T.set (T.set .leaf 2 t2) 3 t3), H⟩ τ)
def s_ref16_Parse (call : CallK) (N : Nat) (a0 : V) (H : Heap) (τ : Tape) (q : KV) : Ans := effK (eAlloc [(.bool false), (.bool false), (.int .i64 (.ofNat 0))] [] H τ) fun v0 H1 τ2 => someK (pBuild [(.bool false), (.bool false), (.int .i64 (.ofNat 0))] [(2, 1)] [(.int .i64 (.negSucc 0))]) fun v3 => effK (eAlloc [(.bool false), (.bool false), (.int .i64 (.ofNat 0))] [] H1 τ2) fun v4 H5 τ6 => effK (eStore 3 [v4, v3] H5 τ6) fun v7 H8 τ9 => call f_ref5_Split [a0, (.str (bs [99, 97, 99, 104, 101, 45, 99, 111, 110, 116, 114, 111, 108]))] H8 τ9 fun v10 H11 τ12 => someK (pExtract 0 [v10]) fun v13 => someK (pExtract 1 [v10]) fun v14 => loopK (s_ref16_Parse_l1 call N) N ⟨(T.set (T.set (T.set (T.set .leaf 2 v0) 3 v4) 4 v13) 6 (.int .i64 (.ofNat 0))), H11⟩ τ12 (blockK 0 (seqK (s_ref16_Parse_j0 call N q) (endK [(.cell 2 (some 3))] q)))
theorem s_ref16_Parse_eq (call : CallK) (N : Nat) (a0 : V) (H : Heap) (τ : Tape) (q : KV) : s_ref16_Parse call N a0 H τ q = funK call N fn_ref16_Parse [a0] H τ q := by kernel_rfl
def e_ref16_Parse (call : CallK) (N : Nat) (vs : List V) (H : Heap) (τ : Tape) (q : KV) : Ans := match vs with | [a0] => s_ref16_Parse call N a0 H τ q | _ => none
theorem e_ref16_Parse_ok : EntOk fn_ref16_Parse e_ref16_Parse := by
  intro call N vs H τ q r h
  unfold e_ref16_Parse at h
  split at h
  · rw [s_ref16_Parse_eq] at h; exact h
  · cases h
theorem e_ref16_Parse_nat : EntNat e_ref16_Parse := by
  intro c hn N vs H τ q
  unfold e_ref16_Parse
  split
  · rw [s_ref16_Parse_eq, s_ref16_Parse_eq]; exact funK_ent hn _ _ _ _ _ _
  · rfl
/-- ostiary/ostiaryref16.Vary -/
def fn_ref16_Vary : Fun := ⟨1, (.seq (.reg [iR 2 (.p .mv) [(.c .nils)], iR 3 (.p .mv) [(.c (.bool false))]]) (.keep [0] (.seq (.reg [iR 9 (.p .mv) [(.t 0)], iR 10 (.call 90) [(.t 9), (.c (.str (bs [118, 97, 114, 121])))], iR 8 (.p .mv) [(.t 10)], iR 11 (.p (.extract 0)) [(.t 8)], iR 12 (.p (.extract 1)) [(.t 8)], iR 4 (.p .mv) [(.t 11)], iR 5 (.p .mv) [(.t 12)]]) (.keep [4] (.seq (.reg [iR 6 (.p .mv) [(.c .nils)]]) (.keep [4, 6] (.seq (.seq (.reg [iR 7 (.p .mv) [(.c (.int .i64 (.ofNat 0)))]]) (.keep [4, 6, 7] (.block 0 (.loop (.keep [4, 6, 7] (.seq (.seq (.reg [iR 13 (.p .mv) [(.t 7)], iR 14 (.p .mv) [(.t 4)], iR 15 (.p .len) [(.t 14)], iR 16 (.p (.bin .lss)) [(.t 13), (.t 15)]]) (.keep [4, 6, 7, 16] (.cond (.t 16) .skip (.keep [6] (.exit 0))))) (.keep [4, 6, 7] (.seq (.block 1 (.seq (.seq (.reg [iR 19 (.p .mv) [(.t 4)], iR 20 (.p .mv) [(.t 7)],
    iR 21 (.p (.slIdx 1)) [(.t 19), (.t 20)], iR 22 (.l (.load none)) [(.t 21)], iR 23 (.p (.bin .eql)) [(.t 22), (.c (.str (bs [42])))]]) (.keep [4, 6, 7, 23] (.cond (.t 23) (.seq (.reg [iR 2 (.p .mv) [(.c .nils)], iR 3 (.p .mv) [(.c (.bool false))]]) (.keep [2, 3] (.keep [2, 3] .ret))) .skip))) (.keep [4, 6, 7] (.seq (.reg [iR 24 (.p .mv) [(.t 4)], iR 25 (.p .mv) [(.t 7)], iR 26 (.p (.slIdx 1)) [(.t 24), (.t 25)], iR 27 (.l (.load none)) [(.t 26)], iR 28 (.p (.bin .neq)) [(.t 27), (.c (.str []))]]) (.keep [4, 6, 7, 28] (.cond (.t 28) (.reg [iR 29 (.p .mv) [(.t 6)], iR 30 (.p .mv) [(.t 4)], iR 31 (.p .mv) [(.t 7)], iR 32 (.p (.slIdx 1)) [(.t 30), (.t 31)], iR 33 (.l (.load none)) [(.t 32)], iR 34 (.call 92) [(.t 33)], iR 35 (.e (.buildSlice 1 1 [(.str [])] [(0, 1)])) [(.t 34)], iR 36 (.e (.append 1 16)) [(.t 29), (.t 35)], iR 6 (.p .mv) [(.t 36)]]) .skip))))))
    (.keep [4, 6, 7] (.reg [iR 17 (.p .mv) [(.t 7)], iR 18 (.p (.bin .add)) [(.t 17), (.c (.int .i64 (.ofNat 1)))], iR 7 (.p .mv) [(.t 18)]])))))))))) (.keep [6] (.seq (.reg [iR 37 (.p .mv) [(.t 6)], iR 38 (.call 94) [(.t 37)], iR 2 (.p .mv) [(.t 38)], iR 3 (.p .mv) [(.c (.bool true))]]) (.keep [2, 3] (.keep [2, 3] .ret))))))))))), [(.t 2), (.t 3)]⟩
def s_ref16_Vary_j0 (call : CallK) (N : Nat) (q : KV) (st : St) (τ : Tape) : Ans := match st with
  | ⟨fr, H⟩ => getK fr 6 fun t6 => call f_ref1_Sorted [t6] H τ fun v5 H6 τ7 => q (.tup [v5, (.bool true)]) H6 τ7
def s_ref16_Vary_j2 (call : CallK) (N : Nat) (k : KC) (st : St) (τ : Tape) : Ans := match st with
  | ⟨fr, H⟩ => getK fr 4 fun t4 => getK fr 6 fun t6 => getK fr 7 fun t7 => binK .add t7 (.int .i64 (.ofNat 1)) fun v10 => k .normal ⟨(T.set (T.set (T.set (T.set (T.set (T.set .leaf 4 t4) 6 t6) 7 t7) 17 t7) 18 v10) 7 v10), H⟩ τ
def s_ref16_Vary_l1 (call : CallK) (N : Nat) (st : St) (τ : Tape) (k : KC) : Ans := match st with
  | ⟨fr, H⟩ => getK fr 4 fun t4 => getK fr 6 fun t6 => getK fr 7 fun t7 => someK (pLen [t4]) fun v8 => binK .lss t7 v8 fun v9 => condK v9 (someK (pSlIdx 1 [t4, t7]) fun v11 => someK (lLoad1 [v11] H) fun v12 => binK .eql v12 (.str (bs [42])) fun v13 => condK v13 (k .ret ⟨(T.set (T.set .leaf 2 .nils) 3 (.bool false)), H⟩ τ) (someK (pSlIdx 1 [t4, t7]) fun v14 => someK (lLoad1 [v14] H) fun v15 => binK .neq v15 (.str []) fun v16 => condK v16 (someK (pSlIdx 1 [t4, t7]) fun v17 => someK (lLoad1 [v17] H) fun v18 => call f_ref1_Lower [v18] H τ fun v19 H20 τ21 => effK (eBuildSlice 1 1 [(.str [])] [(0, 1)] [v19] H20 τ21) fun v22 H23 τ24 => effK (eAppend 1 16 [t6, v22] H23 τ24) fun v25 H26 τ27 =>
    s_ref16_Vary_j2 call N k ⟨(T.set (T.set (T.set (T.set (T.set (T.set (T.set (T.set (T.set (T.set (T.set (T.set (T.set .leaf 4 t4) 6 t6) 7 t7) 28 v16) 29 t6) 30 t4) 31 t7) 32 v17) 33 v18) 34 v19) 35 v22) 36 v25) 6 v25), H26⟩ τ27) (s_ref16_Vary_j2 call N k ⟨(T.set (T.set (T.set (T.set .leaf 4 t4) 6 t6) 7 t7) 28 v16), H⟩ τ))) (k (.exit 0) ⟨(T.set .leaf 6 t6), H⟩ τ)
def s_ref16_Vary (call : CallK) (N : Nat) (a0 : V) (H : Heap) (τ : Tape) (q : KV) : Ans := call f_ref5_Split [a0, (.str (bs [118, 97, 114, 121]))] H τ fun v0 H1 τ2 => someK (pExtract 0 [v0]) fun v3 => someK (pExtract 1 [v0]) fun v4 => loopK (s_ref16_Vary_l1 call N) N ⟨(T.set (T.set (T.set .leaf 4 v3) 6 .nils) 7 (.int .i64 (.ofNat 0))), H1⟩ τ2 (blockK 0 (seqK (s_ref16_Vary_j0 call N q) (endK [(.t 2), (.t 3)] q)))
theorem s_ref16_Vary_eq (call : CallK) (N : Nat) (a0 : V) (H : Heap) (τ : Tape) (q : KV) : s_ref16_Vary call N a0 H τ q = funK call N fn_ref16_Vary [a0] H τ q := by kernel_rfl
def e_ref16_Vary (call : CallK) (N : Nat) (vs : List V) (H : Heap) (τ : Tape) (q : KV) : Ans := match vs with | [a0] => s_ref16_Vary call N a0 H τ q | _ => none
theorem e_ref16_Vary_ok : EntOk fn_ref16_Vary e_ref16_Vary := by
  intro call N vs H τ q r h
  unfold e_ref16_Vary at h
  split at h
  · rw [s_ref16_Vary_eq] at h; exact h
  · cases h
theorem e_ref16_Vary_nat : EntNat e_ref16_Vary := by
  intro c hn N vs H τ q
  unfold e_ref16_Vary
  split
  · rw [s_ref16_Vary_eq, s_ref16_Vary_eq]; exact funK_ent hn _ _ _ _ _ _
  · rfl
/-- ostiary/ostiaryref16.Add -/
def fn_ref16_Add : Fun := ⟨2, (.seq (.reg [iR 4 (.p .mv) [(.c (.int .i64 (.ofNat 0)))]]) (.keep [0, 1] (.seq (.seq (.reg [iR 5 (.p .mv) [(.t 1)], iR 6 (.p (.bin .gtr)) [(.t 5), (.c (.int .i64 (.ofNat 0)))], iR 7 (.p .mv) [(.t 6)], iG 8 7 true (.p .mv) [(.t 0)], iG 9 7 true (.p .mv) [(.t 1)], iG 10 7 true (.p (.bin .sub)) [(.c (.int .i64 (.ofNat 9223372036854775807))), (.t 9)], iG 11 7 true (.p (.bin .gtr)) [(.t 8), (.t 10)], iR 12 (.p .pick) [(.t 7), (.t 11), (.c (.bool false))]]) (.keep [0, 1, 12] (.cond (.t 12) (.seq (.reg [iR 4 (.p .mv) [(.c (.int .i64 (.ofNat 9223372036854775807)))]]) (.keep [4] (.keep [4] .ret))) .skip))) (.keep [0, 1] (.seq (.seq (.reg [iR 13 (.p .mv) [(.t 1)], iR 14 (.p (.bin .lss)) [(.t 13), (.c (.int .i64 (.ofNat 0)))], iR 15 (.p .mv) [(.t 14)], iG 16 15 true (.p .mv) [(.t 0)], iG 17 15 true (.p .mv) [(.t 1)],
    iG 18 15 true (.p (.bin .sub)) [(.c (.int .i64 (.negSucc 9223372036854775807))), (.t 17)], iG 19 15 true (.p (.bin .lss)) [(.t 16), (.t 18)], iR 20 (.p .pick) [(.t 15), (.t 19), (.c (.bool false))]]) (.keep [0, 1, 20] (.cond (.t 20) (.seq (.reg [iR 4 (.p .mv) [(.c (.int .i64 (.ofNat 0)))]]) (.keep [4] (.keep [4] .ret))) .skip))) (.keep [0, 1] (.seq (.seq (.reg [iR 21 (.p .mv) [(.t 0)], iR 22 (.p .mv) [(.t 1)], iR 23 (.p (.bin .add)) [(.t 21), (.t 22)], iR 24 (.p (.bin .lss)) [(.t 23), (.c (.int .i64 (.ofNat 0)))]]) (.keep [0, 1, 24] (.cond (.t 24) (.seq (.reg [iR 4 (.p .mv) [(.c (.int .i64 (.ofNat 0)))]]) (.keep [4] (.keep [4] .ret))) .skip))) (.keep [0, 1] (.seq (.reg [iR 25 (.p .mv) [(.t 0)], iR 26 (.p .mv) [(.t 1)], iR 27 (.p (.bin .add)) [(.t 25), (.t 26)], iR 4 (.p .mv) [(.t 27)]]) (.keep [4] (.keep [4] .ret))))))))))), [(.t 4)]⟩
def s_ref16_Add (call : CallK) (N : Nat) (a0 a1 : V) (H : Heap) (τ : Tape) (q : KV) : Ans := binK .gtr a1 (.int .i64 (.ofNat 0)) fun v0 => gK v0 true (fun q' => q' a0 H τ) H τ fun v1 H2 τ3 => gK v0 true (fun q' => q' a1 H2 τ3) H2 τ3 fun v4 H5 τ6 => gK v0 true (fun q' => binK .sub (.int .i64 (.ofNat 9223372036854775807)) v4 fun v => q' v H5 τ6) H5 τ6 fun v7 H8 τ9 => gK v0 true (fun q' => binK .gtr v1 v7 fun v => q' v H8 τ9) H8 τ9 fun v10 H11 τ12 => someK (pPick [v0, v10, (.bool false)]) fun v13 => condK v13 (q (.int .i64 (.ofNat 9223372036854775807)) H11 τ12) (binK .lss a1 (.int .i64 (.ofNat 0)) fun v14 => gK v14 true (fun q' => q' a0 H11 τ12) H11 τ12 fun v15 H16 τ17 => gK v14 true (fun q' => q' a1 H16 τ17) H16 τ17 fun v18 H19 τ20 => gK v14 true (fun q' => binK .sub (.int .i64 (.negSucc 9223372036854775807)) v18 fun v => q' v H19 τ20) H19 τ20 fun v21 H22 τ23 =>
    gK v14 true (fun q' => binK .lss v15 v21 fun v => q' v H22 τ23) H22 τ23 fun v24 H25 τ26 => someK (pPick [v14, v24, (.bool false)]) fun v27 => condK v27 (q (.int .i64 (.ofNat 0)) H25 τ26) (binK .add a0 a1 fun v28 => binK .lss v28 (.int .i64 (.ofNat 0)) fun v29 => condK v29 (q (.int .i64 (.ofNat 0)) H25 τ26) (binK .add a0 a1 fun v30 => q v30 H25 τ26)))
theorem s_ref16_Add_eq (call : CallK) (N : Nat) (a0 a1 : V) (H : Heap) (τ : Tape) (q : KV) : s_ref16_Add call N a0 a1 H τ q = funK call N fn_ref16_Add [a0, a1] H τ q := by kernel_rfl
def e_ref16_Add (call : CallK) (N : Nat) (vs : List V) (H : Heap) (τ : Tape) (q : KV) : Ans := match vs with | [a0, a1] => s_ref16_Add call N a0 a1 H τ q | _ => none
theorem e_ref16_Add_ok : EntOk fn_ref16_Add e_ref16_Add := by
  intro call N vs H τ q r h
  unfold e_ref16_Add at h
  split at h
  · rw [s_ref16_Add_eq] at h; exact h
  · cases h
theorem e_ref16_Add_nat : EntNat e_ref16_Add := by
  intro c hn N vs H τ q
  unfold e_ref16_Add
  split
  · rw [s_ref16_Add_eq, s_ref16_Add_eq]; exact funK_ent hn _ _ _ _ _ _
  · rfl
/-- ostiary/ostiaryref16.Age -/
def fn_ref16_Age : Fun := ⟨3, (.seq (.reg [iR 6 (.p .mv) [(.c (.int .i64 (.ofNat 0)))]]) (.keep [0, 1, 2] (.seq (.reg [iR 13 (.p .mv) [(.t 0)], iR 14 (.call 95) [(.t 13), (.c (.str (bs [97, 103, 101])))], iR 12 (.p .mv) [(.t 14)], iR 15 (.p (.extract 0)) [(.t 12)], iR 16 (.p (.extract 1)) [(.t 12)], iR 7 (.p .mv) [(.t 15)], iR 8 (.p .mv) [(.t 16)]]) (.keep [1, 2, 7] (.seq (.reg [iR 18 (.p .mv) [(.t 7)], iR 19 (.call 91) [(.t 18)], iR 20 (.call 93) [(.t 19)], iR 17 (.p .mv) [(.t 20)], iR 21 (.p (.extract 0)) [(.t 17)], iR 22 (.p (.extract 1)) [(.t 17)], iR 9 (.p .mv) [(.t 21)], iR 10 (.p .mv) [(.t 22)]]) (.keep [1, 2, 9] (.seq (.seq (.reg [iR 23 (.p .mv) [(.t 2)], iR 24 (.p .mv) [(.t 1)], iR 25 (.p (.bin .leq)) [(.t 23), (.t 24)]]) (.keep [1, 2, 9, 25] (.cond (.t 25) (.seq (.reg [iR 26 (.p .mv) [(.t 9)], iR 6 (.p .mv) [(.t 26)]]) (.keep [6] (.keep [6] .ret))) .skip)))
    (.keep [1, 2, 9] (.seq (.reg [iR 27 (.p .mv) [(.t 2)], iR 28 (.p .mv) [(.t 1)], iR 29 (.p (.bin .sub)) [(.t 27), (.t 28)], iR 11 (.p .mv) [(.t 29)]]) (.keep [9, 11] (.seq (.seq (.reg [iR 30 (.p .mv) [(.t 11)], iR 31 (.p (.bin .lss)) [(.t 30), (.c (.int .i64 (.ofNat 0)))]]) (.keep [9, 11, 31] (.cond (.t 31) (.reg [iR 11 (.p .mv) [(.c (.int .i64 (.ofNat 9223372036854775807)))]]) .skip))) (.keep [9, 11] (.seq (.reg [iR 32 (.p .mv) [(.t 9)], iR 33 (.p .mv) [(.t 11)], iR 34 (.call 42) [(.t 32), (.t 33)], iR 6 (.p .mv) [(.t 34)]]) (.keep [6] (.keep [6] .ret))))))))))))))), [(.t 6)]⟩
def s_ref16_Age_j0 (call : CallK) (N : Nat) (q : KV) (st : St) (τ : Tape) : Ans := match st with
  | ⟨fr, H⟩ => getK fr 9 fun t9 => getK fr 11 fun t11 => call f_ref16_Add [t9, t11] H τ fun v16 H17 τ18 => q v16 H17 τ18
def s_ref16_Age (call : CallK) (N : Nat) (a0 a1 a2 : V) (H : Heap) (τ : Tape) (q : KV) : Ans := call f_ref5_Get [a0, (.str (bs [97, 103, 101]))] H τ fun v0 H1 τ2 => someK (pExtract 0 [v0]) fun v3 => someK (pExtract 1 [v0]) fun v4 => call f_ref1_Strip [v3] H1 τ2 fun v5 H6 τ7 => call f_ref1_Int [v5] H6 τ7 fun v8 H9 τ10 => someK (pExtract 0 [v8]) fun v11 => someK (pExtract 1 [v8]) fun v12 => binK .leq a2 a1 fun v13 => condK v13 (q v11 H9 τ10) (binK .sub a2 a1 fun v14 => binK .lss v14 (.int .i64 (.ofNat 0)) fun v15 => condK v15 (s_ref16_Age_j0 call N q ⟨(T.set (T.set (T.set (T.set .leaf 9 v11) 11 v14) 31 v15) 11 (.int .i64 (.ofNat 9223372036854775807))), H9⟩ τ10) (s_ref16_Age_j0 call N q ⟨(T.set (T.set (T.set .leaf 9 v11) 11 v14) 31 v15), H9⟩ τ10))
theorem s_ref16_Age_eq (call : CallK) (N : Nat) (a0 a1 a2 : V) (H : Heap) (τ : Tape) (q : KV) : s_ref16_Age call N a0 a1 a2 H τ q = funK call N fn_ref16_Age [a0, a1, a2] H τ q := by kernel_rfl
def e_ref16_Age (call : CallK) (N : Nat) (vs : List V) (H : Heap) (τ : Tape) (q : KV) : Ans := match vs with | [a0, a1, a2] => s_ref16_Age call N a0 a1 a2 H τ q | _ => none
theorem e_ref16_Age_ok : EntOk fn_ref16_Age e_ref16_Age := by
  intro call N vs H τ q r h
  unfold e_ref16_Age at h
  split at h
  · rw [s_ref16_Age_eq] at h; exact h
  · cases h
theorem e_ref16_Age_nat : EntNat e_ref16_Age := by
  intro c hn N vs H τ q
  unfold e_ref16_Age
  split
  · rw [s_ref16_Age_eq, s_ref16_Age_eq]; exact funK_ent hn _ _ _ _ _ _
  · rfl
/-- ostiary/ostiaryref16.Fresh -/
def fn_ref16_Fresh : Fun := ⟨3, (.seq (.reg [iR 6 (.p .mv) [(.c (.bool false))]]) (.keep [0, 1, 2] (.seq (.reg [iR 8 (.p .mv) [(.t 0)], iR 9 (.call 40) [(.t 8)], iR 7 (.e (.alloc [(.bool false), (.bool false), (.int .i64 (.ofNat 0))])) [], ⟨none, none, (.e (.store 3)), [(.t 7), (.t 9)], none⟩]) (.keep [0, 1, 2, 7] (.seq (.draw [iR 10 (.p (.fieldAddr 1)) [(.t 7)], iR 11 (.l (.load none)) [(.t 10)], iR 12 (.p (.un .not)) [(.t 11)], iR 13 (.p .mv) [(.t 12)], iG 14 13 true (.p (.fieldAddr 2)) [(.t 7)], ⟨(some 15), some (13, true), (.l (.load none)), [(.t 14)], some (0, 1)⟩, iG 16 13 true (.p .mv) [(.t 0)], iG 17 13 true (.p .mv) [(.t 1)], iG 18 13 true (.p .mv) [(.t 2)], iG 19 13 true (.call 43) [(.t 16), (.t 17), (.t 18)], iG 20 13 true (.p (.bin .gtr)) [(.t 15), (.t 19)], iR 21 (.p .pick) [(.t 13), (.t 20), (.c (.bool false))], iR 6 (.p .mv) [(.t 21)]]) (.keep [6] (.keep [6] .ret))))))),
    [(.t 6)]⟩
def s_ref16_Fresh (call : CallK) (N : Nat) (a0 a1 a2 : V) (H : Heap) (τ : Tape) (q : KV) : Ans := call f_ref16_Parse [a0] H τ fun v0 H1 τ2 => effK (eAlloc [(.bool false), (.bool false), (.int .i64 (.ofNat 0))] [] H1 τ2) fun v3 H4 τ5 => effK (eStore 3 [v3, v0] H4 τ5) fun v6 H7 τ8 => someK (pFieldAddr 1 [v3]) fun v9 => someK (lLoad1 [v9] H7) fun v10 => unK .not v10 fun v11 => gK v11 true (fun q' => someK (pFieldAddr 2 [v3]) fun v => q' v H7 τ8) H7 τ8 fun v12 H13 τ14 => gK v11 true (fun q' => someK (lLoad1 [v12] H13) fun v => q' v H13 τ14) H13 τ14 fun v15 H16 τ17 => gK v11 true (fun q' => q' a0 H16 τ17) H16 τ17 fun v18 H19 τ20 => gK v11 true (fun q' => q' a1 H19 τ20) H19 τ20 fun v21 H22 τ23 => gK v11 true (fun q' => q' a2 H22 τ23) H22 τ23 fun v24 H25 τ26 => gK v11 true (fun q' => call f_ref16_Age [v18, v21, v24] H25 τ26 q') H25 τ26 fun v27 H28 τ29 =>
    gK v11 true (fun q' => binK .gtr v15 v27 fun v => q' v H28 τ29) H28 τ29 fun v30 H31 τ32 => someK (pPick [v11, v30, (.bool false)]) fun v33 => bif chkLoads [H7, H28] (match wantsV v11 true with | some true => (((.load none), [v12], 0, 1) :: []) | _ => []) then q v33 H31 τ32 else none
theorem s_ref16_Fresh_eq (call : CallK) (N : Nat) (a0 a1 a2 : V) (H : Heap) (τ : Tape) (q : KV) : s_ref16_Fresh call N a0 a1 a2 H τ q = funK call N fn_ref16_Fresh [a0, a1, a2] H τ q := by kernel_rfl
def e_ref16_Fresh (call : CallK) (N : Nat) (vs : List V) (H : Heap) (τ : Tape) (q : KV) : Ans := match vs with | [a0, a1, a2] => s_ref16_Fresh call N a0 a1 a2 H τ q | _ => none
theorem e_ref16_Fresh_ok : EntOk fn_ref16_Fresh e_ref16_Fresh := by
  intro call N vs H τ q r h
  unfold e_ref16_Fresh at h
  split at h
  · rw [s_ref16_Fresh_eq] at h; exact h
  · cases h
theorem e_ref16_Fresh_nat : EntNat e_ref16_Fresh := by
  intro c hn N vs H τ q
  unfold e_ref16_Fresh
  split
  · rw [s_ref16_Fresh_eq, s_ref16_Fresh_eq]; exact funK_ent hn _ _ _ _ _ _
  · rfl
/-- strings.ContainsRune -/
def fn_strings_ContainsRune : Fun := ⟨2, (.seq (.reg [iR 4 (.p .mv) [(.c (.bool false))]]) (.keep [0, 1] (.seq (.reg [iR 5 (.p .mv) [(.t 0)], iR 6 (.p .mv) [(.t 1)], iR 7 (.call 102) [(.t 5), (.t 6)], iR 8 (.p (.bin .geq)) [(.t 7), (.c (.int .i64 (.ofNat 0)))], iR 4 (.p .mv) [(.t 8)]]) (.keep [4] (.keep [4] .ret))))), [(.t 4)]⟩
def s_strings_ContainsRune (call : CallK) (N : Nat) (a0 a1 : V) (H : Heap) (τ : Tape) (q : KV) : Ans := call f_strings_IndexRune [a0, a1] H τ fun v0 H1 τ2 => binK .geq v0 (.int .i64 (.ofNat 0)) fun v3 => q v3 H1 τ2
theorem s_strings_ContainsRune_eq (call : CallK) (N : Nat) (a0 a1 : V) (H : Heap) (τ : Tape) (q : KV) : s_strings_ContainsRune call N a0 a1 H τ q = funK call N fn_strings_ContainsRune [a0, a1] H τ q := by kernel_rfl
def e_strings_ContainsRune (call : CallK) (N : Nat) (vs : List V) (H : Heap) (τ : Tape) (q : KV) : Ans := match vs with | [a0, a1] => s_strings_ContainsRune call N a0 a1 H τ q | _ => none
theorem e_strings_ContainsRune_ok : EntOk fn_strings_ContainsRune e_strings_ContainsRune := by
  intro call N vs H τ q r h
  unfold e_strings_ContainsRune at h
  split at h
  · rw [s_strings_ContainsRune_eq] at h; exact h
  · cases h
theorem e_strings_ContainsRune_nat : EntNat e_strings_ContainsRune := by
  intro c hn N vs H τ q
  unfold e_strings_ContainsRune
  split
  · rw [s_strings_ContainsRune_eq, s_strings_ContainsRune_eq]; exact funK_ent hn _ _ _ _ _ _
  · rfl
/-- strings.Cut -/
def fn_strings_Cut : Fun := ⟨2, (.seq (.reg [iR 4 (.p .mv) [(.c (.str []))], iR 5 (.p .mv) [(.c (.str []))], iR 6 (.p .mv) [(.c (.bool false))]]) (.keep [0, 1] (.seq (.reg [iR 7 (.p .mv) [(.t 0)], iR 8 (.p .mv) [(.t 1)], iR 9 (.call 103) [(.t 7), (.t 8)], iR 10 (.p (.extract 0)) [(.t 9)], iR 11 (.p (.extract 1)) [(.t 9)], iR 12 (.p (.extract 2)) [(.t 9)], iR 4 (.p .mv) [(.t 10)], iR 5 (.p .mv) [(.t 11)], iR 6 (.p .mv) [(.t 12)]]) (.keep [4, 5, 6] (.keep [4, 5, 6] .ret))))), [(.t 4), (.t 5), (.t 6)]⟩
def s_strings_Cut (call : CallK) (N : Nat) (a0 a1 : V) (H : Heap) (τ : Tape) (q : KV) : Ans := call f_stringslite_Cut [a0, a1] H τ fun v0 H1 τ2 => someK (pExtract 0 [v0]) fun v3 => someK (pExtract 1 [v0]) fun v4 => someK (pExtract 2 [v0]) fun v5 => q (.tup [v3, v4, v5]) H1 τ2
theorem s_strings_Cut_eq (call : CallK) (N : Nat) (a0 a1 : V) (H : Heap) (τ : Tape) (q : KV) : s_strings_Cut call N a0 a1 H τ q = funK call N fn_strings_Cut [a0, a1] H τ q := by kernel_rfl
def e_strings_Cut (call : CallK) (N : Nat) (vs : List V) (H : Heap) (τ : Tape) (q : KV) : Ans := match vs with | [a0, a1] => s_strings_Cut call N a0 a1 H τ q | _ => none
theorem e_strings_Cut_ok : EntOk fn_strings_Cut e_strings_Cut := by
  intro call N vs H τ q r h
  unfold e_strings_Cut at h
  split at h
  · rw [s_strings_Cut_eq] at h; exact h
  · cases h
theorem e_strings_Cut_nat : EntNat e_strings_Cut := by
  intro c hn N vs H τ q
  unfold e_strings_Cut
  split
  · rw [s_strings_Cut_eq, s_strings_Cut_eq]; exact funK_ent hn _ _ _ _ _ _
  · rfl
/-- ostiary/ostiaryref1.Part -/
def fn_ref1_Part : Fun := ⟨2, (.seq (.reg [iR 4 (.p .mv) [(.c (.str []))], iR 5 (.p .mv) [(.c (.str []))], iR 6 (.p .mv) [(.c (.bool false))]]) (.keep [0, 1] (.seq (.seq (.reg [iR 7 (.p .mv) [(.c (.int .i64 (.ofNat 0)))]]) (.keep [0, 1, 7] (.block 0 (.loop (.keep [0, 1, 7] (.seq (.seq (.reg [iR 8 (.p .mv) [(.t 7)], iR 9 (.p .mv) [(.t 0)], iR 10 (.p .lenS) [(.t 9)], iR 11 (.p (.bin .lss)) [(.t 8), (.t 10)]]) (.keep [0, 1, 7, 11] (.cond (.t 11) .skip (.keep [0] (.exit 0))))) (.keep [0, 1, 7] (.seq (.block 1 (.seq (.reg [iR 14 (.p .mv) [(.t 0)], iR 15 (.p .mv) [(.t 7)], iR 16 (.p .strIndex) [(.t 14), (.t 15)], iR 17 (.p .mv) [(.t 1)], iR 18 (.p (.bin .eql)) [(.t 16), (.t 17)]]) (.keep [0, 1, 7, 18] (.cond (.t 18) (.seq (.draw [iR 19 (.p .mv) [(.t 0)], iR 20 (.p .mv) [(.t 7)], iR 21 (.p (.strSlice false true)) [(.t 19), (.t 20)], iR 22 (.p .mv) [(.t 0)], iR 23 (.p .mv) [(.t 7)],
    iR 24 (.p (.bin .add)) [(.t 23), (.c (.int .i64 (.ofNat 1)))], iR 25 (.p (.strSlice true false)) [(.t 22), (.t 24)], iR 4 (.p .mv) [(.t 21)], iR 5 (.p .mv) [(.t 25)], iR 6 (.p .mv) [(.c (.bool true))]]) (.keep [4, 5, 6] (.keep [4, 5, 6] .ret))) .skip)))) (.keep [0, 1, 7] (.reg [iR 12 (.p .mv) [(.t 7)], iR 13 (.p (.bin .add)) [(.t 12), (.c (.int .i64 (.ofNat 1)))], iR 7 (.p .mv) [(.t 13)]])))))))))) (.keep [0] (.seq (.reg [iR 26 (.p .mv) [(.t 0)], iR 4 (.p .mv) [(.t 26)], iR 5 (.p .mv) [(.c (.str []))], iR 6 (.p .mv) [(.c (.bool false))]]) (.keep [4, 5, 6] (.keep [4, 5, 6] .ret))))))), [(.t 4), (.t 5), (.t 6)]⟩
def s_ref1_Part_j0 (call : CallK) (N : Nat) (q : KV) (st : St) (τ : Tape) : Ans := match st with
  | ⟨fr, H⟩ => getK fr 0 fun t0 => q (.tup [t0, (.str []), (.bool false)]) H τ
def s_ref1_Part_l1 (call : CallK) (N : Nat) (st : St) (τ : Tape) (k : KC) : Ans := match st with
  | ⟨fr, H⟩ => getK fr 0 fun t0 => getK fr 1 fun t1 => getK fr 7 fun t7 => someK (pLenS [t0]) fun v0 => binK .lss t7 v0 fun v1 => condK v1 (someK (pStrIndex [t0, t7]) fun v2 => binK .eql v2 t1 fun v3 => condK v3 (someK (pStrSlice false true [t0, t7]) fun v4 => binK .add t7 (.int .i64 (.ofNat 1)) fun v5 => someK (pStrSlice true false [t0, v5]) fun v6 => k .ret ⟨(T.set (T.set (T.set .leaf 4 v4) 5 v6) 6 (.bool true)), H⟩ τ) (binK .add t7 (.int .i64 (.ofNat 1)) fun v7 => k .normal ⟨(T.set (T.set (T.set (T.set (T.set (T.set .leaf 0 t0) 1 t1) 7 t7) 12 t7) 13 v7) 7 v7), H⟩ τ)) (k (.exit 0) ⟨(T.set .leaf 0 t0), H⟩ τ)
def s_ref1_Part (call : CallK) (N : Nat) (a0 a1 : V) (H : Heap) (τ : Tape) (q : KV) : Ans := loopK (s_ref1_Part_l1 call N) N ⟨(T.set (T.set (T.set .leaf 0 a0) 1 a1) 7 (.int .i64 (.ofNat 0))), H⟩ τ (blockK 0 (seqK (s_ref1_Part_j0 call N q) (endK [(.t 4), (.t 5), (.t 6)] q)))
theorem s_ref1_Part_eq (call : CallK) (N : Nat) (a0 a1 : V) (H : Heap) (τ : Tape) (q : KV) : s_ref1_Part call N a0 a1 H τ q = funK call N fn_ref1_Part [a0, a1] H τ q := by kernel_rfl
def e_ref1_Part (call : CallK) (N : Nat) (vs : List V) (H : Heap) (τ : Tape) (q : KV) : Ans := match vs with | [a0, a1] => s_ref1_Part call N a0 a1 H τ q | _ => none
theorem e_ref1_Part_ok : EntOk fn_ref1_Part e_ref1_Part := by
  intro call N vs H τ q r h
  unfold e_ref1_Part at h
  split at h
  · rw [s_ref1_Part_eq] at h; exact h
  · cases h
theorem e_ref1_Part_nat : EntNat e_ref1_Part := by
  intro c hn N vs H τ q
  unfold e_ref1_Part
  split
  · rw [s_ref1_Part_eq, s_ref1_Part_eq]; exact funK_ent hn _ _ _ _ _ _
  · rfl
/-- ostiary/headers.Get -/
def fn_headers_Get : Fun := ⟨2, (.seq (.reg [iR 4 (.p .mv) [(.c (.str []))], iR 5 (.p .mv) [(.c (.bool false))]]) (.keep [0, 1] (.seq (.reg [iR 6 (.p .mv) [(.c .nils)]]) (.keep [0, 1, 6] (.seq (.seq (.reg [iR 9 (.p .mv) [(.t 0)], iR 10 (.p .len) [(.t 9)], iR 11 (.p .mv) [(.c (.int .i64 (.ofNat 0)))]]) (.keep [1, 6, 9, 10, 11] (.block 0 (.loop (.keep [1, 6, 9, 10, 11] (.seq (.reg [iR 12 (.p (.bin .lss)) [(.t 11), (.t 10)]]) (.keep [1, 6, 9, 10, 11, 12] (.seq (.cond (.t 12) .skip (.keep [6] (.exit 0))) (.keep [1, 6, 9, 10, 11] (.seq (.block 1 (.seq (.reg [iR 13 (.p (.slIdx 2)) [(.t 9), (.t 11)], iR 14 (.l (.load (some 2))) [(.t 13)], iR 8 (.e (.alloc [(.str []), (.str [])])) [], ⟨none, none, (.e (.store 2)), [(.t 8), (.t 14)], none⟩]) (.keep [1, 6, 8, 9, 10, 11] (.seq (.reg [iR 15 (.l (.load (some 2))) [(.t 8)], iR 16 (.p .mv) [(.t 1)], iR 17 (.call 113) [(.t 15), (.t 16)]])
    (.keep [1, 6, 8, 9, 10, 11, 17] (.cond (.t 17) (.reg [iR 18 (.p .mv) [(.t 6)], iR 19 (.p (.fieldAddr 1)) [(.t 8)], iR 20 (.l (.load none)) [(.t 19)], iR 21 (.e (.buildSlice 1 1 [(.str [])] [(0, 1)])) [(.t 20)], iR 22 (.e (.append 1 16)) [(.t 18), (.t 21)], iR 6 (.p .mv) [(.t 22)]]) .skip)))))) (.keep [1, 6, 9, 10, 11] (.reg [iR 23 (.p (.bin .add)) [(.t 11), (.c (.int .i64 (.ofNat 1)))], iR 11 (.p .mv) [(.t 23)]])))))))))))) (.keep [6] (.seq (.reg [iR 24 (.p .mv) [(.t 6)], iR 25 (.call 114) [(.t 24), (.c (.str (bs [44, 32])))], iR 26 (.p .mv) [(.t 6)], iR 27 (.p .len) [(.t 26)], iR 28 (.p (.bin .gtr)) [(.t 27), (.c (.int .i64 (.ofNat 0)))], iR 4 (.p .mv) [(.t 25)], iR 5 (.p .mv) [(.t 28)]]) (.keep [4, 5] (.keep [4, 5] .ret))))))))), [(.t 4), (.t 5)]⟩
def s_headers_Get_j0 (call : CallK) (N : Nat) (q : KV) (st : St) (τ : Tape) : Ans := match st with
  | ⟨fr, H⟩ => getK fr 6 fun t6 => call f_strings_Join [t6, (.str (bs [44, 32]))] H τ fun v1 H2 τ3 => someK (pLen [t6]) fun v4 => binK .gtr v4 (.int .i64 (.ofNat 0)) fun v5 => q (.tup [v1, v5]) H2 τ3
def s_headers_Get_j2 (call : CallK) (N : Nat) (k : KC) (st : St) (τ : Tape) : Ans := match st with
  | ⟨fr, H⟩ => getK fr 1 fun t1 => getK fr 6 fun t6 => getK fr 9 fun t9 => getK fr 10 fun t10 => getK fr 11 fun t11 => binK .add t11 (.int .i64 (.ofNat 1)) fun v7 => k .normal ⟨(T.set (T.set (T.set (T.set (T.set (T.set (T.set .leaf 1 t1) 6 t6) 9 t9) 10 t10) 11 t11) 23 v7) 11 v7), H⟩ τ
def s_headers_Get_l1 (call : CallK) (N : Nat) (st : St) (τ : Tape) (k : KC) : Ans := match st with
  | ⟨fr, H⟩ => getK fr 1 fun t1 => getK fr 6 fun t6 => getK fr 9 fun t9 => getK fr 10 fun t10 => getK fr 11 fun t11 => binK .lss t11 t10 fun v6 => condK v6 (someK (pSlIdx 2 [t9, t11]) fun v8 => someK (lLoadN 2 [v8] H) fun v9 => effK (eAlloc [(.str []), (.str [])] [] H τ) fun v10 H11 τ12 => effK (eStore 2 [v10, v9] H11 τ12) fun v13 H14 τ15 => someK (lLoadN 2 [v10] H14) fun v16 => call f_headers_is [v16, t1] H14 τ15 fun v17 H18 τ19 => condK v17 (someK (pFieldAddr 1 [v10]) fun v20 => someK (lLoad1 [v20] H18) fun v21 => effK (eBuildSlice 1 1 [(.str [])] [(0, 1)] [v21] H18 τ19) fun v22 H23 τ24 => effK (eAppend 1 16 [t6, v22] H23 τ24) fun v25 H26 τ27 => s_headers_Get_j2 call N k ⟨(T.set (T.set (T.set (T.set (T.set (T.set (T.set (T.set (T.set (T.set (T.set (T.set (T.set .leaf 1 t1) 6 t6) 8 v10) 9 t9) 10 t10) 11 t11) 17 v17) 18 t6) 19 v20) 20 v21) 21 v22) 22 v25) 6 v25), H26⟩ τ27)
    (s_headers_Get_j2 call N k ⟨(T.set (T.set (T.set (T.set (T.set (T.set (T.set .leaf 1 t1) 6 t6) 8 v10) 9 t9) 10 t10) 11 t11) 17 v17), H18⟩ τ19)) (k (.exit 0) ⟨(T.set .leaf 6 t6), H⟩ τ)
def s_headers_Get (call : CallK) (N : Nat) (a0 a1 : V) (H : Heap) (τ : Tape) (q : KV) : Ans := someK (pLen [a0]) fun v0 => loopK (s_headers_Get_l1 call N) N ⟨(T.set (T.set (T.set (T.set (T.set .leaf 1 a1) 6 .nils) 9 a0) 10 v0) 11 (.int .i64 (.ofNat 0))), H⟩ τ (blockK 0 (seqK (s_headers_Get_j0 call N q) (endK [(.t 4), (.t 5)] q)))
theorem s_headers_Get_eq (call : CallK) (N : Nat) (a0 a1 : V) (H : Heap) (τ : Tape) (q : KV) : s_headers_Get call N a0 a1 H τ q = funK call N fn_headers_Get [a0, a1] H τ q := by kernel_rfl
def e_headers_Get (call : CallK) (N : Nat) (vs : List V) (H : Heap) (τ : Tape) (q : KV) : Ans := match vs with | [a0, a1] => s_headers_Get call N a0 a1 H τ q | _ => none
theorem e_headers_Get_ok : EntOk fn_headers_Get e_headers_Get := by
  intro call N vs H τ q r h
  unfold e_headers_Get at h
  split at h
  · rw [s_headers_Get_eq] at h; exact h
  · cases h
theorem e_headers_Get_nat : EntNat e_headers_Get := by
  intro c hn N vs H τ q
  unfold e_headers_Get
  split
  · rw [s_headers_Get_eq, s_headers_Get_eq]; exact funK_ent hn _ _ _ _ _ _
  · rfl
/-- ostiary/infra.Int -/
def fn_infra_Int : Fun := ⟨1, (.seq (.reg [iR 2 (.p .mv) [(.c (.int .i64 (.ofNat 0)))], iR 3 (.p .mv) [(.c (.bool false))]]) (.keep [0] (.seq (.reg [iR 4 (.p .mv) [(.c (.int .i64 (.ofNat 0)))]]) (.keep [0, 4] (.seq (.seq (.reg [iR 8 (.p .mv) [(.t 0)], iR 9 (.p .lenS) [(.t 8)], iR 10 (.p .mv) [(.c (.int .i64 (.ofNat 0)))]]) (.keep [0, 4, 9, 10] (.block 0 (.loop (.keep [0, 4, 9, 10] (.seq (.reg [iR 11 (.p (.bin .lss)) [(.t 10), (.t 9)]]) (.keep [0, 4, 9, 10, 11] (.seq (.cond (.t 11) .skip (.keep [0, 4] (.exit 0))) (.keep [0, 4, 9, 10] (.seq (.block 1 (.seq (.reg [iR 12 (.p .mv) [(.t 10)], iR 5 (.p .mv) [(.t 12)]]) (.keep [0, 4, 5, 9, 10] (.seq (.reg [iR 13 (.p .mv) [(.t 0)], iR 14 (.p .mv) [(.t 5)], iR 15 (.p .strIndex) [(.t 13), (.t 14)], iR 6 (.p .mv) [(.t 15)]]) (.keep [0, 4, 6, 9, 10] (.seq (.seq (.reg [iR 16 (.p .mv) [(.t 6)],
    iR 17 (.p (.bin .lss)) [(.t 16), (.c (.int .u8 (.ofNat 48)))], iR 18 (.p .mv) [(.t 17)], iG 19 18 false (.p .mv) [(.t 6)], iG 20 18 false (.p (.bin .gtr)) [(.t 19), (.c (.int .u8 (.ofNat 57)))], iR 21 (.p .pick) [(.t 18), (.c (.bool true)), (.t 20)]]) (.keep [0, 4, 6, 9, 10, 21] (.cond (.t 21) (.seq (.reg [iR 2 (.p .mv) [(.c (.int .i64 (.ofNat 0)))], iR 3 (.p .mv) [(.c (.bool false))]]) (.keep [2, 3] (.keep [2, 3] .ret))) .skip))) (.keep [0, 4, 6, 9, 10] (.seq (.reg [iR 22 (.p .mv) [(.t 6)], iR 23 (.p (.bin .sub)) [(.t 22), (.c (.int .u8 (.ofNat 48)))], iR 24 (.p (.toInt .i64)) [(.t 23)], iR 7 (.p .mv) [(.t 24)]]) (.keep [0, 4, 7, 9, 10] (.seq (.seq (.reg [iR 25 (.p .mv) [(.t 4)], iR 26 (.p .mv) [(.t 7)], iR 27 (.p (.bin .sub)) [(.c (.int .i64 (.ofNat 9223372036854775807))), (.t 26)], iR 28 (.p (.bin .quo)) [(.t 27), (.c (.int .i64 (.ofNat 10)))],
    iR 29 (.p (.bin .gtr)) [(.t 25), (.t 28)]]) (.keep [0, 4, 7, 9, 10, 29] (.cond (.t 29) (.seq (.reg [iR 4 (.p .mv) [(.c (.int .i64 (.ofNat 9223372036854775807)))]]) (.keep [0, 4, 9, 10] (.keep [0, 4, 9, 10] (.exit 1)))) .skip))) (.keep [0, 4, 7, 9, 10] (.reg [iR 30 (.p .mv) [(.t 4)], iR 31 (.p (.bin .mul)) [(.t 30), (.c (.int .i64 (.ofNat 10)))], iR 32 (.p .mv) [(.t 7)], iR 33 (.p (.bin .add)) [(.t 31), (.t 32)], iR 4 (.p .mv) [(.t 33)]])))))))))))) (.keep [0, 4, 9, 10] (.reg [iR 34 (.p (.bin .add)) [(.t 10), (.c (.int .i64 (.ofNat 1)))], iR 10 (.p .mv) [(.t 34)]])))))))))))) (.keep [0, 4] (.seq (.reg [iR 35 (.p .mv) [(.t 4)], iR 36 (.p .mv) [(.t 0)], iR 37 (.p .lenS) [(.t 36)], iR 38 (.p (.bin .gtr)) [(.t 37), (.c (.int .i64 (.ofNat 0)))], iR 2 (.p .mv) [(.t 35)], iR 3 (.p .mv) [(.t 38)]]) (.keep [2, 3] (.keep [2, 3] .ret))))))))), [(.t 2), (.t 3)]⟩
def s_infra_Int_j0 (call : CallK) (N : Nat) (q : KV) (st : St) (τ : Tape) : Ans := match st with
  | ⟨fr, H⟩ => getK fr 0 fun t0 => getK fr 4 fun t4 => someK (pLenS [t0]) fun v1 => binK .gtr v1 (.int .i64 (.ofNat 0)) fun v2 => q (.tup [t4, v2]) H τ
def s_infra_Int_j2 (call : CallK) (N : Nat) (k : KC) (st : St) (τ : Tape) : Ans := match st with
  | ⟨fr, H⟩ => getK fr 0 fun t0 => getK fr 4 fun t4 => getK fr 9 fun t9 => getK fr 10 fun t10 => binK .add t10 (.int .i64 (.ofNat 1)) fun v4 => k .normal ⟨(T.set (T.set (T.set (T.set (T.set (T.set .leaf 0 t0) 4 t4) 9 t9) 10 t10) 34 v4) 10 v4), H⟩ τ
def s_infra_Int_l1 (call : CallK) (N : Nat) (st : St) (τ : Tape) (k : KC) : Ans := match st with
  | ⟨fr, H⟩ => getK fr 0 fun t0 => getK fr 4 fun t4 => getK fr 9 fun t9 => getK fr 10 fun t10 => binK .lss t10 t9 fun v3 => condK v3 (someK (pStrIndex [t0, t10]) fun v5 => binK .lss v5 (.int .u8 (.ofNat 48)) fun v6 => gK v6 false (fun q' => q' v5 H τ) H τ fun v7 H8 τ9 => gK v6 false (fun q' => binK .gtr v7 (.int .u8 (.ofNat 57)) fun v => q' v H8 τ9) H8 τ9 fun v10 H11 τ12 => someK (pPick [v6, (.bool true), v10]) fun v13 => condK v13 (k .ret ⟨(T.set (T.set .leaf 2 (.int .i64 (.ofNat 0))) 3 (.bool false)), H11⟩ τ12) (binK .sub v5 (.int .u8 (.ofNat 48)) fun v14 => toIntK .i64 v14 fun v15 => binK .sub (.int .i64 (.ofNat 9223372036854775807)) v15 fun v16 => binK .quo v16 (.int .i64 (.ofNat 10)) fun v17 => binK .gtr t4 v17 fun v18 => condK v18 (s_infra_Int_j2 call N k ⟨(T.set (T.set (T.set (T.set .leaf 0 t0) 4 (.int .i64 (.ofNat 9223372036854775807))) 9 t9) 10 t10), H11⟩ τ12)
    (binK .mul t4 (.int .i64 (.ofNat 10)) fun v19 => binK .add v19 v15 fun v20 => s_infra_Int_j2 call N k ⟨(T.set (T.set (T.set (T.set (T.set (T.set (T.set (T.set (T.set (T.set .leaf 0 t0) 4 t4) 7 v15) 9 t9) 10 t10) 30 t4) 31 v19) 32 v15) 33 v20) 4 v20), H11⟩ τ12))) (k (.exit 0) ⟨(T.set (T.set .leaf 0 t0) 4 t4), H⟩ τ)
def s_infra_Int (call : CallK) (N : Nat) (a0 : V) (H : Heap) (τ : Tape) (q : KV) : Ans := someK (pLenS [a0]) fun v0 => loopK (s_infra_Int_l1 call N) N ⟨(T.set (T.set (T.set (T.set .leaf 0 a0) 4 (.int .i64 (.ofNat 0))) 9 v0) 10 (.int .i64 (.ofNat 0))), H⟩ τ (blockK 0 (seqK (s_infra_Int_j0 call N q) (endK [(.t 2), (.t 3)] q)))
theorem s_infra_Int_eq (call : CallK) (N : Nat) (a0 : V) (H : Heap) (τ : Tape) (q : KV) : s_infra_Int call N a0 H τ q = funK call N fn_infra_Int [a0] H τ q := by kernel_rfl
def e_infra_Int (call : CallK) (N : Nat) (vs : List V) (H : Heap) (τ : Tape) (q : KV) : Ans := match vs with | [a0] => s_infra_Int call N a0 H τ q | _ => none
theorem e_infra_Int_ok : EntOk fn_infra_Int e_infra_Int := by
  intro call N vs H τ q r h
  unfold e_infra_Int at h
  split at h
  · rw [s_infra_Int_eq] at h; exact h
  · cases h
theorem e_infra_Int_nat : EntNat e_infra_Int := by
  intro c hn N vs H τ q
  unfold e_infra_Int
  split
  · rw [s_infra_Int_eq, s_infra_Int_eq]; exact funK_ent hn _ _ _ _ _ _
  · rfl
/-- ostiary/infra.Strip -/
def fn_infra_Strip : Fun := ⟨1, (.seq (.reg [iR 2 (.p .mv) [(.c (.str []))]]) (.keep [0] (.seq (.reg [iR 3 (.p .mv) [(.t 0)], iR 4 (.call 115) [(.t 3), (.c (.str (bs [9, 10, 12, 13, 32])))], iR 2 (.p .mv) [(.t 4)]]) (.keep [2] (.keep [2] .ret))))), [(.t 2)]⟩
def s_infra_Strip (call : CallK) (N : Nat) (a0 : V) (H : Heap) (τ : Tape) (q : KV) : Ans := call f_strings_Trim [a0, (.str (bs [9, 10, 12, 13, 32]))] H τ fun v0 H1 τ2 => q v0 H1 τ2
theorem s_infra_Strip_eq (call : CallK) (N : Nat) (a0 : V) (H : Heap) (τ : Tape) (q : KV) : s_infra_Strip call N a0 H τ q = funK call N fn_infra_Strip [a0] H τ q := by kernel_rfl
def e_infra_Strip (call : CallK) (N : Nat) (vs : List V) (H : Heap) (τ : Tape) (q : KV) : Ans := match vs with | [a0] => s_infra_Strip call N a0 H τ q | _ => none
theorem e_infra_Strip_ok : EntOk fn_infra_Strip e_infra_Strip := by
  intro call N vs H τ q r h
  unfold e_infra_Strip at h
  split at h
  · rw [s_infra_Strip_eq] at h; exact h
  · cases h
theorem e_infra_Strip_nat : EntNat e_infra_Strip := by
  intro c hn N vs H τ q
  unfold e_infra_Strip
  split
  · rw [s_infra_Strip_eq, s_infra_Strip_eq]; exact funK_ent hn _ _ _ _ _ _
  · rfl
/-- ostiary/age.since -/
def fn_age_since : Fun := ⟨2, (.seq (.reg [iR 4 (.p .mv) [(.c (.int .i64 (.ofNat 0)))]]) (.keep [0, 1] (.seq (.block 0 (.seq (.reg [iR 6 (.p .mv) [(.t 1)], iR 7 (.p .mv) [(.t 0)], iR 8 (.p (.bin .leq)) [(.t 6), (.t 7)], iR 5 (.p .mv) [(.t 8)]]) (.keep [0, 1, 5] (.cond (.t 5) (.seq (.reg [iR 4 (.p .mv) [(.c (.int .i64 (.ofNat 0)))]]) (.keep [4] (.keep [4] .ret))) (.seq (.reg [iR 10 (.p .mv) [(.t 0)], iR 11 (.p (.bin .lss)) [(.t 10), (.c (.int .i64 (.ofNat 0)))], iR 12 (.p .mv) [(.t 11)], iG 13 12 true (.p .mv) [(.t 1)], iG 14 12 true (.p .mv) [(.t 0)], iG 15 12 true (.p (.bin .add)) [(.c (.int .i64 (.ofNat 9223372036854775807))), (.t 14)], iG 16 12 true (.p (.bin .gtr)) [(.t 13), (.t 15)], iR 17 (.p .pick) [(.t 12), (.t 16), (.c (.bool false))], iR 9 (.p .mv) [(.t 17)]]) (.keep [0, 1, 9] (.cond (.t 9) (.seq (.reg [iR 4 (.p .mv) [(.c (.int .i64 (.ofNat 9223372036854775807)))]])
    (.keep [4] (.keep [4] .ret))) .skip))))))) (.keep [0, 1] (.seq (.reg [iR 18 (.p .mv) [(.t 1)], iR 19 (.p .mv) [(.t 0)], iR 20 (.p (.bin .sub)) [(.t 18), (.t 19)], iR 4 (.p .mv) [(.t 20)]]) (.keep [4] (.keep [4] .ret))))))), [(.t 4)]⟩
def s_age_since (call : CallK) (N : Nat) (a0 a1 : V) (H : Heap) (τ : Tape) (q : KV) : Ans := binK .leq a1 a0 fun v0 => condK v0 (q (.int .i64 (.ofNat 0)) H τ) (binK .lss a0 (.int .i64 (.ofNat 0)) fun v1 => gK v1 true (fun q' => q' a1 H τ) H τ fun v2 H3 τ4 => gK v1 true (fun q' => q' a0 H3 τ4) H3 τ4 fun v5 H6 τ7 => gK v1 true (fun q' => binK .add (.int .i64 (.ofNat 9223372036854775807)) v5 fun v => q' v H6 τ7) H6 τ7 fun v8 H9 τ10 => gK v1 true (fun q' => binK .gtr v2 v8 fun v => q' v H9 τ10) H9 τ10 fun v11 H12 τ13 => someK (pPick [v1, v11, (.bool false)]) fun v14 => condK v14 (q (.int .i64 (.ofNat 9223372036854775807)) H12 τ13) (binK .sub a1 a0 fun v15 => q v15 H12 τ13))
theorem s_age_since_eq (call : CallK) (N : Nat) (a0 a1 : V) (H : Heap) (τ : Tape) (q : KV) : s_age_since call N a0 a1 H τ q = funK call N fn_age_since [a0, a1] H τ q := by kernel_rfl
def e_age_since (call : CallK) (N : Nat) (vs : List V) (H : Heap) (τ : Tape) (q : KV) : Ans := match vs with | [a0, a1] => s_age_since call N a0 a1 H τ q | _ => none
theorem e_age_since_ok : EntOk fn_age_since e_age_since := by
  intro call N vs H τ q r h
  unfold e_age_since at h
  split at h
  · rw [s_age_since_eq] at h; exact h
  · cases h
theorem e_age_since_nat : EntNat e_age_since := by
  intro c hn N vs H τ q
  unfold e_age_since
  split
  · rw [s_age_since_eq, s_age_since_eq]; exact funK_ent hn _ _ _ _ _ _
  · rfl
/-- ostiary/headers.Split -/
def fn_headers_Split : Fun := ⟨2, (.seq (.reg [iR 4 (.p .mv) [(.c .nils)], iR 5 (.p .mv) [(.c (.bool false))]]) (.keep [0, 1] (.seq (.reg [iR 13 (.p .mv) [(.t 0)], iR 14 (.p .mv) [(.t 1)], iR 15 (.call 80) [(.t 13), (.t 14)], iR 12 (.p .mv) [(.t 15)], iR 16 (.p (.extract 0)) [(.t 12)], iR 17 (.p (.extract 1)) [(.t 12)], iR 6 (.p .mv) [(.t 16)], iR 7 (.p .mv) [(.t 17)]]) (.keep [6, 7] (.seq (.seq (.reg [iR 18 (.p .mv) [(.t 7)], iR 19 (.p (.un .not)) [(.t 18)]]) (.keep [6, 19] (.cond (.t 19) (.seq (.reg [iR 4 (.p .mv) [(.c .nils)], iR 5 (.p .mv) [(.c (.bool false))]]) (.keep [4, 5] (.keep [4, 5] .ret))) .skip))) (.keep [6] (.seq (.reg [iR 8 (.p .mv) [(.c .nils)]]) (.keep [6, 8] (.seq (.reg [iR 9 (.p .mv) [(.c (.bool false))], iR 10 (.p .mv) [(.c (.int .i64 (.ofNat 0)))]]) (.keep [6, 8, 9, 10] (.seq (.seq (.reg [iR 11 (.p .mv) [(.c (.int .i64 (.ofNat 0)))]])
    (.keep [6, 8, 9, 10, 11] (.block 0 (.loop (.keep [6, 8, 9, 10, 11] (.seq (.seq (.reg [iR 20 (.p .mv) [(.t 11)], iR 21 (.p .mv) [(.t 6)], iR 22 (.p .lenS) [(.t 21)], iR 23 (.p (.bin .lss)) [(.t 20), (.t 22)]]) (.keep [6, 8, 9, 10, 11, 23] (.cond (.t 23) .skip (.keep [6, 8, 10] (.exit 0))))) (.keep [6, 8, 9, 10, 11] (.seq (.block 1 (.block 2 (.seq (.reg [iR 27 (.p .mv) [(.t 6)], iR 28 (.p .mv) [(.t 11)], iR 29 (.p .strIndex) [(.t 27), (.t 28)], iR 30 (.p (.bin .eql)) [(.t 29), (.c (.int .u8 (.ofNat 34)))], iR 26 (.p .mv) [(.t 30)]]) (.keep [6, 8, 9, 10, 11, 26] (.cond (.t 26) (.reg [iR 31 (.p .mv) [(.t 9)], iR 32 (.p (.un .not)) [(.t 31)], iR 9 (.p .mv) [(.t 32)]]) (.seq (.reg [iR 34 (.p .mv) [(.t 9)], iR 35 (.p .mv) [(.t 34)], iG 36 35 true (.p .mv) [(.t 6)], iG 37 35 true (.p .mv) [(.t 11)], iG 38 35 true (.p .strIndex) [(.t 36), (.t 37)],
    iG 39 35 true (.p (.bin .eql)) [(.t 38), (.c (.int .u8 (.ofNat 92)))], iR 40 (.p .pick) [(.t 35), (.t 39), (.c (.bool false))], iR 33 (.p .mv) [(.t 40)]]) (.keep [6, 8, 9, 10, 11, 33] (.cond (.t 33) (.reg [iR 41 (.p .mv) [(.t 11)], iR 42 (.p (.bin .add)) [(.t 41), (.c (.int .i64 (.ofNat 1)))], iR 11 (.p .mv) [(.t 42)]]) (.seq (.reg [iR 44 (.p .mv) [(.t 9)], iR 45 (.p (.un .not)) [(.t 44)], iR 46 (.p .mv) [(.t 45)], iG 47 46 true (.p .mv) [(.t 6)], iG 48 46 true (.p .mv) [(.t 11)], iG 49 46 true (.p .strIndex) [(.t 47), (.t 48)], iG 50 46 true (.p (.bin .eql)) [(.t 49), (.c (.int .u8 (.ofNat 44)))], iR 51 (.p .pick) [(.t 46), (.t 50), (.c (.bool false))], iR 43 (.p .mv) [(.t 51)]]) (.keep [6, 8, 9, 10, 11, 43] (.cond (.t 43) (.seq (.reg [iR 52 (.p .mv) [(.t 8)], iR 53 (.p .mv) [(.t 6)], iR 54 (.p .mv) [(.t 10)], iR 55 (.p .mv) [(.t 11)],
    iR 56 (.p (.strSlice true true)) [(.t 53), (.t 54), (.t 55)], iR 57 (.call 115) [(.t 56), (.c (.str (bs [9, 32])))], iR 58 (.e (.buildSlice 1 1 [(.str [])] [(0, 1)])) [(.t 57)], iR 59 (.e (.append 1 16)) [(.t 52), (.t 58)], iR 8 (.p .mv) [(.t 59)]]) (.keep [6, 8, 9, 11] (.reg [iR 60 (.p .mv) [(.t 11)], iR 61 (.p (.bin .add)) [(.t 60), (.c (.int .i64 (.ofNat 1)))], iR 10 (.p .mv) [(.t 61)]]))) .skip))))))))))) (.keep [6, 8, 9, 10, 11] (.reg [iR 24 (.p .mv) [(.t 11)], iR 25 (.p (.bin .add)) [(.t 24), (.c (.int .i64 (.ofNat 1)))], iR 11 (.p .mv) [(.t 25)]])))))))))) (.keep [6, 8, 10] (.seq (.reg [iR 62 (.p .mv) [(.t 8)], iR 63 (.p .mv) [(.t 6)], iR 64 (.p .mv) [(.t 10)], iR 65 (.p (.strSlice true false)) [(.t 63), (.t 64)], iR 66 (.call 115) [(.t 65), (.c (.str (bs [9, 32])))], iR 67 (.e (.buildSlice 1 1 [(.str [])] [(0, 1)])) [(.t 66)], iR 68 (.e (.append 1 16)) [(.t 62), (.t 67)],
    iR 4 (.p .mv) [(.t 68)], iR 5 (.p .mv) [(.c (.bool true))]]) (.keep [4, 5] (.keep [4, 5] .ret))))))))))))))), [(.t 4), (.t 5)]⟩
def s_headers_Split_j0 (call : CallK) (N : Nat) (q : KV) (st : St) (τ : Tape) : Ans := match st with
  | ⟨fr, H⟩ => getK fr 6 fun t6 => getK fr 8 fun t8 => getK fr 10 fun t10 => someK (pStrSlice true false [t6, t10]) fun v6 => call f_strings_Trim [v6, (.str (bs [9, 32]))] H τ fun v7 H8 τ9 => effK (eBuildSlice 1 1 [(.str [])] [(0, 1)] [v7] H8 τ9) fun v10 H11 τ12 => effK (eAppend 1 16 [t8, v10] H11 τ12) fun v13 H14 τ15 => q (.tup [v13, (.bool true)]) H14 τ15
def s_headers_Split_j2 (call : CallK) (N : Nat) (k : KC) (st : St) (τ : Tape) : Ans := match st with
  | ⟨fr, H⟩ => getK fr 6 fun t6 => getK fr 8 fun t8 => getK fr 9 fun t9 => getK fr 10 fun t10 => getK fr 11 fun t11 => binK .add t11 (.int .i64 (.ofNat 1)) fun v18 => k .normal ⟨(T.set (T.set (T.set (T.set (T.set (T.set (T.set (T.set .leaf 6 t6) 8 t8) 9 t9) 10 t10) 11 t11) 24 t11) 25 v18) 11 v18), H⟩ τ
def s_headers_Split_l1 (call : CallK) (N : Nat) (st : St) (τ : Tape) (k : KC) : Ans := match st with
  | ⟨fr, H⟩ => getK fr 6 fun t6 => getK fr 8 fun t8 => getK fr 9 fun t9 => getK fr 10 fun t10 => getK fr 11 fun t11 => someK (pLenS [t6]) fun v16 => binK .lss t11 v16 fun v17 => condK v17 (someK (pStrIndex [t6, t11]) fun v19 => binK .eql v19 (.int .u8 (.ofNat 34)) fun v20 => condK v20 (unK .not t9 fun v21 => s_headers_Split_j2 call N k ⟨(T.set (T.set (T.set (T.set (T.set (T.set (T.set (T.set (T.set .leaf 6 t6) 8 t8) 9 t9) 10 t10) 11 t11) 26 v20) 31 t9) 32 v21) 9 v21), H⟩ τ) (gK t9 true (fun q' => q' t6 H τ) H τ fun v22 H23 τ24 => gK t9 true (fun q' => q' t11 H23 τ24) H23 τ24 fun v25 H26 τ27 => gK t9 true (fun q' => someK (pStrIndex [v22, v25]) fun v => q' v H26 τ27) H26 τ27 fun v28 H29 τ30 => gK t9 true (fun q' => binK .eql v28 (.int .u8 (.ofNat 92)) fun v => q' v H29 τ30) H29 τ30 fun v31 H32 τ33 => someK (pPick [t9, v31, (.bool false)]) fun v34 => condK v34
    (binK .add t11 (.int .i64 (.ofNat 1)) fun v35 => s_headers_Split_j2 call N k ⟨(T.set (T.set (T.set (T.set (T.set (T.set (T.set (T.set (T.set .leaf 6 t6) 8 t8) 9 t9) 10 t10) 11 t11) 33 v34) 41 t11) 42 v35) 11 v35), H32⟩ τ33) (unK .not t9 fun v36 => gK v36 true (fun q' => q' t6 H32 τ33) H32 τ33 fun v37 H38 τ39 => gK v36 true (fun q' => q' t11 H38 τ39) H38 τ39 fun v40 H41 τ42 => gK v36 true (fun q' => someK (pStrIndex [v37, v40]) fun v => q' v H41 τ42) H41 τ42 fun v43 H44 τ45 => gK v36 true (fun q' => binK .eql v43 (.int .u8 (.ofNat 44)) fun v => q' v H44 τ45) H44 τ45 fun v46 H47 τ48 => someK (pPick [v36, v46, (.bool false)]) fun v49 => condK v49 (someK (pStrSlice true true [t6, t10, t11]) fun v50 => call f_strings_Trim [v50, (.str (bs [9, 32]))] H47 τ48 fun v51 H52 τ53 => effK (eBuildSlice 1 1 [(.str [])] [(0, 1)] [v51] H52 τ53) fun v54 H55 τ56 =>
    effK (eAppend 1 16 [t8, v54] H55 τ56) fun v57 H58 τ59 => binK .add t11 (.int .i64 (.ofNat 1)) fun v60 => s_headers_Split_j2 call N k ⟨(T.set (T.set (T.set (T.set (T.set (T.set (T.set .leaf 6 t6) 8 v57) 9 t9) 11 t11) 60 t11) 61 v60) 10 v60), H58⟩ τ59) (s_headers_Split_j2 call N k ⟨(T.set (T.set (T.set (T.set (T.set (T.set .leaf 6 t6) 8 t8) 9 t9) 10 t10) 11 t11) 43 v49), H47⟩ τ48)))) (k (.exit 0) ⟨(T.set (T.set (T.set .leaf 6 t6) 8 t8) 10 t10), H⟩ τ)
def s_headers_Split (call : CallK) (N : Nat) (a0 a1 : V) (H : Heap) (τ : Tape) (q : KV) : Ans := call f_headers_Get [a0, a1] H τ fun v0 H1 τ2 => someK (pExtract 0 [v0]) fun v3 => someK (pExtract 1 [v0]) fun v4 => unK .not v4 fun v5 => condK v5 (q (.tup [.nils, (.bool false)]) H1 τ2) (loopK (s_headers_Split_l1 call N) N ⟨(T.set (T.set (T.set (T.set (T.set .leaf 6 v3) 8 .nils) 9 (.bool false)) 10 (.int .i64 (.ofNat 0))) 11 (.int .i64 (.ofNat 0))), H1⟩ τ2 (blockK 0 (seqK (s_headers_Split_j0 call N q) (endK [(.t 4), (.t 5)] q))))
theorem s_headers_Split_eq (call : CallK) (N : Nat) (a0 a1 : V) (H : Heap) (τ : Tape) (q : KV) : s_headers_Split call N a0 a1 H τ q = funK call N fn_headers_Split [a0, a1] H τ q := by kernel_rfl
def e_headers_Split (call : CallK) (N : Nat) (vs : List V) (H : Heap) (τ : Tape) (q : KV) : Ans := match vs with | [a0, a1] => s_headers_Split call N a0 a1 H τ q | _ => none
theorem e_headers_Split_ok : EntOk fn_headers_Split e_headers_Split := by
  intro call N vs H τ q r h
  unfold e_headers_Split at h
  split at h
  · rw [s_headers_Split_eq] at h; exact h
  · cases h
theorem e_headers_Split_nat : EntNat e_headers_Split := by
  intro c hn N vs H τ q
  unfold e_headers_Split
  split
  · rw [s_headers_Split_eq, s_headers_Split_eq]; exact funK_ent hn _ _ _ _ _ _
  · rfl
/-- ostiary/infra.Lower -/
def fn_infra_Lower : Fun := ⟨1, (.seq (.reg [iR 2 (.p .mv) [(.c (.str []))]]) (.keep [0] (.seq (.reg [iR 3 (.p .mv) [(.t 0)], iR 4 (.call 116) [(.t 3), (.c (.func 117 [] []))], iR 2 (.p .mv) [(.t 4)]]) (.keep [2] (.keep [2] .ret))))), [(.t 2)]⟩
def s_infra_Lower (call : CallK) (N : Nat) (a0 : V) (H : Heap) (τ : Tape) (q : KV) : Ans := call f_infra_mapped [a0, (.func f_infra_Lower_1 [] [])] H τ fun v0 H1 τ2 => q v0 H1 τ2
theorem s_infra_Lower_eq (call : CallK) (N : Nat) (a0 : V) (H : Heap) (τ : Tape) (q : KV) : s_infra_Lower call N a0 H τ q = funK call N fn_infra_Lower [a0] H τ q := by kernel_rfl
def e_infra_Lower (call : CallK) (N : Nat) (vs : List V) (H : Heap) (τ : Tape) (q : KV) : Ans := match vs with | [a0] => s_infra_Lower call N a0 H τ q | _ => none
theorem e_infra_Lower_ok : EntOk fn_infra_Lower e_infra_Lower := by
  intro call N vs H τ q r h
  unfold e_infra_Lower at h
  split at h
  · rw [s_infra_Lower_eq] at h; exact h
  · cases h
theorem e_infra_Lower_nat : EntNat e_infra_Lower := by
  intro c hn N vs H τ q
  unfold e_infra_Lower
  split
  · rw [s_infra_Lower_eq, s_infra_Lower_eq]; exact funK_ent hn _ _ _ _ _ _
  · rfl
/-- slices.Contains[[]string,string] -/
def fn_slices_Contains_string : Fun := ⟨2, (.seq (.reg [iR 4 (.p .mv) [(.c (.bool false))]]) (.keep [0, 1] (.seq (.reg [iR 5 (.p .mv) [(.t 0)], iR 6 (.p .mv) [(.t 1)], iR 7 (.call 120) [(.t 5), (.t 6)], iR 8 (.p (.bin .geq)) [(.t 7), (.c (.int .i64 (.ofNat 0)))], iR 4 (.p .mv) [(.t 8)]]) (.keep [4] (.keep [4] .ret))))), [(.t 4)]⟩
def s_slices_Contains_string (call : CallK) (N : Nat) (a0 a1 : V) (H : Heap) (τ : Tape) (q : KV) : Ans := call f_slices_Index_string [a0, a1] H τ fun v0 H1 τ2 => binK .geq v0 (.int .i64 (.ofNat 0)) fun v3 => q v3 H1 τ2
theorem s_slices_Contains_string_eq (call : CallK) (N : Nat) (a0 a1 : V) (H : Heap) (τ : Tape) (q : KV) : s_slices_Contains_string call N a0 a1 H τ q = funK call N fn_slices_Contains_string [a0, a1] H τ q := by kernel_rfl
def e_slices_Contains_string (call : CallK) (N : Nat) (vs : List V) (H : Heap) (τ : Tape) (q : KV) : Ans := match vs with | [a0, a1] => s_slices_Contains_string call N a0 a1 H τ q | _ => none
theorem e_slices_Contains_string_ok : EntOk fn_slices_Contains_string e_slices_Contains_string := by
  intro call N vs H τ q r h
  unfold e_slices_Contains_string at h
  split at h
  · rw [s_slices_Contains_string_eq] at h; exact h
  · cases h
theorem e_slices_Contains_string_nat : EntNat e_slices_Contains_string := by
  intro c hn N vs H τ q
  unfold e_slices_Contains_string
  split
  · rw [s_slices_Contains_string_eq, s_slices_Contains_string_eq]; exact funK_ent hn _ _ _ _ _ _
  · rfl
/-- ostiary/age.piece -/
def fn_age_piece : Fun := ⟨1, (.seq (.reg [iR 2 (.p .mv) [(.c (.str []))], iR 3 (.p .mv) [(.c (.str []))]]) (.keep [0] (.seq (.reg [iR 8 (.p .mv) [(.t 0)], iR 9 (.call 62) [(.t 8), (.c (.str (bs [61])))], iR 7 (.p .mv) [(.t 9)], iR 10 (.p (.extract 0)) [(.t 7)], iR 11 (.p (.extract 1)) [(.t 7)], iR 12 (.p (.extract 2)) [(.t 7)], iR 4 (.p .mv) [(.t 10)], iR 5 (.p .mv) [(.t 11)], iR 6 (.p .mv) [(.t 12)]]) (.keep [4, 5] (.seq (.reg [iR 13 (.p .mv) [(.t 5)], iR 14 (.call 82) [(.t 13)], iR 5 (.p .mv) [(.t 14)]]) (.keep [4, 5] (.seq (.seq (.reg [iR 15 (.p .mv) [(.t 5)], iR 16 (.p .lenS) [(.t 15)], iR 17 (.p (.bin .gtr)) [(.t 16), (.c (.int .i64 (.ofNat 1)))], iR 18 (.p .mv) [(.t 17)], iG 19 18 true (.p .mv) [(.t 5)], iG 20 18 true (.p .strIndex) [(.t 19), (.c (.int .i64 (.ofNat 0)))], iG 21 18 true (.p (.bin .eql)) [(.t 20), (.c (.int .u8 (.ofNat 34)))],
    iR 22 (.p .pick) [(.t 18), (.t 21), (.c (.bool false))], iR 23 (.p .mv) [(.t 22)], iG 24 23 true (.p .mv) [(.t 5)], iG 25 23 true (.p .mv) [(.t 5)], iG 26 23 true (.p .lenS) [(.t 25)], iG 27 23 true (.p (.bin .sub)) [(.t 26), (.c (.int .i64 (.ofNat 1)))], iG 28 23 true (.p .strIndex) [(.t 24), (.t 27)], iG 29 23 true (.p (.bin .eql)) [(.t 28), (.c (.int .u8 (.ofNat 34)))], iR 30 (.p .pick) [(.t 23), (.t 29), (.c (.bool false))]]) (.keep [4, 5, 30] (.cond (.t 30) (.reg [iR 31 (.p .mv) [(.t 5)], iR 32 (.p .mv) [(.t 5)], iR 33 (.p .lenS) [(.t 32)], iR 34 (.p (.bin .sub)) [(.t 33), (.c (.int .i64 (.ofNat 1)))], iR 35 (.p (.strSlice true true)) [(.t 31), (.c (.int .i64 (.ofNat 1))), (.t 34)], iR 5 (.p .mv) [(.t 35)]]) .skip))) (.keep [4, 5] (.seq (.reg [iR 36 (.p .mv) [(.t 4)], iR 37 (.call 82) [(.t 36)], iR 38 (.call 85) [(.t 37)], iR 39 (.p .mv) [(.t 5)], iR 2 (.p .mv) [(.t 38)],
    iR 3 (.p .mv) [(.t 39)]]) (.keep [2, 3] (.keep [2, 3] .ret))))))))))), [(.t 2), (.t 3)]⟩
def s_age_piece_j0 (call : CallK) (N : Nat) (q : KV) (st : St) (τ : Tape) : Ans := match st with
  | ⟨fr, H⟩ => getK fr 4 fun t4 => getK fr 5 fun t5 => call f_infra_Strip [t4] H τ fun v40 H41 τ42 => call f_infra_Lower [v40] H41 τ42 fun v43 H44 τ45 => q (.tup [v43, t5]) H44 τ45
def s_age_piece (call : CallK) (N : Nat) (a0 : V) (H : Heap) (τ : Tape) (q : KV) : Ans := call f_strings_Cut [a0, (.str (bs [61]))] H τ fun v0 H1 τ2 => someK (pExtract 0 [v0]) fun v3 => someK (pExtract 1 [v0]) fun v4 => someK (pExtract 2 [v0]) fun v5 => call f_infra_Strip [v4] H1 τ2 fun v6 H7 τ8 => someK (pLenS [v6]) fun v9 => binK .gtr v9 (.int .i64 (.ofNat 1)) fun v10 => gK v10 true (fun q' => q' v6 H7 τ8) H7 τ8 fun v11 H12 τ13 => gK v10 true (fun q' => someK (pStrIndex [v11, (.int .i64 (.ofNat 0))]) fun v => q' v H12 τ13) H12 τ13 fun v14 H15 τ16 => gK v10 true (fun q' => binK .eql v14 (.int .u8 (.ofNat 34)) fun v => q' v H15 τ16) H15 τ16 fun v17 H18 τ19 => someK (pPick [v10, v17, (.bool false)]) fun v20 => gK v20 true (fun q' => q' v6 H18 τ19) H18 τ19 fun v21 H22 τ23 => gK v20 true (fun q' => q' v6 H22 τ23) H22 τ23 fun v24 H25 τ26 =>
    gK v20 true (fun q' => someK (pLenS [v24]) fun v => q' v H25 τ26) H25 τ26 fun v27 H28 τ29 => gK v20 true (fun q' => binK .sub v27 (.int .i64 (.ofNat 1)) fun v => q' v H28 τ29) H28 τ29 fun v30 H31 τ32 => gK v20 true (fun q' => someK (pStrIndex [v21, v30]) fun v => q' v H31 τ32) H31 τ32 fun v33 H34 τ35 => gK v20 true (fun q' => binK .eql v33 (.int .u8 (.ofNat 34)) fun v => q' v H34 τ35) H34 τ35 fun v36 H37 τ38 => someK (pPick [v20, v36, (.bool false)]) fun v39 => condK v39 (someK (pLenS [v6]) fun v46 => binK .sub v46 (.int .i64 (.ofNat 1)) fun v47 => someK (pStrSlice true true [v6, (.int .i64 (.ofNat 1)), v47]) fun v48 => s_age_piece_j0 call N q ⟨(T.set (T.set (T.set (T.set (T.set (T.set (T.set (T.set (T.set .leaf 4 v3) 5 v6) 30 v39) 31 v6) 32 v6) 33 v46) 34 v47) 35 v48) 5 v48), H37⟩ τ38) (s_age_piece_j0 call N q ⟨(T.set (T.set (T.set .leaf 4 v3) 5 v6) 30 v39), H37⟩ τ38)
theorem s_age_piece_eq (call : CallK) (N : Nat) (a0 : V) (H : Heap) (τ : Tape) (q : KV) : s_age_piece call N a0 H τ q = funK call N fn_age_piece [a0] H τ q := by kernel_rfl
def e_age_piece (call : CallK) (N : Nat) (vs : List V) (H : Heap) (τ : Tape) (q : KV) : Ans := match vs with | [a0] => s_age_piece call N a0 H τ q | _ => none
theorem e_age_piece_ok : EntOk fn_age_piece e_age_piece := by
  intro call N vs H τ q r h
  unfold e_age_piece at h
  split at h
  · rw [s_age_piece_eq] at h; exact h
  · cases h
theorem e_age_piece_nat : EntNat e_age_piece := by
  intro c hn N vs H τ q
  unfold e_age_piece
  split
  · rw [s_age_piece_eq, s_age_piece_eq]; exact funK_ent hn _ _ _ _ _ _
  · rfl
/-- ostiary/ostiaryref5.Split -/
def fn_ref5_Split : Fun := ⟨2, (.seq (.reg [iR 4 (.p .mv) [(.c .nils)], iR 5 (.p .mv) [(.c (.bool false))]]) (.keep [0, 1] (.seq (.reg [iR 13 (.p .mv) [(.t 0)], iR 14 (.p .mv) [(.t 1)], iR 15 (.call 95) [(.t 13), (.t 14)], iR 12 (.p .mv) [(.t 15)], iR 16 (.p (.extract 0)) [(.t 12)], iR 17 (.p (.extract 1)) [(.t 12)], iR 6 (.p .mv) [(.t 16)], iR 7 (.p .mv) [(.t 17)]]) (.keep [6, 7] (.seq (.seq (.reg [iR 18 (.p .mv) [(.t 7)], iR 19 (.p (.un .not)) [(.t 18)]]) (.keep [6, 19] (.cond (.t 19) (.seq (.reg [iR 4 (.p .mv) [(.c .nils)], iR 5 (.p .mv) [(.c (.bool false))]]) (.keep [4, 5] (.keep [4, 5] .ret))) .skip))) (.keep [6] (.seq (.reg [iR 8 (.p .mv) [(.c .nils)]]) (.keep [6, 8] (.seq (.reg [iR 9 (.p .mv) [(.c (.int .i64 (.ofNat 0)))]]) (.keep [6, 8, 9] (.seq (.reg [iR 10 (.p .mv) [(.c (.bool false))]]) (.keep [6, 8, 9, 10] (.seq (.seq (.reg [iR 11 (.p .mv) [(.c (.int .i64 (.ofNat 0)))]])
    (.keep [6, 8, 9, 10, 11] (.block 0 (.loop (.keep [6, 8, 9, 10, 11] (.seq (.seq (.reg [iR 20 (.p .mv) [(.t 11)], iR 21 (.p .mv) [(.t 6)], iR 22 (.p .lenS) [(.t 21)], iR 23 (.p (.bin .leq)) [(.t 20), (.t 22)]]) (.keep [6, 8, 9, 10, 11, 23] (.cond (.t 23) .skip (.keep [8] (.exit 0))))) (.keep [6, 8, 9, 10, 11] (.seq (.block 1 (.seq (.seq (.reg [iR 26 (.p .mv) [(.t 11)], iR 27 (.p .mv) [(.t 6)], iR 28 (.p .lenS) [(.t 27)], iR 29 (.p (.bin .eql)) [(.t 26), (.t 28)], iR 30 (.p .mv) [(.t 29)], iG 31 30 false (.p .mv) [(.t 6)], iG 32 30 false (.p .mv) [(.t 11)], iG 33 30 false (.p .strIndex) [(.t 31), (.t 32)], iG 34 30 false (.p (.bin .eql)) [(.t 33), (.c (.int .u8 (.ofNat 44)))], iG 35 30 false (.p .mv) [(.t 34)], iG 36 35 true (.p .mv) [(.t 10)], iG 37 35 true (.p (.un .not)) [(.t 36)], iG 38 30 false (.p .pick) [(.t 35), (.t 37), (.c (.bool false))],
    iR 39 (.p .pick) [(.t 30), (.c (.bool true)), (.t 38)]]) (.keep [6, 8, 9, 10, 11, 39] (.cond (.t 39) (.seq (.reg [iR 40 (.p .mv) [(.t 8)], iR 41 (.p .mv) [(.t 6)], iR 42 (.p .mv) [(.t 9)], iR 43 (.p .mv) [(.t 11)], iR 44 (.p (.strSlice true true)) [(.t 41), (.t 42), (.t 43)], iR 45 (.call 121) [(.t 44), (.c (.bool true))], iR 46 (.e (.buildSlice 1 1 [(.str [])] [(0, 1)])) [(.t 45)], iR 47 (.e (.append 1 16)) [(.t 40), (.t 46)], iR 8 (.p .mv) [(.t 47)]]) (.keep [6, 8, 10, 11] (.seq (.reg [iR 48 (.p .mv) [(.t 11)], iR 49 (.p (.bin .add)) [(.t 48), (.c (.int .i64 (.ofNat 1)))], iR 9 (.p .mv) [(.t 49)]]) (.keep [6, 8, 9, 10, 11] (.keep [6, 8, 9, 10, 11] (.exit 1)))))) .skip))) (.keep [6, 8, 9, 10, 11] (.seq (.seq (.reg [iR 50 (.p .mv) [(.t 6)], iR 51 (.p .mv) [(.t 11)], iR 52 (.p .strIndex) [(.t 50), (.t 51)], iR 53 (.p (.bin .eql)) [(.t 52), (.c (.int .u8 (.ofNat 92)))],
    iR 54 (.p .mv) [(.t 53)], iG 55 54 true (.p .mv) [(.t 10)], iR 56 (.p .pick) [(.t 54), (.t 55), (.c (.bool false))]]) (.keep [6, 8, 9, 10, 11, 56] (.cond (.t 56) (.seq (.reg [iR 57 (.p .mv) [(.t 11)], iR 58 (.p (.bin .add)) [(.t 57), (.c (.int .i64 (.ofNat 1)))], iR 11 (.p .mv) [(.t 58)]]) (.keep [6, 8, 9, 10, 11] (.seq (.seq (.reg [iR 59 (.p .mv) [(.t 11)], iR 60 (.p .mv) [(.t 6)], iR 61 (.p .lenS) [(.t 60)], iR 62 (.p (.bin .geq)) [(.t 59), (.t 61)]]) (.keep [6, 8, 9, 10, 11, 62] (.cond (.t 62) (.reg [iR 63 (.p .mv) [(.t 6)], iR 64 (.p .lenS) [(.t 63)], iR 65 (.p (.bin .sub)) [(.t 64), (.c (.int .i64 (.ofNat 1)))], iR 11 (.p .mv) [(.t 65)]]) .skip))) (.keep [6, 8, 9, 10, 11] (.keep [6, 8, 9, 10, 11] (.exit 1)))))) .skip))) (.keep [6, 8, 9, 10, 11] (.seq (.reg [iR 66 (.p .mv) [(.t 6)], iR 67 (.p .mv) [(.t 11)], iR 68 (.p .strIndex) [(.t 66), (.t 67)],
    iR 69 (.p (.bin .eql)) [(.t 68), (.c (.int .u8 (.ofNat 34)))]]) (.keep [6, 8, 9, 10, 11, 69] (.cond (.t 69) (.reg [iR 70 (.p .mv) [(.t 10)], iR 71 (.p (.un .not)) [(.t 70)], iR 10 (.p .mv) [(.t 71)]]) .skip)))))))) (.keep [6, 8, 9, 10, 11] (.reg [iR 24 (.p .mv) [(.t 11)], iR 25 (.p (.bin .add)) [(.t 24), (.c (.int .i64 (.ofNat 1)))], iR 11 (.p .mv) [(.t 25)]])))))))))) (.keep [8] (.seq (.reg [iR 72 (.p .mv) [(.t 8)], iR 4 (.p .mv) [(.t 72)], iR 5 (.p .mv) [(.c (.bool true))]]) (.keep [4, 5] (.keep [4, 5] .ret))))))))))))))))), [(.t 4), (.t 5)]⟩
def s_ref5_Split_j0 (call : CallK) (N : Nat) (q : KV) (st : St) (τ : Tape) : Ans := match st with
  | ⟨fr, H⟩ => getK fr 8 fun t8 => q (.tup [t8, (.bool true)]) H τ
def s_ref5_Split_j2 (call : CallK) (N : Nat) (k : KC) (st : St) (τ : Tape) : Ans := match st with
  | ⟨fr, H⟩ => getK fr 6 fun t6 => getK fr 8 fun t8 => getK fr 9 fun t9 => getK fr 10 fun t10 => getK fr 11 fun t11 => binK .add t11 (.int .i64 (.ofNat 1)) fun v8 => k .normal ⟨(T.set (T.set (T.set (T.set (T.set (T.set (T.set (T.set .leaf 6 t6) 8 t8) 9 t9) 10 t10) 11 t11) 24 t11) 25 v8) 11 v8), H⟩ τ
def s_ref5_Split_j3 (call : CallK) (N : Nat) (k : KC) (st : St) (τ : Tape) : Ans := match st with
  | ⟨fr, H⟩ => getK fr 6 fun t6 => getK fr 8 fun t8 => getK fr 9 fun t9 => getK fr 10 fun t10 => getK fr 11 fun t11 => someK (pStrIndex [t6, t11]) fun v56 => binK .eql v56 (.int .u8 (.ofNat 34)) fun v57 => condK v57 (unK .not t10 fun v58 => s_ref5_Split_j2 call N k ⟨(T.set (T.set (T.set (T.set (T.set (T.set (T.set (T.set (T.set .leaf 6 t6) 8 t8) 9 t9) 10 t10) 11 t11) 69 v57) 70 t10) 71 v58) 10 v58), H⟩ τ) (s_ref5_Split_j2 call N k ⟨(T.set (T.set (T.set (T.set (T.set (T.set .leaf 6 t6) 8 t8) 9 t9) 10 t10) 11 t11) 69 v57), H⟩ τ)
def s_ref5_Split_j4 (call : CallK) (N : Nat) (k : KC) (st : St) (τ : Tape) : Ans := match st with
  | ⟨fr, H⟩ => getK fr 6 fun t6 => getK fr 8 fun t8 => getK fr 9 fun t9 => getK fr 10 fun t10 => getK fr 11 fun t11 => s_ref5_Split_j2 call N k ⟨(T.set (T.set (T.set (T.set (T.set .leaf 6 t6) 8 t8) 9 t9) 10 t10) 11 t11), H⟩ τ
def s_ref5_Split_l1 (call : CallK) (N : Nat) (st : St) (τ : Tape) (k : KC) : Ans := match st with
  | ⟨fr, H⟩ => getK fr 6 fun t6 => getK fr 8 fun t8 => getK fr 9 fun t9 => getK fr 10 fun t10 => getK fr 11 fun t11 => someK (pLenS [t6]) fun v6 => binK .leq t11 v6 fun v7 => condK v7 (someK (pLenS [t6]) fun v9 => binK .eql t11 v9 fun v10 => gK v10 false (fun q' => q' t6 H τ) H τ fun v11 H12 τ13 => gK v10 false (fun q' => q' t11 H12 τ13) H12 τ13 fun v14 H15 τ16 => gK v10 false (fun q' => someK (pStrIndex [v11, v14]) fun v => q' v H15 τ16) H15 τ16 fun v17 H18 τ19 => gK v10 false (fun q' => binK .eql v17 (.int .u8 (.ofNat 44)) fun v => q' v H18 τ19) H18 τ19 fun v20 H21 τ22 => gK v10 false (fun q' => q' v20 H21 τ22) H21 τ22 fun v23 H24 τ25 => gK v23 true (fun q' => q' t10 H24 τ25) H24 τ25 fun v26 H27 τ28 => gK v23 true (fun q' => unK .not v26 fun v => q' v H27 τ28) H27 τ28 fun v29 H30 τ31 =>
    gK v10 false (fun q' => someK (pPick [v23, v29, (.bool false)]) fun v => q' v H30 τ31) H30 τ31 fun v32 H33 τ34 => someK (pPick [v10, (.bool true), v32]) fun v35 => condK v35 (someK (pStrSlice true true [t6, t9, t11]) fun v36 => call f_ref1_Trim [v36, (.bool true)] H33 τ34 fun v37 H38 τ39 => effK (eBuildSlice 1 1 [(.str [])] [(0, 1)] [v37] H38 τ39) fun v40 H41 τ42 => effK (eAppend 1 16 [t8, v40] H41 τ42) fun v43 H44 τ45 => binK .add t11 (.int .i64 (.ofNat 1)) fun v46 => s_ref5_Split_j2 call N k ⟨(T.set (T.set (T.set (T.set (T.set .leaf 6 t6) 8 v43) 9 v46) 10 t10) 11 t11), H44⟩ τ45) (someK (pStrIndex [t6, t11]) fun v47 => binK .eql v47 (.int .u8 (.ofNat 92)) fun v48 => gK v48 true (fun q' => q' t10 H33 τ34) H33 τ34 fun v49 H50 τ51 => someK (pPick [v48, v49, (.bool false)]) fun v52 => condK v52 (binK .add t11 (.int .i64 (.ofNat 1)) fun v53 => someK (pLenS [t6]) fun v54 =>
    binK .geq v53 v54 fun v55 => condK v55 (someK (pLenS [t6]) fun v59 => binK .sub v59 (.int .i64 (.ofNat 1)) fun v60 => s_ref5_Split_j4 call N k ⟨(T.set (T.set (T.set (T.set (T.set (T.set (T.set (T.set (T.set (T.set .leaf 6 t6) 8 t8) 9 t9) 10 t10) 11 v53) 62 v55) 63 t6) 64 v59) 65 v60) 11 v60), H50⟩ τ51) (s_ref5_Split_j4 call N k ⟨(T.set (T.set (T.set (T.set (T.set (T.set .leaf 6 t6) 8 t8) 9 t9) 10 t10) 11 v53) 62 v55), H50⟩ τ51)) (someK (pStrIndex [t6, t11]) fun v61 => binK .eql v61 (.int .u8 (.ofNat 34)) fun v62 => condK v62 (unK .not t10 fun v63 => s_ref5_Split_j2 call N k ⟨(T.set (T.set (T.set (T.set (T.set (T.set (T.set (T.set (T.set .leaf 6 t6) 8 t8) 9 t9) 10 t10) 11 t11) 69 v62) 70 t10) 71 v63) 10 v63), H50⟩ τ51) (s_ref5_Split_j2 call N k ⟨(T.set (T.set (T.set (T.set (T.set (T.set .leaf 6 t6) 8 t8) 9 t9) 10 t10) 11 t11) 69 v62), H50⟩ τ51))))
    (k (.exit 0) ⟨(T.set .leaf 8 t8), H⟩ τ)
def s_ref5_Split (call : CallK) (N : Nat) (a0 a1 : V) (H : Heap) (τ : Tape) (q : KV) : Ans := call f_ref5_Get [a0, a1] H τ fun v0 H1 τ2 => someK (pExtract 0 [v0]) fun v3 => someK (pExtract 1 [v0]) fun v4 => unK .not v4 fun v5 => condK v5 (q (.tup [.nils, (.bool false)]) H1 τ2) (loopK (s_ref5_Split_l1 call N) N ⟨(T.set (T.set (T.set (T.set (T.set .leaf 6 v3) 8 .nils) 9 (.int .i64 (.ofNat 0))) 10 (.bool false)) 11 (.int .i64 (.ofNat 0))), H1⟩ τ2 (blockK 0 (seqK (s_ref5_Split_j0 call N q) (endK [(.t 4), (.t 5)] q))))
theorem s_ref5_Split_eq (call : CallK) (N : Nat) (a0 a1 : V) (H : Heap) (τ : Tape) (q : KV) : s_ref5_Split call N a0 a1 H τ q = funK call N fn_ref5_Split [a0, a1] H τ q := by kernel_rfl
def e_ref5_Split (call : CallK) (N : Nat) (vs : List V) (H : Heap) (τ : Tape) (q : KV) : Ans := match vs with | [a0, a1] => s_ref5_Split call N a0 a1 H τ q | _ => none
theorem e_ref5_Split_ok : EntOk fn_ref5_Split e_ref5_Split := by
  intro call N vs H τ q r h
  unfold e_ref5_Split at h
  split at h
  · rw [s_ref5_Split_eq] at h; exact h
  · cases h
theorem e_ref5_Split_nat : EntNat e_ref5_Split := by
  intro c hn N vs H τ q
  unfold e_ref5_Split
  split
  · rw [s_ref5_Split_eq, s_ref5_Split_eq]; exact funK_ent hn _ _ _ _ _ _
  · rfl
/-- ostiary/ostiaryref1.Strip -/
def fn_ref1_Strip : Fun := ⟨1, (.seq (.reg [iR 2 (.p .mv) [(.c (.str []))]]) (.keep [0] (.seq (.block 0 (.loop (.keep [0] (.seq (.seq (.reg [iR 3 (.p .mv) [(.t 0)], iR 4 (.p .lenS) [(.t 3)], iR 5 (.p (.bin .gtr)) [(.t 4), (.c (.int .i64 (.ofNat 0)))], iR 6 (.p .mv) [(.t 5)], iG 7 6 true (.p .mv) [(.t 0)], iG 8 6 true (.p .strIndex) [(.t 7), (.c (.int .i64 (.ofNat 0)))], iG 9 6 true (.call 104) [(.t 8)], iR 10 (.p .pick) [(.t 6), (.t 9), (.c (.bool false))]]) (.keep [0, 10] (.cond (.t 10) .skip (.keep [0] (.exit 0))))) (.keep [0] (.block 1 (.reg [iR 11 (.p .mv) [(.t 0)], iR 12 (.p (.strSlice true false)) [(.t 11), (.c (.int .i64 (.ofNat 1)))], iR 0 (.p .mv) [(.t 12)]]))))))) (.keep [0] (.seq (.block 2 (.loop (.keep [0] (.seq (.seq (.reg [iR 13 (.p .mv) [(.t 0)], iR 14 (.p .lenS) [(.t 13)], iR 15 (.p (.bin .gtr)) [(.t 14), (.c (.int .i64 (.ofNat 0)))], iR 16 (.p .mv) [(.t 15)],
    iG 17 16 true (.p .mv) [(.t 0)], iG 18 16 true (.p .mv) [(.t 0)], iG 19 16 true (.p .lenS) [(.t 18)], iG 20 16 true (.p (.bin .sub)) [(.t 19), (.c (.int .i64 (.ofNat 1)))], iG 21 16 true (.p .strIndex) [(.t 17), (.t 20)], iG 22 16 true (.call 104) [(.t 21)], iR 23 (.p .pick) [(.t 16), (.t 22), (.c (.bool false))]]) (.keep [0, 23] (.cond (.t 23) .skip (.keep [0] (.exit 2))))) (.keep [0] (.block 3 (.reg [iR 24 (.p .mv) [(.t 0)], iR 25 (.p .mv) [(.t 0)], iR 26 (.p .lenS) [(.t 25)], iR 27 (.p (.bin .sub)) [(.t 26), (.c (.int .i64 (.ofNat 1)))], iR 28 (.p (.strSlice false true)) [(.t 24), (.t 27)], iR 0 (.p .mv) [(.t 28)]]))))))) (.keep [0] (.seq (.reg [iR 29 (.p .mv) [(.t 0)], iR 2 (.p .mv) [(.t 29)]]) (.keep [2] (.keep [2] .ret))))))))), [(.t 2)]⟩
def s_ref1_Strip_j1 (call : CallK) (N : Nat) (q : KV) (st : St) (τ : Tape) : Ans := match st with
  | ⟨fr, H⟩ => getK fr 0 fun t0 => q t0 H τ
def s_ref1_Strip_l2 (call : CallK) (N : Nat) (st : St) (τ : Tape) (k : KC) : Ans := match st with
  | ⟨fr, H⟩ => getK fr 0 fun t0 => someK (pLenS [t0]) fun v0 => binK .gtr v0 (.int .i64 (.ofNat 0)) fun v1 => gK v1 true (fun q' => q' t0 H τ) H τ fun v2 H3 τ4 => gK v1 true (fun q' => q' t0 H3 τ4) H3 τ4 fun v5 H6 τ7 => gK v1 true (fun q' => someK (pLenS [v5]) fun v => q' v H6 τ7) H6 τ7 fun v8 H9 τ10 => gK v1 true (fun q' => binK .sub v8 (.int .i64 (.ofNat 1)) fun v => q' v H9 τ10) H9 τ10 fun v11 H12 τ13 => gK v1 true (fun q' => someK (pStrIndex [v2, v11]) fun v => q' v H12 τ13) H12 τ13 fun v14 H15 τ16 => gK v1 true (fun q' => call f_ref1_Blank [v14] H15 τ16 q') H15 τ16 fun v17 H18 τ19 => someK (pPick [v1, v17, (.bool false)]) fun v20 => condK v20 (someK (pLenS [t0]) fun v21 => binK .sub v21 (.int .i64 (.ofNat 1)) fun v22 => someK (pStrSlice false true [t0, v22]) fun v23 =>
    k .normal ⟨(T.set (T.set (T.set (T.set (T.set (T.set (T.set .leaf 0 t0) 24 t0) 25 t0) 26 v21) 27 v22) 28 v23) 0 v23), H18⟩ τ19) (k (.exit 2) ⟨(T.set .leaf 0 t0), H18⟩ τ19)
def s_ref1_Strip_j0 (call : CallK) (N : Nat) (q : KV) (st : St) (τ : Tape) : Ans := match st with
  | ⟨fr, H⟩ => getK fr 0 fun t0 => loopK (s_ref1_Strip_l2 call N) N ⟨(T.set .leaf 0 t0), H⟩ τ (blockK 2 (seqK (s_ref1_Strip_j1 call N q) (endK [(.t 2)] q)))
def s_ref1_Strip_l3 (call : CallK) (N : Nat) (st : St) (τ : Tape) (k : KC) : Ans := match st with
  | ⟨fr, H⟩ => getK fr 0 fun t0 => someK (pLenS [t0]) fun v24 => binK .gtr v24 (.int .i64 (.ofNat 0)) fun v25 => gK v25 true (fun q' => q' t0 H τ) H τ fun v26 H27 τ28 => gK v25 true (fun q' => someK (pStrIndex [v26, (.int .i64 (.ofNat 0))]) fun v => q' v H27 τ28) H27 τ28 fun v29 H30 τ31 => gK v25 true (fun q' => call f_ref1_Blank [v29] H30 τ31 q') H30 τ31 fun v32 H33 τ34 => someK (pPick [v25, v32, (.bool false)]) fun v35 => condK v35 (someK (pStrSlice true false [t0, (.int .i64 (.ofNat 1))]) fun v36 => k .normal ⟨(T.set (T.set (T.set (T.set .leaf 0 t0) 11 t0) 12 v36) 0 v36), H33⟩ τ34) (k (.exit 0) ⟨(T.set .leaf 0 t0), H33⟩ τ34)
def s_ref1_Strip (call : CallK) (N : Nat) (a0 : V) (H : Heap) (τ : Tape) (q : KV) : Ans := loopK (s_ref1_Strip_l3 call N) N ⟨(T.set .leaf 0 a0), H⟩ τ (blockK 0 (seqK (s_ref1_Strip_j0 call N q) (endK [(.t 2)] q)))
theorem s_ref1_Strip_eq (call : CallK) (N : Nat) (a0 : V) (H : Heap) (τ : Tape) (q : KV) : s_ref1_Strip call N a0 H τ q = funK call N fn_ref1_Strip [a0] H τ q := by kernel_rfl
def e_ref1_Strip (call : CallK) (N : Nat) (vs : List V) (H : Heap) (τ : Tape) (q : KV) : Ans := match vs with | [a0] => s_ref1_Strip call N a0 H τ q | _ => none
theorem e_ref1_Strip_ok : EntOk fn_ref1_Strip e_ref1_Strip := by
  intro call N vs H τ q r h
  unfold e_ref1_Strip at h
  split at h
  · rw [s_ref1_Strip_eq] at h; exact h
  · cases h
theorem e_ref1_Strip_nat : EntNat e_ref1_Strip := by
  intro c hn N vs H τ q
  unfold e_ref1_Strip
  split
  · rw [s_ref1_Strip_eq, s_ref1_Strip_eq]; exact funK_ent hn _ _ _ _ _ _
  · rfl
/-- ostiary/ostiaryref1.Lower -/
def fn_ref1_Lower : Fun := ⟨1, (.seq (.reg [iR 2 (.p .mv) [(.c (.str []))]]) (.keep [0] (.seq (.reg [iR 5 (.p .mv) [(.t 0)], iR 6 (.e .strBytes) [(.t 5)], iR 3 (.p .mv) [(.t 6)]]) (.keep [3] (.seq (.seq (.reg [iR 4 (.p .mv) [(.c (.int .i64 (.ofNat 0)))]]) (.keep [3, 4] (.block 0 (.loop (.keep [3, 4] (.seq (.seq (.reg [iR 7 (.p .mv) [(.t 4)], iR 8 (.p .mv) [(.t 3)], iR 9 (.p .len) [(.t 8)], iR 10 (.p (.bin .lss)) [(.t 7), (.t 9)]]) (.keep [3, 4, 10] (.cond (.t 10) .skip (.keep [3] (.exit 0))))) (.keep [3, 4] (.seq (.block 1 (.seq (.reg [iR 13 (.p .mv) [(.t 3)], iR 14 (.p .mv) [(.t 4)], iR 15 (.p (.slIdx 1)) [(.t 13), (.t 14)], iR 16 (.l (.load none)) [(.t 15)], iR 17 (.p (.bin .geq)) [(.t 16), (.c (.int .u8 (.ofNat 65)))], iR 18 (.p .mv) [(.t 17)], iG 19 18 true (.p .mv) [(.t 3)], iG 20 18 true (.p .mv) [(.t 4)], iG 21 18 true (.p (.slIdx 1)) [(.t 19), (.t 20)],
    iG 22 18 true (.l (.load none)) [(.t 21)], iG 23 18 true (.p (.bin .leq)) [(.t 22), (.c (.int .u8 (.ofNat 90)))], iR 24 (.p .pick) [(.t 18), (.t 23), (.c (.bool false))]]) (.keep [3, 4, 24] (.cond (.t 24) (.reg [iR 25 (.p .mv) [(.t 3)], iR 26 (.p .mv) [(.t 4)], iR 27 (.p .mv) [(.t 3)], iR 28 (.p .mv) [(.t 4)], iR 29 (.p (.slIdx 1)) [(.t 27), (.t 28)], iR 30 (.l (.load none)) [(.t 29)], iR 31 (.p (.bin .add)) [(.t 30), (.c (.int .u8 (.ofNat 32)))], iR 32 (.p (.slIdx 1)) [(.t 25), (.t 26)], ⟨none, none, (.e (.store 1)), [(.t 32), (.t 31)], none⟩]) .skip)))) (.keep [3, 4] (.reg [iR 11 (.p .mv) [(.t 4)], iR 12 (.p (.bin .add)) [(.t 11), (.c (.int .i64 (.ofNat 1)))], iR 4 (.p .mv) [(.t 12)]])))))))))) (.keep [3] (.seq (.reg [iR 33 (.p .mv) [(.t 3)], iR 34 (.l .bytesStr) [(.t 33)], iR 2 (.p .mv) [(.t 34)]]) (.keep [2] (.keep [2] .ret))))))))), [(.t 2)]⟩
def s_ref1_Lower_j0 (call : CallK) (N : Nat) (q : KV) (st : St) (τ : Tape) : Ans := match st with
  | ⟨fr, H⟩ => getK fr 3 fun t3 => someK (lBytesStr [t3] H) fun v3 => q v3 H τ
def s_ref1_Lower_j2 (call : CallK) (N : Nat) (k : KC) (st : St) (τ : Tape) : Ans := match st with
  | ⟨fr, H⟩ => getK fr 3 fun t3 => getK fr 4 fun t4 => binK .add t4 (.int .i64 (.ofNat 1)) fun v6 => k .normal ⟨(T.set (T.set (T.set (T.set (T.set .leaf 3 t3) 4 t4) 11 t4) 12 v6) 4 v6), H⟩ τ
def s_ref1_Lower_l1 (call : CallK) (N : Nat) (st : St) (τ : Tape) (k : KC) : Ans := match st with
  | ⟨fr, H⟩ => getK fr 3 fun t3 => getK fr 4 fun t4 => someK (pLen [t3]) fun v4 => binK .lss t4 v4 fun v5 => condK v5 (someK (pSlIdx 1 [t3, t4]) fun v7 => someK (lLoad1 [v7] H) fun v8 => binK .geq v8 (.int .u8 (.ofNat 65)) fun v9 => gK v9 true (fun q' => q' t3 H τ) H τ fun v10 H11 τ12 => gK v9 true (fun q' => q' t4 H11 τ12) H11 τ12 fun v13 H14 τ15 => gK v9 true (fun q' => someK (pSlIdx 1 [v10, v13]) fun v => q' v H14 τ15) H14 τ15 fun v16 H17 τ18 => gK v9 true (fun q' => someK (lLoad1 [v16] H17) fun v => q' v H17 τ18) H17 τ18 fun v19 H20 τ21 => gK v9 true (fun q' => binK .leq v19 (.int .u8 (.ofNat 90)) fun v => q' v H20 τ21) H20 τ21 fun v22 H23 τ24 => someK (pPick [v9, v22, (.bool false)]) fun v25 => condK v25 (someK (pSlIdx 1 [t3, t4]) fun v26 => someK (lLoad1 [v26] H23) fun v27 => binK .add v27 (.int .u8 (.ofNat 32)) fun v28 => someK (pSlIdx 1 [t3, t4]) fun v29 =>
    effK (eStore 1 [v29, v28] H23 τ24) fun v30 H31 τ32 => s_ref1_Lower_j2 call N k ⟨(T.set (T.set (T.set (T.set (T.set (T.set (T.set (T.set (T.set (T.set (T.set .leaf 3 t3) 4 t4) 24 v25) 25 t3) 26 t4) 27 t3) 28 t4) 29 v26) 30 v27) 31 v28) 32 v29), H31⟩ τ32) (s_ref1_Lower_j2 call N k ⟨(T.set (T.set (T.set .leaf 3 t3) 4 t4) 24 v25), H23⟩ τ24)) (k (.exit 0) ⟨(T.set .leaf 3 t3), H⟩ τ)
def s_ref1_Lower (call : CallK) (N : Nat) (a0 : V) (H : Heap) (τ : Tape) (q : KV) : Ans := effK (eStrBytes [a0] H τ) fun v0 H1 τ2 => loopK (s_ref1_Lower_l1 call N) N ⟨(T.set (T.set .leaf 3 v0) 4 (.int .i64 (.ofNat 0))), H1⟩ τ2 (blockK 0 (seqK (s_ref1_Lower_j0 call N q) (endK [(.t 2)] q)))
theorem s_ref1_Lower_eq (call : CallK) (N : Nat) (a0 : V) (H : Heap) (τ : Tape) (q : KV) : s_ref1_Lower call N a0 H τ q = funK call N fn_ref1_Lower [a0] H τ q := by kernel_rfl
def e_ref1_Lower (call : CallK) (N : Nat) (vs : List V) (H : Heap) (τ : Tape) (q : KV) : Ans := match vs with | [a0] => s_ref1_Lower call N a0 H τ q | _ => none
theorem e_ref1_Lower_ok : EntOk fn_ref1_Lower e_ref1_Lower := by
  intro call N vs H τ q r h
  unfold e_ref1_Lower at h
  split at h
  · rw [s_ref1_Lower_eq] at h; exact h
  · cases h
theorem e_ref1_Lower_nat : EntNat e_ref1_Lower := by
  intro c hn N vs H τ q
  unfold e_ref1_Lower
  split
  · rw [s_ref1_Lower_eq, s_ref1_Lower_eq]; exact funK_ent hn _ _ _ _ _ _
  · rfl
/-- ostiary/ostiaryref1.Int -/
def fn_ref1_Int : Fun := ⟨1, (.seq (.reg [iR 2 (.p .mv) [(.c (.int .i64 (.ofNat 0)))], iR 3 (.p .mv) [(.c (.bool false))]]) (.keep [0] (.seq (.reg [iR 4 (.p .mv) [(.c (.int .i64 (.ofNat 0)))]]) (.keep [0, 4] (.seq (.seq (.reg [iR 5 (.p .mv) [(.c (.int .i64 (.ofNat 0)))]]) (.keep [0, 4, 5] (.block 0 (.loop (.keep [0, 4, 5] (.seq (.seq (.reg [iR 7 (.p .mv) [(.t 5)], iR 8 (.p .mv) [(.t 0)], iR 9 (.p .lenS) [(.t 8)], iR 10 (.p (.bin .lss)) [(.t 7), (.t 9)]]) (.keep [0, 4, 5, 10] (.cond (.t 10) .skip (.keep [0, 4] (.exit 0))))) (.keep [0, 4, 5] (.seq (.block 1 (.seq (.seq (.reg [iR 13 (.p .mv) [(.t 0)], iR 14 (.p .mv) [(.t 5)], iR 15 (.p .strIndex) [(.t 13), (.t 14)], iR 16 (.call 122) [(.t 15)], iR 17 (.p (.un .not)) [(.t 16)]]) (.keep [0, 4, 5, 17] (.cond (.t 17) (.seq (.reg [iR 2 (.p .mv) [(.c (.int .i64 (.ofNat 0)))], iR 3 (.p .mv) [(.c (.bool false))]])
    (.keep [2, 3] (.keep [2, 3] .ret))) .skip))) (.keep [0, 4, 5] (.seq (.reg [iR 18 (.p .mv) [(.t 0)], iR 19 (.p .mv) [(.t 5)], iR 20 (.p .strIndex) [(.t 18), (.t 19)], iR 21 (.p (.bin .sub)) [(.t 20), (.c (.int .u8 (.ofNat 48)))], iR 22 (.p (.toInt .i64)) [(.t 21)], iR 6 (.p .mv) [(.t 22)]]) (.keep [0, 4, 5, 6] (.seq (.seq (.reg [iR 23 (.p .mv) [(.t 4)], iR 24 (.p .mv) [(.t 6)], iR 25 (.p (.bin .sub)) [(.c (.int .i64 (.ofNat 9223372036854775807))), (.t 24)], iR 26 (.p (.bin .quo)) [(.t 25), (.c (.int .i64 (.ofNat 10)))], iR 27 (.p (.bin .gtr)) [(.t 23), (.t 26)]]) (.keep [0, 4, 5, 6, 27] (.cond (.t 27) (.seq (.reg [iR 4 (.p .mv) [(.c (.int .i64 (.ofNat 9223372036854775807)))]]) (.keep [0, 4, 5] (.keep [0, 4, 5] (.exit 1)))) .skip))) (.keep [0, 4, 5, 6] (.reg [iR 28 (.p .mv) [(.t 4)], iR 29 (.p (.bin .mul)) [(.t 28), (.c (.int .i64 (.ofNat 10)))], iR 30 (.p .mv) [(.t 6)],
    iR 31 (.p (.bin .add)) [(.t 29), (.t 30)], iR 4 (.p .mv) [(.t 31)]])))))))) (.keep [0, 4, 5] (.reg [iR 11 (.p .mv) [(.t 5)], iR 12 (.p (.bin .add)) [(.t 11), (.c (.int .i64 (.ofNat 1)))], iR 5 (.p .mv) [(.t 12)]])))))))))) (.keep [0, 4] (.seq (.reg [iR 32 (.p .mv) [(.t 4)], iR 33 (.p .mv) [(.t 0)], iR 34 (.p .lenS) [(.t 33)], iR 35 (.p (.bin .gtr)) [(.t 34), (.c (.int .i64 (.ofNat 0)))], iR 2 (.p .mv) [(.t 32)], iR 3 (.p .mv) [(.t 35)]]) (.keep [2, 3] (.keep [2, 3] .ret))))))))), [(.t 2), (.t 3)]⟩
def s_ref1_Int_j0 (call : CallK) (N : Nat) (q : KV) (st : St) (τ : Tape) : Ans := match st with
  | ⟨fr, H⟩ => getK fr 0 fun t0 => getK fr 4 fun t4 => someK (pLenS [t0]) fun v0 => binK .gtr v0 (.int .i64 (.ofNat 0)) fun v1 => q (.tup [t4, v1]) H τ
def s_ref1_Int_j2 (call : CallK) (N : Nat) (k : KC) (st : St) (τ : Tape) : Ans := match st with
  | ⟨fr, H⟩ => getK fr 0 fun t0 => getK fr 4 fun t4 => getK fr 5 fun t5 => binK .add t5 (.int .i64 (.ofNat 1)) fun v4 => k .normal ⟨(T.set (T.set (T.set (T.set (T.set (T.set .leaf 0 t0) 4 t4) 5 t5) 11 t5) 12 v4) 5 v4), H⟩ τ
def s_ref1_Int_l1 (call : CallK) (N : Nat) (st : St) (τ : Tape) (k : KC) : Ans := match st with
  | ⟨fr, H⟩ => getK fr 0 fun t0 => getK fr 4 fun t4 => getK fr 5 fun t5 => someK (pLenS [t0]) fun v2 => binK .lss t5 v2 fun v3 => condK v3 (someK (pStrIndex [t0, t5]) fun v5 => call f_ref1_Digit [v5] H τ fun v6 H7 τ8 => unK .not v6 fun v9 => condK v9 (k .ret ⟨(T.set (T.set .leaf 2 (.int .i64 (.ofNat 0))) 3 (.bool false)), H7⟩ τ8) (someK (pStrIndex [t0, t5]) fun v10 => binK .sub v10 (.int .u8 (.ofNat 48)) fun v11 => toIntK .i64 v11 fun v12 => binK .sub (.int .i64 (.ofNat 9223372036854775807)) v12 fun v13 => binK .quo v13 (.int .i64 (.ofNat 10)) fun v14 => binK .gtr t4 v14 fun v15 => condK v15 (s_ref1_Int_j2 call N k ⟨(T.set (T.set (T.set .leaf 0 t0) 4 (.int .i64 (.ofNat 9223372036854775807))) 5 t5), H7⟩ τ8) (binK .mul t4 (.int .i64 (.ofNat 10)) fun v16 => binK .add v16 v12 fun v17 =>
    s_ref1_Int_j2 call N k ⟨(T.set (T.set (T.set (T.set (T.set (T.set (T.set (T.set (T.set .leaf 0 t0) 4 t4) 5 t5) 6 v12) 28 t4) 29 v16) 30 v12) 31 v17) 4 v17), H7⟩ τ8))) (k (.exit 0) ⟨(T.set (T.set .leaf 0 t0) 4 t4), H⟩ τ)
def s_ref1_Int (call : CallK) (N : Nat) (a0 : V) (H : Heap) (τ : Tape) (q : KV) : Ans := loopK (s_ref1_Int_l1 call N) N ⟨(T.set (T.set (T.set .leaf 0 a0) 4 (.int .i64 (.ofNat 0))) 5 (.int .i64 (.ofNat 0))), H⟩ τ (blockK 0 (seqK (s_ref1_Int_j0 call N q) (endK [(.t 2), (.t 3)] q)))
theorem s_ref1_Int_eq (call : CallK) (N : Nat) (a0 : V) (H : Heap) (τ : Tape) (q : KV) : s_ref1_Int call N a0 H τ q = funK call N fn_ref1_Int [a0] H τ q := by kernel_rfl
def e_ref1_Int (call : CallK) (N : Nat) (vs : List V) (H : Heap) (τ : Tape) (q : KV) : Ans := match vs with | [a0] => s_ref1_Int call N a0 H τ q | _ => none
theorem e_ref1_Int_ok : EntOk fn_ref1_Int e_ref1_Int := by
  intro call N vs H τ q r h
  unfold e_ref1_Int at h
  split at h
  · rw [s_ref1_Int_eq] at h; exact h
  · cases h
theorem e_ref1_Int_nat : EntNat e_ref1_Int := by
  intro c hn N vs H τ q
  unfold e_ref1_Int
  split
  · rw [s_ref1_Int_eq, s_ref1_Int_eq]; exact funK_ent hn _ _ _ _ _ _
  · rfl
/-- ostiary/ostiaryref1.Sorted -/
def fn_ref1_Sorted : Fun := ⟨1, (.seq (.reg [iR 2 (.p .mv) [(.c .nils)]]) (.keep [0] (.seq (.reg [iR 3 (.p .mv) [(.c .nils)]]) (.keep [0, 3] (.seq (.seq (.reg [iR 4 (.p .mv) [(.c (.int .i64 (.ofNat 0)))]]) (.keep [0, 3, 4] (.block 0 (.loop (.keep [0, 3, 4] (.seq (.seq (.reg [iR 6 (.p .mv) [(.t 4)], iR 7 (.p .mv) [(.t 0)], iR 8 (.p .len) [(.t 7)], iR 9 (.p (.bin .lss)) [(.t 6), (.t 8)]]) (.keep [0, 3, 4, 9] (.cond (.t 9) .skip (.keep [3] (.exit 0))))) (.keep [0, 3, 4] (.seq (.block 1 (.seq (.reg [iR 5 (.p .mv) [(.c (.int .i64 (.ofNat 0)))]]) (.keep [0, 3, 4, 5] (.seq (.block 2 (.loop (.keep [0, 3, 4, 5] (.seq (.seq (.draw [iR 12 (.p .mv) [(.t 5)], iR 13 (.p .mv) [(.t 3)], iR 14 (.p .len) [(.t 13)], iR 15 (.p (.bin .lss)) [(.t 12), (.t 14)], iR 16 (.p .mv) [(.t 15)], iG 17 16 true (.p .mv) [(.t 3)], iG 18 16 true (.p .mv) [(.t 5)], iG 19 16 true (.p (.slIdx 1)) [(.t 17), (.t 18)],
    iG 20 16 true (.l (.load none)) [(.t 19)], iG 21 16 true (.p .mv) [(.t 0)], iG 22 16 true (.p .mv) [(.t 4)], iG 23 16 true (.p (.slIdx 1)) [(.t 21), (.t 22)], iG 24 16 true (.l (.load none)) [(.t 23)], iG 25 16 true (.p (.bin .lss)) [(.t 20), (.t 24)], iR 26 (.p .pick) [(.t 16), (.t 25), (.c (.bool false))]]) (.keep [0, 3, 4, 5, 26] (.cond (.t 26) .skip (.keep [0, 3, 4, 5] (.exit 2))))) (.keep [0, 3, 4, 5] (.block 3 (.reg [iR 27 (.p .mv) [(.t 5)], iR 28 (.p (.bin .add)) [(.t 27), (.c (.int .i64 (.ofNat 1)))], iR 5 (.p .mv) [(.t 28)]]))))))) (.keep [0, 3, 4, 5] (.seq (.seq (.draw [iR 29 (.p .mv) [(.t 5)], iR 30 (.p .mv) [(.t 3)], iR 31 (.p .len) [(.t 30)], iR 32 (.p (.bin .lss)) [(.t 29), (.t 31)], iR 33 (.p .mv) [(.t 32)], iG 34 33 true (.p .mv) [(.t 3)], iG 35 33 true (.p .mv) [(.t 5)], iG 36 33 true (.p (.slIdx 1)) [(.t 34), (.t 35)],
    iG 37 33 true (.l (.load none)) [(.t 36)], iG 38 33 true (.p .mv) [(.t 0)], iG 39 33 true (.p .mv) [(.t 4)], iG 40 33 true (.p (.slIdx 1)) [(.t 38), (.t 39)], iG 41 33 true (.l (.load none)) [(.t 40)], iG 42 33 true (.p (.bin .eql)) [(.t 37), (.t 41)], iR 43 (.p .pick) [(.t 33), (.t 42), (.c (.bool false))]]) (.keep [0, 3, 4, 5, 43] (.cond (.t 43) (.keep [0, 3, 4] (.exit 1)) .skip))) (.keep [0, 3, 4, 5] (.seq (.reg [iR 44 (.p .mv) [(.t 3)], iR 45 (.e (.buildSlice 1 1 [(.str [])] [(0, 1)])) [(.c (.str []))], iR 46 (.e (.append 1 16)) [(.t 44), (.t 45)], iR 3 (.p .mv) [(.t 46)]]) (.keep [0, 3, 4, 5] (.seq (.draw [iR 47 (.p .mv) [(.t 3)], iR 48 (.p .mv) [(.t 5)], iR 49 (.p (.bin .add)) [(.t 48), (.c (.int .i64 (.ofNat 1)))], iR 50 (.p (.slSlice 1 true false false)) [(.t 47), (.t 49)], iR 51 (.p .mv) [(.t 3)], iR 52 (.p .mv) [(.t 5)],
    iR 53 (.p (.slSlice 1 true false false)) [(.t 51), (.t 52)], iR 54 (.e (.copy 1)) [(.t 50), (.t 53)]]) (.keep [0, 3, 4, 5] (.reg [iR 55 (.p .mv) [(.t 3)], iR 56 (.p .mv) [(.t 5)], iR 57 (.p .mv) [(.t 0)], iR 58 (.p .mv) [(.t 4)], iR 59 (.p (.slIdx 1)) [(.t 57), (.t 58)], iR 60 (.l (.load none)) [(.t 59)], iR 61 (.p (.slIdx 1)) [(.t 55), (.t 56)], ⟨none, none, (.e (.store 1)), [(.t 61), (.t 60)], none⟩])))))))))))) (.keep [0, 3, 4] (.reg [iR 10 (.p .mv) [(.t 4)], iR 11 (.p (.bin .add)) [(.t 10), (.c (.int .i64 (.ofNat 1)))], iR 4 (.p .mv) [(.t 11)]])))))))))) (.keep [3] (.seq (.reg [iR 62 (.p .mv) [(.t 3)], iR 2 (.p .mv) [(.t 62)]]) (.keep [2] (.keep [2] .ret))))))))), [(.t 2)]⟩
def s_ref1_Sorted_j0 (call : CallK) (N : Nat) (q : KV) (st : St) (τ : Tape) : Ans := match st with
  | ⟨fr, H⟩ => getK fr 3 fun t3 => q t3 H τ
def s_ref1_Sorted_j2 (call : CallK) (N : Nat) (k : KC) (st : St) (τ : Tape) : Ans := match st with
  | ⟨fr, H⟩ => getK fr 0 fun t0 => getK fr 3 fun t3 => getK fr 4 fun t4 => binK .add t4 (.int .i64 (.ofNat 1)) fun v2 => k .normal ⟨(T.set (T.set (T.set (T.set (T.set (T.set .leaf 0 t0) 3 t3) 4 t4) 10 t4) 11 v2) 4 v2), H⟩ τ
def s_ref1_Sorted_j3 (call : CallK) (N : Nat) (k : KC) (st : St) (τ : Tape) : Ans := match st with
  | ⟨fr, H⟩ => getK fr 0 fun t0 => getK fr 3 fun t3 => getK fr 4 fun t4 => getK fr 5 fun t5 => someK (pLen [t3]) fun v3 => binK .lss t5 v3 fun v4 => gK v4 true (fun q' => q' t3 H τ) H τ fun v5 H6 τ7 => gK v4 true (fun q' => q' t5 H6 τ7) H6 τ7 fun v8 H9 τ10 => gK v4 true (fun q' => someK (pSlIdx 1 [v5, v8]) fun v => q' v H9 τ10) H9 τ10 fun v11 H12 τ13 => gK v4 true (fun q' => someK (lLoad1 [v11] H12) fun v => q' v H12 τ13) H12 τ13 fun v14 H15 τ16 => gK v4 true (fun q' => q' t0 H15 τ16) H15 τ16 fun v17 H18 τ19 => gK v4 true (fun q' => q' t4 H18 τ19) H18 τ19 fun v20 H21 τ22 => gK v4 true (fun q' => someK (pSlIdx 1 [v17, v20]) fun v => q' v H21 τ22) H21 τ22 fun v23 H24 τ25 => gK v4 true (fun q' => someK (lLoad1 [v23] H24) fun v => q' v H24 τ25) H24 τ25 fun v26 H27 τ28 => gK v4 true (fun q' => binK .eql v14 v26 fun v => q' v H27 τ28) H27 τ28 fun v29 H30 τ31 =>
    someK (pPick [v4, v29, (.bool false)]) fun v32 => condK v32 (s_ref1_Sorted_j2 call N k ⟨(T.set (T.set (T.set .leaf 0 t0) 3 t3) 4 t4), H30⟩ τ31) (effK (eBuildSlice 1 1 [(.str [])] [(0, 1)] [(.str [])] H30 τ31) fun v33 H34 τ35 => effK (eAppend 1 16 [t3, v33] H34 τ35) fun v36 H37 τ38 => binK .add t5 (.int .i64 (.ofNat 1)) fun v39 => someK (pSlSlice 1 true false false [v36, v39]) fun v40 => someK (pSlSlice 1 true false false [v36, t5]) fun v41 => effK (eCopy 1 [v40, v41] H37 τ38) fun v42 H43 τ44 => someK (pSlIdx 1 [t0, t4]) fun v45 => someK (lLoad1 [v45] H43) fun v46 => someK (pSlIdx 1 [v36, t5]) fun v47 => effK (eStore 1 [v47, v46] H43 τ44) fun v48 H49 τ50 => s_ref1_Sorted_j2 call N k ⟨(T.set (T.set (T.set (T.set (T.set (T.set (T.set (T.set (T.set (T.set (T.set .leaf 0 t0) 3 v36) 4 t4) 5 t5) 55 v36) 56 t5) 57 t0) 58 t4) 59 v45) 60 v46) 61 v47), H49⟩ τ50)
def s_ref1_Sorted_l4 (call : CallK) (N : Nat) (st : St) (τ : Tape) (k : KC) : Ans := match st with
  | ⟨fr, H⟩ => getK fr 0 fun t0 => getK fr 3 fun t3 => getK fr 4 fun t4 => getK fr 5 fun t5 => someK (pLen [t3]) fun v51 => binK .lss t5 v51 fun v52 => gK v52 true (fun q' => q' t3 H τ) H τ fun v53 H54 τ55 => gK v52 true (fun q' => q' t5 H54 τ55) H54 τ55 fun v56 H57 τ58 => gK v52 true (fun q' => someK (pSlIdx 1 [v53, v56]) fun v => q' v H57 τ58) H57 τ58 fun v59 H60 τ61 => gK v52 true (fun q' => someK (lLoad1 [v59] H60) fun v => q' v H60 τ61) H60 τ61 fun v62 H63 τ64 => gK v52 true (fun q' => q' t0 H63 τ64) H63 τ64 fun v65 H66 τ67 => gK v52 true (fun q' => q' t4 H66 τ67) H66 τ67 fun v68 H69 τ70 => gK v52 true (fun q' => someK (pSlIdx 1 [v65, v68]) fun v => q' v H69 τ70) H69 τ70 fun v71 H72 τ73 => gK v52 true (fun q' => someK (lLoad1 [v71] H72) fun v => q' v H72 τ73) H72 τ73 fun v74 H75 τ76 => gK v52 true (fun q' => binK .lss v62 v74 fun v => q' v H75 τ76) H75 τ76 fun v77 H78 τ79 =>
    someK (pPick [v52, v77, (.bool false)]) fun v80 => condK v80 (binK .add t5 (.int .i64 (.ofNat 1)) fun v81 => k .normal ⟨(T.set (T.set (T.set (T.set (T.set (T.set (T.set .leaf 0 t0) 3 t3) 4 t4) 5 t5) 27 t5) 28 v81) 5 v81), H78⟩ τ79) (k (.exit 2) ⟨(T.set (T.set (T.set (T.set .leaf 0 t0) 3 t3) 4 t4) 5 t5), H78⟩ τ79)
def s_ref1_Sorted_l1 (call : CallK) (N : Nat) (st : St) (τ : Tape) (k : KC) : Ans := match st with
  | ⟨fr, H⟩ => getK fr 0 fun t0 => getK fr 3 fun t3 => getK fr 4 fun t4 => someK (pLen [t0]) fun v0 => binK .lss t4 v0 fun v1 => condK v1 (loopK (s_ref1_Sorted_l4 call N) N ⟨(T.set (T.set (T.set (T.set .leaf 0 t0) 3 t3) 4 t4) 5 (.int .i64 (.ofNat 0))), H⟩ τ (blockK 2 (seqK (s_ref1_Sorted_j3 call N k) (blockK 1 (seqK (s_ref1_Sorted_j2 call N k) k))))) (k (.exit 0) ⟨(T.set .leaf 3 t3), H⟩ τ)
def s_ref1_Sorted (call : CallK) (N : Nat) (a0 : V) (H : Heap) (τ : Tape) (q : KV) : Ans := loopK (s_ref1_Sorted_l1 call N) N ⟨(T.set (T.set (T.set .leaf 0 a0) 3 .nils) 4 (.int .i64 (.ofNat 0))), H⟩ τ (blockK 0 (seqK (s_ref1_Sorted_j0 call N q) (endK [(.t 2)] q)))
theorem s_ref1_Sorted_eq (call : CallK) (N : Nat) (a0 : V) (H : Heap) (τ : Tape) (q : KV) : s_ref1_Sorted call N a0 H τ q = funK call N fn_ref1_Sorted [a0] H τ q := by kernel_rfl
def e_ref1_Sorted (call : CallK) (N : Nat) (vs : List V) (H : Heap) (τ : Tape) (q : KV) : Ans := match vs with | [a0] => s_ref1_Sorted call N a0 H τ q | _ => none
theorem e_ref1_Sorted_ok : EntOk fn_ref1_Sorted e_ref1_Sorted := by
  intro call N vs H τ q r h
  unfold e_ref1_Sorted at h
  split at h
  · rw [s_ref1_Sorted_eq] at h; exact h
  · cases h
theorem e_ref1_Sorted_nat : EntNat e_ref1_Sorted := by
  intro c hn N vs H τ q
  unfold e_ref1_Sorted
  split
  · rw [s_ref1_Sorted_eq, s_ref1_Sorted_eq]; exact funK_ent hn _ _ _ _ _ _
  · rfl
/-- ostiary/ostiaryref5.Get -/
def fn_ref5_Get : Fun := ⟨2, (.seq (.reg [iR 4 (.p .mv) [(.c (.str []))], iR 5 (.p .mv) [(.c (.bool false))]]) (.keep [0, 1] (.seq (.reg [iR 6 (.p .mv) [(.c (.str []))]]) (.keep [0, 1, 6] (.seq (.reg [iR 7 (.p .mv) [(.c (.bool false))]]) (.keep [0, 1, 6, 7] (.seq (.seq (.reg [iR 8 (.p .mv) [(.c (.int .i64 (.ofNat 0)))]]) (.keep [0, 1, 6, 7, 8] (.block 0 (.loop (.keep [0, 1, 6, 7, 8] (.seq (.seq (.reg [iR 9 (.p .mv) [(.t 8)], iR 10 (.p .mv) [(.t 0)], iR 11 (.p .len) [(.t 10)], iR 12 (.p (.bin .lss)) [(.t 9), (.t 11)]]) (.keep [0, 1, 6, 7, 8, 12] (.cond (.t 12) .skip (.keep [6, 7] (.exit 0))))) (.keep [0, 1, 6, 7, 8] (.seq (.block 1 (.seq (.seq (.reg [iR 15 (.p .mv) [(.t 0)], iR 16 (.p .mv) [(.t 8)], iR 17 (.p (.slIdx 2)) [(.t 15), (.t 16)], iR 18 (.l (.load (some 2))) [(.t 17)], iR 19 (.p .mv) [(.t 1)], iR 20 (.call 123) [(.t 18), (.t 19)], iR 21 (.p (.un .not)) [(.t 20)]])
    (.keep [0, 1, 6, 7, 8, 21] (.cond (.t 21) (.keep [0, 1, 6, 7, 8] (.exit 1)) .skip))) (.keep [0, 1, 6, 7, 8] (.seq (.seq (.reg [iR 22 (.p .mv) [(.t 7)]]) (.keep [0, 1, 6, 8, 22] (.cond (.t 22) (.reg [iR 23 (.p .mv) [(.t 6)], iR 24 (.p (.bin .add)) [(.t 23), (.c (.str (bs [44, 32])))], iR 6 (.p .mv) [(.t 24)]]) .skip))) (.keep [0, 1, 6, 8] (.seq (.reg [iR 25 (.p .mv) [(.t 6)], iR 26 (.p .mv) [(.t 0)], iR 27 (.p .mv) [(.t 8)], iR 28 (.p (.slIdx 2)) [(.t 26), (.t 27)], iR 29 (.p (.fieldAddr 1)) [(.t 28)], iR 30 (.l (.load none)) [(.t 29)], iR 31 (.p (.bin .add)) [(.t 25), (.t 30)], iR 6 (.p .mv) [(.t 31)]]) (.keep [0, 1, 6, 8] (.reg [iR 7 (.p .mv) [(.c (.bool true))]])))))))) (.keep [0, 1, 6, 7, 8] (.reg [iR 13 (.p .mv) [(.t 8)], iR 14 (.p (.bin .add)) [(.t 13), (.c (.int .i64 (.ofNat 1)))], iR 8 (.p .mv) [(.t 14)]])))))))))) (.keep [6, 7] (.seq (.reg [iR 32 (.p .mv) [(.t 6)],
    iR 33 (.p .mv) [(.t 7)], iR 4 (.p .mv) [(.t 32)], iR 5 (.p .mv) [(.t 33)]]) (.keep [4, 5] (.keep [4, 5] .ret))))))))))), [(.t 4), (.t 5)]⟩
def s_ref5_Get_j0 (call : CallK) (N : Nat) (q : KV) (st : St) (τ : Tape) : Ans := match st with
  | ⟨fr, H⟩ => getK fr 6 fun t6 => getK fr 7 fun t7 => q (.tup [t6, t7]) H τ
def s_ref5_Get_j2 (call : CallK) (N : Nat) (k : KC) (st : St) (τ : Tape) : Ans := match st with
  | ⟨fr, H⟩ => getK fr 0 fun t0 => getK fr 1 fun t1 => getK fr 6 fun t6 => getK fr 7 fun t7 => getK fr 8 fun t8 => binK .add t8 (.int .i64 (.ofNat 1)) fun v2 => k .normal ⟨(T.set (T.set (T.set (T.set (T.set (T.set (T.set (T.set .leaf 0 t0) 1 t1) 6 t6) 7 t7) 8 t8) 13 t8) 14 v2) 8 v2), H⟩ τ
def s_ref5_Get_j3 (call : CallK) (N : Nat) (k : KC) (st : St) (τ : Tape) : Ans := match st with
  | ⟨fr, H⟩ => getK fr 0 fun t0 => getK fr 1 fun t1 => getK fr 6 fun t6 => getK fr 8 fun t8 => someK (pSlIdx 2 [t0, t8]) fun v9 => someK (pFieldAddr 1 [v9]) fun v10 => someK (lLoad1 [v10] H) fun v11 => binK .add t6 v11 fun v12 => s_ref5_Get_j2 call N k ⟨(T.set (T.set (T.set (T.set (T.set .leaf 0 t0) 1 t1) 6 v12) 8 t8) 7 (.bool true)), H⟩ τ
def s_ref5_Get_l1 (call : CallK) (N : Nat) (st : St) (τ : Tape) (k : KC) : Ans := match st with
  | ⟨fr, H⟩ => getK fr 0 fun t0 => getK fr 1 fun t1 => getK fr 6 fun t6 => getK fr 7 fun t7 => getK fr 8 fun t8 => someK (pLen [t0]) fun v0 => binK .lss t8 v0 fun v1 => condK v1 (someK (pSlIdx 2 [t0, t8]) fun v3 => someK (lLoadN 2 [v3] H) fun v4 => call f_ref5_Named [v4, t1] H τ fun v5 H6 τ7 => unK .not v5 fun v8 => condK v8 (s_ref5_Get_j2 call N k ⟨(T.set (T.set (T.set (T.set (T.set .leaf 0 t0) 1 t1) 6 t6) 7 t7) 8 t8), H6⟩ τ7) (condK t7 (binK .add t6 (.str (bs [44, 32])) fun v13 => s_ref5_Get_j3 call N k ⟨(T.set (T.set (T.set (T.set (T.set (T.set (T.set (T.set .leaf 0 t0) 1 t1) 6 t6) 8 t8) 22 t7) 23 t6) 24 v13) 6 v13), H6⟩ τ7) (s_ref5_Get_j3 call N k ⟨(T.set (T.set (T.set (T.set (T.set .leaf 0 t0) 1 t1) 6 t6) 8 t8) 22 t7), H6⟩ τ7))) (k (.exit 0) ⟨(T.set (T.set .leaf 6 t6) 7 t7), H⟩ τ)
def s_ref5_Get (call : CallK) (N : Nat) (a0 a1 : V) (H : Heap) (τ : Tape) (q : KV) : Ans := loopK (s_ref5_Get_l1 call N) N ⟨(T.set (T.set (T.set (T.set (T.set .leaf 0 a0) 1 a1) 6 (.str [])) 7 (.bool false)) 8 (.int .i64 (.ofNat 0))), H⟩ τ (blockK 0 (seqK (s_ref5_Get_j0 call N q) (endK [(.t 4), (.t 5)] q)))
theorem s_ref5_Get_eq (call : CallK) (N : Nat) (a0 a1 : V) (H : Heap) (τ : Tape) (q : KV) : s_ref5_Get call N a0 a1 H τ q = funK call N fn_ref5_Get [a0, a1] H τ q := by kernel_rfl
def e_ref5_Get (call : CallK) (N : Nat) (vs : List V) (H : Heap) (τ : Tape) (q : KV) : Ans := match vs with | [a0, a1] => s_ref5_Get call N a0 a1 H τ q | _ => none
theorem e_ref5_Get_ok : EntOk fn_ref5_Get e_ref5_Get := by
  intro call N vs H τ q r h
  unfold e_ref5_Get at h
  split at h
  · rw [s_ref5_Get_eq] at h; exact h
  · cases h
theorem e_ref5_Get_nat : EntNat e_ref5_Get := by
  intro c hn N vs H τ q
  unfold e_ref5_Get
  split
  · rw [s_ref5_Get_eq, s_ref5_Get_eq]; exact funK_ent hn _ _ _ _ _ _
  · rfl
/-- strings.IndexRune -/
def fn_strings_IndexRune : Fun := ⟨2, (.seq (.reg [iR 4 (.p .mv) [(.c (.int .i64 (.ofNat 0)))]]) (.keep [0, 1] (.block 0 (.seq (.reg [iR 161 (.p .mv) [(.t 1)], iR 162 (.p (.bin .leq)) [(.c (.int .i32 (.ofNat 0))), (.t 161)], iR 163 (.p .mv) [(.t 162)], iG 164 163 true (.p .mv) [(.t 1)], iG 165 163 true (.p (.bin .lss)) [(.t 164), (.c (.int .i32 (.ofNat 128)))], iR 166 (.p .pick) [(.t 163), (.t 165), (.c (.bool false))], iR 160 (.p .mv) [(.t 166)]]) (.keep [0, 1, 160] (.cond (.t 160) (.seq (.reg [iR 167 (.p .mv) [(.t 0)], iR 168 (.p .mv) [(.t 1)], iR 169 (.p (.toInt .u8)) [(.t 168)], iR 170 (.call 105) [(.t 167), (.t 169)], iR 4 (.p .mv) [(.t 170)]]) (.keep [4] (.keep [4] .ret))) (.seq (.reg [iR 172 (.p .mv) [(.t 1)], iR 173 (.p (.bin .eql)) [(.t 172), (.c (.int .i32 (.ofNat 65533)))], iR 171 (.p .mv) [(.t 173)]]) (.keep [0, 1, 171] (.cond (.t 171)
    (.seq (.seq (.reg [iR 174 (.p .mv) [(.t 0)], iR 175 (.e .range) [(.t 174)]]) (.keep [175] (.block 9 (.loop (.keep [175] (.seq (.reg [iR 176 (.e .next) [(.t 175)], iR 177 (.p (.extract 0)) [(.t 176)]]) (.keep [175, 176, 177] (.seq (.cond (.t 177) .skip (.keep [] (.exit 9))) (.keep [175, 176] (.block 10 (.seq (.reg [iR 178 (.p (.extract 1)) [(.t 176)], iR 179 (.p (.extract 2)) [(.t 176)], iR 5 (.p .mv) [(.t 178)], iR 6 (.p .mv) [(.t 179)]]) (.keep [5, 6, 175] (.seq (.reg [iR 180 (.p .mv) [(.t 6)], iR 181 (.p (.bin .eql)) [(.t 180), (.c (.int .i32 (.ofNat 65533)))]]) (.keep [5, 175, 181] (.cond (.t 181) (.seq (.reg [iR 182 (.p .mv) [(.t 5)], iR 4 (.p .mv) [(.t 182)]]) (.keep [4] (.keep [4] .ret))) .skip))))))))))))))) (.keep [] (.seq (.reg [iR 4 (.p .mv) [(.c (.int .i64 (.negSucc 0)))]]) (.keep [4] (.keep [4] .ret))))) (.seq (.reg [iR 184 (.p .mv) [(.t 1)],
    iR 185 (.call 127) [(.t 184)], iR 186 (.p (.un .not)) [(.t 185)], iR 183 (.p .mv) [(.t 186)]]) (.keep [0, 1, 183] (.cond (.t 183) (.seq (.reg [iR 4 (.p .mv) [(.c (.int .i64 (.negSucc 0)))]]) (.keep [4] (.keep [4] .ret))) (.scope (.seq (.reg [iR 17 (.p .mv) [(.t 1)], iR 18 (.p .runeStr) [(.t 17)], iR 7 (.p .mv) [(.t 18)]]) (.keep [0, 7] (.seq (.reg [iR 19 (.p .mv) [(.t 7)], iR 20 (.p .lenS) [(.t 19)], iR 21 (.p (.bin .sub)) [(.t 20), (.c (.int .i64 (.ofNat 1)))], iR 8 (.p .mv) [(.t 21)]]) (.keep [0, 7, 8] (.seq (.reg [iR 22 (.p .mv) [(.t 8)], iR 9 (.p .mv) [(.t 22)]]) (.keep [0, 7, 8, 9] (.seq (.reg [iR 10 (.p .mv) [(.c (.int .i64 (.ofNat 0)))]]) (.keep [0, 7, 8, 9] (.seq (.block 1 (.loop (.keep [0, 7, 8, 9] (.seq (.seq (.reg [iR 23 (.p .mv) [(.t 9)], iR 24 (.p .mv) [(.t 0)], iR 25 (.p .lenS) [(.t 24)], iR 26 (.p (.bin .lss)) [(.t 23), (.t 25)]])
    (.keep [0, 7, 8, 9, 26] (.cond (.t 26) .skip (.keep [] (.exit 1))))) (.keep [0, 7, 8, 9] (.block 2 (.scope (.seq (.seq (.draw [iR 27 (.p .mv) [(.t 0)], iR 28 (.p .mv) [(.t 9)], iR 29 (.p .strIndex) [(.t 27), (.t 28)], iR 30 (.p .mv) [(.t 7)], iR 31 (.p .mv) [(.t 8)], iR 32 (.p .strIndex) [(.t 30), (.t 31)], iR 33 (.p (.bin .neq)) [(.t 29), (.t 32)]]) (.keep [0, 7, 8, 9, 33] (.cond (.t 33) (.seq (.draw [iR 34 (.p .mv) [(.t 0)], iR 35 (.p .mv) [(.t 9)], iR 36 (.p (.bin .add)) [(.t 35), (.c (.int .i64 (.ofNat 1)))], iR 37 (.p (.strSlice true false)) [(.t 34), (.t 36)], iR 38 (.p .mv) [(.t 7)], iR 39 (.p .mv) [(.t 8)], iR 40 (.p .strIndex) [(.t 38), (.t 39)], iR 41 (.call 105) [(.t 37), (.t 40)], iR 11 (.p .mv) [(.t 41)]]) (.keep [0, 7, 8, 9, 11] (.seq (.seq (.reg [iR 42 (.p .mv) [(.t 11)], iR 43 (.p (.bin .lss)) [(.t 42), (.c (.int .i64 (.ofNat 0)))]])
    (.keep [0, 7, 8, 9, 11, 43] (.cond (.t 43) (.seq (.reg [iR 4 (.p .mv) [(.c (.int .i64 (.negSucc 0)))]]) (.keep [4] (.keep [4] .ret))) .skip))) (.keep [0, 7, 8, 9, 11] (.reg [iR 44 (.p .mv) [(.t 9)], iR 45 (.p .mv) [(.t 11)], iR 46 (.p (.bin .add)) [(.t 45), (.c (.int .i64 (.ofNat 1)))], iR 47 (.p (.bin .add)) [(.t 44), (.t 46)], iR 9 (.p .mv) [(.t 47)]]))))) .skip))) (.keep [0, 7, 8, 9] (.seq (.seq (.reg [iR 12 (.p .mv) [(.c (.int .i64 (.ofNat 1)))]]) (.keep [0, 7, 8, 9, 12] (.block 3 (.loop (.keep [0, 7, 8, 9, 12] (.seq (.seq (.reg [iR 48 (.p .mv) [(.t 12)], iR 49 (.p .mv) [(.t 7)], iR 50 (.p .lenS) [(.t 49)], iR 51 (.p (.bin .lss)) [(.t 48), (.t 50)]]) (.keep [0, 7, 8, 9, 12, 51] (.cond (.t 51) .skip (.keep [8, 9] (.exit 3))))) (.keep [0, 7, 8, 9, 12] (.seq (.block 4 (.seq (.draw [iR 54 (.p .mv) [(.t 0)], iR 55 (.p .mv) [(.t 9)], iR 56 (.p .mv) [(.t 12)],
    iR 57 (.p (.bin .sub)) [(.t 55), (.t 56)], iR 58 (.p .strIndex) [(.t 54), (.t 57)], iR 59 (.p .mv) [(.t 7)], iR 60 (.p .mv) [(.t 8)], iR 61 (.p .mv) [(.t 12)], iR 62 (.p (.bin .sub)) [(.t 60), (.t 61)], iR 63 (.p .strIndex) [(.t 59), (.t 62)], iR 64 (.p (.bin .neq)) [(.t 58), (.t 63)]]) (.keep [0, 7, 8, 9, 12, 64] (.cond (.t 64) .bad .skip)))) (.keep [0, 7, 8, 9, 12] (.reg [iR 52 (.p .mv) [(.t 12)], iR 53 (.p (.bin .add)) [(.t 52), (.c (.int .i64 (.ofNat 1)))], iR 12 (.p .mv) [(.t 53)]])))))))))) (.keep [8, 9] (.seq (.seq (.reg [iR 65 (.p .mv) [(.t 9)], iR 66 (.p .mv) [(.t 8)], iR 67 (.p (.bin .sub)) [(.t 65), (.t 66)], iR 4 (.p .mv) [(.t 67)]]) (.keep [4] (.keep [4] .ret))) (.keep [0, 7, 8, 9, 10] (.seq .skip (.keep [0, 7, 8, 9, 10] (.seq (.reg [iR 68 (.p .mv) [(.t 10)], iR 69 (.p (.bin .add)) [(.t 68), (.c (.int .i64 (.ofNat 1)))], iR 10 (.p .mv) [(.t 69)]])
    (.keep [0, 7, 8, 9, 10] (.seq (.reg [iR 70 (.p .mv) [(.t 9)], iR 71 (.p (.bin .add)) [(.t 70), (.c (.int .i64 (.ofNat 1)))], iR 9 (.p .mv) [(.t 71)]]) (.keep [0, 7, 8, 9, 10] (.seq (.reg [iR 72 (.p .mv) [(.c (.bool true))], iG 73 72 true (.p .mv) [(.t 10)], iG 74 72 true (.p .mv) [(.t 9)], iG 75 72 true (.call 128) [(.t 74)], iG 76 72 true (.p (.bin .gtr)) [(.t 73), (.t 75)], iR 77 (.p .pick) [(.t 72), (.t 76), (.c (.bool false))], iR 78 (.p .mv) [(.t 77)], iG 79 78 true (.p .mv) [(.t 9)], iG 80 78 true (.p .mv) [(.t 0)], iG 81 78 true (.p .lenS) [(.t 80)], iG 82 78 true (.p (.bin .lss)) [(.t 79), (.t 81)], iR 83 (.p .pick) [(.t 78), (.t 82), (.c (.bool false))], iR 84 (.p .mv) [(.t 83)], iG 85 84 false (.p .mv) [(.c (.bool false))], iG 86 85 true (.p .mv) [(.t 10)], iG 87 85 true (.p .mv) [(.t 9)], iG 88 85 true (.p (.bin .shr)) [(.t 87), (.c (.int .u64 (.ofNat 4)))],
    iG 89 85 true (.p (.bin .add)) [(.c (.int .i64 (.ofNat 4))), (.t 88)], iG 90 85 true (.p (.bin .geq)) [(.t 86), (.t 89)], iG 91 84 false (.p .pick) [(.t 85), (.t 90), (.c (.bool false))], iG 92 84 false (.p .mv) [(.t 91)], iG 93 92 true (.p .mv) [(.t 9)], iG 94 92 true (.p .mv) [(.t 0)], iG 95 92 true (.p .lenS) [(.t 94)], iG 96 92 true (.p (.bin .lss)) [(.t 93), (.t 95)], iG 97 84 false (.p .pick) [(.t 92), (.t 96), (.c (.bool false))], iR 98 (.p .pick) [(.t 84), (.c (.bool true)), (.t 97)]]) (.keep [0, 7, 8, 9, 98] (.cond (.t 98) .bad .skip)))))))))))))))))))))) (.keep [] (.seq (.seq (.reg [iR 4 (.p .mv) [(.c (.int .i64 (.negSucc 0)))]]) (.keep [4] (.keep [4] .ret))) (.keep [0, 7, 8, 9] (.seq .skip (.keep [0, 7, 8, 9] (.seq (.cond (.c (.bool true)) (.seq .bad (.keep [8, 9, 13] (.seq (.reg [iR 107 (.p .mv) [(.t 13)],
    iR 108 (.p (.bin .geq)) [(.t 107), (.c (.int .i64 (.ofNat 0)))]]) (.keep [8, 9, 13, 108] (.cond (.t 108) (.seq (.reg [iR 109 (.p .mv) [(.t 9)], iR 110 (.p .mv) [(.t 13)], iR 111 (.p (.bin .add)) [(.t 109), (.t 110)], iR 112 (.p .mv) [(.t 8)], iR 113 (.p (.bin .sub)) [(.t 111), (.t 112)], iR 4 (.p .mv) [(.t 113)]]) (.keep [4] (.keep [4] .ret))) .skip))))) (.scope (.seq (.reg [iR 114 (.p .mv) [(.t 7)], iR 115 (.p .mv) [(.t 8)], iR 116 (.p .strIndex) [(.t 114), (.t 115)], iR 14 (.p .mv) [(.t 116)]]) (.keep [0, 7, 8, 9, 14] (.seq (.reg [iR 117 (.p .mv) [(.t 7)], iR 118 (.p .mv) [(.t 8)], iR 119 (.p (.bin .sub)) [(.t 118), (.c (.int .i64 (.ofNat 1)))], iR 120 (.p .strIndex) [(.t 117), (.t 119)], iR 15 (.p .mv) [(.t 120)]]) (.keep [0, 7, 8, 9, 14, 15] (.seq .skip (.keep [0, 7, 8, 9, 14, 15] (.block 5 (.loop (.keep [0, 7, 8, 9, 14, 15] (.seq (.seq (.reg [iR 121 (.p .mv) [(.t 9)],
    iR 122 (.p .mv) [(.t 0)], iR 123 (.p .lenS) [(.t 122)], iR 124 (.p (.bin .lss)) [(.t 121), (.t 123)]]) (.keep [0, 7, 8, 9, 14, 15, 124] (.cond (.t 124) .skip (.keep [] (.exit 5))))) (.keep [0, 7, 8, 9, 14, 15] (.seq (.block 6 (.seq (.reg [iR 127 (.p .mv) [(.t 0)], iR 128 (.p .mv) [(.t 9)], iR 129 (.p .strIndex) [(.t 127), (.t 128)], iR 130 (.p .mv) [(.t 14)], iR 131 (.p (.bin .eql)) [(.t 129), (.t 130)], iR 132 (.p .mv) [(.t 131)], iG 133 132 true (.p .mv) [(.t 0)], iG 134 132 true (.p .mv) [(.t 9)], iG 135 132 true (.p (.bin .sub)) [(.t 134), (.c (.int .i64 (.ofNat 1)))], iG 136 132 true (.p .strIndex) [(.t 133), (.t 135)], iG 137 132 true (.p .mv) [(.t 15)], iG 138 132 true (.p (.bin .eql)) [(.t 136), (.t 137)], iR 139 (.p .pick) [(.t 132), (.t 138), (.c (.bool false))]]) (.keep [0, 7, 8, 9, 14, 15, 139] (.cond (.t 139)
    (.seq (.seq (.reg [iR 16 (.p .mv) [(.c (.int .i64 (.ofNat 2)))]]) (.keep [0, 7, 8, 9, 14, 15, 16] (.block 7 (.loop (.keep [0, 7, 8, 9, 14, 15, 16] (.seq (.seq (.reg [iR 140 (.p .mv) [(.t 16)], iR 141 (.p .mv) [(.t 7)], iR 142 (.p .lenS) [(.t 141)], iR 143 (.p (.bin .lss)) [(.t 140), (.t 142)]]) (.keep [0, 7, 8, 9, 14, 15, 16, 143] (.cond (.t 143) .skip (.keep [8, 9] (.exit 7))))) (.keep [0, 7, 8, 9, 14, 15, 16] (.seq (.block 8 (.seq (.draw [iR 146 (.p .mv) [(.t 0)], iR 147 (.p .mv) [(.t 9)], iR 148 (.p .mv) [(.t 16)], iR 149 (.p (.bin .sub)) [(.t 147), (.t 148)], iR 150 (.p .strIndex) [(.t 146), (.t 149)], iR 151 (.p .mv) [(.t 7)], iR 152 (.p .mv) [(.t 8)], iR 153 (.p .mv) [(.t 16)], iR 154 (.p (.bin .sub)) [(.t 152), (.t 153)], iR 155 (.p .strIndex) [(.t 151), (.t 154)], iR 156 (.p (.bin .neq)) [(.t 150), (.t 155)]]) (.keep [0, 7, 8, 9, 14, 15, 16, 156] (.cond (.t 156)
    (.keep [0, 7, 8, 9, 14, 15] (.exit 6)) .skip)))) (.keep [0, 7, 8, 9, 14, 15, 16] (.reg [iR 144 (.p .mv) [(.t 16)], iR 145 (.p (.bin .add)) [(.t 144), (.c (.int .i64 (.ofNat 1)))], iR 16 (.p .mv) [(.t 145)]])))))))))) (.keep [8, 9] (.seq (.reg [iR 157 (.p .mv) [(.t 9)], iR 158 (.p .mv) [(.t 8)], iR 159 (.p (.bin .sub)) [(.t 157), (.t 158)], iR 4 (.p .mv) [(.t 159)]]) (.keep [4] (.keep [4] .ret))))) .skip)))) (.keep [0, 7, 8, 9, 14, 15] (.reg [iR 125 (.p .mv) [(.t 9)], iR 126 (.p (.bin .add)) [(.t 125), (.c (.int .i64 (.ofNat 1)))], iR 9 (.p .mv) [(.t 126)]])))))))))))))))) (.keep [] (.seq (.reg [iR 4 (.p .mv) [(.c (.int .i64 (.negSucc 0)))]]) (.keep [4] (.keep [4] .ret)))))))))))))))))))))))))))))))), [(.t 4)]⟩
def s_strings_IndexRune_j0 (call : CallK) (N : Nat) (q : KV) (st : St) (τ : Tape) : Ans := match st with
  | ⟨fr, H⟩ => q (.int .i64 (.negSucc 0)) H τ
def s_strings_IndexRune_l1 (call : CallK) (N : Nat) (st : St) (τ : Tape) (k : KC) : Ans := match st with
  | ⟨fr, H⟩ => getK fr 175 fun t175 => effK (eNext [t175] H τ) fun v16 H17 τ18 => someK (pExtract 0 [v16]) fun v19 => condK v19 (someK (pExtract 1 [v16]) fun v20 => someK (pExtract 2 [v16]) fun v21 => binK .eql v21 (.int .i32 (.ofNat 65533)) fun v22 => condK v22 (k .ret ⟨(T.set .leaf 4 v20), H17⟩ τ18) (k .normal ⟨(T.set (T.set (T.set .leaf 5 v20) 175 t175) 181 v22), H17⟩ τ18)) (k (.exit 9) ⟨.leaf, H17⟩ τ18)
def s_strings_IndexRune_j2 (call : CallK) (N : Nat) (q : KV) (st : St) (τ : Tape) : Ans := match st with
  | ⟨fr, H⟩ => q (.int .i64 (.negSucc 0)) H τ
def s_strings_IndexRune_j5 (call : CallK) (N : Nat) (k : KC) (st : St) (τ : Tape) : Ans := match st with
  | ⟨fr, H⟩ => getK fr 8 fun t8 => getK fr 9 fun t9 => binK .sub t9 t8 fun v35 => k .ret ⟨(T.set .leaf 4 v35), H⟩ τ
def s_strings_IndexRune_l6 (call : CallK) (N : Nat) (st : St) (τ : Tape) (k : KC) : Ans := match st with
  | ⟨fr, H⟩ => getK fr 0 fun t0 => getK fr 7 fun t7 => getK fr 8 fun t8 => getK fr 9 fun t9 => getK fr 12 fun t12 => someK (pLenS [t7]) fun v36 => binK .lss t12 v36 fun v37 => condK v37 (binK .sub t9 t12 fun v38 => someK (pStrIndex [t0, v38]) fun v39 => binK .sub t8 t12 fun v40 => someK (pStrIndex [t7, v40]) fun v41 => binK .neq v39 v41 fun v42 => condK v42 (none) (binK .add t12 (.int .i64 (.ofNat 1)) fun v43 => k .normal ⟨(T.set (T.set (T.set (T.set (T.set (T.set (T.set (T.set .leaf 0 t0) 7 t7) 8 t8) 9 t9) 12 t12) 52 t12) 53 v43) 12 v43), H⟩ τ)) (k (.exit 3) ⟨(T.set (T.set .leaf 8 t8) 9 t9), H⟩ τ)
def s_strings_IndexRune_j4 (call : CallK) (N : Nat) (k : KC) (st : St) (τ : Tape) : Ans := match st with
  | ⟨fr, H⟩ => getK fr 0 fun t0 => getK fr 7 fun t7 => getK fr 8 fun t8 => getK fr 9 fun t9 => loopK (s_strings_IndexRune_l6 call N) N ⟨(T.set (T.set (T.set (T.set (T.set .leaf 0 t0) 7 t7) 8 t8) 9 t9) 12 (.int .i64 (.ofNat 1))), H⟩ τ (blockK 3 (seqK (s_strings_IndexRune_j5 call N k) (blockK 2 k)))
def s_strings_IndexRune_l3 (call : CallK) (N : Nat) (st : St) (τ : Tape) (k : KC) : Ans := match st with
  | ⟨fr, H⟩ => getK fr 0 fun t0 => getK fr 7 fun t7 => getK fr 8 fun t8 => getK fr 9 fun t9 => someK (pLenS [t0]) fun v30 => binK .lss t9 v30 fun v31 => condK v31 (someK (pStrIndex [t0, t9]) fun v32 => someK (pStrIndex [t7, t8]) fun v33 => binK .neq v32 v33 fun v34 => condK v34 (binK .add t9 (.int .i64 (.ofNat 1)) fun v44 => someK (pStrSlice true false [t0, v44]) fun v45 => someK (pStrIndex [t7, t8]) fun v46 => call f_strings_IndexByte [v45, v46] H τ fun v47 H48 τ49 => binK .lss v47 (.int .i64 (.ofNat 0)) fun v50 => condK v50 (k .ret ⟨(T.set .leaf 4 (.int .i64 (.negSucc 0))), H48⟩ τ49) (binK .add v47 (.int .i64 (.ofNat 1)) fun v51 => binK .add t9 v51 fun v52 => s_strings_IndexRune_j4 call N k ⟨(T.set (T.set (T.set (T.set (T.set (T.set (T.set (T.set (T.set (T.set .leaf 0 t0) 7 t7) 8 t8) 9 t9) 11 v47) 44 t9) 45 v47) 46 v51) 47 v52) 9 v52), H48⟩ τ49))
    (s_strings_IndexRune_j4 call N k ⟨(T.set (T.set (T.set (T.set (T.set .leaf 0 t0) 7 t7) 8 t8) 9 t9) 33 v34), H⟩ τ)) (k (.exit 1) ⟨.leaf, H⟩ τ)
def s_strings_IndexRune (call : CallK) (N : Nat) (a0 a1 : V) (H : Heap) (τ : Tape) (q : KV) : Ans := binK .leq (.int .i32 (.ofNat 0)) a1 fun v0 => gK v0 true (fun q' => q' a1 H τ) H τ fun v1 H2 τ3 => gK v0 true (fun q' => binK .lss v1 (.int .i32 (.ofNat 128)) fun v => q' v H2 τ3) H2 τ3 fun v4 H5 τ6 => someK (pPick [v0, v4, (.bool false)]) fun v7 => condK v7 (toIntK .u8 a1 fun v8 => call f_strings_IndexByte [a0, v8] H5 τ6 fun v9 H10 τ11 => q v9 H10 τ11) (binK .eql a1 (.int .i32 (.ofNat 65533)) fun v12 => condK v12 (effK (eRange [a0] H5 τ6) fun v13 H14 τ15 => loopK (s_strings_IndexRune_l1 call N) N ⟨(T.set .leaf 175 v13), H14⟩ τ15 (blockK 9 (seqK (s_strings_IndexRune_j0 call N q) (blockK 0 (endK [(.t 4)] q))))) (call f_utf8_ValidRune [a1] H5 τ6 fun v23 H24 τ25 => unK .not v23 fun v26 => condK v26 (q (.int .i64 (.negSucc 0)) H24 τ25) (someK (pRuneStr [a1]) fun v27 =>
    someK (pLenS [v27]) fun v28 => binK .sub v28 (.int .i64 (.ofNat 1)) fun v29 => loopK (s_strings_IndexRune_l3 call N) N ⟨(T.set (T.set (T.set (T.set .leaf 0 a0) 7 v27) 8 v29) 9 v29), H24⟩ τ25 (blockK 1 (seqK (s_strings_IndexRune_j2 call N q) (blockK 0 (endK [(.t 4)] q)))))))
theorem s_strings_IndexRune_eq (call : CallK) (N : Nat) (a0 a1 : V) (H : Heap) (τ : Tape) (q : KV) : s_strings_IndexRune call N a0 a1 H τ q = funK call N fn_strings_IndexRune [a0, a1] H τ q := by kernel_rfl
def e_strings_IndexRune (call : CallK) (N : Nat) (vs : List V) (H : Heap) (τ : Tape) (q : KV) : Ans := match vs with | [a0, a1] => s_strings_IndexRune call N a0 a1 H τ q | _ => none
theorem e_strings_IndexRune_ok : EntOk fn_strings_IndexRune e_strings_IndexRune := by
  intro call N vs H τ q r h
  unfold e_strings_IndexRune at h
  split at h
  · rw [s_strings_IndexRune_eq] at h; exact h
  · cases h
theorem e_strings_IndexRune_nat : EntNat e_strings_IndexRune := by
  intro c hn N vs H τ q
  unfold e_strings_IndexRune
  split
  · rw [s_strings_IndexRune_eq, s_strings_IndexRune_eq]; exact funK_ent hn _ _ _ _ _ _
  · rfl
/-- internal/stringslite.Cut -/
def fn_stringslite_Cut : Fun := ⟨2, (.seq (.reg [iR 4 (.p .mv) [(.c (.str []))], iR 5 (.p .mv) [(.c (.str []))], iR 6 (.p .mv) [(.c (.bool false))]]) (.keep [0, 1] (.seq (.seq (.reg [iR 8 (.p .mv) [(.t 0)], iR 9 (.p .mv) [(.t 1)], iR 10 (.call 130) [(.t 8), (.t 9)], iR 7 (.p .mv) [(.t 10)]]) (.keep [0, 1, 7] (.seq (.reg [iR 11 (.p .mv) [(.t 7)], iR 12 (.p (.bin .geq)) [(.t 11), (.c (.int .i64 (.ofNat 0)))]]) (.keep [0, 1, 7, 12] (.cond (.t 12) (.seq (.draw [iR 13 (.p .mv) [(.t 0)], iR 14 (.p .mv) [(.t 7)], iR 15 (.p (.strSlice false true)) [(.t 13), (.t 14)], iR 16 (.p .mv) [(.t 0)], iR 17 (.p .mv) [(.t 7)], iR 18 (.p .mv) [(.t 1)], iR 19 (.p .lenS) [(.t 18)], iR 20 (.p (.bin .add)) [(.t 17), (.t 19)], iR 21 (.p (.strSlice true false)) [(.t 16), (.t 20)], iR 4 (.p .mv) [(.t 15)], iR 5 (.p .mv) [(.t 21)], iR 6 (.p .mv) [(.c (.bool true))]]) (.keep [4, 5, 6] (.keep [4, 5, 6] .ret)))
    .skip))))) (.keep [0] (.seq (.reg [iR 22 (.p .mv) [(.t 0)], iR 4 (.p .mv) [(.t 22)], iR 5 (.p .mv) [(.c (.str []))], iR 6 (.p .mv) [(.c (.bool false))]]) (.keep [4, 5, 6] (.keep [4, 5, 6] .ret))))))), [(.t 4), (.t 5), (.t 6)]⟩
def s_stringslite_Cut (call : CallK) (N : Nat) (a0 a1 : V) (H : Heap) (τ : Tape) (q : KV) : Ans := call f_stringslite_Index [a0, a1] H τ fun v0 H1 τ2 => binK .geq v0 (.int .i64 (.ofNat 0)) fun v3 => condK v3 (someK (pStrSlice false true [a0, v0]) fun v4 => someK (pLenS [a1]) fun v5 => binK .add v0 v5 fun v6 => someK (pStrSlice true false [a0, v6]) fun v7 => q (.tup [v4, v7, (.bool true)]) H1 τ2) (q (.tup [a0, (.str []), (.bool false)]) H1 τ2)
theorem s_stringslite_Cut_eq (call : CallK) (N : Nat) (a0 a1 : V) (H : Heap) (τ : Tape) (q : KV) : s_stringslite_Cut call N a0 a1 H τ q = funK call N fn_stringslite_Cut [a0, a1] H τ q := by kernel_rfl
def e_stringslite_Cut (call : CallK) (N : Nat) (vs : List V) (H : Heap) (τ : Tape) (q : KV) : Ans := match vs with | [a0, a1] => s_stringslite_Cut call N a0 a1 H τ q | _ => none
theorem e_stringslite_Cut_ok : EntOk fn_stringslite_Cut e_stringslite_Cut := by
  intro call N vs H τ q r h
  unfold e_stringslite_Cut at h
  split at h
  · rw [s_stringslite_Cut_eq] at h; exact h
  · cases h
theorem e_stringslite_Cut_nat : EntNat e_stringslite_Cut := by
  intro c hn N vs H τ q
  unfold e_stringslite_Cut
  split
  · rw [s_stringslite_Cut_eq, s_stringslite_Cut_eq]; exact funK_ent hn _ _ _ _ _ _
  · rfl
/-- ostiary/ostiaryref1.Blank -/
def fn_ref1_Blank : Fun := ⟨1, (.seq (.reg [iR 2 (.p .mv) [(.c (.bool false))]]) (.keep [0] (.seq (.reg [iR 3 (.p .mv) [(.t 0)], iR 4 (.p (.bin .eql)) [(.t 3), (.c (.int .u8 (.ofNat 9)))], iR 5 (.p .mv) [(.t 4)], iG 6 5 false (.p .mv) [(.t 0)], iG 7 5 false (.p (.bin .eql)) [(.t 6), (.c (.int .u8 (.ofNat 10)))], iR 8 (.p .pick) [(.t 5), (.c (.bool true)), (.t 7)], iR 9 (.p .mv) [(.t 8)], iG 10 9 false (.p .mv) [(.t 0)], iG 11 9 false (.p (.bin .eql)) [(.t 10), (.c (.int .u8 (.ofNat 12)))], iR 12 (.p .pick) [(.t 9), (.c (.bool true)), (.t 11)], iR 13 (.p .mv) [(.t 12)], iG 14 13 false (.p .mv) [(.t 0)], iG 15 13 false (.p (.bin .eql)) [(.t 14), (.c (.int .u8 (.ofNat 13)))], iR 16 (.p .pick) [(.t 13), (.c (.bool true)), (.t 15)], iR 17 (.p .mv) [(.t 16)], iG 18 17 false (.p .mv) [(.t 0)], iG 19 17 false (.p (.bin .eql)) [(.t 18), (.c (.int .u8 (.ofNat 32)))],
    iR 20 (.p .pick) [(.t 17), (.c (.bool true)), (.t 19)], iR 2 (.p .mv) [(.t 20)]]) (.keep [2] (.keep [2] .ret))))), [(.t 2)]⟩
def s_ref1_Blank (call : CallK) (N : Nat) (a0 : V) (H : Heap) (τ : Tape) (q : KV) : Ans := binK .eql a0 (.int .u8 (.ofNat 9)) fun v0 => gK v0 false (fun q' => q' a0 H τ) H τ fun v1 H2 τ3 => gK v0 false (fun q' => binK .eql v1 (.int .u8 (.ofNat 10)) fun v => q' v H2 τ3) H2 τ3 fun v4 H5 τ6 => someK (pPick [v0, (.bool true), v4]) fun v7 => gK v7 false (fun q' => q' a0 H5 τ6) H5 τ6 fun v8 H9 τ10 => gK v7 false (fun q' => binK .eql v8 (.int .u8 (.ofNat 12)) fun v => q' v H9 τ10) H9 τ10 fun v11 H12 τ13 => someK (pPick [v7, (.bool true), v11]) fun v14 => gK v14 false (fun q' => q' a0 H12 τ13) H12 τ13 fun v15 H16 τ17 => gK v14 false (fun q' => binK .eql v15 (.int .u8 (.ofNat 13)) fun v => q' v H16 τ17) H16 τ17 fun v18 H19 τ20 => someK (pPick [v14, (.bool true), v18]) fun v21 => gK v21 false (fun q' => q' a0 H19 τ20) H19 τ20 fun v22 H23 τ24 =>
    gK v21 false (fun q' => binK .eql v22 (.int .u8 (.ofNat 32)) fun v => q' v H23 τ24) H23 τ24 fun v25 H26 τ27 => someK (pPick [v21, (.bool true), v25]) fun v28 => q v28 H26 τ27
theorem s_ref1_Blank_eq (call : CallK) (N : Nat) (a0 : V) (H : Heap) (τ : Tape) (q : KV) : s_ref1_Blank call N a0 H τ q = funK call N fn_ref1_Blank [a0] H τ q := by kernel_rfl
def e_ref1_Blank (call : CallK) (N : Nat) (vs : List V) (H : Heap) (τ : Tape) (q : KV) : Ans := match vs with | [a0] => s_ref1_Blank call N a0 H τ q | _ => none
theorem e_ref1_Blank_ok : EntOk fn_ref1_Blank e_ref1_Blank := by
  intro call N vs H τ q r h
  unfold e_ref1_Blank at h
  split at h
  · rw [s_ref1_Blank_eq] at h; exact h
  · cases h
theorem e_ref1_Blank_nat : EntNat e_ref1_Blank := by
  intro c hn N vs H τ q
  unfold e_ref1_Blank
  split
  · rw [s_ref1_Blank_eq, s_ref1_Blank_eq]; exact funK_ent hn _ _ _ _ _ _
  · rfl
/-- strings.IndexByte -/
def fn_strings_IndexByte : Fun := ⟨2, (.seq (.reg [iR 4 (.p .mv) [(.c (.int .i64 (.ofNat 0)))]]) (.keep [0, 1] (.seq (.reg [iR 5 (.p .mv) [(.t 0)], iR 6 (.p .mv) [(.t 1)], iR 7 (.call 131) [(.t 5), (.t 6)], iR 4 (.p .mv) [(.t 7)]]) (.keep [4] (.keep [4] .ret))))), [(.t 4)]⟩
def s_strings_IndexByte (call : CallK) (N : Nat) (a0 a1 : V) (H : Heap) (τ : Tape) (q : KV) : Ans := call f_stringslite_IndexByte [a0, a1] H τ fun v0 H1 τ2 => q v0 H1 τ2
theorem s_strings_IndexByte_eq (call : CallK) (N : Nat) (a0 a1 : V) (H : Heap) (τ : Tape) (q : KV) : s_strings_IndexByte call N a0 a1 H τ q = funK call N fn_strings_IndexByte [a0, a1] H τ q := by kernel_rfl
def e_strings_IndexByte (call : CallK) (N : Nat) (vs : List V) (H : Heap) (τ : Tape) (q : KV) : Ans := match vs with | [a0, a1] => s_strings_IndexByte call N a0 a1 H τ q | _ => none
theorem e_strings_IndexByte_ok : EntOk fn_strings_IndexByte e_strings_IndexByte := by
  intro call N vs H τ q r h
  unfold e_strings_IndexByte at h
  split at h
  · rw [s_strings_IndexByte_eq] at h; exact h
  · cases h
theorem e_strings_IndexByte_nat : EntNat e_strings_IndexByte := by
  intro c hn N vs H τ q
  unfold e_strings_IndexByte
  split
  · rw [s_strings_IndexByte_eq, s_strings_IndexByte_eq]; exact funK_ent hn _ _ _ _ _ _
  · rfl
/-- ostiary/headers.is -/
def fn_headers_is : Fun := ⟨2, (.seq (.reg [iR 2 (.e .box) [(.t 0)], iR 4 (.p .mv) [(.c (.bool false))]]) (.keep [1, 2] (.seq (.reg [iR 5 (.p (.fieldAddr 0)) [(.t 2)], iR 6 (.l (.load none)) [(.t 5)], iR 7 (.call 85) [(.t 6)], iR 8 (.p .mv) [(.t 1)], iR 9 (.call 85) [(.t 8)], iR 10 (.p (.bin .eql)) [(.t 7), (.t 9)], iR 4 (.p .mv) [(.t 10)]]) (.keep [4] (.keep [4] .ret))))), [(.t 4)]⟩
def s_headers_is (call : CallK) (N : Nat) (a0 a1 : V) (H : Heap) (τ : Tape) (q : KV) : Ans := effK (eBox [a0] H τ) fun v0 H1 τ2 => someK (pFieldAddr 0 [v0]) fun v3 => someK (lLoad1 [v3] H1) fun v4 => call f_infra_Lower [v4] H1 τ2 fun v5 H6 τ7 => call f_infra_Lower [a1] H6 τ7 fun v8 H9 τ10 => binK .eql v5 v8 fun v11 => q v11 H9 τ10
theorem s_headers_is_eq (call : CallK) (N : Nat) (a0 a1 : V) (H : Heap) (τ : Tape) (q : KV) : s_headers_is call N a0 a1 H τ q = funK call N fn_headers_is [a0, a1] H τ q := by kernel_rfl
def e_headers_is (call : CallK) (N : Nat) (vs : List V) (H : Heap) (τ : Tape) (q : KV) : Ans := match vs with | [a0, a1] => s_headers_is call N a0 a1 H τ q | _ => none
theorem e_headers_is_ok : EntOk fn_headers_is e_headers_is := by
  intro call N vs H τ q r h
  unfold e_headers_is at h
  split at h
  · rw [s_headers_is_eq] at h; exact h
  · cases h
theorem e_headers_is_nat : EntNat e_headers_is := by
  intro c hn N vs H τ q
  unfold e_headers_is
  split
  · rw [s_headers_is_eq, s_headers_is_eq]; exact funK_ent hn _ _ _ _ _ _
  · rfl
/-- strings.Trim -/
def fn_strings_Trim : Fun := ⟨2, (.seq (.reg [iR 4 (.p .mv) [(.c (.str []))]]) (.keep [0, 1] (.seq (.seq (.reg [iR 7 (.p .mv) [(.t 0)], iR 8 (.p (.bin .eql)) [(.t 7), (.c (.str []))], iR 9 (.p .mv) [(.t 8)], iG 10 9 false (.p .mv) [(.t 1)], iG 11 9 false (.p (.bin .eql)) [(.t 10), (.c (.str []))], iR 12 (.p .pick) [(.t 9), (.c (.bool true)), (.t 11)]]) (.keep [0, 1, 12] (.cond (.t 12) (.seq (.reg [iR 13 (.p .mv) [(.t 0)], iR 4 (.p .mv) [(.t 13)]]) (.keep [4] (.keep [4] .ret))) .skip))) (.keep [0, 1] (.seq (.seq (.reg [iR 14 (.p .mv) [(.t 1)], iR 15 (.p .lenS) [(.t 14)], iR 16 (.p (.bin .eql)) [(.t 15), (.c (.int .i64 (.ofNat 1)))], iR 17 (.p .mv) [(.t 16)], iG 18 17 true (.p .mv) [(.t 1)], iG 19 17 true (.p .strIndex) [(.t 18), (.c (.int .i64 (.ofNat 0)))], iG 20 17 true (.p (.bin .lss)) [(.t 19), (.c (.int .u8 (.ofNat 128)))],
    iR 21 (.p .pick) [(.t 17), (.t 20), (.c (.bool false))]]) (.keep [0, 1, 21] (.cond (.t 21) (.seq (.draw [iR 22 (.p .mv) [(.t 0)], iR 23 (.p .mv) [(.t 1)], iR 24 (.p .strIndex) [(.t 23), (.c (.int .i64 (.ofNat 0)))], iR 25 (.call 142) [(.t 22), (.t 24)], iR 26 (.p .mv) [(.t 1)], iR 27 (.p .strIndex) [(.t 26), (.c (.int .i64 (.ofNat 0)))], iR 28 (.call 141) [(.t 25), (.t 27)], iR 4 (.p .mv) [(.t 28)]]) (.keep [4] (.keep [4] .ret))) .skip))) (.keep [0, 1] (.seq (.seq (.reg [iR 30 (.p .mv) [(.t 1)], iR 31 (.call 143) [(.t 30)], iR 29 (.p .mv) [(.t 31)], iR 32 (.p (.extract 0)) [(.t 29)], iR 33 (.p (.extract 1)) [(.t 29)], iR 5 (.e (.alloc (repl 256 [(.bool false)]))) [], ⟨none, none, (.e (.store 256)), [(.t 5), (.t 32)], none⟩, iR 6 (.p .mv) [(.t 33)]]) (.keep [0, 1, 5, 6] (.seq (.reg [iR 34 (.p .mv) [(.t 6)]]) (.keep [0, 1, 5, 34] (.cond (.t 34) (.seq (.reg [iR 35 (.p .mv) [(.t 0)],
    iR 36 (.call 145) [(.t 35), (.t 5)], iR 37 (.call 144) [(.t 36), (.t 5)], iR 4 (.p .mv) [(.t 37)]]) (.keep [4] (.keep [4] .ret))) .skip))))) (.keep [0, 1] (.seq (.reg [iR 38 (.p .mv) [(.t 0)], iR 39 (.p .mv) [(.t 1)], iR 40 (.call 147) [(.t 38), (.t 39)], iR 41 (.p .mv) [(.t 1)], iR 42 (.call 146) [(.t 40), (.t 41)], iR 4 (.p .mv) [(.t 42)]]) (.keep [4] (.keep [4] .ret))))))))))), [(.t 4)]⟩
def s_strings_Trim (call : CallK) (N : Nat) (a0 a1 : V) (H : Heap) (τ : Tape) (q : KV) : Ans := binK .eql a0 (.str []) fun v0 => gK v0 false (fun q' => q' a1 H τ) H τ fun v1 H2 τ3 => gK v0 false (fun q' => binK .eql v1 (.str []) fun v => q' v H2 τ3) H2 τ3 fun v4 H5 τ6 => someK (pPick [v0, (.bool true), v4]) fun v7 => condK v7 (q a0 H5 τ6) (someK (pLenS [a1]) fun v8 => binK .eql v8 (.int .i64 (.ofNat 1)) fun v9 => gK v9 true (fun q' => q' a1 H5 τ6) H5 τ6 fun v10 H11 τ12 => gK v9 true (fun q' => someK (pStrIndex [v10, (.int .i64 (.ofNat 0))]) fun v => q' v H11 τ12) H11 τ12 fun v13 H14 τ15 => gK v9 true (fun q' => binK .lss v13 (.int .u8 (.ofNat 128)) fun v => q' v H14 τ15) H14 τ15 fun v16 H17 τ18 => someK (pPick [v9, v16, (.bool false)]) fun v19 => condK v19 (someK (pStrIndex [a1, (.int .i64 (.ofNat 0))]) fun v20 => call f_strings_trimRightByte [a0, v20] H17 τ18 fun v21 H22 τ23 =>
    someK (pStrIndex [a1, (.int .i64 (.ofNat 0))]) fun v24 => call f_strings_trimLeftByte [v21, v24] H22 τ23 fun v25 H26 τ27 => q v25 H26 τ27) (call f_strings_makeASCIISet [a1] H17 τ18 fun v28 H29 τ30 => someK (pExtract 0 [v28]) fun v31 => someK (pExtract 1 [v28]) fun v32 => effK (eAlloc (repl 256 [(.bool false)]) [] H29 τ30) fun v33 H34 τ35 => effK (eStore 256 [v33, v31] H34 τ35) fun v36 H37 τ38 => condK v32 (call f_strings_trimRightASCII [a0, v33] H37 τ38 fun v39 H40 τ41 => call f_strings_trimLeftASCII [v39, v33] H40 τ41 fun v42 H43 τ44 => q v42 H43 τ44) (call f_strings_trimRightUnicode [a0, a1] H37 τ38 fun v45 H46 τ47 => call f_strings_trimLeftUnicode [v45, a1] H46 τ47 fun v48 H49 τ50 => q v48 H49 τ50)))
theorem s_strings_Trim_eq (call : CallK) (N : Nat) (a0 a1 : V) (H : Heap) (τ : Tape) (q : KV) : s_strings_Trim call N a0 a1 H τ q = funK call N fn_strings_Trim [a0, a1] H τ q := by kernel_rfl
def e_strings_Trim (call : CallK) (N : Nat) (vs : List V) (H : Heap) (τ : Tape) (q : KV) : Ans := match vs with | [a0, a1] => s_strings_Trim call N a0 a1 H τ q | _ => none
theorem e_strings_Trim_ok : EntOk fn_strings_Trim e_strings_Trim := by
  intro call N vs H τ q r h
  unfold e_strings_Trim at h
  split at h
  · rw [s_strings_Trim_eq] at h; exact h
  · cases h
theorem e_strings_Trim_nat : EntNat e_strings_Trim := by
  intro c hn N vs H τ q
  unfold e_strings_Trim
  split
  · rw [s_strings_Trim_eq, s_strings_Trim_eq]; exact funK_ent hn _ _ _ _ _ _
  · rfl
/-- ostiary/infra.mapped -/
def fn_infra_mapped : Fun := ⟨2, (.seq (.reg [iR 4 (.p .mv) [(.c (.str []))]]) (.keep [0, 1] (.seq (.reg [iR 8 (.p .mv) [(.t 0)], iR 9 (.e .strBytes) [(.t 8)], iR 5 (.p .mv) [(.t 9)]]) (.keep [1, 5] (.seq (.seq (.reg [iR 10 (.p .mv) [(.t 5)], iR 11 (.p .len) [(.t 10)], iR 12 (.p .mv) [(.c (.int .i64 (.ofNat 0)))]]) (.keep [1, 5, 10, 11, 12] (.block 0 (.loop (.keep [1, 5, 10, 11, 12] (.seq (.reg [iR 13 (.p (.bin .lss)) [(.t 12), (.t 11)]]) (.keep [1, 5, 10, 11, 12, 13] (.seq (.cond (.t 13) .skip (.keep [5] (.exit 0))) (.keep [1, 5, 10, 11, 12] (.seq (.block 1 (.seq (.reg [iR 14 (.p .mv) [(.t 12)], iR 15 (.p (.slIdx 1)) [(.t 10), (.t 12)], iR 16 (.l (.load none)) [(.t 15)], iR 6 (.p .mv) [(.t 14)], iR 7 (.p .mv) [(.t 16)]]) (.keep [1, 5, 6, 7, 10, 11, 12] (.reg [iR 17 (.p .mv) [(.t 5)], iR 18 (.p .mv) [(.t 6)], iR 19 (.p .mv) [(.t 1)], iR 20 (.p .mv) [(.t 7)],
    iR 21 .callv [(.t 19), (.t 20)], iR 22 (.p (.slIdx 1)) [(.t 17), (.t 18)], ⟨none, none, (.e (.store 1)), [(.t 22), (.t 21)], none⟩])))) (.keep [1, 5, 10, 11, 12] (.reg [iR 23 (.p (.bin .add)) [(.t 12), (.c (.int .i64 (.ofNat 1)))], iR 12 (.p .mv) [(.t 23)]])))))))))))) (.keep [5] (.seq (.reg [iR 24 (.p .mv) [(.t 5)], iR 25 (.l .bytesStr) [(.t 24)], iR 4 (.p .mv) [(.t 25)]]) (.keep [4] (.keep [4] .ret))))))))), [(.t 4)]⟩
def s_infra_mapped_j0 (call : CallK) (N : Nat) (q : KV) (st : St) (τ : Tape) : Ans := match st with
  | ⟨fr, H⟩ => getK fr 5 fun t5 => someK (lBytesStr [t5] H) fun v4 => q v4 H τ
def s_infra_mapped_l1 (call : CallK) (N : Nat) (st : St) (τ : Tape) (k : KC) : Ans := match st with
  | ⟨fr, H⟩ => getK fr 1 fun t1 => getK fr 5 fun t5 => getK fr 10 fun t10 => getK fr 11 fun t11 => getK fr 12 fun t12 => binK .lss t12 t11 fun v5 => condK v5 (someK (pSlIdx 1 [t10, t12]) fun v6 => someK (lLoad1 [v6] H) fun v7 => opK call .callv [t1, v7] H τ fun v8 H9 τ10 => someK (pSlIdx 1 [t5, t12]) fun v11 => effK (eStore 1 [v11, v8] H9 τ10) fun v12 H13 τ14 => binK .add t12 (.int .i64 (.ofNat 1)) fun v15 => k .normal ⟨(T.set (T.set (T.set (T.set (T.set (T.set (T.set .leaf 1 t1) 5 t5) 10 t10) 11 t11) 12 t12) 23 v15) 12 v15), H13⟩ τ14) (k (.exit 0) ⟨(T.set .leaf 5 t5), H⟩ τ)
def s_infra_mapped (call : CallK) (N : Nat) (a0 a1 : V) (H : Heap) (τ : Tape) (q : KV) : Ans := effK (eStrBytes [a0] H τ) fun v0 H1 τ2 => someK (pLen [v0]) fun v3 => loopK (s_infra_mapped_l1 call N) N ⟨(T.set (T.set (T.set (T.set (T.set .leaf 1 a1) 5 v0) 10 v0) 11 v3) 12 (.int .i64 (.ofNat 0))), H1⟩ τ2 (blockK 0 (seqK (s_infra_mapped_j0 call N q) (endK [(.t 4)] q)))
theorem s_infra_mapped_eq (call : CallK) (N : Nat) (a0 a1 : V) (H : Heap) (τ : Tape) (q : KV) : s_infra_mapped call N a0 a1 H τ q = funK call N fn_infra_mapped [a0, a1] H τ q := by kernel_rfl
def e_infra_mapped (call : CallK) (N : Nat) (vs : List V) (H : Heap) (τ : Tape) (q : KV) : Ans := match vs with | [a0, a1] => s_infra_mapped call N a0 a1 H τ q | _ => none
theorem e_infra_mapped_ok : EntOk fn_infra_mapped e_infra_mapped := by
  intro call N vs H τ q r h
  unfold e_infra_mapped at h
  split at h
  · rw [s_infra_mapped_eq] at h; exact h
  · cases h
theorem e_infra_mapped_nat : EntNat e_infra_mapped := by
  intro c hn N vs H τ q
  unfold e_infra_mapped
  split
  · rw [s_infra_mapped_eq, s_infra_mapped_eq]; exact funK_ent hn _ _ _ _ _ _
  · rfl
/-- ostiary/infra.Lower$1 -/
def fn_infra_Lower_1 : Fun := ⟨1, (.seq (.reg [iR 2 (.p .mv) [(.c (.int .u8 (.ofNat 0)))]]) (.keep [0] (.seq (.seq (.reg [iR 3 (.p .mv) [(.t 0)], iR 4 (.p (.bin .geq)) [(.t 3), (.c (.int .u8 (.ofNat 65)))], iR 5 (.p .mv) [(.t 4)], iG 6 5 true (.p .mv) [(.t 0)], iG 7 5 true (.p (.bin .leq)) [(.t 6), (.c (.int .u8 (.ofNat 90)))], iR 8 (.p .pick) [(.t 5), (.t 7), (.c (.bool false))]]) (.keep [0, 8] (.cond (.t 8) (.reg [iR 9 (.p .mv) [(.t 0)], iR 10 (.p (.bin .add)) [(.t 9), (.c (.int .u8 (.ofNat 32)))], iR 0 (.p .mv) [(.t 10)]]) .skip))) (.keep [0] (.seq (.reg [iR 11 (.p .mv) [(.t 0)], iR 2 (.p .mv) [(.t 11)]]) (.keep [2] (.keep [2] .ret))))))), [(.t 2)]⟩
def s_infra_Lower_1_j0 (call : CallK) (N : Nat) (q : KV) (st : St) (τ : Tape) : Ans := match st with
  | ⟨fr, H⟩ => getK fr 0 fun t0 => q t0 H τ
def s_infra_Lower_1 (call : CallK) (N : Nat) (a0 : V) (H : Heap) (τ : Tape) (q : KV) : Ans := binK .geq a0 (.int .u8 (.ofNat 65)) fun v0 => gK v0 true (fun q' => q' a0 H τ) H τ fun v1 H2 τ3 => gK v0 true (fun q' => binK .leq v1 (.int .u8 (.ofNat 90)) fun v => q' v H2 τ3) H2 τ3 fun v4 H5 τ6 => someK (pPick [v0, v4, (.bool false)]) fun v7 => condK v7 (binK .add a0 (.int .u8 (.ofNat 32)) fun v8 => s_infra_Lower_1_j0 call N q ⟨(T.set (T.set (T.set (T.set (T.set .leaf 0 a0) 8 v7) 9 a0) 10 v8) 0 v8), H5⟩ τ6) (s_infra_Lower_1_j0 call N q ⟨(T.set (T.set .leaf 0 a0) 8 v7), H5⟩ τ6)
theorem s_infra_Lower_1_eq (call : CallK) (N : Nat) (a0 : V) (H : Heap) (τ : Tape) (q : KV) : s_infra_Lower_1 call N a0 H τ q = funK call N fn_infra_Lower_1 [a0] H τ q := by kernel_rfl
def e_infra_Lower_1 (call : CallK) (N : Nat) (vs : List V) (H : Heap) (τ : Tape) (q : KV) : Ans := match vs with | [a0] => s_infra_Lower_1 call N a0 H τ q | _ => none
theorem e_infra_Lower_1_ok : EntOk fn_infra_Lower_1 e_infra_Lower_1 := by
  intro call N vs H τ q r h
  unfold e_infra_Lower_1 at h
  split at h
  · rw [s_infra_Lower_1_eq] at h; exact h
  · cases h
theorem e_infra_Lower_1_nat : EntNat e_infra_Lower_1 := by
  intro c hn N vs H τ q
  unfold e_infra_Lower_1
  split
  · rw [s_infra_Lower_1_eq, s_infra_Lower_1_eq]; exact funK_ent hn _ _ _ _ _ _
  · rfl
end Go.Am.X
