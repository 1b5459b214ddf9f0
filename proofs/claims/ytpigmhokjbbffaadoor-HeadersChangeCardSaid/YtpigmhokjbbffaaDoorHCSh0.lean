/- The abstract machine, printed functions of the program, and what they are shown to be. -/
import Derived.Test.YtpigmhokjbbffaaDoorHCM3
import Derived.KernelRfl
namespace Go.Am.X
set_option maxRecDepth 1000000
set_option linter.unusedVariables false
abbrev f_law5_HeadersChange : Nat := 7
abbrev f_law5_known : Nat := 11
abbrev f_headers_Split : Nat := 12
abbrev f_law5_h : Nat := 13
abbrev f_book_Same_string : Nat := 14
abbrev f_headers_Range : Nat := 17
abbrev f_headers_Safe : Nat := 18
abbrev f_headers_Add : Nat := 19
abbrev f_headers_Get : Nat := 20
abbrev f_headers_Drop : Nat := 21
abbrev f_headers_Set : Nat := 23
abbrev f_book_Same_Header : Nat := 24
abbrev f_book_Roomy_Header : Nat := 26
abbrev f_ref5_Add : Nat := 27
abbrev f_ref5_Set : Nat := 28
abbrev f_ref5_Drop : Nat := 29
abbrev f_book_Intact_Header : Nat := 30
abbrev f_headers_Value : Nat := 32
abbrev f_ref5_Named : Nat := 33
abbrev f_strings_Trim : Nat := 35
abbrev f_strings_CutPrefix : Nat := 36
abbrev f_strings_Cut : Nat := 37
abbrev f_headers_told : Nat := 38
abbrev f_infra_Lower : Nat := 39
abbrev f_headers_unsafe : Nat := 40
abbrev f_headers_tongues : Nat := 41
abbrev f_infra_Strip : Nat := 42
abbrev f_headers_may : Nat := 43
abbrev f_slices_Clone_Header : Nat := 44
abbrev f_headers_is : Nat := 45
abbrev f_strings_Join : Nat := 46
abbrev f_slices_DeleteFunc_Header : Nat := 47
abbrev f_headers_Drop_1 : Nat := 48
abbrev f_slices_IndexFunc_Header : Nat := 49
abbrev f_headers_Set_1 : Nat := 50
abbrev f_ref5_fits : Nat := 52
abbrev f_strings_ContainsAny : Nat := 54
abbrev f_ref1_Lower : Nat := 55
abbrev f_strings_trimLeftByte : Nat := 58
abbrev f_strings_trimRightByte : Nat := 59
abbrev f_strings_makeASCIISet : Nat := 60
abbrev f_strings_trimLeftASCII : Nat := 61
abbrev f_strings_trimRightASCII : Nat := 62
abbrev f_strings_trimLeftUnicode : Nat := 63
abbrev f_strings_trimRightUnicode : Nat := 64
abbrev f_stringslite_CutPrefix : Nat := 65
abbrev f_stringslite_Cut : Nat := 66
abbrev f_infra_Int : Nat := 67
abbrev f_infra_mapped : Nat := 68
abbrev f_infra_Lower_1 : Nat := 69
abbrev f_strings_IndexByte : Nat := 70
abbrev f_infra_Token : Nat := 71
abbrev f_stringslite_HasPrefix : Nat := 75
abbrev f_ref5_Value : Nat := 76
abbrev f_ref1_Token : Nat := 77
abbrev f_strings_IndexAny : Nat := 78
abbrev f_asciiSet_contains : Nat := 81
abbrev f_utf8_DecodeRuneInString : Nat := 82
abbrev f_strings_ContainsRune : Nat := 83
abbrev f_utf8_DecodeLastRuneInString : Nat := 84
abbrev f_stringslite_Index : Nat := 85
abbrev f_stringslite_IndexByte : Nat := 86
abbrev f_ref1_Trim : Nat := 89
abbrev f_ref1_Letter : Nat := 90
abbrev f_ref1_Digit : Nat := 91
abbrev f_strings_IndexRune : Nat := 92
abbrev f_strings_shouldUseASCIISet : Nat := 93
abbrev f_utf8_decodeRuneInStringSlow : Nat := 105
abbrev f_utf8_RuneStart : Nat := 106
abbrev f_bytealg_Cutover : Nat := 108
abbrev f_bytealg_IndexRabinKarp_string : Nat := 109
abbrev f_ref1_ends : Nat := 113
abbrev f_utf8_ValidRune : Nat := 114
abbrev f_bytealg_hashStr_string : Nat := 121
/-- ostiary/ostiarylaw5.HeadersChange -/
def fn_law5_HeadersChange : Fun := ⟨3,
  (.seq (.reg [⟨(some 6), none, (.p .mv), [(.c (.bool false))], none⟩])
  (.keep [0, 1, 2] (.seq (.seq (.reg [⟨(some 17), none, (.p .mv), [(.t 0)], none⟩,
    ⟨(some 18), none, (.p .len), [(.t 17)], none⟩,
    ⟨(some 19), none, (.p (.bin .gtr)), [(.t 18), (.c (.int .i64 (.ofNat 70)))], none⟩])
  (.keep [0, 1, 2, 19] (.cond (.t 19)
   (.reg [⟨(some 20), none, (.p .mv), [(.t 0)], none⟩,
     ⟨(some 21), none, (.p (.slSlice 2 false true false)), [(.t 20), (.c (.int .i64 (.ofNat 70)))], none⟩,
     ⟨(some 0), none, (.p .mv), [(.t 21)], none⟩])
   .skip)))
  (.keep [0, 1, 2] (.seq (.reg [⟨(some 22), none, (.p .mv), [(.t 0)], none⟩,
    ⟨(some 23), none, (.call 13), [(.c (.str (bs [45]))), (.c (.str (bs [45])))], none⟩,
    ⟨(some 24), none, (.call 26), [(.t 22), (.t 23)], none⟩,
    ⟨(some 7), none, (.p .mv), [(.t 24)], none⟩])
  (.keep [0, 1, 2, 7] (.seq (.reg [⟨(some 25), none, (.p .mv), [(.t 7)], none⟩,
    ⟨(some 26), none, (.p .mv), [(.t 0)], none⟩,
    ⟨(some 27), none, (.p .len), [(.t 26)], none⟩,
    ⟨(some 28), none, (.p (.slSlice 2 false true false)), [(.t 25), (.t 27)], none⟩,
    ⟨(some 8), none, (.p .mv), [(.t 28)], none⟩])
  (.keep [0, 1, 2, 7, 8] (.seq (.reg [⟨(some 30), none, (.p .mv), [(.t 8)], none⟩,
    ⟨(some 31), none, (.p .mv), [(.t 1)], none⟩,
    ⟨(some 32), none, (.p .mv), [(.t 2)], none⟩,
    ⟨(some 33), none, (.call 19), [(.t 30), (.t 31), (.t 32)], none⟩,
    ⟨(some 29), none, (.p .mv), [(.t 33)], none⟩,
    ⟨(some 34), none, (.p (.extract 0)), [(.t 29)], none⟩,
    ⟨(some 35), none, (.p (.extract 1)), [(.t 29)], none⟩,
    ⟨(some 9), none, (.p .mv), [(.t 34)], none⟩,
    ⟨(some 10), none, (.p .mv), [(.t 35)], none⟩])
  (.keep [0, 1, 2, 7, 8, 9, 10] (.seq (.reg [⟨(some 37), none, (.p .mv), [(.t 0)], none⟩,
    ⟨(some 38), none, (.p .mv), [(.t 1)], none⟩,
    ⟨(some 39), none, (.p .mv), [(.t 2)], none⟩,
    ⟨(some 40), none, (.call 27), [(.t 37), (.t 38), (.t 39)], none⟩,
    ⟨(some 36), none, (.p .mv), [(.t 40)], none⟩,
    ⟨(some 41), none, (.p (.extract 0)), [(.t 36)], none⟩,
    ⟨(some 42), none, (.p (.extract 1)), [(.t 36)], none⟩,
    ⟨(some 11), none, (.p .mv), [(.t 41)], none⟩,
    ⟨(some 12), none, (.p .mv), [(.t 42)], none⟩])
  (.keep [0, 1, 2, 7, 8, 9, 10, 11, 12] (.seq (.reg [⟨(some 44), none, (.p .mv), [(.t 8)], none⟩,
    ⟨(some 45), none, (.p .mv), [(.t 1)], none⟩,
    ⟨(some 46), none, (.p .mv), [(.t 2)], none⟩,
    ⟨(some 47), none, (.call 23), [(.t 44), (.t 45), (.t 46)], none⟩,
    ⟨(some 43), none, (.p .mv), [(.t 47)], none⟩,
    ⟨(some 48), none, (.p (.extract 0)), [(.t 43)], none⟩,
    ⟨(some 49), none, (.p (.extract 1)), [(.t 43)], none⟩,
    ⟨(some 13), none, (.p .mv), [(.t 48)], none⟩,
    ⟨(some 14), none, (.p .mv), [(.t 49)], none⟩])
  (.keep [0, 1, 2, 7, 8, 9, 10, 11, 12, 13, 14] (.seq (.reg [⟨(some 51), none, (.p .mv), [(.t 0)], none⟩,
    ⟨(some 52), none, (.p .mv), [(.t 1)], none⟩,
    ⟨(some 53), none, (.p .mv), [(.t 2)], none⟩,
    ⟨(some 54), none, (.call 28), [(.t 51), (.t 52), (.t 53)], none⟩,
    ⟨(some 50), none, (.p .mv), [(.t 54)], none⟩,
    ⟨(some 55), none, (.p (.extract 0)), [(.t 50)], none⟩,
    ⟨(some 56), none, (.p (.extract 1)), [(.t 50)], none⟩,
    ⟨(some 15), none, (.p .mv), [(.t 55)], none⟩,
    ⟨(some 16), none, (.p .mv), [(.t 56)], none⟩])
  (.keep [0, 1, 7, 8, 9, 10, 11, 12, 13, 14, 15, 16] (.seq (.reg [⟨(some 57), none, (.p .mv), [(.t 9)], none⟩,
    ⟨(some 58), none, (.p .mv), [(.t 11)], none⟩,
    ⟨(some 59), none, (.call 24), [(.t 57), (.t 58)], none⟩,
    ⟨(some 60), none, (.p .mv), [(.t 59)], none⟩,
    ⟨(some 61), some (60, true), (.p .mv), [(.t 10)], none⟩,
    ⟨(some 62), some (60, true), (.p .mv), [(.t 12)], none⟩,
    ⟨(some 63), some (60, true), (.p (.bin .eql)), [(.t 61), (.t 62)], none⟩,
    ⟨(some 64), none, (.p .pick), [(.t 60), (.t 63), (.c (.bool false))], none⟩,
    ⟨(some 65), none, (.p .mv), [(.t 64)], none⟩,
    ⟨(some 66), some (65, true), (.p .mv), [(.t 13)], none⟩,
    ⟨(some 67), some (65, true), (.p .mv), [(.t 15)], none⟩,
    ⟨(some 68), some (65, true), (.call 24), [(.t 66), (.t 67)], none⟩,
    ⟨(some 69), none, (.p .pick), [(.t 65), (.t 68), (.c (.bool false))], none⟩,
    ⟨(some 70), none, (.p .mv), [(.t 69)], none⟩,
    ⟨(some 71), some (70, true), (.p .mv), [(.t 14)], none⟩,
    ⟨(some 72), some (70, true), (.p .mv), [(.t 16)], none⟩,
    ⟨(some 73), some (70, true), (.p (.bin .eql)), [(.t 71), (.t 72)], none⟩,
    ⟨(some 74), none, (.p .pick), [(.t 70), (.t 73), (.c (.bool false))], none⟩,
    ⟨(some 75), none, (.p .mv), [(.t 74)], none⟩,
    ⟨(some 76), some (75, true), (.p .mv), [(.t 8)], none⟩,
    ⟨(some 77), some (75, true), (.p .mv), [(.t 1)], none⟩,
    ⟨(some 78), some (75, true), (.call 21), [(.t 76), (.t 77)], none⟩,
    ⟨(some 79), some (75, true), (.p .mv), [(.t 0)], none⟩,
    ⟨(some 80), some (75, true), (.p .mv), [(.t 1)], none⟩,
    ⟨(some 81), some (75, true), (.call 29), [(.t 79), (.t 80)], none⟩,
    ⟨(some 82), some (75, true), (.call 24), [(.t 78), (.t 81)], none⟩,
    ⟨(some 83), none, (.p .pick), [(.t 75), (.t 82), (.c (.bool false))], none⟩,
    ⟨(some 84), none, (.p .mv), [(.t 83)], none⟩,
    ⟨(some 85), some (84, true), (.p .mv), [(.t 7)], none⟩,
    ⟨(some 86), some (84, true), (.p .mv), [(.t 0)], none⟩,
    ⟨(some 87), some (84, true), (.call 13), [(.c (.str (bs [45]))), (.c (.str (bs [45])))], none⟩,
    ⟨(some 88), some (84, true), (.call 30), [(.t 85), (.t 86), (.t 87)], none⟩,
    ⟨(some 89), none, (.p .pick), [(.t 84), (.t 88), (.c (.bool false))], none⟩,
    ⟨(some 90), none, (.p .mv), [(.t 89)], none⟩,
    ⟨(some 91), some (90, true), (.call 11), [], none⟩,
    ⟨(some 92), none, (.p .pick), [(.t 90), (.t 91), (.c (.bool false))], none⟩,
    ⟨(some 6), none, (.p .mv), [(.t 92)], none⟩])
  (.keep [6] (.keep [6] .ret))))))))))))))))))),
  [(.t 6)]⟩
def s_law5_HeadersChange_j0 (call : CallK) (N : Nat) (q : KV) (st : St) (τ : Tape) : Ans :=
  match st with
  | ⟨fr, H⟩ =>
  getK fr 0 fun t0 =>
  getK fr 1 fun t1 =>
  getK fr 2 fun t2 =>
  call f_law5_h [(.str (bs [45])), (.str (bs [45]))] H τ fun v2 H3 τ4 =>
  call f_book_Roomy_Header [t0, v2] H3 τ4 fun v5 H6 τ7 =>
  someK (pLen [t0]) fun v8 =>
  someK (pSlSlice 2 false true false [v5, v8]) fun v9 =>
  call f_headers_Add [v9, t1, t2] H6 τ7 fun v10 H11 τ12 =>
  someK (pExtract 0 [v10]) fun v13 =>
  someK (pExtract 1 [v10]) fun v14 =>
  call f_ref5_Add [t0, t1, t2] H11 τ12 fun v15 H16 τ17 =>
  someK (pExtract 0 [v15]) fun v18 =>
  someK (pExtract 1 [v15]) fun v19 =>
  call f_headers_Set [v9, t1, t2] H16 τ17 fun v20 H21 τ22 =>
  someK (pExtract 0 [v20]) fun v23 =>
  someK (pExtract 1 [v20]) fun v24 =>
  call f_ref5_Set [t0, t1, t2] H21 τ22 fun v25 H26 τ27 =>
  someK (pExtract 0 [v25]) fun v28 =>
  someK (pExtract 1 [v25]) fun v29 =>
  call f_book_Same_Header [v13, v18] H26 τ27 fun v30 H31 τ32 =>
  gK v30 true (fun q' => q' v14 H31 τ32) H31 τ32 fun v33 H34 τ35 =>
  gK v30 true (fun q' => q' v19 H34 τ35) H34 τ35 fun v36 H37 τ38 =>
  gK v30 true (fun q' => binK .eql v33 v36 fun v => q' v H37 τ38) H37 τ38 fun v39 H40 τ41 =>
  someK (pPick [v30, v39, (.bool false)]) fun v42 =>
  gK v42 true (fun q' => q' v23 H40 τ41) H40 τ41 fun v43 H44 τ45 =>
  gK v42 true (fun q' => q' v28 H44 τ45) H44 τ45 fun v46 H47 τ48 =>
  gK v42 true (fun q' => call f_book_Same_Header [v43, v46] H47 τ48 q') H47 τ48 fun v49 H50 τ51 =>
  someK (pPick [v42, v49, (.bool false)]) fun v52 =>
  gK v52 true (fun q' => q' v24 H50 τ51) H50 τ51 fun v53 H54 τ55 =>
  gK v52 true (fun q' => q' v29 H54 τ55) H54 τ55 fun v56 H57 τ58 =>
  gK v52 true (fun q' => binK .eql v53 v56 fun v => q' v H57 τ58) H57 τ58 fun v59 H60 τ61 =>
  someK (pPick [v52, v59, (.bool false)]) fun v62 =>
  gK v62 true (fun q' => q' v9 H60 τ61) H60 τ61 fun v63 H64 τ65 =>
  gK v62 true (fun q' => q' t1 H64 τ65) H64 τ65 fun v66 H67 τ68 =>
  gK v62 true (fun q' => call f_headers_Drop [v63, v66] H67 τ68 q') H67 τ68 fun v69 H70 τ71 =>
  gK v62 true (fun q' => q' t0 H70 τ71) H70 τ71 fun v72 H73 τ74 =>
  gK v62 true (fun q' => q' t1 H73 τ74) H73 τ74 fun v75 H76 τ77 =>
  gK v62 true (fun q' => call f_ref5_Drop [v72, v75] H76 τ77 q') H76 τ77 fun v78 H79 τ80 =>
  gK v62 true (fun q' => call f_book_Same_Header [v69, v78] H79 τ80 q') H79 τ80 fun v81 H82 τ83 =>
  someK (pPick [v62, v81, (.bool false)]) fun v84 =>
  gK v84 true (fun q' => q' v5 H82 τ83) H82 τ83 fun v85 H86 τ87 =>
  gK v84 true (fun q' => q' t0 H86 τ87) H86 τ87 fun v88 H89 τ90 =>
  gK v84 true (fun q' => call f_law5_h [(.str (bs [45])), (.str (bs [45]))] H89 τ90 q') H89 τ90 fun v91 H92 τ93 =>
  gK v84 true (fun q' => call f_book_Intact_Header [v85, v88, v91] H92 τ93 q') H92 τ93 fun v94 H95 τ96 =>
  someK (pPick [v84, v94, (.bool false)]) fun v97 =>
  gK v97 true (fun q' => call f_law5_known [] H95 τ96 q') H95 τ96 fun v98 H99 τ100 =>
  someK (pPick [v97, v98, (.bool false)]) fun v101 =>
  q v101 H99 τ100
def s_law5_HeadersChange (call : CallK) (N : Nat) (a0 a1 a2 : V) (H : Heap) (τ : Tape) (q : KV) : Ans :=
  someK (pLen [a0]) fun v0 =>
  binK .gtr v0 (.int .i64 (.ofNat 70)) fun v1 =>
  condK v1
    (someK (pSlSlice 2 false true false [a0, (.int .i64 (.ofNat 70))]) fun v102 =>
  s_law5_HeadersChange_j0 call N q ⟨(T.set (T.set (T.set (T.set (T.set (T.set (T.set .leaf 0 a0) 1 a1) 2 a2) 19 v1) 20 a0) 21 v102) 0 v102), H⟩ τ)
    (s_law5_HeadersChange_j0 call N q ⟨(T.set (T.set (T.set (T.set .leaf 0 a0) 1 a1) 2 a2) 19 v1), H⟩ τ)
theorem s_law5_HeadersChange_eq (call : CallK) (N : Nat) (a0 a1 a2 : V) (H : Heap) (τ : Tape) (q : KV) : s_law5_HeadersChange call N a0 a1 a2 H τ q = funK call N fn_law5_HeadersChange [a0, a1, a2] H τ q := by kernel_rfl
def e_law5_HeadersChange (call : CallK) (N : Nat) (vs : List V) (H : Heap) (τ : Tape) (q : KV) : Ans := match vs with | [a0, a1, a2] => s_law5_HeadersChange call N a0 a1 a2 H τ q | _ => none
theorem e_law5_HeadersChange_ok : EntOk fn_law5_HeadersChange e_law5_HeadersChange := by
  intro call N vs H τ q r h
  unfold e_law5_HeadersChange at h
  split at h
  · rw [s_law5_HeadersChange_eq] at h; exact h
  · cases h
theorem e_law5_HeadersChange_nat : EntNat e_law5_HeadersChange := by
  intro c hn N vs H τ q
  unfold e_law5_HeadersChange
  split
  · rw [s_law5_HeadersChange_eq, s_law5_HeadersChange_eq]; exact funK_ent hn _ _ _ _ _ _
  · rfl
/-- ostiary/ostiarylaw5.known -/
def fn_law5_known : Fun := ⟨0,
  (.seq (.reg [⟨(some 0), none, (.p .mv), [(.c (.bool false))], none⟩])
  (.keep [] (.seq (.reg [⟨(some 6), none, (.call 13), [(.c (.str (bs [65]))), (.c (.str (bs [49])))], none⟩,
    ⟨(some 7), none, (.call 13), [(.c (.str (bs [98]))), (.c (.str (bs [50])))], none⟩,
    ⟨(some 8), none, (.call 13), [(.c (.str (bs [97]))), (.c (.str (bs [51])))], none⟩,
    ⟨(some 9), none, (.e (.buildSlice 3 2 (repl 6 [(.str [])]) [(0, 2), (2, 2), (4, 2)])), [(.t 6), (.t 7), (.t 8)], none⟩,
    ⟨(some 10), none, (.call 20), [(.t 9), (.c (.str (bs [97])))], none⟩,
    ⟨(some 5), none, (.p .mv), [(.t 10)], none⟩,
    ⟨(some 11), none, (.p (.extract 0)), [(.t 5)], none⟩,
    ⟨(some 12), none, (.p (.extract 1)), [(.t 5)], none⟩,
    ⟨(some 1), none, (.p .mv), [(.t 11)], none⟩,
    ⟨(some 2), none, (.p .mv), [(.t 12)], none⟩])
  (.keep [1, 2] (.seq (.reg [⟨(some 14), none, (.call 13), [(.c (.str (bs [97]))), (.c (.str (bs [120, 44, 32, 34, 121, 44, 32, 122, 34, 32, 44, 32, 119])))], none⟩,
    ⟨(some 15), none, (.e (.buildSlice 1 2 [(.str []), (.str [])] [(0, 2)])), [(.t 14)], none⟩,
    ⟨(some 16), none, (.call 12), [(.t 15), (.c (.str (bs [65])))], none⟩,
    ⟨(some 13), none, (.p .mv), [(.t 16)], none⟩,
    ⟨(some 17), none, (.p (.extract 0)), [(.t 13)], none⟩,
    ⟨(some 18), none, (.p (.extract 1)), [(.t 13)], none⟩,
    ⟨(some 3), none, (.p .mv), [(.t 17)], none⟩,
    ⟨(some 4), none, (.p .mv), [(.t 18)], none⟩])
  (.keep [1, 2, 3, 4] (.seq (.reg [⟨(some 19), none, (.p .mv), [(.t 2)], none⟩,
    ⟨(some 20), none, (.p .mv), [(.t 19)], none⟩,
    ⟨(some 21), some (20, true), (.p .mv), [(.t 1)], none⟩,
    ⟨(some 22), some (20, true), (.p (.bin .eql)), [(.t 21), (.c (.str (bs [49, 44, 32, 51])))], none⟩,
    ⟨(some 23), none, (.p .pick), [(.t 20), (.t 22), (.c (.bool false))], none⟩,
    ⟨(some 24), none, (.p .mv), [(.t 23)], none⟩,
    ⟨(some 25), some (24, true), (.p .mv), [(.t 4)], none⟩,
    ⟨(some 26), none, (.p .pick), [(.t 24), (.t 25), (.c (.bool false))], none⟩,
    ⟨(some 27), none, (.p .mv), [(.t 26)], none⟩,
    ⟨(some 28), some (27, true), (.p .mv), [(.t 3)], none⟩,
    ⟨(some 29), some (27, true), (.e (.buildSlice 3 1 [(.str []), (.str []), (.str [])] [(0, 1), (1, 1), (2, 1)])), [(.c (.str (bs [120]))), (.c (.str (bs [34, 121, 44, 32, 122, 34]))), (.c (.str (bs [119])))], none⟩,
    ⟨(some 30), some (27, true), (.call 14), [(.t 28), (.t 29)], none⟩,
    ⟨(some 31), none, (.p .pick), [(.t 27), (.t 30), (.c (.bool false))], none⟩,
    ⟨(some 32), none, (.p .mv), [(.t 31)], none⟩,
    ⟨(some 33), some (32, true), (.call 18), [(.c (.str (bs [67, 111, 110, 116, 101, 110, 116, 45, 84, 121, 112, 101]))), (.c (.str (bs [116, 101, 120, 116, 47, 112, 108, 97, 105, 110, 59, 113])))], none⟩,
    ⟨(some 34), none, (.p .pick), [(.t 32), (.t 33), (.c (.bool false))], none⟩,
    ⟨(some 0), none, (.p .mv), [(.t 34)], none⟩])
  (.keep [0] (.keep [0] .ret))))))))),
  [(.t 0)]⟩
def s_law5_known (call : CallK) (N : Nat) (H : Heap) (τ : Tape) (q : KV) : Ans :=
  call f_law5_h [(.str (bs [65])), (.str (bs [49]))] H τ fun v0 H1 τ2 =>
  call f_law5_h [(.str (bs [98])), (.str (bs [50]))] H1 τ2 fun v3 H4 τ5 =>
  call f_law5_h [(.str (bs [97])), (.str (bs [51]))] H4 τ5 fun v6 H7 τ8 =>
  effK (eBuildSlice 3 2 (repl 6 [(.str [])]) [(0, 2), (2, 2), (4, 2)] [v0, v3, v6] H7 τ8) fun v9 H10 τ11 =>
  call f_headers_Get [v9, (.str (bs [97]))] H10 τ11 fun v12 H13 τ14 =>
  someK (pExtract 0 [v12]) fun v15 =>
  someK (pExtract 1 [v12]) fun v16 =>
  call f_law5_h [(.str (bs [97])), (.str (bs [120, 44, 32, 34, 121, 44, 32, 122, 34, 32, 44, 32, 119]))] H13 τ14 fun v17 H18 τ19 =>
  effK (eBuildSlice 1 2 [(.str []), (.str [])] [(0, 2)] [v17] H18 τ19) fun v20 H21 τ22 =>
  call f_headers_Split [v20, (.str (bs [65]))] H21 τ22 fun v23 H24 τ25 =>
  someK (pExtract 0 [v23]) fun v26 =>
  someK (pExtract 1 [v23]) fun v27 =>
  gK v16 true (fun q' => q' v15 H24 τ25) H24 τ25 fun v28 H29 τ30 =>
  gK v16 true (fun q' => binK .eql v28 (.str (bs [49, 44, 32, 51])) fun v => q' v H29 τ30) H29 τ30 fun v31 H32 τ33 =>
  someK (pPick [v16, v31, (.bool false)]) fun v34 =>
  gK v34 true (fun q' => q' v27 H32 τ33) H32 τ33 fun v35 H36 τ37 =>
  someK (pPick [v34, v35, (.bool false)]) fun v38 =>
  gK v38 true (fun q' => q' v26 H36 τ37) H36 τ37 fun v39 H40 τ41 =>
  gK v38 true (fun q' => effK (eBuildSlice 3 1 [(.str []), (.str []), (.str [])] [(0, 1), (1, 1), (2, 1)] [(.str (bs [120])), (.str (bs [34, 121, 44, 32, 122, 34])), (.str (bs [119]))] H40 τ41) q') H40 τ41 fun v42 H43 τ44 =>
  gK v38 true (fun q' => call f_book_Same_string [v39, v42] H43 τ44 q') H43 τ44 fun v45 H46 τ47 =>
  someK (pPick [v38, v45, (.bool false)]) fun v48 =>
  gK v48 true (fun q' => call f_headers_Safe [(.str (bs [67, 111, 110, 116, 101, 110, 116, 45, 84, 121, 112, 101])), (.str (bs [116, 101, 120, 116, 47, 112, 108, 97, 105, 110, 59, 113]))] H46 τ47 q') H46 τ47 fun v49 H50 τ51 =>
  someK (pPick [v48, v49, (.bool false)]) fun v52 =>
  q v52 H50 τ51
theorem s_law5_known_eq (call : CallK) (N : Nat) (H : Heap) (τ : Tape) (q : KV) : s_law5_known call N  H τ q = funK call N fn_law5_known [] H τ q := by kernel_rfl
def e_law5_known (call : CallK) (N : Nat) (vs : List V) (H : Heap) (τ : Tape) (q : KV) : Ans := match vs with | [] => s_law5_known call N  H τ q | _ => none
theorem e_law5_known_ok : EntOk fn_law5_known e_law5_known := by
  intro call N vs H τ q r h
  unfold e_law5_known at h
  split at h
  · rw [s_law5_known_eq] at h; exact h
  · cases h
theorem e_law5_known_nat : EntNat e_law5_known := by
  intro c hn N vs H τ q
  unfold e_law5_known
  split
  · rw [s_law5_known_eq, s_law5_known_eq]; exact funK_ent hn _ _ _ _ _ _
  · rfl
/-- ostiary/headers.Split -/
def fn_headers_Split : Fun := ⟨2,
  (.seq (.reg [⟨(some 4), none, (.p .mv), [(.c .nils)], none⟩,
    ⟨(some 5), none, (.p .mv), [(.c (.bool false))], none⟩])
  (.keep [0, 1] (.seq (.reg [⟨(some 13), none, (.p .mv), [(.t 0)], none⟩,
    ⟨(some 14), none, (.p .mv), [(.t 1)], none⟩,
    ⟨(some 15), none, (.call 20), [(.t 13), (.t 14)], none⟩,
    ⟨(some 12), none, (.p .mv), [(.t 15)], none⟩,
    ⟨(some 16), none, (.p (.extract 0)), [(.t 12)], none⟩,
    ⟨(some 17), none, (.p (.extract 1)), [(.t 12)], none⟩,
    ⟨(some 6), none, (.p .mv), [(.t 16)], none⟩,
    ⟨(some 7), none, (.p .mv), [(.t 17)], none⟩])
  (.keep [6, 7] (.seq (.seq (.reg [⟨(some 18), none, (.p .mv), [(.t 7)], none⟩,
    ⟨(some 19), none, (.p (.un .not)), [(.t 18)], none⟩])
  (.keep [6, 19] (.cond (.t 19)
   (.seq (.reg [⟨(some 4), none, (.p .mv), [(.c .nils)], none⟩,
     ⟨(some 5), none, (.p .mv), [(.c (.bool false))], none⟩])
   (.keep [4, 5] (.keep [4, 5] .ret)))
   .skip)))
  (.keep [6] (.seq (.reg [⟨(some 8), none, (.p .mv), [(.c .nils)], none⟩])
  (.keep [6, 8] (.seq (.reg [⟨(some 9), none, (.p .mv), [(.c (.bool false))], none⟩,
    ⟨(some 10), none, (.p .mv), [(.c (.int .i64 (.ofNat 0)))], none⟩])
  (.keep [6, 8, 9, 10] (.seq (.seq (.reg [⟨(some 11), none, (.p .mv), [(.c (.int .i64 (.ofNat 0)))], none⟩])
  (.keep [6, 8, 9, 10, 11] (.block 0
   (.loop
    (.keep [6, 8, 9, 10, 11] (.seq (.seq (.reg [⟨(some 20), none, (.p .mv), [(.t 11)], none⟩,
      ⟨(some 21), none, (.p .mv), [(.t 6)], none⟩,
      ⟨(some 22), none, (.p .lenS), [(.t 21)], none⟩,
      ⟨(some 23), none, (.p (.bin .lss)), [(.t 20), (.t 22)], none⟩])
    (.keep [6, 8, 9, 10, 11, 23] (.cond (.t 23)
     .skip
     (.keep [6, 8, 10] (.exit 0)))))
    (.keep [6, 8, 9, 10, 11] (.seq (.block 1
     (.block 2
      (.seq (.reg [⟨(some 27), none, (.p .mv), [(.t 6)], none⟩,
        ⟨(some 28), none, (.p .mv), [(.t 11)], none⟩,
        ⟨(some 29), none, (.p .strIndex), [(.t 27), (.t 28)], none⟩,
        ⟨(some 30), none, (.p (.bin .eql)), [(.t 29), (.c (.int .u8 (.ofNat 34)))], none⟩,
        ⟨(some 26), none, (.p .mv), [(.t 30)], none⟩])
      (.keep [6, 8, 9, 10, 11, 26] (.cond (.t 26)
       (.reg [⟨(some 31), none, (.p .mv), [(.t 9)], none⟩,
         ⟨(some 32), none, (.p (.un .not)), [(.t 31)], none⟩,
         ⟨(some 9), none, (.p .mv), [(.t 32)], none⟩])
       (.seq (.reg [⟨(some 34), none, (.p .mv), [(.t 9)], none⟩,
         ⟨(some 35), none, (.p .mv), [(.t 34)], none⟩,
         ⟨(some 36), some (35, true), (.p .mv), [(.t 6)], none⟩,
         ⟨(some 37), some (35, true), (.p .mv), [(.t 11)], none⟩,
         ⟨(some 38), some (35, true), (.p .strIndex), [(.t 36), (.t 37)], none⟩,
         ⟨(some 39), some (35, true), (.p (.bin .eql)), [(.t 38), (.c (.int .u8 (.ofNat 92)))], none⟩,
         ⟨(some 40), none, (.p .pick), [(.t 35), (.t 39), (.c (.bool false))], none⟩,
         ⟨(some 33), none, (.p .mv), [(.t 40)], none⟩])
       (.keep [6, 8, 9, 10, 11, 33] (.cond (.t 33)
        (.reg [⟨(some 41), none, (.p .mv), [(.t 11)], none⟩,
          ⟨(some 42), none, (.p (.bin .add)), [(.t 41), (.c (.int .i64 (.ofNat 1)))], none⟩,
          ⟨(some 11), none, (.p .mv), [(.t 42)], none⟩])
        (.seq (.reg [⟨(some 44), none, (.p .mv), [(.t 9)], none⟩,
          ⟨(some 45), none, (.p (.un .not)), [(.t 44)], none⟩,
          ⟨(some 46), none, (.p .mv), [(.t 45)], none⟩,
          ⟨(some 47), some (46, true), (.p .mv), [(.t 6)], none⟩,
          ⟨(some 48), some (46, true), (.p .mv), [(.t 11)], none⟩,
          ⟨(some 49), some (46, true), (.p .strIndex), [(.t 47), (.t 48)], none⟩,
          ⟨(some 50), some (46, true), (.p (.bin .eql)), [(.t 49), (.c (.int .u8 (.ofNat 44)))], none⟩,
          ⟨(some 51), none, (.p .pick), [(.t 46), (.t 50), (.c (.bool false))], none⟩,
          ⟨(some 43), none, (.p .mv), [(.t 51)], none⟩])
        (.keep [6, 8, 9, 10, 11, 43] (.cond (.t 43)
         (.seq (.reg [⟨(some 52), none, (.p .mv), [(.t 8)], none⟩,
           ⟨(some 53), none, (.p .mv), [(.t 6)], none⟩,
           ⟨(some 54), none, (.p .mv), [(.t 10)], none⟩,
           ⟨(some 55), none, (.p .mv), [(.t 11)], none⟩,
           ⟨(some 56), none, (.p (.strSlice true true)), [(.t 53), (.t 54), (.t 55)], none⟩,
           ⟨(some 57), none, (.call 35), [(.t 56), (.c (.str (bs [9, 32])))], none⟩,
           ⟨(some 58), none, (.e (.buildSlice 1 1 [(.str [])] [(0, 1)])), [(.t 57)], none⟩,
           ⟨(some 59), none, (.e (.append 1 16)), [(.t 52), (.t 58)], none⟩,
           ⟨(some 8), none, (.p .mv), [(.t 59)], none⟩])
         (.keep [6, 8, 9, 11] (.reg [⟨(some 60), none, (.p .mv), [(.t 11)], none⟩,
           ⟨(some 61), none, (.p (.bin .add)), [(.t 60), (.c (.int .i64 (.ofNat 1)))], none⟩,
           ⟨(some 10), none, (.p .mv), [(.t 61)], none⟩])))
         .skip)))))))))))
    (.keep [6, 8, 9, 10, 11] (.reg [⟨(some 24), none, (.p .mv), [(.t 11)], none⟩,
      ⟨(some 25), none, (.p (.bin .add)), [(.t 24), (.c (.int .i64 (.ofNat 1)))], none⟩,
      ⟨(some 11), none, (.p .mv), [(.t 25)], none⟩]))))))))))
  (.keep [6, 8, 10] (.seq (.reg [⟨(some 62), none, (.p .mv), [(.t 8)], none⟩,
    ⟨(some 63), none, (.p .mv), [(.t 6)], none⟩,
    ⟨(some 64), none, (.p .mv), [(.t 10)], none⟩,
    ⟨(some 65), none, (.p (.strSlice true false)), [(.t 63), (.t 64)], none⟩,
    ⟨(some 66), none, (.call 35), [(.t 65), (.c (.str (bs [9, 32])))], none⟩,
    ⟨(some 67), none, (.e (.buildSlice 1 1 [(.str [])] [(0, 1)])), [(.t 66)], none⟩,
    ⟨(some 68), none, (.e (.append 1 16)), [(.t 62), (.t 67)], none⟩,
    ⟨(some 4), none, (.p .mv), [(.t 68)], none⟩,
    ⟨(some 5), none, (.p .mv), [(.c (.bool true))], none⟩])
  (.keep [4, 5] (.keep [4, 5] .ret))))))))))))))),
  [(.t 4), (.t 5)]⟩
def s_headers_Split_j0 (call : CallK) (N : Nat) (q : KV) (st : St) (τ : Tape) : Ans :=
  match st with
  | ⟨fr, H⟩ =>
  getK fr 6 fun t6 =>
  getK fr 8 fun t8 =>
  getK fr 10 fun t10 =>
  someK (pStrSlice true false [t6, t10]) fun v6 =>
  call f_strings_Trim [v6, (.str (bs [9, 32]))] H τ fun v7 H8 τ9 =>
  effK (eBuildSlice 1 1 [(.str [])] [(0, 1)] [v7] H8 τ9) fun v10 H11 τ12 =>
  effK (eAppend 1 16 [t8, v10] H11 τ12) fun v13 H14 τ15 =>
  q (.tup [v13, (.bool true)]) H14 τ15
def s_headers_Split_j2 (call : CallK) (N : Nat) (k : KC) (st : St) (τ : Tape) : Ans :=
  match st with
  | ⟨fr, H⟩ =>
  getK fr 6 fun t6 =>
  getK fr 8 fun t8 =>
  getK fr 9 fun t9 =>
  getK fr 10 fun t10 =>
  getK fr 11 fun t11 =>
  binK .add t11 (.int .i64 (.ofNat 1)) fun v18 =>
  k .normal ⟨(T.set (T.set (T.set (T.set (T.set (T.set (T.set (T.set .leaf 6 t6) 8 t8) 9 t9) 10 t10) 11 t11) 24 t11) 25 v18) 11 v18), H⟩ τ
def s_headers_Split_l1 (call : CallK) (N : Nat) (st : St) (τ : Tape) (k : KC) : Ans :=
  match st with
  | ⟨fr, H⟩ =>
  getK fr 6 fun t6 =>
  getK fr 8 fun t8 =>
  getK fr 9 fun t9 =>
  getK fr 10 fun t10 =>
  getK fr 11 fun t11 =>
  someK (pLenS [t6]) fun v16 =>
  binK .lss t11 v16 fun v17 =>
  condK v17
    (someK (pStrIndex [t6, t11]) fun v19 =>
  binK .eql v19 (.int .u8 (.ofNat 34)) fun v20 =>
  condK v20
    (unK .not t9 fun v21 =>
  s_headers_Split_j2 call N k ⟨(T.set (T.set (T.set (T.set (T.set (T.set (T.set (T.set (T.set .leaf 6 t6) 8 t8) 9 t9) 10 t10) 11 t11) 26 v20) 31 t9) 32 v21) 9 v21), H⟩ τ)
    (gK t9 true (fun q' => q' t6 H τ) H τ fun v22 H23 τ24 =>
  gK t9 true (fun q' => q' t11 H23 τ24) H23 τ24 fun v25 H26 τ27 =>
  gK t9 true (fun q' => someK (pStrIndex [v22, v25]) fun v => q' v H26 τ27) H26 τ27 fun v28 H29 τ30 =>
  gK t9 true (fun q' => binK .eql v28 (.int .u8 (.ofNat 92)) fun v => q' v H29 τ30) H29 τ30 fun v31 H32 τ33 =>
  someK (pPick [t9, v31, (.bool false)]) fun v34 =>
  condK v34
    (binK .add t11 (.int .i64 (.ofNat 1)) fun v35 =>
  s_headers_Split_j2 call N k ⟨(T.set (T.set (T.set (T.set (T.set (T.set (T.set (T.set (T.set .leaf 6 t6) 8 t8) 9 t9) 10 t10) 11 t11) 33 v34) 41 t11) 42 v35) 11 v35), H32⟩ τ33)
    (unK .not t9 fun v36 =>
  gK v36 true (fun q' => q' t6 H32 τ33) H32 τ33 fun v37 H38 τ39 =>
  gK v36 true (fun q' => q' t11 H38 τ39) H38 τ39 fun v40 H41 τ42 =>
  gK v36 true (fun q' => someK (pStrIndex [v37, v40]) fun v => q' v H41 τ42) H41 τ42 fun v43 H44 τ45 =>
  gK v36 true (fun q' => binK .eql v43 (.int .u8 (.ofNat 44)) fun v => q' v H44 τ45) H44 τ45 fun v46 H47 τ48 =>
  someK (pPick [v36, v46, (.bool false)]) fun v49 =>
  condK v49
    (someK (pStrSlice true true [t6, t10, t11]) fun v50 =>
  call f_strings_Trim [v50, (.str (bs [9, 32]))] H47 τ48 fun v51 H52 τ53 =>
  effK (eBuildSlice 1 1 [(.str [])] [(0, 1)] [v51] H52 τ53) fun v54 H55 τ56 =>
  effK (eAppend 1 16 [t8, v54] H55 τ56) fun v57 H58 τ59 =>
  binK .add t11 (.int .i64 (.ofNat 1)) fun v60 =>
  s_headers_Split_j2 call N k ⟨(T.set (T.set (T.set (T.set (T.set (T.set (T.set .leaf 6 t6) 8 v57) 9 t9) 11 t11) 60 t11) 61 v60) 10 v60), H58⟩ τ59)
    (s_headers_Split_j2 call N k ⟨(T.set (T.set (T.set (T.set (T.set (T.set .leaf 6 t6) 8 t8) 9 t9) 10 t10) 11 t11) 43 v49), H47⟩ τ48))))
    (k (.exit 0) ⟨(T.set (T.set (T.set .leaf 6 t6) 8 t8) 10 t10), H⟩ τ)
def s_headers_Split (call : CallK) (N : Nat) (a0 a1 : V) (H : Heap) (τ : Tape) (q : KV) : Ans :=
  call f_headers_Get [a0, a1] H τ fun v0 H1 τ2 =>
  someK (pExtract 0 [v0]) fun v3 =>
  someK (pExtract 1 [v0]) fun v4 =>
  unK .not v4 fun v5 =>
  condK v5
    (q (.tup [.nils, (.bool false)]) H1 τ2)
    (loopK (s_headers_Split_l1 call N) N ⟨(T.set (T.set (T.set (T.set (T.set .leaf 6 v3) 8 .nils) 9 (.bool false)) 10 (.int .i64 (.ofNat 0))) 11 (.int .i64 (.ofNat 0))), H1⟩ τ2 (blockK 0 (seqK (s_headers_Split_j0 call N q) (endK [(.t 4), (.t 5)] q))))
theorem s_headers_Split_eq (call : CallK) (N : Nat) (a0 a1 : V) (H : Heap) (τ : Tape) (q : KV) : s_headers_Split call N a0 a1 H τ q = funK call N fn_headers_Split [a0, a1] H τ q := by kernel_rfl
def e_headers_Split (call : CallK) (N : Nat) (vs : List V) (H : Heap) (τ : Tape) (q : KV) : Ans := match vs with | [a0, a1] => s_headers_Split call N a0 a1 H τ q | _ => none
theorem e_headers_Split_ok : EntOk fn_headers_Split e_headers_Split := by
  intro call N vs H τ q r h
  unfold e_headers_Split at h
  split at h
  · rw [s_headers_Split_eq] at h; exact h
  · cases h
theorem e_headers_Split_nat : EntNat e_headers_Split := by
  intro c hn N vs H τ q
  unfold e_headers_Split
  split
  · rw [s_headers_Split_eq, s_headers_Split_eq]; exact funK_ent hn _ _ _ _ _ _
  · rfl
/-- ostiary/ostiarylaw5.h -/
def fn_law5_h : Fun := ⟨2,
  (.seq (.reg [⟨(some 4), none, (.e (.alloc [(.str []), (.str [])])), [], none⟩])
  (.keep [0, 1, 4] (.seq (.reg [⟨(some 5), none, (.p .mv), [(.t 0)], none⟩,
    ⟨(some 6), none, (.p .mv), [(.t 1)], none⟩,
    ⟨(some 7), none, (.p (.build [(.str []), (.str [])] [(0, 1), (1, 1)])), [(.t 5), (.t 6)], none⟩,
    ⟨none, none, (.e (.store 2)), [(.t 4), (.t 7)], none⟩])
  (.keep [4] (.keep [4] .ret))))),
  [(.cell 4 (some 2))]⟩
def s_law5_h (call : CallK) (N : Nat) (a0 a1 : V) (H : Heap) (τ : Tape) (q : KV) : Ans :=
  effK (eAlloc [(.str []), (.str [])] [] H τ) fun v0 H1 τ2 =>
  someK (pBuild [(.str []), (.str [])] [(0, 1), (1, 1)] [a0, a1]) fun v3 =>
  effK (eStore 2 [v0, v3] H1 τ2) fun v4 H5 τ6 =>
  someK (results ⟨(T.set .leaf 4 v0), H5⟩ [(.cell 4 (some 2))]) fun v => q v H5 τ6
theorem s_law5_h_eq (call : CallK) (N : Nat) (a0 a1 : V) (H : Heap) (τ : Tape) (q : KV) : s_law5_h call N a0 a1 H τ q = funK call N fn_law5_h [a0, a1] H τ q := by kernel_rfl
def e_law5_h (call : CallK) (N : Nat) (vs : List V) (H : Heap) (τ : Tape) (q : KV) : Ans := match vs with | [a0, a1] => s_law5_h call N a0 a1 H τ q | _ => none
theorem e_law5_h_ok : EntOk fn_law5_h e_law5_h := by
  intro call N vs H τ q r h
  unfold e_law5_h at h
  split at h
  · rw [s_law5_h_eq] at h; exact h
  · cases h
theorem e_law5_h_nat : EntNat e_law5_h := by
  intro c hn N vs H τ q
  unfold e_law5_h
  split
  · rw [s_law5_h_eq, s_law5_h_eq]; exact funK_ent hn _ _ _ _ _ _
  · rfl
/-- ostiary/ostiarybook.Same[string] -/
def fn_book_Same_string : Fun := ⟨2,
  (.seq (.reg [⟨(some 4), none, (.p .mv), [(.c (.bool false))], none⟩])
  (.keep [0, 1] (.seq (.seq (.reg [⟨(some 6), none, (.p .mv), [(.t 0)], none⟩,
    ⟨(some 7), none, (.p .len), [(.t 6)], none⟩,
    ⟨(some 8), none, (.p .mv), [(.t 1)], none⟩,
    ⟨(some 9), none, (.p .len), [(.t 8)], none⟩,
    ⟨(some 10), none, (.p (.bin .neq)), [(.t 7), (.t 9)], none⟩])
  (.keep [0, 1, 10] (.cond (.t 10)
   (.seq (.reg [⟨(some 4), none, (.p .mv), [(.c (.bool false))], none⟩])
   (.keep [4] (.keep [4] .ret)))
   .skip)))
  (.keep [0, 1] (.seq (.seq (.reg [⟨(some 5), none, (.p .mv), [(.c (.int .i64 (.ofNat 0)))], none⟩])
  (.keep [0, 1, 5] (.block 0
   (.loop
    (.keep [0, 1, 5] (.seq (.seq (.reg [⟨(some 11), none, (.p .mv), [(.t 5)], none⟩,
      ⟨(some 12), none, (.p .mv), [(.t 0)], none⟩,
      ⟨(some 13), none, (.p .len), [(.t 12)], none⟩,
      ⟨(some 14), none, (.p (.bin .lss)), [(.t 11), (.t 13)], none⟩])
    (.keep [0, 1, 5, 14] (.cond (.t 14)
     .skip
     (.keep [] (.exit 0)))))
    (.keep [0, 1, 5] (.seq (.block 1
     (.seq (.draw [⟨(some 17), none, (.p .mv), [(.t 0)], none⟩,
       ⟨(some 18), none, (.p .mv), [(.t 5)], none⟩,
       ⟨(some 19), none, (.p (.slIdx 1)), [(.t 17), (.t 18)], none⟩,
       ⟨(some 20), none, (.l (.load none)), [(.t 19)], none⟩,
       ⟨(some 21), none, (.p .mv), [(.t 1)], none⟩,
       ⟨(some 22), none, (.p .mv), [(.t 5)], none⟩,
       ⟨(some 23), none, (.p (.slIdx 1)), [(.t 21), (.t 22)], none⟩,
       ⟨(some 24), none, (.l (.load none)), [(.t 23)], none⟩,
       ⟨(some 25), none, (.p (.bin .neq)), [(.t 20), (.t 24)], none⟩])
     (.keep [0, 1, 5, 25] (.cond (.t 25)
      (.seq (.reg [⟨(some 4), none, (.p .mv), [(.c (.bool false))], none⟩])
      (.keep [4] (.keep [4] .ret)))
      .skip))))
    (.keep [0, 1, 5] (.reg [⟨(some 15), none, (.p .mv), [(.t 5)], none⟩,
      ⟨(some 16), none, (.p (.bin .add)), [(.t 15), (.c (.int .i64 (.ofNat 1)))], none⟩,
      ⟨(some 5), none, (.p .mv), [(.t 16)], none⟩]))))))))))
  (.keep [] (.seq (.reg [⟨(some 4), none, (.p .mv), [(.c (.bool true))], none⟩])
  (.keep [4] (.keep [4] .ret))))))))),
  [(.t 4)]⟩
def s_book_Same_string_j0 (call : CallK) (N : Nat) (q : KV) (st : St) (τ : Tape) : Ans :=
  match st with
  | ⟨fr, H⟩ =>
  q (.bool true) H τ
def s_book_Same_string_l1 (call : CallK) (N : Nat) (st : St) (τ : Tape) (k : KC) : Ans :=
  match st with
  | ⟨fr, H⟩ =>
  getK fr 0 fun t0 =>
  getK fr 1 fun t1 =>
  getK fr 5 fun t5 =>
  someK (pLen [t0]) fun v3 =>
  binK .lss t5 v3 fun v4 =>
  condK v4
    (someK (pSlIdx 1 [t0, t5]) fun v5 =>
  someK (lLoad1 [v5] H) fun v6 =>
  someK (pSlIdx 1 [t1, t5]) fun v7 =>
  someK (lLoad1 [v7] H) fun v8 =>
  binK .neq v6 v8 fun v9 =>
  condK v9
    (k .ret ⟨(T.set .leaf 4 (.bool false)), H⟩ τ)
    (binK .add t5 (.int .i64 (.ofNat 1)) fun v10 =>
  k .normal ⟨(T.set (T.set (T.set (T.set (T.set (T.set .leaf 0 t0) 1 t1) 5 t5) 15 t5) 16 v10) 5 v10), H⟩ τ))
    (k (.exit 0) ⟨.leaf, H⟩ τ)
def s_book_Same_string (call : CallK) (N : Nat) (a0 a1 : V) (H : Heap) (τ : Tape) (q : KV) : Ans :=
  someK (pLen [a0]) fun v0 =>
  someK (pLen [a1]) fun v1 =>
  binK .neq v0 v1 fun v2 =>
  condK v2
    (q (.bool false) H τ)
    (loopK (s_book_Same_string_l1 call N) N ⟨(T.set (T.set (T.set .leaf 0 a0) 1 a1) 5 (.int .i64 (.ofNat 0))), H⟩ τ (blockK 0 (seqK (s_book_Same_string_j0 call N q) (endK [(.t 4)] q))))
theorem s_book_Same_string_eq (call : CallK) (N : Nat) (a0 a1 : V) (H : Heap) (τ : Tape) (q : KV) : s_book_Same_string call N a0 a1 H τ q = funK call N fn_book_Same_string [a0, a1] H τ q := by kernel_rfl
def e_book_Same_string (call : CallK) (N : Nat) (vs : List V) (H : Heap) (τ : Tape) (q : KV) : Ans := match vs with | [a0, a1] => s_book_Same_string call N a0 a1 H τ q | _ => none
theorem e_book_Same_string_ok : EntOk fn_book_Same_string e_book_Same_string := by
  intro call N vs H τ q r h
  unfold e_book_Same_string at h
  split at h
  · rw [s_book_Same_string_eq] at h; exact h
  · cases h
theorem e_book_Same_string_nat : EntNat e_book_Same_string := by
  intro c hn N vs H τ q
  unfold e_book_Same_string
  split
  · rw [s_book_Same_string_eq, s_book_Same_string_eq]; exact funK_ent hn _ _ _ _ _ _
  · rfl
/-- ostiary/headers.Range -/
def fn_headers_Range : Fun := ⟨1,
  (.seq (.reg [⟨(some 2), none, (.p .mv), [(.c (.int .i64 (.ofNat 0)))], none⟩,
    ⟨(some 3), none, (.p .mv), [(.c (.int .i64 (.ofNat 0)))], none⟩,
    ⟨(some 4), none, (.p .mv), [(.c (.bool false))], none⟩])
  (.keep [0] (.seq (.reg [⟨(some 15), none, (.p .mv), [(.t 0)], none⟩,
    ⟨(some 16), none, (.call 36), [(.t 15), (.c (.str (bs [98, 121, 116, 101, 115, 61])))], none⟩,
    ⟨(some 14), none, (.p .mv), [(.t 16)], none⟩,
    ⟨(some 17), none, (.p (.extract 0)), [(.t 14)], none⟩,
    ⟨(some 18), none, (.p (.extract 1)), [(.t 14)], none⟩,
    ⟨(some 5), none, (.p .mv), [(.t 17)], none⟩,
    ⟨(some 6), none, (.p .mv), [(.t 18)], none⟩])
  (.keep [5, 6] (.seq (.reg [⟨(some 20), none, (.p .mv), [(.t 5)], none⟩,
    ⟨(some 21), none, (.call 37), [(.t 20), (.c (.str (bs [45])))], none⟩,
    ⟨(some 19), none, (.p .mv), [(.t 21)], none⟩,
    ⟨(some 22), none, (.p (.extract 0)), [(.t 19)], none⟩,
    ⟨(some 23), none, (.p (.extract 1)), [(.t 19)], none⟩,
    ⟨(some 24), none, (.p (.extract 2)), [(.t 19)], none⟩,
    ⟨(some 7), none, (.p .mv), [(.t 22)], none⟩,
    ⟨(some 8), none, (.p .mv), [(.t 23)], none⟩,
    ⟨(some 9), none, (.p .mv), [(.t 24)], none⟩])
  (.keep [6, 7, 8, 9] (.seq (.reg [⟨(some 26), none, (.p .mv), [(.t 7)], none⟩,
    ⟨(some 27), none, (.call 38), [(.t 26)], none⟩,
    ⟨(some 25), none, (.p .mv), [(.t 27)], none⟩,
    ⟨(some 28), none, (.p (.extract 0)), [(.t 25)], none⟩,
    ⟨(some 29), none, (.p (.extract 1)), [(.t 25)], none⟩,
    ⟨(some 10), none, (.p .mv), [(.t 28)], none⟩,
    ⟨(some 11), none, (.p .mv), [(.t 29)], none⟩])
  (.keep [6, 8, 9, 10, 11] (.seq (.reg [⟨(some 31), none, (.p .mv), [(.t 8)], none⟩,
    ⟨(some 32), none, (.call 38), [(.t 31)], none⟩,
    ⟨(some 30), none, (.p .mv), [(.t 32)], none⟩,
    ⟨(some 33), none, (.p (.extract 0)), [(.t 30)], none⟩,
    ⟨(some 34), none, (.p (.extract 1)), [(.t 30)], none⟩,
    ⟨(some 12), none, (.p .mv), [(.t 33)], none⟩,
    ⟨(some 13), none, (.p .mv), [(.t 34)], none⟩])
  (.keep [6, 9, 10, 11, 12, 13] (.seq (.seq (.reg [⟨(some 35), none, (.p .mv), [(.t 6)], none⟩,
    ⟨(some 36), none, (.p (.un .not)), [(.t 35)], none⟩,
    ⟨(some 37), none, (.p .mv), [(.t 36)], none⟩,
    ⟨(some 38), some (37, false), (.p .mv), [(.t 9)], none⟩,
    ⟨(some 39), some (37, false), (.p (.un .not)), [(.t 38)], none⟩,
    ⟨(some 40), none, (.p .pick), [(.t 37), (.c (.bool true)), (.t 39)], none⟩,
    ⟨(some 41), none, (.p .mv), [(.t 40)], none⟩,
    ⟨(some 42), some (41, false), (.p .mv), [(.t 11)], none⟩,
    ⟨(some 43), some (41, false), (.p (.un .not)), [(.t 42)], none⟩,
    ⟨(some 44), none, (.p .pick), [(.t 41), (.c (.bool true)), (.t 43)], none⟩,
    ⟨(some 45), none, (.p .mv), [(.t 44)], none⟩,
    ⟨(some 46), some (45, false), (.p .mv), [(.t 13)], none⟩,
    ⟨(some 47), some (45, false), (.p (.un .not)), [(.t 46)], none⟩,
    ⟨(some 48), none, (.p .pick), [(.t 45), (.c (.bool true)), (.t 47)], none⟩,
    ⟨(some 49), none, (.p .mv), [(.t 48)], none⟩,
    ⟨(some 50), some (49, false), (.p .mv), [(.t 10)], none⟩,
    ⟨(some 51), some (49, false), (.p (.bin .lss)), [(.t 50), (.c (.int .i64 (.ofNat 0)))], none⟩,
    ⟨(some 52), some (49, false), (.p .mv), [(.t 51)], none⟩,
    ⟨(some 53), some (52, true), (.p .mv), [(.t 12)], none⟩,
    ⟨(some 54), some (52, true), (.p (.bin .lss)), [(.t 53), (.c (.int .i64 (.ofNat 0)))], none⟩,
    ⟨(some 55), some (49, false), (.p .pick), [(.t 52), (.t 54), (.c (.bool false))], none⟩,
    ⟨(some 56), none, (.p .pick), [(.t 49), (.c (.bool true)), (.t 55)], none⟩,
    ⟨(some 57), none, (.p .mv), [(.t 56)], none⟩,
    ⟨(some 58), some (57, false), (.p .mv), [(.t 10)], none⟩,
    ⟨(some 59), some (57, false), (.p (.bin .geq)), [(.t 58), (.c (.int .i64 (.ofNat 0)))], none⟩,
    ⟨(some 60), some (57, false), (.p .mv), [(.t 59)], none⟩,
    ⟨(some 61), some (60, true), (.p .mv), [(.t 12)], none⟩,
    ⟨(some 62), some (60, true), (.p (.bin .geq)), [(.t 61), (.c (.int .i64 (.ofNat 0)))], none⟩,
    ⟨(some 63), some (57, false), (.p .pick), [(.t 60), (.t 62), (.c (.bool false))], none⟩,
    ⟨(some 64), some (57, false), (.p .mv), [(.t 63)], none⟩,
    ⟨(some 65), some (64, true), (.p .mv), [(.t 10)], none⟩,
    ⟨(some 66), some (64, true), (.p .mv), [(.t 12)], none⟩,
    ⟨(some 67), some (64, true), (.p (.bin .gtr)), [(.t 65), (.t 66)], none⟩,
    ⟨(some 68), some (57, false), (.p .pick), [(.t 64), (.t 67), (.c (.bool false))], none⟩,
    ⟨(some 69), none, (.p .pick), [(.t 57), (.c (.bool true)), (.t 68)], none⟩])
  (.keep [10, 12, 69] (.cond (.t 69)
   (.seq (.reg [⟨(some 2), none, (.p .mv), [(.c (.int .i64 (.ofNat 0)))], none⟩,
     ⟨(some 3), none, (.p .mv), [(.c (.int .i64 (.ofNat 0)))], none⟩,
     ⟨(some 4), none, (.p .mv), [(.c (.bool false))], none⟩])
   (.keep [2, 3, 4] (.keep [2, 3, 4] .ret)))
   .skip)))
  (.keep [10, 12] (.seq (.reg [⟨(some 70), none, (.p .mv), [(.t 10)], none⟩,
    ⟨(some 71), none, (.p .mv), [(.t 12)], none⟩,
    ⟨(some 2), none, (.p .mv), [(.t 70)], none⟩,
    ⟨(some 3), none, (.p .mv), [(.t 71)], none⟩,
    ⟨(some 4), none, (.p .mv), [(.c (.bool true))], none⟩])
  (.keep [2, 3, 4] (.keep [2, 3, 4] .ret))))))))))))))),
  [(.t 2), (.t 3), (.t 4)]⟩
def s_headers_Range (call : CallK) (N : Nat) (a0 : V) (H : Heap) (τ : Tape) (q : KV) : Ans :=
  call f_strings_CutPrefix [a0, (.str (bs [98, 121, 116, 101, 115, 61]))] H τ fun v0 H1 τ2 =>
  someK (pExtract 0 [v0]) fun v3 =>
  someK (pExtract 1 [v0]) fun v4 =>
  call f_strings_Cut [v3, (.str (bs [45]))] H1 τ2 fun v5 H6 τ7 =>
  someK (pExtract 0 [v5]) fun v8 =>
  someK (pExtract 1 [v5]) fun v9 =>
  someK (pExtract 2 [v5]) fun v10 =>
  call f_headers_told [v8] H6 τ7 fun v11 H12 τ13 =>
  someK (pExtract 0 [v11]) fun v14 =>
  someK (pExtract 1 [v11]) fun v15 =>
  call f_headers_told [v9] H12 τ13 fun v16 H17 τ18 =>
  someK (pExtract 0 [v16]) fun v19 =>
  someK (pExtract 1 [v16]) fun v20 =>
  unK .not v4 fun v21 =>
  gK v21 false (fun q' => q' v10 H17 τ18) H17 τ18 fun v22 H23 τ24 =>
  gK v21 false (fun q' => unK .not v22 fun v => q' v H23 τ24) H23 τ24 fun v25 H26 τ27 =>
  someK (pPick [v21, (.bool true), v25]) fun v28 =>
  gK v28 false (fun q' => q' v15 H26 τ27) H26 τ27 fun v29 H30 τ31 =>
  gK v28 false (fun q' => unK .not v29 fun v => q' v H30 τ31) H30 τ31 fun v32 H33 τ34 =>
  someK (pPick [v28, (.bool true), v32]) fun v35 =>
  gK v35 false (fun q' => q' v20 H33 τ34) H33 τ34 fun v36 H37 τ38 =>
  gK v35 false (fun q' => unK .not v36 fun v => q' v H37 τ38) H37 τ38 fun v39 H40 τ41 =>
  someK (pPick [v35, (.bool true), v39]) fun v42 =>
  gK v42 false (fun q' => q' v14 H40 τ41) H40 τ41 fun v43 H44 τ45 =>
  gK v42 false (fun q' => binK .lss v43 (.int .i64 (.ofNat 0)) fun v => q' v H44 τ45) H44 τ45 fun v46 H47 τ48 =>
  gK v42 false (fun q' => q' v46 H47 τ48) H47 τ48 fun v49 H50 τ51 =>
  gK v49 true (fun q' => q' v19 H50 τ51) H50 τ51 fun v52 H53 τ54 =>
  gK v49 true (fun q' => binK .lss v52 (.int .i64 (.ofNat 0)) fun v => q' v H53 τ54) H53 τ54 fun v55 H56 τ57 =>
  gK v42 false (fun q' => someK (pPick [v49, v55, (.bool false)]) fun v => q' v H56 τ57) H56 τ57 fun v58 H59 τ60 =>
  someK (pPick [v42, (.bool true), v58]) fun v61 =>
  gK v61 false (fun q' => q' v14 H59 τ60) H59 τ60 fun v62 H63 τ64 =>
  gK v61 false (fun q' => binK .geq v62 (.int .i64 (.ofNat 0)) fun v => q' v H63 τ64) H63 τ64 fun v65 H66 τ67 =>
  gK v61 false (fun q' => q' v65 H66 τ67) H66 τ67 fun v68 H69 τ70 =>
  gK v68 true (fun q' => q' v19 H69 τ70) H69 τ70 fun v71 H72 τ73 =>
  gK v68 true (fun q' => binK .geq v71 (.int .i64 (.ofNat 0)) fun v => q' v H72 τ73) H72 τ73 fun v74 H75 τ76 =>
  gK v61 false (fun q' => someK (pPick [v68, v74, (.bool false)]) fun v => q' v H75 τ76) H75 τ76 fun v77 H78 τ79 =>
  gK v61 false (fun q' => q' v77 H78 τ79) H78 τ79 fun v80 H81 τ82 =>
  gK v80 true (fun q' => q' v14 H81 τ82) H81 τ82 fun v83 H84 τ85 =>
  gK v80 true (fun q' => q' v19 H84 τ85) H84 τ85 fun v86 H87 τ88 =>
  gK v80 true (fun q' => binK .gtr v83 v86 fun v => q' v H87 τ88) H87 τ88 fun v89 H90 τ91 =>
  gK v61 false (fun q' => someK (pPick [v80, v89, (.bool false)]) fun v => q' v H90 τ91) H90 τ91 fun v92 H93 τ94 =>
  someK (pPick [v61, (.bool true), v92]) fun v95 =>
  condK v95
    (q (.tup [(.int .i64 (.ofNat 0)), (.int .i64 (.ofNat 0)), (.bool false)]) H93 τ94)
    (q (.tup [v14, v19, (.bool true)]) H93 τ94)
theorem s_headers_Range_eq (call : CallK) (N : Nat) (a0 : V) (H : Heap) (τ : Tape) (q : KV) : s_headers_Range call N a0 H τ q = funK call N fn_headers_Range [a0] H τ q := by kernel_rfl
def e_headers_Range (call : CallK) (N : Nat) (vs : List V) (H : Heap) (τ : Tape) (q : KV) : Ans := match vs with | [a0] => s_headers_Range call N a0 H τ q | _ => none
theorem e_headers_Range_ok : EntOk fn_headers_Range e_headers_Range := by
  intro call N vs H τ q r h
  unfold e_headers_Range at h
  split at h
  · rw [s_headers_Range_eq] at h; exact h
  · cases h
theorem e_headers_Range_nat : EntNat e_headers_Range := by
  intro c hn N vs H τ q
  unfold e_headers_Range
  split
  · rw [s_headers_Range_eq, s_headers_Range_eq]; exact funK_ent hn _ _ _ _ _ _
  · rfl
/-- ostiary/headers.Safe -/
def fn_headers_Safe : Fun := ⟨2,
  (.seq (.reg [⟨(some 4), none, (.p .mv), [(.c (.bool false))], none⟩])
  (.keep [0, 1] (.seq (.seq (.reg [⟨(some 11), none, (.p .mv), [(.t 1)], none⟩,
    ⟨(some 12), none, (.p .lenS), [(.t 11)], none⟩,
    ⟨(some 13), none, (.p (.bin .gtr)), [(.t 12), (.c (.int .i64 (.ofNat 128)))], none⟩])
  (.keep [0, 1, 13] (.cond (.t 13)
   (.seq (.reg [⟨(some 4), none, (.p .mv), [(.c (.bool false))], none⟩])
   (.keep [4] (.keep [4] .ret)))
   .skip)))
  (.keep [0, 1] (.seq (.seq (.reg [⟨(some 14), none, (.p .mv), [(.t 0)], none⟩,
    ⟨(some 15), none, (.call 39), [(.t 14)], none⟩])
  (.keep [1, 15] (.block 0
   (.seq (.reg [⟨(some 17), none, (.p (.bin .eql)), [(.t 15), (.c (.str (bs [97, 99, 99, 101, 112, 116])))], none⟩,
     ⟨(some 16), none, (.p .mv), [(.t 17)], none⟩])
   (.keep [1, 15, 16] (.cond (.t 16)
    (.seq (.reg [⟨(some 18), none, (.p .mv), [(.t 1)], none⟩,
      ⟨(some 19), none, (.call 40), [(.t 18)], none⟩,
      ⟨(some 20), none, (.p (.un .not)), [(.t 19)], none⟩,
      ⟨(some 4), none, (.p .mv), [(.t 20)], none⟩])
    (.keep [4] (.keep [4] .ret)))
    (.seq (.seq (.reg [⟨(some 22), none, (.p (.bin .eql)), [(.t 15), (.c (.str (bs [97, 99, 99, 101, 112, 116, 45, 108, 97, 110, 103, 117, 97, 103, 101])))], none⟩,
      ⟨(some 21), none, (.p .mv), [(.t 22)], none⟩])
    (.keep [1, 15, 21] (.cond (.t 21)
     .skip
     (.reg [⟨(some 23), none, (.p (.bin .eql)), [(.t 15), (.c (.str (bs [99, 111, 110, 116, 101, 110, 116, 45, 108, 97, 110, 103, 117, 97, 103, 101])))], none⟩,
       ⟨(some 21), none, (.p .mv), [(.t 23)], none⟩]))))
    (.keep [1, 15, 21] (.cond (.t 21)
     (.seq (.reg [⟨(some 24), none, (.p .mv), [(.t 1)], none⟩,
       ⟨(some 25), none, (.call 41), [(.t 24)], none⟩,
       ⟨(some 4), none, (.p .mv), [(.t 25)], none⟩])
     (.keep [4] (.keep [4] .ret)))
     (.seq (.reg [⟨(some 27), none, (.p (.bin .eql)), [(.t 15), (.c (.str (bs [99, 111, 110, 116, 101, 110, 116, 45, 116, 121, 112, 101])))], none⟩,
       ⟨(some 26), none, (.p .mv), [(.t 27)], none⟩])
     (.keep [1, 15, 26] (.cond (.t 26)
      (.seq (.reg [⟨(some 29), none, (.p .mv), [(.t 1)], none⟩,
        ⟨(some 30), none, (.call 37), [(.t 29), (.c (.str (bs [59])))], none⟩,
        ⟨(some 28), none, (.p .mv), [(.t 30)], none⟩,
        ⟨(some 31), none, (.p (.extract 0)), [(.t 28)], none⟩,
        ⟨(some 32), none, (.p (.extract 1)), [(.t 28)], none⟩,
        ⟨(some 33), none, (.p (.extract 2)), [(.t 28)], none⟩,
        ⟨(some 5), none, (.p .mv), [(.t 31)], none⟩,
        ⟨(some 6), none, (.p .mv), [(.t 32)], none⟩,
        ⟨(some 7), none, (.p .mv), [(.t 33)], none⟩])
      (.keep [1, 5] (.seq (.reg [⟨(some 34), none, (.p .mv), [(.t 5)], none⟩,
        ⟨(some 35), none, (.call 42), [(.t 34)], none⟩,
        ⟨(some 36), none, (.call 39), [(.t 35)], none⟩])
      (.keep [1, 36] (.block 1
       (.seq (.seq (.reg [⟨(some 38), none, (.p (.bin .eql)), [(.t 36), (.c (.str (bs [97, 112, 112, 108, 105, 99, 97, 116, 105, 111, 110, 47, 120, 45, 119, 119, 119, 45, 102, 111, 114, 109, 45, 117, 114, 108, 101, 110, 99, 111, 100, 101, 100])))], none⟩,
         ⟨(some 37), none, (.p .mv), [(.t 38)], none⟩])
       (.keep [1, 36, 37] (.cond (.t 37)
        .skip
        (.seq (.reg [⟨(some 39), none, (.p (.bin .eql)), [(.t 36), (.c (.str (bs [109, 117, 108, 116, 105, 112, 97, 114, 116, 47, 102, 111, 114, 109, 45, 100, 97, 116, 97])))], none⟩,
          ⟨(some 37), none, (.p .mv), [(.t 39)], none⟩])
        (.keep [1, 36, 37] (.cond (.t 37)
         .skip
         (.reg [⟨(some 40), none, (.p (.bin .eql)), [(.t 36), (.c (.str (bs [116, 101, 120, 116, 47, 112, 108, 97, 105, 110])))], none⟩,
           ⟨(some 37), none, (.p .mv), [(.t 40)], none⟩])))))))
       (.keep [1, 37] (.cond (.t 37)
        (.seq (.reg [⟨(some 41), none, (.p .mv), [(.t 1)], none⟩,
          ⟨(some 42), none, (.call 40), [(.t 41)], none⟩,
          ⟨(some 43), none, (.p (.un .not)), [(.t 42)], none⟩,
          ⟨(some 4), none, (.p .mv), [(.t 43)], none⟩])
        (.keep [4] (.keep [4] .ret)))
        .skip))))))))
      (.seq (.reg [⟨(some 45), none, (.p (.bin .eql)), [(.t 15), (.c (.str (bs [114, 97, 110, 103, 101])))], none⟩,
        ⟨(some 44), none, (.p .mv), [(.t 45)], none⟩])
      (.keep [1, 44] (.cond (.t 44)
       (.seq (.reg [⟨(some 47), none, (.p .mv), [(.t 1)], none⟩,
         ⟨(some 48), none, (.call 17), [(.t 47)], none⟩,
         ⟨(some 46), none, (.p .mv), [(.t 48)], none⟩,
         ⟨(some 49), none, (.p (.extract 0)), [(.t 46)], none⟩,
         ⟨(some 50), none, (.p (.extract 1)), [(.t 46)], none⟩,
         ⟨(some 51), none, (.p (.extract 2)), [(.t 46)], none⟩,
         ⟨(some 8), none, (.p .mv), [(.t 49)], none⟩,
         ⟨(some 9), none, (.p .mv), [(.t 50)], none⟩,
         ⟨(some 10), none, (.p .mv), [(.t 51)], none⟩])
       (.keep [8, 10] (.seq (.reg [⟨(some 52), none, (.p .mv), [(.t 10)], none⟩,
         ⟨(some 53), none, (.p .mv), [(.t 52)], none⟩,
         ⟨(some 54), some (53, true), (.p .mv), [(.t 8)], none⟩,
         ⟨(some 55), some (53, true), (.p (.bin .geq)), [(.t 54), (.c (.int .i64 (.ofNat 0)))], none⟩,
         ⟨(some 56), none, (.p .pick), [(.t 53), (.t 55), (.c (.bool false))], none⟩,
         ⟨(some 4), none, (.p .mv), [(.t 56)], none⟩])
       (.keep [4] (.keep [4] .ret)))))
       .skip)))))))))))))))
  (.keep [] (.seq (.reg [⟨(some 4), none, (.p .mv), [(.c (.bool false))], none⟩])
  (.keep [4] (.keep [4] .ret))))))))),
  [(.t 4)]⟩
def s_headers_Safe_j0 (call : CallK) (N : Nat) (q : KV) (st : St) (τ : Tape) : Ans :=
  match st with
  | ⟨fr, H⟩ =>
  q (.bool false) H τ
def s_headers_Safe_j2 (call : CallK) (N : Nat) (q : KV) (st : St) (τ : Tape) : Ans :=
  match st with
  | ⟨fr, H⟩ =>
  getK fr 1 fun t1 =>
  getK fr 37 fun t37 =>
  condK t37
    (call f_headers_unsafe [t1] H τ fun v28 H29 τ30 =>
  unK .not v28 fun v31 =>
  q v31 H29 τ30)
    (s_headers_Safe_j0 call N q ⟨(T.set (T.set .leaf 1 t1) 37 t37), H⟩ τ)
def s_headers_Safe_j1 (call : CallK) (N : Nat) (q : KV) (st : St) (τ : Tape) : Ans :=
  match st with
  | ⟨fr, H⟩ =>
  getK fr 1 fun t1 =>
  getK fr 15 fun t15 =>
  getK fr 21 fun t21 =>
  condK t21
    (call f_headers_tongues [t1] H τ fun v11 H12 τ13 =>
  q v11 H12 τ13)
    (binK .eql t15 (.str (bs [99, 111, 110, 116, 101, 110, 116, 45, 116, 121, 112, 101])) fun v14 =>
  condK v14
    (call f_strings_Cut [t1, (.str (bs [59]))] H τ fun v15 H16 τ17 =>
  someK (pExtract 0 [v15]) fun v18 =>
  someK (pExtract 1 [v15]) fun v19 =>
  someK (pExtract 2 [v15]) fun v20 =>
  call f_infra_Strip [v18] H16 τ17 fun v21 H22 τ23 =>
  call f_infra_Lower [v21] H22 τ23 fun v24 H25 τ26 =>
  binK .eql v24 (.str (bs [97, 112, 112, 108, 105, 99, 97, 116, 105, 111, 110, 47, 120, 45, 119, 119, 119, 45, 102, 111, 114, 109, 45, 117, 114, 108, 101, 110, 99, 111, 100, 101, 100])) fun v27 =>
  condK v27
    (s_headers_Safe_j2 call N q ⟨(T.set (T.set (T.set .leaf 1 t1) 36 v24) 37 v27), H25⟩ τ26)
    (binK .eql v24 (.str (bs [109, 117, 108, 116, 105, 112, 97, 114, 116, 47, 102, 111, 114, 109, 45, 100, 97, 116, 97])) fun v32 =>
  condK v32
    (s_headers_Safe_j2 call N q ⟨(T.set (T.set (T.set .leaf 1 t1) 36 v24) 37 v32), H25⟩ τ26)
    (binK .eql v24 (.str (bs [116, 101, 120, 116, 47, 112, 108, 97, 105, 110])) fun v33 =>
  s_headers_Safe_j2 call N q ⟨(T.set (T.set (T.set (T.set (T.set .leaf 1 t1) 36 v24) 37 v32) 40 v33) 37 v33), H25⟩ τ26)))
    (binK .eql t15 (.str (bs [114, 97, 110, 103, 101])) fun v34 =>
  condK v34
    (call f_headers_Range [t1] H τ fun v35 H36 τ37 =>
  someK (pExtract 0 [v35]) fun v38 =>
  someK (pExtract 1 [v35]) fun v39 =>
  someK (pExtract 2 [v35]) fun v40 =>
  gK v40 true (fun q' => q' v38 H36 τ37) H36 τ37 fun v41 H42 τ43 =>
  gK v40 true (fun q' => binK .geq v41 (.int .i64 (.ofNat 0)) fun v => q' v H42 τ43) H42 τ43 fun v44 H45 τ46 =>
  someK (pPick [v40, v44, (.bool false)]) fun v47 =>
  q v47 H45 τ46)
    (s_headers_Safe_j0 call N q ⟨(T.set (T.set .leaf 1 t1) 44 v34), H⟩ τ)))
def s_headers_Safe (call : CallK) (N : Nat) (a0 a1 : V) (H : Heap) (τ : Tape) (q : KV) : Ans :=
  someK (pLenS [a1]) fun v0 =>
  binK .gtr v0 (.int .i64 (.ofNat 128)) fun v1 =>
  condK v1
    (q (.bool false) H τ)
    (call f_infra_Lower [a0] H τ fun v2 H3 τ4 =>
  binK .eql v2 (.str (bs [97, 99, 99, 101, 112, 116])) fun v5 =>
  condK v5
    (call f_headers_unsafe [a1] H3 τ4 fun v6 H7 τ8 =>
  unK .not v6 fun v9 =>
  q v9 H7 τ8)
    (binK .eql v2 (.str (bs [97, 99, 99, 101, 112, 116, 45, 108, 97, 110, 103, 117, 97, 103, 101])) fun v10 =>
  condK v10
    (s_headers_Safe_j1 call N q ⟨(T.set (T.set (T.set .leaf 1 a1) 15 v2) 21 v10), H3⟩ τ4)
    (binK .eql v2 (.str (bs [99, 111, 110, 116, 101, 110, 116, 45, 108, 97, 110, 103, 117, 97, 103, 101])) fun v48 =>
  s_headers_Safe_j1 call N q ⟨(T.set (T.set (T.set (T.set (T.set .leaf 1 a1) 15 v2) 21 v10) 23 v48) 21 v48), H3⟩ τ4)))
theorem s_headers_Safe_eq (call : CallK) (N : Nat) (a0 a1 : V) (H : Heap) (τ : Tape) (q : KV) : s_headers_Safe call N a0 a1 H τ q = funK call N fn_headers_Safe [a0, a1] H τ q := by kernel_rfl
def e_headers_Safe (call : CallK) (N : Nat) (vs : List V) (H : Heap) (τ : Tape) (q : KV) : Ans := match vs with | [a0, a1] => s_headers_Safe call N a0 a1 H τ q | _ => none
theorem e_headers_Safe_ok : EntOk fn_headers_Safe e_headers_Safe := by
  intro call N vs H τ q r h
  unfold e_headers_Safe at h
  split at h
  · rw [s_headers_Safe_eq] at h; exact h
  · cases h
theorem e_headers_Safe_nat : EntNat e_headers_Safe := by
  intro c hn N vs H τ q
  unfold e_headers_Safe
  split
  · rw [s_headers_Safe_eq, s_headers_Safe_eq]; exact funK_ent hn _ _ _ _ _ _
  · rfl
/-- ostiary/headers.Add -/
def fn_headers_Add : Fun := ⟨3,
  (.seq (.reg [⟨(some 6), none, (.p .mv), [(.c .nils)], none⟩,
    ⟨(some 7), none, (.p .mv), [(.c (.int .i64 (.ofNat 0)))], none⟩])
  (.keep [0, 1, 2] (.seq (.reg [⟨(some 11), none, (.p .mv), [(.t 1)], none⟩,
    ⟨(some 12), none, (.p .mv), [(.t 2)], none⟩,
    ⟨(some 13), none, (.call 43), [(.t 11), (.t 12)], none⟩,
    ⟨(some 10), none, (.p .mv), [(.t 13)], none⟩,
    ⟨(some 14), none, (.p (.extract 0)), [(.t 10)], none⟩,
    ⟨(some 15), none, (.p (.extract 1)), [(.t 10)], none⟩,
    ⟨(some 8), none, (.p .mv), [(.t 14)], none⟩,
    ⟨(some 9), none, (.p .mv), [(.t 15)], none⟩])
  (.keep [0, 1, 8, 9] (.seq (.seq (.reg [⟨(some 16), none, (.p .mv), [(.t 9)], none⟩,
    ⟨(some 17), none, (.p (.bin .eql)), [(.t 16), (.c (.int .i64 (.ofNat 0)))], none⟩,
    ⟨(some 18), none, (.p .mv), [(.t 17)], none⟩,
    ⟨(some 19), some (18, true), (.p .mv), [(.t 0)], none⟩,
    ⟨(some 20), some (18, true), (.p .len), [(.t 19)], none⟩,
    ⟨(some 21), some (18, true), (.p (.bin .geq)), [(.t 20), (.c (.int .i64 (.ofNat 64)))], none⟩,
    ⟨(some 22), none, (.p .pick), [(.t 18), (.t 21), (.c (.bool false))], none⟩])
  (.keep [0, 1, 8, 9, 22] (.cond (.t 22)
   (.reg [⟨(some 9), none, (.p .mv), [(.c (.int .i64 (.ofNat 4)))], none⟩])
   .skip)))
  (.keep [0, 1, 8, 9] (.seq (.seq (.reg [⟨(some 23), none, (.p .mv), [(.t 9)], none⟩,
    ⟨(some 24), none, (.p (.bin .neq)), [(.t 23), (.c (.int .i64 (.ofNat 0)))], none⟩])
  (.keep [0, 1, 8, 9, 24] (.cond (.t 24)
   (.seq (.reg [⟨(some 25), none, (.p .mv), [(.t 9)], none⟩,
     ⟨(some 6), none, (.p .mv), [(.c .nils)], none⟩,
     ⟨(some 7), none, (.p .mv), [(.t 25)], none⟩])
   (.keep [6, 7] (.keep [6, 7] .ret)))
   .skip)))
  (.keep [0, 1, 8] (.seq (.reg [⟨(some 26), none, (.p .mv), [(.t 0)], none⟩,
    ⟨(some 27), none, (.call 44), [(.t 26)], none⟩,
    ⟨(some 28), none, (.p .mv), [(.t 1)], none⟩,
    ⟨(some 29), none, (.p .mv), [(.t 8)], none⟩,
    ⟨(some 30), none, (.p (.build [(.str []), (.str [])] [(0, 1), (1, 1)])), [(.t 28), (.t 29)], none⟩,
    ⟨(some 31), none, (.e (.buildSlice 1 2 [(.str []), (.str [])] [(0, 2)])), [(.t 30)], none⟩,
    ⟨(some 32), none, (.e (.append 2 32)), [(.t 27), (.t 31)], none⟩,
    ⟨(some 6), none, (.p .mv), [(.t 32)], none⟩,
    ⟨(some 7), none, (.p .mv), [(.c (.int .i64 (.ofNat 0)))], none⟩])
  (.keep [6, 7] (.keep [6, 7] .ret))))))))))),
  [(.t 6), (.t 7)]⟩
def s_headers_Add_j0 (call : CallK) (N : Nat) (q : KV) (st : St) (τ : Tape) : Ans :=
  match st with
  | ⟨fr, H⟩ =>
  getK fr 0 fun t0 =>
  getK fr 1 fun t1 =>
  getK fr 8 fun t8 =>
  getK fr 9 fun t9 =>
  binK .neq t9 (.int .i64 (.ofNat 0)) fun v16 =>
  condK v16
    (q (.tup [.nils, t9]) H τ)
    (call f_slices_Clone_Header [t0] H τ fun v17 H18 τ19 =>
  someK (pBuild [(.str []), (.str [])] [(0, 1), (1, 1)] [t1, t8]) fun v20 =>
  effK (eBuildSlice 1 2 [(.str []), (.str [])] [(0, 2)] [v20] H18 τ19) fun v21 H22 τ23 =>
  effK (eAppend 2 32 [v17, v21] H22 τ23) fun v24 H25 τ26 =>
  q (.tup [v24, (.int .i64 (.ofNat 0))]) H25 τ26)
def s_headers_Add (call : CallK) (N : Nat) (a0 a1 a2 : V) (H : Heap) (τ : Tape) (q : KV) : Ans :=
  call f_headers_may [a1, a2] H τ fun v0 H1 τ2 =>
  someK (pExtract 0 [v0]) fun v3 =>
  someK (pExtract 1 [v0]) fun v4 =>
  binK .eql v4 (.int .i64 (.ofNat 0)) fun v5 =>
  gK v5 true (fun q' => q' a0 H1 τ2) H1 τ2 fun v6 H7 τ8 =>
  gK v5 true (fun q' => someK (pLen [v6]) fun v => q' v H7 τ8) H7 τ8 fun v9 H10 τ11 =>
  gK v5 true (fun q' => binK .geq v9 (.int .i64 (.ofNat 64)) fun v => q' v H10 τ11) H10 τ11 fun v12 H13 τ14 =>
  someK (pPick [v5, v12, (.bool false)]) fun v15 =>
  condK v15
    (s_headers_Add_j0 call N q ⟨(T.set (T.set (T.set (T.set (T.set (T.set .leaf 0 a0) 1 a1) 8 v3) 9 v4) 22 v15) 9 (.int .i64 (.ofNat 4))), H13⟩ τ14)
    (s_headers_Add_j0 call N q ⟨(T.set (T.set (T.set (T.set (T.set .leaf 0 a0) 1 a1) 8 v3) 9 v4) 22 v15), H13⟩ τ14)
theorem s_headers_Add_eq (call : CallK) (N : Nat) (a0 a1 a2 : V) (H : Heap) (τ : Tape) (q : KV) : s_headers_Add call N a0 a1 a2 H τ q = funK call N fn_headers_Add [a0, a1, a2] H τ q := by kernel_rfl
def e_headers_Add (call : CallK) (N : Nat) (vs : List V) (H : Heap) (τ : Tape) (q : KV) : Ans := match vs with | [a0, a1, a2] => s_headers_Add call N a0 a1 a2 H τ q | _ => none
theorem e_headers_Add_ok : EntOk fn_headers_Add e_headers_Add := by
  intro call N vs H τ q r h
  unfold e_headers_Add at h
  split at h
  · rw [s_headers_Add_eq] at h; exact h
  · cases h
theorem e_headers_Add_nat : EntNat e_headers_Add := by
  intro c hn N vs H τ q
  unfold e_headers_Add
  split
  · rw [s_headers_Add_eq, s_headers_Add_eq]; exact funK_ent hn _ _ _ _ _ _
  · rfl
/-- ostiary/headers.Get -/
def fn_headers_Get : Fun := ⟨2,
  (.seq (.reg [⟨(some 4), none, (.p .mv), [(.c (.str []))], none⟩,
    ⟨(some 5), none, (.p .mv), [(.c (.bool false))], none⟩])
  (.keep [0, 1] (.seq (.reg [⟨(some 6), none, (.p .mv), [(.c .nils)], none⟩])
  (.keep [0, 1, 6] (.seq (.seq (.reg [⟨(some 9), none, (.p .mv), [(.t 0)], none⟩,
    ⟨(some 10), none, (.p .len), [(.t 9)], none⟩,
    ⟨(some 11), none, (.p .mv), [(.c (.int .i64 (.ofNat 0)))], none⟩])
  (.keep [1, 6, 9, 10, 11] (.block 0
   (.loop
    (.keep [1, 6, 9, 10, 11] (.seq (.reg [⟨(some 12), none, (.p (.bin .lss)), [(.t 11), (.t 10)], none⟩])
    (.keep [1, 6, 9, 10, 11, 12] (.seq (.cond (.t 12)
     .skip
     (.keep [6] (.exit 0)))
    (.keep [1, 6, 9, 10, 11] (.seq (.block 1
     (.seq (.reg [⟨(some 13), none, (.p (.slIdx 2)), [(.t 9), (.t 11)], none⟩,
       ⟨(some 14), none, (.l (.load (some 2))), [(.t 13)], none⟩,
       ⟨(some 8), none, (.e (.alloc [(.str []), (.str [])])), [], none⟩,
       ⟨none, none, (.e (.store 2)), [(.t 8), (.t 14)], none⟩])
     (.keep [1, 6, 8, 9, 10, 11] (.seq (.reg [⟨(some 15), none, (.l (.load (some 2))), [(.t 8)], none⟩,
       ⟨(some 16), none, (.p .mv), [(.t 1)], none⟩,
       ⟨(some 17), none, (.call 45), [(.t 15), (.t 16)], none⟩])
     (.keep [1, 6, 8, 9, 10, 11, 17] (.cond (.t 17)
      (.reg [⟨(some 18), none, (.p .mv), [(.t 6)], none⟩,
        ⟨(some 19), none, (.p (.fieldAddr 1)), [(.t 8)], none⟩,
        ⟨(some 20), none, (.l (.load none)), [(.t 19)], none⟩,
        ⟨(some 21), none, (.e (.buildSlice 1 1 [(.str [])] [(0, 1)])), [(.t 20)], none⟩,
        ⟨(some 22), none, (.e (.append 1 16)), [(.t 18), (.t 21)], none⟩,
        ⟨(some 6), none, (.p .mv), [(.t 22)], none⟩])
      .skip))))))
    (.keep [1, 6, 9, 10, 11] (.reg [⟨(some 23), none, (.p (.bin .add)), [(.t 11), (.c (.int .i64 (.ofNat 1)))], none⟩,
      ⟨(some 11), none, (.p .mv), [(.t 23)], none⟩]))))))))))))
  (.keep [6] (.seq (.reg [⟨(some 24), none, (.p .mv), [(.t 6)], none⟩,
    ⟨(some 25), none, (.call 46), [(.t 24), (.c (.str (bs [44, 32])))], none⟩,
    ⟨(some 26), none, (.p .mv), [(.t 6)], none⟩,
    ⟨(some 27), none, (.p .len), [(.t 26)], none⟩,
    ⟨(some 28), none, (.p (.bin .gtr)), [(.t 27), (.c (.int .i64 (.ofNat 0)))], none⟩,
    ⟨(some 4), none, (.p .mv), [(.t 25)], none⟩,
    ⟨(some 5), none, (.p .mv), [(.t 28)], none⟩])
  (.keep [4, 5] (.keep [4, 5] .ret))))))))),
  [(.t 4), (.t 5)]⟩
def s_headers_Get_j0 (call : CallK) (N : Nat) (q : KV) (st : St) (τ : Tape) : Ans :=
  match st with
  | ⟨fr, H⟩ =>
  getK fr 6 fun t6 =>
  call f_strings_Join [t6, (.str (bs [44, 32]))] H τ fun v1 H2 τ3 =>
  someK (pLen [t6]) fun v4 =>
  binK .gtr v4 (.int .i64 (.ofNat 0)) fun v5 =>
  q (.tup [v1, v5]) H2 τ3
def s_headers_Get_j2 (call : CallK) (N : Nat) (k : KC) (st : St) (τ : Tape) : Ans :=
  match st with
  | ⟨fr, H⟩ =>
  getK fr 1 fun t1 =>
  getK fr 6 fun t6 =>
  getK fr 9 fun t9 =>
  getK fr 10 fun t10 =>
  getK fr 11 fun t11 =>
  binK .add t11 (.int .i64 (.ofNat 1)) fun v7 =>
  k .normal ⟨(T.set (T.set (T.set (T.set (T.set (T.set (T.set .leaf 1 t1) 6 t6) 9 t9) 10 t10) 11 t11) 23 v7) 11 v7), H⟩ τ
def s_headers_Get_l1 (call : CallK) (N : Nat) (st : St) (τ : Tape) (k : KC) : Ans :=
  match st with
  | ⟨fr, H⟩ =>
  getK fr 1 fun t1 =>
  getK fr 6 fun t6 =>
  getK fr 9 fun t9 =>
  getK fr 10 fun t10 =>
  getK fr 11 fun t11 =>
  binK .lss t11 t10 fun v6 =>
  condK v6
    (someK (pSlIdx 2 [t9, t11]) fun v8 =>
  someK (lLoadN 2 [v8] H) fun v9 =>
  effK (eAlloc [(.str []), (.str [])] [] H τ) fun v10 H11 τ12 =>
  effK (eStore 2 [v10, v9] H11 τ12) fun v13 H14 τ15 =>
  someK (lLoadN 2 [v10] H14) fun v16 =>
  call f_headers_is [v16, t1] H14 τ15 fun v17 H18 τ19 =>
  condK v17
    (someK (pFieldAddr 1 [v10]) fun v20 =>
  someK (lLoad1 [v20] H18) fun v21 =>
  effK (eBuildSlice 1 1 [(.str [])] [(0, 1)] [v21] H18 τ19) fun v22 H23 τ24 =>
  effK (eAppend 1 16 [t6, v22] H23 τ24) fun v25 H26 τ27 =>
  s_headers_Get_j2 call N k ⟨(T.set (T.set (T.set (T.set (T.set (T.set (T.set (T.set (T.set (T.set (T.set (T.set (T.set .leaf 1 t1) 6 t6) 8 v10) 9 t9) 10 t10) 11 t11) 17 v17) 18 t6) 19 v20) 20 v21) 21 v22) 22 v25) 6 v25), H26⟩ τ27)
    (s_headers_Get_j2 call N k ⟨(T.set (T.set (T.set (T.set (T.set (T.set (T.set .leaf 1 t1) 6 t6) 8 v10) 9 t9) 10 t10) 11 t11) 17 v17), H18⟩ τ19))
    (k (.exit 0) ⟨(T.set .leaf 6 t6), H⟩ τ)
def s_headers_Get (call : CallK) (N : Nat) (a0 a1 : V) (H : Heap) (τ : Tape) (q : KV) : Ans :=
  someK (pLen [a0]) fun v0 =>
  loopK (s_headers_Get_l1 call N) N ⟨(T.set (T.set (T.set (T.set (T.set .leaf 1 a1) 6 .nils) 9 a0) 10 v0) 11 (.int .i64 (.ofNat 0))), H⟩ τ (blockK 0 (seqK (s_headers_Get_j0 call N q) (endK [(.t 4), (.t 5)] q)))
theorem s_headers_Get_eq (call : CallK) (N : Nat) (a0 a1 : V) (H : Heap) (τ : Tape) (q : KV) : s_headers_Get call N a0 a1 H τ q = funK call N fn_headers_Get [a0, a1] H τ q := by kernel_rfl
def e_headers_Get (call : CallK) (N : Nat) (vs : List V) (H : Heap) (τ : Tape) (q : KV) : Ans := match vs with | [a0, a1] => s_headers_Get call N a0 a1 H τ q | _ => none
theorem e_headers_Get_ok : EntOk fn_headers_Get e_headers_Get := by
  intro call N vs H τ q r h
  unfold e_headers_Get at h
  split at h
  · rw [s_headers_Get_eq] at h; exact h
  · cases h
theorem e_headers_Get_nat : EntNat e_headers_Get := by
  intro c hn N vs H τ q
  unfold e_headers_Get
  split
  · rw [s_headers_Get_eq, s_headers_Get_eq]; exact funK_ent hn _ _ _ _ _ _
  · rfl
/-- ostiary/headers.Drop -/
def fn_headers_Drop : Fun := ⟨2,
  (.seq (.reg [⟨(some 3), none, (.e .box), [(.t 1)], none⟩,
    ⟨(some 4), none, (.p .mv), [(.c .nils)], none⟩])
  (.keep [0, 3] (.seq (.reg [⟨(some 5), none, (.p .mv), [(.t 0)], none⟩,
    ⟨(some 6), none, (.call 44), [(.t 5)], none⟩,
    ⟨(some 7), none, (.p (.mkFunc 48 0)), [(.t 3)], none⟩,
    ⟨(some 8), none, (.call 47), [(.t 6), (.t 7)], none⟩,
    ⟨(some 4), none, (.p .mv), [(.t 8)], none⟩])
  (.keep [4] (.keep [4] .ret))))),
  [(.t 4)]⟩
def s_headers_Drop (call : CallK) (N : Nat) (a0 a1 : V) (H : Heap) (τ : Tape) (q : KV) : Ans :=
  effK (eBox [a1] H τ) fun v0 H1 τ2 =>
  call f_slices_Clone_Header [a0] H1 τ2 fun v3 H4 τ5 =>
  someK (some (V.func f_headers_Drop_1 (List.take 0 [v0]) (List.drop 0 [v0]))) fun v6 =>
  call f_slices_DeleteFunc_Header [v3, v6] H4 τ5 fun v7 H8 τ9 =>
  q v7 H8 τ9
theorem s_headers_Drop_eq (call : CallK) (N : Nat) (a0 a1 : V) (H : Heap) (τ : Tape) (q : KV) : s_headers_Drop call N a0 a1 H τ q = funK call N fn_headers_Drop [a0, a1] H τ q := by kernel_rfl
def e_headers_Drop (call : CallK) (N : Nat) (vs : List V) (H : Heap) (τ : Tape) (q : KV) : Ans := match vs with | [a0, a1] => s_headers_Drop call N a0 a1 H τ q | _ => none
theorem e_headers_Drop_ok : EntOk fn_headers_Drop e_headers_Drop := by
  intro call N vs H τ q r h
  unfold e_headers_Drop at h
  split at h
  · rw [s_headers_Drop_eq] at h; exact h
  · cases h
theorem e_headers_Drop_nat : EntNat e_headers_Drop := by
  intro c hn N vs H τ q
  unfold e_headers_Drop
  split
  · rw [s_headers_Drop_eq, s_headers_Drop_eq]; exact funK_ent hn _ _ _ _ _ _
  · rfl
/-- ostiary/headers.Set -/
def fn_headers_Set : Fun := ⟨3,
  (.seq (.reg [⟨(some 4), none, (.e .box), [(.t 1)], none⟩,
    ⟨(some 6), none, (.p .mv), [(.c .nils)], none⟩,
    ⟨(some 7), none, (.p .mv), [(.c (.int .i64 (.ofNat 0)))], none⟩])
  (.keep [0, 2, 4] (.seq (.reg [⟨(some 14), none, (.p .mv), [(.t 0)], none⟩,
    ⟨(some 15), none, (.p (.mkFunc 50 0)), [(.t 4)], none⟩,
    ⟨(some 16), none, (.call 49), [(.t 14), (.t 15)], none⟩,
    ⟨(some 8), none, (.p .mv), [(.t 16)], none⟩])
  (.keep [0, 2, 4, 8] (.seq (.seq (.reg [⟨(some 17), none, (.p .mv), [(.t 8)], none⟩,
    ⟨(some 18), none, (.p (.bin .lss)), [(.t 17), (.c (.int .i64 (.ofNat 0)))], none⟩])
  (.keep [0, 2, 4, 8, 18] (.cond (.t 18)
   (.seq (.reg [⟨(some 19), none, (.p .mv), [(.t 0)], none⟩,
     ⟨(some 20), none, (.l (.load none)), [(.t 4)], none⟩,
     ⟨(some 21), none, (.p .mv), [(.t 2)], none⟩,
     ⟨(some 22), none, (.call 19), [(.t 19), (.t 20), (.t 21)], none⟩,
     ⟨(some 23), none, (.p (.extract 0)), [(.t 22)], none⟩,
     ⟨(some 24), none, (.p (.extract 1)), [(.t 22)], none⟩,
     ⟨(some 6), none, (.p .mv), [(.t 23)], none⟩,
     ⟨(some 7), none, (.p .mv), [(.t 24)], none⟩])
   (.keep [6, 7] (.keep [6, 7] .ret)))
   .skip)))
  (.keep [0, 2, 4, 8] (.seq (.reg [⟨(some 26), none, (.l (.load none)), [(.t 4)], none⟩,
    ⟨(some 27), none, (.p .mv), [(.t 2)], none⟩,
    ⟨(some 28), none, (.call 43), [(.t 26), (.t 27)], none⟩,
    ⟨(some 25), none, (.p .mv), [(.t 28)], none⟩,
    ⟨(some 29), none, (.p (.extract 0)), [(.t 25)], none⟩,
    ⟨(some 30), none, (.p (.extract 1)), [(.t 25)], none⟩,
    ⟨(some 9), none, (.p .mv), [(.t 29)], none⟩,
    ⟨(some 10), none, (.p .mv), [(.t 30)], none⟩])
  (.keep [0, 4, 8, 9, 10] (.seq (.seq (.reg [⟨(some 31), none, (.p .mv), [(.t 10)], none⟩,
    ⟨(some 32), none, (.p (.bin .neq)), [(.t 31), (.c (.int .i64 (.ofNat 0)))], none⟩])
  (.keep [0, 4, 8, 9, 10, 32] (.cond (.t 32)
   (.seq (.reg [⟨(some 33), none, (.p .mv), [(.t 10)], none⟩,
     ⟨(some 6), none, (.p .mv), [(.c .nils)], none⟩,
     ⟨(some 7), none, (.p .mv), [(.t 33)], none⟩])
   (.keep [6, 7] (.keep [6, 7] .ret)))
   .skip)))
  (.keep [0, 4, 8, 9] (.seq (.reg [⟨(some 11), none, (.p .mv), [(.c .nils)], none⟩])
  (.keep [0, 4, 8, 9, 11] (.seq (.seq (.reg [⟨(some 34), none, (.p .mv), [(.t 0)], none⟩,
    ⟨(some 35), none, (.p .len), [(.t 34)], none⟩,
    ⟨(some 36), none, (.p .mv), [(.c (.int .i64 (.ofNat 0)))], none⟩])
  (.keep [4, 8, 9, 11, 34, 35, 36] (.block 0
   (.loop
    (.keep [4, 8, 9, 11, 34, 35, 36] (.seq (.reg [⟨(some 37), none, (.p (.bin .lss)), [(.t 36), (.t 35)], none⟩])
    (.keep [4, 8, 9, 11, 34, 35, 36, 37] (.seq (.cond (.t 37)
     .skip
     (.keep [11] (.exit 0)))
    (.keep [4, 8, 9, 11, 34, 35, 36] (.seq (.block 1
     (.seq (.reg [⟨(some 38), none, (.p .mv), [(.t 36)], none⟩,
       ⟨(some 39), none, (.p (.slIdx 2)), [(.t 34), (.t 36)], none⟩,
       ⟨(some 40), none, (.l (.load (some 2))), [(.t 39)], none⟩,
       ⟨(some 13), none, (.e (.alloc [(.str []), (.str [])])), [], none⟩,
       ⟨(some 12), none, (.p .mv), [(.t 38)], none⟩,
       ⟨none, none, (.e (.store 2)), [(.t 13), (.t 40)], none⟩])
     (.keep [4, 8, 9, 11, 12, 13, 34, 35, 36] (.block 2
      (.seq (.reg [⟨(some 42), none, (.p .mv), [(.t 12)], none⟩,
        ⟨(some 43), none, (.p .mv), [(.t 8)], none⟩,
        ⟨(some 44), none, (.p (.bin .eql)), [(.t 42), (.t 43)], none⟩,
        ⟨(some 41), none, (.p .mv), [(.t 44)], none⟩])
      (.keep [4, 8, 9, 11, 13, 34, 35, 36, 41] (.cond (.t 41)
       (.reg [⟨(some 45), none, (.p .mv), [(.t 11)], none⟩,
         ⟨(some 46), none, (.p (.fieldAddr 0)), [(.t 13)], none⟩,
         ⟨(some 47), none, (.l (.load none)), [(.t 46)], none⟩,
         ⟨(some 48), none, (.p .mv), [(.t 9)], none⟩,
         ⟨(some 49), none, (.p (.build [(.str []), (.str [])] [(0, 1), (1, 1)])), [(.t 47), (.t 48)], none⟩,
         ⟨(some 50), none, (.e (.buildSlice 1 2 [(.str []), (.str [])] [(0, 2)])), [(.t 49)], none⟩,
         ⟨(some 51), none, (.e (.append 2 32)), [(.t 45), (.t 50)], none⟩,
         ⟨(some 11), none, (.p .mv), [(.t 51)], none⟩])
       (.seq (.reg [⟨(some 53), none, (.l (.load (some 2))), [(.t 13)], none⟩,
         ⟨(some 54), none, (.l (.load none)), [(.t 4)], none⟩,
         ⟨(some 55), none, (.call 45), [(.t 53), (.t 54)], none⟩,
         ⟨(some 56), none, (.p (.un .not)), [(.t 55)], none⟩,
         ⟨(some 52), none, (.p .mv), [(.t 56)], none⟩])
       (.keep [4, 8, 9, 11, 13, 34, 35, 36, 52] (.cond (.t 52)
        (.reg [⟨(some 57), none, (.p .mv), [(.t 11)], none⟩,
          ⟨(some 58), none, (.l (.load (some 2))), [(.t 13)], none⟩,
          ⟨(some 59), none, (.e (.buildSlice 1 2 [(.str []), (.str [])] [(0, 2)])), [(.t 58)], none⟩,
          ⟨(some 60), none, (.e (.append 2 32)), [(.t 57), (.t 59)], none⟩,
          ⟨(some 11), none, (.p .mv), [(.t 60)], none⟩])
        .skip))))))))))
    (.keep [4, 8, 9, 11, 34, 35, 36] (.reg [⟨(some 61), none, (.p (.bin .add)), [(.t 36), (.c (.int .i64 (.ofNat 1)))], none⟩,
      ⟨(some 36), none, (.p .mv), [(.t 61)], none⟩]))))))))))))
  (.keep [11] (.seq (.reg [⟨(some 62), none, (.p .mv), [(.t 11)], none⟩,
    ⟨(some 6), none, (.p .mv), [(.t 62)], none⟩,
    ⟨(some 7), none, (.p .mv), [(.c (.int .i64 (.ofNat 0)))], none⟩])
  (.keep [6, 7] (.keep [6, 7] .ret))))))))))))))))),
  [(.t 6), (.t 7)]⟩
def s_headers_Set_j0 (call : CallK) (N : Nat) (q : KV) (st : St) (τ : Tape) : Ans :=
  match st with
  | ⟨fr, H⟩ =>
  getK fr 11 fun t11 =>
  q (.tup [t11, (.int .i64 (.ofNat 0))]) H τ
def s_headers_Set_j2 (call : CallK) (N : Nat) (k : KC) (st : St) (τ : Tape) : Ans :=
  match st with
  | ⟨fr, H⟩ =>
  getK fr 4 fun t4 =>
  getK fr 8 fun t8 =>
  getK fr 9 fun t9 =>
  getK fr 11 fun t11 =>
  getK fr 34 fun t34 =>
  getK fr 35 fun t35 =>
  getK fr 36 fun t36 =>
  binK .add t36 (.int .i64 (.ofNat 1)) fun v23 =>
  k .normal ⟨(T.set (T.set (T.set (T.set (T.set (T.set (T.set (T.set (T.set .leaf 4 t4) 8 t8) 9 t9) 11 t11) 34 t34) 35 t35) 36 t36) 61 v23) 36 v23), H⟩ τ
def s_headers_Set_l1 (call : CallK) (N : Nat) (st : St) (τ : Tape) (k : KC) : Ans :=
  match st with
  | ⟨fr, H⟩ =>
  getK fr 4 fun t4 =>
  getK fr 8 fun t8 =>
  getK fr 9 fun t9 =>
  getK fr 11 fun t11 =>
  getK fr 34 fun t34 =>
  getK fr 35 fun t35 =>
  getK fr 36 fun t36 =>
  binK .lss t36 t35 fun v22 =>
  condK v22
    (someK (pSlIdx 2 [t34, t36]) fun v24 =>
  someK (lLoadN 2 [v24] H) fun v25 =>
  effK (eAlloc [(.str []), (.str [])] [] H τ) fun v26 H27 τ28 =>
  effK (eStore 2 [v26, v25] H27 τ28) fun v29 H30 τ31 =>
  binK .eql t36 t8 fun v32 =>
  condK v32
    (someK (pFieldAddr 0 [v26]) fun v33 =>
  someK (lLoad1 [v33] H30) fun v34 =>
  someK (pBuild [(.str []), (.str [])] [(0, 1), (1, 1)] [v34, t9]) fun v35 =>
  effK (eBuildSlice 1 2 [(.str []), (.str [])] [(0, 2)] [v35] H30 τ31) fun v36 H37 τ38 =>
  effK (eAppend 2 32 [t11, v36] H37 τ38) fun v39 H40 τ41 =>
  s_headers_Set_j2 call N k ⟨(T.set (T.set (T.set (T.set (T.set (T.set (T.set (T.set (T.set (T.set (T.set (T.set (T.set (T.set (T.set (T.set (T.set .leaf 4 t4) 8 t8) 9 t9) 11 t11) 13 v26) 34 t34) 35 t35) 36 t36) 41 v32) 45 t11) 46 v33) 47 v34) 48 t9) 49 v35) 50 v36) 51 v39) 11 v39), H40⟩ τ41)
    (someK (lLoadN 2 [v26] H30) fun v42 =>
  someK (lLoad1 [t4] H30) fun v43 =>
  call f_headers_is [v42, v43] H30 τ31 fun v44 H45 τ46 =>
  unK .not v44 fun v47 =>
  condK v47
    (someK (lLoadN 2 [v26] H45) fun v48 =>
  effK (eBuildSlice 1 2 [(.str []), (.str [])] [(0, 2)] [v48] H45 τ46) fun v49 H50 τ51 =>
  effK (eAppend 2 32 [t11, v49] H50 τ51) fun v52 H53 τ54 =>
  s_headers_Set_j2 call N k ⟨(T.set (T.set (T.set (T.set (T.set (T.set (T.set (T.set (T.set (T.set (T.set (T.set (T.set (T.set .leaf 4 t4) 8 t8) 9 t9) 11 t11) 13 v26) 34 t34) 35 t35) 36 t36) 52 v47) 57 t11) 58 v48) 59 v49) 60 v52) 11 v52), H53⟩ τ54)
    (s_headers_Set_j2 call N k ⟨(T.set (T.set (T.set (T.set (T.set (T.set (T.set (T.set (T.set .leaf 4 t4) 8 t8) 9 t9) 11 t11) 13 v26) 34 t34) 35 t35) 36 t36) 52 v47), H45⟩ τ46)))
    (k (.exit 0) ⟨(T.set .leaf 11 t11), H⟩ τ)
def s_headers_Set (call : CallK) (N : Nat) (a0 a1 a2 : V) (H : Heap) (τ : Tape) (q : KV) : Ans :=
  effK (eBox [a1] H τ) fun v0 H1 τ2 =>
  someK (some (V.func f_headers_Set_1 (List.take 0 [v0]) (List.drop 0 [v0]))) fun v3 =>
  call f_slices_IndexFunc_Header [a0, v3] H1 τ2 fun v4 H5 τ6 =>
  binK .lss v4 (.int .i64 (.ofNat 0)) fun v7 =>
  condK v7
    (someK (lLoad1 [v0] H5) fun v8 =>
  call f_headers_Add [a0, v8, a2] H5 τ6 fun v9 H10 τ11 =>
  someK (pExtract 0 [v9]) fun v12 =>
  someK (pExtract 1 [v9]) fun v13 =>
  q (.tup [v12, v13]) H10 τ11)
    (someK (lLoad1 [v0] H5) fun v14 =>
  call f_headers_may [v14, a2] H5 τ6 fun v15 H16 τ17 =>
  someK (pExtract 0 [v15]) fun v18 =>
  someK (pExtract 1 [v15]) fun v19 =>
  binK .neq v19 (.int .i64 (.ofNat 0)) fun v20 =>
  condK v20
    (q (.tup [.nils, v19]) H16 τ17)
    (someK (pLen [a0]) fun v21 =>
  loopK (s_headers_Set_l1 call N) N ⟨(T.set (T.set (T.set (T.set (T.set (T.set (T.set .leaf 4 v0) 8 v4) 9 v18) 11 .nils) 34 a0) 35 v21) 36 (.int .i64 (.ofNat 0))), H16⟩ τ17 (blockK 0 (seqK (s_headers_Set_j0 call N q) (endK [(.t 6), (.t 7)] q)))))
theorem s_headers_Set_eq (call : CallK) (N : Nat) (a0 a1 a2 : V) (H : Heap) (τ : Tape) (q : KV) : s_headers_Set call N a0 a1 a2 H τ q = funK call N fn_headers_Set [a0, a1, a2] H τ q := by kernel_rfl
def e_headers_Set (call : CallK) (N : Nat) (vs : List V) (H : Heap) (τ : Tape) (q : KV) : Ans := match vs with | [a0, a1, a2] => s_headers_Set call N a0 a1 a2 H τ q | _ => none
theorem e_headers_Set_ok : EntOk fn_headers_Set e_headers_Set := by
  intro call N vs H τ q r h
  unfold e_headers_Set at h
  split at h
  · rw [s_headers_Set_eq] at h; exact h
  · cases h
theorem e_headers_Set_nat : EntNat e_headers_Set := by
  intro c hn N vs H τ q
  unfold e_headers_Set
  split
  · rw [s_headers_Set_eq, s_headers_Set_eq]; exact funK_ent hn _ _ _ _ _ _
  · rfl
/-- ostiary/ostiarybook.Same[ostiary/api.Header] -/
def fn_book_Same_Header : Fun := ⟨2,
  (.seq (.reg [⟨(some 4), none, (.p .mv), [(.c (.bool false))], none⟩])
  (.keep [0, 1] (.seq (.seq (.reg [⟨(some 6), none, (.p .mv), [(.t 0)], none⟩,
    ⟨(some 7), none, (.p .len), [(.t 6)], none⟩,
    ⟨(some 8), none, (.p .mv), [(.t 1)], none⟩,
    ⟨(some 9), none, (.p .len), [(.t 8)], none⟩,
    ⟨(some 10), none, (.p (.bin .neq)), [(.t 7), (.t 9)], none⟩])
  (.keep [0, 1, 10] (.cond (.t 10)
   (.seq (.reg [⟨(some 4), none, (.p .mv), [(.c (.bool false))], none⟩])
   (.keep [4] (.keep [4] .ret)))
   .skip)))
  (.keep [0, 1] (.seq (.seq (.reg [⟨(some 5), none, (.p .mv), [(.c (.int .i64 (.ofNat 0)))], none⟩])
  (.keep [0, 1, 5] (.block 0
   (.loop
    (.keep [0, 1, 5] (.seq (.seq (.reg [⟨(some 11), none, (.p .mv), [(.t 5)], none⟩,
      ⟨(some 12), none, (.p .mv), [(.t 0)], none⟩,
      ⟨(some 13), none, (.p .len), [(.t 12)], none⟩,
      ⟨(some 14), none, (.p (.bin .lss)), [(.t 11), (.t 13)], none⟩])
    (.keep [0, 1, 5, 14] (.cond (.t 14)
     .skip
     (.keep [] (.exit 0)))))
    (.keep [0, 1, 5] (.seq (.block 1
     (.seq (.draw [⟨(some 17), none, (.p .mv), [(.t 0)], none⟩,
       ⟨(some 18), none, (.p .mv), [(.t 5)], none⟩,
       ⟨(some 19), none, (.p (.slIdx 2)), [(.t 17), (.t 18)], none⟩,
       ⟨(some 20), none, (.l (.load (some 2))), [(.t 19)], none⟩,
       ⟨(some 21), none, (.p .mv), [(.t 1)], none⟩,
       ⟨(some 22), none, (.p .mv), [(.t 5)], none⟩,
       ⟨(some 23), none, (.p (.slIdx 2)), [(.t 21), (.t 22)], none⟩,
       ⟨(some 24), none, (.l (.load (some 2))), [(.t 23)], none⟩,
       ⟨(some 25), none, (.p (.eq true (.flat [.str, .str]))), [(.t 20), (.t 24)], none⟩])
     (.keep [0, 1, 5, 25] (.cond (.t 25)
      (.seq (.reg [⟨(some 4), none, (.p .mv), [(.c (.bool false))], none⟩])
      (.keep [4] (.keep [4] .ret)))
      .skip))))
    (.keep [0, 1, 5] (.reg [⟨(some 15), none, (.p .mv), [(.t 5)], none⟩,
      ⟨(some 16), none, (.p (.bin .add)), [(.t 15), (.c (.int .i64 (.ofNat 1)))], none⟩,
      ⟨(some 5), none, (.p .mv), [(.t 16)], none⟩]))))))))))
  (.keep [] (.seq (.reg [⟨(some 4), none, (.p .mv), [(.c (.bool true))], none⟩])
  (.keep [4] (.keep [4] .ret))))))))),
  [(.t 4)]⟩
def s_book_Same_Header_j0 (call : CallK) (N : Nat) (q : KV) (st : St) (τ : Tape) : Ans :=
  match st with
  | ⟨fr, H⟩ =>
  q (.bool true) H τ
def s_book_Same_Header_l1 (call : CallK) (N : Nat) (st : St) (τ : Tape) (k : KC) : Ans :=
  match st with
  | ⟨fr, H⟩ =>
  getK fr 0 fun t0 =>
  getK fr 1 fun t1 =>
  getK fr 5 fun t5 =>
  someK (pLen [t0]) fun v3 =>
  binK .lss t5 v3 fun v4 =>
  condK v4
    (someK (pSlIdx 2 [t0, t5]) fun v5 =>
  someK (lLoadN 2 [v5] H) fun v6 =>
  someK (pSlIdx 2 [t1, t5]) fun v7 =>
  someK (lLoadN 2 [v7] H) fun v8 =>
  someK (pEq true (.flat [.str, .str]) [v6, v8]) fun v9 =>
  condK v9
    (k .ret ⟨(T.set .leaf 4 (.bool false)), H⟩ τ)
    (binK .add t5 (.int .i64 (.ofNat 1)) fun v10 =>
  k .normal ⟨(T.set (T.set (T.set (T.set (T.set (T.set .leaf 0 t0) 1 t1) 5 t5) 15 t5) 16 v10) 5 v10), H⟩ τ))
    (k (.exit 0) ⟨.leaf, H⟩ τ)
def s_book_Same_Header (call : CallK) (N : Nat) (a0 a1 : V) (H : Heap) (τ : Tape) (q : KV) : Ans :=
  someK (pLen [a0]) fun v0 =>
  someK (pLen [a1]) fun v1 =>
  binK .neq v0 v1 fun v2 =>
  condK v2
    (q (.bool false) H τ)
    (loopK (s_book_Same_Header_l1 call N) N ⟨(T.set (T.set (T.set .leaf 0 a0) 1 a1) 5 (.int .i64 (.ofNat 0))), H⟩ τ (blockK 0 (seqK (s_book_Same_Header_j0 call N q) (endK [(.t 4)] q))))
theorem s_book_Same_Header_eq (call : CallK) (N : Nat) (a0 a1 : V) (H : Heap) (τ : Tape) (q : KV) : s_book_Same_Header call N a0 a1 H τ q = funK call N fn_book_Same_Header [a0, a1] H τ q := by kernel_rfl
def e_book_Same_Header (call : CallK) (N : Nat) (vs : List V) (H : Heap) (τ : Tape) (q : KV) : Ans := match vs with | [a0, a1] => s_book_Same_Header call N a0 a1 H τ q | _ => none
theorem e_book_Same_Header_ok : EntOk fn_book_Same_Header e_book_Same_Header := by
  intro call N vs H τ q r h
  unfold e_book_Same_Header at h
  split at h
  · rw [s_book_Same_Header_eq] at h; exact h
  · cases h
theorem e_book_Same_Header_nat : EntNat e_book_Same_Header := by
  intro c hn N vs H τ q
  unfold e_book_Same_Header
  split
  · rw [s_book_Same_Header_eq, s_book_Same_Header_eq]; exact funK_ent hn _ _ _ _ _ _
  · rfl
/-- ostiary/ostiarybook.Roomy[ostiary/api.Header] -/
def fn_book_Roomy_Header : Fun := ⟨2,
  (.seq (.reg [⟨(some 3), none, (.e .box), [(.t 1)], none⟩,
    ⟨(some 4), none, (.p .mv), [(.c .nils)], none⟩])
  (.keep [0, 3] (.seq (.reg [⟨(some 7), none, (.p .mv), [(.t 0)], none⟩,
    ⟨(some 8), none, (.p .len), [(.t 7)], none⟩,
    ⟨(some 9), none, (.p (.bin .add)), [(.t 8), (.c (.int .i64 (.ofNat 80)))], none⟩,
    ⟨(some 10), none, (.e (.makeSlice 2 32 [(.str []), (.str [])])), [(.t 9), (.t 9)], none⟩,
    ⟨(some 5), none, (.p .mv), [(.t 10)], none⟩])
  (.keep [0, 3, 5] (.seq (.reg [⟨(some 11), none, (.p .mv), [(.t 5)], none⟩,
    ⟨(some 12), none, (.p .mv), [(.t 0)], none⟩,
    ⟨(some 13), none, (.e (.copy 2)), [(.t 11), (.t 12)], none⟩])
  (.keep [0, 3, 5] (.seq (.seq (.reg [⟨(some 14), none, (.p .mv), [(.t 0)], none⟩,
    ⟨(some 15), none, (.p .len), [(.t 14)], none⟩,
    ⟨(some 6), none, (.p .mv), [(.t 15)], none⟩])
  (.keep [3, 5, 6] (.block 0
   (.loop
    (.keep [3, 5, 6] (.seq (.seq (.reg [⟨(some 16), none, (.p .mv), [(.t 6)], none⟩,
      ⟨(some 17), none, (.p .mv), [(.t 5)], none⟩,
      ⟨(some 18), none, (.p .len), [(.t 17)], none⟩,
      ⟨(some 19), none, (.p (.bin .lss)), [(.t 16), (.t 18)], none⟩])
    (.keep [3, 5, 6, 19] (.cond (.t 19)
     .skip
     (.keep [5] (.exit 0)))))
    (.keep [3, 5, 6] (.seq (.block 1
     (.reg [⟨(some 22), none, (.p .mv), [(.t 5)], none⟩,
       ⟨(some 23), none, (.p .mv), [(.t 6)], none⟩,
       ⟨(some 24), none, (.l (.load (some 2))), [(.t 3)], none⟩,
       ⟨(some 25), none, (.p (.slIdx 2)), [(.t 22), (.t 23)], none⟩,
       ⟨none, none, (.e (.store 2)), [(.t 25), (.t 24)], none⟩]))
    (.keep [3, 5, 6] (.reg [⟨(some 20), none, (.p .mv), [(.t 6)], none⟩,
      ⟨(some 21), none, (.p (.bin .add)), [(.t 20), (.c (.int .i64 (.ofNat 1)))], none⟩,
      ⟨(some 6), none, (.p .mv), [(.t 21)], none⟩]))))))))))
  (.keep [5] (.seq (.reg [⟨(some 26), none, (.p .mv), [(.t 5)], none⟩,
    ⟨(some 4), none, (.p .mv), [(.t 26)], none⟩])
  (.keep [4] (.keep [4] .ret))))))))))),
  [(.t 4)]⟩
def s_book_Roomy_Header_j0 (call : CallK) (N : Nat) (q : KV) (st : St) (τ : Tape) : Ans :=
  match st with
  | ⟨fr, H⟩ =>
  getK fr 5 fun t5 =>
  q t5 H τ
def s_book_Roomy_Header_l1 (call : CallK) (N : Nat) (st : St) (τ : Tape) (k : KC) : Ans :=
  match st with
  | ⟨fr, H⟩ =>
  getK fr 3 fun t3 =>
  getK fr 5 fun t5 =>
  getK fr 6 fun t6 =>
  someK (pLen [t5]) fun v12 =>
  binK .lss t6 v12 fun v13 =>
  condK v13
    (someK (lLoadN 2 [t3] H) fun v14 =>
  someK (pSlIdx 2 [t5, t6]) fun v15 =>
  effK (eStore 2 [v15, v14] H τ) fun v16 H17 τ18 =>
  binK .add t6 (.int .i64 (.ofNat 1)) fun v19 =>
  k .normal ⟨(T.set (T.set (T.set (T.set (T.set (T.set .leaf 3 t3) 5 t5) 6 t6) 20 t6) 21 v19) 6 v19), H17⟩ τ18)
    (k (.exit 0) ⟨(T.set .leaf 5 t5), H⟩ τ)
def s_book_Roomy_Header (call : CallK) (N : Nat) (a0 a1 : V) (H : Heap) (τ : Tape) (q : KV) : Ans :=
  effK (eBox [a1] H τ) fun v0 H1 τ2 =>
  someK (pLen [a0]) fun v3 =>
  binK .add v3 (.int .i64 (.ofNat 80)) fun v4 =>
  effK (eMakeSlice 2 32 [(.str []), (.str [])] [v4, v4] H1 τ2) fun v5 H6 τ7 =>
  effK (eCopy 2 [v5, a0] H6 τ7) fun v8 H9 τ10 =>
  someK (pLen [a0]) fun v11 =>
  loopK (s_book_Roomy_Header_l1 call N) N ⟨(T.set (T.set (T.set .leaf 3 v0) 5 v5) 6 v11), H9⟩ τ10 (blockK 0 (seqK (s_book_Roomy_Header_j0 call N q) (endK [(.t 4)] q)))
theorem s_book_Roomy_Header_eq (call : CallK) (N : Nat) (a0 a1 : V) (H : Heap) (τ : Tape) (q : KV) : s_book_Roomy_Header call N a0 a1 H τ q = funK call N fn_book_Roomy_Header [a0, a1] H τ q := by kernel_rfl
def e_book_Roomy_Header (call : CallK) (N : Nat) (vs : List V) (H : Heap) (τ : Tape) (q : KV) : Ans := match vs with | [a0, a1] => s_book_Roomy_Header call N a0 a1 H τ q | _ => none
theorem e_book_Roomy_Header_ok : EntOk fn_book_Roomy_Header e_book_Roomy_Header := by
  intro call N vs H τ q r h
  unfold e_book_Roomy_Header at h
  split at h
  · rw [s_book_Roomy_Header_eq] at h; exact h
  · cases h
theorem e_book_Roomy_Header_nat : EntNat e_book_Roomy_Header := by
  intro c hn N vs H τ q
  unfold e_book_Roomy_Header
  split
  · rw [s_book_Roomy_Header_eq, s_book_Roomy_Header_eq]; exact funK_ent hn _ _ _ _ _ _
  · rfl
/-- ostiary/ostiaryref5.Add -/
def fn_ref5_Add : Fun := ⟨3,
  (.seq (.reg [⟨(some 6), none, (.p .mv), [(.c .nils)], none⟩,
    ⟨(some 7), none, (.p .mv), [(.c (.int .i64 (.ofNat 0)))], none⟩])
  (.keep [0, 1, 2] (.seq (.reg [⟨(some 11), none, (.p .mv), [(.t 1)], none⟩,
    ⟨(some 12), none, (.p .mv), [(.t 2)], none⟩,
    ⟨(some 13), none, (.call 52), [(.t 11), (.t 12)], none⟩,
    ⟨(some 10), none, (.p .mv), [(.t 13)], none⟩,
    ⟨(some 14), none, (.p (.extract 0)), [(.t 10)], none⟩,
    ⟨(some 15), none, (.p (.extract 1)), [(.t 10)], none⟩,
    ⟨(some 8), none, (.p .mv), [(.t 14)], none⟩,
    ⟨(some 9), none, (.p .mv), [(.t 15)], none⟩])
  (.keep [0, 1, 8, 9] (.seq (.seq (.reg [⟨(some 16), none, (.p .mv), [(.t 9)], none⟩,
    ⟨(some 17), none, (.p (.bin .neq)), [(.t 16), (.c (.int .i64 (.ofNat 0)))], none⟩])
  (.keep [0, 1, 8, 9, 17] (.cond (.t 17)
   (.seq (.reg [⟨(some 18), none, (.p .mv), [(.t 9)], none⟩,
     ⟨(some 6), none, (.p .mv), [(.c .nils)], none⟩,
     ⟨(some 7), none, (.p .mv), [(.t 18)], none⟩])
   (.keep [6, 7] (.keep [6, 7] .ret)))
   .skip)))
  (.keep [0, 1, 8] (.seq (.seq (.reg [⟨(some 19), none, (.p .mv), [(.t 0)], none⟩,
    ⟨(some 20), none, (.p .len), [(.t 19)], none⟩,
    ⟨(some 21), none, (.p (.bin .geq)), [(.t 20), (.c (.int .i64 (.ofNat 64)))], none⟩])
  (.keep [0, 1, 8, 21] (.cond (.t 21)
   (.seq (.reg [⟨(some 6), none, (.p .mv), [(.c .nils)], none⟩,
     ⟨(some 7), none, (.p .mv), [(.c (.int .i64 (.ofNat 4)))], none⟩])
   (.keep [6, 7] (.keep [6, 7] .ret)))
   .skip)))
  (.keep [0, 1, 8] (.seq (.reg [⟨(some 22), none, (.e (.buildSlice 0 2 [] [])), [], none⟩,
    ⟨(some 23), none, (.p .mv), [(.t 0)], none⟩,
    ⟨(some 24), none, (.e (.append 2 32)), [(.t 22), (.t 23)], none⟩,
    ⟨(some 25), none, (.p .mv), [(.t 1)], none⟩,
    ⟨(some 26), none, (.p .mv), [(.t 8)], none⟩,
    ⟨(some 27), none, (.p (.build [(.str []), (.str [])] [(0, 1), (1, 1)])), [(.t 25), (.t 26)], none⟩,
    ⟨(some 28), none, (.e (.buildSlice 1 2 [(.str []), (.str [])] [(0, 2)])), [(.t 27)], none⟩,
    ⟨(some 29), none, (.e (.append 2 32)), [(.t 24), (.t 28)], none⟩,
    ⟨(some 6), none, (.p .mv), [(.t 29)], none⟩,
    ⟨(some 7), none, (.p .mv), [(.c (.int .i64 (.ofNat 0)))], none⟩])
  (.keep [6, 7] (.keep [6, 7] .ret))))))))))),
  [(.t 6), (.t 7)]⟩
def s_ref5_Add (call : CallK) (N : Nat) (a0 a1 a2 : V) (H : Heap) (τ : Tape) (q : KV) : Ans :=
  call f_ref5_fits [a1, a2] H τ fun v0 H1 τ2 =>
  someK (pExtract 0 [v0]) fun v3 =>
  someK (pExtract 1 [v0]) fun v4 =>
  binK .neq v4 (.int .i64 (.ofNat 0)) fun v5 =>
  condK v5
    (q (.tup [.nils, v4]) H1 τ2)
    (someK (pLen [a0]) fun v6 =>
  binK .geq v6 (.int .i64 (.ofNat 64)) fun v7 =>
  condK v7
    (q (.tup [.nils, (.int .i64 (.ofNat 4))]) H1 τ2)
    (effK (eBuildSlice 0 2 [] [] [] H1 τ2) fun v8 H9 τ10 =>
  effK (eAppend 2 32 [v8, a0] H9 τ10) fun v11 H12 τ13 =>
  someK (pBuild [(.str []), (.str [])] [(0, 1), (1, 1)] [a1, v3]) fun v14 =>
  effK (eBuildSlice 1 2 [(.str []), (.str [])] [(0, 2)] [v14] H12 τ13) fun v15 H16 τ17 =>
  effK (eAppend 2 32 [v11, v15] H16 τ17) fun v18 H19 τ20 =>
  q (.tup [v18, (.int .i64 (.ofNat 0))]) H19 τ20))
theorem s_ref5_Add_eq (call : CallK) (N : Nat) (a0 a1 a2 : V) (H : Heap) (τ : Tape) (q : KV) : s_ref5_Add call N a0 a1 a2 H τ q = funK call N fn_ref5_Add [a0, a1, a2] H τ q := by kernel_rfl
def e_ref5_Add (call : CallK) (N : Nat) (vs : List V) (H : Heap) (τ : Tape) (q : KV) : Ans := match vs with | [a0, a1, a2] => s_ref5_Add call N a0 a1 a2 H τ q | _ => none
theorem e_ref5_Add_ok : EntOk fn_ref5_Add e_ref5_Add := by
  intro call N vs H τ q r h
  unfold e_ref5_Add at h
  split at h
  · rw [s_ref5_Add_eq] at h; exact h
  · cases h
theorem e_ref5_Add_nat : EntNat e_ref5_Add := by
  intro c hn N vs H τ q
  unfold e_ref5_Add
  split
  · rw [s_ref5_Add_eq, s_ref5_Add_eq]; exact funK_ent hn _ _ _ _ _ _
  · rfl
/-- ostiary/ostiaryref5.Set -/
def fn_ref5_Set : Fun := ⟨3,
  (.seq (.reg [⟨(some 6), none, (.p .mv), [(.c .nils)], none⟩,
    ⟨(some 7), none, (.p .mv), [(.c (.int .i64 (.ofNat 0)))], none⟩])
  (.keep [0, 1, 2] (.seq (.reg [⟨(some 14), none, (.p .mv), [(.t 1)], none⟩,
    ⟨(some 15), none, (.p .mv), [(.t 2)], none⟩,
    ⟨(some 16), none, (.call 52), [(.t 14), (.t 15)], none⟩,
    ⟨(some 13), none, (.p .mv), [(.t 16)], none⟩,
    ⟨(some 17), none, (.p (.extract 0)), [(.t 13)], none⟩,
    ⟨(some 18), none, (.p (.extract 1)), [(.t 13)], none⟩,
    ⟨(some 8), none, (.p .mv), [(.t 17)], none⟩,
    ⟨(some 9), none, (.p .mv), [(.t 18)], none⟩])
  (.keep [0, 1, 2, 8, 9] (.seq (.seq (.reg [⟨(some 19), none, (.p .mv), [(.t 9)], none⟩,
    ⟨(some 20), none, (.p (.bin .neq)), [(.t 19), (.c (.int .i64 (.ofNat 0)))], none⟩])
  (.keep [0, 1, 2, 8, 9, 20] (.cond (.t 20)
   (.seq (.reg [⟨(some 21), none, (.p .mv), [(.t 9)], none⟩,
     ⟨(some 6), none, (.p .mv), [(.c .nils)], none⟩,
     ⟨(some 7), none, (.p .mv), [(.t 21)], none⟩])
   (.keep [6, 7] (.keep [6, 7] .ret)))
   .skip)))
  (.keep [0, 1, 2, 8] (.seq (.reg [⟨(some 10), none, (.p .mv), [(.c .nils)], none⟩])
  (.keep [0, 1, 2, 8, 10] (.seq (.reg [⟨(some 11), none, (.p .mv), [(.c (.bool false))], none⟩])
  (.keep [0, 1, 2, 8, 10, 11] (.seq (.seq (.reg [⟨(some 12), none, (.p .mv), [(.c (.int .i64 (.ofNat 0)))], none⟩])
  (.keep [0, 1, 2, 8, 10, 11, 12] (.block 0
   (.loop
    (.keep [0, 1, 2, 8, 10, 11, 12] (.seq (.seq (.reg [⟨(some 22), none, (.p .mv), [(.t 12)], none⟩,
      ⟨(some 23), none, (.p .mv), [(.t 0)], none⟩,
      ⟨(some 24), none, (.p .len), [(.t 23)], none⟩,
      ⟨(some 25), none, (.p (.bin .lss)), [(.t 22), (.t 24)], none⟩])
    (.keep [0, 1, 2, 8, 10, 11, 12, 25] (.cond (.t 25)
     .skip
     (.keep [0, 1, 2, 10, 11] (.exit 0)))))
    (.keep [0, 1, 2, 8, 10, 11, 12] (.seq (.block 1
     (.seq (.reg [⟨(some 28), none, (.p .mv), [(.t 0)], none⟩,
       ⟨(some 29), none, (.p .mv), [(.t 12)], none⟩,
       ⟨(some 30), none, (.p (.slIdx 2)), [(.t 28), (.t 29)], none⟩,
       ⟨(some 31), none, (.l (.load (some 2))), [(.t 30)], none⟩,
       ⟨(some 32), none, (.p .mv), [(.t 1)], none⟩,
       ⟨(some 33), none, (.call 33), [(.t 31), (.t 32)], none⟩,
       ⟨(some 34), none, (.p (.un .not)), [(.t 33)], none⟩])
     (.keep [0, 1, 2, 8, 10, 11, 12, 34] (.cond (.t 34)
      (.reg [⟨(some 35), none, (.p .mv), [(.t 10)], none⟩,
        ⟨(some 36), none, (.p .mv), [(.t 0)], none⟩,
        ⟨(some 37), none, (.p .mv), [(.t 12)], none⟩,
        ⟨(some 38), none, (.p (.slIdx 2)), [(.t 36), (.t 37)], none⟩,
        ⟨(some 39), none, (.l (.load (some 2))), [(.t 38)], none⟩,
        ⟨(some 40), none, (.e (.buildSlice 1 2 [(.str []), (.str [])] [(0, 2)])), [(.t 39)], none⟩,
        ⟨(some 41), none, (.e (.append 2 32)), [(.t 35), (.t 40)], none⟩,
        ⟨(some 10), none, (.p .mv), [(.t 41)], none⟩])
      (.seq (.reg [⟨(some 42), none, (.p .mv), [(.t 11)], none⟩,
        ⟨(some 43), none, (.p (.un .not)), [(.t 42)], none⟩])
      (.keep [0, 1, 2, 8, 10, 11, 12, 43] (.cond (.t 43)
       (.seq (.reg [⟨(some 44), none, (.p .mv), [(.t 10)], none⟩,
         ⟨(some 45), none, (.p .mv), [(.t 0)], none⟩,
         ⟨(some 46), none, (.p .mv), [(.t 12)], none⟩,
         ⟨(some 47), none, (.p (.slIdx 2)), [(.t 45), (.t 46)], none⟩,
         ⟨(some 48), none, (.p (.fieldAddr 0)), [(.t 47)], none⟩,
         ⟨(some 49), none, (.l (.load none)), [(.t 48)], none⟩,
         ⟨(some 50), none, (.p .mv), [(.t 8)], none⟩,
         ⟨(some 51), none, (.p (.build [(.str []), (.str [])] [(0, 1), (1, 1)])), [(.t 49), (.t 50)], none⟩,
         ⟨(some 52), none, (.e (.buildSlice 1 2 [(.str []), (.str [])] [(0, 2)])), [(.t 51)], none⟩,
         ⟨(some 53), none, (.e (.append 2 32)), [(.t 44), (.t 52)], none⟩,
         ⟨(some 10), none, (.p .mv), [(.t 53)], none⟩])
       (.keep [0, 1, 2, 8, 10, 12] (.reg [⟨(some 11), none, (.p .mv), [(.c (.bool true))], none⟩])))
       .skip)))))))
    (.keep [0, 1, 2, 8, 10, 11, 12] (.reg [⟨(some 26), none, (.p .mv), [(.t 12)], none⟩,
      ⟨(some 27), none, (.p (.bin .add)), [(.t 26), (.c (.int .i64 (.ofNat 1)))], none⟩,
      ⟨(some 12), none, (.p .mv), [(.t 27)], none⟩]))))))))))
  (.keep [0, 1, 2, 10, 11] (.seq (.seq (.reg [⟨(some 54), none, (.p .mv), [(.t 11)], none⟩])
  (.keep [0, 1, 2, 10, 54] (.cond (.t 54)
   (.seq (.reg [⟨(some 55), none, (.p .mv), [(.t 10)], none⟩,
     ⟨(some 6), none, (.p .mv), [(.t 55)], none⟩,
     ⟨(some 7), none, (.p .mv), [(.c (.int .i64 (.ofNat 0)))], none⟩])
   (.keep [6, 7] (.keep [6, 7] .ret)))
   .skip)))
  (.keep [0, 1, 2] (.seq (.reg [⟨(some 56), none, (.p .mv), [(.t 0)], none⟩,
    ⟨(some 57), none, (.p .mv), [(.t 1)], none⟩,
    ⟨(some 58), none, (.p .mv), [(.t 2)], none⟩,
    ⟨(some 59), none, (.call 27), [(.t 56), (.t 57), (.t 58)], none⟩,
    ⟨(some 60), none, (.p (.extract 0)), [(.t 59)], none⟩,
    ⟨(some 61), none, (.p (.extract 1)), [(.t 59)], none⟩,
    ⟨(some 6), none, (.p .mv), [(.t 60)], none⟩,
    ⟨(some 7), none, (.p .mv), [(.t 61)], none⟩])
  (.keep [6, 7] (.keep [6, 7] .ret))))))))))))))))),
  [(.t 6), (.t 7)]⟩
def s_ref5_Set_j0 (call : CallK) (N : Nat) (q : KV) (st : St) (τ : Tape) : Ans :=
  match st with
  | ⟨fr, H⟩ =>
  getK fr 0 fun t0 =>
  getK fr 1 fun t1 =>
  getK fr 2 fun t2 =>
  getK fr 10 fun t10 =>
  getK fr 11 fun t11 =>
  condK t11
    (q (.tup [t10, (.int .i64 (.ofNat 0))]) H τ)
    (call f_ref5_Add [t0, t1, t2] H τ fun v6 H7 τ8 =>
  someK (pExtract 0 [v6]) fun v9 =>
  someK (pExtract 1 [v6]) fun v10 =>
  q (.tup [v9, v10]) H7 τ8)
def s_ref5_Set_j2 (call : CallK) (N : Nat) (k : KC) (st : St) (τ : Tape) : Ans :=
  match st with
  | ⟨fr, H⟩ =>
  getK fr 0 fun t0 =>
  getK fr 1 fun t1 =>
  getK fr 2 fun t2 =>
  getK fr 8 fun t8 =>
  getK fr 10 fun t10 =>
  getK fr 11 fun t11 =>
  getK fr 12 fun t12 =>
  binK .add t12 (.int .i64 (.ofNat 1)) fun v13 =>
  k .normal ⟨(T.set (T.set (T.set (T.set (T.set (T.set (T.set (T.set (T.set (T.set .leaf 0 t0) 1 t1) 2 t2) 8 t8) 10 t10) 11 t11) 12 t12) 26 t12) 27 v13) 12 v13), H⟩ τ
def s_ref5_Set_l1 (call : CallK) (N : Nat) (st : St) (τ : Tape) (k : KC) : Ans :=
  match st with
  | ⟨fr, H⟩ =>
  getK fr 0 fun t0 =>
  getK fr 1 fun t1 =>
  getK fr 2 fun t2 =>
  getK fr 8 fun t8 =>
  getK fr 10 fun t10 =>
  getK fr 11 fun t11 =>
  getK fr 12 fun t12 =>
  someK (pLen [t0]) fun v11 =>
  binK .lss t12 v11 fun v12 =>
  condK v12
    (someK (pSlIdx 2 [t0, t12]) fun v14 =>
  someK (lLoadN 2 [v14] H) fun v15 =>
  call f_ref5_Named [v15, t1] H τ fun v16 H17 τ18 =>
  unK .not v16 fun v19 =>
  condK v19
    (someK (pSlIdx 2 [t0, t12]) fun v20 =>
  someK (lLoadN 2 [v20] H17) fun v21 =>
  effK (eBuildSlice 1 2 [(.str []), (.str [])] [(0, 2)] [v21] H17 τ18) fun v22 H23 τ24 =>
  effK (eAppend 2 32 [t10, v22] H23 τ24) fun v25 H26 τ27 =>
  s_ref5_Set_j2 call N k ⟨(T.set (T.set (T.set (T.set (T.set (T.set (T.set (T.set (T.set (T.set (T.set (T.set (T.set (T.set (T.set (T.set .leaf 0 t0) 1 t1) 2 t2) 8 t8) 10 t10) 11 t11) 12 t12) 34 v19) 35 t10) 36 t0) 37 t12) 38 v20) 39 v21) 40 v22) 41 v25) 10 v25), H26⟩ τ27)
    (unK .not t11 fun v28 =>
  condK v28
    (someK (pSlIdx 2 [t0, t12]) fun v29 =>
  someK (pFieldAddr 0 [v29]) fun v30 =>
  someK (lLoad1 [v30] H17) fun v31 =>
  someK (pBuild [(.str []), (.str [])] [(0, 1), (1, 1)] [v31, t8]) fun v32 =>
  effK (eBuildSlice 1 2 [(.str []), (.str [])] [(0, 2)] [v32] H17 τ18) fun v33 H34 τ35 =>
  effK (eAppend 2 32 [t10, v33] H34 τ35) fun v36 H37 τ38 =>
  s_ref5_Set_j2 call N k ⟨(T.set (T.set (T.set (T.set (T.set (T.set (T.set .leaf 0 t0) 1 t1) 2 t2) 8 t8) 10 v36) 12 t12) 11 (.bool true)), H37⟩ τ38)
    (s_ref5_Set_j2 call N k ⟨(T.set (T.set (T.set (T.set (T.set (T.set (T.set (T.set .leaf 0 t0) 1 t1) 2 t2) 8 t8) 10 t10) 11 t11) 12 t12) 43 v28), H17⟩ τ18)))
    (k (.exit 0) ⟨(T.set (T.set (T.set (T.set (T.set .leaf 0 t0) 1 t1) 2 t2) 10 t10) 11 t11), H⟩ τ)
def s_ref5_Set (call : CallK) (N : Nat) (a0 a1 a2 : V) (H : Heap) (τ : Tape) (q : KV) : Ans :=
  call f_ref5_fits [a1, a2] H τ fun v0 H1 τ2 =>
  someK (pExtract 0 [v0]) fun v3 =>
  someK (pExtract 1 [v0]) fun v4 =>
  binK .neq v4 (.int .i64 (.ofNat 0)) fun v5 =>
  condK v5
    (q (.tup [.nils, v4]) H1 τ2)
    (loopK (s_ref5_Set_l1 call N) N ⟨(T.set (T.set (T.set (T.set (T.set (T.set (T.set .leaf 0 a0) 1 a1) 2 a2) 8 v3) 10 .nils) 11 (.bool false)) 12 (.int .i64 (.ofNat 0))), H1⟩ τ2 (blockK 0 (seqK (s_ref5_Set_j0 call N q) (endK [(.t 6), (.t 7)] q))))
theorem s_ref5_Set_eq (call : CallK) (N : Nat) (a0 a1 a2 : V) (H : Heap) (τ : Tape) (q : KV) : s_ref5_Set call N a0 a1 a2 H τ q = funK call N fn_ref5_Set [a0, a1, a2] H τ q := by kernel_rfl
def e_ref5_Set (call : CallK) (N : Nat) (vs : List V) (H : Heap) (τ : Tape) (q : KV) : Ans := match vs with | [a0, a1, a2] => s_ref5_Set call N a0 a1 a2 H τ q | _ => none
theorem e_ref5_Set_ok : EntOk fn_ref5_Set e_ref5_Set := by
  intro call N vs H τ q r h
  unfold e_ref5_Set at h
  split at h
  · rw [s_ref5_Set_eq] at h; exact h
  · cases h
theorem e_ref5_Set_nat : EntNat e_ref5_Set := by
  intro c hn N vs H τ q
  unfold e_ref5_Set
  split
  · rw [s_ref5_Set_eq, s_ref5_Set_eq]; exact funK_ent hn _ _ _ _ _ _
  · rfl
/-- ostiary/ostiaryref5.Drop -/
def fn_ref5_Drop : Fun := ⟨2,
  (.seq (.reg [⟨(some 4), none, (.p .mv), [(.c .nils)], none⟩])
  (.keep [0, 1] (.seq (.reg [⟨(some 5), none, (.p .mv), [(.c .nils)], none⟩])
  (.keep [0, 1, 5] (.seq (.seq (.reg [⟨(some 6), none, (.p .mv), [(.c (.int .i64 (.ofNat 0)))], none⟩])
  (.keep [0, 1, 5, 6] (.block 0
   (.loop
    (.keep [0, 1, 5, 6] (.seq (.seq (.reg [⟨(some 7), none, (.p .mv), [(.t 6)], none⟩,
      ⟨(some 8), none, (.p .mv), [(.t 0)], none⟩,
      ⟨(some 9), none, (.p .len), [(.t 8)], none⟩,
      ⟨(some 10), none, (.p (.bin .lss)), [(.t 7), (.t 9)], none⟩])
    (.keep [0, 1, 5, 6, 10] (.cond (.t 10)
     .skip
     (.keep [5] (.exit 0)))))
    (.keep [0, 1, 5, 6] (.seq (.block 1
     (.seq (.reg [⟨(some 13), none, (.p .mv), [(.t 0)], none⟩,
       ⟨(some 14), none, (.p .mv), [(.t 6)], none⟩,
       ⟨(some 15), none, (.p (.slIdx 2)), [(.t 13), (.t 14)], none⟩,
       ⟨(some 16), none, (.l (.load (some 2))), [(.t 15)], none⟩,
       ⟨(some 17), none, (.p .mv), [(.t 1)], none⟩,
       ⟨(some 18), none, (.call 33), [(.t 16), (.t 17)], none⟩,
       ⟨(some 19), none, (.p (.un .not)), [(.t 18)], none⟩])
     (.keep [0, 1, 5, 6, 19] (.cond (.t 19)
      (.reg [⟨(some 20), none, (.p .mv), [(.t 5)], none⟩,
        ⟨(some 21), none, (.p .mv), [(.t 0)], none⟩,
        ⟨(some 22), none, (.p .mv), [(.t 6)], none⟩,
        ⟨(some 23), none, (.p (.slIdx 2)), [(.t 21), (.t 22)], none⟩,
        ⟨(some 24), none, (.l (.load (some 2))), [(.t 23)], none⟩,
        ⟨(some 25), none, (.e (.buildSlice 1 2 [(.str []), (.str [])] [(0, 2)])), [(.t 24)], none⟩,
        ⟨(some 26), none, (.e (.append 2 32)), [(.t 20), (.t 25)], none⟩,
        ⟨(some 5), none, (.p .mv), [(.t 26)], none⟩])
      .skip))))
    (.keep [0, 1, 5, 6] (.reg [⟨(some 11), none, (.p .mv), [(.t 6)], none⟩,
      ⟨(some 12), none, (.p (.bin .add)), [(.t 11), (.c (.int .i64 (.ofNat 1)))], none⟩,
      ⟨(some 6), none, (.p .mv), [(.t 12)], none⟩]))))))))))
  (.keep [5] (.seq (.reg [⟨(some 27), none, (.p .mv), [(.t 5)], none⟩,
    ⟨(some 4), none, (.p .mv), [(.t 27)], none⟩])
  (.keep [4] (.keep [4] .ret))))))))),
  [(.t 4)]⟩
def s_ref5_Drop_j0 (call : CallK) (N : Nat) (q : KV) (st : St) (τ : Tape) : Ans :=
  match st with
  | ⟨fr, H⟩ =>
  getK fr 5 fun t5 =>
  q t5 H τ
def s_ref5_Drop_j2 (call : CallK) (N : Nat) (k : KC) (st : St) (τ : Tape) : Ans :=
  match st with
  | ⟨fr, H⟩ =>
  getK fr 0 fun t0 =>
  getK fr 1 fun t1 =>
  getK fr 5 fun t5 =>
  getK fr 6 fun t6 =>
  binK .add t6 (.int .i64 (.ofNat 1)) fun v2 =>
  k .normal ⟨(T.set (T.set (T.set (T.set (T.set (T.set (T.set .leaf 0 t0) 1 t1) 5 t5) 6 t6) 11 t6) 12 v2) 6 v2), H⟩ τ
def s_ref5_Drop_l1 (call : CallK) (N : Nat) (st : St) (τ : Tape) (k : KC) : Ans :=
  match st with
  | ⟨fr, H⟩ =>
  getK fr 0 fun t0 =>
  getK fr 1 fun t1 =>
  getK fr 5 fun t5 =>
  getK fr 6 fun t6 =>
  someK (pLen [t0]) fun v0 =>
  binK .lss t6 v0 fun v1 =>
  condK v1
    (someK (pSlIdx 2 [t0, t6]) fun v3 =>
  someK (lLoadN 2 [v3] H) fun v4 =>
  call f_ref5_Named [v4, t1] H τ fun v5 H6 τ7 =>
  unK .not v5 fun v8 =>
  condK v8
    (someK (pSlIdx 2 [t0, t6]) fun v9 =>
  someK (lLoadN 2 [v9] H6) fun v10 =>
  effK (eBuildSlice 1 2 [(.str []), (.str [])] [(0, 2)] [v10] H6 τ7) fun v11 H12 τ13 =>
  effK (eAppend 2 32 [t5, v11] H12 τ13) fun v14 H15 τ16 =>
  s_ref5_Drop_j2 call N k ⟨(T.set (T.set (T.set (T.set (T.set (T.set (T.set (T.set (T.set (T.set (T.set (T.set (T.set .leaf 0 t0) 1 t1) 5 t5) 6 t6) 19 v8) 20 t5) 21 t0) 22 t6) 23 v9) 24 v10) 25 v11) 26 v14) 5 v14), H15⟩ τ16)
    (s_ref5_Drop_j2 call N k ⟨(T.set (T.set (T.set (T.set (T.set .leaf 0 t0) 1 t1) 5 t5) 6 t6) 19 v8), H6⟩ τ7))
    (k (.exit 0) ⟨(T.set .leaf 5 t5), H⟩ τ)
def s_ref5_Drop (call : CallK) (N : Nat) (a0 a1 : V) (H : Heap) (τ : Tape) (q : KV) : Ans :=
  loopK (s_ref5_Drop_l1 call N) N ⟨(T.set (T.set (T.set (T.set .leaf 0 a0) 1 a1) 5 .nils) 6 (.int .i64 (.ofNat 0))), H⟩ τ (blockK 0 (seqK (s_ref5_Drop_j0 call N q) (endK [(.t 4)] q)))
theorem s_ref5_Drop_eq (call : CallK) (N : Nat) (a0 a1 : V) (H : Heap) (τ : Tape) (q : KV) : s_ref5_Drop call N a0 a1 H τ q = funK call N fn_ref5_Drop [a0, a1] H τ q := by kernel_rfl
def e_ref5_Drop (call : CallK) (N : Nat) (vs : List V) (H : Heap) (τ : Tape) (q : KV) : Ans := match vs with | [a0, a1] => s_ref5_Drop call N a0 a1 H τ q | _ => none
theorem e_ref5_Drop_ok : EntOk fn_ref5_Drop e_ref5_Drop := by
  intro call N vs H τ q r h
  unfold e_ref5_Drop at h
  split at h
  · rw [s_ref5_Drop_eq] at h; exact h
  · cases h
theorem e_ref5_Drop_nat : EntNat e_ref5_Drop := by
  intro c hn N vs H τ q
  unfold e_ref5_Drop
  split
  · rw [s_ref5_Drop_eq, s_ref5_Drop_eq]; exact funK_ent hn _ _ _ _ _ _
  · rfl
/-- ostiary/ostiarybook.Intact[ostiary/api.Header] -/
def fn_book_Intact_Header : Fun := ⟨3,
  (.seq (.reg [⟨(some 5), none, (.e .box), [(.t 2)], none⟩,
    ⟨(some 6), none, (.p .mv), [(.c (.bool false))], none⟩])
  (.keep [0, 1, 5] (.seq (.seq (.reg [⟨(some 8), none, (.p .mv), [(.t 0)], none⟩,
    ⟨(some 9), none, (.p .len), [(.t 8)], none⟩,
    ⟨(some 10), none, (.p .mv), [(.t 1)], none⟩,
    ⟨(some 11), none, (.p .len), [(.t 10)], none⟩,
    ⟨(some 12), none, (.p (.bin .add)), [(.t 11), (.c (.int .i64 (.ofNat 80)))], none⟩,
    ⟨(some 13), none, (.p (.bin .neq)), [(.t 9), (.t 12)], none⟩,
    ⟨(some 14), none, (.p .mv), [(.t 13)], none⟩,
    ⟨(some 15), some (14, false), (.p .mv), [(.t 0)], none⟩,
    ⟨(some 16), some (14, false), (.p .mv), [(.t 1)], none⟩,
    ⟨(some 17), some (14, false), (.p .len), [(.t 16)], none⟩,
    ⟨(some 18), some (14, false), (.p (.slSlice 2 false true false)), [(.t 15), (.t 17)], none⟩,
    ⟨(some 19), some (14, false), (.p .mv), [(.t 1)], none⟩,
    ⟨(some 20), some (14, false), (.call 24), [(.t 18), (.t 19)], none⟩,
    ⟨(some 21), some (14, false), (.p (.un .not)), [(.t 20)], none⟩,
    ⟨(some 22), none, (.p .pick), [(.t 14), (.c (.bool true)), (.t 21)], none⟩])
  (.keep [0, 1, 5, 22] (.cond (.t 22)
   (.seq (.reg [⟨(some 6), none, (.p .mv), [(.c (.bool false))], none⟩])
   (.keep [6] (.keep [6] .ret)))
   .skip)))
  (.keep [0, 1, 5] (.seq (.seq (.reg [⟨(some 23), none, (.p .mv), [(.t 1)], none⟩,
    ⟨(some 24), none, (.p .len), [(.t 23)], none⟩,
    ⟨(some 7), none, (.p .mv), [(.t 24)], none⟩])
  (.keep [0, 5, 7] (.block 0
   (.loop
    (.keep [0, 5, 7] (.seq (.seq (.reg [⟨(some 25), none, (.p .mv), [(.t 7)], none⟩,
      ⟨(some 26), none, (.p .mv), [(.t 0)], none⟩,
      ⟨(some 27), none, (.p .len), [(.t 26)], none⟩,
      ⟨(some 28), none, (.p (.bin .lss)), [(.t 25), (.t 27)], none⟩])
    (.keep [0, 5, 7, 28] (.cond (.t 28)
     .skip
     (.keep [] (.exit 0)))))
    (.keep [0, 5, 7] (.seq (.block 1
     (.seq (.draw [⟨(some 31), none, (.p .mv), [(.t 0)], none⟩,
       ⟨(some 32), none, (.p .mv), [(.t 7)], none⟩,
       ⟨(some 33), none, (.p (.slIdx 2)), [(.t 31), (.t 32)], none⟩,
       ⟨(some 34), none, (.l (.load (some 2))), [(.t 33)], none⟩,
       ⟨(some 35), none, (.l (.load (some 2))), [(.t 5)], none⟩,
       ⟨(some 36), none, (.p (.eq true (.flat [.str, .str]))), [(.t 34), (.t 35)], none⟩])
     (.keep [0, 5, 7, 36] (.cond (.t 36)
      (.seq (.reg [⟨(some 6), none, (.p .mv), [(.c (.bool false))], none⟩])
      (.keep [6] (.keep [6] .ret)))
      .skip))))
    (.keep [0, 5, 7] (.reg [⟨(some 29), none, (.p .mv), [(.t 7)], none⟩,
      ⟨(some 30), none, (.p (.bin .add)), [(.t 29), (.c (.int .i64 (.ofNat 1)))], none⟩,
      ⟨(some 7), none, (.p .mv), [(.t 30)], none⟩]))))))))))
  (.keep [] (.seq (.reg [⟨(some 6), none, (.p .mv), [(.c (.bool true))], none⟩])
  (.keep [6] (.keep [6] .ret))))))))),
  [(.t 6)]⟩
def s_book_Intact_Header_j0 (call : CallK) (N : Nat) (q : KV) (st : St) (τ : Tape) : Ans :=
  match st with
  | ⟨fr, H⟩ =>
  q (.bool true) H τ
def s_book_Intact_Header_l1 (call : CallK) (N : Nat) (st : St) (τ : Tape) (k : KC) : Ans :=
  match st with
  | ⟨fr, H⟩ =>
  getK fr 0 fun t0 =>
  getK fr 5 fun t5 =>
  getK fr 7 fun t7 =>
  someK (pLen [t0]) fun v30 =>
  binK .lss t7 v30 fun v31 =>
  condK v31
    (someK (pSlIdx 2 [t0, t7]) fun v32 =>
  someK (lLoadN 2 [v32] H) fun v33 =>
  someK (lLoadN 2 [t5] H) fun v34 =>
  someK (pEq true (.flat [.str, .str]) [v33, v34]) fun v35 =>
  condK v35
    (k .ret ⟨(T.set .leaf 6 (.bool false)), H⟩ τ)
    (binK .add t7 (.int .i64 (.ofNat 1)) fun v36 =>
  k .normal ⟨(T.set (T.set (T.set (T.set (T.set (T.set .leaf 0 t0) 5 t5) 7 t7) 29 t7) 30 v36) 7 v36), H⟩ τ))
    (k (.exit 0) ⟨.leaf, H⟩ τ)
def s_book_Intact_Header (call : CallK) (N : Nat) (a0 a1 a2 : V) (H : Heap) (τ : Tape) (q : KV) : Ans :=
  effK (eBox [a2] H τ) fun v0 H1 τ2 =>
  someK (pLen [a0]) fun v3 =>
  someK (pLen [a1]) fun v4 =>
  binK .add v4 (.int .i64 (.ofNat 80)) fun v5 =>
  binK .neq v3 v5 fun v6 =>
  gK v6 false (fun q' => q' a0 H1 τ2) H1 τ2 fun v7 H8 τ9 =>
  gK v6 false (fun q' => q' a1 H8 τ9) H8 τ9 fun v10 H11 τ12 =>
  gK v6 false (fun q' => someK (pLen [v10]) fun v => q' v H11 τ12) H11 τ12 fun v13 H14 τ15 =>
  gK v6 false (fun q' => someK (pSlSlice 2 false true false [v7, v13]) fun v => q' v H14 τ15) H14 τ15 fun v16 H17 τ18 =>
  gK v6 false (fun q' => q' a1 H17 τ18) H17 τ18 fun v19 H20 τ21 =>
  gK v6 false (fun q' => call f_book_Same_Header [v16, v19] H20 τ21 q') H20 τ21 fun v22 H23 τ24 =>
  gK v6 false (fun q' => unK .not v22 fun v => q' v H23 τ24) H23 τ24 fun v25 H26 τ27 =>
  someK (pPick [v6, (.bool true), v25]) fun v28 =>
  condK v28
    (q (.bool false) H26 τ27)
    (someK (pLen [a1]) fun v29 =>
  loopK (s_book_Intact_Header_l1 call N) N ⟨(T.set (T.set (T.set .leaf 0 a0) 5 v0) 7 v29), H26⟩ τ27 (blockK 0 (seqK (s_book_Intact_Header_j0 call N q) (endK [(.t 6)] q))))
theorem s_book_Intact_Header_eq (call : CallK) (N : Nat) (a0 a1 a2 : V) (H : Heap) (τ : Tape) (q : KV) : s_book_Intact_Header call N a0 a1 a2 H τ q = funK call N fn_book_Intact_Header [a0, a1, a2] H τ q := by kernel_rfl
def e_book_Intact_Header (call : CallK) (N : Nat) (vs : List V) (H : Heap) (τ : Tape) (q : KV) : Ans := match vs with | [a0, a1, a2] => s_book_Intact_Header call N a0 a1 a2 H τ q | _ => none
theorem e_book_Intact_Header_ok : EntOk fn_book_Intact_Header e_book_Intact_Header := by
  intro call N vs H τ q r h
  unfold e_book_Intact_Header at h
  split at h
  · rw [s_book_Intact_Header_eq] at h; exact h
  · cases h
theorem e_book_Intact_Header_nat : EntNat e_book_Intact_Header := by
  intro c hn N vs H τ q
  unfold e_book_Intact_Header
  split
  · rw [s_book_Intact_Header_eq, s_book_Intact_Header_eq]; exact funK_ent hn _ _ _ _ _ _
  · rfl
/-- ostiary/headers.Value -/
def fn_headers_Value : Fun := ⟨1,
  (.seq (.reg [⟨(some 2), none, (.p .mv), [(.c (.str []))], none⟩,
    ⟨(some 3), none, (.p .mv), [(.c (.bool false))], none⟩])
  (.keep [0] (.seq (.reg [⟨(some 4), none, (.p .mv), [(.t 0)], none⟩,
    ⟨(some 5), none, (.call 35), [(.t 4), (.c (.str (bs [9, 10, 13, 32])))], none⟩,
    ⟨(some 0), none, (.p .mv), [(.t 5)], none⟩])
  (.keep [0] (.seq (.seq (.reg [⟨(some 6), none, (.p .mv), [(.t 0)], none⟩,
    ⟨(some 7), none, (.call 54), [(.t 6), (.c (.str (bs [0, 10, 13])))], none⟩])
  (.keep [0, 7] (.cond (.t 7)
   (.seq (.reg [⟨(some 2), none, (.p .mv), [(.c (.str []))], none⟩,
     ⟨(some 3), none, (.p .mv), [(.c (.bool false))], none⟩])
   (.keep [2, 3] (.keep [2, 3] .ret)))
   .skip)))
  (.keep [0] (.seq (.reg [⟨(some 8), none, (.p .mv), [(.t 0)], none⟩,
    ⟨(some 2), none, (.p .mv), [(.t 8)], none⟩,
    ⟨(some 3), none, (.p .mv), [(.c (.bool true))], none⟩])
  (.keep [2, 3] (.keep [2, 3] .ret))))))))),
  [(.t 2), (.t 3)]⟩
def s_headers_Value (call : CallK) (N : Nat) (a0 : V) (H : Heap) (τ : Tape) (q : KV) : Ans :=
  call f_strings_Trim [a0, (.str (bs [9, 10, 13, 32]))] H τ fun v0 H1 τ2 =>
  call f_strings_ContainsAny [v0, (.str (bs [0, 10, 13]))] H1 τ2 fun v3 H4 τ5 =>
  condK v3
    (q (.tup [(.str []), (.bool false)]) H4 τ5)
    (q (.tup [v0, (.bool true)]) H4 τ5)
theorem s_headers_Value_eq (call : CallK) (N : Nat) (a0 : V) (H : Heap) (τ : Tape) (q : KV) : s_headers_Value call N a0 H τ q = funK call N fn_headers_Value [a0] H τ q := by kernel_rfl
def e_headers_Value (call : CallK) (N : Nat) (vs : List V) (H : Heap) (τ : Tape) (q : KV) : Ans := match vs with | [a0] => s_headers_Value call N a0 H τ q | _ => none
theorem e_headers_Value_ok : EntOk fn_headers_Value e_headers_Value := by
  intro call N vs H τ q r h
  unfold e_headers_Value at h
  split at h
  · rw [s_headers_Value_eq] at h; exact h
  · cases h
theorem e_headers_Value_nat : EntNat e_headers_Value := by
  intro c hn N vs H τ q
  unfold e_headers_Value
  split
  · rw [s_headers_Value_eq, s_headers_Value_eq]; exact funK_ent hn _ _ _ _ _ _
  · rfl
/-- ostiary/ostiaryref5.Named -/
def fn_ref5_Named : Fun := ⟨2,
  (.seq (.reg [⟨(some 2), none, (.e .box), [(.t 0)], none⟩,
    ⟨(some 4), none, (.p .mv), [(.c (.bool false))], none⟩])
  (.keep [1, 2] (.seq (.reg [⟨(some 5), none, (.p (.fieldAddr 0)), [(.t 2)], none⟩,
    ⟨(some 6), none, (.l (.load none)), [(.t 5)], none⟩,
    ⟨(some 7), none, (.call 55), [(.t 6)], none⟩,
    ⟨(some 8), none, (.p .mv), [(.t 1)], none⟩,
    ⟨(some 9), none, (.call 55), [(.t 8)], none⟩,
    ⟨(some 10), none, (.p (.bin .eql)), [(.t 7), (.t 9)], none⟩,
    ⟨(some 4), none, (.p .mv), [(.t 10)], none⟩])
  (.keep [4] (.keep [4] .ret))))),
  [(.t 4)]⟩
def s_ref5_Named (call : CallK) (N : Nat) (a0 a1 : V) (H : Heap) (τ : Tape) (q : KV) : Ans :=
  effK (eBox [a0] H τ) fun v0 H1 τ2 =>
  someK (pFieldAddr 0 [v0]) fun v3 =>
  someK (lLoad1 [v3] H1) fun v4 =>
  call f_ref1_Lower [v4] H1 τ2 fun v5 H6 τ7 =>
  call f_ref1_Lower [a1] H6 τ7 fun v8 H9 τ10 =>
  binK .eql v5 v8 fun v11 =>
  q v11 H9 τ10
theorem s_ref5_Named_eq (call : CallK) (N : Nat) (a0 a1 : V) (H : Heap) (τ : Tape) (q : KV) : s_ref5_Named call N a0 a1 H τ q = funK call N fn_ref5_Named [a0, a1] H τ q := by kernel_rfl
def e_ref5_Named (call : CallK) (N : Nat) (vs : List V) (H : Heap) (τ : Tape) (q : KV) : Ans := match vs with | [a0, a1] => s_ref5_Named call N a0 a1 H τ q | _ => none
theorem e_ref5_Named_ok : EntOk fn_ref5_Named e_ref5_Named := by
  intro call N vs H τ q r h
  unfold e_ref5_Named at h
  split at h
  · rw [s_ref5_Named_eq] at h; exact h
  · cases h
theorem e_ref5_Named_nat : EntNat e_ref5_Named := by
  intro c hn N vs H τ q
  unfold e_ref5_Named
  split
  · rw [s_ref5_Named_eq, s_ref5_Named_eq]; exact funK_ent hn _ _ _ _ _ _
  · rfl
/-- strings.Trim -/
def fn_strings_Trim : Fun := ⟨2,
  (.seq (.reg [⟨(some 4), none, (.p .mv), [(.c (.str []))], none⟩])
  (.keep [0, 1] (.seq (.seq (.reg [⟨(some 7), none, (.p .mv), [(.t 0)], none⟩,
    ⟨(some 8), none, (.p (.bin .eql)), [(.t 7), (.c (.str []))], none⟩,
    ⟨(some 9), none, (.p .mv), [(.t 8)], none⟩,
    ⟨(some 10), some (9, false), (.p .mv), [(.t 1)], none⟩,
    ⟨(some 11), some (9, false), (.p (.bin .eql)), [(.t 10), (.c (.str []))], none⟩,
    ⟨(some 12), none, (.p .pick), [(.t 9), (.c (.bool true)), (.t 11)], none⟩])
  (.keep [0, 1, 12] (.cond (.t 12)
   (.seq (.reg [⟨(some 13), none, (.p .mv), [(.t 0)], none⟩,
     ⟨(some 4), none, (.p .mv), [(.t 13)], none⟩])
   (.keep [4] (.keep [4] .ret)))
   .skip)))
  (.keep [0, 1] (.seq (.seq (.reg [⟨(some 14), none, (.p .mv), [(.t 1)], none⟩,
    ⟨(some 15), none, (.p .lenS), [(.t 14)], none⟩,
    ⟨(some 16), none, (.p (.bin .eql)), [(.t 15), (.c (.int .i64 (.ofNat 1)))], none⟩,
    ⟨(some 17), none, (.p .mv), [(.t 16)], none⟩,
    ⟨(some 18), some (17, true), (.p .mv), [(.t 1)], none⟩,
    ⟨(some 19), some (17, true), (.p .strIndex), [(.t 18), (.c (.int .i64 (.ofNat 0)))], none⟩,
    ⟨(some 20), some (17, true), (.p (.bin .lss)), [(.t 19), (.c (.int .u8 (.ofNat 128)))], none⟩,
    ⟨(some 21), none, (.p .pick), [(.t 17), (.t 20), (.c (.bool false))], none⟩])
  (.keep [0, 1, 21] (.cond (.t 21)
   (.seq (.draw [⟨(some 22), none, (.p .mv), [(.t 0)], none⟩,
     ⟨(some 23), none, (.p .mv), [(.t 1)], none⟩,
     ⟨(some 24), none, (.p .strIndex), [(.t 23), (.c (.int .i64 (.ofNat 0)))], none⟩,
     ⟨(some 25), none, (.call 59), [(.t 22), (.t 24)], none⟩,
     ⟨(some 26), none, (.p .mv), [(.t 1)], none⟩,
     ⟨(some 27), none, (.p .strIndex), [(.t 26), (.c (.int .i64 (.ofNat 0)))], none⟩,
     ⟨(some 28), none, (.call 58), [(.t 25), (.t 27)], none⟩,
     ⟨(some 4), none, (.p .mv), [(.t 28)], none⟩])
   (.keep [4] (.keep [4] .ret)))
   .skip)))
  (.keep [0, 1] (.seq (.seq (.reg [⟨(some 30), none, (.p .mv), [(.t 1)], none⟩,
    ⟨(some 31), none, (.call 60), [(.t 30)], none⟩,
    ⟨(some 29), none, (.p .mv), [(.t 31)], none⟩,
    ⟨(some 32), none, (.p (.extract 0)), [(.t 29)], none⟩,
    ⟨(some 33), none, (.p (.extract 1)), [(.t 29)], none⟩,
    ⟨(some 5), none, (.e (.alloc (repl 256 [(.bool false)]))), [], none⟩,
    ⟨none, none, (.e (.store 256)), [(.t 5), (.t 32)], none⟩,
    ⟨(some 6), none, (.p .mv), [(.t 33)], none⟩])
  (.keep [0, 1, 5, 6] (.seq (.reg [⟨(some 34), none, (.p .mv), [(.t 6)], none⟩])
  (.keep [0, 1, 5, 34] (.cond (.t 34)
   (.seq (.reg [⟨(some 35), none, (.p .mv), [(.t 0)], none⟩,
     ⟨(some 36), none, (.call 62), [(.t 35), (.t 5)], none⟩,
     ⟨(some 37), none, (.call 61), [(.t 36), (.t 5)], none⟩,
     ⟨(some 4), none, (.p .mv), [(.t 37)], none⟩])
   (.keep [4] (.keep [4] .ret)))
   .skip)))))
  (.keep [0, 1] (.seq (.reg [⟨(some 38), none, (.p .mv), [(.t 0)], none⟩,
    ⟨(some 39), none, (.p .mv), [(.t 1)], none⟩,
    ⟨(some 40), none, (.call 64), [(.t 38), (.t 39)], none⟩,
    ⟨(some 41), none, (.p .mv), [(.t 1)], none⟩,
    ⟨(some 42), none, (.call 63), [(.t 40), (.t 41)], none⟩,
    ⟨(some 4), none, (.p .mv), [(.t 42)], none⟩])
  (.keep [4] (.keep [4] .ret))))))))))),
  [(.t 4)]⟩
def s_strings_Trim (call : CallK) (N : Nat) (a0 a1 : V) (H : Heap) (τ : Tape) (q : KV) : Ans :=
  binK .eql a0 (.str []) fun v0 =>
  gK v0 false (fun q' => q' a1 H τ) H τ fun v1 H2 τ3 =>
  gK v0 false (fun q' => binK .eql v1 (.str []) fun v => q' v H2 τ3) H2 τ3 fun v4 H5 τ6 =>
  someK (pPick [v0, (.bool true), v4]) fun v7 =>
  condK v7
    (q a0 H5 τ6)
    (someK (pLenS [a1]) fun v8 =>
  binK .eql v8 (.int .i64 (.ofNat 1)) fun v9 =>
  gK v9 true (fun q' => q' a1 H5 τ6) H5 τ6 fun v10 H11 τ12 =>
  gK v9 true (fun q' => someK (pStrIndex [v10, (.int .i64 (.ofNat 0))]) fun v => q' v H11 τ12) H11 τ12 fun v13 H14 τ15 =>
  gK v9 true (fun q' => binK .lss v13 (.int .u8 (.ofNat 128)) fun v => q' v H14 τ15) H14 τ15 fun v16 H17 τ18 =>
  someK (pPick [v9, v16, (.bool false)]) fun v19 =>
  condK v19
    (someK (pStrIndex [a1, (.int .i64 (.ofNat 0))]) fun v20 =>
  call f_strings_trimRightByte [a0, v20] H17 τ18 fun v21 H22 τ23 =>
  someK (pStrIndex [a1, (.int .i64 (.ofNat 0))]) fun v24 =>
  call f_strings_trimLeftByte [v21, v24] H22 τ23 fun v25 H26 τ27 =>
  q v25 H26 τ27)
    (call f_strings_makeASCIISet [a1] H17 τ18 fun v28 H29 τ30 =>
  someK (pExtract 0 [v28]) fun v31 =>
  someK (pExtract 1 [v28]) fun v32 =>
  effK (eAlloc (repl 256 [(.bool false)]) [] H29 τ30) fun v33 H34 τ35 =>
  effK (eStore 256 [v33, v31] H34 τ35) fun v36 H37 τ38 =>
  condK v32
    (call f_strings_trimRightASCII [a0, v33] H37 τ38 fun v39 H40 τ41 =>
  call f_strings_trimLeftASCII [v39, v33] H40 τ41 fun v42 H43 τ44 =>
  q v42 H43 τ44)
    (call f_strings_trimRightUnicode [a0, a1] H37 τ38 fun v45 H46 τ47 =>
  call f_strings_trimLeftUnicode [v45, a1] H46 τ47 fun v48 H49 τ50 =>
  q v48 H49 τ50)))
theorem s_strings_Trim_eq (call : CallK) (N : Nat) (a0 a1 : V) (H : Heap) (τ : Tape) (q : KV) : s_strings_Trim call N a0 a1 H τ q = funK call N fn_strings_Trim [a0, a1] H τ q := by kernel_rfl
def e_strings_Trim (call : CallK) (N : Nat) (vs : List V) (H : Heap) (τ : Tape) (q : KV) : Ans := match vs with | [a0, a1] => s_strings_Trim call N a0 a1 H τ q | _ => none
theorem e_strings_Trim_ok : EntOk fn_strings_Trim e_strings_Trim := by
  intro call N vs H τ q r h
  unfold e_strings_Trim at h
  split at h
  · rw [s_strings_Trim_eq] at h; exact h
  · cases h
theorem e_strings_Trim_nat : EntNat e_strings_Trim := by
  intro c hn N vs H τ q
  unfold e_strings_Trim
  split
  · rw [s_strings_Trim_eq, s_strings_Trim_eq]; exact funK_ent hn _ _ _ _ _ _
  · rfl
/-- strings.CutPrefix -/
def fn_strings_CutPrefix : Fun := ⟨2,
  (.seq (.reg [⟨(some 4), none, (.p .mv), [(.c (.str []))], none⟩,
    ⟨(some 5), none, (.p .mv), [(.c (.bool false))], none⟩])
  (.keep [0, 1] (.seq (.reg [⟨(some 6), none, (.p .mv), [(.t 0)], none⟩,
    ⟨(some 7), none, (.p .mv), [(.t 1)], none⟩,
    ⟨(some 8), none, (.call 65), [(.t 6), (.t 7)], none⟩,
    ⟨(some 9), none, (.p (.extract 0)), [(.t 8)], none⟩,
    ⟨(some 10), none, (.p (.extract 1)), [(.t 8)], none⟩,
    ⟨(some 4), none, (.p .mv), [(.t 9)], none⟩,
    ⟨(some 5), none, (.p .mv), [(.t 10)], none⟩])
  (.keep [4, 5] (.keep [4, 5] .ret))))),
  [(.t 4), (.t 5)]⟩
def s_strings_CutPrefix (call : CallK) (N : Nat) (a0 a1 : V) (H : Heap) (τ : Tape) (q : KV) : Ans :=
  call f_stringslite_CutPrefix [a0, a1] H τ fun v0 H1 τ2 =>
  someK (pExtract 0 [v0]) fun v3 =>
  someK (pExtract 1 [v0]) fun v4 =>
  q (.tup [v3, v4]) H1 τ2
theorem s_strings_CutPrefix_eq (call : CallK) (N : Nat) (a0 a1 : V) (H : Heap) (τ : Tape) (q : KV) : s_strings_CutPrefix call N a0 a1 H τ q = funK call N fn_strings_CutPrefix [a0, a1] H τ q := by kernel_rfl
def e_strings_CutPrefix (call : CallK) (N : Nat) (vs : List V) (H : Heap) (τ : Tape) (q : KV) : Ans := match vs with | [a0, a1] => s_strings_CutPrefix call N a0 a1 H τ q | _ => none
theorem e_strings_CutPrefix_ok : EntOk fn_strings_CutPrefix e_strings_CutPrefix := by
  intro call N vs H τ q r h
  unfold e_strings_CutPrefix at h
  split at h
  · rw [s_strings_CutPrefix_eq] at h; exact h
  · cases h
theorem e_strings_CutPrefix_nat : EntNat e_strings_CutPrefix := by
  intro c hn N vs H τ q
  unfold e_strings_CutPrefix
  split
  · rw [s_strings_CutPrefix_eq, s_strings_CutPrefix_eq]; exact funK_ent hn _ _ _ _ _ _
  · rfl
/-- strings.Cut -/
def fn_strings_Cut : Fun := ⟨2,
  (.seq (.reg [⟨(some 4), none, (.p .mv), [(.c (.str []))], none⟩,
    ⟨(some 5), none, (.p .mv), [(.c (.str []))], none⟩,
    ⟨(some 6), none, (.p .mv), [(.c (.bool false))], none⟩])
  (.keep [0, 1] (.seq (.reg [⟨(some 7), none, (.p .mv), [(.t 0)], none⟩,
    ⟨(some 8), none, (.p .mv), [(.t 1)], none⟩,
    ⟨(some 9), none, (.call 66), [(.t 7), (.t 8)], none⟩,
    ⟨(some 10), none, (.p (.extract 0)), [(.t 9)], none⟩,
    ⟨(some 11), none, (.p (.extract 1)), [(.t 9)], none⟩,
    ⟨(some 12), none, (.p (.extract 2)), [(.t 9)], none⟩,
    ⟨(some 4), none, (.p .mv), [(.t 10)], none⟩,
    ⟨(some 5), none, (.p .mv), [(.t 11)], none⟩,
    ⟨(some 6), none, (.p .mv), [(.t 12)], none⟩])
  (.keep [4, 5, 6] (.keep [4, 5, 6] .ret))))),
  [(.t 4), (.t 5), (.t 6)]⟩
def s_strings_Cut (call : CallK) (N : Nat) (a0 a1 : V) (H : Heap) (τ : Tape) (q : KV) : Ans :=
  call f_stringslite_Cut [a0, a1] H τ fun v0 H1 τ2 =>
  someK (pExtract 0 [v0]) fun v3 =>
  someK (pExtract 1 [v0]) fun v4 =>
  someK (pExtract 2 [v0]) fun v5 =>
  q (.tup [v3, v4, v5]) H1 τ2
theorem s_strings_Cut_eq (call : CallK) (N : Nat) (a0 a1 : V) (H : Heap) (τ : Tape) (q : KV) : s_strings_Cut call N a0 a1 H τ q = funK call N fn_strings_Cut [a0, a1] H τ q := by kernel_rfl
def e_strings_Cut (call : CallK) (N : Nat) (vs : List V) (H : Heap) (τ : Tape) (q : KV) : Ans := match vs with | [a0, a1] => s_strings_Cut call N a0 a1 H τ q | _ => none
theorem e_strings_Cut_ok : EntOk fn_strings_Cut e_strings_Cut := by
  intro call N vs H τ q r h
  unfold e_strings_Cut at h
  split at h
  · rw [s_strings_Cut_eq] at h; exact h
  · cases h
theorem e_strings_Cut_nat : EntNat e_strings_Cut := by
  intro c hn N vs H τ q
  unfold e_strings_Cut
  split
  · rw [s_strings_Cut_eq, s_strings_Cut_eq]; exact funK_ent hn _ _ _ _ _ _
  · rfl
/-- ostiary/headers.told -/
def fn_headers_told : Fun := ⟨1,
  (.seq (.reg [⟨(some 2), none, (.p .mv), [(.c (.int .i64 (.ofNat 0)))], none⟩,
    ⟨(some 3), none, (.p .mv), [(.c (.bool false))], none⟩])
  (.keep [0] (.seq (.seq (.reg [⟨(some 4), none, (.p .mv), [(.t 0)], none⟩,
    ⟨(some 5), none, (.p (.bin .eql)), [(.t 4), (.c (.str []))], none⟩])
  (.keep [0, 5] (.cond (.t 5)
   (.seq (.reg [⟨(some 2), none, (.p .mv), [(.c (.int .i64 (.negSucc 0)))], none⟩,
     ⟨(some 3), none, (.p .mv), [(.c (.bool true))], none⟩])
   (.keep [2, 3] (.keep [2, 3] .ret)))
   .skip)))
  (.keep [0] (.seq (.reg [⟨(some 6), none, (.p .mv), [(.t 0)], none⟩,
    ⟨(some 7), none, (.call 67), [(.t 6)], none⟩,
    ⟨(some 8), none, (.p (.extract 0)), [(.t 7)], none⟩,
    ⟨(some 9), none, (.p (.extract 1)), [(.t 7)], none⟩,
    ⟨(some 2), none, (.p .mv), [(.t 8)], none⟩,
    ⟨(some 3), none, (.p .mv), [(.t 9)], none⟩])
  (.keep [2, 3] (.keep [2, 3] .ret))))))),
  [(.t 2), (.t 3)]⟩
def s_headers_told (call : CallK) (N : Nat) (a0 : V) (H : Heap) (τ : Tape) (q : KV) : Ans :=
  binK .eql a0 (.str []) fun v0 =>
  condK v0
    (q (.tup [(.int .i64 (.negSucc 0)), (.bool true)]) H τ)
    (call f_infra_Int [a0] H τ fun v1 H2 τ3 =>
  someK (pExtract 0 [v1]) fun v4 =>
  someK (pExtract 1 [v1]) fun v5 =>
  q (.tup [v4, v5]) H2 τ3)
theorem s_headers_told_eq (call : CallK) (N : Nat) (a0 : V) (H : Heap) (τ : Tape) (q : KV) : s_headers_told call N a0 H τ q = funK call N fn_headers_told [a0] H τ q := by kernel_rfl
def e_headers_told (call : CallK) (N : Nat) (vs : List V) (H : Heap) (τ : Tape) (q : KV) : Ans := match vs with | [a0] => s_headers_told call N a0 H τ q | _ => none
theorem e_headers_told_ok : EntOk fn_headers_told e_headers_told := by
  intro call N vs H τ q r h
  unfold e_headers_told at h
  split at h
  · rw [s_headers_told_eq] at h; exact h
  · cases h
theorem e_headers_told_nat : EntNat e_headers_told := by
  intro c hn N vs H τ q
  unfold e_headers_told
  split
  · rw [s_headers_told_eq, s_headers_told_eq]; exact funK_ent hn _ _ _ _ _ _
  · rfl
/-- ostiary/infra.Lower -/
def fn_infra_Lower : Fun := ⟨1,
  (.seq (.reg [⟨(some 2), none, (.p .mv), [(.c (.str []))], none⟩])
  (.keep [0] (.seq (.reg [⟨(some 3), none, (.p .mv), [(.t 0)], none⟩,
    ⟨(some 4), none, (.call 68), [(.t 3), (.c (.func 69 [] []))], none⟩,
    ⟨(some 2), none, (.p .mv), [(.t 4)], none⟩])
  (.keep [2] (.keep [2] .ret))))),
  [(.t 2)]⟩
def s_infra_Lower (call : CallK) (N : Nat) (a0 : V) (H : Heap) (τ : Tape) (q : KV) : Ans :=
  call f_infra_mapped [a0, (.func f_infra_Lower_1 [] [])] H τ fun v0 H1 τ2 =>
  q v0 H1 τ2
theorem s_infra_Lower_eq (call : CallK) (N : Nat) (a0 : V) (H : Heap) (τ : Tape) (q : KV) : s_infra_Lower call N a0 H τ q = funK call N fn_infra_Lower [a0] H τ q := by kernel_rfl
def e_infra_Lower (call : CallK) (N : Nat) (vs : List V) (H : Heap) (τ : Tape) (q : KV) : Ans := match vs with | [a0] => s_infra_Lower call N a0 H τ q | _ => none
theorem e_infra_Lower_ok : EntOk fn_infra_Lower e_infra_Lower := by
  intro call N vs H τ q r h
  unfold e_infra_Lower at h
  split at h
  · rw [s_infra_Lower_eq] at h; exact h
  · cases h
theorem e_infra_Lower_nat : EntNat e_infra_Lower := by
  intro c hn N vs H τ q
  unfold e_infra_Lower
  split
  · rw [s_infra_Lower_eq, s_infra_Lower_eq]; exact funK_ent hn _ _ _ _ _ _
  · rfl
/-- ostiary/headers.un-safe -/
def fn_headers_unsafe : Fun := ⟨1,
  (.seq (.reg [⟨(some 2), none, (.p .mv), [(.c (.bool false))], none⟩])
  (.keep [0] (.seq (.seq (.reg [⟨(some 5), none, (.p .mv), [(.t 0)], none⟩,
    ⟨(some 6), none, (.p .lenS), [(.t 5)], none⟩,
    ⟨(some 7), none, (.p .mv), [(.c (.int .i64 (.ofNat 0)))], none⟩])
  (.keep [0, 6, 7] (.block 0
   (.loop
    (.keep [0, 6, 7] (.seq (.reg [⟨(some 8), none, (.p (.bin .lss)), [(.t 7), (.t 6)], none⟩])
    (.keep [0, 6, 7, 8] (.seq (.cond (.t 8)
     .skip
     (.keep [] (.exit 0)))
    (.keep [0, 6, 7] (.seq (.block 1
     (.seq (.reg [⟨(some 9), none, (.p .mv), [(.t 7)], none⟩,
       ⟨(some 3), none, (.p .mv), [(.t 9)], none⟩])
     (.keep [0, 3, 6, 7] (.seq (.reg [⟨(some 10), none, (.p .mv), [(.t 0)], none⟩,
       ⟨(some 11), none, (.p .mv), [(.t 3)], none⟩,
       ⟨(some 12), none, (.p .strIndex), [(.t 10), (.t 11)], none⟩,
       ⟨(some 4), none, (.p .mv), [(.t 12)], none⟩])
     (.keep [0, 4, 6, 7] (.seq (.reg [⟨(some 13), none, (.p .mv), [(.t 4)], none⟩,
       ⟨(some 14), none, (.p (.bin .lss)), [(.t 13), (.c (.int .u8 (.ofNat 32)))], none⟩,
       ⟨(some 15), none, (.p .mv), [(.t 14)], none⟩,
       ⟨(some 16), some (15, true), (.p .mv), [(.t 4)], none⟩,
       ⟨(some 17), some (15, true), (.p (.bin .neq)), [(.t 16), (.c (.int .u8 (.ofNat 9)))], none⟩,
       ⟨(some 18), none, (.p .pick), [(.t 15), (.t 17), (.c (.bool false))], none⟩,
       ⟨(some 19), none, (.p .mv), [(.t 18)], none⟩,
       ⟨(some 20), some (19, false), (.p .mv), [(.t 4)], none⟩,
       ⟨(some 21), some (19, false), (.p (.bin .eql)), [(.t 20), (.c (.int .u8 (.ofNat 127)))], none⟩,
       ⟨(some 22), none, (.p .pick), [(.t 19), (.c (.bool true)), (.t 21)], none⟩,
       ⟨(some 23), none, (.p .mv), [(.t 22)], none⟩,
       ⟨(some 24), some (23, false), (.p .mv), [(.t 4)], none⟩,
       ⟨(some 25), some (23, false), (.call 70), [(.c (.str (bs [34, 40, 41, 58, 60, 62, 63, 64, 91, 92, 93, 123, 125]))), (.t 24)], none⟩,
       ⟨(some 26), some (23, false), (.p (.bin .geq)), [(.t 25), (.c (.int .i64 (.ofNat 0)))], none⟩,
       ⟨(some 27), none, (.p .pick), [(.t 23), (.c (.bool true)), (.t 26)], none⟩])
     (.keep [0, 6, 7, 27] (.cond (.t 27)
      (.seq (.reg [⟨(some 2), none, (.p .mv), [(.c (.bool true))], none⟩])
      (.keep [2] (.keep [2] .ret)))
      .skip))))))))
    (.keep [0, 6, 7] (.reg [⟨(some 28), none, (.p (.bin .add)), [(.t 7), (.c (.int .i64 (.ofNat 1)))], none⟩,
      ⟨(some 7), none, (.p .mv), [(.t 28)], none⟩]))))))))))))
  (.keep [] (.seq (.reg [⟨(some 2), none, (.p .mv), [(.c (.bool false))], none⟩])
  (.keep [2] (.keep [2] .ret))))))),
  [(.t 2)]⟩
def s_headers_unsafe_j0 (call : CallK) (N : Nat) (q : KV) (st : St) (τ : Tape) : Ans :=
  match st with
  | ⟨fr, H⟩ =>
  q (.bool false) H τ
def s_headers_unsafe_l1 (call : CallK) (N : Nat) (st : St) (τ : Tape) (k : KC) : Ans :=
  match st with
  | ⟨fr, H⟩ =>
  getK fr 0 fun t0 =>
  getK fr 6 fun t6 =>
  getK fr 7 fun t7 =>
  binK .lss t7 t6 fun v1 =>
  condK v1
    (someK (pStrIndex [t0, t7]) fun v2 =>
  binK .lss v2 (.int .u8 (.ofNat 32)) fun v3 =>
  gK v3 true (fun q' => q' v2 H τ) H τ fun v4 H5 τ6 =>
  gK v3 true (fun q' => binK .neq v4 (.int .u8 (.ofNat 9)) fun v => q' v H5 τ6) H5 τ6 fun v7 H8 τ9 =>
  someK (pPick [v3, v7, (.bool false)]) fun v10 =>
  gK v10 false (fun q' => q' v2 H8 τ9) H8 τ9 fun v11 H12 τ13 =>
  gK v10 false (fun q' => binK .eql v11 (.int .u8 (.ofNat 127)) fun v => q' v H12 τ13) H12 τ13 fun v14 H15 τ16 =>
  someK (pPick [v10, (.bool true), v14]) fun v17 =>
  gK v17 false (fun q' => q' v2 H15 τ16) H15 τ16 fun v18 H19 τ20 =>
  gK v17 false (fun q' => call f_strings_IndexByte [(.str (bs [34, 40, 41, 58, 60, 62, 63, 64, 91, 92, 93, 123, 125])), v18] H19 τ20 q') H19 τ20 fun v21 H22 τ23 =>
  gK v17 false (fun q' => binK .geq v21 (.int .i64 (.ofNat 0)) fun v => q' v H22 τ23) H22 τ23 fun v24 H25 τ26 =>
  someK (pPick [v17, (.bool true), v24]) fun v27 =>
  condK v27
    (k .ret ⟨(T.set .leaf 2 (.bool true)), H25⟩ τ26)
    (binK .add t7 (.int .i64 (.ofNat 1)) fun v28 =>
  k .normal ⟨(T.set (T.set (T.set (T.set (T.set .leaf 0 t0) 6 t6) 7 t7) 28 v28) 7 v28), H25⟩ τ26))
    (k (.exit 0) ⟨.leaf, H⟩ τ)
def s_headers_unsafe (call : CallK) (N : Nat) (a0 : V) (H : Heap) (τ : Tape) (q : KV) : Ans :=
  someK (pLenS [a0]) fun v0 =>
  loopK (s_headers_unsafe_l1 call N) N ⟨(T.set (T.set (T.set .leaf 0 a0) 6 v0) 7 (.int .i64 (.ofNat 0))), H⟩ τ (blockK 0 (seqK (s_headers_unsafe_j0 call N q) (endK [(.t 2)] q)))
theorem s_headers_unsafe_eq (call : CallK) (N : Nat) (a0 : V) (H : Heap) (τ : Tape) (q : KV) : s_headers_unsafe call N a0 H τ q = funK call N fn_headers_unsafe [a0] H τ q := by kernel_rfl
def e_headers_unsafe (call : CallK) (N : Nat) (vs : List V) (H : Heap) (τ : Tape) (q : KV) : Ans := match vs with | [a0] => s_headers_unsafe call N a0 H τ q | _ => none
theorem e_headers_unsafe_ok : EntOk fn_headers_unsafe e_headers_unsafe := by
  intro call N vs H τ q r h
  unfold e_headers_unsafe at h
  split at h
  · rw [s_headers_unsafe_eq] at h; exact h
  · cases h
theorem e_headers_unsafe_nat : EntNat e_headers_unsafe := by
  intro c hn N vs H τ q
  unfold e_headers_unsafe
  split
  · rw [s_headers_unsafe_eq, s_headers_unsafe_eq]; exact funK_ent hn _ _ _ _ _ _
  · rfl
/-- ostiary/headers.tongues -/
def fn_headers_tongues : Fun := ⟨1,
  (.seq (.reg [⟨(some 2), none, (.p .mv), [(.c (.bool false))], none⟩])
  (.keep [0] (.seq (.seq (.reg [⟨(some 5), none, (.p .mv), [(.t 0)], none⟩,
    ⟨(some 6), none, (.p .lenS), [(.t 5)], none⟩,
    ⟨(some 7), none, (.p .mv), [(.c (.int .i64 (.ofNat 0)))], none⟩])
  (.keep [0, 6, 7] (.block 0
   (.loop
    (.keep [0, 6, 7] (.seq (.reg [⟨(some 8), none, (.p (.bin .lss)), [(.t 7), (.t 6)], none⟩])
    (.keep [0, 6, 7, 8] (.seq (.cond (.t 8)
     .skip
     (.keep [] (.exit 0)))
    (.keep [0, 6, 7] (.seq (.block 1
     (.seq (.reg [⟨(some 9), none, (.p .mv), [(.t 7)], none⟩,
       ⟨(some 3), none, (.p .mv), [(.t 9)], none⟩])
     (.keep [0, 3, 6, 7] (.seq (.reg [⟨(some 10), none, (.p .mv), [(.t 0)], none⟩,
       ⟨(some 11), none, (.p .mv), [(.t 3)], none⟩,
       ⟨(some 12), none, (.p .strIndex), [(.t 10), (.t 11)], none⟩,
       ⟨(some 4), none, (.p .mv), [(.t 12)], none⟩])
     (.keep [0, 4, 6, 7] (.seq (.reg [⟨(some 13), none, (.p .mv), [(.t 4)], none⟩,
       ⟨(some 14), none, (.p (.bin .geq)), [(.t 13), (.c (.int .u8 (.ofNat 97)))], none⟩,
       ⟨(some 15), none, (.p .mv), [(.t 14)], none⟩,
       ⟨(some 16), some (15, true), (.p .mv), [(.t 4)], none⟩,
       ⟨(some 17), some (15, true), (.p (.bin .leq)), [(.t 16), (.c (.int .u8 (.ofNat 122)))], none⟩,
       ⟨(some 18), none, (.p .pick), [(.t 15), (.t 17), (.c (.bool false))], none⟩,
       ⟨(some 19), none, (.p .mv), [(.t 18)], none⟩,
       ⟨(some 20), some (19, false), (.p .mv), [(.t 4)], none⟩,
       ⟨(some 21), some (19, false), (.p (.bin .geq)), [(.t 20), (.c (.int .u8 (.ofNat 65)))], none⟩,
       ⟨(some 22), some (19, false), (.p .mv), [(.t 21)], none⟩,
       ⟨(some 23), some (22, true), (.p .mv), [(.t 4)], none⟩,
       ⟨(some 24), some (22, true), (.p (.bin .leq)), [(.t 23), (.c (.int .u8 (.ofNat 90)))], none⟩,
       ⟨(some 25), some (19, false), (.p .pick), [(.t 22), (.t 24), (.c (.bool false))], none⟩,
       ⟨(some 26), none, (.p .pick), [(.t 19), (.c (.bool true)), (.t 25)], none⟩,
       ⟨(some 27), none, (.p .mv), [(.t 26)], none⟩,
       ⟨(some 28), some (27, false), (.p .mv), [(.t 4)], none⟩,
       ⟨(some 29), some (27, false), (.p (.bin .geq)), [(.t 28), (.c (.int .u8 (.ofNat 48)))], none⟩,
       ⟨(some 30), some (27, false), (.p .mv), [(.t 29)], none⟩,
       ⟨(some 31), some (30, true), (.p .mv), [(.t 4)], none⟩,
       ⟨(some 32), some (30, true), (.p (.bin .leq)), [(.t 31), (.c (.int .u8 (.ofNat 57)))], none⟩,
       ⟨(some 33), some (27, false), (.p .pick), [(.t 30), (.t 32), (.c (.bool false))], none⟩,
       ⟨(some 34), none, (.p .pick), [(.t 27), (.c (.bool true)), (.t 33)], none⟩,
       ⟨(some 35), none, (.p (.un .not)), [(.t 34)], none⟩,
       ⟨(some 36), none, (.p .mv), [(.t 35)], none⟩,
       ⟨(some 37), some (36, true), (.p .mv), [(.t 4)], none⟩,
       ⟨(some 38), some (36, true), (.call 70), [(.c (.str (bs [32, 42, 44, 45, 46, 59, 61]))), (.t 37)], none⟩,
       ⟨(some 39), some (36, true), (.p (.bin .lss)), [(.t 38), (.c (.int .i64 (.ofNat 0)))], none⟩,
       ⟨(some 40), none, (.p .pick), [(.t 36), (.t 39), (.c (.bool false))], none⟩])
     (.keep [0, 6, 7, 40] (.cond (.t 40)
      (.seq (.reg [⟨(some 2), none, (.p .mv), [(.c (.bool false))], none⟩])
      (.keep [2] (.keep [2] .ret)))
      .skip))))))))
    (.keep [0, 6, 7] (.reg [⟨(some 41), none, (.p (.bin .add)), [(.t 7), (.c (.int .i64 (.ofNat 1)))], none⟩,
      ⟨(some 7), none, (.p .mv), [(.t 41)], none⟩]))))))))))))
  (.keep [] (.seq (.reg [⟨(some 2), none, (.p .mv), [(.c (.bool true))], none⟩])
  (.keep [2] (.keep [2] .ret))))))),
  [(.t 2)]⟩
def s_headers_tongues_j0 (call : CallK) (N : Nat) (q : KV) (st : St) (τ : Tape) : Ans :=
  match st with
  | ⟨fr, H⟩ =>
  q (.bool true) H τ
def s_headers_tongues_l1 (call : CallK) (N : Nat) (st : St) (τ : Tape) (k : KC) : Ans :=
  match st with
  | ⟨fr, H⟩ =>
  getK fr 0 fun t0 =>
  getK fr 6 fun t6 =>
  getK fr 7 fun t7 =>
  binK .lss t7 t6 fun v1 =>
  condK v1
    (someK (pStrIndex [t0, t7]) fun v2 =>
  binK .geq v2 (.int .u8 (.ofNat 97)) fun v3 =>
  gK v3 true (fun q' => q' v2 H τ) H τ fun v4 H5 τ6 =>
  gK v3 true (fun q' => binK .leq v4 (.int .u8 (.ofNat 122)) fun v => q' v H5 τ6) H5 τ6 fun v7 H8 τ9 =>
  someK (pPick [v3, v7, (.bool false)]) fun v10 =>
  gK v10 false (fun q' => q' v2 H8 τ9) H8 τ9 fun v11 H12 τ13 =>
  gK v10 false (fun q' => binK .geq v11 (.int .u8 (.ofNat 65)) fun v => q' v H12 τ13) H12 τ13 fun v14 H15 τ16 =>
  gK v10 false (fun q' => q' v14 H15 τ16) H15 τ16 fun v17 H18 τ19 =>
  gK v17 true (fun q' => q' v2 H18 τ19) H18 τ19 fun v20 H21 τ22 =>
  gK v17 true (fun q' => binK .leq v20 (.int .u8 (.ofNat 90)) fun v => q' v H21 τ22) H21 τ22 fun v23 H24 τ25 =>
  gK v10 false (fun q' => someK (pPick [v17, v23, (.bool false)]) fun v => q' v H24 τ25) H24 τ25 fun v26 H27 τ28 =>
  someK (pPick [v10, (.bool true), v26]) fun v29 =>
  gK v29 false (fun q' => q' v2 H27 τ28) H27 τ28 fun v30 H31 τ32 =>
  gK v29 false (fun q' => binK .geq v30 (.int .u8 (.ofNat 48)) fun v => q' v H31 τ32) H31 τ32 fun v33 H34 τ35 =>
  gK v29 false (fun q' => q' v33 H34 τ35) H34 τ35 fun v36 H37 τ38 =>
  gK v36 true (fun q' => q' v2 H37 τ38) H37 τ38 fun v39 H40 τ41 =>
  gK v36 true (fun q' => binK .leq v39 (.int .u8 (.ofNat 57)) fun v => q' v H40 τ41) H40 τ41 fun v42 H43 τ44 =>
  gK v29 false (fun q' => someK (pPick [v36, v42, (.bool false)]) fun v => q' v H43 τ44) H43 τ44 fun v45 H46 τ47 =>
  someK (pPick [v29, (.bool true), v45]) fun v48 =>
  unK .not v48 fun v49 =>
  gK v49 true (fun q' => q' v2 H46 τ47) H46 τ47 fun v50 H51 τ52 =>
  gK v49 true (fun q' => call f_strings_IndexByte [(.str (bs [32, 42, 44, 45, 46, 59, 61])), v50] H51 τ52 q') H51 τ52 fun v53 H54 τ55 =>
  gK v49 true (fun q' => binK .lss v53 (.int .i64 (.ofNat 0)) fun v => q' v H54 τ55) H54 τ55 fun v56 H57 τ58 =>
  someK (pPick [v49, v56, (.bool false)]) fun v59 =>
  condK v59
    (k .ret ⟨(T.set .leaf 2 (.bool false)), H57⟩ τ58)
    (binK .add t7 (.int .i64 (.ofNat 1)) fun v60 =>
  k .normal ⟨(T.set (T.set (T.set (T.set (T.set .leaf 0 t0) 6 t6) 7 t7) 41 v60) 7 v60), H57⟩ τ58))
    (k (.exit 0) ⟨.leaf, H⟩ τ)
def s_headers_tongues (call : CallK) (N : Nat) (a0 : V) (H : Heap) (τ : Tape) (q : KV) : Ans :=
  someK (pLenS [a0]) fun v0 =>
  loopK (s_headers_tongues_l1 call N) N ⟨(T.set (T.set (T.set .leaf 0 a0) 6 v0) 7 (.int .i64 (.ofNat 0))), H⟩ τ (blockK 0 (seqK (s_headers_tongues_j0 call N q) (endK [(.t 2)] q)))
theorem s_headers_tongues_eq (call : CallK) (N : Nat) (a0 : V) (H : Heap) (τ : Tape) (q : KV) : s_headers_tongues call N a0 H τ q = funK call N fn_headers_tongues [a0] H τ q := by kernel_rfl
def e_headers_tongues (call : CallK) (N : Nat) (vs : List V) (H : Heap) (τ : Tape) (q : KV) : Ans := match vs with | [a0] => s_headers_tongues call N a0 H τ q | _ => none
theorem e_headers_tongues_ok : EntOk fn_headers_tongues e_headers_tongues := by
  intro call N vs H τ q r h
  unfold e_headers_tongues at h
  split at h
  · rw [s_headers_tongues_eq] at h; exact h
  · cases h
theorem e_headers_tongues_nat : EntNat e_headers_tongues := by
  intro c hn N vs H τ q
  unfold e_headers_tongues
  split
  · rw [s_headers_tongues_eq, s_headers_tongues_eq]; exact funK_ent hn _ _ _ _ _ _
  · rfl
/-- ostiary/infra.Strip -/
def fn_infra_Strip : Fun := ⟨1,
  (.seq (.reg [⟨(some 2), none, (.p .mv), [(.c (.str []))], none⟩])
  (.keep [0] (.seq (.reg [⟨(some 3), none, (.p .mv), [(.t 0)], none⟩,
    ⟨(some 4), none, (.call 35), [(.t 3), (.c (.str (bs [9, 10, 12, 13, 32])))], none⟩,
    ⟨(some 2), none, (.p .mv), [(.t 4)], none⟩])
  (.keep [2] (.keep [2] .ret))))),
  [(.t 2)]⟩
def s_infra_Strip (call : CallK) (N : Nat) (a0 : V) (H : Heap) (τ : Tape) (q : KV) : Ans :=
  call f_strings_Trim [a0, (.str (bs [9, 10, 12, 13, 32]))] H τ fun v0 H1 τ2 =>
  q v0 H1 τ2
theorem s_infra_Strip_eq (call : CallK) (N : Nat) (a0 : V) (H : Heap) (τ : Tape) (q : KV) : s_infra_Strip call N a0 H τ q = funK call N fn_infra_Strip [a0] H τ q := by kernel_rfl
def e_infra_Strip (call : CallK) (N : Nat) (vs : List V) (H : Heap) (τ : Tape) (q : KV) : Ans := match vs with | [a0] => s_infra_Strip call N a0 H τ q | _ => none
theorem e_infra_Strip_ok : EntOk fn_infra_Strip e_infra_Strip := by
  intro call N vs H τ q r h
  unfold e_infra_Strip at h
  split at h
  · rw [s_infra_Strip_eq] at h; exact h
  · cases h
theorem e_infra_Strip_nat : EntNat e_infra_Strip := by
  intro c hn N vs H τ q
  unfold e_infra_Strip
  split
  · rw [s_infra_Strip_eq, s_infra_Strip_eq]; exact funK_ent hn _ _ _ _ _ _
  · rfl
/-- ostiary/headers.may -/
def fn_headers_may : Fun := ⟨2,
  (.seq (.reg [⟨(some 4), none, (.p .mv), [(.c (.str []))], none⟩,
    ⟨(some 5), none, (.p .mv), [(.c (.int .i64 (.ofNat 0)))], none⟩])
  (.keep [0, 1] (.seq (.reg [⟨(some 9), none, (.p .mv), [(.t 1)], none⟩,
    ⟨(some 10), none, (.call 32), [(.t 9)], none⟩,
    ⟨(some 8), none, (.p .mv), [(.t 10)], none⟩,
    ⟨(some 11), none, (.p (.extract 0)), [(.t 8)], none⟩,
    ⟨(some 12), none, (.p (.extract 1)), [(.t 8)], none⟩,
    ⟨(some 6), none, (.p .mv), [(.t 11)], none⟩,
    ⟨(some 7), none, (.p .mv), [(.t 12)], none⟩])
  (.keep [0, 6, 7] (.seq (.block 0
   (.seq (.reg [⟨(some 14), none, (.p .mv), [(.t 7)], none⟩,
     ⟨(some 15), none, (.p (.un .not)), [(.t 14)], none⟩,
     ⟨(some 16), none, (.p .mv), [(.t 15)], none⟩,
     ⟨(some 17), some (16, false), (.p .mv), [(.t 0)], none⟩,
     ⟨(some 18), some (16, false), (.call 71), [(.t 17)], none⟩,
     ⟨(some 19), some (16, false), (.p (.un .not)), [(.t 18)], none⟩,
     ⟨(some 20), none, (.p .pick), [(.t 16), (.c (.bool true)), (.t 19)], none⟩,
     ⟨(some 13), none, (.p .mv), [(.t 20)], none⟩])
   (.keep [0, 6, 13] (.cond (.t 13)
    (.seq (.reg [⟨(some 4), none, (.p .mv), [(.c (.str []))], none⟩,
      ⟨(some 5), none, (.p .mv), [(.c (.int .i64 (.ofNat 1)))], none⟩])
    (.keep [4, 5] (.keep [4, 5] .ret)))
    (.seq (.reg [⟨(some 22), none, (.p .mv), [(.t 0)], none⟩,
      ⟨(some 23), none, (.p .lenS), [(.t 22)], none⟩,
      ⟨(some 24), none, (.p (.bin .gtr)), [(.t 23), (.c (.int .i64 (.ofNat 4096)))], none⟩,
      ⟨(some 25), none, (.p .mv), [(.t 24)], none⟩,
      ⟨(some 26), some (25, false), (.p .mv), [(.t 6)], none⟩,
      ⟨(some 27), some (25, false), (.p .lenS), [(.t 26)], none⟩,
      ⟨(some 28), some (25, false), (.p (.bin .gtr)), [(.t 27), (.c (.int .i64 (.ofNat 4096)))], none⟩,
      ⟨(some 29), none, (.p .pick), [(.t 25), (.c (.bool true)), (.t 28)], none⟩,
      ⟨(some 21), none, (.p .mv), [(.t 29)], none⟩])
    (.keep [6, 21] (.cond (.t 21)
     (.seq (.reg [⟨(some 4), none, (.p .mv), [(.c (.str []))], none⟩,
       ⟨(some 5), none, (.p .mv), [(.c (.int .i64 (.ofNat 3)))], none⟩])
     (.keep [4, 5] (.keep [4, 5] .ret)))
     .skip)))))))
  (.keep [6] (.seq (.reg [⟨(some 30), none, (.p .mv), [(.t 6)], none⟩,
    ⟨(some 4), none, (.p .mv), [(.t 30)], none⟩,
    ⟨(some 5), none, (.p .mv), [(.c (.int .i64 (.ofNat 0)))], none⟩])
  (.keep [4, 5] (.keep [4, 5] .ret))))))))),
  [(.t 4), (.t 5)]⟩
def s_headers_may (call : CallK) (N : Nat) (a0 a1 : V) (H : Heap) (τ : Tape) (q : KV) : Ans :=
  call f_headers_Value [a1] H τ fun v0 H1 τ2 =>
  someK (pExtract 0 [v0]) fun v3 =>
  someK (pExtract 1 [v0]) fun v4 =>
  unK .not v4 fun v5 =>
  gK v5 false (fun q' => q' a0 H1 τ2) H1 τ2 fun v6 H7 τ8 =>
  gK v5 false (fun q' => call f_infra_Token [v6] H7 τ8 q') H7 τ8 fun v9 H10 τ11 =>
  gK v5 false (fun q' => unK .not v9 fun v => q' v H10 τ11) H10 τ11 fun v12 H13 τ14 =>
  someK (pPick [v5, (.bool true), v12]) fun v15 =>
  condK v15
    (q (.tup [(.str []), (.int .i64 (.ofNat 1))]) H13 τ14)
    (someK (pLenS [a0]) fun v16 =>
  binK .gtr v16 (.int .i64 (.ofNat 4096)) fun v17 =>
  gK v17 false (fun q' => q' v3 H13 τ14) H13 τ14 fun v18 H19 τ20 =>
  gK v17 false (fun q' => someK (pLenS [v18]) fun v => q' v H19 τ20) H19 τ20 fun v21 H22 τ23 =>
  gK v17 false (fun q' => binK .gtr v21 (.int .i64 (.ofNat 4096)) fun v => q' v H22 τ23) H22 τ23 fun v24 H25 τ26 =>
  someK (pPick [v17, (.bool true), v24]) fun v27 =>
  condK v27
    (q (.tup [(.str []), (.int .i64 (.ofNat 3))]) H25 τ26)
    (q (.tup [v3, (.int .i64 (.ofNat 0))]) H25 τ26))
theorem s_headers_may_eq (call : CallK) (N : Nat) (a0 a1 : V) (H : Heap) (τ : Tape) (q : KV) : s_headers_may call N a0 a1 H τ q = funK call N fn_headers_may [a0, a1] H τ q := by kernel_rfl
def e_headers_may (call : CallK) (N : Nat) (vs : List V) (H : Heap) (τ : Tape) (q : KV) : Ans := match vs with | [a0, a1] => s_headers_may call N a0 a1 H τ q | _ => none
theorem e_headers_may_ok : EntOk fn_headers_may e_headers_may := by
  intro call N vs H τ q r h
  unfold e_headers_may at h
  split at h
  · rw [s_headers_may_eq] at h; exact h
  · cases h
theorem e_headers_may_nat : EntNat e_headers_may := by
  intro c hn N vs H τ q
  unfold e_headers_may
  split
  · rw [s_headers_may_eq, s_headers_may_eq]; exact funK_ent hn _ _ _ _ _ _
  · rfl
/-- slices.Clone[[]ostiary/api.Header,ostiary/api.Header] -/
def fn_slices_Clone_Header : Fun := ⟨1,
  (.seq (.reg [⟨(some 2), none, (.p .mv), [(.c .nils)], none⟩])
  (.keep [0] (.seq (.seq (.reg [⟨(some 3), none, (.p .mv), [(.t 0)], none⟩,
    ⟨(some 4), none, (.p (.eq false .slice)), [(.t 3), (.c .nils)], none⟩])
  (.keep [0, 4] (.cond (.t 4)
   (.seq (.reg [⟨(some 2), none, (.p .mv), [(.c .nils)], none⟩])
   (.keep [2] (.keep [2] .ret)))
   .skip)))
  (.keep [0] (.seq (.reg [⟨(some 5), none, (.e (.buildSlice 0 2 [] [])), [], none⟩,
    ⟨(some 6), none, (.p .mv), [(.t 0)], none⟩,
    ⟨(some 7), none, (.e (.append 2 32)), [(.t 5), (.t 6)], none⟩,
    ⟨(some 2), none, (.p .mv), [(.t 7)], none⟩])
  (.keep [2] (.keep [2] .ret))))))),
  [(.t 2)]⟩
def s_slices_Clone_Header (call : CallK) (N : Nat) (a0 : V) (H : Heap) (τ : Tape) (q : KV) : Ans :=
  someK (pEq false .slice [a0, .nils]) fun v0 =>
  condK v0
    (q .nils H τ)
    (effK (eBuildSlice 0 2 [] [] [] H τ) fun v1 H2 τ3 =>
  effK (eAppend 2 32 [v1, a0] H2 τ3) fun v4 H5 τ6 =>
  q v4 H5 τ6)
theorem s_slices_Clone_Header_eq (call : CallK) (N : Nat) (a0 : V) (H : Heap) (τ : Tape) (q : KV) : s_slices_Clone_Header call N a0 H τ q = funK call N fn_slices_Clone_Header [a0] H τ q := by kernel_rfl
def e_slices_Clone_Header (call : CallK) (N : Nat) (vs : List V) (H : Heap) (τ : Tape) (q : KV) : Ans := match vs with | [a0] => s_slices_Clone_Header call N a0 H τ q | _ => none
theorem e_slices_Clone_Header_ok : EntOk fn_slices_Clone_Header e_slices_Clone_Header := by
  intro call N vs H τ q r h
  unfold e_slices_Clone_Header at h
  split at h
  · rw [s_slices_Clone_Header_eq] at h; exact h
  · cases h
theorem e_slices_Clone_Header_nat : EntNat e_slices_Clone_Header := by
  intro c hn N vs H τ q
  unfold e_slices_Clone_Header
  split
  · rw [s_slices_Clone_Header_eq, s_slices_Clone_Header_eq]; exact funK_ent hn _ _ _ _ _ _
  · rfl
/-- ostiary/headers.is -/
def fn_headers_is : Fun := ⟨2,
  (.seq (.reg [⟨(some 2), none, (.e .box), [(.t 0)], none⟩,
    ⟨(some 4), none, (.p .mv), [(.c (.bool false))], none⟩])
  (.keep [1, 2] (.seq (.reg [⟨(some 5), none, (.p (.fieldAddr 0)), [(.t 2)], none⟩,
    ⟨(some 6), none, (.l (.load none)), [(.t 5)], none⟩,
    ⟨(some 7), none, (.call 39), [(.t 6)], none⟩,
    ⟨(some 8), none, (.p .mv), [(.t 1)], none⟩,
    ⟨(some 9), none, (.call 39), [(.t 8)], none⟩,
    ⟨(some 10), none, (.p (.bin .eql)), [(.t 7), (.t 9)], none⟩,
    ⟨(some 4), none, (.p .mv), [(.t 10)], none⟩])
  (.keep [4] (.keep [4] .ret))))),
  [(.t 4)]⟩
def s_headers_is (call : CallK) (N : Nat) (a0 a1 : V) (H : Heap) (τ : Tape) (q : KV) : Ans :=
  effK (eBox [a0] H τ) fun v0 H1 τ2 =>
  someK (pFieldAddr 0 [v0]) fun v3 =>
  someK (lLoad1 [v3] H1) fun v4 =>
  call f_infra_Lower [v4] H1 τ2 fun v5 H6 τ7 =>
  call f_infra_Lower [a1] H6 τ7 fun v8 H9 τ10 =>
  binK .eql v5 v8 fun v11 =>
  q v11 H9 τ10
theorem s_headers_is_eq (call : CallK) (N : Nat) (a0 a1 : V) (H : Heap) (τ : Tape) (q : KV) : s_headers_is call N a0 a1 H τ q = funK call N fn_headers_is [a0, a1] H τ q := by kernel_rfl
def e_headers_is (call : CallK) (N : Nat) (vs : List V) (H : Heap) (τ : Tape) (q : KV) : Ans := match vs with | [a0, a1] => s_headers_is call N a0 a1 H τ q | _ => none
theorem e_headers_is_ok : EntOk fn_headers_is e_headers_is := by
  intro call N vs H τ q r h
  unfold e_headers_is at h
  split at h
  · rw [s_headers_is_eq] at h; exact h
  · cases h
theorem e_headers_is_nat : EntNat e_headers_is := by
  intro c hn N vs H τ q
  unfold e_headers_is
  split
  · rw [s_headers_is_eq, s_headers_is_eq]; exact funK_ent hn _ _ _ _ _ _
  · rfl
/-- slices.DeleteFunc[[]ostiary/api.Header,ostiary/api.Header] -/
def fn_slices_DeleteFunc_Header : Fun := ⟨2,
  (.seq (.reg [⟨(some 4), none, (.p .mv), [(.c .nils)], none⟩])
  (.keep [0, 1] (.seq (.reg [⟨(some 8), none, (.p .mv), [(.t 0)], none⟩,
    ⟨(some 9), none, (.p .mv), [(.t 1)], none⟩,
    ⟨(some 10), none, (.call 49), [(.t 8), (.t 9)], none⟩,
    ⟨(some 5), none, (.p .mv), [(.t 10)], none⟩])
  (.keep [0, 1, 5] (.seq (.seq (.reg [⟨(some 11), none, (.p .mv), [(.t 5)], none⟩,
    ⟨(some 12), none, (.p (.bin .eql)), [(.t 11), (.c (.int .i64 (.negSucc 0)))], none⟩])
  (.keep [0, 1, 5, 12] (.cond (.t 12)
   (.seq (.reg [⟨(some 13), none, (.p .mv), [(.t 0)], none⟩,
     ⟨(some 4), none, (.p .mv), [(.t 13)], none⟩])
   (.keep [4] (.keep [4] .ret)))
   .skip)))
  (.keep [0, 1, 5] (.seq (.seq (.reg [⟨(some 14), none, (.p .mv), [(.t 5)], none⟩,
    ⟨(some 15), none, (.p (.bin .add)), [(.t 14), (.c (.int .i64 (.ofNat 1)))], none⟩,
    ⟨(some 6), none, (.p .mv), [(.t 15)], none⟩])
  (.keep [0, 1, 5, 6] (.block 0
   (.loop
    (.keep [0, 1, 5, 6] (.seq (.seq (.reg [⟨(some 16), none, (.p .mv), [(.t 6)], none⟩,
      ⟨(some 17), none, (.p .mv), [(.t 0)], none⟩,
      ⟨(some 18), none, (.p .len), [(.t 17)], none⟩,
      ⟨(some 19), none, (.p (.bin .lss)), [(.t 16), (.t 18)], none⟩])
    (.keep [0, 1, 5, 6, 19] (.cond (.t 19)
     .skip
     (.keep [0, 5] (.exit 0)))))
    (.keep [0, 1, 5, 6] (.seq (.block 1
     (.seq (.reg [⟨(some 22), none, (.p .mv), [(.t 0)], none⟩,
       ⟨(some 23), none, (.p .mv), [(.t 6)], none⟩,
       ⟨(some 24), none, (.p (.slIdx 2)), [(.t 22), (.t 23)], none⟩,
       ⟨(some 25), none, (.l (.load (some 2))), [(.t 24)], none⟩,
       ⟨(some 7), none, (.e (.alloc [(.str []), (.str [])])), [], none⟩,
       ⟨none, none, (.e (.store 2)), [(.t 7), (.t 25)], none⟩])
     (.keep [0, 1, 5, 6, 7] (.seq (.reg [⟨(some 26), none, (.p .mv), [(.t 1)], none⟩,
       ⟨(some 27), none, (.l (.load (some 2))), [(.t 7)], none⟩,
       ⟨(some 28), none, .callv, [(.t 26), (.t 27)], none⟩,
       ⟨(some 29), none, (.p (.un .not)), [(.t 28)], none⟩])
     (.keep [0, 1, 5, 6, 7, 29] (.cond (.t 29)
      (.seq (.reg [⟨(some 30), none, (.p .mv), [(.t 0)], none⟩,
        ⟨(some 31), none, (.p .mv), [(.t 5)], none⟩,
        ⟨(some 32), none, (.l (.load (some 2))), [(.t 7)], none⟩,
        ⟨(some 33), none, (.p (.slIdx 2)), [(.t 30), (.t 31)], none⟩,
        ⟨none, none, (.e (.store 2)), [(.t 33), (.t 32)], none⟩])
      (.keep [0, 1, 5, 6] (.reg [⟨(some 34), none, (.p .mv), [(.t 5)], none⟩,
        ⟨(some 35), none, (.p (.bin .add)), [(.t 34), (.c (.int .i64 (.ofNat 1)))], none⟩,
        ⟨(some 5), none, (.p .mv), [(.t 35)], none⟩])))
      .skip))))))
    (.keep [0, 1, 5, 6] (.reg [⟨(some 20), none, (.p .mv), [(.t 6)], none⟩,
      ⟨(some 21), none, (.p (.bin .add)), [(.t 20), (.c (.int .i64 (.ofNat 1)))], none⟩,
      ⟨(some 6), none, (.p .mv), [(.t 21)], none⟩]))))))))))
  (.keep [0, 5] (.seq (.reg [⟨(some 36), none, (.p .mv), [(.t 0)], none⟩,
    ⟨(some 37), none, (.p .mv), [(.t 5)], none⟩,
    ⟨(some 38), none, (.p (.slSlice 2 true false false)), [(.t 36), (.t 37)], none⟩,
    ⟨none, none, (.e (.clear 2 [(.str []), (.str [])])), [(.t 38)], none⟩])
  (.keep [0, 5] (.seq (.reg [⟨(some 39), none, (.p .mv), [(.t 0)], none⟩,
    ⟨(some 40), none, (.p .mv), [(.t 5)], none⟩,
    ⟨(some 41), none, (.p (.slSlice 2 false true false)), [(.t 39), (.t 40)], none⟩,
    ⟨(some 4), none, (.p .mv), [(.t 41)], none⟩])
  (.keep [4] (.keep [4] .ret))))))))))))),
  [(.t 4)]⟩
def s_slices_DeleteFunc_Header_j0 (call : CallK) (N : Nat) (q : KV) (st : St) (τ : Tape) : Ans :=
  match st with
  | ⟨fr, H⟩ =>
  getK fr 0 fun t0 =>
  getK fr 5 fun t5 =>
  someK (pSlSlice 2 true false false [t0, t5]) fun v5 =>
  effK (eClear 2 [(.str []), (.str [])] [v5] H τ) fun v6 H7 τ8 =>
  someK (pSlSlice 2 false true false [t0, t5]) fun v9 =>
  q v9 H7 τ8
def s_slices_DeleteFunc_Header_j2 (call : CallK) (N : Nat) (k : KC) (st : St) (τ : Tape) : Ans :=
  match st with
  | ⟨fr, H⟩ =>
  getK fr 0 fun t0 =>
  getK fr 1 fun t1 =>
  getK fr 5 fun t5 =>
  getK fr 6 fun t6 =>
  binK .add t6 (.int .i64 (.ofNat 1)) fun v12 =>
  k .normal ⟨(T.set (T.set (T.set (T.set (T.set (T.set (T.set .leaf 0 t0) 1 t1) 5 t5) 6 t6) 20 t6) 21 v12) 6 v12), H⟩ τ
def s_slices_DeleteFunc_Header_l1 (call : CallK) (N : Nat) (st : St) (τ : Tape) (k : KC) : Ans :=
  match st with
  | ⟨fr, H⟩ =>
  getK fr 0 fun t0 =>
  getK fr 1 fun t1 =>
  getK fr 5 fun t5 =>
  getK fr 6 fun t6 =>
  someK (pLen [t0]) fun v10 =>
  binK .lss t6 v10 fun v11 =>
  condK v11
    (someK (pSlIdx 2 [t0, t6]) fun v13 =>
  someK (lLoadN 2 [v13] H) fun v14 =>
  effK (eAlloc [(.str []), (.str [])] [] H τ) fun v15 H16 τ17 =>
  effK (eStore 2 [v15, v14] H16 τ17) fun v18 H19 τ20 =>
  someK (lLoadN 2 [v15] H19) fun v21 =>
  opK call .callv [t1, v21] H19 τ20 fun v22 H23 τ24 =>
  unK .not v22 fun v25 =>
  condK v25
    (someK (lLoadN 2 [v15] H23) fun v26 =>
  someK (pSlIdx 2 [t0, t5]) fun v27 =>
  effK (eStore 2 [v27, v26] H23 τ24) fun v28 H29 τ30 =>
  binK .add t5 (.int .i64 (.ofNat 1)) fun v31 =>
  s_slices_DeleteFunc_Header_j2 call N k ⟨(T.set (T.set (T.set (T.set (T.set (T.set (T.set .leaf 0 t0) 1 t1) 5 t5) 6 t6) 34 t5) 35 v31) 5 v31), H29⟩ τ30)
    (s_slices_DeleteFunc_Header_j2 call N k ⟨(T.set (T.set (T.set (T.set (T.set (T.set .leaf 0 t0) 1 t1) 5 t5) 6 t6) 7 v15) 29 v25), H23⟩ τ24))
    (k (.exit 0) ⟨(T.set (T.set .leaf 0 t0) 5 t5), H⟩ τ)
def s_slices_DeleteFunc_Header (call : CallK) (N : Nat) (a0 a1 : V) (H : Heap) (τ : Tape) (q : KV) : Ans :=
  call f_slices_IndexFunc_Header [a0, a1] H τ fun v0 H1 τ2 =>
  binK .eql v0 (.int .i64 (.negSucc 0)) fun v3 =>
  condK v3
    (q a0 H1 τ2)
    (binK .add v0 (.int .i64 (.ofNat 1)) fun v4 =>
  loopK (s_slices_DeleteFunc_Header_l1 call N) N ⟨(T.set (T.set (T.set (T.set .leaf 0 a0) 1 a1) 5 v0) 6 v4), H1⟩ τ2 (blockK 0 (seqK (s_slices_DeleteFunc_Header_j0 call N q) (endK [(.t 4)] q))))
theorem s_slices_DeleteFunc_Header_eq (call : CallK) (N : Nat) (a0 a1 : V) (H : Heap) (τ : Tape) (q : KV) : s_slices_DeleteFunc_Header call N a0 a1 H τ q = funK call N fn_slices_DeleteFunc_Header [a0, a1] H τ q := by kernel_rfl
def e_slices_DeleteFunc_Header (call : CallK) (N : Nat) (vs : List V) (H : Heap) (τ : Tape) (q : KV) : Ans := match vs with | [a0, a1] => s_slices_DeleteFunc_Header call N a0 a1 H τ q | _ => none
theorem e_slices_DeleteFunc_Header_ok : EntOk fn_slices_DeleteFunc_Header e_slices_DeleteFunc_Header := by
  intro call N vs H τ q r h
  unfold e_slices_DeleteFunc_Header at h
  split at h
  · rw [s_slices_DeleteFunc_Header_eq] at h; exact h
  · cases h
theorem e_slices_DeleteFunc_Header_nat : EntNat e_slices_DeleteFunc_Header := by
  intro c hn N vs H τ q
  unfold e_slices_DeleteFunc_Header
  split
  · rw [s_slices_DeleteFunc_Header_eq, s_slices_DeleteFunc_Header_eq]; exact funK_ent hn _ _ _ _ _ _
  · rfl
/-- ostiary/headers.Drop$1 -/
def fn_headers_Drop_1 : Fun := ⟨2,
  (.seq (.reg [⟨(some 2), none, (.e .box), [(.t 0)], none⟩,
    ⟨(some 3), none, (.p .mv), [(.c (.bool false))], none⟩])
  (.keep [1, 2] (.seq (.reg [⟨(some 4), none, (.l (.load (some 2))), [(.t 2)], none⟩,
    ⟨(some 5), none, (.l (.load none)), [(.t 1)], none⟩,
    ⟨(some 6), none, (.call 45), [(.t 4), (.t 5)], none⟩,
    ⟨(some 3), none, (.p .mv), [(.t 6)], none⟩])
  (.keep [3] (.keep [3] .ret))))),
  [(.t 3)]⟩
def s_headers_Drop_1 (call : CallK) (N : Nat) (a0 a1 : V) (H : Heap) (τ : Tape) (q : KV) : Ans :=
  effK (eBox [a0] H τ) fun v0 H1 τ2 =>
  someK (lLoadN 2 [v0] H1) fun v3 =>
  someK (lLoad1 [a1] H1) fun v4 =>
  call f_headers_is [v3, v4] H1 τ2 fun v5 H6 τ7 =>
  q v5 H6 τ7
theorem s_headers_Drop_1_eq (call : CallK) (N : Nat) (a0 a1 : V) (H : Heap) (τ : Tape) (q : KV) : s_headers_Drop_1 call N a0 a1 H τ q = funK call N fn_headers_Drop_1 [a0, a1] H τ q := by kernel_rfl
def e_headers_Drop_1 (call : CallK) (N : Nat) (vs : List V) (H : Heap) (τ : Tape) (q : KV) : Ans := match vs with | [a0, a1] => s_headers_Drop_1 call N a0 a1 H τ q | _ => none
theorem e_headers_Drop_1_ok : EntOk fn_headers_Drop_1 e_headers_Drop_1 := by
  intro call N vs H τ q r h
  unfold e_headers_Drop_1 at h
  split at h
  · rw [s_headers_Drop_1_eq] at h; exact h
  · cases h
theorem e_headers_Drop_1_nat : EntNat e_headers_Drop_1 := by
  intro c hn N vs H τ q
  unfold e_headers_Drop_1
  split
  · rw [s_headers_Drop_1_eq, s_headers_Drop_1_eq]; exact funK_ent hn _ _ _ _ _ _
  · rfl
/-- slices.IndexFunc[[]ostiary/api.Header,ostiary/api.Header] -/
def fn_slices_IndexFunc_Header : Fun := ⟨2,
  (.seq (.reg [⟨(some 4), none, (.p .mv), [(.c (.int .i64 (.ofNat 0)))], none⟩])
  (.keep [0, 1] (.seq (.seq (.reg [⟨(some 6), none, (.p .mv), [(.t 0)], none⟩,
    ⟨(some 7), none, (.p .len), [(.t 6)], none⟩,
    ⟨(some 8), none, (.p .mv), [(.c (.int .i64 (.ofNat 0)))], none⟩])
  (.keep [0, 1, 7, 8] (.block 0
   (.loop
    (.keep [0, 1, 7, 8] (.seq (.reg [⟨(some 9), none, (.p (.bin .lss)), [(.t 8), (.t 7)], none⟩])
    (.keep [0, 1, 7, 8, 9] (.seq (.cond (.t 9)
     .skip
     (.keep [] (.exit 0)))
    (.keep [0, 1, 7, 8] (.seq (.block 1
     (.seq (.reg [⟨(some 10), none, (.p .mv), [(.t 8)], none⟩,
       ⟨(some 5), none, (.p .mv), [(.t 10)], none⟩])
     (.keep [0, 1, 5, 7, 8] (.seq (.reg [⟨(some 11), none, (.p .mv), [(.t 1)], none⟩,
       ⟨(some 12), none, (.p .mv), [(.t 0)], none⟩,
       ⟨(some 13), none, (.p .mv), [(.t 5)], none⟩,
       ⟨(some 14), none, (.p (.slIdx 2)), [(.t 12), (.t 13)], none⟩,
       ⟨(some 15), none, (.l (.load (some 2))), [(.t 14)], none⟩,
       ⟨(some 16), none, .callv, [(.t 11), (.t 15)], none⟩])
     (.keep [0, 1, 5, 7, 8, 16] (.cond (.t 16)
      (.seq (.reg [⟨(some 17), none, (.p .mv), [(.t 5)], none⟩,
        ⟨(some 4), none, (.p .mv), [(.t 17)], none⟩])
      (.keep [4] (.keep [4] .ret)))
      .skip))))))
    (.keep [0, 1, 7, 8] (.reg [⟨(some 18), none, (.p (.bin .add)), [(.t 8), (.c (.int .i64 (.ofNat 1)))], none⟩,
      ⟨(some 8), none, (.p .mv), [(.t 18)], none⟩]))))))))))))
  (.keep [] (.seq (.reg [⟨(some 4), none, (.p .mv), [(.c (.int .i64 (.negSucc 0)))], none⟩])
  (.keep [4] (.keep [4] .ret))))))),
  [(.t 4)]⟩
def s_slices_IndexFunc_Header_j0 (call : CallK) (N : Nat) (q : KV) (st : St) (τ : Tape) : Ans :=
  match st with
  | ⟨fr, H⟩ =>
  q (.int .i64 (.negSucc 0)) H τ
def s_slices_IndexFunc_Header_l1 (call : CallK) (N : Nat) (st : St) (τ : Tape) (k : KC) : Ans :=
  match st with
  | ⟨fr, H⟩ =>
  getK fr 0 fun t0 =>
  getK fr 1 fun t1 =>
  getK fr 7 fun t7 =>
  getK fr 8 fun t8 =>
  binK .lss t8 t7 fun v1 =>
  condK v1
    (someK (pSlIdx 2 [t0, t8]) fun v2 =>
  someK (lLoadN 2 [v2] H) fun v3 =>
  opK call .callv [t1, v3] H τ fun v4 H5 τ6 =>
  condK v4
    (k .ret ⟨(T.set .leaf 4 t8), H5⟩ τ6)
    (binK .add t8 (.int .i64 (.ofNat 1)) fun v7 =>
  k .normal ⟨(T.set (T.set (T.set (T.set (T.set (T.set .leaf 0 t0) 1 t1) 7 t7) 8 t8) 18 v7) 8 v7), H5⟩ τ6))
    (k (.exit 0) ⟨.leaf, H⟩ τ)
def s_slices_IndexFunc_Header (call : CallK) (N : Nat) (a0 a1 : V) (H : Heap) (τ : Tape) (q : KV) : Ans :=
  someK (pLen [a0]) fun v0 =>
  loopK (s_slices_IndexFunc_Header_l1 call N) N ⟨(T.set (T.set (T.set (T.set .leaf 0 a0) 1 a1) 7 v0) 8 (.int .i64 (.ofNat 0))), H⟩ τ (blockK 0 (seqK (s_slices_IndexFunc_Header_j0 call N q) (endK [(.t 4)] q)))
theorem s_slices_IndexFunc_Header_eq (call : CallK) (N : Nat) (a0 a1 : V) (H : Heap) (τ : Tape) (q : KV) : s_slices_IndexFunc_Header call N a0 a1 H τ q = funK call N fn_slices_IndexFunc_Header [a0, a1] H τ q := by kernel_rfl
def e_slices_IndexFunc_Header (call : CallK) (N : Nat) (vs : List V) (H : Heap) (τ : Tape) (q : KV) : Ans := match vs with | [a0, a1] => s_slices_IndexFunc_Header call N a0 a1 H τ q | _ => none
theorem e_slices_IndexFunc_Header_ok : EntOk fn_slices_IndexFunc_Header e_slices_IndexFunc_Header := by
  intro call N vs H τ q r h
  unfold e_slices_IndexFunc_Header at h
  split at h
  · rw [s_slices_IndexFunc_Header_eq] at h; exact h
  · cases h
theorem e_slices_IndexFunc_Header_nat : EntNat e_slices_IndexFunc_Header := by
  intro c hn N vs H τ q
  unfold e_slices_IndexFunc_Header
  split
  · rw [s_slices_IndexFunc_Header_eq, s_slices_IndexFunc_Header_eq]; exact funK_ent hn _ _ _ _ _ _
  · rfl
/-- ostiary/headers.Set$1 -/
def fn_headers_Set_1 : Fun := ⟨2,
  (.seq (.reg [⟨(some 2), none, (.e .box), [(.t 0)], none⟩,
    ⟨(some 3), none, (.p .mv), [(.c (.bool false))], none⟩])
  (.keep [1, 2] (.seq (.reg [⟨(some 4), none, (.l (.load (some 2))), [(.t 2)], none⟩,
    ⟨(some 5), none, (.l (.load none)), [(.t 1)], none⟩,
    ⟨(some 6), none, (.call 45), [(.t 4), (.t 5)], none⟩,
    ⟨(some 3), none, (.p .mv), [(.t 6)], none⟩])
  (.keep [3] (.keep [3] .ret))))),
  [(.t 3)]⟩
def s_headers_Set_1 (call : CallK) (N : Nat) (a0 a1 : V) (H : Heap) (τ : Tape) (q : KV) : Ans :=
  effK (eBox [a0] H τ) fun v0 H1 τ2 =>
  someK (lLoadN 2 [v0] H1) fun v3 =>
  someK (lLoad1 [a1] H1) fun v4 =>
  call f_headers_is [v3, v4] H1 τ2 fun v5 H6 τ7 =>
  q v5 H6 τ7
theorem s_headers_Set_1_eq (call : CallK) (N : Nat) (a0 a1 : V) (H : Heap) (τ : Tape) (q : KV) : s_headers_Set_1 call N a0 a1 H τ q = funK call N fn_headers_Set_1 [a0, a1] H τ q := by kernel_rfl
def e_headers_Set_1 (call : CallK) (N : Nat) (vs : List V) (H : Heap) (τ : Tape) (q : KV) : Ans := match vs with | [a0, a1] => s_headers_Set_1 call N a0 a1 H τ q | _ => none
theorem e_headers_Set_1_ok : EntOk fn_headers_Set_1 e_headers_Set_1 := by
  intro call N vs H τ q r h
  unfold e_headers_Set_1 at h
  split at h
  · rw [s_headers_Set_1_eq] at h; exact h
  · cases h
theorem e_headers_Set_1_nat : EntNat e_headers_Set_1 := by
  intro c hn N vs H τ q
  unfold e_headers_Set_1
  split
  · rw [s_headers_Set_1_eq, s_headers_Set_1_eq]; exact funK_ent hn _ _ _ _ _ _
  · rfl
/-- ostiary/ostiaryref5.fits -/
def fn_ref5_fits : Fun := ⟨2,
  (.seq (.reg [⟨(some 4), none, (.p .mv), [(.c (.str []))], none⟩,
    ⟨(some 5), none, (.p .mv), [(.c (.int .i64 (.ofNat 0)))], none⟩])
  (.keep [0, 1] (.seq (.reg [⟨(some 9), none, (.p .mv), [(.t 1)], none⟩,
    ⟨(some 10), none, (.call 76), [(.t 9)], none⟩,
    ⟨(some 8), none, (.p .mv), [(.t 10)], none⟩,
    ⟨(some 11), none, (.p (.extract 0)), [(.t 8)], none⟩,
    ⟨(some 12), none, (.p (.extract 1)), [(.t 8)], none⟩,
    ⟨(some 6), none, (.p .mv), [(.t 11)], none⟩,
    ⟨(some 7), none, (.p .mv), [(.t 12)], none⟩])
  (.keep [0, 6, 7] (.seq (.seq (.reg [⟨(some 13), none, (.p .mv), [(.t 0)], none⟩,
    ⟨(some 14), none, (.call 77), [(.t 13)], none⟩,
    ⟨(some 15), none, (.p (.un .not)), [(.t 14)], none⟩,
    ⟨(some 16), none, (.p .mv), [(.t 15)], none⟩,
    ⟨(some 17), some (16, false), (.p .mv), [(.t 7)], none⟩,
    ⟨(some 18), some (16, false), (.p (.un .not)), [(.t 17)], none⟩,
    ⟨(some 19), none, (.p .pick), [(.t 16), (.c (.bool true)), (.t 18)], none⟩])
  (.keep [0, 6, 19] (.cond (.t 19)
   (.seq (.reg [⟨(some 4), none, (.p .mv), [(.c (.str []))], none⟩,
     ⟨(some 5), none, (.p .mv), [(.c (.int .i64 (.ofNat 1)))], none⟩])
   (.keep [4, 5] (.keep [4, 5] .ret)))
   .skip)))
  (.keep [0, 6] (.seq (.seq (.reg [⟨(some 20), none, (.p .mv), [(.t 0)], none⟩,
    ⟨(some 21), none, (.p .lenS), [(.t 20)], none⟩,
    ⟨(some 22), none, (.p (.bin .gtr)), [(.t 21), (.c (.int .i64 (.ofNat 4096)))], none⟩,
    ⟨(some 23), none, (.p .mv), [(.t 22)], none⟩,
    ⟨(some 24), some (23, false), (.p .mv), [(.t 6)], none⟩,
    ⟨(some 25), some (23, false), (.p .lenS), [(.t 24)], none⟩,
    ⟨(some 26), some (23, false), (.p (.bin .gtr)), [(.t 25), (.c (.int .i64 (.ofNat 4096)))], none⟩,
    ⟨(some 27), none, (.p .pick), [(.t 23), (.c (.bool true)), (.t 26)], none⟩])
  (.keep [6, 27] (.cond (.t 27)
   (.seq (.reg [⟨(some 4), none, (.p .mv), [(.c (.str []))], none⟩,
     ⟨(some 5), none, (.p .mv), [(.c (.int .i64 (.ofNat 3)))], none⟩])
   (.keep [4, 5] (.keep [4, 5] .ret)))
   .skip)))
  (.keep [6] (.seq (.reg [⟨(some 28), none, (.p .mv), [(.t 6)], none⟩,
    ⟨(some 4), none, (.p .mv), [(.t 28)], none⟩,
    ⟨(some 5), none, (.p .mv), [(.c (.int .i64 (.ofNat 0)))], none⟩])
  (.keep [4, 5] (.keep [4, 5] .ret))))))))))),
  [(.t 4), (.t 5)]⟩
def s_ref5_fits (call : CallK) (N : Nat) (a0 a1 : V) (H : Heap) (τ : Tape) (q : KV) : Ans :=
  call f_ref5_Value [a1] H τ fun v0 H1 τ2 =>
  someK (pExtract 0 [v0]) fun v3 =>
  someK (pExtract 1 [v0]) fun v4 =>
  call f_ref1_Token [a0] H1 τ2 fun v5 H6 τ7 =>
  unK .not v5 fun v8 =>
  gK v8 false (fun q' => q' v4 H6 τ7) H6 τ7 fun v9 H10 τ11 =>
  gK v8 false (fun q' => unK .not v9 fun v => q' v H10 τ11) H10 τ11 fun v12 H13 τ14 =>
  someK (pPick [v8, (.bool true), v12]) fun v15 =>
  condK v15
    (q (.tup [(.str []), (.int .i64 (.ofNat 1))]) H13 τ14)
    (someK (pLenS [a0]) fun v16 =>
  binK .gtr v16 (.int .i64 (.ofNat 4096)) fun v17 =>
  gK v17 false (fun q' => q' v3 H13 τ14) H13 τ14 fun v18 H19 τ20 =>
  gK v17 false (fun q' => someK (pLenS [v18]) fun v => q' v H19 τ20) H19 τ20 fun v21 H22 τ23 =>
  gK v17 false (fun q' => binK .gtr v21 (.int .i64 (.ofNat 4096)) fun v => q' v H22 τ23) H22 τ23 fun v24 H25 τ26 =>
  someK (pPick [v17, (.bool true), v24]) fun v27 =>
  condK v27
    (q (.tup [(.str []), (.int .i64 (.ofNat 3))]) H25 τ26)
    (q (.tup [v3, (.int .i64 (.ofNat 0))]) H25 τ26))
theorem s_ref5_fits_eq (call : CallK) (N : Nat) (a0 a1 : V) (H : Heap) (τ : Tape) (q : KV) : s_ref5_fits call N a0 a1 H τ q = funK call N fn_ref5_fits [a0, a1] H τ q := by kernel_rfl
def e_ref5_fits (call : CallK) (N : Nat) (vs : List V) (H : Heap) (τ : Tape) (q : KV) : Ans := match vs with | [a0, a1] => s_ref5_fits call N a0 a1 H τ q | _ => none
theorem e_ref5_fits_ok : EntOk fn_ref5_fits e_ref5_fits := by
  intro call N vs H τ q r h
  unfold e_ref5_fits at h
  split at h
  · rw [s_ref5_fits_eq] at h; exact h
  · cases h
theorem e_ref5_fits_nat : EntNat e_ref5_fits := by
  intro c hn N vs H τ q
  unfold e_ref5_fits
  split
  · rw [s_ref5_fits_eq, s_ref5_fits_eq]; exact funK_ent hn _ _ _ _ _ _
  · rfl
/-- strings.ContainsAny -/
def fn_strings_ContainsAny : Fun := ⟨2,
  (.seq (.reg [⟨(some 4), none, (.p .mv), [(.c (.bool false))], none⟩])
  (.keep [0, 1] (.seq (.reg [⟨(some 5), none, (.p .mv), [(.t 0)], none⟩,
    ⟨(some 6), none, (.p .mv), [(.t 1)], none⟩,
    ⟨(some 7), none, (.call 78), [(.t 5), (.t 6)], none⟩,
    ⟨(some 8), none, (.p (.bin .geq)), [(.t 7), (.c (.int .i64 (.ofNat 0)))], none⟩,
    ⟨(some 4), none, (.p .mv), [(.t 8)], none⟩])
  (.keep [4] (.keep [4] .ret))))),
  [(.t 4)]⟩
def s_strings_ContainsAny (call : CallK) (N : Nat) (a0 a1 : V) (H : Heap) (τ : Tape) (q : KV) : Ans :=
  call f_strings_IndexAny [a0, a1] H τ fun v0 H1 τ2 =>
  binK .geq v0 (.int .i64 (.ofNat 0)) fun v3 =>
  q v3 H1 τ2
theorem s_strings_ContainsAny_eq (call : CallK) (N : Nat) (a0 a1 : V) (H : Heap) (τ : Tape) (q : KV) : s_strings_ContainsAny call N a0 a1 H τ q = funK call N fn_strings_ContainsAny [a0, a1] H τ q := by kernel_rfl
def e_strings_ContainsAny (call : CallK) (N : Nat) (vs : List V) (H : Heap) (τ : Tape) (q : KV) : Ans := match vs with | [a0, a1] => s_strings_ContainsAny call N a0 a1 H τ q | _ => none
theorem e_strings_ContainsAny_ok : EntOk fn_strings_ContainsAny e_strings_ContainsAny := by
  intro call N vs H τ q r h
  unfold e_strings_ContainsAny at h
  split at h
  · rw [s_strings_ContainsAny_eq] at h; exact h
  · cases h
theorem e_strings_ContainsAny_nat : EntNat e_strings_ContainsAny := by
  intro c hn N vs H τ q
  unfold e_strings_ContainsAny
  split
  · rw [s_strings_ContainsAny_eq, s_strings_ContainsAny_eq]; exact funK_ent hn _ _ _ _ _ _
  · rfl
/-- ostiary/ostiaryref1.Lower -/
def fn_ref1_Lower : Fun := ⟨1,
  (.seq (.reg [⟨(some 2), none, (.p .mv), [(.c (.str []))], none⟩])
  (.keep [0] (.seq (.reg [⟨(some 5), none, (.p .mv), [(.t 0)], none⟩,
    ⟨(some 6), none, (.e .strBytes), [(.t 5)], none⟩,
    ⟨(some 3), none, (.p .mv), [(.t 6)], none⟩])
  (.keep [3] (.seq (.seq (.reg [⟨(some 4), none, (.p .mv), [(.c (.int .i64 (.ofNat 0)))], none⟩])
  (.keep [3, 4] (.block 0
   (.loop
    (.keep [3, 4] (.seq (.seq (.reg [⟨(some 7), none, (.p .mv), [(.t 4)], none⟩,
      ⟨(some 8), none, (.p .mv), [(.t 3)], none⟩,
      ⟨(some 9), none, (.p .len), [(.t 8)], none⟩,
      ⟨(some 10), none, (.p (.bin .lss)), [(.t 7), (.t 9)], none⟩])
    (.keep [3, 4, 10] (.cond (.t 10)
     .skip
     (.keep [3] (.exit 0)))))
    (.keep [3, 4] (.seq (.block 1
     (.seq (.reg [⟨(some 13), none, (.p .mv), [(.t 3)], none⟩,
       ⟨(some 14), none, (.p .mv), [(.t 4)], none⟩,
       ⟨(some 15), none, (.p (.slIdx 1)), [(.t 13), (.t 14)], none⟩,
       ⟨(some 16), none, (.l (.load none)), [(.t 15)], none⟩,
       ⟨(some 17), none, (.p (.bin .geq)), [(.t 16), (.c (.int .u8 (.ofNat 65)))], none⟩,
       ⟨(some 18), none, (.p .mv), [(.t 17)], none⟩,
       ⟨(some 19), some (18, true), (.p .mv), [(.t 3)], none⟩,
       ⟨(some 20), some (18, true), (.p .mv), [(.t 4)], none⟩,
       ⟨(some 21), some (18, true), (.p (.slIdx 1)), [(.t 19), (.t 20)], none⟩,
       ⟨(some 22), some (18, true), (.l (.load none)), [(.t 21)], none⟩,
       ⟨(some 23), some (18, true), (.p (.bin .leq)), [(.t 22), (.c (.int .u8 (.ofNat 90)))], none⟩,
       ⟨(some 24), none, (.p .pick), [(.t 18), (.t 23), (.c (.bool false))], none⟩])
     (.keep [3, 4, 24] (.cond (.t 24)
      (.reg [⟨(some 25), none, (.p .mv), [(.t 3)], none⟩,
        ⟨(some 26), none, (.p .mv), [(.t 4)], none⟩,
        ⟨(some 27), none, (.p .mv), [(.t 3)], none⟩,
        ⟨(some 28), none, (.p .mv), [(.t 4)], none⟩,
        ⟨(some 29), none, (.p (.slIdx 1)), [(.t 27), (.t 28)], none⟩,
        ⟨(some 30), none, (.l (.load none)), [(.t 29)], none⟩,
        ⟨(some 31), none, (.p (.bin .add)), [(.t 30), (.c (.int .u8 (.ofNat 32)))], none⟩,
        ⟨(some 32), none, (.p (.slIdx 1)), [(.t 25), (.t 26)], none⟩,
        ⟨none, none, (.e (.store 1)), [(.t 32), (.t 31)], none⟩])
      .skip))))
    (.keep [3, 4] (.reg [⟨(some 11), none, (.p .mv), [(.t 4)], none⟩,
      ⟨(some 12), none, (.p (.bin .add)), [(.t 11), (.c (.int .i64 (.ofNat 1)))], none⟩,
      ⟨(some 4), none, (.p .mv), [(.t 12)], none⟩]))))))))))
  (.keep [3] (.seq (.reg [⟨(some 33), none, (.p .mv), [(.t 3)], none⟩,
    ⟨(some 34), none, (.l .bytesStr), [(.t 33)], none⟩,
    ⟨(some 2), none, (.p .mv), [(.t 34)], none⟩])
  (.keep [2] (.keep [2] .ret))))))))),
  [(.t 2)]⟩
def s_ref1_Lower_j0 (call : CallK) (N : Nat) (q : KV) (st : St) (τ : Tape) : Ans :=
  match st with
  | ⟨fr, H⟩ =>
  getK fr 3 fun t3 =>
  someK (lBytesStr [t3] H) fun v3 =>
  q v3 H τ
def s_ref1_Lower_j2 (call : CallK) (N : Nat) (k : KC) (st : St) (τ : Tape) : Ans :=
  match st with
  | ⟨fr, H⟩ =>
  getK fr 3 fun t3 =>
  getK fr 4 fun t4 =>
  binK .add t4 (.int .i64 (.ofNat 1)) fun v6 =>
  k .normal ⟨(T.set (T.set (T.set (T.set (T.set .leaf 3 t3) 4 t4) 11 t4) 12 v6) 4 v6), H⟩ τ
def s_ref1_Lower_l1 (call : CallK) (N : Nat) (st : St) (τ : Tape) (k : KC) : Ans :=
  match st with
  | ⟨fr, H⟩ =>
  getK fr 3 fun t3 =>
  getK fr 4 fun t4 =>
  someK (pLen [t3]) fun v4 =>
  binK .lss t4 v4 fun v5 =>
  condK v5
    (someK (pSlIdx 1 [t3, t4]) fun v7 =>
  someK (lLoad1 [v7] H) fun v8 =>
  binK .geq v8 (.int .u8 (.ofNat 65)) fun v9 =>
  gK v9 true (fun q' => q' t3 H τ) H τ fun v10 H11 τ12 =>
  gK v9 true (fun q' => q' t4 H11 τ12) H11 τ12 fun v13 H14 τ15 =>
  gK v9 true (fun q' => someK (pSlIdx 1 [v10, v13]) fun v => q' v H14 τ15) H14 τ15 fun v16 H17 τ18 =>
  gK v9 true (fun q' => someK (lLoad1 [v16] H17) fun v => q' v H17 τ18) H17 τ18 fun v19 H20 τ21 =>
  gK v9 true (fun q' => binK .leq v19 (.int .u8 (.ofNat 90)) fun v => q' v H20 τ21) H20 τ21 fun v22 H23 τ24 =>
  someK (pPick [v9, v22, (.bool false)]) fun v25 =>
  condK v25
    (someK (pSlIdx 1 [t3, t4]) fun v26 =>
  someK (lLoad1 [v26] H23) fun v27 =>
  binK .add v27 (.int .u8 (.ofNat 32)) fun v28 =>
  someK (pSlIdx 1 [t3, t4]) fun v29 =>
  effK (eStore 1 [v29, v28] H23 τ24) fun v30 H31 τ32 =>
  s_ref1_Lower_j2 call N k ⟨(T.set (T.set (T.set (T.set (T.set (T.set (T.set (T.set (T.set (T.set (T.set .leaf 3 t3) 4 t4) 24 v25) 25 t3) 26 t4) 27 t3) 28 t4) 29 v26) 30 v27) 31 v28) 32 v29), H31⟩ τ32)
    (s_ref1_Lower_j2 call N k ⟨(T.set (T.set (T.set .leaf 3 t3) 4 t4) 24 v25), H23⟩ τ24))
    (k (.exit 0) ⟨(T.set .leaf 3 t3), H⟩ τ)
def s_ref1_Lower (call : CallK) (N : Nat) (a0 : V) (H : Heap) (τ : Tape) (q : KV) : Ans :=
  effK (eStrBytes [a0] H τ) fun v0 H1 τ2 =>
  loopK (s_ref1_Lower_l1 call N) N ⟨(T.set (T.set .leaf 3 v0) 4 (.int .i64 (.ofNat 0))), H1⟩ τ2 (blockK 0 (seqK (s_ref1_Lower_j0 call N q) (endK [(.t 2)] q)))
theorem s_ref1_Lower_eq (call : CallK) (N : Nat) (a0 : V) (H : Heap) (τ : Tape) (q : KV) : s_ref1_Lower call N a0 H τ q = funK call N fn_ref1_Lower [a0] H τ q := by kernel_rfl
def e_ref1_Lower (call : CallK) (N : Nat) (vs : List V) (H : Heap) (τ : Tape) (q : KV) : Ans := match vs with | [a0] => s_ref1_Lower call N a0 H τ q | _ => none
theorem e_ref1_Lower_ok : EntOk fn_ref1_Lower e_ref1_Lower := by
  intro call N vs H τ q r h
  unfold e_ref1_Lower at h
  split at h
  · rw [s_ref1_Lower_eq] at h; exact h
  · cases h
theorem e_ref1_Lower_nat : EntNat e_ref1_Lower := by
  intro c hn N vs H τ q
  unfold e_ref1_Lower
  split
  · rw [s_ref1_Lower_eq, s_ref1_Lower_eq]; exact funK_ent hn _ _ _ _ _ _
  · rfl
/-- strings.trimLeftByte -/
def fn_strings_trimLeftByte : Fun := ⟨2,
  (.seq (.reg [⟨(some 4), none, (.p .mv), [(.c (.str []))], none⟩])
  (.keep [0, 1] (.seq (.block 0
   (.loop
    (.keep [0, 1] (.seq (.seq (.reg [⟨(some 5), none, (.p .mv), [(.t 0)], none⟩,
      ⟨(some 6), none, (.p .lenS), [(.t 5)], none⟩,
      ⟨(some 7), none, (.p (.bin .gtr)), [(.t 6), (.c (.int .i64 (.ofNat 0)))], none⟩,
      ⟨(some 8), none, (.p .mv), [(.t 7)], none⟩,
      ⟨(some 9), some (8, true), (.p .mv), [(.t 0)], none⟩,
      ⟨(some 10), some (8, true), (.p .strIndex), [(.t 9), (.c (.int .i64 (.ofNat 0)))], none⟩,
      ⟨(some 11), some (8, true), (.p .mv), [(.t 1)], none⟩,
      ⟨(some 12), some (8, true), (.p (.bin .eql)), [(.t 10), (.t 11)], none⟩,
      ⟨(some 13), none, (.p .pick), [(.t 8), (.t 12), (.c (.bool false))], none⟩])
    (.keep [0, 1, 13] (.cond (.t 13)
     .skip
     (.keep [0] (.exit 0)))))
    (.keep [0, 1] (.block 1
     (.reg [⟨(some 14), none, (.p .mv), [(.t 0)], none⟩,
       ⟨(some 15), none, (.p (.strSlice true false)), [(.t 14), (.c (.int .i64 (.ofNat 1)))], none⟩,
       ⟨(some 0), none, (.p .mv), [(.t 15)], none⟩])))))))
  (.keep [0] (.seq (.reg [⟨(some 16), none, (.p .mv), [(.t 0)], none⟩,
    ⟨(some 4), none, (.p .mv), [(.t 16)], none⟩])
  (.keep [4] (.keep [4] .ret))))))),
  [(.t 4)]⟩
def s_strings_trimLeftByte_j0 (call : CallK) (N : Nat) (q : KV) (st : St) (τ : Tape) : Ans :=
  match st with
  | ⟨fr, H⟩ =>
  getK fr 0 fun t0 =>
  q t0 H τ
def s_strings_trimLeftByte_l1 (call : CallK) (N : Nat) (st : St) (τ : Tape) (k : KC) : Ans :=
  match st with
  | ⟨fr, H⟩ =>
  getK fr 0 fun t0 =>
  getK fr 1 fun t1 =>
  someK (pLenS [t0]) fun v0 =>
  binK .gtr v0 (.int .i64 (.ofNat 0)) fun v1 =>
  gK v1 true (fun q' => q' t0 H τ) H τ fun v2 H3 τ4 =>
  gK v1 true (fun q' => someK (pStrIndex [v2, (.int .i64 (.ofNat 0))]) fun v => q' v H3 τ4) H3 τ4 fun v5 H6 τ7 =>
  gK v1 true (fun q' => q' t1 H6 τ7) H6 τ7 fun v8 H9 τ10 =>
  gK v1 true (fun q' => binK .eql v5 v8 fun v => q' v H9 τ10) H9 τ10 fun v11 H12 τ13 =>
  someK (pPick [v1, v11, (.bool false)]) fun v14 =>
  condK v14
    (someK (pStrSlice true false [t0, (.int .i64 (.ofNat 1))]) fun v15 =>
  k .normal ⟨(T.set (T.set (T.set (T.set (T.set .leaf 0 t0) 1 t1) 14 t0) 15 v15) 0 v15), H12⟩ τ13)
    (k (.exit 0) ⟨(T.set .leaf 0 t0), H12⟩ τ13)
def s_strings_trimLeftByte (call : CallK) (N : Nat) (a0 a1 : V) (H : Heap) (τ : Tape) (q : KV) : Ans :=
  loopK (s_strings_trimLeftByte_l1 call N) N ⟨(T.set (T.set .leaf 0 a0) 1 a1), H⟩ τ (blockK 0 (seqK (s_strings_trimLeftByte_j0 call N q) (endK [(.t 4)] q)))
theorem s_strings_trimLeftByte_eq (call : CallK) (N : Nat) (a0 a1 : V) (H : Heap) (τ : Tape) (q : KV) : s_strings_trimLeftByte call N a0 a1 H τ q = funK call N fn_strings_trimLeftByte [a0, a1] H τ q := by kernel_rfl
def e_strings_trimLeftByte (call : CallK) (N : Nat) (vs : List V) (H : Heap) (τ : Tape) (q : KV) : Ans := match vs with | [a0, a1] => s_strings_trimLeftByte call N a0 a1 H τ q | _ => none
theorem e_strings_trimLeftByte_ok : EntOk fn_strings_trimLeftByte e_strings_trimLeftByte := by
  intro call N vs H τ q r h
  unfold e_strings_trimLeftByte at h
  split at h
  · rw [s_strings_trimLeftByte_eq] at h; exact h
  · cases h
theorem e_strings_trimLeftByte_nat : EntNat e_strings_trimLeftByte := by
  intro c hn N vs H τ q
  unfold e_strings_trimLeftByte
  split
  · rw [s_strings_trimLeftByte_eq, s_strings_trimLeftByte_eq]; exact funK_ent hn _ _ _ _ _ _
  · rfl
end Go.Am.X
