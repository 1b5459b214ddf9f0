/- The abstract machine, printed functions of the program, and what they are shown to be. -/
import Derived.Test.YtlpedafppdffoaaDoorFNUM4
import Derived.KernelRfl
set_option linter.unusedVariables false
namespace Go.Am.X
set_option maxRecDepth 1000000
abbrev iR (n : Nat) (o : AOp) (a : List O) : Ins := ⟨some n, none, o, a, none⟩
abbrev iG (n g : Nat) (b : Bool) (o : AOp) (a : List O) : Ins := ⟨some n, some (g, b), o, a, none⟩
abbrev f_law20_FilterNumbers : Nat := 6
abbrev f_filter_Own : Nat := 15
abbrev f_filter_Share : Nat := 16
abbrev f_law20_known : Nat := 18
abbrev f_law20_h : Nat := 19
abbrev f_keep_SameResponse : Nat := 23
abbrev f_filter_Fail : Nat := 24
abbrev f_filter_Hide : Nat := 25
abbrev f_filter_HideRedirect : Nat := 26
abbrev f_book_Same_Header : Nat := 27
abbrev f_headers_Get : Nat := 30
abbrev f_infra_Token : Nat := 34
abbrev f_infra_Lower : Nat := 35
abbrev f_filter_shown : Nat := 38
abbrev f_filter_Own_1 : Nat := 39
abbrev f_cors_Exposed : Nat := 40
abbrev f_filter_Share_1 : Nat := 41
abbrev f_slices_Contains_string : Nat := 42
abbrev f_book_Same_byte : Nat := 43
abbrev f_headers_is : Nat := 48
abbrev f_strings_Join : Nat := 49
abbrev f_strings_IndexByte : Nat := 52
abbrev f_infra_mapped : Nat := 53
abbrev f_infra_Lower_1 : Nat := 54
abbrev f_slices_Clone_byte : Nat := 55
abbrev f_headers_Split : Nat := 56
abbrev f_cors_names : Nat := 57
abbrev f_slices_Index_string : Nat := 58
abbrev f_stringslite_IndexByte : Nat := 67
abbrev f_strings_Trim : Nat := 68
abbrev f_strings_trimLeftByte : Nat := 87
abbrev f_strings_trimRightByte : Nat := 88
abbrev f_strings_makeASCIISet : Nat := 89
abbrev f_strings_trimLeftASCII : Nat := 90
abbrev f_strings_trimRightASCII : Nat := 91
abbrev f_strings_trimLeftUnicode : Nat := 92
abbrev f_strings_trimRightUnicode : Nat := 93
abbrev f_asciiSet_contains : Nat := 107
abbrev f_utf8_DecodeRuneInString : Nat := 108
abbrev f_strings_ContainsRune : Nat := 109
abbrev f_utf8_DecodeLastRuneInString : Nat := 110
abbrev f_utf8_decodeRuneInStringSlow : Nat := 123
abbrev f_strings_IndexRune : Nat := 124
abbrev f_utf8_RuneStart : Nat := 125
abbrev f_utf8_ValidRune : Nat := 146
abbrev f_bytealg_Cutover : Nat := 147
/-- ostiary/ostiarylaw20.FilterNumbers -/
def fn_law20_FilterNumbers : Fun := ⟨0, (.seq (.reg [iR 0 (.p .mv) [(.c (.bool false))]]) (.keep [] (.seq (.reg [iR 3 (.call 19) [(.c (.str (bs [120]))), (.c (.str (bs [98])))], iR 4 (.call 19) [(.c (.str (bs [65, 99, 99, 101, 115, 115, 45, 67, 111, 110, 116, 114, 111, 108, 45, 69, 120, 112, 111, 115, 101, 45, 72, 101, 97, 100, 101, 114, 115]))), (.c (.str (bs [88])))], iR 5 (.call 19) [(.c (.str (bs [121]))), (.c (.str (bs [99])))], iR 6 (.e (.buildSlice 3 2 (repl 6 [(.str [])]) [(0, 2), (2, 2), (4, 2)])) [(.t 3), (.t 4), (.t 5)], iR 7 (.p (.build [(.int .i64 (.ofNat 0)), .nils, .nils] [(1, 1)])) [(.t 6)], iR 8 (.call 16) [(.t 7), (.c (.str [])), (.c (.bool true))], iR 1 (.e (.alloc [(.int .i64 (.ofNat 0)), (.int .i64 (.ofNat 0)), .nils, .nils, (.str [])])) [], ⟨none, none, (.e (.store 5)), [(.t 1), (.t 8)], none⟩])
    (.keep [1] (.seq (.reg [iR 9 (.call 19) [(.c (.str (bs [120]))), (.c (.str (bs [98])))], iR 10 (.call 19) [(.c (.str (bs [115, 101, 116, 45, 99, 111, 111, 107, 105, 101, 50]))), (.c (.str (bs [99])))], iR 11 (.call 19) [(.c (.str (bs [65, 99, 99, 101, 115, 115, 45, 67, 111, 110, 116, 114, 111, 108, 45, 69, 120, 112, 111, 115, 101, 45, 72, 101, 97, 100, 101, 114, 115]))), (.c (.str (bs [42, 44, 32, 115, 101, 116, 45, 99, 111, 111, 107, 105, 101, 50])))], iR 12 (.e (.buildSlice 3 2 (repl 6 [(.str [])]) [(0, 2), (2, 2), (4, 2)])) [(.t 9), (.t 10), (.t 11)], iR 13 (.p (.build [(.int .i64 (.ofNat 0)), .nils, .nils] [(1, 1)])) [(.t 12)], iR 14 (.call 16) [(.t 13), (.c (.str [])), (.c (.bool false))], iR 2 (.e (.alloc [(.int .i64 (.ofNat 0)), (.int .i64 (.ofNat 0)), .nils, .nils, (.str [])])) [], ⟨none, none, (.e (.store 5)), [(.t 2), (.t 14)], none⟩])
    (.keep [1, 2] (.seq (.draw [iR 15 (.call 24) [], iR 16 (.p (.build [(.int .i64 (.ofNat 0)), (.int .i64 (.ofNat 0)), .nils, .nils, (.str [])] [(0, 1)])) [(.c (.int .i64 (.ofNat 1)))], iR 17 (.call 23) [(.t 15), (.t 16)], iR 18 (.p .mv) [(.t 17)], iG 19 18 true (.call 25) [], iG 20 18 true (.p (.build [(.int .i64 (.ofNat 0)), (.int .i64 (.ofNat 0)), .nils, .nils, (.str [])] [(0, 1)])) [(.c (.int .i64 (.ofNat 4)))], iG 21 18 true (.call 23) [(.t 19), (.t 20)], iR 22 (.p .pick) [(.t 18), (.t 21), (.c (.bool false))], iR 23 (.p .mv) [(.t 22)], iG 24 23 true (.call 26) [(.c (.str (bs [118])))], iG 25 23 true (.p (.build [(.int .i64 (.ofNat 0)), (.int .i64 (.ofNat 0)), .nils, .nils, (.str [])] [(0, 1), (4, 1)])) [(.c (.int .i64 (.ofNat 5))), (.c (.str (bs [118])))], iG 26 23 true (.call 23) [(.t 24), (.t 25)], iR 27 (.p .pick) [(.t 23), (.t 26), (.c (.bool false))],
    iR 28 (.p .mv) [(.t 27)], iG 29 28 true (.p (.fieldAddr 2)) [(.t 1)], ⟨(some 30), some (28, true), (.l (.load none)), [(.t 29)], some (6, 8)⟩, iG 31 28 true (.call 19) [(.c (.str (bs [120]))), (.c (.str (bs [98])))], iG 32 28 true (.e (.buildSlice 1 2 [(.str []), (.str [])] [(0, 2)])) [(.t 31)], iG 33 28 true (.call 27) [(.t 30), (.t 32)], iR 34 (.p .pick) [(.t 28), (.t 33), (.c (.bool false))], iR 35 (.p .mv) [(.t 34)], iG 36 35 true (.p (.fieldAddr 2)) [(.t 2)], iG 37 35 true (.l (.load none)) [(.t 36)], iG 38 35 true (.p .len) [(.t 37)], iG 39 35 true (.p (.bin .eql)) [(.t 38), (.c (.int .i64 (.ofNat 2)))], iR 40 (.p .pick) [(.t 35), (.t 39), (.c (.bool false))], iR 41 (.p .mv) [(.t 40)], iG 42 41 true (.call 18) [], iR 43 (.p .pick) [(.t 41), (.t 42), (.c (.bool false))], iR 0 (.p .mv) [(.t 43)]]) (.keep [0] (.keep [0] .ret))))))))), [(.t 0)]⟩
def s_law20_FilterNumbers (call : CallK) (N : Nat) (H : Heap) (τ : Tape) (q : KV) : Ans := call f_law20_h [(.str (bs [120])), (.str (bs [98]))] H τ fun v0 H1 τ2 => call f_law20_h [(.str (bs [65, 99, 99, 101, 115, 115, 45, 67, 111, 110, 116, 114, 111, 108, 45, 69, 120, 112, 111, 115, 101, 45, 72, 101, 97, 100, 101, 114, 115])), (.str (bs [88]))] H1 τ2 fun v3 H4 τ5 => call f_law20_h [(.str (bs [121])), (.str (bs [99]))] H4 τ5 fun v6 H7 τ8 => effK (eBuildSlice 3 2 (repl 6 [(.str [])]) [(0, 2), (2, 2), (4, 2)] [v0, v3, v6] H7 τ8) fun v9 H10 τ11 => someK (pBuild [(.int .i64 (.ofNat 0)), .nils, .nils] [(1, 1)] [v9]) fun v12 => call f_filter_Share [v12, (.str []), (.bool true)] H10 τ11 fun v13 H14 τ15 => effK (eAlloc [(.int .i64 (.ofNat 0)), (.int .i64 (.ofNat 0)), .nils, .nils, (.str [])] [] H14 τ15) fun v16 H17 τ18 => effK (eStore 5 [v16, v13] H17 τ18) fun v19 H20 τ21 =>
    call f_law20_h [(.str (bs [120])), (.str (bs [98]))] H20 τ21 fun v22 H23 τ24 => call f_law20_h [(.str (bs [115, 101, 116, 45, 99, 111, 111, 107, 105, 101, 50])), (.str (bs [99]))] H23 τ24 fun v25 H26 τ27 => call f_law20_h [(.str (bs [65, 99, 99, 101, 115, 115, 45, 67, 111, 110, 116, 114, 111, 108, 45, 69, 120, 112, 111, 115, 101, 45, 72, 101, 97, 100, 101, 114, 115])), (.str (bs [42, 44, 32, 115, 101, 116, 45, 99, 111, 111, 107, 105, 101, 50]))] H26 τ27 fun v28 H29 τ30 => effK (eBuildSlice 3 2 (repl 6 [(.str [])]) [(0, 2), (2, 2), (4, 2)] [v22, v25, v28] H29 τ30) fun v31 H32 τ33 => someK (pBuild [(.int .i64 (.ofNat 0)), .nils, .nils] [(1, 1)] [v31]) fun v34 => call f_filter_Share [v34, (.str []), (.bool false)] H32 τ33 fun v35 H36 τ37 => effK (eAlloc [(.int .i64 (.ofNat 0)), (.int .i64 (.ofNat 0)), .nils, .nils, (.str [])] [] H36 τ37) fun v38 H39 τ40 =>
    effK (eStore 5 [v38, v35] H39 τ40) fun v41 H42 τ43 => call f_filter_Fail [] H42 τ43 fun v44 H45 τ46 => someK (pBuild [(.int .i64 (.ofNat 0)), (.int .i64 (.ofNat 0)), .nils, .nils, (.str [])] [(0, 1)] [(.int .i64 (.ofNat 1))]) fun v47 => call f_keep_SameResponse [v44, v47] H45 τ46 fun v48 H49 τ50 => gK v48 true (fun q' => call f_filter_Hide [] H49 τ50 q') H49 τ50 fun v51 H52 τ53 => gK v48 true (fun q' => someK (pBuild [(.int .i64 (.ofNat 0)), (.int .i64 (.ofNat 0)), .nils, .nils, (.str [])] [(0, 1)] [(.int .i64 (.ofNat 4))]) fun v => q' v H52 τ53) H52 τ53 fun v54 H55 τ56 => gK v48 true (fun q' => call f_keep_SameResponse [v51, v54] H55 τ56 q') H55 τ56 fun v57 H58 τ59 => someK (pPick [v48, v57, (.bool false)]) fun v60 => gK v60 true (fun q' => call f_filter_HideRedirect [(.str (bs [118]))] H58 τ59 q') H58 τ59 fun v61 H62 τ63 =>
    gK v60 true (fun q' => someK (pBuild [(.int .i64 (.ofNat 0)), (.int .i64 (.ofNat 0)), .nils, .nils, (.str [])] [(0, 1), (4, 1)] [(.int .i64 (.ofNat 5)), (.str (bs [118]))]) fun v => q' v H62 τ63) H62 τ63 fun v64 H65 τ66 => gK v60 true (fun q' => call f_keep_SameResponse [v61, v64] H65 τ66 q') H65 τ66 fun v67 H68 τ69 => someK (pPick [v60, v67, (.bool false)]) fun v70 => gK v70 true (fun q' => someK (pFieldAddr 2 [v16]) fun v => q' v H68 τ69) H68 τ69 fun v71 H72 τ73 => gK v70 true (fun q' => someK (lLoad1 [v71] H72) fun v => q' v H72 τ73) H72 τ73 fun v74 H75 τ76 => gK v70 true (fun q' => call f_law20_h [(.str (bs [120])), (.str (bs [98]))] H75 τ76 q') H75 τ76 fun v77 H78 τ79 => gK v70 true (fun q' => effK (eBuildSlice 1 2 [(.str []), (.str [])] [(0, 2)] [v77] H78 τ79) q') H78 τ79 fun v80 H81 τ82 =>
    gK v70 true (fun q' => call f_book_Same_Header [v74, v80] H81 τ82 q') H81 τ82 fun v83 H84 τ85 => someK (pPick [v70, v83, (.bool false)]) fun v86 => gK v86 true (fun q' => someK (pFieldAddr 2 [v38]) fun v => q' v H84 τ85) H84 τ85 fun v87 H88 τ89 => gK v86 true (fun q' => someK (lLoad1 [v87] H88) fun v => q' v H88 τ89) H88 τ89 fun v90 H91 τ92 => gK v86 true (fun q' => someK (pLen [v90]) fun v => q' v H91 τ92) H91 τ92 fun v93 H94 τ95 => gK v86 true (fun q' => binK .eql v93 (.int .i64 (.ofNat 2)) fun v => q' v H94 τ95) H94 τ95 fun v96 H97 τ98 => someK (pPick [v86, v96, (.bool false)]) fun v99 => gK v99 true (fun q' => call f_law20_known [] H97 τ98 q') H97 τ98 fun v100 H101 τ102 => someK (pPick [v99, v100, (.bool false)]) fun v103 =>
    bif chkLoads [H42, H45, H49, H52, H58, H62, H68, H78, H81, H84, H101] (match wantsV v70 true with | some true => (((.load none), [v71], 6, 8) :: []) | _ => []) then q v103 H101 τ102 else none
theorem s_law20_FilterNumbers_eq (call : CallK) (N : Nat) (H : Heap) (τ : Tape) (q : KV) : s_law20_FilterNumbers call N  H τ q = funK call N fn_law20_FilterNumbers [] H τ q := by kernel_rfl
def e_law20_FilterNumbers (call : CallK) (N : Nat) (vs : List V) (H : Heap) (τ : Tape) (q : KV) : Ans := match vs with | [] => s_law20_FilterNumbers call N  H τ q | _ => none
theorem e_law20_FilterNumbers_ok : EntOk fn_law20_FilterNumbers e_law20_FilterNumbers := by
  intro call N vs H τ q r h
  unfold e_law20_FilterNumbers at h
  split at h
  · rw [s_law20_FilterNumbers_eq] at h; exact h
  · cases h
theorem e_law20_FilterNumbers_nat : EntNat e_law20_FilterNumbers := by
  intro c hn N vs H τ q
  unfold e_law20_FilterNumbers
  split
  · rw [s_law20_FilterNumbers_eq, s_law20_FilterNumbers_eq]; exact funK_ent hn _ _ _ _ _ _
  · rfl
/-- ostiary/filter.Own -/
def fn_filter_Own : Fun := ⟨2, (.seq (.reg [iR 2 (.e .box) [(.t 0)], iR 4 (.e (.alloc [(.int .i64 (.ofNat 0)), (.int .i64 (.ofNat 0)), .nils, .nils, (.str [])])) []]) (.keep [1, 2, 4] (.seq (.reg [iR 5 (.l (.load (some 3))) [(.t 2)], iR 6 (.p .mv) [(.t 1)], iR 7 (.call 38) [(.c (.int .i64 (.ofNat 2))), (.t 5), (.t 6), (.c (.func 39 [] []))], ⟨none, none, (.e (.store 5)), [(.t 4), (.t 7)], none⟩]) (.keep [4] (.keep [4] .ret))))), [(.cell 4 (some 5))]⟩
def s_filter_Own (call : CallK) (N : Nat) (a0 a1 : V) (H : Heap) (τ : Tape) (q : KV) : Ans := effK (eBox [a0] H τ) fun v0 H1 τ2 => effK (eAlloc [(.int .i64 (.ofNat 0)), (.int .i64 (.ofNat 0)), .nils, .nils, (.str [])] [] H1 τ2) fun v3 H4 τ5 => someK (lLoadN 3 [v0] H4) fun v6 => call f_filter_shown [(.int .i64 (.ofNat 2)), v6, a1, (.func f_filter_Own_1 [] [])] H4 τ5 fun v7 H8 τ9 => effK (eStore 5 [v3, v7] H8 τ9) fun v10 H11 τ12 => someK (results ⟨(T.set .leaf 4 v3), H11⟩ [(.cell 4 (some 5))]) fun v => q v H11 τ12
theorem s_filter_Own_eq (call : CallK) (N : Nat) (a0 a1 : V) (H : Heap) (τ : Tape) (q : KV) : s_filter_Own call N a0 a1 H τ q = funK call N fn_filter_Own [a0, a1] H τ q := by kernel_rfl
def e_filter_Own (call : CallK) (N : Nat) (vs : List V) (H : Heap) (τ : Tape) (q : KV) : Ans := match vs with | [a0, a1] => s_filter_Own call N a0 a1 H τ q | _ => none
theorem e_filter_Own_ok : EntOk fn_filter_Own e_filter_Own := by
  intro call N vs H τ q r h
  unfold e_filter_Own at h
  split at h
  · rw [s_filter_Own_eq] at h; exact h
  · cases h
theorem e_filter_Own_nat : EntNat e_filter_Own := by
  intro c hn N vs H τ q
  unfold e_filter_Own
  split
  · rw [s_filter_Own_eq, s_filter_Own_eq]; exact funK_ent hn _ _ _ _ _ _
  · rfl
/-- ostiary/filter.Share -/
def fn_filter_Share : Fun := ⟨3, (.seq (.reg [iR 3 (.e .box) [(.t 0)], iR 6 (.e (.alloc [(.int .i64 (.ofNat 0)), (.int .i64 (.ofNat 0)), .nils, .nils, (.str [])])) []]) (.keep [1, 2, 3, 6] (.seq (.reg [iR 10 (.p (.fieldAddr 1)) [(.t 3)], iR 11 (.l (.load none)) [(.t 10)], iR 12 (.p .mv) [(.t 2)], iR 13 (.call 40) [(.t 11), (.t 12)], iR 9 (.p .mv) [(.t 13)], iR 14 (.p (.extract 0)) [(.t 9)], iR 15 (.p (.extract 1)) [(.t 9)], iR 7 (.e (.alloc [.nils])) [], iR 8 (.e (.alloc [(.bool false)])) [], ⟨none, none, (.e (.store 1)), [(.t 7), (.t 14)], none⟩, ⟨none, none, (.e (.store 1)), [(.t 8), (.t 15)], none⟩]) (.keep [1, 3, 6, 7, 8] (.seq (.reg [iR 16 (.l (.load (some 3))) [(.t 3)], iR 17 (.p .mv) [(.t 1)], iR 18 (.p (.mkFunc 41 0)) [(.t 8), (.t 7)], iR 19 (.call 38) [(.c (.int .i64 (.ofNat 3))), (.t 16), (.t 17), (.t 18)], ⟨none, none, (.e (.store 5)), [(.t 6), (.t 19)], none⟩])
    (.keep [6] (.keep [6] .ret))))))), [(.cell 6 (some 5))]⟩
def s_filter_Share (call : CallK) (N : Nat) (a0 a1 a2 : V) (H : Heap) (τ : Tape) (q : KV) : Ans := effK (eBox [a0] H τ) fun v0 H1 τ2 => effK (eAlloc [(.int .i64 (.ofNat 0)), (.int .i64 (.ofNat 0)), .nils, .nils, (.str [])] [] H1 τ2) fun v3 H4 τ5 => someK (pFieldAddr 1 [v0]) fun v6 => someK (lLoad1 [v6] H4) fun v7 => call f_cors_Exposed [v7, a2] H4 τ5 fun v8 H9 τ10 => someK (pExtract 0 [v8]) fun v11 => someK (pExtract 1 [v8]) fun v12 => effK (eAlloc [.nils] [] H9 τ10) fun v13 H14 τ15 => effK (eAlloc [(.bool false)] [] H14 τ15) fun v16 H17 τ18 => effK (eStore 1 [v13, v11] H17 τ18) fun v19 H20 τ21 => effK (eStore 1 [v16, v12] H20 τ21) fun v22 H23 τ24 => someK (lLoadN 3 [v0] H23) fun v25 => someK (some (V.func f_filter_Share_1 (List.take 0 [v16, v13]) (List.drop 0 [v16, v13]))) fun v26 => call f_filter_shown [(.int .i64 (.ofNat 3)), v25, a1, v26] H23 τ24 fun v27 H28 τ29 =>
    effK (eStore 5 [v3, v27] H28 τ29) fun v30 H31 τ32 => someK (results ⟨(T.set .leaf 6 v3), H31⟩ [(.cell 6 (some 5))]) fun v => q v H31 τ32
theorem s_filter_Share_eq (call : CallK) (N : Nat) (a0 a1 a2 : V) (H : Heap) (τ : Tape) (q : KV) : s_filter_Share call N a0 a1 a2 H τ q = funK call N fn_filter_Share [a0, a1, a2] H τ q := by kernel_rfl
def e_filter_Share (call : CallK) (N : Nat) (vs : List V) (H : Heap) (τ : Tape) (q : KV) : Ans := match vs with | [a0, a1, a2] => s_filter_Share call N a0 a1 a2 H τ q | _ => none
theorem e_filter_Share_ok : EntOk fn_filter_Share e_filter_Share := by
  intro call N vs H τ q r h
  unfold e_filter_Share at h
  split at h
  · rw [s_filter_Share_eq] at h; exact h
  · cases h
theorem e_filter_Share_nat : EntNat e_filter_Share := by
  intro c hn N vs H τ q
  unfold e_filter_Share
  split
  · rw [s_filter_Share_eq, s_filter_Share_eq]; exact funK_ent hn _ _ _ _ _ _
  · rfl
/-- ostiary/ostiarylaw20.known -/
def fn_law20_known : Fun := ⟨0, (.seq (.reg [iR 0 (.p .mv) [(.c (.bool false))]]) (.keep [] (.seq (.reg [iR 3 (.call 19) [(.c (.str (bs [83, 101, 116, 45, 67, 111, 111, 107, 105, 101]))), (.c (.str (bs [97])))], iR 4 (.call 19) [(.c (.str (bs [88]))), (.c (.str (bs [98])))], iR 5 (.e (.buildSlice 2 2 [(.str []), (.str []), (.str []), (.str [])] [(0, 2), (2, 2)])) [(.t 3), (.t 4)], iR 6 (.p (.build [(.int .i64 (.ofNat 0)), .nils, .nils] [(0, 1), (1, 1)])) [(.c (.int .i64 (.ofNat 200))), (.t 5)], iR 7 (.call 15) [(.t 6), (.c (.str (bs [117])))], iR 1 (.e (.alloc [(.int .i64 (.ofNat 0)), (.int .i64 (.ofNat 0)), .nils, .nils, (.str [])])) [], ⟨none, none, (.e (.store 5)), [(.t 1), (.t 7)], none⟩]) (.keep [1] (.seq (.reg [iR 8 (.call 19) [(.c (.str (bs [88]))), (.c (.str (bs [98])))], iR 9 (.call 19) [(.c (.str (bs [101, 120, 112, 105, 114, 101, 115]))), (.c (.str (bs [99])))],
    iR 10 (.e (.buildSlice 2 2 [(.str []), (.str []), (.str []), (.str [])] [(0, 2), (2, 2)])) [(.t 8), (.t 9)], iR 11 (.p (.build [(.int .i64 (.ofNat 0)), .nils, .nils] [(0, 1), (1, 1)])) [(.c (.int .i64 (.ofNat 200))), (.t 10)], iR 12 (.call 16) [(.t 11), (.c (.str (bs [117]))), (.c (.bool false))], iR 2 (.e (.alloc [(.int .i64 (.ofNat 0)), (.int .i64 (.ofNat 0)), .nils, .nils, (.str [])])) [], ⟨none, none, (.e (.store 5)), [(.t 2), (.t 12)], none⟩]) (.keep [1, 2] (.seq (.draw [⟨(some 13), none, (.l (.load (some 5))), [(.t 1)], some (0, 2)⟩, iR 14 (.call 19) [(.c (.str (bs [88]))), (.c (.str (bs [98])))], iR 15 (.e (.buildSlice 1 2 [(.str []), (.str [])] [(0, 2)])) [(.t 14)],
    iR 16 (.p (.build [(.int .i64 (.ofNat 0)), (.int .i64 (.ofNat 0)), .nils, .nils, (.str [])] [(0, 1), (1, 1), (2, 1), (4, 1)])) [(.c (.int .i64 (.ofNat 2))), (.c (.int .i64 (.ofNat 200))), (.t 15), (.c (.str (bs [117])))], iR 17 (.call 23) [(.t 13), (.t 16)], iR 18 (.p .mv) [(.t 17)], ⟨(some 19), some (18, true), (.l (.load (some 5))), [(.t 2)], some (3, 5)⟩, iG 20 18 true (.call 19) [(.c (.str (bs [101, 120, 112, 105, 114, 101, 115]))), (.c (.str (bs [99])))], iG 21 18 true (.e (.buildSlice 1 2 [(.str []), (.str [])] [(0, 2)])) [(.t 20)], iG 22 18 true (.p (.build [(.int .i64 (.ofNat 0)), (.int .i64 (.ofNat 0)), .nils, .nils, (.str [])] [(0, 1), (1, 1), (2, 1), (4, 1)])) [(.c (.int .i64 (.ofNat 3))), (.c (.int .i64 (.ofNat 200))), (.t 21), (.c (.str (bs [117])))], iG 23 18 true (.call 23) [(.t 19), (.t 22)], iR 24 (.p .pick) [(.t 18), (.t 23), (.c (.bool false))],
    iR 0 (.p .mv) [(.t 24)]]) (.keep [0] (.keep [0] .ret))))))))), [(.t 0)]⟩
def s_law20_known (call : CallK) (N : Nat) (H : Heap) (τ : Tape) (q : KV) : Ans := call f_law20_h [(.str (bs [83, 101, 116, 45, 67, 111, 111, 107, 105, 101])), (.str (bs [97]))] H τ fun v0 H1 τ2 => call f_law20_h [(.str (bs [88])), (.str (bs [98]))] H1 τ2 fun v3 H4 τ5 => effK (eBuildSlice 2 2 [(.str []), (.str []), (.str []), (.str [])] [(0, 2), (2, 2)] [v0, v3] H4 τ5) fun v6 H7 τ8 => someK (pBuild [(.int .i64 (.ofNat 0)), .nils, .nils] [(0, 1), (1, 1)] [(.int .i64 (.ofNat 200)), v6]) fun v9 => call f_filter_Own [v9, (.str (bs [117]))] H7 τ8 fun v10 H11 τ12 => effK (eAlloc [(.int .i64 (.ofNat 0)), (.int .i64 (.ofNat 0)), .nils, .nils, (.str [])] [] H11 τ12) fun v13 H14 τ15 => effK (eStore 5 [v13, v10] H14 τ15) fun v16 H17 τ18 => call f_law20_h [(.str (bs [88])), (.str (bs [98]))] H17 τ18 fun v19 H20 τ21 =>
    call f_law20_h [(.str (bs [101, 120, 112, 105, 114, 101, 115])), (.str (bs [99]))] H20 τ21 fun v22 H23 τ24 => effK (eBuildSlice 2 2 [(.str []), (.str []), (.str []), (.str [])] [(0, 2), (2, 2)] [v19, v22] H23 τ24) fun v25 H26 τ27 => someK (pBuild [(.int .i64 (.ofNat 0)), .nils, .nils] [(0, 1), (1, 1)] [(.int .i64 (.ofNat 200)), v25]) fun v28 => call f_filter_Share [v28, (.str (bs [117])), (.bool false)] H26 τ27 fun v29 H30 τ31 => effK (eAlloc [(.int .i64 (.ofNat 0)), (.int .i64 (.ofNat 0)), .nils, .nils, (.str [])] [] H30 τ31) fun v32 H33 τ34 => effK (eStore 5 [v32, v29] H33 τ34) fun v35 H36 τ37 => someK (lLoadN 5 [v13] H36) fun v38 => call f_law20_h [(.str (bs [88])), (.str (bs [98]))] H36 τ37 fun v39 H40 τ41 => effK (eBuildSlice 1 2 [(.str []), (.str [])] [(0, 2)] [v39] H40 τ41) fun v42 H43 τ44 =>
    someK (pBuild [(.int .i64 (.ofNat 0)), (.int .i64 (.ofNat 0)), .nils, .nils, (.str [])] [(0, 1), (1, 1), (2, 1), (4, 1)] [(.int .i64 (.ofNat 2)), (.int .i64 (.ofNat 200)), v42, (.str (bs [117]))]) fun v45 => call f_keep_SameResponse [v38, v45] H43 τ44 fun v46 H47 τ48 => gK v46 true (fun q' => someK (lLoadN 5 [v32] H47) fun v => q' v H47 τ48) H47 τ48 fun v49 H50 τ51 => gK v46 true (fun q' => call f_law20_h [(.str (bs [101, 120, 112, 105, 114, 101, 115])), (.str (bs [99]))] H50 τ51 q') H50 τ51 fun v52 H53 τ54 => gK v46 true (fun q' => effK (eBuildSlice 1 2 [(.str []), (.str [])] [(0, 2)] [v52] H53 τ54) q') H53 τ54 fun v55 H56 τ57 =>
    gK v46 true (fun q' => someK (pBuild [(.int .i64 (.ofNat 0)), (.int .i64 (.ofNat 0)), .nils, .nils, (.str [])] [(0, 1), (1, 1), (2, 1), (4, 1)] [(.int .i64 (.ofNat 3)), (.int .i64 (.ofNat 200)), v55, (.str (bs [117]))]) fun v => q' v H56 τ57) H56 τ57 fun v58 H59 τ60 => gK v46 true (fun q' => call f_keep_SameResponse [v49, v58] H59 τ60 q') H59 τ60 fun v61 H62 τ63 => someK (pPick [v46, v61, (.bool false)]) fun v64 => bif chkLoads [H36, H40, H43, H47, H53, H56, H62] (match wantsV v46 true with | some true => (((.load (some 5)), [v32], 3, 5) :: (((.load (some 5)), [v13], 0, 2) :: [])) | _ => (((.load (some 5)), [v13], 0, 2) :: [])) then q v64 H62 τ63 else none
theorem s_law20_known_eq (call : CallK) (N : Nat) (H : Heap) (τ : Tape) (q : KV) : s_law20_known call N  H τ q = funK call N fn_law20_known [] H τ q := by kernel_rfl
def e_law20_known (call : CallK) (N : Nat) (vs : List V) (H : Heap) (τ : Tape) (q : KV) : Ans := match vs with | [] => s_law20_known call N  H τ q | _ => none
theorem e_law20_known_ok : EntOk fn_law20_known e_law20_known := by
  intro call N vs H τ q r h
  unfold e_law20_known at h
  split at h
  · rw [s_law20_known_eq] at h; exact h
  · cases h
theorem e_law20_known_nat : EntNat e_law20_known := by
  intro c hn N vs H τ q
  unfold e_law20_known
  split
  · rw [s_law20_known_eq, s_law20_known_eq]; exact funK_ent hn _ _ _ _ _ _
  · rfl
/-- ostiary/ostiarylaw20.h -/
def fn_law20_h : Fun := ⟨2, (.seq (.reg [iR 4 (.e (.alloc [(.str []), (.str [])])) []]) (.keep [0, 1, 4] (.seq (.reg [iR 5 (.p .mv) [(.t 0)], iR 6 (.p .mv) [(.t 1)], iR 7 (.p (.build [(.str []), (.str [])] [(0, 1), (1, 1)])) [(.t 5), (.t 6)], ⟨none, none, (.e (.store 2)), [(.t 4), (.t 7)], none⟩]) (.keep [4] (.keep [4] .ret))))), [(.cell 4 (some 2))]⟩
def s_law20_h (call : CallK) (N : Nat) (a0 a1 : V) (H : Heap) (τ : Tape) (q : KV) : Ans := effK (eAlloc [(.str []), (.str [])] [] H τ) fun v0 H1 τ2 => someK (pBuild [(.str []), (.str [])] [(0, 1), (1, 1)] [a0, a1]) fun v3 => effK (eStore 2 [v0, v3] H1 τ2) fun v4 H5 τ6 => someK (results ⟨(T.set .leaf 4 v0), H5⟩ [(.cell 4 (some 2))]) fun v => q v H5 τ6
theorem s_law20_h_eq (call : CallK) (N : Nat) (a0 a1 : V) (H : Heap) (τ : Tape) (q : KV) : s_law20_h call N a0 a1 H τ q = funK call N fn_law20_h [a0, a1] H τ q := by kernel_rfl
def e_law20_h (call : CallK) (N : Nat) (vs : List V) (H : Heap) (τ : Tape) (q : KV) : Ans := match vs with | [a0, a1] => s_law20_h call N a0 a1 H τ q | _ => none
theorem e_law20_h_ok : EntOk fn_law20_h e_law20_h := by
  intro call N vs H τ q r h
  unfold e_law20_h at h
  split at h
  · rw [s_law20_h_eq] at h; exact h
  · cases h
theorem e_law20_h_nat : EntNat e_law20_h := by
  intro c hn N vs H τ q
  unfold e_law20_h
  split
  · rw [s_law20_h_eq, s_law20_h_eq]; exact funK_ent hn _ _ _ _ _ _
  · rfl
/-- ostiary/ostiarykeep.SameResponse -/
def fn_keep_SameResponse : Fun := ⟨2, (.seq (.reg [iR 2 (.e .box) [(.t 0)], iR 3 (.e .box) [(.t 1)], iR 4 (.p .mv) [(.c (.bool false))]]) (.keep [2, 3] (.seq (.reg [iR 5 (.p (.fieldAddr 0)) [(.t 2)], iR 6 (.l (.load none)) [(.t 5)], iR 7 (.p (.fieldAddr 0)) [(.t 3)], iR 8 (.l (.load none)) [(.t 7)], iR 9 (.p (.bin .eql)) [(.t 6), (.t 8)], iR 10 (.p .mv) [(.t 9)], iG 11 10 true (.p (.fieldAddr 1)) [(.t 2)], iG 12 10 true (.l (.load none)) [(.t 11)], iG 13 10 true (.p (.fieldAddr 1)) [(.t 3)], iG 14 10 true (.l (.load none)) [(.t 13)], iG 15 10 true (.p (.bin .eql)) [(.t 12), (.t 14)], iR 16 (.p .pick) [(.t 10), (.t 15), (.c (.bool false))], iR 17 (.p .mv) [(.t 16)], iG 18 17 true (.p (.fieldAddr 2)) [(.t 2)], iG 19 17 true (.l (.load none)) [(.t 18)], iG 20 17 true (.p (.fieldAddr 2)) [(.t 3)], iG 21 17 true (.l (.load none)) [(.t 20)], iG 22 17 true (.call 27) [(.t 19), (.t 21)],
    iR 23 (.p .pick) [(.t 17), (.t 22), (.c (.bool false))], iR 24 (.p .mv) [(.t 23)], iG 25 24 true (.p (.fieldAddr 3)) [(.t 2)], iG 26 24 true (.l (.load none)) [(.t 25)], iG 27 24 true (.p (.fieldAddr 3)) [(.t 3)], iG 28 24 true (.l (.load none)) [(.t 27)], iG 29 24 true (.call 43) [(.t 26), (.t 28)], iR 30 (.p .pick) [(.t 24), (.t 29), (.c (.bool false))], iR 31 (.p .mv) [(.t 30)], iG 32 31 true (.p (.fieldAddr 4)) [(.t 2)], iG 33 31 true (.l (.load none)) [(.t 32)], iG 34 31 true (.p (.fieldAddr 4)) [(.t 3)], iG 35 31 true (.l (.load none)) [(.t 34)], iG 36 31 true (.p (.bin .eql)) [(.t 33), (.t 35)], iR 37 (.p .pick) [(.t 31), (.t 36), (.c (.bool false))], iR 4 (.p .mv) [(.t 37)]]) (.keep [4] (.keep [4] .ret))))), [(.t 4)]⟩
def s_keep_SameResponse (call : CallK) (N : Nat) (a0 a1 : V) (H : Heap) (τ : Tape) (q : KV) : Ans := funK call N fn_keep_SameResponse [a0, a1] H τ q
theorem s_keep_SameResponse_eq (call : CallK) (N : Nat) (a0 a1 : V) (H : Heap) (τ : Tape) (q : KV) : s_keep_SameResponse call N a0 a1 H τ q = funK call N fn_keep_SameResponse [a0, a1] H τ q := by kernel_rfl
def e_keep_SameResponse (call : CallK) (N : Nat) (vs : List V) (H : Heap) (τ : Tape) (q : KV) : Ans := match vs with | [a0, a1] => s_keep_SameResponse call N a0 a1 H τ q | _ => none
theorem e_keep_SameResponse_ok : EntOk fn_keep_SameResponse e_keep_SameResponse := by
  intro call N vs H τ q r h
  unfold e_keep_SameResponse at h
  split at h
  · rw [s_keep_SameResponse_eq] at h; exact h
  · cases h
theorem e_keep_SameResponse_nat : EntNat e_keep_SameResponse := by
  intro c hn N vs H τ q
  unfold e_keep_SameResponse
  split
  · rw [s_keep_SameResponse_eq, s_keep_SameResponse_eq]; exact funK_ent hn _ _ _ _ _ _
  · rfl
/-- ostiary/filter.Fail -/
def fn_filter_Fail : Fun := ⟨0, (.seq (.reg [iR 0 (.e (.alloc [(.int .i64 (.ofNat 0)), (.int .i64 (.ofNat 0)), .nils, .nils, (.str [])])) []]) (.keep [0] (.seq (.reg [iR 1 (.p (.build [(.int .i64 (.ofNat 0)), (.int .i64 (.ofNat 0)), .nils, .nils, (.str [])] [(0, 1)])) [(.c (.int .i64 (.ofNat 1)))], ⟨none, none, (.e (.store 5)), [(.t 0), (.t 1)], none⟩]) (.keep [0] (.keep [0] .ret))))), [(.cell 0 (some 5))]⟩
def s_filter_Fail (call : CallK) (N : Nat) (H : Heap) (τ : Tape) (q : KV) : Ans := effK (eAlloc [(.int .i64 (.ofNat 0)), (.int .i64 (.ofNat 0)), .nils, .nils, (.str [])] [] H τ) fun v0 H1 τ2 => someK (pBuild [(.int .i64 (.ofNat 0)), (.int .i64 (.ofNat 0)), .nils, .nils, (.str [])] [(0, 1)] [(.int .i64 (.ofNat 1))]) fun v3 => effK (eStore 5 [v0, v3] H1 τ2) fun v4 H5 τ6 => someK (results ⟨(T.set .leaf 0 v0), H5⟩ [(.cell 0 (some 5))]) fun v => q v H5 τ6
theorem s_filter_Fail_eq (call : CallK) (N : Nat) (H : Heap) (τ : Tape) (q : KV) : s_filter_Fail call N  H τ q = funK call N fn_filter_Fail [] H τ q := by kernel_rfl
def e_filter_Fail (call : CallK) (N : Nat) (vs : List V) (H : Heap) (τ : Tape) (q : KV) : Ans := match vs with | [] => s_filter_Fail call N  H τ q | _ => none
theorem e_filter_Fail_ok : EntOk fn_filter_Fail e_filter_Fail := by
  intro call N vs H τ q r h
  unfold e_filter_Fail at h
  split at h
  · rw [s_filter_Fail_eq] at h; exact h
  · cases h
theorem e_filter_Fail_nat : EntNat e_filter_Fail := by
  intro c hn N vs H τ q
  unfold e_filter_Fail
  split
  · rw [s_filter_Fail_eq, s_filter_Fail_eq]; exact funK_ent hn _ _ _ _ _ _
  · rfl
/-- ostiary/filter.Hide -/
def fn_filter_Hide : Fun := ⟨0, (.seq (.reg [iR 0 (.e (.alloc [(.int .i64 (.ofNat 0)), (.int .i64 (.ofNat 0)), .nils, .nils, (.str [])])) []]) (.keep [0] (.seq (.reg [iR 1 (.p (.build [(.int .i64 (.ofNat 0)), (.int .i64 (.ofNat 0)), .nils, .nils, (.str [])] [(0, 1)])) [(.c (.int .i64 (.ofNat 4)))], ⟨none, none, (.e (.store 5)), [(.t 0), (.t 1)], none⟩]) (.keep [0] (.keep [0] .ret))))), [(.cell 0 (some 5))]⟩
def s_filter_Hide (call : CallK) (N : Nat) (H : Heap) (τ : Tape) (q : KV) : Ans := effK (eAlloc [(.int .i64 (.ofNat 0)), (.int .i64 (.ofNat 0)), .nils, .nils, (.str [])] [] H τ) fun v0 H1 τ2 => someK (pBuild [(.int .i64 (.ofNat 0)), (.int .i64 (.ofNat 0)), .nils, .nils, (.str [])] [(0, 1)] [(.int .i64 (.ofNat 4))]) fun v3 => effK (eStore 5 [v0, v3] H1 τ2) fun v4 H5 τ6 => someK (results ⟨(T.set .leaf 0 v0), H5⟩ [(.cell 0 (some 5))]) fun v => q v H5 τ6
theorem s_filter_Hide_eq (call : CallK) (N : Nat) (H : Heap) (τ : Tape) (q : KV) : s_filter_Hide call N  H τ q = funK call N fn_filter_Hide [] H τ q := by kernel_rfl
def e_filter_Hide (call : CallK) (N : Nat) (vs : List V) (H : Heap) (τ : Tape) (q : KV) : Ans := match vs with | [] => s_filter_Hide call N  H τ q | _ => none
theorem e_filter_Hide_ok : EntOk fn_filter_Hide e_filter_Hide := by
  intro call N vs H τ q r h
  unfold e_filter_Hide at h
  split at h
  · rw [s_filter_Hide_eq] at h; exact h
  · cases h
theorem e_filter_Hide_nat : EntNat e_filter_Hide := by
  intro c hn N vs H τ q
  unfold e_filter_Hide
  split
  · rw [s_filter_Hide_eq, s_filter_Hide_eq]; exact funK_ent hn _ _ _ _ _ _
  · rfl
/-- ostiary/filter.HideRedirect -/
def fn_filter_HideRedirect : Fun := ⟨1, (.seq (.reg [iR 2 (.e (.alloc [(.int .i64 (.ofNat 0)), (.int .i64 (.ofNat 0)), .nils, .nils, (.str [])])) []]) (.keep [0, 2] (.seq (.reg [iR 3 (.p .mv) [(.t 0)], iR 4 (.p (.build [(.int .i64 (.ofNat 0)), (.int .i64 (.ofNat 0)), .nils, .nils, (.str [])] [(0, 1), (4, 1)])) [(.c (.int .i64 (.ofNat 5))), (.t 3)], ⟨none, none, (.e (.store 5)), [(.t 2), (.t 4)], none⟩]) (.keep [2] (.keep [2] .ret))))), [(.cell 2 (some 5))]⟩
def s_filter_HideRedirect (call : CallK) (N : Nat) (a0 : V) (H : Heap) (τ : Tape) (q : KV) : Ans := effK (eAlloc [(.int .i64 (.ofNat 0)), (.int .i64 (.ofNat 0)), .nils, .nils, (.str [])] [] H τ) fun v0 H1 τ2 => someK (pBuild [(.int .i64 (.ofNat 0)), (.int .i64 (.ofNat 0)), .nils, .nils, (.str [])] [(0, 1), (4, 1)] [(.int .i64 (.ofNat 5)), a0]) fun v3 => effK (eStore 5 [v0, v3] H1 τ2) fun v4 H5 τ6 => someK (results ⟨(T.set .leaf 2 v0), H5⟩ [(.cell 2 (some 5))]) fun v => q v H5 τ6
theorem s_filter_HideRedirect_eq (call : CallK) (N : Nat) (a0 : V) (H : Heap) (τ : Tape) (q : KV) : s_filter_HideRedirect call N a0 H τ q = funK call N fn_filter_HideRedirect [a0] H τ q := by kernel_rfl
def e_filter_HideRedirect (call : CallK) (N : Nat) (vs : List V) (H : Heap) (τ : Tape) (q : KV) : Ans := match vs with | [a0] => s_filter_HideRedirect call N a0 H τ q | _ => none
theorem e_filter_HideRedirect_ok : EntOk fn_filter_HideRedirect e_filter_HideRedirect := by
  intro call N vs H τ q r h
  unfold e_filter_HideRedirect at h
  split at h
  · rw [s_filter_HideRedirect_eq] at h; exact h
  · cases h
theorem e_filter_HideRedirect_nat : EntNat e_filter_HideRedirect := by
  intro c hn N vs H τ q
  unfold e_filter_HideRedirect
  split
  · rw [s_filter_HideRedirect_eq, s_filter_HideRedirect_eq]; exact funK_ent hn _ _ _ _ _ _
  · rfl
/-- ostiary/ostiarybook.Same[ostiary/api.Header] -/
def fn_book_Same_Header : Fun := ⟨2, (.seq (.reg [iR 4 (.p .mv) [(.c (.bool false))]]) (.keep [0, 1] (.seq (.seq (.reg [iR 6 (.p .mv) [(.t 0)], iR 7 (.p .len) [(.t 6)], iR 8 (.p .mv) [(.t 1)], iR 9 (.p .len) [(.t 8)], iR 10 (.p (.bin .neq)) [(.t 7), (.t 9)]]) (.keep [0, 1, 10] (.cond (.t 10) (.seq (.reg [iR 4 (.p .mv) [(.c (.bool false))]]) (.keep [4] (.keep [4] .ret))) .skip))) (.keep [0, 1] (.seq (.seq (.reg [iR 5 (.p .mv) [(.c (.int .i64 (.ofNat 0)))]]) (.keep [0, 1, 5] (.block 0 (.loop (.keep [0, 1, 5] (.seq (.seq (.reg [iR 11 (.p .mv) [(.t 5)], iR 12 (.p .mv) [(.t 0)], iR 13 (.p .len) [(.t 12)], iR 14 (.p (.bin .lss)) [(.t 11), (.t 13)]]) (.keep [0, 1, 5, 14] (.cond (.t 14) .skip (.keep [] (.exit 0))))) (.keep [0, 1, 5] (.seq (.block 1 (.seq (.draw [iR 17 (.p .mv) [(.t 0)], iR 18 (.p .mv) [(.t 5)], iR 19 (.p (.slIdx 2)) [(.t 17), (.t 18)],
    iR 20 (.l (.load (some 2))) [(.t 19)], iR 21 (.p .mv) [(.t 1)], iR 22 (.p .mv) [(.t 5)], iR 23 (.p (.slIdx 2)) [(.t 21), (.t 22)], iR 24 (.l (.load (some 2))) [(.t 23)], iR 25 (.p (.eq true (.flat [.str, .str]))) [(.t 20), (.t 24)]]) (.keep [0, 1, 5, 25] (.cond (.t 25) (.seq (.reg [iR 4 (.p .mv) [(.c (.bool false))]]) (.keep [4] (.keep [4] .ret))) .skip)))) (.keep [0, 1, 5] (.reg [iR 15 (.p .mv) [(.t 5)], iR 16 (.p (.bin .add)) [(.t 15), (.c (.int .i64 (.ofNat 1)))], iR 5 (.p .mv) [(.t 16)]])))))))))) (.keep [] (.seq (.reg [iR 4 (.p .mv) [(.c (.bool true))]]) (.keep [4] (.keep [4] .ret))))))))), [(.t 4)]⟩
def s_book_Same_Header_j0 (call : CallK) (N : Nat) (q : KV) (st : St) (τ : Tape) : Ans := match st with
  | ⟨fr, H⟩ => q (.bool true) H τ
def s_book_Same_Header_l1 (call : CallK) (N : Nat) (st : St) (τ : Tape) (k : KC) : Ans := match st with
  | ⟨fr, H⟩ => getK fr 0 fun t0 => getK fr 1 fun t1 => getK fr 5 fun t5 => someK (pLen [t0]) fun v3 => binK .lss t5 v3 fun v4 => condK v4 (someK (pSlIdx 2 [t0, t5]) fun v5 => someK (lLoadN 2 [v5] H) fun v6 => someK (pSlIdx 2 [t1, t5]) fun v7 => someK (lLoadN 2 [v7] H) fun v8 => someK (pEq true (.flat [.str, .str]) [v6, v8]) fun v9 => condK v9 (k .ret ⟨(T.set .leaf 4 (.bool false)), H⟩ τ) (binK .add t5 (.int .i64 (.ofNat 1)) fun v10 => k .normal ⟨(T.set (T.set (T.set (T.set (T.set (T.set .leaf 0 t0) 1 t1) 5 t5) 15 t5) 16 v10) 5 v10), H⟩ τ)) (k (.exit 0) ⟨.leaf, H⟩ τ)
def s_book_Same_Header (call : CallK) (N : Nat) (a0 a1 : V) (H : Heap) (τ : Tape) (q : KV) : Ans := someK (pLen [a0]) fun v0 => someK (pLen [a1]) fun v1 => binK .neq v0 v1 fun v2 => condK v2 (q (.bool false) H τ) (loopK (s_book_Same_Header_l1 call N) N ⟨(T.set (T.set (T.set .leaf 0 a0) 1 a1) 5 (.int .i64 (.ofNat 0))), H⟩ τ (blockK 0 (seqK (s_book_Same_Header_j0 call N q) (endK [(.t 4)] q))))
theorem s_book_Same_Header_eq (call : CallK) (N : Nat) (a0 a1 : V) (H : Heap) (τ : Tape) (q : KV) : s_book_Same_Header call N a0 a1 H τ q = funK call N fn_book_Same_Header [a0, a1] H τ q := by kernel_rfl
def e_book_Same_Header (call : CallK) (N : Nat) (vs : List V) (H : Heap) (τ : Tape) (q : KV) : Ans := match vs with | [a0, a1] => s_book_Same_Header call N a0 a1 H τ q | _ => none
theorem e_book_Same_Header_ok : EntOk fn_book_Same_Header e_book_Same_Header := by
  intro call N vs H τ q r h
  unfold e_book_Same_Header at h
  split at h
  · rw [s_book_Same_Header_eq] at h; exact h
  · cases h
theorem e_book_Same_Header_nat : EntNat e_book_Same_Header := by
  intro c hn N vs H τ q
  unfold e_book_Same_Header
  split
  · rw [s_book_Same_Header_eq, s_book_Same_Header_eq]; exact funK_ent hn _ _ _ _ _ _
  · rfl
/-- ostiary/headers.Get -/
def fn_headers_Get : Fun := ⟨2, (.seq (.reg [iR 4 (.p .mv) [(.c (.str []))], iR 5 (.p .mv) [(.c (.bool false))]]) (.keep [0, 1] (.seq (.reg [iR 6 (.p .mv) [(.c .nils)]]) (.keep [0, 1, 6] (.seq (.seq (.reg [iR 9 (.p .mv) [(.t 0)], iR 10 (.p .len) [(.t 9)], iR 11 (.p .mv) [(.c (.int .i64 (.ofNat 0)))]]) (.keep [1, 6, 9, 10, 11] (.block 0 (.loop (.keep [1, 6, 9, 10, 11] (.seq (.reg [iR 12 (.p (.bin .lss)) [(.t 11), (.t 10)]]) (.keep [1, 6, 9, 10, 11, 12] (.seq (.cond (.t 12) .skip (.keep [6] (.exit 0))) (.keep [1, 6, 9, 10, 11] (.seq (.block 1 (.seq (.reg [iR 13 (.p (.slIdx 2)) [(.t 9), (.t 11)], iR 14 (.l (.load (some 2))) [(.t 13)], iR 8 (.e (.alloc [(.str []), (.str [])])) [], ⟨none, none, (.e (.store 2)), [(.t 8), (.t 14)], none⟩]) (.keep [1, 6, 8, 9, 10, 11] (.seq (.reg [iR 15 (.l (.load (some 2))) [(.t 8)], iR 16 (.p .mv) [(.t 1)], iR 17 (.call 48) [(.t 15), (.t 16)]])
    (.keep [1, 6, 8, 9, 10, 11, 17] (.cond (.t 17) (.reg [iR 18 (.p .mv) [(.t 6)], iR 19 (.p (.fieldAddr 1)) [(.t 8)], iR 20 (.l (.load none)) [(.t 19)], iR 21 (.e (.buildSlice 1 1 [(.str [])] [(0, 1)])) [(.t 20)], iR 22 (.e (.append 1 16)) [(.t 18), (.t 21)], iR 6 (.p .mv) [(.t 22)]]) .skip)))))) (.keep [1, 6, 9, 10, 11] (.reg [iR 23 (.p (.bin .add)) [(.t 11), (.c (.int .i64 (.ofNat 1)))], iR 11 (.p .mv) [(.t 23)]])))))))))))) (.keep [6] (.seq (.reg [iR 24 (.p .mv) [(.t 6)], iR 25 (.call 49) [(.t 24), (.c (.str (bs [44, 32])))], iR 26 (.p .mv) [(.t 6)], iR 27 (.p .len) [(.t 26)], iR 28 (.p (.bin .gtr)) [(.t 27), (.c (.int .i64 (.ofNat 0)))], iR 4 (.p .mv) [(.t 25)], iR 5 (.p .mv) [(.t 28)]]) (.keep [4, 5] (.keep [4, 5] .ret))))))))), [(.t 4), (.t 5)]⟩
def s_headers_Get_j0 (call : CallK) (N : Nat) (q : KV) (st : St) (τ : Tape) : Ans := match st with
  | ⟨fr, H⟩ => getK fr 6 fun t6 => call f_strings_Join [t6, (.str (bs [44, 32]))] H τ fun v1 H2 τ3 => someK (pLen [t6]) fun v4 => binK .gtr v4 (.int .i64 (.ofNat 0)) fun v5 => q (.tup [v1, v5]) H2 τ3
def s_headers_Get_j2 (call : CallK) (N : Nat) (k : KC) (st : St) (τ : Tape) : Ans := match st with
  | ⟨fr, H⟩ => getK fr 1 fun t1 => getK fr 6 fun t6 => getK fr 9 fun t9 => getK fr 10 fun t10 => getK fr 11 fun t11 => binK .add t11 (.int .i64 (.ofNat 1)) fun v7 => k .normal ⟨(T.set (T.set (T.set (T.set (T.set (T.set (T.set .leaf 1 t1) 6 t6) 9 t9) 10 t10) 11 t11) 23 v7) 11 v7), H⟩ τ
def s_headers_Get_l1 (call : CallK) (N : Nat) (st : St) (τ : Tape) (k : KC) : Ans := match st with
  | ⟨fr, H⟩ => getK fr 1 fun t1 => getK fr 6 fun t6 => getK fr 9 fun t9 => getK fr 10 fun t10 => getK fr 11 fun t11 => binK .lss t11 t10 fun v6 => condK v6 (someK (pSlIdx 2 [t9, t11]) fun v8 => someK (lLoadN 2 [v8] H) fun v9 => effK (eAlloc [(.str []), (.str [])] [] H τ) fun v10 H11 τ12 => effK (eStore 2 [v10, v9] H11 τ12) fun v13 H14 τ15 => someK (lLoadN 2 [v10] H14) fun v16 => call f_headers_is [v16, t1] H14 τ15 fun v17 H18 τ19 => condK v17 (someK (pFieldAddr 1 [v10]) fun v20 => someK (lLoad1 [v20] H18) fun v21 => effK (eBuildSlice 1 1 [(.str [])] [(0, 1)] [v21] H18 τ19) fun v22 H23 τ24 => effK (eAppend 1 16 [t6, v22] H23 τ24) fun v25 H26 τ27 => s_headers_Get_j2 call N k ⟨(T.set (T.set (T.set (T.set (T.set (T.set (T.set (T.set (T.set (T.set (T.set (T.set (T.set .leaf 1 t1) 6 t6) 8 v10) 9 t9) 10 t10) 11 t11) 17 v17) 18 t6) 19 v20) 20 v21) 21 v22) 22 v25) 6 v25), H26⟩ τ27)
    (s_headers_Get_j2 call N k ⟨(T.set (T.set (T.set (T.set (T.set (T.set (T.set .leaf 1 t1) 6 t6) 8 v10) 9 t9) 10 t10) 11 t11) 17 v17), H18⟩ τ19)) (k (.exit 0) ⟨(T.set .leaf 6 t6), H⟩ τ)
def s_headers_Get (call : CallK) (N : Nat) (a0 a1 : V) (H : Heap) (τ : Tape) (q : KV) : Ans := someK (pLen [a0]) fun v0 => loopK (s_headers_Get_l1 call N) N ⟨(T.set (T.set (T.set (T.set (T.set .leaf 1 a1) 6 .nils) 9 a0) 10 v0) 11 (.int .i64 (.ofNat 0))), H⟩ τ (blockK 0 (seqK (s_headers_Get_j0 call N q) (endK [(.t 4), (.t 5)] q)))
theorem s_headers_Get_eq (call : CallK) (N : Nat) (a0 a1 : V) (H : Heap) (τ : Tape) (q : KV) : s_headers_Get call N a0 a1 H τ q = funK call N fn_headers_Get [a0, a1] H τ q := by kernel_rfl
def e_headers_Get (call : CallK) (N : Nat) (vs : List V) (H : Heap) (τ : Tape) (q : KV) : Ans := match vs with | [a0, a1] => s_headers_Get call N a0 a1 H τ q | _ => none
theorem e_headers_Get_ok : EntOk fn_headers_Get e_headers_Get := by
  intro call N vs H τ q r h
  unfold e_headers_Get at h
  split at h
  · rw [s_headers_Get_eq] at h; exact h
  · cases h
theorem e_headers_Get_nat : EntNat e_headers_Get := by
  intro c hn N vs H τ q
  unfold e_headers_Get
  split
  · rw [s_headers_Get_eq, s_headers_Get_eq]; exact funK_ent hn _ _ _ _ _ _
  · rfl
/-- ostiary/infra.Token -/
def fn_infra_Token : Fun := ⟨1, (.seq (.reg [iR 2 (.p .mv) [(.c (.bool false))]]) (.keep [0] (.seq (.seq (.reg [iR 6 (.p .mv) [(.t 0)], iR 7 (.p .lenS) [(.t 6)], iR 8 (.p .mv) [(.c (.int .i64 (.ofNat 0)))]]) (.keep [0, 7, 8] (.block 0 (.loop (.keep [0, 7, 8] (.seq (.reg [iR 9 (.p (.bin .lss)) [(.t 8), (.t 7)]]) (.keep [0, 7, 8, 9] (.seq (.cond (.t 9) .skip (.keep [0] (.exit 0))) (.keep [0, 7, 8] (.seq (.block 1 (.seq (.reg [iR 10 (.p .mv) [(.t 8)], iR 3 (.p .mv) [(.t 10)]]) (.keep [0, 3, 7, 8] (.seq (.reg [iR 11 (.p .mv) [(.t 0)], iR 12 (.p .mv) [(.t 3)], iR 13 (.p .strIndex) [(.t 11), (.t 12)], iR 4 (.p .mv) [(.t 13)]]) (.keep [0, 4, 7, 8] (.seq (.reg [iR 14 (.p .mv) [(.t 4)], iR 15 (.p (.bin .geq)) [(.t 14), (.c (.int .u8 (.ofNat 97)))], iR 16 (.p .mv) [(.t 15)], iG 17 16 true (.p .mv) [(.t 4)], iG 18 16 true (.p (.bin .leq)) [(.t 17), (.c (.int .u8 (.ofNat 122)))],
    iR 19 (.p .pick) [(.t 16), (.t 18), (.c (.bool false))], iR 20 (.p .mv) [(.t 19)], iG 21 20 false (.p .mv) [(.t 4)], iG 22 20 false (.p (.bin .geq)) [(.t 21), (.c (.int .u8 (.ofNat 65)))], iG 23 20 false (.p .mv) [(.t 22)], iG 24 23 true (.p .mv) [(.t 4)], iG 25 23 true (.p (.bin .leq)) [(.t 24), (.c (.int .u8 (.ofNat 90)))], iG 26 20 false (.p .pick) [(.t 23), (.t 25), (.c (.bool false))], iR 27 (.p .pick) [(.t 20), (.c (.bool true)), (.t 26)], iR 28 (.p .mv) [(.t 27)], iG 29 28 false (.p .mv) [(.t 4)], iG 30 28 false (.p (.bin .geq)) [(.t 29), (.c (.int .u8 (.ofNat 48)))], iG 31 28 false (.p .mv) [(.t 30)], iG 32 31 true (.p .mv) [(.t 4)], iG 33 31 true (.p (.bin .leq)) [(.t 32), (.c (.int .u8 (.ofNat 57)))], iG 34 28 false (.p .pick) [(.t 31), (.t 33), (.c (.bool false))], iR 35 (.p .pick) [(.t 28), (.c (.bool true)), (.t 34)], iR 5 (.p .mv) [(.t 35)]])
    (.keep [0, 4, 5, 7, 8] (.seq (.reg [iR 36 (.p .mv) [(.t 5)], iR 37 (.p (.un .not)) [(.t 36)], iR 38 (.p .mv) [(.t 37)], iG 39 38 true (.p .mv) [(.t 4)], iG 40 38 true (.call 52) [(.c (.str (bs [33, 35, 36, 37, 38, 39, 42, 43, 45, 46, 94, 95, 96, 124, 126]))), (.t 39)], iG 41 38 true (.p (.bin .lss)) [(.t 40), (.c (.int .i64 (.ofNat 0)))], iR 42 (.p .pick) [(.t 38), (.t 41), (.c (.bool false))]]) (.keep [0, 7, 8, 42] (.cond (.t 42) (.seq (.reg [iR 2 (.p .mv) [(.c (.bool false))]]) (.keep [2] (.keep [2] .ret))) .skip)))))))))) (.keep [0, 7, 8] (.reg [iR 43 (.p (.bin .add)) [(.t 8), (.c (.int .i64 (.ofNat 1)))], iR 8 (.p .mv) [(.t 43)]])))))))))))) (.keep [0] (.seq (.reg [iR 44 (.p .mv) [(.t 0)], iR 45 (.p (.bin .neq)) [(.t 44), (.c (.str []))], iR 2 (.p .mv) [(.t 45)]]) (.keep [2] (.keep [2] .ret))))))), [(.t 2)]⟩
def s_infra_Token_j0 (call : CallK) (N : Nat) (q : KV) (st : St) (τ : Tape) : Ans := match st with
  | ⟨fr, H⟩ => getK fr 0 fun t0 => binK .neq t0 (.str []) fun v1 => q v1 H τ
def s_infra_Token_l1 (call : CallK) (N : Nat) (st : St) (τ : Tape) (k : KC) : Ans := match st with
  | ⟨fr, H⟩ => getK fr 0 fun t0 => getK fr 7 fun t7 => getK fr 8 fun t8 => binK .lss t8 t7 fun v2 => condK v2 (someK (pStrIndex [t0, t8]) fun v3 => binK .geq v3 (.int .u8 (.ofNat 97)) fun v4 => gK v4 true (fun q' => q' v3 H τ) H τ fun v5 H6 τ7 => gK v4 true (fun q' => binK .leq v5 (.int .u8 (.ofNat 122)) fun v => q' v H6 τ7) H6 τ7 fun v8 H9 τ10 => someK (pPick [v4, v8, (.bool false)]) fun v11 => gK v11 false (fun q' => q' v3 H9 τ10) H9 τ10 fun v12 H13 τ14 => gK v11 false (fun q' => binK .geq v12 (.int .u8 (.ofNat 65)) fun v => q' v H13 τ14) H13 τ14 fun v15 H16 τ17 => gK v11 false (fun q' => q' v15 H16 τ17) H16 τ17 fun v18 H19 τ20 => gK v18 true (fun q' => q' v3 H19 τ20) H19 τ20 fun v21 H22 τ23 => gK v18 true (fun q' => binK .leq v21 (.int .u8 (.ofNat 90)) fun v => q' v H22 τ23) H22 τ23 fun v24 H25 τ26 =>
    gK v11 false (fun q' => someK (pPick [v18, v24, (.bool false)]) fun v => q' v H25 τ26) H25 τ26 fun v27 H28 τ29 => someK (pPick [v11, (.bool true), v27]) fun v30 => gK v30 false (fun q' => q' v3 H28 τ29) H28 τ29 fun v31 H32 τ33 => gK v30 false (fun q' => binK .geq v31 (.int .u8 (.ofNat 48)) fun v => q' v H32 τ33) H32 τ33 fun v34 H35 τ36 => gK v30 false (fun q' => q' v34 H35 τ36) H35 τ36 fun v37 H38 τ39 => gK v37 true (fun q' => q' v3 H38 τ39) H38 τ39 fun v40 H41 τ42 => gK v37 true (fun q' => binK .leq v40 (.int .u8 (.ofNat 57)) fun v => q' v H41 τ42) H41 τ42 fun v43 H44 τ45 => gK v30 false (fun q' => someK (pPick [v37, v43, (.bool false)]) fun v => q' v H44 τ45) H44 τ45 fun v46 H47 τ48 => someK (pPick [v30, (.bool true), v46]) fun v49 => unK .not v49 fun v50 => gK v50 true (fun q' => q' v3 H47 τ48) H47 τ48 fun v51 H52 τ53 =>
    gK v50 true (fun q' => call f_strings_IndexByte [(.str (bs [33, 35, 36, 37, 38, 39, 42, 43, 45, 46, 94, 95, 96, 124, 126])), v51] H52 τ53 q') H52 τ53 fun v54 H55 τ56 => gK v50 true (fun q' => binK .lss v54 (.int .i64 (.ofNat 0)) fun v => q' v H55 τ56) H55 τ56 fun v57 H58 τ59 => someK (pPick [v50, v57, (.bool false)]) fun v60 => condK v60 (k .ret ⟨(T.set .leaf 2 (.bool false)), H58⟩ τ59) (binK .add t8 (.int .i64 (.ofNat 1)) fun v61 => k .normal ⟨(T.set (T.set (T.set (T.set (T.set .leaf 0 t0) 7 t7) 8 t8) 43 v61) 8 v61), H58⟩ τ59)) (k (.exit 0) ⟨(T.set .leaf 0 t0), H⟩ τ)
def s_infra_Token (call : CallK) (N : Nat) (a0 : V) (H : Heap) (τ : Tape) (q : KV) : Ans := someK (pLenS [a0]) fun v0 => loopK (s_infra_Token_l1 call N) N ⟨(T.set (T.set (T.set .leaf 0 a0) 7 v0) 8 (.int .i64 (.ofNat 0))), H⟩ τ (blockK 0 (seqK (s_infra_Token_j0 call N q) (endK [(.t 2)] q)))
theorem s_infra_Token_eq (call : CallK) (N : Nat) (a0 : V) (H : Heap) (τ : Tape) (q : KV) : s_infra_Token call N a0 H τ q = funK call N fn_infra_Token [a0] H τ q := by kernel_rfl
def e_infra_Token (call : CallK) (N : Nat) (vs : List V) (H : Heap) (τ : Tape) (q : KV) : Ans := match vs with | [a0] => s_infra_Token call N a0 H τ q | _ => none
theorem e_infra_Token_ok : EntOk fn_infra_Token e_infra_Token := by
  intro call N vs H τ q r h
  unfold e_infra_Token at h
  split at h
  · rw [s_infra_Token_eq] at h; exact h
  · cases h
theorem e_infra_Token_nat : EntNat e_infra_Token := by
  intro c hn N vs H τ q
  unfold e_infra_Token
  split
  · rw [s_infra_Token_eq, s_infra_Token_eq]; exact funK_ent hn _ _ _ _ _ _
  · rfl
/-- ostiary/infra.Lower -/
def fn_infra_Lower : Fun := ⟨1, (.seq (.reg [iR 2 (.p .mv) [(.c (.str []))]]) (.keep [0] (.seq (.reg [iR 3 (.p .mv) [(.t 0)], iR 4 (.call 53) [(.t 3), (.c (.func 54 [] []))], iR 2 (.p .mv) [(.t 4)]]) (.keep [2] (.keep [2] .ret))))), [(.t 2)]⟩
def s_infra_Lower (call : CallK) (N : Nat) (a0 : V) (H : Heap) (τ : Tape) (q : KV) : Ans := call f_infra_mapped [a0, (.func f_infra_Lower_1 [] [])] H τ fun v0 H1 τ2 => q v0 H1 τ2
theorem s_infra_Lower_eq (call : CallK) (N : Nat) (a0 : V) (H : Heap) (τ : Tape) (q : KV) : s_infra_Lower call N a0 H τ q = funK call N fn_infra_Lower [a0] H τ q := by kernel_rfl
def e_infra_Lower (call : CallK) (N : Nat) (vs : List V) (H : Heap) (τ : Tape) (q : KV) : Ans := match vs with | [a0] => s_infra_Lower call N a0 H τ q | _ => none
theorem e_infra_Lower_ok : EntOk fn_infra_Lower e_infra_Lower := by
  intro call N vs H τ q r h
  unfold e_infra_Lower at h
  split at h
  · rw [s_infra_Lower_eq] at h; exact h
  · cases h
theorem e_infra_Lower_nat : EntNat e_infra_Lower := by
  intro c hn N vs H τ q
  unfold e_infra_Lower
  split
  · rw [s_infra_Lower_eq, s_infra_Lower_eq]; exact funK_ent hn _ _ _ _ _ _
  · rfl
/-- ostiary/filter.shown -/
def fn_filter_shown : Fun := ⟨4, (.seq (.reg [iR 5 (.e .box) [(.t 1)], iR 8 (.e (.alloc [(.int .i64 (.ofNat 0)), (.int .i64 (.ofNat 0)), .nils, .nils, (.str [])])) []]) (.keep [0, 2, 3, 5, 8] (.seq (.draw [iR 13 (.p .mv) [(.t 0)], iR 14 (.p (.fieldAddr 0)) [(.t 5)], ⟨(some 15), none, (.l (.load none)), [(.t 14)], some (0, 2)⟩, iR 16 (.p (.fieldAddr 2)) [(.t 5)], ⟨(some 17), none, (.l (.load none)), [(.t 16)], some (0, 1)⟩, iR 18 (.call 55) [(.t 17)], iR 19 (.p .mv) [(.t 2)], iR 20 (.p (.build [(.int .i64 (.ofNat 0)), (.int .i64 (.ofNat 0)), .nils, .nils, (.str [])] [(0, 1), (1, 1), (3, 1), (4, 1)])) [(.t 13), (.t 15), (.t 18), (.t 19)], iR 9 (.e (.alloc [(.int .i64 (.ofNat 0)), (.int .i64 (.ofNat 0)), .nils, .nils, (.str [])])) [], ⟨none, none, (.e (.store 5)), [(.t 9), (.t 20)], none⟩]) (.keep [3, 5, 8, 9] (.seq (.seq (.reg [iR 21 (.p (.fieldAddr 1)) [(.t 5)],
    iR 22 (.l (.load none)) [(.t 21)], iR 23 (.p .len) [(.t 22)], iR 24 (.p .mv) [(.c (.int .i64 (.ofNat 0)))]]) (.keep [3, 8, 9, 22, 23, 24] (.block 0 (.loop (.keep [3, 8, 9, 22, 23, 24] (.seq (.reg [iR 25 (.p (.bin .lss)) [(.t 24), (.t 23)]]) (.keep [3, 8, 9, 22, 23, 24, 25] (.seq (.cond (.t 25) .skip (.keep [8, 9] (.exit 0))) (.keep [3, 8, 9, 22, 23, 24] (.seq (.block 1 (.seq (.reg [iR 26 (.p (.slIdx 2)) [(.t 22), (.t 24)], iR 27 (.l (.load (some 2))) [(.t 26)], iR 11 (.e (.alloc [(.str []), (.str [])])) [], ⟨none, none, (.e (.store 2)), [(.t 11), (.t 27)], none⟩]) (.keep [3, 8, 9, 11, 22, 23, 24] (.seq (.reg [iR 28 (.p (.fieldAddr 0)) [(.t 11)], iR 29 (.l (.load none)) [(.t 28)], iR 30 (.call 35) [(.t 29)], iR 12 (.p .mv) [(.t 30)]]) (.keep [3, 8, 9, 11, 12, 22, 23, 24] (.seq (.reg [iR 31 (.p .mv) [(.t 12)],
    iR 32 (.p (.bin .neq)) [(.t 31), (.c (.str (bs [115, 101, 116, 45, 99, 111, 111, 107, 105, 101])))], iR 33 (.p .mv) [(.t 32)], iG 34 33 true (.p .mv) [(.t 12)], iG 35 33 true (.p (.bin .neq)) [(.t 34), (.c (.str (bs [115, 101, 116, 45, 99, 111, 111, 107, 105, 101, 50])))], iR 36 (.p .pick) [(.t 33), (.t 35), (.c (.bool false))], iR 37 (.p .mv) [(.t 36)], iG 38 37 true (.p .mv) [(.t 3)], iG 39 37 true (.p .mv) [(.t 12)], iG 40 37 true .callv [(.t 38), (.t 39)], iR 41 (.p .pick) [(.t 37), (.t 40), (.c (.bool false))]]) (.keep [3, 8, 9, 11, 22, 23, 24, 41] (.cond (.t 41) (.reg [iR 42 (.p (.fieldAddr 2)) [(.t 9)], iR 43 (.l (.load none)) [(.t 42)], iR 44 (.l (.load (some 2))) [(.t 11)], iR 45 (.e (.buildSlice 1 2 [(.str []), (.str [])] [(0, 2)])) [(.t 44)], iR 46 (.e (.append 2 32)) [(.t 43), (.t 45)], iR 47 (.p (.fieldAddr 2)) [(.t 9)],
    ⟨none, none, (.e (.store 1)), [(.t 47), (.t 46)], none⟩]) .skip)))))))) (.keep [3, 8, 9, 22, 23, 24] (.reg [iR 48 (.p (.bin .add)) [(.t 24), (.c (.int .i64 (.ofNat 1)))], iR 24 (.p .mv) [(.t 48)]])))))))))))) (.keep [8, 9] (.seq (.reg [iR 49 (.l (.load (some 5))) [(.t 9)], ⟨none, none, (.e (.store 5)), [(.t 8), (.t 49)], none⟩]) (.keep [8] (.keep [8] .ret))))))))), [(.cell 8 (some 5))]⟩
def s_filter_shown_j0 (call : CallK) (N : Nat) (q : KV) (st : St) (τ : Tape) : Ans := match st with
  | ⟨fr, H⟩ => getK fr 8 fun t8 => getK fr 9 fun t9 => someK (lLoadN 5 [t9] H) fun v23 => effK (eStore 5 [t8, v23] H τ) fun v24 H25 τ26 => someK (results ⟨(T.set .leaf 8 t8), H25⟩ [(.cell 8 (some 5))]) fun v => q v H25 τ26
def s_filter_shown_j2 (call : CallK) (N : Nat) (k : KC) (st : St) (τ : Tape) : Ans := match st with
  | ⟨fr, H⟩ => getK fr 3 fun t3 => getK fr 8 fun t8 => getK fr 9 fun t9 => getK fr 22 fun t22 => getK fr 23 fun t23 => getK fr 24 fun t24 => binK .add t24 (.int .i64 (.ofNat 1)) fun v28 => k .normal ⟨(T.set (T.set (T.set (T.set (T.set (T.set (T.set (T.set .leaf 3 t3) 8 t8) 9 t9) 22 t22) 23 t23) 24 t24) 48 v28) 24 v28), H⟩ τ
def s_filter_shown_l1 (call : CallK) (N : Nat) (st : St) (τ : Tape) (k : KC) : Ans := match st with
  | ⟨fr, H⟩ => getK fr 3 fun t3 => getK fr 8 fun t8 => getK fr 9 fun t9 => getK fr 22 fun t22 => getK fr 23 fun t23 => getK fr 24 fun t24 => binK .lss t24 t23 fun v27 => condK v27 (someK (pSlIdx 2 [t22, t24]) fun v29 => someK (lLoadN 2 [v29] H) fun v30 => effK (eAlloc [(.str []), (.str [])] [] H τ) fun v31 H32 τ33 => effK (eStore 2 [v31, v30] H32 τ33) fun v34 H35 τ36 => someK (pFieldAddr 0 [v31]) fun v37 => someK (lLoad1 [v37] H35) fun v38 => call f_infra_Lower [v38] H35 τ36 fun v39 H40 τ41 => binK .neq v39 (.str (bs [115, 101, 116, 45, 99, 111, 111, 107, 105, 101])) fun v42 => gK v42 true (fun q' => q' v39 H40 τ41) H40 τ41 fun v43 H44 τ45 => gK v42 true (fun q' => binK .neq v43 (.str (bs [115, 101, 116, 45, 99, 111, 111, 107, 105, 101, 50])) fun v => q' v H44 τ45) H44 τ45 fun v46 H47 τ48 => someK (pPick [v42, v46, (.bool false)]) fun v49 =>
    gK v49 true (fun q' => q' t3 H47 τ48) H47 τ48 fun v50 H51 τ52 => gK v49 true (fun q' => q' v39 H51 τ52) H51 τ52 fun v53 H54 τ55 => gK v49 true (fun q' => opK call .callv [v50, v53] H54 τ55 q') H54 τ55 fun v56 H57 τ58 => someK (pPick [v49, v56, (.bool false)]) fun v59 => condK v59 (someK (pFieldAddr 2 [t9]) fun v60 => someK (lLoad1 [v60] H57) fun v61 => someK (lLoadN 2 [v31] H57) fun v62 => effK (eBuildSlice 1 2 [(.str []), (.str [])] [(0, 2)] [v62] H57 τ58) fun v63 H64 τ65 => effK (eAppend 2 32 [v61, v63] H64 τ65) fun v66 H67 τ68 => someK (pFieldAddr 2 [t9]) fun v69 => effK (eStore 1 [v69, v66] H67 τ68) fun v70 H71 τ72 => s_filter_shown_j2 call N k ⟨(T.set (T.set (T.set (T.set (T.set (T.set (T.set (T.set (T.set (T.set (T.set (T.set (T.set (T.set .leaf 3 t3) 8 t8) 9 t9) 11 v31) 22 t22) 23 t23) 24 t24) 41 v59) 42 v60) 43 v61) 44 v62) 45 v63) 46 v66) 47 v69), H71⟩ τ72)
    (s_filter_shown_j2 call N k ⟨(T.set (T.set (T.set (T.set (T.set (T.set (T.set (T.set .leaf 3 t3) 8 t8) 9 t9) 11 v31) 22 t22) 23 t23) 24 t24) 41 v59), H57⟩ τ58)) (k (.exit 0) ⟨(T.set (T.set .leaf 8 t8) 9 t9), H⟩ τ)
def s_filter_shown (call : CallK) (N : Nat) (a0 a1 a2 a3 : V) (H : Heap) (τ : Tape) (q : KV) : Ans := effK (eBox [a1] H τ) fun v0 H1 τ2 => effK (eAlloc [(.int .i64 (.ofNat 0)), (.int .i64 (.ofNat 0)), .nils, .nils, (.str [])] [] H1 τ2) fun v3 H4 τ5 => someK (pFieldAddr 0 [v0]) fun v6 => someK (lLoad1 [v6] H4) fun v7 => someK (pFieldAddr 2 [v0]) fun v8 => someK (lLoad1 [v8] H4) fun v9 => call f_slices_Clone_byte [v9] H4 τ5 fun v10 H11 τ12 => someK (pBuild [(.int .i64 (.ofNat 0)), (.int .i64 (.ofNat 0)), .nils, .nils, (.str [])] [(0, 1), (1, 1), (3, 1), (4, 1)] [a0, v7, v10, a2]) fun v13 => effK (eAlloc [(.int .i64 (.ofNat 0)), (.int .i64 (.ofNat 0)), .nils, .nils, (.str [])] [] H11 τ12) fun v14 H15 τ16 => effK (eStore 5 [v14, v13] H15 τ16) fun v17 H18 τ19 => bif chkLoads [H4, H11, H15, H18] (((.load none), [v8], 0, 1) :: (((.load none), [v6], 0, 2) :: [])) then
    someK (pFieldAddr 1 [v0]) fun v20 => someK (lLoad1 [v20] H18) fun v21 => someK (pLen [v21]) fun v22 => loopK (s_filter_shown_l1 call N) N ⟨(T.set (T.set (T.set (T.set (T.set (T.set .leaf 3 a3) 8 v3) 9 v14) 22 v21) 23 v22) 24 (.int .i64 (.ofNat 0))), H18⟩ τ19 (blockK 0 (seqK (s_filter_shown_j0 call N q) (endK [(.cell 8 (some 5))] q))) else none
theorem s_filter_shown_eq (call : CallK) (N : Nat) (a0 a1 a2 a3 : V) (H : Heap) (τ : Tape) (q : KV) : s_filter_shown call N a0 a1 a2 a3 H τ q = funK call N fn_filter_shown [a0, a1, a2, a3] H τ q := by kernel_rfl
def e_filter_shown (call : CallK) (N : Nat) (vs : List V) (H : Heap) (τ : Tape) (q : KV) : Ans := match vs with | [a0, a1, a2, a3] => s_filter_shown call N a0 a1 a2 a3 H τ q | _ => none
theorem e_filter_shown_ok : EntOk fn_filter_shown e_filter_shown := by
  intro call N vs H τ q r h
  unfold e_filter_shown at h
  split at h
  · rw [s_filter_shown_eq] at h; exact h
  · cases h
theorem e_filter_shown_nat : EntNat e_filter_shown := by
  intro c hn N vs H τ q
  unfold e_filter_shown
  split
  · rw [s_filter_shown_eq, s_filter_shown_eq]; exact funK_ent hn _ _ _ _ _ _
  · rfl
/-- ostiary/filter.Own$1 -/
def fn_filter_Own_1 : Fun := ⟨1, (.seq (.reg [iR 2 (.p .mv) [(.c (.bool false))]]) (.keep [] (.seq (.reg [iR 2 (.p .mv) [(.c (.bool true))]]) (.keep [2] (.keep [2] .ret))))), [(.t 2)]⟩
def s_filter_Own_1 (call : CallK) (N : Nat) (a0 : V) (H : Heap) (τ : Tape) (q : KV) : Ans := q (.bool true) H τ
theorem s_filter_Own_1_eq (call : CallK) (N : Nat) (a0 : V) (H : Heap) (τ : Tape) (q : KV) : s_filter_Own_1 call N a0 H τ q = funK call N fn_filter_Own_1 [a0] H τ q := by kernel_rfl
def e_filter_Own_1 (call : CallK) (N : Nat) (vs : List V) (H : Heap) (τ : Tape) (q : KV) : Ans := match vs with | [a0] => s_filter_Own_1 call N a0 H τ q | _ => none
theorem e_filter_Own_1_ok : EntOk fn_filter_Own_1 e_filter_Own_1 := by
  intro call N vs H τ q r h
  unfold e_filter_Own_1 at h
  split at h
  · rw [s_filter_Own_1_eq] at h; exact h
  · cases h
theorem e_filter_Own_1_nat : EntNat e_filter_Own_1 := by
  intro c hn N vs H τ q
  unfold e_filter_Own_1
  split
  · rw [s_filter_Own_1_eq, s_filter_Own_1_eq]; exact funK_ent hn _ _ _ _ _ _
  · rfl
/-- ostiary/cors.Exposed -/
def fn_cors_Exposed : Fun := ⟨2, (.seq (.reg [iR 4 (.p .mv) [(.c .nils)], iR 5 (.p .mv) [(.c (.bool false))]]) (.keep [0, 1] (.seq (.reg [iR 12 (.p .mv) [(.t 0)], iR 13 (.call 56) [(.t 12), (.c (.str (bs [97, 99, 99, 101, 115, 115, 45, 99, 111, 110, 116, 114, 111, 108, 45, 101, 120, 112, 111, 115, 101, 45, 104, 101, 97, 100, 101, 114, 115])))], iR 11 (.p .mv) [(.t 13)], iR 14 (.p (.extract 0)) [(.t 11)], iR 15 (.p (.extract 1)) [(.t 11)], iR 6 (.p .mv) [(.t 14)], iR 7 (.p .mv) [(.t 15)]]) (.keep [1, 6] (.seq (.seq (.reg [iR 16 (.p .mv) [(.t 1)], iR 17 (.p (.un .not)) [(.t 16)], iR 18 (.p .mv) [(.t 17)], iG 19 18 true (.p .mv) [(.t 6)], iG 20 18 true (.call 42) [(.t 19), (.c (.str (bs [42])))], iR 21 (.p .pick) [(.t 18), (.t 20), (.c (.bool false))]]) (.keep [6, 21] (.cond (.t 21) (.seq (.reg [iR 4 (.p .mv) [(.c .nils)], iR 5 (.p .mv) [(.c (.bool true))]])
    (.keep [4, 5] (.keep [4, 5] .ret))) .skip))) (.keep [6] (.seq (.reg [iR 22 (.e .mkMap) [], iR 8 (.p .mv) [(.t 22)]]) (.keep [6, 8] (.seq (.seq (.reg [iR 23 (.p .mv) [(.t 6)], iR 24 (.p .len) [(.t 23)], iR 25 (.p .mv) [(.c (.int .i64 (.ofNat 0)))]]) (.keep [8, 23, 24, 25] (.block 0 (.loop (.keep [8, 23, 24, 25] (.seq (.reg [iR 26 (.p (.bin .lss)) [(.t 25), (.t 24)]]) (.keep [8, 23, 24, 25, 26] (.seq (.cond (.t 26) .skip (.keep [8] (.exit 0))) (.keep [8, 23, 24, 25] (.seq (.block 1 (.seq (.reg [iR 27 (.p (.slIdx 1)) [(.t 23), (.t 25)], iR 28 (.l (.load none)) [(.t 27)], iR 10 (.p .mv) [(.t 28)]]) (.keep [8, 10, 23, 24, 25] (.seq (.reg [iR 29 (.p .mv) [(.t 10)], iR 30 (.call 34) [(.t 29)]]) (.keep [8, 10, 23, 24, 25, 30] (.cond (.t 30) (.reg [iR 31 (.p .mv) [(.t 8)], iR 32 (.p .mv) [(.t 10)], iR 33 (.call 35) [(.t 32)],
    iR 34 (.l (.mlook (.int .i64 (.ofNat 0)) false)) [(.t 31), (.t 33)], iR 35 (.p (.bin .add)) [(.t 34), (.c (.int .i64 (.ofNat 1)))], ⟨none, none, (.e .mput), [(.t 31), (.t 33), (.t 35)], none⟩]) .skip)))))) (.keep [8, 23, 24, 25] (.reg [iR 36 (.p (.bin .add)) [(.t 25), (.c (.int .i64 (.ofNat 1)))], iR 25 (.p .mv) [(.t 36)]])))))))))))) (.keep [8] (.seq (.reg [iR 37 (.p .mv) [(.t 8)], iR 38 (.call 57) [(.t 37)], iR 4 (.p .mv) [(.t 38)], iR 5 (.p .mv) [(.c (.bool false))]]) (.keep [4, 5] (.keep [4, 5] .ret))))))))))))), [(.t 4), (.t 5)]⟩
def s_cors_Exposed_j0 (call : CallK) (N : Nat) (q : KV) (st : St) (τ : Tape) : Ans := match st with
  | ⟨fr, H⟩ => getK fr 8 fun t8 => call f_cors_names [t8] H τ fun v17 H18 τ19 => q (.tup [v17, (.bool false)]) H18 τ19
def s_cors_Exposed_j2 (call : CallK) (N : Nat) (k : KC) (st : St) (τ : Tape) : Ans := match st with
  | ⟨fr, H⟩ => getK fr 8 fun t8 => getK fr 23 fun t23 => getK fr 24 fun t24 => getK fr 25 fun t25 => binK .add t25 (.int .i64 (.ofNat 1)) fun v21 => k .normal ⟨(T.set (T.set (T.set (T.set (T.set (T.set .leaf 8 t8) 23 t23) 24 t24) 25 t25) 36 v21) 25 v21), H⟩ τ
def s_cors_Exposed_l1 (call : CallK) (N : Nat) (st : St) (τ : Tape) (k : KC) : Ans := match st with
  | ⟨fr, H⟩ => getK fr 8 fun t8 => getK fr 23 fun t23 => getK fr 24 fun t24 => getK fr 25 fun t25 => binK .lss t25 t24 fun v20 => condK v20 (someK (pSlIdx 1 [t23, t25]) fun v22 => someK (lLoad1 [v22] H) fun v23 => call f_infra_Token [v23] H τ fun v24 H25 τ26 => condK v24 (call f_infra_Lower [v23] H25 τ26 fun v27 H28 τ29 => someK (lLook (.int .i64 (.ofNat 0)) false [t8, v27] H28) fun v30 => binK .add v30 (.int .i64 (.ofNat 1)) fun v31 => effK (eMput [t8, v27, v31] H28 τ29) fun v32 H33 τ34 => s_cors_Exposed_j2 call N k ⟨(T.set (T.set (T.set (T.set (T.set (T.set (T.set (T.set (T.set (T.set (T.set .leaf 8 t8) 10 v23) 23 t23) 24 t24) 25 t25) 30 v24) 31 t8) 32 v23) 33 v27) 34 v30) 35 v31), H33⟩ τ34) (s_cors_Exposed_j2 call N k ⟨(T.set (T.set (T.set (T.set (T.set (T.set .leaf 8 t8) 10 v23) 23 t23) 24 t24) 25 t25) 30 v24), H25⟩ τ26)) (k (.exit 0) ⟨(T.set .leaf 8 t8), H⟩ τ)
def s_cors_Exposed (call : CallK) (N : Nat) (a0 a1 : V) (H : Heap) (τ : Tape) (q : KV) : Ans := call f_headers_Split [a0, (.str (bs [97, 99, 99, 101, 115, 115, 45, 99, 111, 110, 116, 114, 111, 108, 45, 101, 120, 112, 111, 115, 101, 45, 104, 101, 97, 100, 101, 114, 115]))] H τ fun v0 H1 τ2 => someK (pExtract 0 [v0]) fun v3 => someK (pExtract 1 [v0]) fun v4 => unK .not a1 fun v5 => gK v5 true (fun q' => q' v3 H1 τ2) H1 τ2 fun v6 H7 τ8 => gK v5 true (fun q' => call f_slices_Contains_string [v6, (.str (bs [42]))] H7 τ8 q') H7 τ8 fun v9 H10 τ11 => someK (pPick [v5, v9, (.bool false)]) fun v12 => condK v12 (q (.tup [.nils, (.bool true)]) H10 τ11) (effK (eMkMap [] H10 τ11) fun v13 H14 τ15 => someK (pLen [v3]) fun v16 =>
    loopK (s_cors_Exposed_l1 call N) N ⟨(T.set (T.set (T.set (T.set .leaf 8 v13) 23 v3) 24 v16) 25 (.int .i64 (.ofNat 0))), H14⟩ τ15 (blockK 0 (seqK (s_cors_Exposed_j0 call N q) (endK [(.t 4), (.t 5)] q))))
theorem s_cors_Exposed_eq (call : CallK) (N : Nat) (a0 a1 : V) (H : Heap) (τ : Tape) (q : KV) : s_cors_Exposed call N a0 a1 H τ q = funK call N fn_cors_Exposed [a0, a1] H τ q := by kernel_rfl
def e_cors_Exposed (call : CallK) (N : Nat) (vs : List V) (H : Heap) (τ : Tape) (q : KV) : Ans := match vs with | [a0, a1] => s_cors_Exposed call N a0 a1 H τ q | _ => none
theorem e_cors_Exposed_ok : EntOk fn_cors_Exposed e_cors_Exposed := by
  intro call N vs H τ q r h
  unfold e_cors_Exposed at h
  split at h
  · rw [s_cors_Exposed_eq] at h; exact h
  · cases h
theorem e_cors_Exposed_nat : EntNat e_cors_Exposed := by
  intro c hn N vs H τ q
  unfold e_cors_Exposed
  split
  · rw [s_cors_Exposed_eq, s_cors_Exposed_eq]; exact funK_ent hn _ _ _ _ _ _
  · rfl
/-- ostiary/filter.Share$1 -/
def fn_filter_Share_1 : Fun := ⟨3, (.seq (.reg [iR 4 (.p .mv) [(.c (.bool false))]]) (.keep [0, 1, 2] (.seq (.seq (.reg [iR 5 (.p .mv) [(.t 0)]]) (.keep [0, 1, 2, 5] (.block 0 (.seq (.seq (.reg [iR 7 (.p (.bin .eql)) [(.t 5), (.c (.str (bs [99, 97, 99, 104, 101, 45, 99, 111, 110, 116, 114, 111, 108])))], iR 6 (.p .mv) [(.t 7)]]) (.keep [0, 1, 2, 5, 6] (.cond (.t 6) .skip (.seq (.reg [iR 8 (.p (.bin .eql)) [(.t 5), (.c (.str (bs [99, 111, 110, 116, 101, 110, 116, 45, 108, 97, 110, 103, 117, 97, 103, 101])))], iR 6 (.p .mv) [(.t 8)]]) (.keep [0, 1, 2, 5, 6] (.cond (.t 6) .skip (.seq (.reg [iR 9 (.p (.bin .eql)) [(.t 5), (.c (.str (bs [99, 111, 110, 116, 101, 110, 116, 45, 108, 101, 110, 103, 116, 104])))], iR 6 (.p .mv) [(.t 9)]]) (.keep [0, 1, 2, 5, 6] (.cond (.t 6) .skip
    (.seq (.reg [iR 10 (.p (.bin .eql)) [(.t 5), (.c (.str (bs [99, 111, 110, 116, 101, 110, 116, 45, 116, 121, 112, 101])))], iR 6 (.p .mv) [(.t 10)]]) (.keep [0, 1, 2, 5, 6] (.cond (.t 6) .skip (.seq (.reg [iR 11 (.p (.bin .eql)) [(.t 5), (.c (.str (bs [101, 120, 112, 105, 114, 101, 115])))], iR 6 (.p .mv) [(.t 11)]]) (.keep [0, 1, 2, 5, 6] (.cond (.t 6) .skip (.seq (.reg [iR 12 (.p (.bin .eql)) [(.t 5), (.c (.str (bs [108, 97, 115, 116, 45, 109, 111, 100, 105, 102, 105, 101, 100])))], iR 6 (.p .mv) [(.t 12)]]) (.keep [0, 1, 2, 5, 6] (.cond (.t 6) .skip (.reg [iR 13 (.p (.bin .eql)) [(.t 5), (.c (.str (bs [112, 114, 97, 103, 109, 97])))], iR 6 (.p .mv) [(.t 13)]]))))))))))))))))))) (.keep [0, 1, 2, 6] (.cond (.t 6) (.seq (.reg [iR 4 (.p .mv) [(.c (.bool true))]]) (.keep [4] (.keep [4] .ret))) .skip)))))) (.keep [0, 1, 2] (.seq (.reg [iR 14 (.l (.load none)) [(.t 1)],
    iR 15 (.p .mv) [(.t 14)], iG 16 15 false (.l (.load none)) [(.t 2)], iG 17 15 false (.p .mv) [(.t 0)], iG 18 15 false (.call 42) [(.t 16), (.t 17)], iR 19 (.p .pick) [(.t 15), (.c (.bool true)), (.t 18)], iR 4 (.p .mv) [(.t 19)]]) (.keep [4] (.keep [4] .ret))))))), [(.t 4)]⟩
def s_filter_Share_1_j0 (call : CallK) (N : Nat) (q : KV) (st : St) (τ : Tape) : Ans := match st with
  | ⟨fr, H⟩ => getK fr 0 fun t0 => getK fr 1 fun t1 => getK fr 2 fun t2 => someK (lLoad1 [t1] H) fun v1 => gK v1 false (fun q' => someK (lLoad1 [t2] H) fun v => q' v H τ) H τ fun v2 H3 τ4 => gK v1 false (fun q' => q' t0 H3 τ4) H3 τ4 fun v5 H6 τ7 => gK v1 false (fun q' => call f_slices_Contains_string [v2, v5] H6 τ7 q') H6 τ7 fun v8 H9 τ10 => someK (pPick [v1, (.bool true), v8]) fun v11 => q v11 H9 τ10
def s_filter_Share_1_j1 (call : CallK) (N : Nat) (q : KV) (st : St) (τ : Tape) : Ans := match st with
  | ⟨fr, H⟩ => getK fr 0 fun t0 => getK fr 1 fun t1 => getK fr 2 fun t2 => getK fr 6 fun t6 => condK t6 (q (.bool true) H τ) (s_filter_Share_1_j0 call N q ⟨(T.set (T.set (T.set (T.set .leaf 0 t0) 1 t1) 2 t2) 6 t6), H⟩ τ)
def s_filter_Share_1 (call : CallK) (N : Nat) (a0 a1 a2 : V) (H : Heap) (τ : Tape) (q : KV) : Ans := binK .eql a0 (.str (bs [99, 97, 99, 104, 101, 45, 99, 111, 110, 116, 114, 111, 108])) fun v0 => condK v0 (s_filter_Share_1_j1 call N q ⟨(T.set (T.set (T.set (T.set (T.set .leaf 0 a0) 1 a1) 2 a2) 5 a0) 6 v0), H⟩ τ) (binK .eql a0 (.str (bs [99, 111, 110, 116, 101, 110, 116, 45, 108, 97, 110, 103, 117, 97, 103, 101])) fun v12 => condK v12 (s_filter_Share_1_j1 call N q ⟨(T.set (T.set (T.set (T.set (T.set .leaf 0 a0) 1 a1) 2 a2) 5 a0) 6 v12), H⟩ τ) (binK .eql a0 (.str (bs [99, 111, 110, 116, 101, 110, 116, 45, 108, 101, 110, 103, 116, 104])) fun v13 => condK v13 (s_filter_Share_1_j1 call N q ⟨(T.set (T.set (T.set (T.set (T.set .leaf 0 a0) 1 a1) 2 a2) 5 a0) 6 v13), H⟩ τ) (binK .eql a0 (.str (bs [99, 111, 110, 116, 101, 110, 116, 45, 116, 121, 112, 101])) fun v14 => condK v14
    (s_filter_Share_1_j1 call N q ⟨(T.set (T.set (T.set (T.set (T.set .leaf 0 a0) 1 a1) 2 a2) 5 a0) 6 v14), H⟩ τ) (binK .eql a0 (.str (bs [101, 120, 112, 105, 114, 101, 115])) fun v15 => condK v15 (s_filter_Share_1_j1 call N q ⟨(T.set (T.set (T.set (T.set (T.set .leaf 0 a0) 1 a1) 2 a2) 5 a0) 6 v15), H⟩ τ) (binK .eql a0 (.str (bs [108, 97, 115, 116, 45, 109, 111, 100, 105, 102, 105, 101, 100])) fun v16 => condK v16 (s_filter_Share_1_j1 call N q ⟨(T.set (T.set (T.set (T.set (T.set .leaf 0 a0) 1 a1) 2 a2) 5 a0) 6 v16), H⟩ τ) (binK .eql a0 (.str (bs [112, 114, 97, 103, 109, 97])) fun v17 => s_filter_Share_1_j1 call N q ⟨(T.set (T.set (T.set (T.set (T.set (T.set (T.set .leaf 0 a0) 1 a1) 2 a2) 5 a0) 6 v16) 13 v17) 6 v17), H⟩ τ))))))
theorem s_filter_Share_1_eq (call : CallK) (N : Nat) (a0 a1 a2 : V) (H : Heap) (τ : Tape) (q : KV) : s_filter_Share_1 call N a0 a1 a2 H τ q = funK call N fn_filter_Share_1 [a0, a1, a2] H τ q := by kernel_rfl
def e_filter_Share_1 (call : CallK) (N : Nat) (vs : List V) (H : Heap) (τ : Tape) (q : KV) : Ans := match vs with | [a0, a1, a2] => s_filter_Share_1 call N a0 a1 a2 H τ q | _ => none
theorem e_filter_Share_1_ok : EntOk fn_filter_Share_1 e_filter_Share_1 := by
  intro call N vs H τ q r h
  unfold e_filter_Share_1 at h
  split at h
  · rw [s_filter_Share_1_eq] at h; exact h
  · cases h
theorem e_filter_Share_1_nat : EntNat e_filter_Share_1 := by
  intro c hn N vs H τ q
  unfold e_filter_Share_1
  split
  · rw [s_filter_Share_1_eq, s_filter_Share_1_eq]; exact funK_ent hn _ _ _ _ _ _
  · rfl
/-- slices.Contains[[]string,string] -/
def fn_slices_Contains_string : Fun := ⟨2, (.seq (.reg [iR 4 (.p .mv) [(.c (.bool false))]]) (.keep [0, 1] (.seq (.reg [iR 5 (.p .mv) [(.t 0)], iR 6 (.p .mv) [(.t 1)], iR 7 (.call 58) [(.t 5), (.t 6)], iR 8 (.p (.bin .geq)) [(.t 7), (.c (.int .i64 (.ofNat 0)))], iR 4 (.p .mv) [(.t 8)]]) (.keep [4] (.keep [4] .ret))))), [(.t 4)]⟩
def s_slices_Contains_string (call : CallK) (N : Nat) (a0 a1 : V) (H : Heap) (τ : Tape) (q : KV) : Ans := call f_slices_Index_string [a0, a1] H τ fun v0 H1 τ2 => binK .geq v0 (.int .i64 (.ofNat 0)) fun v3 => q v3 H1 τ2
theorem s_slices_Contains_string_eq (call : CallK) (N : Nat) (a0 a1 : V) (H : Heap) (τ : Tape) (q : KV) : s_slices_Contains_string call N a0 a1 H τ q = funK call N fn_slices_Contains_string [a0, a1] H τ q := by kernel_rfl
def e_slices_Contains_string (call : CallK) (N : Nat) (vs : List V) (H : Heap) (τ : Tape) (q : KV) : Ans := match vs with | [a0, a1] => s_slices_Contains_string call N a0 a1 H τ q | _ => none
theorem e_slices_Contains_string_ok : EntOk fn_slices_Contains_string e_slices_Contains_string := by
  intro call N vs H τ q r h
  unfold e_slices_Contains_string at h
  split at h
  · rw [s_slices_Contains_string_eq] at h; exact h
  · cases h
theorem e_slices_Contains_string_nat : EntNat e_slices_Contains_string := by
  intro c hn N vs H τ q
  unfold e_slices_Contains_string
  split
  · rw [s_slices_Contains_string_eq, s_slices_Contains_string_eq]; exact funK_ent hn _ _ _ _ _ _
  · rfl
/-- ostiary/ostiarybook.Same[byte] -/
def fn_book_Same_byte : Fun := ⟨2, (.seq (.reg [iR 4 (.p .mv) [(.c (.bool false))]]) (.keep [0, 1] (.seq (.seq (.reg [iR 6 (.p .mv) [(.t 0)], iR 7 (.p .len) [(.t 6)], iR 8 (.p .mv) [(.t 1)], iR 9 (.p .len) [(.t 8)], iR 10 (.p (.bin .neq)) [(.t 7), (.t 9)]]) (.keep [0, 1, 10] (.cond (.t 10) (.seq (.reg [iR 4 (.p .mv) [(.c (.bool false))]]) (.keep [4] (.keep [4] .ret))) .skip))) (.keep [0, 1] (.seq (.seq (.reg [iR 5 (.p .mv) [(.c (.int .i64 (.ofNat 0)))]]) (.keep [0, 1, 5] (.block 0 (.loop (.keep [0, 1, 5] (.seq (.seq (.reg [iR 11 (.p .mv) [(.t 5)], iR 12 (.p .mv) [(.t 0)], iR 13 (.p .len) [(.t 12)], iR 14 (.p (.bin .lss)) [(.t 11), (.t 13)]]) (.keep [0, 1, 5, 14] (.cond (.t 14) .skip (.keep [] (.exit 0))))) (.keep [0, 1, 5] (.seq (.block 1 (.seq (.draw [iR 17 (.p .mv) [(.t 0)], iR 18 (.p .mv) [(.t 5)], iR 19 (.p (.slIdx 1)) [(.t 17), (.t 18)], iR 20 (.l (.load none)) [(.t 19)],
    iR 21 (.p .mv) [(.t 1)], iR 22 (.p .mv) [(.t 5)], iR 23 (.p (.slIdx 1)) [(.t 21), (.t 22)], iR 24 (.l (.load none)) [(.t 23)], iR 25 (.p (.bin .neq)) [(.t 20), (.t 24)]]) (.keep [0, 1, 5, 25] (.cond (.t 25) (.seq (.reg [iR 4 (.p .mv) [(.c (.bool false))]]) (.keep [4] (.keep [4] .ret))) .skip)))) (.keep [0, 1, 5] (.reg [iR 15 (.p .mv) [(.t 5)], iR 16 (.p (.bin .add)) [(.t 15), (.c (.int .i64 (.ofNat 1)))], iR 5 (.p .mv) [(.t 16)]])))))))))) (.keep [] (.seq (.reg [iR 4 (.p .mv) [(.c (.bool true))]]) (.keep [4] (.keep [4] .ret))))))))), [(.t 4)]⟩
def s_book_Same_byte_j0 (call : CallK) (N : Nat) (q : KV) (st : St) (τ : Tape) : Ans := match st with
  | ⟨fr, H⟩ => q (.bool true) H τ
def s_book_Same_byte_l1 (call : CallK) (N : Nat) (st : St) (τ : Tape) (k : KC) : Ans := match st with
  | ⟨fr, H⟩ => getK fr 0 fun t0 => getK fr 1 fun t1 => getK fr 5 fun t5 => someK (pLen [t0]) fun v3 => binK .lss t5 v3 fun v4 => condK v4 (someK (pSlIdx 1 [t0, t5]) fun v5 => someK (lLoad1 [v5] H) fun v6 => someK (pSlIdx 1 [t1, t5]) fun v7 => someK (lLoad1 [v7] H) fun v8 => binK .neq v6 v8 fun v9 => condK v9 (k .ret ⟨(T.set .leaf 4 (.bool false)), H⟩ τ) (binK .add t5 (.int .i64 (.ofNat 1)) fun v10 => k .normal ⟨(T.set (T.set (T.set (T.set (T.set (T.set .leaf 0 t0) 1 t1) 5 t5) 15 t5) 16 v10) 5 v10), H⟩ τ)) (k (.exit 0) ⟨.leaf, H⟩ τ)
def s_book_Same_byte (call : CallK) (N : Nat) (a0 a1 : V) (H : Heap) (τ : Tape) (q : KV) : Ans := someK (pLen [a0]) fun v0 => someK (pLen [a1]) fun v1 => binK .neq v0 v1 fun v2 => condK v2 (q (.bool false) H τ) (loopK (s_book_Same_byte_l1 call N) N ⟨(T.set (T.set (T.set .leaf 0 a0) 1 a1) 5 (.int .i64 (.ofNat 0))), H⟩ τ (blockK 0 (seqK (s_book_Same_byte_j0 call N q) (endK [(.t 4)] q))))
theorem s_book_Same_byte_eq (call : CallK) (N : Nat) (a0 a1 : V) (H : Heap) (τ : Tape) (q : KV) : s_book_Same_byte call N a0 a1 H τ q = funK call N fn_book_Same_byte [a0, a1] H τ q := by kernel_rfl
def e_book_Same_byte (call : CallK) (N : Nat) (vs : List V) (H : Heap) (τ : Tape) (q : KV) : Ans := match vs with | [a0, a1] => s_book_Same_byte call N a0 a1 H τ q | _ => none
theorem e_book_Same_byte_ok : EntOk fn_book_Same_byte e_book_Same_byte := by
  intro call N vs H τ q r h
  unfold e_book_Same_byte at h
  split at h
  · rw [s_book_Same_byte_eq] at h; exact h
  · cases h
theorem e_book_Same_byte_nat : EntNat e_book_Same_byte := by
  intro c hn N vs H τ q
  unfold e_book_Same_byte
  split
  · rw [s_book_Same_byte_eq, s_book_Same_byte_eq]; exact funK_ent hn _ _ _ _ _ _
  · rfl
/-- ostiary/headers.is -/
def fn_headers_is : Fun := ⟨2, (.seq (.reg [iR 2 (.e .box) [(.t 0)], iR 4 (.p .mv) [(.c (.bool false))]]) (.keep [1, 2] (.seq (.reg [iR 5 (.p (.fieldAddr 0)) [(.t 2)], iR 6 (.l (.load none)) [(.t 5)], iR 7 (.call 35) [(.t 6)], iR 8 (.p .mv) [(.t 1)], iR 9 (.call 35) [(.t 8)], iR 10 (.p (.bin .eql)) [(.t 7), (.t 9)], iR 4 (.p .mv) [(.t 10)]]) (.keep [4] (.keep [4] .ret))))), [(.t 4)]⟩
def s_headers_is (call : CallK) (N : Nat) (a0 a1 : V) (H : Heap) (τ : Tape) (q : KV) : Ans := effK (eBox [a0] H τ) fun v0 H1 τ2 => someK (pFieldAddr 0 [v0]) fun v3 => someK (lLoad1 [v3] H1) fun v4 => call f_infra_Lower [v4] H1 τ2 fun v5 H6 τ7 => call f_infra_Lower [a1] H6 τ7 fun v8 H9 τ10 => binK .eql v5 v8 fun v11 => q v11 H9 τ10
theorem s_headers_is_eq (call : CallK) (N : Nat) (a0 a1 : V) (H : Heap) (τ : Tape) (q : KV) : s_headers_is call N a0 a1 H τ q = funK call N fn_headers_is [a0, a1] H τ q := by kernel_rfl
def e_headers_is (call : CallK) (N : Nat) (vs : List V) (H : Heap) (τ : Tape) (q : KV) : Ans := match vs with | [a0, a1] => s_headers_is call N a0 a1 H τ q | _ => none
theorem e_headers_is_ok : EntOk fn_headers_is e_headers_is := by
  intro call N vs H τ q r h
  unfold e_headers_is at h
  split at h
  · rw [s_headers_is_eq] at h; exact h
  · cases h
theorem e_headers_is_nat : EntNat e_headers_is := by
  intro c hn N vs H τ q
  unfold e_headers_is
  split
  · rw [s_headers_is_eq, s_headers_is_eq]; exact funK_ent hn _ _ _ _ _ _
  · rfl
/-- strings.IndexByte -/
def fn_strings_IndexByte : Fun := ⟨2, (.seq (.reg [iR 4 (.p .mv) [(.c (.int .i64 (.ofNat 0)))]]) (.keep [0, 1] (.seq (.reg [iR 5 (.p .mv) [(.t 0)], iR 6 (.p .mv) [(.t 1)], iR 7 (.call 67) [(.t 5), (.t 6)], iR 4 (.p .mv) [(.t 7)]]) (.keep [4] (.keep [4] .ret))))), [(.t 4)]⟩
def s_strings_IndexByte (call : CallK) (N : Nat) (a0 a1 : V) (H : Heap) (τ : Tape) (q : KV) : Ans := call f_stringslite_IndexByte [a0, a1] H τ fun v0 H1 τ2 => q v0 H1 τ2
theorem s_strings_IndexByte_eq (call : CallK) (N : Nat) (a0 a1 : V) (H : Heap) (τ : Tape) (q : KV) : s_strings_IndexByte call N a0 a1 H τ q = funK call N fn_strings_IndexByte [a0, a1] H τ q := by kernel_rfl
def e_strings_IndexByte (call : CallK) (N : Nat) (vs : List V) (H : Heap) (τ : Tape) (q : KV) : Ans := match vs with | [a0, a1] => s_strings_IndexByte call N a0 a1 H τ q | _ => none
theorem e_strings_IndexByte_ok : EntOk fn_strings_IndexByte e_strings_IndexByte := by
  intro call N vs H τ q r h
  unfold e_strings_IndexByte at h
  split at h
  · rw [s_strings_IndexByte_eq] at h; exact h
  · cases h
theorem e_strings_IndexByte_nat : EntNat e_strings_IndexByte := by
  intro c hn N vs H τ q
  unfold e_strings_IndexByte
  split
  · rw [s_strings_IndexByte_eq, s_strings_IndexByte_eq]; exact funK_ent hn _ _ _ _ _ _
  · rfl
/-- ostiary/infra.mapped -/
def fn_infra_mapped : Fun := ⟨2, (.seq (.reg [iR 4 (.p .mv) [(.c (.str []))]]) (.keep [0, 1] (.seq (.reg [iR 8 (.p .mv) [(.t 0)], iR 9 (.e .strBytes) [(.t 8)], iR 5 (.p .mv) [(.t 9)]]) (.keep [1, 5] (.seq (.seq (.reg [iR 10 (.p .mv) [(.t 5)], iR 11 (.p .len) [(.t 10)], iR 12 (.p .mv) [(.c (.int .i64 (.ofNat 0)))]]) (.keep [1, 5, 10, 11, 12] (.block 0 (.loop (.keep [1, 5, 10, 11, 12] (.seq (.reg [iR 13 (.p (.bin .lss)) [(.t 12), (.t 11)]]) (.keep [1, 5, 10, 11, 12, 13] (.seq (.cond (.t 13) .skip (.keep [5] (.exit 0))) (.keep [1, 5, 10, 11, 12] (.seq (.block 1 (.seq (.reg [iR 14 (.p .mv) [(.t 12)], iR 15 (.p (.slIdx 1)) [(.t 10), (.t 12)], iR 16 (.l (.load none)) [(.t 15)], iR 6 (.p .mv) [(.t 14)], iR 7 (.p .mv) [(.t 16)]]) (.keep [1, 5, 6, 7, 10, 11, 12] (.reg [iR 17 (.p .mv) [(.t 5)], iR 18 (.p .mv) [(.t 6)], iR 19 (.p .mv) [(.t 1)], iR 20 (.p .mv) [(.t 7)],
    iR 21 .callv [(.t 19), (.t 20)], iR 22 (.p (.slIdx 1)) [(.t 17), (.t 18)], ⟨none, none, (.e (.store 1)), [(.t 22), (.t 21)], none⟩])))) (.keep [1, 5, 10, 11, 12] (.reg [iR 23 (.p (.bin .add)) [(.t 12), (.c (.int .i64 (.ofNat 1)))], iR 12 (.p .mv) [(.t 23)]])))))))))))) (.keep [5] (.seq (.reg [iR 24 (.p .mv) [(.t 5)], iR 25 (.l .bytesStr) [(.t 24)], iR 4 (.p .mv) [(.t 25)]]) (.keep [4] (.keep [4] .ret))))))))), [(.t 4)]⟩
def s_infra_mapped_j0 (call : CallK) (N : Nat) (q : KV) (st : St) (τ : Tape) : Ans := match st with
  | ⟨fr, H⟩ => getK fr 5 fun t5 => someK (lBytesStr [t5] H) fun v4 => q v4 H τ
def s_infra_mapped_l1 (call : CallK) (N : Nat) (st : St) (τ : Tape) (k : KC) : Ans := match st with
  | ⟨fr, H⟩ => getK fr 1 fun t1 => getK fr 5 fun t5 => getK fr 10 fun t10 => getK fr 11 fun t11 => getK fr 12 fun t12 => binK .lss t12 t11 fun v5 => condK v5 (someK (pSlIdx 1 [t10, t12]) fun v6 => someK (lLoad1 [v6] H) fun v7 => opK call .callv [t1, v7] H τ fun v8 H9 τ10 => someK (pSlIdx 1 [t5, t12]) fun v11 => effK (eStore 1 [v11, v8] H9 τ10) fun v12 H13 τ14 => binK .add t12 (.int .i64 (.ofNat 1)) fun v15 => k .normal ⟨(T.set (T.set (T.set (T.set (T.set (T.set (T.set .leaf 1 t1) 5 t5) 10 t10) 11 t11) 12 t12) 23 v15) 12 v15), H13⟩ τ14) (k (.exit 0) ⟨(T.set .leaf 5 t5), H⟩ τ)
def s_infra_mapped (call : CallK) (N : Nat) (a0 a1 : V) (H : Heap) (τ : Tape) (q : KV) : Ans := effK (eStrBytes [a0] H τ) fun v0 H1 τ2 => someK (pLen [v0]) fun v3 => loopK (s_infra_mapped_l1 call N) N ⟨(T.set (T.set (T.set (T.set (T.set .leaf 1 a1) 5 v0) 10 v0) 11 v3) 12 (.int .i64 (.ofNat 0))), H1⟩ τ2 (blockK 0 (seqK (s_infra_mapped_j0 call N q) (endK [(.t 4)] q)))
theorem s_infra_mapped_eq (call : CallK) (N : Nat) (a0 a1 : V) (H : Heap) (τ : Tape) (q : KV) : s_infra_mapped call N a0 a1 H τ q = funK call N fn_infra_mapped [a0, a1] H τ q := by kernel_rfl
def e_infra_mapped (call : CallK) (N : Nat) (vs : List V) (H : Heap) (τ : Tape) (q : KV) : Ans := match vs with | [a0, a1] => s_infra_mapped call N a0 a1 H τ q | _ => none
theorem e_infra_mapped_ok : EntOk fn_infra_mapped e_infra_mapped := by
  intro call N vs H τ q r h
  unfold e_infra_mapped at h
  split at h
  · rw [s_infra_mapped_eq] at h; exact h
  · cases h
theorem e_infra_mapped_nat : EntNat e_infra_mapped := by
  intro c hn N vs H τ q
  unfold e_infra_mapped
  split
  · rw [s_infra_mapped_eq, s_infra_mapped_eq]; exact funK_ent hn _ _ _ _ _ _
  · rfl
/-- ostiary/infra.Lower$1 -/
def fn_infra_Lower_1 : Fun := ⟨1, (.seq (.reg [iR 2 (.p .mv) [(.c (.int .u8 (.ofNat 0)))]]) (.keep [0] (.seq (.seq (.reg [iR 3 (.p .mv) [(.t 0)], iR 4 (.p (.bin .geq)) [(.t 3), (.c (.int .u8 (.ofNat 65)))], iR 5 (.p .mv) [(.t 4)], iG 6 5 true (.p .mv) [(.t 0)], iG 7 5 true (.p (.bin .leq)) [(.t 6), (.c (.int .u8 (.ofNat 90)))], iR 8 (.p .pick) [(.t 5), (.t 7), (.c (.bool false))]]) (.keep [0, 8] (.cond (.t 8) (.reg [iR 9 (.p .mv) [(.t 0)], iR 10 (.p (.bin .add)) [(.t 9), (.c (.int .u8 (.ofNat 32)))], iR 0 (.p .mv) [(.t 10)]]) .skip))) (.keep [0] (.seq (.reg [iR 11 (.p .mv) [(.t 0)], iR 2 (.p .mv) [(.t 11)]]) (.keep [2] (.keep [2] .ret))))))), [(.t 2)]⟩
def s_infra_Lower_1_j0 (call : CallK) (N : Nat) (q : KV) (st : St) (τ : Tape) : Ans := match st with
  | ⟨fr, H⟩ => getK fr 0 fun t0 => q t0 H τ
def s_infra_Lower_1 (call : CallK) (N : Nat) (a0 : V) (H : Heap) (τ : Tape) (q : KV) : Ans := binK .geq a0 (.int .u8 (.ofNat 65)) fun v0 => gK v0 true (fun q' => q' a0 H τ) H τ fun v1 H2 τ3 => gK v0 true (fun q' => binK .leq v1 (.int .u8 (.ofNat 90)) fun v => q' v H2 τ3) H2 τ3 fun v4 H5 τ6 => someK (pPick [v0, v4, (.bool false)]) fun v7 => condK v7 (binK .add a0 (.int .u8 (.ofNat 32)) fun v8 => s_infra_Lower_1_j0 call N q ⟨(T.set (T.set (T.set (T.set (T.set .leaf 0 a0) 8 v7) 9 a0) 10 v8) 0 v8), H5⟩ τ6) (s_infra_Lower_1_j0 call N q ⟨(T.set (T.set .leaf 0 a0) 8 v7), H5⟩ τ6)
theorem s_infra_Lower_1_eq (call : CallK) (N : Nat) (a0 : V) (H : Heap) (τ : Tape) (q : KV) : s_infra_Lower_1 call N a0 H τ q = funK call N fn_infra_Lower_1 [a0] H τ q := by kernel_rfl
def e_infra_Lower_1 (call : CallK) (N : Nat) (vs : List V) (H : Heap) (τ : Tape) (q : KV) : Ans := match vs with | [a0] => s_infra_Lower_1 call N a0 H τ q | _ => none
theorem e_infra_Lower_1_ok : EntOk fn_infra_Lower_1 e_infra_Lower_1 := by
  intro call N vs H τ q r h
  unfold e_infra_Lower_1 at h
  split at h
  · rw [s_infra_Lower_1_eq] at h; exact h
  · cases h
theorem e_infra_Lower_1_nat : EntNat e_infra_Lower_1 := by
  intro c hn N vs H τ q
  unfold e_infra_Lower_1
  split
  · rw [s_infra_Lower_1_eq, s_infra_Lower_1_eq]; exact funK_ent hn _ _ _ _ _ _
  · rfl
/-- slices.Clone[[]byte,byte] -/
def fn_slices_Clone_byte : Fun := ⟨1, (.seq (.reg [iR 2 (.p .mv) [(.c .nils)]]) (.keep [0] (.seq (.seq (.reg [iR 3 (.p .mv) [(.t 0)], iR 4 (.p (.eq false .slice)) [(.t 3), (.c .nils)]]) (.keep [0, 4] (.cond (.t 4) (.seq (.reg [iR 2 (.p .mv) [(.c .nils)]]) (.keep [2] (.keep [2] .ret))) .skip))) (.keep [0] (.seq (.reg [iR 5 (.e (.buildSlice 0 1 [] [])) [], iR 6 (.p .mv) [(.t 0)], iR 7 (.e (.append 1 1)) [(.t 5), (.t 6)], iR 2 (.p .mv) [(.t 7)]]) (.keep [2] (.keep [2] .ret))))))), [(.t 2)]⟩
def s_slices_Clone_byte (call : CallK) (N : Nat) (a0 : V) (H : Heap) (τ : Tape) (q : KV) : Ans := someK (pEq false .slice [a0, .nils]) fun v0 => condK v0 (q .nils H τ) (effK (eBuildSlice 0 1 [] [] [] H τ) fun v1 H2 τ3 => effK (eAppend 1 1 [v1, a0] H2 τ3) fun v4 H5 τ6 => q v4 H5 τ6)
theorem s_slices_Clone_byte_eq (call : CallK) (N : Nat) (a0 : V) (H : Heap) (τ : Tape) (q : KV) : s_slices_Clone_byte call N a0 H τ q = funK call N fn_slices_Clone_byte [a0] H τ q := by kernel_rfl
def e_slices_Clone_byte (call : CallK) (N : Nat) (vs : List V) (H : Heap) (τ : Tape) (q : KV) : Ans := match vs with | [a0] => s_slices_Clone_byte call N a0 H τ q | _ => none
theorem e_slices_Clone_byte_ok : EntOk fn_slices_Clone_byte e_slices_Clone_byte := by
  intro call N vs H τ q r h
  unfold e_slices_Clone_byte at h
  split at h
  · rw [s_slices_Clone_byte_eq] at h; exact h
  · cases h
theorem e_slices_Clone_byte_nat : EntNat e_slices_Clone_byte := by
  intro c hn N vs H τ q
  unfold e_slices_Clone_byte
  split
  · rw [s_slices_Clone_byte_eq, s_slices_Clone_byte_eq]; exact funK_ent hn _ _ _ _ _ _
  · rfl
/-- ostiary/headers.Split -/
def fn_headers_Split : Fun := ⟨2, (.seq (.reg [iR 4 (.p .mv) [(.c .nils)], iR 5 (.p .mv) [(.c (.bool false))]]) (.keep [0, 1] (.seq (.reg [iR 13 (.p .mv) [(.t 0)], iR 14 (.p .mv) [(.t 1)], iR 15 (.call 30) [(.t 13), (.t 14)], iR 12 (.p .mv) [(.t 15)], iR 16 (.p (.extract 0)) [(.t 12)], iR 17 (.p (.extract 1)) [(.t 12)], iR 6 (.p .mv) [(.t 16)], iR 7 (.p .mv) [(.t 17)]]) (.keep [6, 7] (.seq (.seq (.reg [iR 18 (.p .mv) [(.t 7)], iR 19 (.p (.un .not)) [(.t 18)]]) (.keep [6, 19] (.cond (.t 19) (.seq (.reg [iR 4 (.p .mv) [(.c .nils)], iR 5 (.p .mv) [(.c (.bool false))]]) (.keep [4, 5] (.keep [4, 5] .ret))) .skip))) (.keep [6] (.seq (.reg [iR 8 (.p .mv) [(.c .nils)]]) (.keep [6, 8] (.seq (.reg [iR 9 (.p .mv) [(.c (.bool false))], iR 10 (.p .mv) [(.c (.int .i64 (.ofNat 0)))]]) (.keep [6, 8, 9, 10] (.seq (.seq (.reg [iR 11 (.p .mv) [(.c (.int .i64 (.ofNat 0)))]])
    (.keep [6, 8, 9, 10, 11] (.block 0 (.loop (.keep [6, 8, 9, 10, 11] (.seq (.seq (.reg [iR 20 (.p .mv) [(.t 11)], iR 21 (.p .mv) [(.t 6)], iR 22 (.p .lenS) [(.t 21)], iR 23 (.p (.bin .lss)) [(.t 20), (.t 22)]]) (.keep [6, 8, 9, 10, 11, 23] (.cond (.t 23) .skip (.keep [6, 8, 10] (.exit 0))))) (.keep [6, 8, 9, 10, 11] (.seq (.block 1 (.block 2 (.seq (.reg [iR 27 (.p .mv) [(.t 6)], iR 28 (.p .mv) [(.t 11)], iR 29 (.p .strIndex) [(.t 27), (.t 28)], iR 30 (.p (.bin .eql)) [(.t 29), (.c (.int .u8 (.ofNat 34)))], iR 26 (.p .mv) [(.t 30)]]) (.keep [6, 8, 9, 10, 11, 26] (.cond (.t 26) (.reg [iR 31 (.p .mv) [(.t 9)], iR 32 (.p (.un .not)) [(.t 31)], iR 9 (.p .mv) [(.t 32)]]) (.seq (.reg [iR 34 (.p .mv) [(.t 9)], iR 35 (.p .mv) [(.t 34)], iG 36 35 true (.p .mv) [(.t 6)], iG 37 35 true (.p .mv) [(.t 11)], iG 38 35 true (.p .strIndex) [(.t 36), (.t 37)],
    iG 39 35 true (.p (.bin .eql)) [(.t 38), (.c (.int .u8 (.ofNat 92)))], iR 40 (.p .pick) [(.t 35), (.t 39), (.c (.bool false))], iR 33 (.p .mv) [(.t 40)]]) (.keep [6, 8, 9, 10, 11, 33] (.cond (.t 33) (.reg [iR 41 (.p .mv) [(.t 11)], iR 42 (.p (.bin .add)) [(.t 41), (.c (.int .i64 (.ofNat 1)))], iR 11 (.p .mv) [(.t 42)]]) (.seq (.reg [iR 44 (.p .mv) [(.t 9)], iR 45 (.p (.un .not)) [(.t 44)], iR 46 (.p .mv) [(.t 45)], iG 47 46 true (.p .mv) [(.t 6)], iG 48 46 true (.p .mv) [(.t 11)], iG 49 46 true (.p .strIndex) [(.t 47), (.t 48)], iG 50 46 true (.p (.bin .eql)) [(.t 49), (.c (.int .u8 (.ofNat 44)))], iR 51 (.p .pick) [(.t 46), (.t 50), (.c (.bool false))], iR 43 (.p .mv) [(.t 51)]]) (.keep [6, 8, 9, 10, 11, 43] (.cond (.t 43) (.seq (.reg [iR 52 (.p .mv) [(.t 8)], iR 53 (.p .mv) [(.t 6)], iR 54 (.p .mv) [(.t 10)], iR 55 (.p .mv) [(.t 11)],
    iR 56 (.p (.strSlice true true)) [(.t 53), (.t 54), (.t 55)], iR 57 (.call 68) [(.t 56), (.c (.str (bs [9, 32])))], iR 58 (.e (.buildSlice 1 1 [(.str [])] [(0, 1)])) [(.t 57)], iR 59 (.e (.append 1 16)) [(.t 52), (.t 58)], iR 8 (.p .mv) [(.t 59)]]) (.keep [6, 8, 9, 11] (.reg [iR 60 (.p .mv) [(.t 11)], iR 61 (.p (.bin .add)) [(.t 60), (.c (.int .i64 (.ofNat 1)))], iR 10 (.p .mv) [(.t 61)]]))) .skip))))))))))) (.keep [6, 8, 9, 10, 11] (.reg [iR 24 (.p .mv) [(.t 11)], iR 25 (.p (.bin .add)) [(.t 24), (.c (.int .i64 (.ofNat 1)))], iR 11 (.p .mv) [(.t 25)]])))))))))) (.keep [6, 8, 10] (.seq (.reg [iR 62 (.p .mv) [(.t 8)], iR 63 (.p .mv) [(.t 6)], iR 64 (.p .mv) [(.t 10)], iR 65 (.p (.strSlice true false)) [(.t 63), (.t 64)], iR 66 (.call 68) [(.t 65), (.c (.str (bs [9, 32])))], iR 67 (.e (.buildSlice 1 1 [(.str [])] [(0, 1)])) [(.t 66)], iR 68 (.e (.append 1 16)) [(.t 62), (.t 67)],
    iR 4 (.p .mv) [(.t 68)], iR 5 (.p .mv) [(.c (.bool true))]]) (.keep [4, 5] (.keep [4, 5] .ret))))))))))))))), [(.t 4), (.t 5)]⟩
def s_headers_Split_j0 (call : CallK) (N : Nat) (q : KV) (st : St) (τ : Tape) : Ans := match st with
  | ⟨fr, H⟩ => getK fr 6 fun t6 => getK fr 8 fun t8 => getK fr 10 fun t10 => someK (pStrSlice true false [t6, t10]) fun v6 => call f_strings_Trim [v6, (.str (bs [9, 32]))] H τ fun v7 H8 τ9 => effK (eBuildSlice 1 1 [(.str [])] [(0, 1)] [v7] H8 τ9) fun v10 H11 τ12 => effK (eAppend 1 16 [t8, v10] H11 τ12) fun v13 H14 τ15 => q (.tup [v13, (.bool true)]) H14 τ15
def s_headers_Split_j2 (call : CallK) (N : Nat) (k : KC) (st : St) (τ : Tape) : Ans := match st with
  | ⟨fr, H⟩ => getK fr 6 fun t6 => getK fr 8 fun t8 => getK fr 9 fun t9 => getK fr 10 fun t10 => getK fr 11 fun t11 => binK .add t11 (.int .i64 (.ofNat 1)) fun v18 => k .normal ⟨(T.set (T.set (T.set (T.set (T.set (T.set (T.set (T.set .leaf 6 t6) 8 t8) 9 t9) 10 t10) 11 t11) 24 t11) 25 v18) 11 v18), H⟩ τ
def s_headers_Split_l1 (call : CallK) (N : Nat) (st : St) (τ : Tape) (k : KC) : Ans := match st with
  | ⟨fr, H⟩ => getK fr 6 fun t6 => getK fr 8 fun t8 => getK fr 9 fun t9 => getK fr 10 fun t10 => getK fr 11 fun t11 => someK (pLenS [t6]) fun v16 => binK .lss t11 v16 fun v17 => condK v17 (someK (pStrIndex [t6, t11]) fun v19 => binK .eql v19 (.int .u8 (.ofNat 34)) fun v20 => condK v20 (unK .not t9 fun v21 => s_headers_Split_j2 call N k ⟨(T.set (T.set (T.set (T.set (T.set (T.set (T.set (T.set (T.set .leaf 6 t6) 8 t8) 9 t9) 10 t10) 11 t11) 26 v20) 31 t9) 32 v21) 9 v21), H⟩ τ) (gK t9 true (fun q' => q' t6 H τ) H τ fun v22 H23 τ24 => gK t9 true (fun q' => q' t11 H23 τ24) H23 τ24 fun v25 H26 τ27 => gK t9 true (fun q' => someK (pStrIndex [v22, v25]) fun v => q' v H26 τ27) H26 τ27 fun v28 H29 τ30 => gK t9 true (fun q' => binK .eql v28 (.int .u8 (.ofNat 92)) fun v => q' v H29 τ30) H29 τ30 fun v31 H32 τ33 => someK (pPick [t9, v31, (.bool false)]) fun v34 => condK v34
    (binK .add t11 (.int .i64 (.ofNat 1)) fun v35 => s_headers_Split_j2 call N k ⟨(T.set (T.set (T.set (T.set (T.set (T.set (T.set (T.set (T.set .leaf 6 t6) 8 t8) 9 t9) 10 t10) 11 t11) 33 v34) 41 t11) 42 v35) 11 v35), H32⟩ τ33) (unK .not t9 fun v36 => gK v36 true (fun q' => q' t6 H32 τ33) H32 τ33 fun v37 H38 τ39 => gK v36 true (fun q' => q' t11 H38 τ39) H38 τ39 fun v40 H41 τ42 => gK v36 true (fun q' => someK (pStrIndex [v37, v40]) fun v => q' v H41 τ42) H41 τ42 fun v43 H44 τ45 => gK v36 true (fun q' => binK .eql v43 (.int .u8 (.ofNat 44)) fun v => q' v H44 τ45) H44 τ45 fun v46 H47 τ48 => someK (pPick [v36, v46, (.bool false)]) fun v49 => condK v49 (someK (pStrSlice true true [t6, t10, t11]) fun v50 => call f_strings_Trim [v50, (.str (bs [9, 32]))] H47 τ48 fun v51 H52 τ53 => effK (eBuildSlice 1 1 [(.str [])] [(0, 1)] [v51] H52 τ53) fun v54 H55 τ56 =>
    effK (eAppend 1 16 [t8, v54] H55 τ56) fun v57 H58 τ59 => binK .add t11 (.int .i64 (.ofNat 1)) fun v60 => s_headers_Split_j2 call N k ⟨(T.set (T.set (T.set (T.set (T.set (T.set (T.set .leaf 6 t6) 8 v57) 9 t9) 11 t11) 60 t11) 61 v60) 10 v60), H58⟩ τ59) (s_headers_Split_j2 call N k ⟨(T.set (T.set (T.set (T.set (T.set (T.set .leaf 6 t6) 8 t8) 9 t9) 10 t10) 11 t11) 43 v49), H47⟩ τ48)))) (k (.exit 0) ⟨(T.set (T.set (T.set .leaf 6 t6) 8 t8) 10 t10), H⟩ τ)
def s_headers_Split (call : CallK) (N : Nat) (a0 a1 : V) (H : Heap) (τ : Tape) (q : KV) : Ans := call f_headers_Get [a0, a1] H τ fun v0 H1 τ2 => someK (pExtract 0 [v0]) fun v3 => someK (pExtract 1 [v0]) fun v4 => unK .not v4 fun v5 => condK v5 (q (.tup [.nils, (.bool false)]) H1 τ2) (loopK (s_headers_Split_l1 call N) N ⟨(T.set (T.set (T.set (T.set (T.set .leaf 6 v3) 8 .nils) 9 (.bool false)) 10 (.int .i64 (.ofNat 0))) 11 (.int .i64 (.ofNat 0))), H1⟩ τ2 (blockK 0 (seqK (s_headers_Split_j0 call N q) (endK [(.t 4), (.t 5)] q))))
theorem s_headers_Split_eq (call : CallK) (N : Nat) (a0 a1 : V) (H : Heap) (τ : Tape) (q : KV) : s_headers_Split call N a0 a1 H τ q = funK call N fn_headers_Split [a0, a1] H τ q := by kernel_rfl
def e_headers_Split (call : CallK) (N : Nat) (vs : List V) (H : Heap) (τ : Tape) (q : KV) : Ans := match vs with | [a0, a1] => s_headers_Split call N a0 a1 H τ q | _ => none
theorem e_headers_Split_ok : EntOk fn_headers_Split e_headers_Split := by
  intro call N vs H τ q r h
  unfold e_headers_Split at h
  split at h
  · rw [s_headers_Split_eq] at h; exact h
  · cases h
theorem e_headers_Split_nat : EntNat e_headers_Split := by
  intro c hn N vs H τ q
  unfold e_headers_Split
  split
  · rw [s_headers_Split_eq, s_headers_Split_eq]; exact funK_ent hn _ _ _ _ _ _
  · rfl
/-- slices.Index[[]string,string] -/
def fn_slices_Index_string : Fun := ⟨2, (.seq (.reg [iR 4 (.p .mv) [(.c (.int .i64 (.ofNat 0)))]]) (.keep [0, 1] (.seq (.seq (.reg [iR 6 (.p .mv) [(.t 0)], iR 7 (.p .len) [(.t 6)], iR 8 (.p .mv) [(.c (.int .i64 (.ofNat 0)))]]) (.keep [0, 1, 7, 8] (.block 0 (.loop (.keep [0, 1, 7, 8] (.seq (.reg [iR 9 (.p (.bin .lss)) [(.t 8), (.t 7)]]) (.keep [0, 1, 7, 8, 9] (.seq (.cond (.t 9) .skip (.keep [] (.exit 0))) (.keep [0, 1, 7, 8] (.seq (.block 1 (.seq (.reg [iR 10 (.p .mv) [(.t 8)], iR 5 (.p .mv) [(.t 10)]]) (.keep [0, 1, 5, 7, 8] (.seq (.reg [iR 11 (.p .mv) [(.t 1)], iR 12 (.p .mv) [(.t 0)], iR 13 (.p .mv) [(.t 5)], iR 14 (.p (.slIdx 1)) [(.t 12), (.t 13)], iR 15 (.l (.load none)) [(.t 14)], iR 16 (.p (.bin .eql)) [(.t 11), (.t 15)]]) (.keep [0, 1, 5, 7, 8, 16] (.cond (.t 16) (.seq (.reg [iR 17 (.p .mv) [(.t 5)], iR 4 (.p .mv) [(.t 17)]]) (.keep [4] (.keep [4] .ret))) .skip))))))
    (.keep [0, 1, 7, 8] (.reg [iR 18 (.p (.bin .add)) [(.t 8), (.c (.int .i64 (.ofNat 1)))], iR 8 (.p .mv) [(.t 18)]])))))))))))) (.keep [] (.seq (.reg [iR 4 (.p .mv) [(.c (.int .i64 (.negSucc 0)))]]) (.keep [4] (.keep [4] .ret))))))), [(.t 4)]⟩
def s_slices_Index_string_j0 (call : CallK) (N : Nat) (q : KV) (st : St) (τ : Tape) : Ans := match st with
  | ⟨fr, H⟩ => q (.int .i64 (.negSucc 0)) H τ
def s_slices_Index_string_l1 (call : CallK) (N : Nat) (st : St) (τ : Tape) (k : KC) : Ans := match st with
  | ⟨fr, H⟩ => getK fr 0 fun t0 => getK fr 1 fun t1 => getK fr 7 fun t7 => getK fr 8 fun t8 => binK .lss t8 t7 fun v1 => condK v1 (someK (pSlIdx 1 [t0, t8]) fun v2 => someK (lLoad1 [v2] H) fun v3 => binK .eql t1 v3 fun v4 => condK v4 (k .ret ⟨(T.set .leaf 4 t8), H⟩ τ) (binK .add t8 (.int .i64 (.ofNat 1)) fun v5 => k .normal ⟨(T.set (T.set (T.set (T.set (T.set (T.set .leaf 0 t0) 1 t1) 7 t7) 8 t8) 18 v5) 8 v5), H⟩ τ)) (k (.exit 0) ⟨.leaf, H⟩ τ)
def s_slices_Index_string (call : CallK) (N : Nat) (a0 a1 : V) (H : Heap) (τ : Tape) (q : KV) : Ans := someK (pLen [a0]) fun v0 => loopK (s_slices_Index_string_l1 call N) N ⟨(T.set (T.set (T.set (T.set .leaf 0 a0) 1 a1) 7 v0) 8 (.int .i64 (.ofNat 0))), H⟩ τ (blockK 0 (seqK (s_slices_Index_string_j0 call N q) (endK [(.t 4)] q)))
theorem s_slices_Index_string_eq (call : CallK) (N : Nat) (a0 a1 : V) (H : Heap) (τ : Tape) (q : KV) : s_slices_Index_string call N a0 a1 H τ q = funK call N fn_slices_Index_string [a0, a1] H τ q := by kernel_rfl
def e_slices_Index_string (call : CallK) (N : Nat) (vs : List V) (H : Heap) (τ : Tape) (q : KV) : Ans := match vs with | [a0, a1] => s_slices_Index_string call N a0 a1 H τ q | _ => none
theorem e_slices_Index_string_ok : EntOk fn_slices_Index_string e_slices_Index_string := by
  intro call N vs H τ q r h
  unfold e_slices_Index_string at h
  split at h
  · rw [s_slices_Index_string_eq] at h; exact h
  · cases h
theorem e_slices_Index_string_nat : EntNat e_slices_Index_string := by
  intro c hn N vs H τ q
  unfold e_slices_Index_string
  split
  · rw [s_slices_Index_string_eq, s_slices_Index_string_eq]; exact funK_ent hn _ _ _ _ _ _
  · rfl
/-- strings.Trim -/
def fn_strings_Trim : Fun := ⟨2, (.seq (.reg [iR 4 (.p .mv) [(.c (.str []))]]) (.keep [0, 1] (.seq (.seq (.reg [iR 7 (.p .mv) [(.t 0)], iR 8 (.p (.bin .eql)) [(.t 7), (.c (.str []))], iR 9 (.p .mv) [(.t 8)], iG 10 9 false (.p .mv) [(.t 1)], iG 11 9 false (.p (.bin .eql)) [(.t 10), (.c (.str []))], iR 12 (.p .pick) [(.t 9), (.c (.bool true)), (.t 11)]]) (.keep [0, 1, 12] (.cond (.t 12) (.seq (.reg [iR 13 (.p .mv) [(.t 0)], iR 4 (.p .mv) [(.t 13)]]) (.keep [4] (.keep [4] .ret))) .skip))) (.keep [0, 1] (.seq (.seq (.reg [iR 14 (.p .mv) [(.t 1)], iR 15 (.p .lenS) [(.t 14)], iR 16 (.p (.bin .eql)) [(.t 15), (.c (.int .i64 (.ofNat 1)))], iR 17 (.p .mv) [(.t 16)], iG 18 17 true (.p .mv) [(.t 1)], iG 19 17 true (.p .strIndex) [(.t 18), (.c (.int .i64 (.ofNat 0)))], iG 20 17 true (.p (.bin .lss)) [(.t 19), (.c (.int .u8 (.ofNat 128)))],
    iR 21 (.p .pick) [(.t 17), (.t 20), (.c (.bool false))]]) (.keep [0, 1, 21] (.cond (.t 21) (.seq (.draw [iR 22 (.p .mv) [(.t 0)], iR 23 (.p .mv) [(.t 1)], iR 24 (.p .strIndex) [(.t 23), (.c (.int .i64 (.ofNat 0)))], iR 25 (.call 88) [(.t 22), (.t 24)], iR 26 (.p .mv) [(.t 1)], iR 27 (.p .strIndex) [(.t 26), (.c (.int .i64 (.ofNat 0)))], iR 28 (.call 87) [(.t 25), (.t 27)], iR 4 (.p .mv) [(.t 28)]]) (.keep [4] (.keep [4] .ret))) .skip))) (.keep [0, 1] (.seq (.seq (.reg [iR 30 (.p .mv) [(.t 1)], iR 31 (.call 89) [(.t 30)], iR 29 (.p .mv) [(.t 31)], iR 32 (.p (.extract 0)) [(.t 29)], iR 33 (.p (.extract 1)) [(.t 29)], iR 5 (.e (.alloc (repl 256 [(.bool false)]))) [], ⟨none, none, (.e (.store 256)), [(.t 5), (.t 32)], none⟩, iR 6 (.p .mv) [(.t 33)]]) (.keep [0, 1, 5, 6] (.seq (.reg [iR 34 (.p .mv) [(.t 6)]]) (.keep [0, 1, 5, 34] (.cond (.t 34) (.seq (.reg [iR 35 (.p .mv) [(.t 0)],
    iR 36 (.call 91) [(.t 35), (.t 5)], iR 37 (.call 90) [(.t 36), (.t 5)], iR 4 (.p .mv) [(.t 37)]]) (.keep [4] (.keep [4] .ret))) .skip))))) (.keep [0, 1] (.seq (.reg [iR 38 (.p .mv) [(.t 0)], iR 39 (.p .mv) [(.t 1)], iR 40 (.call 93) [(.t 38), (.t 39)], iR 41 (.p .mv) [(.t 1)], iR 42 (.call 92) [(.t 40), (.t 41)], iR 4 (.p .mv) [(.t 42)]]) (.keep [4] (.keep [4] .ret))))))))))), [(.t 4)]⟩
def s_strings_Trim (call : CallK) (N : Nat) (a0 a1 : V) (H : Heap) (τ : Tape) (q : KV) : Ans := binK .eql a0 (.str []) fun v0 => gK v0 false (fun q' => q' a1 H τ) H τ fun v1 H2 τ3 => gK v0 false (fun q' => binK .eql v1 (.str []) fun v => q' v H2 τ3) H2 τ3 fun v4 H5 τ6 => someK (pPick [v0, (.bool true), v4]) fun v7 => condK v7 (q a0 H5 τ6) (someK (pLenS [a1]) fun v8 => binK .eql v8 (.int .i64 (.ofNat 1)) fun v9 => gK v9 true (fun q' => q' a1 H5 τ6) H5 τ6 fun v10 H11 τ12 => gK v9 true (fun q' => someK (pStrIndex [v10, (.int .i64 (.ofNat 0))]) fun v => q' v H11 τ12) H11 τ12 fun v13 H14 τ15 => gK v9 true (fun q' => binK .lss v13 (.int .u8 (.ofNat 128)) fun v => q' v H14 τ15) H14 τ15 fun v16 H17 τ18 => someK (pPick [v9, v16, (.bool false)]) fun v19 => condK v19 (someK (pStrIndex [a1, (.int .i64 (.ofNat 0))]) fun v20 => call f_strings_trimRightByte [a0, v20] H17 τ18 fun v21 H22 τ23 =>
    someK (pStrIndex [a1, (.int .i64 (.ofNat 0))]) fun v24 => call f_strings_trimLeftByte [v21, v24] H22 τ23 fun v25 H26 τ27 => q v25 H26 τ27) (call f_strings_makeASCIISet [a1] H17 τ18 fun v28 H29 τ30 => someK (pExtract 0 [v28]) fun v31 => someK (pExtract 1 [v28]) fun v32 => effK (eAlloc (repl 256 [(.bool false)]) [] H29 τ30) fun v33 H34 τ35 => effK (eStore 256 [v33, v31] H34 τ35) fun v36 H37 τ38 => condK v32 (call f_strings_trimRightASCII [a0, v33] H37 τ38 fun v39 H40 τ41 => call f_strings_trimLeftASCII [v39, v33] H40 τ41 fun v42 H43 τ44 => q v42 H43 τ44) (call f_strings_trimRightUnicode [a0, a1] H37 τ38 fun v45 H46 τ47 => call f_strings_trimLeftUnicode [v45, a1] H46 τ47 fun v48 H49 τ50 => q v48 H49 τ50)))
theorem s_strings_Trim_eq (call : CallK) (N : Nat) (a0 a1 : V) (H : Heap) (τ : Tape) (q : KV) : s_strings_Trim call N a0 a1 H τ q = funK call N fn_strings_Trim [a0, a1] H τ q := by kernel_rfl
def e_strings_Trim (call : CallK) (N : Nat) (vs : List V) (H : Heap) (τ : Tape) (q : KV) : Ans := match vs with | [a0, a1] => s_strings_Trim call N a0 a1 H τ q | _ => none
theorem e_strings_Trim_ok : EntOk fn_strings_Trim e_strings_Trim := by
  intro call N vs H τ q r h
  unfold e_strings_Trim at h
  split at h
  · rw [s_strings_Trim_eq] at h; exact h
  · cases h
theorem e_strings_Trim_nat : EntNat e_strings_Trim := by
  intro c hn N vs H τ q
  unfold e_strings_Trim
  split
  · rw [s_strings_Trim_eq, s_strings_Trim_eq]; exact funK_ent hn _ _ _ _ _ _
  · rfl
/-- strings.trimLeftByte -/
def fn_strings_trimLeftByte : Fun := ⟨2, (.seq (.reg [iR 4 (.p .mv) [(.c (.str []))]]) (.keep [0, 1] (.seq (.block 0 (.loop (.keep [0, 1] (.seq (.seq (.reg [iR 5 (.p .mv) [(.t 0)], iR 6 (.p .lenS) [(.t 5)], iR 7 (.p (.bin .gtr)) [(.t 6), (.c (.int .i64 (.ofNat 0)))], iR 8 (.p .mv) [(.t 7)], iG 9 8 true (.p .mv) [(.t 0)], iG 10 8 true (.p .strIndex) [(.t 9), (.c (.int .i64 (.ofNat 0)))], iG 11 8 true (.p .mv) [(.t 1)], iG 12 8 true (.p (.bin .eql)) [(.t 10), (.t 11)], iR 13 (.p .pick) [(.t 8), (.t 12), (.c (.bool false))]]) (.keep [0, 1, 13] (.cond (.t 13) .skip (.keep [0] (.exit 0))))) (.keep [0, 1] (.block 1 (.reg [iR 14 (.p .mv) [(.t 0)], iR 15 (.p (.strSlice true false)) [(.t 14), (.c (.int .i64 (.ofNat 1)))], iR 0 (.p .mv) [(.t 15)]]))))))) (.keep [0] (.seq (.reg [iR 16 (.p .mv) [(.t 0)], iR 4 (.p .mv) [(.t 16)]]) (.keep [4] (.keep [4] .ret))))))), [(.t 4)]⟩
def s_strings_trimLeftByte_j0 (call : CallK) (N : Nat) (q : KV) (st : St) (τ : Tape) : Ans := match st with
  | ⟨fr, H⟩ => getK fr 0 fun t0 => q t0 H τ
def s_strings_trimLeftByte_l1 (call : CallK) (N : Nat) (st : St) (τ : Tape) (k : KC) : Ans := match st with
  | ⟨fr, H⟩ => getK fr 0 fun t0 => getK fr 1 fun t1 => someK (pLenS [t0]) fun v0 => binK .gtr v0 (.int .i64 (.ofNat 0)) fun v1 => gK v1 true (fun q' => q' t0 H τ) H τ fun v2 H3 τ4 => gK v1 true (fun q' => someK (pStrIndex [v2, (.int .i64 (.ofNat 0))]) fun v => q' v H3 τ4) H3 τ4 fun v5 H6 τ7 => gK v1 true (fun q' => q' t1 H6 τ7) H6 τ7 fun v8 H9 τ10 => gK v1 true (fun q' => binK .eql v5 v8 fun v => q' v H9 τ10) H9 τ10 fun v11 H12 τ13 => someK (pPick [v1, v11, (.bool false)]) fun v14 => condK v14 (someK (pStrSlice true false [t0, (.int .i64 (.ofNat 1))]) fun v15 => k .normal ⟨(T.set (T.set (T.set (T.set (T.set .leaf 0 t0) 1 t1) 14 t0) 15 v15) 0 v15), H12⟩ τ13) (k (.exit 0) ⟨(T.set .leaf 0 t0), H12⟩ τ13)
def s_strings_trimLeftByte (call : CallK) (N : Nat) (a0 a1 : V) (H : Heap) (τ : Tape) (q : KV) : Ans := loopK (s_strings_trimLeftByte_l1 call N) N ⟨(T.set (T.set .leaf 0 a0) 1 a1), H⟩ τ (blockK 0 (seqK (s_strings_trimLeftByte_j0 call N q) (endK [(.t 4)] q)))
theorem s_strings_trimLeftByte_eq (call : CallK) (N : Nat) (a0 a1 : V) (H : Heap) (τ : Tape) (q : KV) : s_strings_trimLeftByte call N a0 a1 H τ q = funK call N fn_strings_trimLeftByte [a0, a1] H τ q := by kernel_rfl
def e_strings_trimLeftByte (call : CallK) (N : Nat) (vs : List V) (H : Heap) (τ : Tape) (q : KV) : Ans := match vs with | [a0, a1] => s_strings_trimLeftByte call N a0 a1 H τ q | _ => none
theorem e_strings_trimLeftByte_ok : EntOk fn_strings_trimLeftByte e_strings_trimLeftByte := by
  intro call N vs H τ q r h
  unfold e_strings_trimLeftByte at h
  split at h
  · rw [s_strings_trimLeftByte_eq] at h; exact h
  · cases h
theorem e_strings_trimLeftByte_nat : EntNat e_strings_trimLeftByte := by
  intro c hn N vs H τ q
  unfold e_strings_trimLeftByte
  split
  · rw [s_strings_trimLeftByte_eq, s_strings_trimLeftByte_eq]; exact funK_ent hn _ _ _ _ _ _
  · rfl
/-- strings.trimRightByte -/
def fn_strings_trimRightByte : Fun := ⟨2, (.seq (.reg [iR 4 (.p .mv) [(.c (.str []))]]) (.keep [0, 1] (.seq (.block 0 (.loop (.keep [0, 1] (.seq (.seq (.reg [iR 5 (.p .mv) [(.t 0)], iR 6 (.p .lenS) [(.t 5)], iR 7 (.p (.bin .gtr)) [(.t 6), (.c (.int .i64 (.ofNat 0)))], iR 8 (.p .mv) [(.t 7)], iG 9 8 true (.p .mv) [(.t 0)], iG 10 8 true (.p .mv) [(.t 0)], iG 11 8 true (.p .lenS) [(.t 10)], iG 12 8 true (.p (.bin .sub)) [(.t 11), (.c (.int .i64 (.ofNat 1)))], iG 13 8 true (.p .strIndex) [(.t 9), (.t 12)], iG 14 8 true (.p .mv) [(.t 1)], iG 15 8 true (.p (.bin .eql)) [(.t 13), (.t 14)], iR 16 (.p .pick) [(.t 8), (.t 15), (.c (.bool false))]]) (.keep [0, 1, 16] (.cond (.t 16) .skip (.keep [0] (.exit 0))))) (.keep [0, 1] (.block 1 (.reg [iR 17 (.p .mv) [(.t 0)], iR 18 (.p .mv) [(.t 0)], iR 19 (.p .lenS) [(.t 18)], iR 20 (.p (.bin .sub)) [(.t 19), (.c (.int .i64 (.ofNat 1)))],
    iR 21 (.p (.strSlice false true)) [(.t 17), (.t 20)], iR 0 (.p .mv) [(.t 21)]]))))))) (.keep [0] (.seq (.reg [iR 22 (.p .mv) [(.t 0)], iR 4 (.p .mv) [(.t 22)]]) (.keep [4] (.keep [4] .ret))))))), [(.t 4)]⟩
def s_strings_trimRightByte_j0 (call : CallK) (N : Nat) (q : KV) (st : St) (τ : Tape) : Ans := match st with
  | ⟨fr, H⟩ => getK fr 0 fun t0 => q t0 H τ
def s_strings_trimRightByte_l1 (call : CallK) (N : Nat) (st : St) (τ : Tape) (k : KC) : Ans := match st with
  | ⟨fr, H⟩ => getK fr 0 fun t0 => getK fr 1 fun t1 => someK (pLenS [t0]) fun v0 => binK .gtr v0 (.int .i64 (.ofNat 0)) fun v1 => gK v1 true (fun q' => q' t0 H τ) H τ fun v2 H3 τ4 => gK v1 true (fun q' => q' t0 H3 τ4) H3 τ4 fun v5 H6 τ7 => gK v1 true (fun q' => someK (pLenS [v5]) fun v => q' v H6 τ7) H6 τ7 fun v8 H9 τ10 => gK v1 true (fun q' => binK .sub v8 (.int .i64 (.ofNat 1)) fun v => q' v H9 τ10) H9 τ10 fun v11 H12 τ13 => gK v1 true (fun q' => someK (pStrIndex [v2, v11]) fun v => q' v H12 τ13) H12 τ13 fun v14 H15 τ16 => gK v1 true (fun q' => q' t1 H15 τ16) H15 τ16 fun v17 H18 τ19 => gK v1 true (fun q' => binK .eql v14 v17 fun v => q' v H18 τ19) H18 τ19 fun v20 H21 τ22 => someK (pPick [v1, v20, (.bool false)]) fun v23 => condK v23 (someK (pLenS [t0]) fun v24 => binK .sub v24 (.int .i64 (.ofNat 1)) fun v25 => someK (pStrSlice false true [t0, v25]) fun v26 =>
    k .normal ⟨(T.set (T.set (T.set (T.set (T.set (T.set (T.set (T.set .leaf 0 t0) 1 t1) 17 t0) 18 t0) 19 v24) 20 v25) 21 v26) 0 v26), H21⟩ τ22) (k (.exit 0) ⟨(T.set .leaf 0 t0), H21⟩ τ22)
def s_strings_trimRightByte (call : CallK) (N : Nat) (a0 a1 : V) (H : Heap) (τ : Tape) (q : KV) : Ans := loopK (s_strings_trimRightByte_l1 call N) N ⟨(T.set (T.set .leaf 0 a0) 1 a1), H⟩ τ (blockK 0 (seqK (s_strings_trimRightByte_j0 call N q) (endK [(.t 4)] q)))
theorem s_strings_trimRightByte_eq (call : CallK) (N : Nat) (a0 a1 : V) (H : Heap) (τ : Tape) (q : KV) : s_strings_trimRightByte call N a0 a1 H τ q = funK call N fn_strings_trimRightByte [a0, a1] H τ q := by kernel_rfl
def e_strings_trimRightByte (call : CallK) (N : Nat) (vs : List V) (H : Heap) (τ : Tape) (q : KV) : Ans := match vs with | [a0, a1] => s_strings_trimRightByte call N a0 a1 H τ q | _ => none
theorem e_strings_trimRightByte_ok : EntOk fn_strings_trimRightByte e_strings_trimRightByte := by
  intro call N vs H τ q r h
  unfold e_strings_trimRightByte at h
  split at h
  · rw [s_strings_trimRightByte_eq] at h; exact h
  · cases h
theorem e_strings_trimRightByte_nat : EntNat e_strings_trimRightByte := by
  intro c hn N vs H τ q
  unfold e_strings_trimRightByte
  split
  · rw [s_strings_trimRightByte_eq, s_strings_trimRightByte_eq]; exact funK_ent hn _ _ _ _ _ _
  · rfl
/-- strings.makeASCIISet -/
def fn_strings_makeASCIISet : Fun := ⟨1, (.seq (.reg [iR 2 (.e (.alloc (repl 256 [(.bool false)]))) [], iR 3 (.p .mv) [(.c (.bool false))]]) (.keep [0, 2] (.seq (.seq (.reg [iR 4 (.p .mv) [(.c (.int .i64 (.ofNat 0)))]]) (.keep [0, 2, 4] (.block 0 (.loop (.keep [0, 2, 4] (.seq (.seq (.reg [iR 6 (.p .mv) [(.t 4)], iR 7 (.p .mv) [(.t 0)], iR 8 (.p .lenS) [(.t 7)], iR 9 (.p (.bin .lss)) [(.t 6), (.t 8)]]) (.keep [0, 2, 4, 9] (.cond (.t 9) .skip (.keep [2] (.exit 0))))) (.keep [0, 2, 4] (.seq (.block 1 (.seq (.reg [iR 12 (.p .mv) [(.t 0)], iR 13 (.p .mv) [(.t 4)], iR 14 (.p .strIndex) [(.t 12), (.t 13)], iR 5 (.p .mv) [(.t 14)]]) (.keep [0, 2, 4, 5] (.seq (.seq (.reg [iR 15 (.p .mv) [(.t 5)], iR 16 (.p (.bin .geq)) [(.t 15), (.c (.int .u8 (.ofNat 128)))]]) (.keep [0, 2, 4, 5, 16] (.cond (.t 16) (.seq (.reg [iR 17 (.l (.load (some 256))) [(.t 2)],
    ⟨none, none, (.e (.store 256)), [(.t 2), (.t 17)], none⟩, iR 3 (.p .mv) [(.c (.bool false))]]) (.keep [2, 3] (.keep [2, 3] .ret))) .skip))) (.keep [0, 2, 4, 5] (.reg [iR 18 (.p .mv) [(.t 5)], iR 19 (.p (.arrIdx 256 1)) [(.t 2), (.t 18)], ⟨none, none, (.e (.store 1)), [(.t 19), (.c (.bool true))], none⟩])))))) (.keep [0, 2, 4] (.reg [iR 10 (.p .mv) [(.t 4)], iR 11 (.p (.bin .add)) [(.t 10), (.c (.int .i64 (.ofNat 1)))], iR 4 (.p .mv) [(.t 11)]])))))))))) (.keep [2] (.seq (.reg [iR 20 (.l (.load (some 256))) [(.t 2)], ⟨none, none, (.e (.store 256)), [(.t 2), (.t 20)], none⟩, iR 3 (.p .mv) [(.c (.bool true))]]) (.keep [2, 3] (.keep [2, 3] .ret))))))), [(.cell 2 (some 256)), (.t 3)]⟩
def s_strings_makeASCIISet_j0 (call : CallK) (N : Nat) (q : KV) (st : St) (τ : Tape) : Ans := match st with
  | ⟨fr, H⟩ => getK fr 2 fun t2 => someK (lLoadN 256 [t2] H) fun v3 => effK (eStore 256 [t2, v3] H τ) fun v4 H5 τ6 => someK (results ⟨(T.set (T.set .leaf 2 t2) 3 (.bool true)), H5⟩ [(.cell 2 (some 256)), (.t 3)]) fun v => q v H5 τ6
def s_strings_makeASCIISet_l1 (call : CallK) (N : Nat) (st : St) (τ : Tape) (k : KC) : Ans := match st with
  | ⟨fr, H⟩ => getK fr 0 fun t0 => getK fr 2 fun t2 => getK fr 4 fun t4 => someK (pLenS [t0]) fun v7 => binK .lss t4 v7 fun v8 => condK v8 (someK (pStrIndex [t0, t4]) fun v9 => binK .geq v9 (.int .u8 (.ofNat 128)) fun v10 => condK v10 (someK (lLoadN 256 [t2] H) fun v11 => effK (eStore 256 [t2, v11] H τ) fun v12 H13 τ14 => k .ret ⟨(T.set (T.set .leaf 2 t2) 3 (.bool false)), H13⟩ τ14) (someK (pArrIdx 256 1 [t2, v9]) fun v15 => effK (eStore 1 [v15, (.bool true)] H τ) fun v16 H17 τ18 => binK .add t4 (.int .i64 (.ofNat 1)) fun v19 => k .normal ⟨(T.set (T.set (T.set (T.set (T.set (T.set .leaf 0 t0) 2 t2) 4 t4) 10 t4) 11 v19) 4 v19), H17⟩ τ18)) (k (.exit 0) ⟨(T.set .leaf 2 t2), H⟩ τ)
def s_strings_makeASCIISet (call : CallK) (N : Nat) (a0 : V) (H : Heap) (τ : Tape) (q : KV) : Ans := effK (eAlloc (repl 256 [(.bool false)]) [] H τ) fun v0 H1 τ2 => loopK (s_strings_makeASCIISet_l1 call N) N ⟨(T.set (T.set (T.set .leaf 0 a0) 2 v0) 4 (.int .i64 (.ofNat 0))), H1⟩ τ2 (blockK 0 (seqK (s_strings_makeASCIISet_j0 call N q) (endK [(.cell 2 (some 256)), (.t 3)] q)))
theorem s_strings_makeASCIISet_eq (call : CallK) (N : Nat) (a0 : V) (H : Heap) (τ : Tape) (q : KV) : s_strings_makeASCIISet call N a0 H τ q = funK call N fn_strings_makeASCIISet [a0] H τ q := by kernel_rfl
def e_strings_makeASCIISet (call : CallK) (N : Nat) (vs : List V) (H : Heap) (τ : Tape) (q : KV) : Ans := match vs with | [a0] => s_strings_makeASCIISet call N a0 H τ q | _ => none
theorem e_strings_makeASCIISet_ok : EntOk fn_strings_makeASCIISet e_strings_makeASCIISet := by
  intro call N vs H τ q r h
  unfold e_strings_makeASCIISet at h
  split at h
  · rw [s_strings_makeASCIISet_eq] at h; exact h
  · cases h
theorem e_strings_makeASCIISet_nat : EntNat e_strings_makeASCIISet := by
  intro c hn N vs H τ q
  unfold e_strings_makeASCIISet
  split
  · rw [s_strings_makeASCIISet_eq, s_strings_makeASCIISet_eq]; exact funK_ent hn _ _ _ _ _ _
  · rfl
/-- strings.trimLeftASCII -/
def fn_strings_trimLeftASCII : Fun := ⟨2, (.seq (.reg [iR 4 (.p .mv) [(.c (.str []))]]) (.keep [0, 1] (.seq (.block 0 (.loop (.keep [0, 1] (.seq (.seq (.reg [iR 5 (.p .mv) [(.t 0)], iR 6 (.p .lenS) [(.t 5)], iR 7 (.p (.bin .gtr)) [(.t 6), (.c (.int .i64 (.ofNat 0)))]]) (.keep [0, 1, 7] (.cond (.t 7) .skip (.keep [0] (.exit 0))))) (.keep [0, 1] (.block 1 (.seq (.seq (.reg [iR 8 (.p .mv) [(.t 1)], iR 9 (.p .mv) [(.t 0)], iR 10 (.p .strIndex) [(.t 9), (.c (.int .i64 (.ofNat 0)))], iR 11 (.call 107) [(.t 8), (.t 10)], iR 12 (.p (.un .not)) [(.t 11)]]) (.keep [0, 1, 12] (.cond (.t 12) (.keep [0] (.exit 0)) .skip))) (.keep [0, 1] (.reg [iR 13 (.p .mv) [(.t 0)], iR 14 (.p (.strSlice true false)) [(.t 13), (.c (.int .i64 (.ofNat 1)))], iR 0 (.p .mv) [(.t 14)]]))))))))) (.keep [0] (.seq (.reg [iR 15 (.p .mv) [(.t 0)], iR 4 (.p .mv) [(.t 15)]]) (.keep [4] (.keep [4] .ret))))))), [(.t 4)]⟩
def s_strings_trimLeftASCII_j0 (call : CallK) (N : Nat) (q : KV) (st : St) (τ : Tape) : Ans := match st with
  | ⟨fr, H⟩ => getK fr 0 fun t0 => q t0 H τ
def s_strings_trimLeftASCII_l1 (call : CallK) (N : Nat) (st : St) (τ : Tape) (k : KC) : Ans := match st with
  | ⟨fr, H⟩ => getK fr 0 fun t0 => getK fr 1 fun t1 => someK (pLenS [t0]) fun v0 => binK .gtr v0 (.int .i64 (.ofNat 0)) fun v1 => condK v1 (someK (pStrIndex [t0, (.int .i64 (.ofNat 0))]) fun v2 => call f_asciiSet_contains [t1, v2] H τ fun v3 H4 τ5 => unK .not v3 fun v6 => condK v6 (k (.exit 0) ⟨(T.set .leaf 0 t0), H4⟩ τ5) (someK (pStrSlice true false [t0, (.int .i64 (.ofNat 1))]) fun v7 => k .normal ⟨(T.set (T.set (T.set (T.set (T.set .leaf 0 t0) 1 t1) 13 t0) 14 v7) 0 v7), H4⟩ τ5)) (k (.exit 0) ⟨(T.set .leaf 0 t0), H⟩ τ)
def s_strings_trimLeftASCII (call : CallK) (N : Nat) (a0 a1 : V) (H : Heap) (τ : Tape) (q : KV) : Ans := loopK (s_strings_trimLeftASCII_l1 call N) N ⟨(T.set (T.set .leaf 0 a0) 1 a1), H⟩ τ (blockK 0 (seqK (s_strings_trimLeftASCII_j0 call N q) (endK [(.t 4)] q)))
theorem s_strings_trimLeftASCII_eq (call : CallK) (N : Nat) (a0 a1 : V) (H : Heap) (τ : Tape) (q : KV) : s_strings_trimLeftASCII call N a0 a1 H τ q = funK call N fn_strings_trimLeftASCII [a0, a1] H τ q := by kernel_rfl
def e_strings_trimLeftASCII (call : CallK) (N : Nat) (vs : List V) (H : Heap) (τ : Tape) (q : KV) : Ans := match vs with | [a0, a1] => s_strings_trimLeftASCII call N a0 a1 H τ q | _ => none
theorem e_strings_trimLeftASCII_ok : EntOk fn_strings_trimLeftASCII e_strings_trimLeftASCII := by
  intro call N vs H τ q r h
  unfold e_strings_trimLeftASCII at h
  split at h
  · rw [s_strings_trimLeftASCII_eq] at h; exact h
  · cases h
theorem e_strings_trimLeftASCII_nat : EntNat e_strings_trimLeftASCII := by
  intro c hn N vs H τ q
  unfold e_strings_trimLeftASCII
  split
  · rw [s_strings_trimLeftASCII_eq, s_strings_trimLeftASCII_eq]; exact funK_ent hn _ _ _ _ _ _
  · rfl
/-- strings.trimRightASCII -/
def fn_strings_trimRightASCII : Fun := ⟨2, (.seq (.reg [iR 4 (.p .mv) [(.c (.str []))]]) (.keep [0, 1] (.seq (.block 0 (.loop (.keep [0, 1] (.seq (.seq (.reg [iR 5 (.p .mv) [(.t 0)], iR 6 (.p .lenS) [(.t 5)], iR 7 (.p (.bin .gtr)) [(.t 6), (.c (.int .i64 (.ofNat 0)))]]) (.keep [0, 1, 7] (.cond (.t 7) .skip (.keep [0] (.exit 0))))) (.keep [0, 1] (.block 1 (.seq (.seq (.reg [iR 8 (.p .mv) [(.t 1)], iR 9 (.p .mv) [(.t 0)], iR 10 (.p .mv) [(.t 0)], iR 11 (.p .lenS) [(.t 10)], iR 12 (.p (.bin .sub)) [(.t 11), (.c (.int .i64 (.ofNat 1)))], iR 13 (.p .strIndex) [(.t 9), (.t 12)], iR 14 (.call 107) [(.t 8), (.t 13)], iR 15 (.p (.un .not)) [(.t 14)]]) (.keep [0, 1, 15] (.cond (.t 15) (.keep [0] (.exit 0)) .skip))) (.keep [0, 1] (.reg [iR 16 (.p .mv) [(.t 0)], iR 17 (.p .mv) [(.t 0)], iR 18 (.p .lenS) [(.t 17)], iR 19 (.p (.bin .sub)) [(.t 18), (.c (.int .i64 (.ofNat 1)))],
    iR 20 (.p (.strSlice false true)) [(.t 16), (.t 19)], iR 0 (.p .mv) [(.t 20)]]))))))))) (.keep [0] (.seq (.reg [iR 21 (.p .mv) [(.t 0)], iR 4 (.p .mv) [(.t 21)]]) (.keep [4] (.keep [4] .ret))))))), [(.t 4)]⟩
def s_strings_trimRightASCII_j0 (call : CallK) (N : Nat) (q : KV) (st : St) (τ : Tape) : Ans := match st with
  | ⟨fr, H⟩ => getK fr 0 fun t0 => q t0 H τ
def s_strings_trimRightASCII_l1 (call : CallK) (N : Nat) (st : St) (τ : Tape) (k : KC) : Ans := match st with
  | ⟨fr, H⟩ => getK fr 0 fun t0 => getK fr 1 fun t1 => someK (pLenS [t0]) fun v0 => binK .gtr v0 (.int .i64 (.ofNat 0)) fun v1 => condK v1 (someK (pLenS [t0]) fun v2 => binK .sub v2 (.int .i64 (.ofNat 1)) fun v3 => someK (pStrIndex [t0, v3]) fun v4 => call f_asciiSet_contains [t1, v4] H τ fun v5 H6 τ7 => unK .not v5 fun v8 => condK v8 (k (.exit 0) ⟨(T.set .leaf 0 t0), H6⟩ τ7) (someK (pLenS [t0]) fun v9 => binK .sub v9 (.int .i64 (.ofNat 1)) fun v10 => someK (pStrSlice false true [t0, v10]) fun v11 => k .normal ⟨(T.set (T.set (T.set (T.set (T.set (T.set (T.set (T.set .leaf 0 t0) 1 t1) 16 t0) 17 t0) 18 v9) 19 v10) 20 v11) 0 v11), H6⟩ τ7)) (k (.exit 0) ⟨(T.set .leaf 0 t0), H⟩ τ)
def s_strings_trimRightASCII (call : CallK) (N : Nat) (a0 a1 : V) (H : Heap) (τ : Tape) (q : KV) : Ans := loopK (s_strings_trimRightASCII_l1 call N) N ⟨(T.set (T.set .leaf 0 a0) 1 a1), H⟩ τ (blockK 0 (seqK (s_strings_trimRightASCII_j0 call N q) (endK [(.t 4)] q)))
theorem s_strings_trimRightASCII_eq (call : CallK) (N : Nat) (a0 a1 : V) (H : Heap) (τ : Tape) (q : KV) : s_strings_trimRightASCII call N a0 a1 H τ q = funK call N fn_strings_trimRightASCII [a0, a1] H τ q := by kernel_rfl
def e_strings_trimRightASCII (call : CallK) (N : Nat) (vs : List V) (H : Heap) (τ : Tape) (q : KV) : Ans := match vs with | [a0, a1] => s_strings_trimRightASCII call N a0 a1 H τ q | _ => none
theorem e_strings_trimRightASCII_ok : EntOk fn_strings_trimRightASCII e_strings_trimRightASCII := by
  intro call N vs H τ q r h
  unfold e_strings_trimRightASCII at h
  split at h
  · rw [s_strings_trimRightASCII_eq] at h; exact h
  · cases h
theorem e_strings_trimRightASCII_nat : EntNat e_strings_trimRightASCII := by
  intro c hn N vs H τ q
  unfold e_strings_trimRightASCII
  split
  · rw [s_strings_trimRightASCII_eq, s_strings_trimRightASCII_eq]; exact funK_ent hn _ _ _ _ _ _
  · rfl
/-- strings.trimLeftUnicode -/
def fn_strings_trimLeftUnicode : Fun := ⟨2, (.seq (.reg [iR 4 (.p .mv) [(.c (.str []))]]) (.keep [0, 1] (.seq (.block 0 (.loop (.keep [0, 1] (.seq (.seq (.reg [iR 7 (.p .mv) [(.t 0)], iR 8 (.p .lenS) [(.t 7)], iR 9 (.p (.bin .gtr)) [(.t 8), (.c (.int .i64 (.ofNat 0)))]]) (.keep [0, 1, 9] (.cond (.t 9) .skip (.keep [0] (.exit 0))))) (.keep [0, 1] (.block 1 (.seq (.reg [iR 11 (.p .mv) [(.t 0)], iR 12 (.call 108) [(.t 11)], iR 10 (.p .mv) [(.t 12)], iR 13 (.p (.extract 0)) [(.t 10)], iR 14 (.p (.extract 1)) [(.t 10)], iR 5 (.p .mv) [(.t 13)], iR 6 (.p .mv) [(.t 14)]]) (.keep [0, 1, 5, 6] (.seq (.seq (.reg [iR 15 (.p .mv) [(.t 1)], iR 16 (.p .mv) [(.t 5)], iR 17 (.call 109) [(.t 15), (.t 16)], iR 18 (.p (.un .not)) [(.t 17)]]) (.keep [0, 1, 6, 18] (.cond (.t 18) (.keep [0] (.exit 0)) .skip))) (.keep [0, 1, 6] (.reg [iR 19 (.p .mv) [(.t 0)], iR 20 (.p .mv) [(.t 6)],
    iR 21 (.p (.strSlice true false)) [(.t 19), (.t 20)], iR 0 (.p .mv) [(.t 21)]]))))))))))) (.keep [0] (.seq (.reg [iR 22 (.p .mv) [(.t 0)], iR 4 (.p .mv) [(.t 22)]]) (.keep [4] (.keep [4] .ret))))))), [(.t 4)]⟩
def s_strings_trimLeftUnicode_j0 (call : CallK) (N : Nat) (q : KV) (st : St) (τ : Tape) : Ans := match st with
  | ⟨fr, H⟩ => getK fr 0 fun t0 => q t0 H τ
def s_strings_trimLeftUnicode_l1 (call : CallK) (N : Nat) (st : St) (τ : Tape) (k : KC) : Ans := match st with
  | ⟨fr, H⟩ => getK fr 0 fun t0 => getK fr 1 fun t1 => someK (pLenS [t0]) fun v0 => binK .gtr v0 (.int .i64 (.ofNat 0)) fun v1 => condK v1 (call f_utf8_DecodeRuneInString [t0] H τ fun v2 H3 τ4 => someK (pExtract 0 [v2]) fun v5 => someK (pExtract 1 [v2]) fun v6 => call f_strings_ContainsRune [t1, v5] H3 τ4 fun v7 H8 τ9 => unK .not v7 fun v10 => condK v10 (k (.exit 0) ⟨(T.set .leaf 0 t0), H8⟩ τ9) (someK (pStrSlice true false [t0, v6]) fun v11 => k .normal ⟨(T.set (T.set (T.set (T.set (T.set (T.set (T.set .leaf 0 t0) 1 t1) 6 v6) 19 t0) 20 v6) 21 v11) 0 v11), H8⟩ τ9)) (k (.exit 0) ⟨(T.set .leaf 0 t0), H⟩ τ)
def s_strings_trimLeftUnicode (call : CallK) (N : Nat) (a0 a1 : V) (H : Heap) (τ : Tape) (q : KV) : Ans := loopK (s_strings_trimLeftUnicode_l1 call N) N ⟨(T.set (T.set .leaf 0 a0) 1 a1), H⟩ τ (blockK 0 (seqK (s_strings_trimLeftUnicode_j0 call N q) (endK [(.t 4)] q)))
theorem s_strings_trimLeftUnicode_eq (call : CallK) (N : Nat) (a0 a1 : V) (H : Heap) (τ : Tape) (q : KV) : s_strings_trimLeftUnicode call N a0 a1 H τ q = funK call N fn_strings_trimLeftUnicode [a0, a1] H τ q := by kernel_rfl
def e_strings_trimLeftUnicode (call : CallK) (N : Nat) (vs : List V) (H : Heap) (τ : Tape) (q : KV) : Ans := match vs with | [a0, a1] => s_strings_trimLeftUnicode call N a0 a1 H τ q | _ => none
theorem e_strings_trimLeftUnicode_ok : EntOk fn_strings_trimLeftUnicode e_strings_trimLeftUnicode := by
  intro call N vs H τ q r h
  unfold e_strings_trimLeftUnicode at h
  split at h
  · rw [s_strings_trimLeftUnicode_eq] at h; exact h
  · cases h
theorem e_strings_trimLeftUnicode_nat : EntNat e_strings_trimLeftUnicode := by
  intro c hn N vs H τ q
  unfold e_strings_trimLeftUnicode
  split
  · rw [s_strings_trimLeftUnicode_eq, s_strings_trimLeftUnicode_eq]; exact funK_ent hn _ _ _ _ _ _
  · rfl
/-- strings.trimRightUnicode -/
def fn_strings_trimRightUnicode : Fun := ⟨2, (.seq (.reg [iR 4 (.p .mv) [(.c (.str []))]]) (.keep [0, 1] (.seq (.block 0 (.loop (.keep [0, 1] (.seq (.seq (.reg [iR 7 (.p .mv) [(.t 0)], iR 8 (.p .lenS) [(.t 7)], iR 9 (.p (.bin .gtr)) [(.t 8), (.c (.int .i64 (.ofNat 0)))]]) (.keep [0, 1, 9] (.cond (.t 9) .skip (.keep [0] (.exit 0))))) (.keep [0, 1] (.block 1 (.seq (.reg [iR 10 (.p .mv) [(.t 0)], iR 11 (.p .mv) [(.t 0)], iR 12 (.p .lenS) [(.t 11)], iR 13 (.p (.bin .sub)) [(.t 12), (.c (.int .i64 (.ofNat 1)))], iR 14 (.p .strIndex) [(.t 10), (.t 13)], iR 15 (.p (.toInt .i32)) [(.t 14)], iR 5 (.p .mv) [(.t 15)], iR 6 (.p .mv) [(.c (.int .i64 (.ofNat 1)))]]) (.keep [0, 1, 5, 6] (.seq (.seq (.reg [iR 16 (.p .mv) [(.t 5)], iR 17 (.p (.bin .geq)) [(.t 16), (.c (.int .i32 (.ofNat 128)))]]) (.keep [0, 1, 5, 6, 17] (.cond (.t 17) (.reg [iR 19 (.p .mv) [(.t 0)], iR 20 (.call 110) [(.t 19)],
    iR 18 (.p .mv) [(.t 20)], iR 21 (.p (.extract 0)) [(.t 18)], iR 22 (.p (.extract 1)) [(.t 18)], iR 5 (.p .mv) [(.t 21)], iR 6 (.p .mv) [(.t 22)]]) .skip))) (.keep [0, 1, 5, 6] (.seq (.seq (.reg [iR 23 (.p .mv) [(.t 1)], iR 24 (.p .mv) [(.t 5)], iR 25 (.call 109) [(.t 23), (.t 24)], iR 26 (.p (.un .not)) [(.t 25)]]) (.keep [0, 1, 6, 26] (.cond (.t 26) (.keep [0] (.exit 0)) .skip))) (.keep [0, 1, 6] (.reg [iR 27 (.p .mv) [(.t 0)], iR 28 (.p .mv) [(.t 0)], iR 29 (.p .lenS) [(.t 28)], iR 30 (.p .mv) [(.t 6)], iR 31 (.p (.bin .sub)) [(.t 29), (.t 30)], iR 32 (.p (.strSlice false true)) [(.t 27), (.t 31)], iR 0 (.p .mv) [(.t 32)]]))))))))))))) (.keep [0] (.seq (.reg [iR 33 (.p .mv) [(.t 0)], iR 4 (.p .mv) [(.t 33)]]) (.keep [4] (.keep [4] .ret))))))), [(.t 4)]⟩
def s_strings_trimRightUnicode_j0 (call : CallK) (N : Nat) (q : KV) (st : St) (τ : Tape) : Ans := match st with
  | ⟨fr, H⟩ => getK fr 0 fun t0 => q t0 H τ
def s_strings_trimRightUnicode_j2 (call : CallK) (N : Nat) (k : KC) (st : St) (τ : Tape) : Ans := match st with
  | ⟨fr, H⟩ => getK fr 0 fun t0 => getK fr 1 fun t1 => getK fr 5 fun t5 => getK fr 6 fun t6 => call f_strings_ContainsRune [t1, t5] H τ fun v7 H8 τ9 => unK .not v7 fun v10 => condK v10 (k (.exit 0) ⟨(T.set .leaf 0 t0), H8⟩ τ9) (someK (pLenS [t0]) fun v11 => binK .sub v11 t6 fun v12 => someK (pStrSlice false true [t0, v12]) fun v13 => k .normal ⟨(T.set (T.set (T.set (T.set (T.set (T.set (T.set (T.set (T.set (T.set .leaf 0 t0) 1 t1) 6 t6) 27 t0) 28 t0) 29 v11) 30 t6) 31 v12) 32 v13) 0 v13), H8⟩ τ9)
def s_strings_trimRightUnicode_l1 (call : CallK) (N : Nat) (st : St) (τ : Tape) (k : KC) : Ans := match st with
  | ⟨fr, H⟩ => getK fr 0 fun t0 => getK fr 1 fun t1 => someK (pLenS [t0]) fun v0 => binK .gtr v0 (.int .i64 (.ofNat 0)) fun v1 => condK v1 (someK (pLenS [t0]) fun v2 => binK .sub v2 (.int .i64 (.ofNat 1)) fun v3 => someK (pStrIndex [t0, v3]) fun v4 => toIntK .i32 v4 fun v5 => binK .geq v5 (.int .i32 (.ofNat 128)) fun v6 => condK v6 (call f_utf8_DecodeLastRuneInString [t0] H τ fun v14 H15 τ16 => someK (pExtract 0 [v14]) fun v17 => someK (pExtract 1 [v14]) fun v18 => s_strings_trimRightUnicode_j2 call N k ⟨(T.set (T.set (T.set (T.set (T.set (T.set (T.set (T.set (T.set (T.set (T.set (T.set .leaf 0 t0) 1 t1) 5 v5) 6 (.int .i64 (.ofNat 1))) 17 v6) 19 t0) 20 v14) 18 v14) 21 v17) 22 v18) 5 v17) 6 v18), H15⟩ τ16) (s_strings_trimRightUnicode_j2 call N k ⟨(T.set (T.set (T.set (T.set (T.set .leaf 0 t0) 1 t1) 5 v5) 6 (.int .i64 (.ofNat 1))) 17 v6), H⟩ τ)) (k (.exit 0) ⟨(T.set .leaf 0 t0), H⟩ τ)
def s_strings_trimRightUnicode (call : CallK) (N : Nat) (a0 a1 : V) (H : Heap) (τ : Tape) (q : KV) : Ans := loopK (s_strings_trimRightUnicode_l1 call N) N ⟨(T.set (T.set .leaf 0 a0) 1 a1), H⟩ τ (blockK 0 (seqK (s_strings_trimRightUnicode_j0 call N q) (endK [(.t 4)] q)))
theorem s_strings_trimRightUnicode_eq (call : CallK) (N : Nat) (a0 a1 : V) (H : Heap) (τ : Tape) (q : KV) : s_strings_trimRightUnicode call N a0 a1 H τ q = funK call N fn_strings_trimRightUnicode [a0, a1] H τ q := by kernel_rfl
def e_strings_trimRightUnicode (call : CallK) (N : Nat) (vs : List V) (H : Heap) (τ : Tape) (q : KV) : Ans := match vs with | [a0, a1] => s_strings_trimRightUnicode call N a0 a1 H τ q | _ => none
theorem e_strings_trimRightUnicode_ok : EntOk fn_strings_trimRightUnicode e_strings_trimRightUnicode := by
  intro call N vs H τ q r h
  unfold e_strings_trimRightUnicode at h
  split at h
  · rw [s_strings_trimRightUnicode_eq] at h; exact h
  · cases h
theorem e_strings_trimRightUnicode_nat : EntNat e_strings_trimRightUnicode := by
  intro c hn N vs H τ q
  unfold e_strings_trimRightUnicode
  split
  · rw [s_strings_trimRightUnicode_eq, s_strings_trimRightUnicode_eq]; exact funK_ent hn _ _ _ _ _ _
  · rfl
/-- (*strings.asciiSet).contains -/
def fn_asciiSet_contains : Fun := ⟨2, (.seq (.reg [iR 4 (.p .mv) [(.c (.bool false))]]) (.keep [0, 1] (.seq (.reg [iR 5 (.p .mv) [(.t 0)], iR 6 (.p .mv) [(.t 1)], iR 7 (.p .nilck) [(.t 5)], iR 8 (.p (.arrIdx 256 1)) [(.t 7), (.t 6)], iR 9 (.l (.load none)) [(.t 8)], iR 4 (.p .mv) [(.t 9)]]) (.keep [4] (.keep [4] .ret))))), [(.t 4)]⟩
def s_asciiSet_contains (call : CallK) (N : Nat) (a0 a1 : V) (H : Heap) (τ : Tape) (q : KV) : Ans := someK (pNilck [a0]) fun v0 => someK (pArrIdx 256 1 [v0, a1]) fun v1 => someK (lLoad1 [v1] H) fun v2 => q v2 H τ
theorem s_asciiSet_contains_eq (call : CallK) (N : Nat) (a0 a1 : V) (H : Heap) (τ : Tape) (q : KV) : s_asciiSet_contains call N a0 a1 H τ q = funK call N fn_asciiSet_contains [a0, a1] H τ q := by kernel_rfl
def e_asciiSet_contains (call : CallK) (N : Nat) (vs : List V) (H : Heap) (τ : Tape) (q : KV) : Ans := match vs with | [a0, a1] => s_asciiSet_contains call N a0 a1 H τ q | _ => none
theorem e_asciiSet_contains_ok : EntOk fn_asciiSet_contains e_asciiSet_contains := by
  intro call N vs H τ q r h
  unfold e_asciiSet_contains at h
  split at h
  · rw [s_asciiSet_contains_eq] at h; exact h
  · cases h
theorem e_asciiSet_contains_nat : EntNat e_asciiSet_contains := by
  intro c hn N vs H τ q
  unfold e_asciiSet_contains
  split
  · rw [s_asciiSet_contains_eq, s_asciiSet_contains_eq]; exact funK_ent hn _ _ _ _ _ _
  · rfl
/-- unicode/utf8.DecodeRuneInString -/
def fn_utf8_DecodeRuneInString : Fun := ⟨1, (.seq (.reg [iR 2 (.p .mv) [(.c (.int .i32 (.ofNat 0)))], iR 3 (.p .mv) [(.c (.int .i64 (.ofNat 0)))]]) (.keep [0] (.seq (.seq (.reg [iR 4 (.p .mv) [(.t 0)], iR 5 (.p (.bin .neq)) [(.t 4), (.c (.str []))], iR 6 (.p .mv) [(.t 5)], iG 7 6 true (.p .mv) [(.t 0)], iG 8 6 true (.p .strIndex) [(.t 7), (.c (.int .i64 (.ofNat 0)))], iG 9 6 true (.p (.bin .lss)) [(.t 8), (.c (.int .u8 (.ofNat 128)))], iR 10 (.p .pick) [(.t 6), (.t 9), (.c (.bool false))]]) (.keep [0, 10] (.cond (.t 10) (.seq (.reg [iR 11 (.p .mv) [(.t 0)], iR 12 (.p .strIndex) [(.t 11), (.c (.int .i64 (.ofNat 0)))], iR 13 (.p (.toInt .i32)) [(.t 12)], iR 2 (.p .mv) [(.t 13)], iR 3 (.p .mv) [(.c (.int .i64 (.ofNat 1)))]]) (.keep [2, 3] (.keep [2, 3] .ret))) (.reg [iR 15 (.p .mv) [(.t 0)], iR 16 (.call 123) [(.t 15)], iR 14 (.p .mv) [(.t 16)], iR 17 (.p (.extract 0)) [(.t 14)],
    iR 18 (.p (.extract 1)) [(.t 14)], iR 2 (.p .mv) [(.t 17)], iR 3 (.p .mv) [(.t 18)]])))) (.keep [2, 3] (.keep [2, 3] .ret))))), [(.t 2), (.t 3)]⟩
def s_utf8_DecodeRuneInString (call : CallK) (N : Nat) (a0 : V) (H : Heap) (τ : Tape) (q : KV) : Ans := binK .neq a0 (.str []) fun v0 => gK v0 true (fun q' => q' a0 H τ) H τ fun v1 H2 τ3 => gK v0 true (fun q' => someK (pStrIndex [v1, (.int .i64 (.ofNat 0))]) fun v => q' v H2 τ3) H2 τ3 fun v4 H5 τ6 => gK v0 true (fun q' => binK .lss v4 (.int .u8 (.ofNat 128)) fun v => q' v H5 τ6) H5 τ6 fun v7 H8 τ9 => someK (pPick [v0, v7, (.bool false)]) fun v10 => condK v10 (someK (pStrIndex [a0, (.int .i64 (.ofNat 0))]) fun v11 => toIntK .i32 v11 fun v12 => q (.tup [v12, (.int .i64 (.ofNat 1))]) H8 τ9) (call f_utf8_decodeRuneInStringSlow [a0] H8 τ9 fun v13 H14 τ15 => someK (pExtract 0 [v13]) fun v16 => someK (pExtract 1 [v13]) fun v17 => q (.tup [v16, v17]) H14 τ15)
theorem s_utf8_DecodeRuneInString_eq (call : CallK) (N : Nat) (a0 : V) (H : Heap) (τ : Tape) (q : KV) : s_utf8_DecodeRuneInString call N a0 H τ q = funK call N fn_utf8_DecodeRuneInString [a0] H τ q := by kernel_rfl
def e_utf8_DecodeRuneInString (call : CallK) (N : Nat) (vs : List V) (H : Heap) (τ : Tape) (q : KV) : Ans := match vs with | [a0] => s_utf8_DecodeRuneInString call N a0 H τ q | _ => none
theorem e_utf8_DecodeRuneInString_ok : EntOk fn_utf8_DecodeRuneInString e_utf8_DecodeRuneInString := by
  intro call N vs H τ q r h
  unfold e_utf8_DecodeRuneInString at h
  split at h
  · rw [s_utf8_DecodeRuneInString_eq] at h; exact h
  · cases h
theorem e_utf8_DecodeRuneInString_nat : EntNat e_utf8_DecodeRuneInString := by
  intro c hn N vs H τ q
  unfold e_utf8_DecodeRuneInString
  split
  · rw [s_utf8_DecodeRuneInString_eq, s_utf8_DecodeRuneInString_eq]; exact funK_ent hn _ _ _ _ _ _
  · rfl
/-- strings.ContainsRune -/
def fn_strings_ContainsRune : Fun := ⟨2, (.seq (.reg [iR 4 (.p .mv) [(.c (.bool false))]]) (.keep [0, 1] (.seq (.reg [iR 5 (.p .mv) [(.t 0)], iR 6 (.p .mv) [(.t 1)], iR 7 (.call 124) [(.t 5), (.t 6)], iR 8 (.p (.bin .geq)) [(.t 7), (.c (.int .i64 (.ofNat 0)))], iR 4 (.p .mv) [(.t 8)]]) (.keep [4] (.keep [4] .ret))))), [(.t 4)]⟩
def s_strings_ContainsRune (call : CallK) (N : Nat) (a0 a1 : V) (H : Heap) (τ : Tape) (q : KV) : Ans := call f_strings_IndexRune [a0, a1] H τ fun v0 H1 τ2 => binK .geq v0 (.int .i64 (.ofNat 0)) fun v3 => q v3 H1 τ2
theorem s_strings_ContainsRune_eq (call : CallK) (N : Nat) (a0 a1 : V) (H : Heap) (τ : Tape) (q : KV) : s_strings_ContainsRune call N a0 a1 H τ q = funK call N fn_strings_ContainsRune [a0, a1] H τ q := by kernel_rfl
def e_strings_ContainsRune (call : CallK) (N : Nat) (vs : List V) (H : Heap) (τ : Tape) (q : KV) : Ans := match vs with | [a0, a1] => s_strings_ContainsRune call N a0 a1 H τ q | _ => none
theorem e_strings_ContainsRune_ok : EntOk fn_strings_ContainsRune e_strings_ContainsRune := by
  intro call N vs H τ q r h
  unfold e_strings_ContainsRune at h
  split at h
  · rw [s_strings_ContainsRune_eq] at h; exact h
  · cases h
theorem e_strings_ContainsRune_nat : EntNat e_strings_ContainsRune := by
  intro c hn N vs H τ q
  unfold e_strings_ContainsRune
  split
  · rw [s_strings_ContainsRune_eq, s_strings_ContainsRune_eq]; exact funK_ent hn _ _ _ _ _ _
  · rfl
/-- unicode/utf8.DecodeLastRuneInString -/
def fn_utf8_DecodeLastRuneInString : Fun := ⟨1, (.seq (.reg [iR 2 (.p .mv) [(.c (.int .i32 (.ofNat 0)))], iR 3 (.p .mv) [(.c (.int .i64 (.ofNat 0)))]]) (.keep [0] (.seq (.reg [iR 7 (.p .mv) [(.t 0)], iR 8 (.p .lenS) [(.t 7)], iR 4 (.p .mv) [(.t 8)]]) (.keep [0, 4] (.seq (.seq (.reg [iR 9 (.p .mv) [(.t 4)], iR 10 (.p (.bin .eql)) [(.t 9), (.c (.int .i64 (.ofNat 0)))]]) (.keep [0, 4, 10] (.cond (.t 10) (.seq (.reg [iR 2 (.p .mv) [(.c (.int .i32 (.ofNat 65533)))], iR 3 (.p .mv) [(.c (.int .i64 (.ofNat 0)))]]) (.keep [2, 3] (.keep [2, 3] .ret))) .skip))) (.keep [0, 4] (.seq (.reg [iR 11 (.p .mv) [(.t 4)], iR 12 (.p (.bin .sub)) [(.t 11), (.c (.int .i64 (.ofNat 1)))], iR 5 (.p .mv) [(.t 12)]]) (.keep [0, 4, 5] (.seq (.reg [iR 13 (.p .mv) [(.t 0)], iR 14 (.p .mv) [(.t 5)], iR 15 (.p .strIndex) [(.t 13), (.t 14)], iR 16 (.p (.toInt .i32)) [(.t 15)], iR 2 (.p .mv) [(.t 16)]])
    (.keep [0, 2, 4, 5] (.seq (.seq (.reg [iR 17 (.p .mv) [(.t 2)], iR 18 (.p (.bin .lss)) [(.t 17), (.c (.int .i32 (.ofNat 128)))]]) (.keep [0, 2, 4, 5, 18] (.cond (.t 18) (.seq (.reg [iR 19 (.p .mv) [(.t 2)], iR 2 (.p .mv) [(.t 19)], iR 3 (.p .mv) [(.c (.int .i64 (.ofNat 1)))]]) (.keep [2, 3] (.keep [2, 3] .ret))) .skip))) (.keep [0, 4, 5] (.seq (.reg [iR 20 (.p .mv) [(.t 4)], iR 21 (.p (.bin .sub)) [(.t 20), (.c (.int .i64 (.ofNat 4)))], iR 22 (.p .max2) [(.t 21), (.c (.int .i64 (.ofNat 0)))], iR 6 (.p .mv) [(.t 22)]]) (.keep [0, 4, 5, 6] (.seq (.seq (.reg [iR 23 (.p .mv) [(.t 5)], iR 24 (.p (.bin .sub)) [(.t 23), (.c (.int .i64 (.ofNat 1)))], iR 5 (.p .mv) [(.t 24)]]) (.keep [0, 4, 5, 6] (.block 0 (.loop (.keep [0, 4, 5, 6] (.seq (.seq (.reg [iR 25 (.p .mv) [(.t 5)], iR 26 (.p .mv) [(.t 6)], iR 27 (.p (.bin .geq)) [(.t 25), (.t 26)]]) (.keep [0, 4, 5, 6, 27] (.cond (.t 27) .skip
    (.keep [0, 4, 5] (.exit 0))))) (.keep [0, 4, 5, 6] (.seq (.block 1 (.seq (.reg [iR 30 (.p .mv) [(.t 0)], iR 31 (.p .mv) [(.t 5)], iR 32 (.p .strIndex) [(.t 30), (.t 31)], iR 33 (.call 125) [(.t 32)]]) (.keep [0, 4, 5, 6, 33] (.cond (.t 33) (.keep [0, 4, 5] (.exit 0)) .skip)))) (.keep [0, 4, 5, 6] (.reg [iR 28 (.p .mv) [(.t 5)], iR 29 (.p (.bin .sub)) [(.t 28), (.c (.int .i64 (.ofNat 1)))], iR 5 (.p .mv) [(.t 29)]])))))))))) (.keep [0, 4, 5] (.seq (.seq (.reg [iR 34 (.p .mv) [(.t 5)], iR 35 (.p (.bin .lss)) [(.t 34), (.c (.int .i64 (.ofNat 0)))]]) (.keep [0, 4, 5, 35] (.cond (.t 35) (.reg [iR 5 (.p .mv) [(.c (.int .i64 (.ofNat 0)))]]) .skip))) (.keep [0, 4, 5] (.seq (.reg [iR 37 (.p .mv) [(.t 0)], iR 38 (.p .mv) [(.t 5)], iR 39 (.p .mv) [(.t 4)], iR 40 (.p (.strSlice true true)) [(.t 37), (.t 38), (.t 39)], iR 41 (.call 108) [(.t 40)], iR 36 (.p .mv) [(.t 41)],
    iR 42 (.p (.extract 0)) [(.t 36)], iR 43 (.p (.extract 1)) [(.t 36)], iR 2 (.p .mv) [(.t 42)], iR 3 (.p .mv) [(.t 43)]]) (.keep [2, 3, 4, 5] (.seq (.seq (.reg [iR 44 (.p .mv) [(.t 5)], iR 45 (.p .mv) [(.t 3)], iR 46 (.p (.bin .add)) [(.t 44), (.t 45)], iR 47 (.p .mv) [(.t 4)], iR 48 (.p (.bin .neq)) [(.t 46), (.t 47)]]) (.keep [2, 3, 48] (.cond (.t 48) (.seq (.reg [iR 2 (.p .mv) [(.c (.int .i32 (.ofNat 65533)))], iR 3 (.p .mv) [(.c (.int .i64 (.ofNat 1)))]]) (.keep [2, 3] (.keep [2, 3] .ret))) .skip))) (.keep [2, 3] (.seq (.reg [iR 49 (.p .mv) [(.t 2)], iR 50 (.p .mv) [(.t 3)], iR 2 (.p .mv) [(.t 49)], iR 3 (.p .mv) [(.t 50)]]) (.keep [2, 3] (.keep [2, 3] .ret))))))))))))))))))))))))), [(.t 2), (.t 3)]⟩
def s_utf8_DecodeLastRuneInString_j1 (call : CallK) (N : Nat) (q : KV) (st : St) (τ : Tape) : Ans := match st with
  | ⟨fr, H⟩ => getK fr 0 fun t0 => getK fr 4 fun t4 => getK fr 5 fun t5 => someK (pStrSlice true true [t0, t5, t4]) fun v10 => call f_utf8_DecodeRuneInString [v10] H τ fun v11 H12 τ13 => someK (pExtract 0 [v11]) fun v14 => someK (pExtract 1 [v11]) fun v15 => binK .add t5 v15 fun v16 => binK .neq v16 t4 fun v17 => condK v17 (q (.tup [(.int .i32 (.ofNat 65533)), (.int .i64 (.ofNat 1))]) H12 τ13) (q (.tup [v14, v15]) H12 τ13)
def s_utf8_DecodeLastRuneInString_j0 (call : CallK) (N : Nat) (q : KV) (st : St) (τ : Tape) : Ans := match st with
  | ⟨fr, H⟩ => getK fr 0 fun t0 => getK fr 4 fun t4 => getK fr 5 fun t5 => binK .lss t5 (.int .i64 (.ofNat 0)) fun v9 => condK v9 (s_utf8_DecodeLastRuneInString_j1 call N q ⟨(T.set (T.set (T.set (T.set (T.set .leaf 0 t0) 4 t4) 5 t5) 35 v9) 5 (.int .i64 (.ofNat 0))), H⟩ τ) (s_utf8_DecodeLastRuneInString_j1 call N q ⟨(T.set (T.set (T.set (T.set .leaf 0 t0) 4 t4) 5 t5) 35 v9), H⟩ τ)
def s_utf8_DecodeLastRuneInString_l2 (call : CallK) (N : Nat) (st : St) (τ : Tape) (k : KC) : Ans := match st with
  | ⟨fr, H⟩ => getK fr 0 fun t0 => getK fr 4 fun t4 => getK fr 5 fun t5 => getK fr 6 fun t6 => binK .geq t5 t6 fun v18 => condK v18 (someK (pStrIndex [t0, t5]) fun v19 => call f_utf8_RuneStart [v19] H τ fun v20 H21 τ22 => condK v20 (k (.exit 0) ⟨(T.set (T.set (T.set .leaf 0 t0) 4 t4) 5 t5), H21⟩ τ22) (binK .sub t5 (.int .i64 (.ofNat 1)) fun v23 => k .normal ⟨(T.set (T.set (T.set (T.set (T.set (T.set (T.set .leaf 0 t0) 4 t4) 5 t5) 6 t6) 28 t5) 29 v23) 5 v23), H21⟩ τ22)) (k (.exit 0) ⟨(T.set (T.set (T.set .leaf 0 t0) 4 t4) 5 t5), H⟩ τ)
def s_utf8_DecodeLastRuneInString (call : CallK) (N : Nat) (a0 : V) (H : Heap) (τ : Tape) (q : KV) : Ans := someK (pLenS [a0]) fun v0 => binK .eql v0 (.int .i64 (.ofNat 0)) fun v1 => condK v1 (q (.tup [(.int .i32 (.ofNat 65533)), (.int .i64 (.ofNat 0))]) H τ) (binK .sub v0 (.int .i64 (.ofNat 1)) fun v2 => someK (pStrIndex [a0, v2]) fun v3 => toIntK .i32 v3 fun v4 => binK .lss v4 (.int .i32 (.ofNat 128)) fun v5 => condK v5 (q (.tup [v4, (.int .i64 (.ofNat 1))]) H τ) (binK .sub v0 (.int .i64 (.ofNat 4)) fun v6 => someK (pMax [v6, (.int .i64 (.ofNat 0))]) fun v7 => binK .sub v2 (.int .i64 (.ofNat 1)) fun v8 => loopK (s_utf8_DecodeLastRuneInString_l2 call N) N ⟨(T.set (T.set (T.set (T.set .leaf 0 a0) 4 v0) 5 v8) 6 v7), H⟩ τ (blockK 0 (seqK (s_utf8_DecodeLastRuneInString_j0 call N q) (endK [(.t 2), (.t 3)] q)))))
theorem s_utf8_DecodeLastRuneInString_eq (call : CallK) (N : Nat) (a0 : V) (H : Heap) (τ : Tape) (q : KV) : s_utf8_DecodeLastRuneInString call N a0 H τ q = funK call N fn_utf8_DecodeLastRuneInString [a0] H τ q := by kernel_rfl
def e_utf8_DecodeLastRuneInString (call : CallK) (N : Nat) (vs : List V) (H : Heap) (τ : Tape) (q : KV) : Ans := match vs with | [a0] => s_utf8_DecodeLastRuneInString call N a0 H τ q | _ => none
theorem e_utf8_DecodeLastRuneInString_ok : EntOk fn_utf8_DecodeLastRuneInString e_utf8_DecodeLastRuneInString := by
  intro call N vs H τ q r h
  unfold e_utf8_DecodeLastRuneInString at h
  split at h
  · rw [s_utf8_DecodeLastRuneInString_eq] at h; exact h
  · cases h
theorem e_utf8_DecodeLastRuneInString_nat : EntNat e_utf8_DecodeLastRuneInString := by
  intro c hn N vs H τ q
  unfold e_utf8_DecodeLastRuneInString
  split
  · rw [s_utf8_DecodeLastRuneInString_eq, s_utf8_DecodeLastRuneInString_eq]; exact funK_ent hn _ _ _ _ _ _
  · rfl
/-- unicode/utf8.decodeRuneInStringSlow -/
def fn_utf8_decodeRuneInStringSlow : Fun := ⟨1, (.seq (.reg [iR 2 (.p .mv) [(.c (.int .i32 (.ofNat 0)))], iR 3 (.p .mv) [(.c (.int .i64 (.ofNat 0)))]]) (.keep [0] (.seq (.reg [iR 13 (.p .mv) [(.t 0)], iR 14 (.p .lenS) [(.t 13)], iR 4 (.p .mv) [(.t 14)]]) (.keep [0, 4] (.seq (.seq (.reg [iR 15 (.p .mv) [(.t 4)], iR 16 (.p (.bin .lss)) [(.t 15), (.c (.int .i64 (.ofNat 1)))]]) (.keep [0, 4, 16] (.cond (.t 16) (.seq (.reg [iR 2 (.p .mv) [(.c (.int .i32 (.ofNat 65533)))], iR 3 (.p .mv) [(.c (.int .i64 (.ofNat 0)))]]) (.keep [2, 3] (.keep [2, 3] .ret))) .skip))) (.keep [0, 4] (.seq (.reg [iR 17 (.p .mv) [(.t 0)], iR 18 (.p .strIndex) [(.t 17), (.c (.int .i64 (.ofNat 0)))], iR 5 (.p .mv) [(.t 18)]]) (.keep [0, 4, 5] (.seq (.reg [iR 19 (.p .mv) [(.t 5)], iR 20 (.p (.arrIdx 256 1)) [(.c (.ptr 2 0)), (.t 19)], iR 21 (.l (.load none)) [(.t 20)], iR 6 (.p .mv) [(.t 21)]])
    (.keep [0, 4, 5, 6] (.seq (.seq (.reg [iR 22 (.p .mv) [(.t 6)], iR 23 (.p (.bin .geq)) [(.t 22), (.c (.int .u8 (.ofNat 240)))]]) (.keep [0, 4, 5, 6, 23] (.cond (.t 23) (.seq (.reg [iR 24 (.p .mv) [(.t 6)], iR 25 (.p (.toInt .i32)) [(.t 24)], iR 26 (.p (.bin .shl)) [(.t 25), (.c (.int .u64 (.ofNat 31)))], iR 27 (.p (.bin .shr)) [(.t 26), (.c (.int .u64 (.ofNat 31)))], iR 7 (.p .mv) [(.t 27)]]) (.keep [0, 7] (.seq (.reg [iR 28 (.p .mv) [(.t 0)], iR 29 (.p .strIndex) [(.t 28), (.c (.int .i64 (.ofNat 0)))], iR 30 (.p (.toInt .i32)) [(.t 29)], iR 31 (.p .mv) [(.t 7)], iR 32 (.p (.bin .andNot)) [(.t 30), (.t 31)], iR 33 (.p .mv) [(.t 7)], iR 34 (.p (.bin .and)) [(.c (.int .i32 (.ofNat 65533))), (.t 33)], iR 35 (.p (.bin .or)) [(.t 32), (.t 34)], iR 2 (.p .mv) [(.t 35)], iR 3 (.p .mv) [(.c (.int .i64 (.ofNat 1)))]]) (.keep [2, 3] (.keep [2, 3] .ret))))) .skip)))
    (.keep [0, 4, 5, 6] (.seq (.reg [iR 36 (.p .mv) [(.t 6)], iR 37 (.p (.bin .and)) [(.t 36), (.c (.int .u8 (.ofNat 7)))], iR 38 (.p (.toInt .i64)) [(.t 37)], iR 8 (.p .mv) [(.t 38)]]) (.keep [0, 4, 5, 6, 8] (.seq (.reg [iR 39 (.p .mv) [(.t 6)], iR 40 (.p (.bin .shr)) [(.t 39), (.c (.int .u64 (.ofNat 4)))], iR 41 (.p (.arrIdx 16 2)) [(.c (.ptr 3 0)), (.t 40)], iR 42 (.l (.load (some 2))) [(.t 41)], iR 9 (.e (.alloc [(.int .u8 (.ofNat 0)), (.int .u8 (.ofNat 0))])) [], ⟨none, none, (.e (.store 2)), [(.t 9), (.t 42)], none⟩]) (.keep [0, 4, 5, 8, 9] (.seq (.seq (.reg [iR 43 (.p .mv) [(.t 4)], iR 44 (.p .mv) [(.t 8)], iR 45 (.p (.bin .lss)) [(.t 43), (.t 44)]]) (.keep [0, 5, 8, 9, 45] (.cond (.t 45) (.seq (.reg [iR 2 (.p .mv) [(.c (.int .i32 (.ofNat 65533)))], iR 3 (.p .mv) [(.c (.int .i64 (.ofNat 1)))]]) (.keep [2, 3] (.keep [2, 3] .ret))) .skip)))
    (.keep [0, 5, 8, 9] (.seq (.reg [iR 46 (.p .mv) [(.t 0)], iR 47 (.p .strIndex) [(.t 46), (.c (.int .i64 (.ofNat 1)))], iR 10 (.p .mv) [(.t 47)]]) (.keep [0, 5, 8, 9, 10] (.seq (.seq (.reg [iR 48 (.p .mv) [(.t 10)], iR 49 (.p (.fieldAddr 0)) [(.t 9)], iR 50 (.l (.load none)) [(.t 49)], iR 51 (.p (.bin .lss)) [(.t 48), (.t 50)], iR 52 (.p .mv) [(.t 51)], iG 53 52 false (.p (.fieldAddr 1)) [(.t 9)], iG 54 52 false (.l (.load none)) [(.t 53)], iG 55 52 false (.p .mv) [(.t 10)], iG 56 52 false (.p (.bin .lss)) [(.t 54), (.t 55)], iR 57 (.p .pick) [(.t 52), (.c (.bool true)), (.t 56)]]) (.keep [0, 5, 8, 10, 57] (.cond (.t 57) (.seq (.reg [iR 2 (.p .mv) [(.c (.int .i32 (.ofNat 65533)))], iR 3 (.p .mv) [(.c (.int .i64 (.ofNat 1)))]]) (.keep [2, 3] (.keep [2, 3] .ret))) .skip))) (.keep [0, 5, 8, 10] (.seq (.seq (.reg [iR 58 (.p .mv) [(.t 8)],
    iR 59 (.p (.bin .leq)) [(.t 58), (.c (.int .i64 (.ofNat 2)))]]) (.keep [0, 5, 8, 10, 59] (.cond (.t 59) (.seq (.reg [iR 60 (.p .mv) [(.t 5)], iR 61 (.p (.bin .and)) [(.t 60), (.c (.int .u8 (.ofNat 31)))], iR 62 (.p (.toInt .i32)) [(.t 61)], iR 63 (.p (.bin .shl)) [(.t 62), (.c (.int .u64 (.ofNat 6)))], iR 64 (.p .mv) [(.t 10)], iR 65 (.p (.bin .and)) [(.t 64), (.c (.int .u8 (.ofNat 63)))], iR 66 (.p (.toInt .i32)) [(.t 65)], iR 67 (.p (.bin .or)) [(.t 63), (.t 66)], iR 2 (.p .mv) [(.t 67)], iR 3 (.p .mv) [(.c (.int .i64 (.ofNat 2)))]]) (.keep [2, 3] (.keep [2, 3] .ret))) .skip))) (.keep [0, 5, 8, 10] (.seq (.reg [iR 68 (.p .mv) [(.t 0)], iR 69 (.p .strIndex) [(.t 68), (.c (.int .i64 (.ofNat 2)))], iR 11 (.p .mv) [(.t 69)]]) (.keep [0, 5, 8, 10, 11] (.seq (.seq (.reg [iR 70 (.p .mv) [(.t 11)], iR 71 (.p (.bin .lss)) [(.t 70), (.c (.int .u8 (.ofNat 128)))],
    iR 72 (.p .mv) [(.t 71)], iG 73 72 false (.p .mv) [(.t 11)], iG 74 72 false (.p (.bin .lss)) [(.c (.int .u8 (.ofNat 191))), (.t 73)], iR 75 (.p .pick) [(.t 72), (.c (.bool true)), (.t 74)]]) (.keep [0, 5, 8, 10, 11, 75] (.cond (.t 75) (.seq (.reg [iR 2 (.p .mv) [(.c (.int .i32 (.ofNat 65533)))], iR 3 (.p .mv) [(.c (.int .i64 (.ofNat 1)))]]) (.keep [2, 3] (.keep [2, 3] .ret))) .skip))) (.keep [0, 5, 8, 10, 11] (.seq (.seq (.reg [iR 76 (.p .mv) [(.t 8)], iR 77 (.p (.bin .leq)) [(.t 76), (.c (.int .i64 (.ofNat 3)))]]) (.keep [0, 5, 10, 11, 77] (.cond (.t 77) (.seq (.reg [iR 78 (.p .mv) [(.t 5)], iR 79 (.p (.bin .and)) [(.t 78), (.c (.int .u8 (.ofNat 15)))], iR 80 (.p (.toInt .i32)) [(.t 79)], iR 81 (.p (.bin .shl)) [(.t 80), (.c (.int .u64 (.ofNat 12)))], iR 82 (.p .mv) [(.t 10)], iR 83 (.p (.bin .and)) [(.t 82), (.c (.int .u8 (.ofNat 63)))], iR 84 (.p (.toInt .i32)) [(.t 83)],
    iR 85 (.p (.bin .shl)) [(.t 84), (.c (.int .u64 (.ofNat 6)))], iR 86 (.p (.bin .or)) [(.t 81), (.t 85)], iR 87 (.p .mv) [(.t 11)], iR 88 (.p (.bin .and)) [(.t 87), (.c (.int .u8 (.ofNat 63)))], iR 89 (.p (.toInt .i32)) [(.t 88)], iR 90 (.p (.bin .or)) [(.t 86), (.t 89)], iR 2 (.p .mv) [(.t 90)], iR 3 (.p .mv) [(.c (.int .i64 (.ofNat 3)))]]) (.keep [2, 3] (.keep [2, 3] .ret))) .skip))) (.keep [0, 5, 10, 11] (.seq (.reg [iR 91 (.p .mv) [(.t 0)], iR 92 (.p .strIndex) [(.t 91), (.c (.int .i64 (.ofNat 3)))], iR 12 (.p .mv) [(.t 92)]]) (.keep [5, 10, 11, 12] (.seq (.seq (.reg [iR 93 (.p .mv) [(.t 12)], iR 94 (.p (.bin .lss)) [(.t 93), (.c (.int .u8 (.ofNat 128)))], iR 95 (.p .mv) [(.t 94)], iG 96 95 false (.p .mv) [(.t 12)], iG 97 95 false (.p (.bin .lss)) [(.c (.int .u8 (.ofNat 191))), (.t 96)], iR 98 (.p .pick) [(.t 95), (.c (.bool true)), (.t 97)]])
    (.keep [5, 10, 11, 12, 98] (.cond (.t 98) (.seq (.reg [iR 2 (.p .mv) [(.c (.int .i32 (.ofNat 65533)))], iR 3 (.p .mv) [(.c (.int .i64 (.ofNat 1)))]]) (.keep [2, 3] (.keep [2, 3] .ret))) .skip))) (.keep [5, 10, 11, 12] (.seq (.reg [iR 99 (.p .mv) [(.t 5)], iR 100 (.p (.bin .and)) [(.t 99), (.c (.int .u8 (.ofNat 7)))], iR 101 (.p (.toInt .i32)) [(.t 100)], iR 102 (.p (.bin .shl)) [(.t 101), (.c (.int .u64 (.ofNat 18)))], iR 103 (.p .mv) [(.t 10)], iR 104 (.p (.bin .and)) [(.t 103), (.c (.int .u8 (.ofNat 63)))], iR 105 (.p (.toInt .i32)) [(.t 104)], iR 106 (.p (.bin .shl)) [(.t 105), (.c (.int .u64 (.ofNat 12)))], iR 107 (.p (.bin .or)) [(.t 102), (.t 106)], iR 108 (.p .mv) [(.t 11)], iR 109 (.p (.bin .and)) [(.t 108), (.c (.int .u8 (.ofNat 63)))], iR 110 (.p (.toInt .i32)) [(.t 109)], iR 111 (.p (.bin .shl)) [(.t 110), (.c (.int .u64 (.ofNat 6)))],
    iR 112 (.p (.bin .or)) [(.t 107), (.t 111)], iR 113 (.p .mv) [(.t 12)], iR 114 (.p (.bin .and)) [(.t 113), (.c (.int .u8 (.ofNat 63)))], iR 115 (.p (.toInt .i32)) [(.t 114)], iR 116 (.p (.bin .or)) [(.t 112), (.t 115)], iR 2 (.p .mv) [(.t 116)], iR 3 (.p .mv) [(.c (.int .i64 (.ofNat 4)))]]) (.keep [2, 3] (.keep [2, 3] .ret))))))))))))))))))))))))))))))))))))), [(.t 2), (.t 3)]⟩
def s_utf8_decodeRuneInStringSlow (call : CallK) (N : Nat) (a0 : V) (H : Heap) (τ : Tape) (q : KV) : Ans := someK (pLenS [a0]) fun v0 => binK .lss v0 (.int .i64 (.ofNat 1)) fun v1 => condK v1 (q (.tup [(.int .i32 (.ofNat 65533)), (.int .i64 (.ofNat 0))]) H τ) (someK (pStrIndex [a0, (.int .i64 (.ofNat 0))]) fun v2 => someK (pArrIdx 256 1 [(.ptr 2 0), v2]) fun v3 => someK (lLoad1 [v3] H) fun v4 => binK .geq v4 (.int .u8 (.ofNat 240)) fun v5 => condK v5 (toIntK .i32 v4 fun v6 => binK .shl v6 (.int .u64 (.ofNat 31)) fun v7 => binK .shr v7 (.int .u64 (.ofNat 31)) fun v8 => someK (pStrIndex [a0, (.int .i64 (.ofNat 0))]) fun v9 => toIntK .i32 v9 fun v10 => binK .andNot v10 v8 fun v11 => binK .and (.int .i32 (.ofNat 65533)) v8 fun v12 => binK .or v11 v12 fun v13 => q (.tup [v13, (.int .i64 (.ofNat 1))]) H τ) (binK .and v4 (.int .u8 (.ofNat 7)) fun v14 => toIntK .i64 v14 fun v15 =>
    binK .shr v4 (.int .u64 (.ofNat 4)) fun v16 => someK (pArrIdx 16 2 [(.ptr 3 0), v16]) fun v17 => someK (lLoadN 2 [v17] H) fun v18 => effK (eAlloc [(.int .u8 (.ofNat 0)), (.int .u8 (.ofNat 0))] [] H τ) fun v19 H20 τ21 => effK (eStore 2 [v19, v18] H20 τ21) fun v22 H23 τ24 => binK .lss v0 v15 fun v25 => condK v25 (q (.tup [(.int .i32 (.ofNat 65533)), (.int .i64 (.ofNat 1))]) H23 τ24) (someK (pStrIndex [a0, (.int .i64 (.ofNat 1))]) fun v26 => someK (pFieldAddr 0 [v19]) fun v27 => someK (lLoad1 [v27] H23) fun v28 => binK .lss v26 v28 fun v29 => gK v29 false (fun q' => someK (pFieldAddr 1 [v19]) fun v => q' v H23 τ24) H23 τ24 fun v30 H31 τ32 => gK v29 false (fun q' => someK (lLoad1 [v30] H31) fun v => q' v H31 τ32) H31 τ32 fun v33 H34 τ35 => gK v29 false (fun q' => q' v26 H34 τ35) H34 τ35 fun v36 H37 τ38 =>
    gK v29 false (fun q' => binK .lss v33 v36 fun v => q' v H37 τ38) H37 τ38 fun v39 H40 τ41 => someK (pPick [v29, (.bool true), v39]) fun v42 => condK v42 (q (.tup [(.int .i32 (.ofNat 65533)), (.int .i64 (.ofNat 1))]) H40 τ41) (binK .leq v15 (.int .i64 (.ofNat 2)) fun v43 => condK v43 (binK .and v2 (.int .u8 (.ofNat 31)) fun v44 => toIntK .i32 v44 fun v45 => binK .shl v45 (.int .u64 (.ofNat 6)) fun v46 => binK .and v26 (.int .u8 (.ofNat 63)) fun v47 => toIntK .i32 v47 fun v48 => binK .or v46 v48 fun v49 => q (.tup [v49, (.int .i64 (.ofNat 2))]) H40 τ41) (someK (pStrIndex [a0, (.int .i64 (.ofNat 2))]) fun v50 => binK .lss v50 (.int .u8 (.ofNat 128)) fun v51 => gK v51 false (fun q' => q' v50 H40 τ41) H40 τ41 fun v52 H53 τ54 => gK v51 false (fun q' => binK .lss (.int .u8 (.ofNat 191)) v52 fun v => q' v H53 τ54) H53 τ54 fun v55 H56 τ57 => someK (pPick [v51, (.bool true), v55]) fun v58 =>
    condK v58 (q (.tup [(.int .i32 (.ofNat 65533)), (.int .i64 (.ofNat 1))]) H56 τ57) (binK .leq v15 (.int .i64 (.ofNat 3)) fun v59 => condK v59 (binK .and v2 (.int .u8 (.ofNat 15)) fun v60 => toIntK .i32 v60 fun v61 => binK .shl v61 (.int .u64 (.ofNat 12)) fun v62 => binK .and v26 (.int .u8 (.ofNat 63)) fun v63 => toIntK .i32 v63 fun v64 => binK .shl v64 (.int .u64 (.ofNat 6)) fun v65 => binK .or v62 v65 fun v66 => binK .and v50 (.int .u8 (.ofNat 63)) fun v67 => toIntK .i32 v67 fun v68 => binK .or v66 v68 fun v69 => q (.tup [v69, (.int .i64 (.ofNat 3))]) H56 τ57) (someK (pStrIndex [a0, (.int .i64 (.ofNat 3))]) fun v70 => binK .lss v70 (.int .u8 (.ofNat 128)) fun v71 => gK v71 false (fun q' => q' v70 H56 τ57) H56 τ57 fun v72 H73 τ74 => gK v71 false (fun q' => binK .lss (.int .u8 (.ofNat 191)) v72 fun v => q' v H73 τ74) H73 τ74 fun v75 H76 τ77 =>
    someK (pPick [v71, (.bool true), v75]) fun v78 => condK v78 (q (.tup [(.int .i32 (.ofNat 65533)), (.int .i64 (.ofNat 1))]) H76 τ77) (binK .and v2 (.int .u8 (.ofNat 7)) fun v79 => toIntK .i32 v79 fun v80 => binK .shl v80 (.int .u64 (.ofNat 18)) fun v81 => binK .and v26 (.int .u8 (.ofNat 63)) fun v82 => toIntK .i32 v82 fun v83 => binK .shl v83 (.int .u64 (.ofNat 12)) fun v84 => binK .or v81 v84 fun v85 => binK .and v50 (.int .u8 (.ofNat 63)) fun v86 => toIntK .i32 v86 fun v87 => binK .shl v87 (.int .u64 (.ofNat 6)) fun v88 => binK .or v85 v88 fun v89 => binK .and v70 (.int .u8 (.ofNat 63)) fun v90 => toIntK .i32 v90 fun v91 => binK .or v89 v91 fun v92 => q (.tup [v92, (.int .i64 (.ofNat 4))]) H76 τ77))))))))
theorem s_utf8_decodeRuneInStringSlow_eq (call : CallK) (N : Nat) (a0 : V) (H : Heap) (τ : Tape) (q : KV) : s_utf8_decodeRuneInStringSlow call N a0 H τ q = funK call N fn_utf8_decodeRuneInStringSlow [a0] H τ q := by kernel_rfl
def e_utf8_decodeRuneInStringSlow (call : CallK) (N : Nat) (vs : List V) (H : Heap) (τ : Tape) (q : KV) : Ans := match vs with | [a0] => s_utf8_decodeRuneInStringSlow call N a0 H τ q | _ => none
theorem e_utf8_decodeRuneInStringSlow_ok : EntOk fn_utf8_decodeRuneInStringSlow e_utf8_decodeRuneInStringSlow := by
  intro call N vs H τ q r h
  unfold e_utf8_decodeRuneInStringSlow at h
  split at h
  · rw [s_utf8_decodeRuneInStringSlow_eq] at h; exact h
  · cases h
theorem e_utf8_decodeRuneInStringSlow_nat : EntNat e_utf8_decodeRuneInStringSlow := by
  intro c hn N vs H τ q
  unfold e_utf8_decodeRuneInStringSlow
  split
  · rw [s_utf8_decodeRuneInStringSlow_eq, s_utf8_decodeRuneInStringSlow_eq]; exact funK_ent hn _ _ _ _ _ _
  · rfl
/-- strings.IndexRune -/
def fn_strings_IndexRune : Fun := ⟨2, (.seq (.reg [iR 4 (.p .mv) [(.c (.int .i64 (.ofNat 0)))]]) (.keep [0, 1] (.block 0 (.seq (.reg [iR 161 (.p .mv) [(.t 1)], iR 162 (.p (.bin .leq)) [(.c (.int .i32 (.ofNat 0))), (.t 161)], iR 163 (.p .mv) [(.t 162)], iG 164 163 true (.p .mv) [(.t 1)], iG 165 163 true (.p (.bin .lss)) [(.t 164), (.c (.int .i32 (.ofNat 128)))], iR 166 (.p .pick) [(.t 163), (.t 165), (.c (.bool false))], iR 160 (.p .mv) [(.t 166)]]) (.keep [0, 1, 160] (.cond (.t 160) (.seq (.reg [iR 167 (.p .mv) [(.t 0)], iR 168 (.p .mv) [(.t 1)], iR 169 (.p (.toInt .u8)) [(.t 168)], iR 170 (.call 52) [(.t 167), (.t 169)], iR 4 (.p .mv) [(.t 170)]]) (.keep [4] (.keep [4] .ret))) (.seq (.reg [iR 172 (.p .mv) [(.t 1)], iR 173 (.p (.bin .eql)) [(.t 172), (.c (.int .i32 (.ofNat 65533)))], iR 171 (.p .mv) [(.t 173)]]) (.keep [0, 1, 171] (.cond (.t 171)
    (.seq (.seq (.reg [iR 174 (.p .mv) [(.t 0)], iR 175 (.e .range) [(.t 174)]]) (.keep [175] (.block 9 (.loop (.keep [175] (.seq (.reg [iR 176 (.e .next) [(.t 175)], iR 177 (.p (.extract 0)) [(.t 176)]]) (.keep [175, 176, 177] (.seq (.cond (.t 177) .skip (.keep [] (.exit 9))) (.keep [175, 176] (.block 10 (.seq (.reg [iR 178 (.p (.extract 1)) [(.t 176)], iR 179 (.p (.extract 2)) [(.t 176)], iR 5 (.p .mv) [(.t 178)], iR 6 (.p .mv) [(.t 179)]]) (.keep [5, 6, 175] (.seq (.reg [iR 180 (.p .mv) [(.t 6)], iR 181 (.p (.bin .eql)) [(.t 180), (.c (.int .i32 (.ofNat 65533)))]]) (.keep [5, 175, 181] (.cond (.t 181) (.seq (.reg [iR 182 (.p .mv) [(.t 5)], iR 4 (.p .mv) [(.t 182)]]) (.keep [4] (.keep [4] .ret))) .skip))))))))))))))) (.keep [] (.seq (.reg [iR 4 (.p .mv) [(.c (.int .i64 (.negSucc 0)))]]) (.keep [4] (.keep [4] .ret))))) (.seq (.reg [iR 184 (.p .mv) [(.t 1)],
    iR 185 (.call 146) [(.t 184)], iR 186 (.p (.un .not)) [(.t 185)], iR 183 (.p .mv) [(.t 186)]]) (.keep [0, 1, 183] (.cond (.t 183) (.seq (.reg [iR 4 (.p .mv) [(.c (.int .i64 (.negSucc 0)))]]) (.keep [4] (.keep [4] .ret))) (.scope (.seq (.reg [iR 17 (.p .mv) [(.t 1)], iR 18 (.p .runeStr) [(.t 17)], iR 7 (.p .mv) [(.t 18)]]) (.keep [0, 7] (.seq (.reg [iR 19 (.p .mv) [(.t 7)], iR 20 (.p .lenS) [(.t 19)], iR 21 (.p (.bin .sub)) [(.t 20), (.c (.int .i64 (.ofNat 1)))], iR 8 (.p .mv) [(.t 21)]]) (.keep [0, 7, 8] (.seq (.reg [iR 22 (.p .mv) [(.t 8)], iR 9 (.p .mv) [(.t 22)]]) (.keep [0, 7, 8, 9] (.seq (.reg [iR 10 (.p .mv) [(.c (.int .i64 (.ofNat 0)))]]) (.keep [0, 7, 8, 9] (.seq (.block 1 (.loop (.keep [0, 7, 8, 9] (.seq (.seq (.reg [iR 23 (.p .mv) [(.t 9)], iR 24 (.p .mv) [(.t 0)], iR 25 (.p .lenS) [(.t 24)], iR 26 (.p (.bin .lss)) [(.t 23), (.t 25)]])
    (.keep [0, 7, 8, 9, 26] (.cond (.t 26) .skip (.keep [] (.exit 1))))) (.keep [0, 7, 8, 9] (.block 2 (.scope (.seq (.seq (.draw [iR 27 (.p .mv) [(.t 0)], iR 28 (.p .mv) [(.t 9)], iR 29 (.p .strIndex) [(.t 27), (.t 28)], iR 30 (.p .mv) [(.t 7)], iR 31 (.p .mv) [(.t 8)], iR 32 (.p .strIndex) [(.t 30), (.t 31)], iR 33 (.p (.bin .neq)) [(.t 29), (.t 32)]]) (.keep [0, 7, 8, 9, 33] (.cond (.t 33) (.seq (.draw [iR 34 (.p .mv) [(.t 0)], iR 35 (.p .mv) [(.t 9)], iR 36 (.p (.bin .add)) [(.t 35), (.c (.int .i64 (.ofNat 1)))], iR 37 (.p (.strSlice true false)) [(.t 34), (.t 36)], iR 38 (.p .mv) [(.t 7)], iR 39 (.p .mv) [(.t 8)], iR 40 (.p .strIndex) [(.t 38), (.t 39)], iR 41 (.call 52) [(.t 37), (.t 40)], iR 11 (.p .mv) [(.t 41)]]) (.keep [0, 7, 8, 9, 11] (.seq (.seq (.reg [iR 42 (.p .mv) [(.t 11)], iR 43 (.p (.bin .lss)) [(.t 42), (.c (.int .i64 (.ofNat 0)))]])
    (.keep [0, 7, 8, 9, 11, 43] (.cond (.t 43) (.seq (.reg [iR 4 (.p .mv) [(.c (.int .i64 (.negSucc 0)))]]) (.keep [4] (.keep [4] .ret))) .skip))) (.keep [0, 7, 8, 9, 11] (.reg [iR 44 (.p .mv) [(.t 9)], iR 45 (.p .mv) [(.t 11)], iR 46 (.p (.bin .add)) [(.t 45), (.c (.int .i64 (.ofNat 1)))], iR 47 (.p (.bin .add)) [(.t 44), (.t 46)], iR 9 (.p .mv) [(.t 47)]]))))) .skip))) (.keep [0, 7, 8, 9] (.seq (.seq (.reg [iR 12 (.p .mv) [(.c (.int .i64 (.ofNat 1)))]]) (.keep [0, 7, 8, 9, 12] (.block 3 (.loop (.keep [0, 7, 8, 9, 12] (.seq (.seq (.reg [iR 48 (.p .mv) [(.t 12)], iR 49 (.p .mv) [(.t 7)], iR 50 (.p .lenS) [(.t 49)], iR 51 (.p (.bin .lss)) [(.t 48), (.t 50)]]) (.keep [0, 7, 8, 9, 12, 51] (.cond (.t 51) .skip (.keep [8, 9] (.exit 3))))) (.keep [0, 7, 8, 9, 12] (.seq (.block 4 (.seq (.draw [iR 54 (.p .mv) [(.t 0)], iR 55 (.p .mv) [(.t 9)], iR 56 (.p .mv) [(.t 12)],
    iR 57 (.p (.bin .sub)) [(.t 55), (.t 56)], iR 58 (.p .strIndex) [(.t 54), (.t 57)], iR 59 (.p .mv) [(.t 7)], iR 60 (.p .mv) [(.t 8)], iR 61 (.p .mv) [(.t 12)], iR 62 (.p (.bin .sub)) [(.t 60), (.t 61)], iR 63 (.p .strIndex) [(.t 59), (.t 62)], iR 64 (.p (.bin .neq)) [(.t 58), (.t 63)]]) (.keep [0, 7, 8, 9, 12, 64] (.cond (.t 64) .bad .skip)))) (.keep [0, 7, 8, 9, 12] (.reg [iR 52 (.p .mv) [(.t 12)], iR 53 (.p (.bin .add)) [(.t 52), (.c (.int .i64 (.ofNat 1)))], iR 12 (.p .mv) [(.t 53)]])))))))))) (.keep [8, 9] (.seq (.seq (.reg [iR 65 (.p .mv) [(.t 9)], iR 66 (.p .mv) [(.t 8)], iR 67 (.p (.bin .sub)) [(.t 65), (.t 66)], iR 4 (.p .mv) [(.t 67)]]) (.keep [4] (.keep [4] .ret))) (.keep [0, 7, 8, 9, 10] (.seq .skip (.keep [0, 7, 8, 9, 10] (.seq (.reg [iR 68 (.p .mv) [(.t 10)], iR 69 (.p (.bin .add)) [(.t 68), (.c (.int .i64 (.ofNat 1)))], iR 10 (.p .mv) [(.t 69)]])
    (.keep [0, 7, 8, 9, 10] (.seq (.reg [iR 70 (.p .mv) [(.t 9)], iR 71 (.p (.bin .add)) [(.t 70), (.c (.int .i64 (.ofNat 1)))], iR 9 (.p .mv) [(.t 71)]]) (.keep [0, 7, 8, 9, 10] (.seq (.reg [iR 72 (.p .mv) [(.c (.bool true))], iG 73 72 true (.p .mv) [(.t 10)], iG 74 72 true (.p .mv) [(.t 9)], iG 75 72 true (.call 147) [(.t 74)], iG 76 72 true (.p (.bin .gtr)) [(.t 73), (.t 75)], iR 77 (.p .pick) [(.t 72), (.t 76), (.c (.bool false))], iR 78 (.p .mv) [(.t 77)], iG 79 78 true (.p .mv) [(.t 9)], iG 80 78 true (.p .mv) [(.t 0)], iG 81 78 true (.p .lenS) [(.t 80)], iG 82 78 true (.p (.bin .lss)) [(.t 79), (.t 81)], iR 83 (.p .pick) [(.t 78), (.t 82), (.c (.bool false))], iR 84 (.p .mv) [(.t 83)], iG 85 84 false (.p .mv) [(.c (.bool false))], iG 86 85 true (.p .mv) [(.t 10)], iG 87 85 true (.p .mv) [(.t 9)], iG 88 85 true (.p (.bin .shr)) [(.t 87), (.c (.int .u64 (.ofNat 4)))],
    iG 89 85 true (.p (.bin .add)) [(.c (.int .i64 (.ofNat 4))), (.t 88)], iG 90 85 true (.p (.bin .geq)) [(.t 86), (.t 89)], iG 91 84 false (.p .pick) [(.t 85), (.t 90), (.c (.bool false))], iG 92 84 false (.p .mv) [(.t 91)], iG 93 92 true (.p .mv) [(.t 9)], iG 94 92 true (.p .mv) [(.t 0)], iG 95 92 true (.p .lenS) [(.t 94)], iG 96 92 true (.p (.bin .lss)) [(.t 93), (.t 95)], iG 97 84 false (.p .pick) [(.t 92), (.t 96), (.c (.bool false))], iR 98 (.p .pick) [(.t 84), (.c (.bool true)), (.t 97)]]) (.keep [0, 7, 8, 9, 98] (.cond (.t 98) .bad .skip)))))))))))))))))))))) (.keep [] (.seq (.seq (.reg [iR 4 (.p .mv) [(.c (.int .i64 (.negSucc 0)))]]) (.keep [4] (.keep [4] .ret))) (.keep [0, 7, 8, 9] (.seq .skip (.keep [0, 7, 8, 9] (.seq (.cond (.c (.bool true)) (.seq .bad (.keep [8, 9, 13] (.seq (.reg [iR 107 (.p .mv) [(.t 13)],
    iR 108 (.p (.bin .geq)) [(.t 107), (.c (.int .i64 (.ofNat 0)))]]) (.keep [8, 9, 13, 108] (.cond (.t 108) (.seq (.reg [iR 109 (.p .mv) [(.t 9)], iR 110 (.p .mv) [(.t 13)], iR 111 (.p (.bin .add)) [(.t 109), (.t 110)], iR 112 (.p .mv) [(.t 8)], iR 113 (.p (.bin .sub)) [(.t 111), (.t 112)], iR 4 (.p .mv) [(.t 113)]]) (.keep [4] (.keep [4] .ret))) .skip))))) (.scope (.seq (.reg [iR 114 (.p .mv) [(.t 7)], iR 115 (.p .mv) [(.t 8)], iR 116 (.p .strIndex) [(.t 114), (.t 115)], iR 14 (.p .mv) [(.t 116)]]) (.keep [0, 7, 8, 9, 14] (.seq (.reg [iR 117 (.p .mv) [(.t 7)], iR 118 (.p .mv) [(.t 8)], iR 119 (.p (.bin .sub)) [(.t 118), (.c (.int .i64 (.ofNat 1)))], iR 120 (.p .strIndex) [(.t 117), (.t 119)], iR 15 (.p .mv) [(.t 120)]]) (.keep [0, 7, 8, 9, 14, 15] (.seq .skip (.keep [0, 7, 8, 9, 14, 15] (.block 5 (.loop (.keep [0, 7, 8, 9, 14, 15] (.seq (.seq (.reg [iR 121 (.p .mv) [(.t 9)],
    iR 122 (.p .mv) [(.t 0)], iR 123 (.p .lenS) [(.t 122)], iR 124 (.p (.bin .lss)) [(.t 121), (.t 123)]]) (.keep [0, 7, 8, 9, 14, 15, 124] (.cond (.t 124) .skip (.keep [] (.exit 5))))) (.keep [0, 7, 8, 9, 14, 15] (.seq (.block 6 (.seq (.reg [iR 127 (.p .mv) [(.t 0)], iR 128 (.p .mv) [(.t 9)], iR 129 (.p .strIndex) [(.t 127), (.t 128)], iR 130 (.p .mv) [(.t 14)], iR 131 (.p (.bin .eql)) [(.t 129), (.t 130)], iR 132 (.p .mv) [(.t 131)], iG 133 132 true (.p .mv) [(.t 0)], iG 134 132 true (.p .mv) [(.t 9)], iG 135 132 true (.p (.bin .sub)) [(.t 134), (.c (.int .i64 (.ofNat 1)))], iG 136 132 true (.p .strIndex) [(.t 133), (.t 135)], iG 137 132 true (.p .mv) [(.t 15)], iG 138 132 true (.p (.bin .eql)) [(.t 136), (.t 137)], iR 139 (.p .pick) [(.t 132), (.t 138), (.c (.bool false))]]) (.keep [0, 7, 8, 9, 14, 15, 139] (.cond (.t 139)
    (.seq (.seq (.reg [iR 16 (.p .mv) [(.c (.int .i64 (.ofNat 2)))]]) (.keep [0, 7, 8, 9, 14, 15, 16] (.block 7 (.loop (.keep [0, 7, 8, 9, 14, 15, 16] (.seq (.seq (.reg [iR 140 (.p .mv) [(.t 16)], iR 141 (.p .mv) [(.t 7)], iR 142 (.p .lenS) [(.t 141)], iR 143 (.p (.bin .lss)) [(.t 140), (.t 142)]]) (.keep [0, 7, 8, 9, 14, 15, 16, 143] (.cond (.t 143) .skip (.keep [8, 9] (.exit 7))))) (.keep [0, 7, 8, 9, 14, 15, 16] (.seq (.block 8 (.seq (.draw [iR 146 (.p .mv) [(.t 0)], iR 147 (.p .mv) [(.t 9)], iR 148 (.p .mv) [(.t 16)], iR 149 (.p (.bin .sub)) [(.t 147), (.t 148)], iR 150 (.p .strIndex) [(.t 146), (.t 149)], iR 151 (.p .mv) [(.t 7)], iR 152 (.p .mv) [(.t 8)], iR 153 (.p .mv) [(.t 16)], iR 154 (.p (.bin .sub)) [(.t 152), (.t 153)], iR 155 (.p .strIndex) [(.t 151), (.t 154)], iR 156 (.p (.bin .neq)) [(.t 150), (.t 155)]]) (.keep [0, 7, 8, 9, 14, 15, 16, 156] (.cond (.t 156)
    (.keep [0, 7, 8, 9, 14, 15] (.exit 6)) .skip)))) (.keep [0, 7, 8, 9, 14, 15, 16] (.reg [iR 144 (.p .mv) [(.t 16)], iR 145 (.p (.bin .add)) [(.t 144), (.c (.int .i64 (.ofNat 1)))], iR 16 (.p .mv) [(.t 145)]])))))))))) (.keep [8, 9] (.seq (.reg [iR 157 (.p .mv) [(.t 9)], iR 158 (.p .mv) [(.t 8)], iR 159 (.p (.bin .sub)) [(.t 157), (.t 158)], iR 4 (.p .mv) [(.t 159)]]) (.keep [4] (.keep [4] .ret))))) .skip)))) (.keep [0, 7, 8, 9, 14, 15] (.reg [iR 125 (.p .mv) [(.t 9)], iR 126 (.p (.bin .add)) [(.t 125), (.c (.int .i64 (.ofNat 1)))], iR 9 (.p .mv) [(.t 126)]])))))))))))))))) (.keep [] (.seq (.reg [iR 4 (.p .mv) [(.c (.int .i64 (.negSucc 0)))]]) (.keep [4] (.keep [4] .ret)))))))))))))))))))))))))))))))), [(.t 4)]⟩
def s_strings_IndexRune_j0 (call : CallK) (N : Nat) (q : KV) (st : St) (τ : Tape) : Ans := match st with
  | ⟨fr, H⟩ => q (.int .i64 (.negSucc 0)) H τ
def s_strings_IndexRune_l1 (call : CallK) (N : Nat) (st : St) (τ : Tape) (k : KC) : Ans := match st with
  | ⟨fr, H⟩ => getK fr 175 fun t175 => effK (eNext [t175] H τ) fun v16 H17 τ18 => someK (pExtract 0 [v16]) fun v19 => condK v19 (someK (pExtract 1 [v16]) fun v20 => someK (pExtract 2 [v16]) fun v21 => binK .eql v21 (.int .i32 (.ofNat 65533)) fun v22 => condK v22 (k .ret ⟨(T.set .leaf 4 v20), H17⟩ τ18) (k .normal ⟨(T.set (T.set (T.set .leaf 5 v20) 175 t175) 181 v22), H17⟩ τ18)) (k (.exit 9) ⟨.leaf, H17⟩ τ18)
def s_strings_IndexRune_j2 (call : CallK) (N : Nat) (q : KV) (st : St) (τ : Tape) : Ans := match st with
  | ⟨fr, H⟩ => q (.int .i64 (.negSucc 0)) H τ
def s_strings_IndexRune_j5 (call : CallK) (N : Nat) (k : KC) (st : St) (τ : Tape) : Ans := match st with
  | ⟨fr, H⟩ => getK fr 8 fun t8 => getK fr 9 fun t9 => binK .sub t9 t8 fun v35 => k .ret ⟨(T.set .leaf 4 v35), H⟩ τ
def s_strings_IndexRune_l6 (call : CallK) (N : Nat) (st : St) (τ : Tape) (k : KC) : Ans := match st with
  | ⟨fr, H⟩ => getK fr 0 fun t0 => getK fr 7 fun t7 => getK fr 8 fun t8 => getK fr 9 fun t9 => getK fr 12 fun t12 => someK (pLenS [t7]) fun v36 => binK .lss t12 v36 fun v37 => condK v37 (binK .sub t9 t12 fun v38 => someK (pStrIndex [t0, v38]) fun v39 => binK .sub t8 t12 fun v40 => someK (pStrIndex [t7, v40]) fun v41 => binK .neq v39 v41 fun v42 => condK v42 (none) (binK .add t12 (.int .i64 (.ofNat 1)) fun v43 => k .normal ⟨(T.set (T.set (T.set (T.set (T.set (T.set (T.set (T.set .leaf 0 t0) 7 t7) 8 t8) 9 t9) 12 t12) 52 t12) 53 v43) 12 v43), H⟩ τ)) (k (.exit 3) ⟨(T.set (T.set .leaf 8 t8) 9 t9), H⟩ τ)
def s_strings_IndexRune_j4 (call : CallK) (N : Nat) (k : KC) (st : St) (τ : Tape) : Ans := match st with
  | ⟨fr, H⟩ => getK fr 0 fun t0 => getK fr 7 fun t7 => getK fr 8 fun t8 => getK fr 9 fun t9 => loopK (s_strings_IndexRune_l6 call N) N ⟨(T.set (T.set (T.set (T.set (T.set .leaf 0 t0) 7 t7) 8 t8) 9 t9) 12 (.int .i64 (.ofNat 1))), H⟩ τ (blockK 3 (seqK (s_strings_IndexRune_j5 call N k) (blockK 2 k)))
def s_strings_IndexRune_l3 (call : CallK) (N : Nat) (st : St) (τ : Tape) (k : KC) : Ans := match st with
  | ⟨fr, H⟩ => getK fr 0 fun t0 => getK fr 7 fun t7 => getK fr 8 fun t8 => getK fr 9 fun t9 => someK (pLenS [t0]) fun v30 => binK .lss t9 v30 fun v31 => condK v31 (someK (pStrIndex [t0, t9]) fun v32 => someK (pStrIndex [t7, t8]) fun v33 => binK .neq v32 v33 fun v34 => condK v34 (binK .add t9 (.int .i64 (.ofNat 1)) fun v44 => someK (pStrSlice true false [t0, v44]) fun v45 => someK (pStrIndex [t7, t8]) fun v46 => call f_strings_IndexByte [v45, v46] H τ fun v47 H48 τ49 => binK .lss v47 (.int .i64 (.ofNat 0)) fun v50 => condK v50 (k .ret ⟨(T.set .leaf 4 (.int .i64 (.negSucc 0))), H48⟩ τ49) (binK .add v47 (.int .i64 (.ofNat 1)) fun v51 => binK .add t9 v51 fun v52 => s_strings_IndexRune_j4 call N k ⟨(T.set (T.set (T.set (T.set (T.set (T.set (T.set (T.set (T.set (T.set .leaf 0 t0) 7 t7) 8 t8) 9 t9) 11 v47) 44 t9) 45 v47) 46 v51) 47 v52) 9 v52), H48⟩ τ49))
    (s_strings_IndexRune_j4 call N k ⟨(T.set (T.set (T.set (T.set (T.set .leaf 0 t0) 7 t7) 8 t8) 9 t9) 33 v34), H⟩ τ)) (k (.exit 1) ⟨.leaf, H⟩ τ)
def s_strings_IndexRune (call : CallK) (N : Nat) (a0 a1 : V) (H : Heap) (τ : Tape) (q : KV) : Ans := binK .leq (.int .i32 (.ofNat 0)) a1 fun v0 => gK v0 true (fun q' => q' a1 H τ) H τ fun v1 H2 τ3 => gK v0 true (fun q' => binK .lss v1 (.int .i32 (.ofNat 128)) fun v => q' v H2 τ3) H2 τ3 fun v4 H5 τ6 => someK (pPick [v0, v4, (.bool false)]) fun v7 => condK v7 (toIntK .u8 a1 fun v8 => call f_strings_IndexByte [a0, v8] H5 τ6 fun v9 H10 τ11 => q v9 H10 τ11) (binK .eql a1 (.int .i32 (.ofNat 65533)) fun v12 => condK v12 (effK (eRange [a0] H5 τ6) fun v13 H14 τ15 => loopK (s_strings_IndexRune_l1 call N) N ⟨(T.set .leaf 175 v13), H14⟩ τ15 (blockK 9 (seqK (s_strings_IndexRune_j0 call N q) (blockK 0 (endK [(.t 4)] q))))) (call f_utf8_ValidRune [a1] H5 τ6 fun v23 H24 τ25 => unK .not v23 fun v26 => condK v26 (q (.int .i64 (.negSucc 0)) H24 τ25) (someK (pRuneStr [a1]) fun v27 =>
    someK (pLenS [v27]) fun v28 => binK .sub v28 (.int .i64 (.ofNat 1)) fun v29 => loopK (s_strings_IndexRune_l3 call N) N ⟨(T.set (T.set (T.set (T.set .leaf 0 a0) 7 v27) 8 v29) 9 v29), H24⟩ τ25 (blockK 1 (seqK (s_strings_IndexRune_j2 call N q) (blockK 0 (endK [(.t 4)] q)))))))
theorem s_strings_IndexRune_eq (call : CallK) (N : Nat) (a0 a1 : V) (H : Heap) (τ : Tape) (q : KV) : s_strings_IndexRune call N a0 a1 H τ q = funK call N fn_strings_IndexRune [a0, a1] H τ q := by kernel_rfl
def e_strings_IndexRune (call : CallK) (N : Nat) (vs : List V) (H : Heap) (τ : Tape) (q : KV) : Ans := match vs with | [a0, a1] => s_strings_IndexRune call N a0 a1 H τ q | _ => none
theorem e_strings_IndexRune_ok : EntOk fn_strings_IndexRune e_strings_IndexRune := by
  intro call N vs H τ q r h
  unfold e_strings_IndexRune at h
  split at h
  · rw [s_strings_IndexRune_eq] at h; exact h
  · cases h
theorem e_strings_IndexRune_nat : EntNat e_strings_IndexRune := by
  intro c hn N vs H τ q
  unfold e_strings_IndexRune
  split
  · rw [s_strings_IndexRune_eq, s_strings_IndexRune_eq]; exact funK_ent hn _ _ _ _ _ _
  · rfl
/-- unicode/utf8.RuneStart -/
def fn_utf8_RuneStart : Fun := ⟨1, (.seq (.reg [iR 2 (.p .mv) [(.c (.bool false))]]) (.keep [0] (.seq (.reg [iR 3 (.p .mv) [(.t 0)], iR 4 (.p (.bin .and)) [(.t 3), (.c (.int .u8 (.ofNat 192)))], iR 5 (.p (.bin .neq)) [(.t 4), (.c (.int .u8 (.ofNat 128)))], iR 2 (.p .mv) [(.t 5)]]) (.keep [2] (.keep [2] .ret))))), [(.t 2)]⟩
def s_utf8_RuneStart (call : CallK) (N : Nat) (a0 : V) (H : Heap) (τ : Tape) (q : KV) : Ans := binK .and a0 (.int .u8 (.ofNat 192)) fun v0 => binK .neq v0 (.int .u8 (.ofNat 128)) fun v1 => q v1 H τ
theorem s_utf8_RuneStart_eq (call : CallK) (N : Nat) (a0 : V) (H : Heap) (τ : Tape) (q : KV) : s_utf8_RuneStart call N a0 H τ q = funK call N fn_utf8_RuneStart [a0] H τ q := by kernel_rfl
def e_utf8_RuneStart (call : CallK) (N : Nat) (vs : List V) (H : Heap) (τ : Tape) (q : KV) : Ans := match vs with | [a0] => s_utf8_RuneStart call N a0 H τ q | _ => none
theorem e_utf8_RuneStart_ok : EntOk fn_utf8_RuneStart e_utf8_RuneStart := by
  intro call N vs H τ q r h
  unfold e_utf8_RuneStart at h
  split at h
  · rw [s_utf8_RuneStart_eq] at h; exact h
  · cases h
theorem e_utf8_RuneStart_nat : EntNat e_utf8_RuneStart := by
  intro c hn N vs H τ q
  unfold e_utf8_RuneStart
  split
  · rw [s_utf8_RuneStart_eq, s_utf8_RuneStart_eq]; exact funK_ent hn _ _ _ _ _ _
  · rfl
/-- unicode/utf8.ValidRune -/
def fn_utf8_ValidRune : Fun := ⟨1, (.seq (.reg [iR 2 (.p .mv) [(.c (.bool false))]]) (.keep [0] (.seq (.block 0 (.seq (.reg [iR 4 (.p .mv) [(.t 0)], iR 5 (.p (.bin .leq)) [(.c (.int .i32 (.ofNat 0))), (.t 4)], iR 6 (.p .mv) [(.t 5)], iG 7 6 true (.p .mv) [(.t 0)], iG 8 6 true (.p (.bin .lss)) [(.t 7), (.c (.int .i32 (.ofNat 55296)))], iR 9 (.p .pick) [(.t 6), (.t 8), (.c (.bool false))], iR 3 (.p .mv) [(.t 9)]]) (.keep [0, 3] (.cond (.t 3) (.seq (.reg [iR 2 (.p .mv) [(.c (.bool true))]]) (.keep [2] (.keep [2] .ret))) (.seq (.reg [iR 11 (.p .mv) [(.t 0)], iR 12 (.p (.bin .lss)) [(.c (.int .i32 (.ofNat 57343))), (.t 11)], iR 13 (.p .mv) [(.t 12)], iG 14 13 true (.p .mv) [(.t 0)], iG 15 13 true (.p (.bin .leq)) [(.t 14), (.c (.int .i32 (.ofNat 1114111)))], iR 16 (.p .pick) [(.t 13), (.t 15), (.c (.bool false))], iR 10 (.p .mv) [(.t 16)]]) (.keep [10] (.cond (.t 10)
    (.seq (.reg [iR 2 (.p .mv) [(.c (.bool true))]]) (.keep [2] (.keep [2] .ret))) .skip))))))) (.keep [] (.seq (.reg [iR 2 (.p .mv) [(.c (.bool false))]]) (.keep [2] (.keep [2] .ret))))))), [(.t 2)]⟩
def s_utf8_ValidRune (call : CallK) (N : Nat) (a0 : V) (H : Heap) (τ : Tape) (q : KV) : Ans := binK .leq (.int .i32 (.ofNat 0)) a0 fun v0 => gK v0 true (fun q' => q' a0 H τ) H τ fun v1 H2 τ3 => gK v0 true (fun q' => binK .lss v1 (.int .i32 (.ofNat 55296)) fun v => q' v H2 τ3) H2 τ3 fun v4 H5 τ6 => someK (pPick [v0, v4, (.bool false)]) fun v7 => condK v7 (q (.bool true) H5 τ6) (binK .lss (.int .i32 (.ofNat 57343)) a0 fun v8 => gK v8 true (fun q' => q' a0 H5 τ6) H5 τ6 fun v9 H10 τ11 => gK v8 true (fun q' => binK .leq v9 (.int .i32 (.ofNat 1114111)) fun v => q' v H10 τ11) H10 τ11 fun v12 H13 τ14 => someK (pPick [v8, v12, (.bool false)]) fun v15 => condK v15 (q (.bool true) H13 τ14) (q (.bool false) H13 τ14))
theorem s_utf8_ValidRune_eq (call : CallK) (N : Nat) (a0 : V) (H : Heap) (τ : Tape) (q : KV) : s_utf8_ValidRune call N a0 H τ q = funK call N fn_utf8_ValidRune [a0] H τ q := by kernel_rfl
def e_utf8_ValidRune (call : CallK) (N : Nat) (vs : List V) (H : Heap) (τ : Tape) (q : KV) : Ans := match vs with | [a0] => s_utf8_ValidRune call N a0 H τ q | _ => none
theorem e_utf8_ValidRune_ok : EntOk fn_utf8_ValidRune e_utf8_ValidRune := by
  intro call N vs H τ q r h
  unfold e_utf8_ValidRune at h
  split at h
  · rw [s_utf8_ValidRune_eq] at h; exact h
  · cases h
theorem e_utf8_ValidRune_nat : EntNat e_utf8_ValidRune := by
  intro c hn N vs H τ q
  unfold e_utf8_ValidRune
  split
  · rw [s_utf8_ValidRune_eq, s_utf8_ValidRune_eq]; exact funK_ent hn _ _ _ _ _ _
  · rfl
/-- internal/bytealg.Cutover -/
def fn_bytealg_Cutover : Fun := ⟨1, (.seq (.reg [iR 2 (.p .mv) [(.c (.int .i64 (.ofNat 0)))]]) (.keep [0] (.seq (.reg [iR 3 (.p .mv) [(.t 0)], iR 4 (.p (.bin .add)) [(.t 3), (.c (.int .i64 (.ofNat 16)))], iR 5 (.p (.bin .quo)) [(.t 4), (.c (.int .i64 (.ofNat 8)))], iR 2 (.p .mv) [(.t 5)]]) (.keep [2] (.keep [2] .ret))))), [(.t 2)]⟩
def s_bytealg_Cutover (call : CallK) (N : Nat) (a0 : V) (H : Heap) (τ : Tape) (q : KV) : Ans := binK .add a0 (.int .i64 (.ofNat 16)) fun v0 => binK .quo v0 (.int .i64 (.ofNat 8)) fun v1 => q v1 H τ
theorem s_bytealg_Cutover_eq (call : CallK) (N : Nat) (a0 : V) (H : Heap) (τ : Tape) (q : KV) : s_bytealg_Cutover call N a0 H τ q = funK call N fn_bytealg_Cutover [a0] H τ q := by kernel_rfl
def e_bytealg_Cutover (call : CallK) (N : Nat) (vs : List V) (H : Heap) (τ : Tape) (q : KV) : Ans := match vs with | [a0] => s_bytealg_Cutover call N a0 H τ q | _ => none
theorem e_bytealg_Cutover_ok : EntOk fn_bytealg_Cutover e_bytealg_Cutover := by
  intro call N vs H τ q r h
  unfold e_bytealg_Cutover at h
  split at h
  · rw [s_bytealg_Cutover_eq] at h; exact h
  · cases h
theorem e_bytealg_Cutover_nat : EntNat e_bytealg_Cutover := by
  intro c hn N vs H τ q
  unfold e_bytealg_Cutover
  split
  · rw [s_bytealg_Cutover_eq, s_bytealg_Cutover_eq]; exact funK_ent hn _ _ _ _ _ _
  · rfl
def tabF : T Def := (.node none (.node none (.node none (.node none (.node (some (.fn fn_filter_Own)) .leaf .leaf) (.node (some (.fn fn_keep_SameResponse)) (.node (some (.fn fn_filter_Own_1)) .leaf .leaf) (.node (some (.fn fn_slices_Clone_byte)) (.node (some (.fn fn_strings_trimLeftByte)) .leaf .leaf) .leaf))) (.node none (.node (some (.fn fn_law20_h)) (.node (some (.fn fn_infra_Lower)) (.node (some (.prim idxP)) .leaf .leaf) .leaf) (.node none (.node none (.node (some (.fn fn_bytealg_Cutover)) .leaf .leaf) .leaf) .leaf)) (.node (some (.fn fn_book_Same_Header)) (.node (some (.fn fn_book_Same_byte)) .leaf (.node (some (.fn fn_asciiSet_contains)) .leaf .leaf)) (.node none (.node (some (.fn fn_strings_trimRightASCII)) .leaf .leaf) (.node (some (.fn fn_utf8_decodeRuneInStringSlow)) .leaf .leaf))))) (.node none (.node none (.node none .leaf (.node (some (.prim joinP)) .leaf .leaf)) (.node (some (.fn fn_filter_Hide)) (.node (some (.fn fn_filter_Share_1)) .leaf .leaf) (.node (some (.prim namesP)) (.node (some (.fn fn_strings_makeASCIISet)) .leaf .leaf) .leaf))) (.node none (.node none .leaf (.node (some (.fn fn_infra_mapped)) .leaf .leaf)) (.node none (.node none .leaf (.node (some (.fn fn_strings_ContainsRune)) .leaf .leaf)) (.node none (.node (some (.fn fn_strings_trimRightUnicode)) .leaf .leaf) (.node (some (.fn fn_utf8_RuneStart)) .leaf .leaf)))))) (.node none (.node none (.node none (.node (some (.fn fn_filter_Share)) .leaf (.node (some (.fn fn_headers_is)) .leaf .leaf)) (.node (some (.fn fn_filter_Fail)) (.node (some (.fn fn_cors_Exposed)) .leaf .leaf) (.node (some (.fn fn_headers_Split)) (.node (some (.fn fn_strings_trimRightByte)) .leaf .leaf) .leaf))) (.node none (.node none (.node none (.node (some (.fn fn_strings_Trim)) .leaf .leaf) .leaf) (.node (some (.fn fn_strings_IndexByte)) .leaf .leaf)) (.node none (.node none .leaf (.node (some (.fn fn_utf8_DecodeRuneInString)) .leaf .leaf)) (.node none (.node (some (.fn fn_strings_trimLeftUnicode)) .leaf .leaf) (.node (some (.fn fn_strings_IndexRune)) .leaf .leaf))))) (.node (some (.fn fn_law20_FilterNumbers)) (.node none (.node (some (.fn fn_law20_known)) (.node (some (.fn fn_infra_Token)) .leaf .leaf) (.node none (.node none (.node (some (.fn fn_utf8_ValidRune)) .leaf .leaf) .leaf) .leaf)) (.node (some (.fn fn_filter_HideRedirect)) (.node (some (.fn fn_slices_Contains_string)) .leaf .leaf) (.node (some (.fn fn_slices_Index_string)) (.node (some (.fn fn_strings_trimLeftASCII)) .leaf .leaf) .leaf))) (.node none (.node none (.node (some (.fn fn_filter_shown)) .leaf .leaf) (.node (some (.fn fn_infra_Lower_1)) .leaf .leaf)) (.node (some (.fn fn_headers_Get)) (.node none .leaf (.node (some (.fn fn_utf8_DecodeLastRuneInString)) .leaf .leaf)) .leaf)))))
def tabE : T Ent := (.node none (.node none (.node none (.node none (.node (some e_filter_Own) .leaf .leaf) (.node (some e_keep_SameResponse) (.node (some e_filter_Own_1) .leaf .leaf) (.node (some e_slices_Clone_byte) (.node (some e_strings_trimLeftByte) .leaf .leaf) .leaf))) (.node none (.node (some e_law20_h) (.node (some e_infra_Lower) (.node (some (PrimEnt idxP)) .leaf .leaf) .leaf) (.node none (.node none (.node (some e_bytealg_Cutover) .leaf .leaf) .leaf) .leaf)) (.node (some e_book_Same_Header) (.node (some e_book_Same_byte) .leaf (.node (some e_asciiSet_contains) .leaf .leaf)) (.node none (.node (some e_strings_trimRightASCII) .leaf .leaf) (.node (some e_utf8_decodeRuneInStringSlow) .leaf .leaf))))) (.node none (.node none (.node none .leaf (.node (some (PrimEnt joinP)) .leaf .leaf)) (.node (some e_filter_Hide) (.node (some e_filter_Share_1) .leaf .leaf) (.node (some (PrimEnt namesP)) (.node (some e_strings_makeASCIISet) .leaf .leaf) .leaf))) (.node none (.node none .leaf (.node (some e_infra_mapped) .leaf .leaf)) (.node none (.node none .leaf (.node (some e_strings_ContainsRune) .leaf .leaf)) (.node none (.node (some e_strings_trimRightUnicode) .leaf .leaf) (.node (some e_utf8_RuneStart) .leaf .leaf)))))) (.node none (.node none (.node none (.node (some e_filter_Share) .leaf (.node (some e_headers_is) .leaf .leaf)) (.node (some e_filter_Fail) (.node (some e_cors_Exposed) .leaf .leaf) (.node (some e_headers_Split) (.node (some e_strings_trimRightByte) .leaf .leaf) .leaf))) (.node none (.node none (.node none (.node (some e_strings_Trim) .leaf .leaf) .leaf) (.node (some e_strings_IndexByte) .leaf .leaf)) (.node none (.node none .leaf (.node (some e_utf8_DecodeRuneInString) .leaf .leaf)) (.node none (.node (some e_strings_trimLeftUnicode) .leaf .leaf) (.node (some e_strings_IndexRune) .leaf .leaf))))) (.node (some e_law20_FilterNumbers) (.node none (.node (some e_law20_known) (.node (some e_infra_Token) .leaf .leaf) (.node none (.node none (.node (some e_utf8_ValidRune) .leaf .leaf) .leaf) .leaf)) (.node (some e_filter_HideRedirect) (.node (some e_slices_Contains_string) .leaf .leaf) (.node (some e_slices_Index_string) (.node (some e_strings_trimLeftASCII) .leaf .leaf) .leaf))) (.node none (.node none (.node (some e_filter_shown) .leaf .leaf) (.node (some e_infra_Lower_1) .leaf .leaf)) (.node (some e_headers_Get) (.node none .leaf (.node (some e_utf8_DecodeLastRuneInString) .leaf .leaf)) .leaf)))))
theorem tab_ok (N : Nat) : TabOk tabF.get N (tabOf tabE N) := tabOf_okP (E := tabE) (F := tabF) N fun f e h => T.All_get (t := tabE) (P := fun f e => (∃ fn, tabF.get f = some (.fn fn) ∧ EntOk fn e) ∨ (∃ p, tabF.get f = some (.prim p) ∧ e = PrimEnt p)) (.intro trivial (.intro (.intro trivial (.intro (.intro trivial (.intro (.intro trivial (.intro (.intro (.inl ⟨fn_filter_Own, rfl, e_filter_Own_ok⟩) (.intro trivial trivial)) (.intro (.inl ⟨fn_keep_SameResponse, rfl, e_keep_SameResponse_ok⟩) (.intro (.intro (.inl ⟨fn_filter_Own_1, rfl, e_filter_Own_1_ok⟩) (.intro trivial trivial)) (.intro (.inl ⟨fn_slices_Clone_byte, rfl, e_slices_Clone_byte_ok⟩) (.intro (.intro (.inl ⟨fn_strings_trimLeftByte, rfl, e_strings_trimLeftByte_ok⟩) (.intro trivial trivial)) trivial)))))) (.intro trivial (.intro (.intro (.inl ⟨fn_law20_h, rfl, e_law20_h_ok⟩) (.intro (.intro (.inl ⟨fn_infra_Lower, rfl, e_infra_Lower_ok⟩) (.intro (.intro (.inr ⟨idxP, rfl, rfl⟩) (.intro trivial trivial)) trivial)) (.intro trivial (.intro (.intro trivial (.intro (.intro (.inl ⟨fn_bytealg_Cutover, rfl, e_bytealg_Cutover_ok⟩) (.intro trivial trivial)) trivial)) trivial)))) (.intro (.inl ⟨fn_book_Same_Header, rfl, e_book_Same_Header_ok⟩) (.intro (.intro (.inl ⟨fn_book_Same_byte, rfl, e_book_Same_byte_ok⟩) (.intro trivial (.intro (.inl ⟨fn_asciiSet_contains, rfl, e_asciiSet_contains_ok⟩) (.intro trivial trivial)))) (.intro trivial (.intro (.intro (.inl ⟨fn_strings_trimRightASCII, rfl, e_strings_trimRightASCII_ok⟩) (.intro trivial trivial)) (.intro (.inl ⟨fn_utf8_decodeRuneInStringSlow, rfl, e_utf8_decodeRuneInStringSlow_ok⟩) (.intro trivial trivial)))))))))) (.intro trivial (.intro (.intro trivial (.intro (.intro trivial (.intro trivial (.intro (.inr ⟨joinP, rfl, rfl⟩) (.intro trivial trivial)))) (.intro (.inl ⟨fn_filter_Hide, rfl, e_filter_Hide_ok⟩) (.intro (.intro (.inl ⟨fn_filter_Share_1, rfl, e_filter_Share_1_ok⟩) (.intro trivial trivial)) (.intro (.inr ⟨namesP, rfl, rfl⟩) (.intro (.intro (.inl ⟨fn_strings_makeASCIISet, rfl, e_strings_makeASCIISet_ok⟩) (.intro trivial trivial)) trivial)))))) (.intro trivial (.intro (.intro trivial (.intro trivial (.intro (.inl ⟨fn_infra_mapped, rfl, e_infra_mapped_ok⟩) (.intro trivial trivial)))) (.intro trivial (.intro (.intro trivial (.intro trivial (.intro (.inl ⟨fn_strings_ContainsRune, rfl, e_strings_ContainsRune_ok⟩) (.intro trivial trivial)))) (.intro trivial (.intro (.intro (.inl ⟨fn_strings_trimRightUnicode, rfl, e_strings_trimRightUnicode_ok⟩) (.intro trivial trivial)) (.intro (.inl ⟨fn_utf8_RuneStart, rfl, e_utf8_RuneStart_ok⟩) (.intro trivial trivial)))))))))))) (.intro trivial (.intro (.intro trivial (.intro (.intro trivial (.intro (.intro (.inl ⟨fn_filter_Share, rfl, e_filter_Share_ok⟩) (.intro trivial (.intro (.inl ⟨fn_headers_is, rfl, e_headers_is_ok⟩) (.intro trivial trivial)))) (.intro (.inl ⟨fn_filter_Fail, rfl, e_filter_Fail_ok⟩) (.intro (.intro (.inl ⟨fn_cors_Exposed, rfl, e_cors_Exposed_ok⟩) (.intro trivial trivial)) (.intro (.inl ⟨fn_headers_Split, rfl, e_headers_Split_ok⟩) (.intro (.intro (.inl ⟨fn_strings_trimRightByte, rfl, e_strings_trimRightByte_ok⟩) (.intro trivial trivial)) trivial)))))) (.intro trivial (.intro (.intro trivial (.intro (.intro trivial (.intro (.intro (.inl ⟨fn_strings_Trim, rfl, e_strings_Trim_ok⟩) (.intro trivial trivial)) trivial)) (.intro (.inl ⟨fn_strings_IndexByte, rfl, e_strings_IndexByte_ok⟩) (.intro trivial trivial)))) (.intro trivial (.intro (.intro trivial (.intro trivial (.intro (.inl ⟨fn_utf8_DecodeRuneInString, rfl, e_utf8_DecodeRuneInString_ok⟩) (.intro trivial trivial)))) (.intro trivial (.intro (.intro (.inl ⟨fn_strings_trimLeftUnicode, rfl, e_strings_trimLeftUnicode_ok⟩) (.intro trivial trivial)) (.intro (.inl ⟨fn_strings_IndexRune, rfl, e_strings_IndexRune_ok⟩) (.intro trivial trivial)))))))))) (.intro (.inl ⟨fn_law20_FilterNumbers, rfl, e_law20_FilterNumbers_ok⟩) (.intro (.intro trivial (.intro (.intro (.inl ⟨fn_law20_known, rfl, e_law20_known_ok⟩) (.intro (.intro (.inl ⟨fn_infra_Token, rfl, e_infra_Token_ok⟩) (.intro trivial trivial)) (.intro trivial (.intro (.intro trivial (.intro (.intro (.inl ⟨fn_utf8_ValidRune, rfl, e_utf8_ValidRune_ok⟩) (.intro trivial trivial)) trivial)) trivial)))) (.intro (.inl ⟨fn_filter_HideRedirect, rfl, e_filter_HideRedirect_ok⟩) (.intro (.intro (.inl ⟨fn_slices_Contains_string, rfl, e_slices_Contains_string_ok⟩) (.intro trivial trivial)) (.intro (.inl ⟨fn_slices_Index_string, rfl, e_slices_Index_string_ok⟩) (.intro (.intro (.inl ⟨fn_strings_trimLeftASCII, rfl, e_strings_trimLeftASCII_ok⟩) (.intro trivial trivial)) trivial)))))) (.intro trivial (.intro (.intro trivial (.intro (.intro (.inl ⟨fn_filter_shown, rfl, e_filter_shown_ok⟩) (.intro trivial trivial)) (.intro (.inl ⟨fn_infra_Lower_1, rfl, e_infra_Lower_1_ok⟩) (.intro trivial trivial)))) (.intro (.inl ⟨fn_headers_Get, rfl, e_headers_Get_ok⟩) (.intro (.intro trivial (.intro trivial (.intro (.inl ⟨fn_utf8_DecodeLastRuneInString, rfl, e_utf8_DecodeLastRuneInString_ok⟩) (.intro trivial trivial)))) trivial)))))))))) h
theorem tab_nat (N d : Nat) : CallNat (callK (tabOf tabE N) d) := callK_nat N (fun f e h => T.All_get (t := tabE) (P := fun _ e => EntNat e) (.intro trivial (.intro (.intro trivial (.intro (.intro trivial (.intro (.intro trivial (.intro (.intro e_filter_Own_nat (.intro trivial trivial)) (.intro e_keep_SameResponse_nat (.intro (.intro e_filter_Own_1_nat (.intro trivial trivial)) (.intro e_slices_Clone_byte_nat (.intro (.intro e_strings_trimLeftByte_nat (.intro trivial trivial)) trivial)))))) (.intro trivial (.intro (.intro e_law20_h_nat (.intro (.intro e_infra_Lower_nat (.intro (.intro (PrimEnt_nat idxP) (.intro trivial trivial)) trivial)) (.intro trivial (.intro (.intro trivial (.intro (.intro e_bytealg_Cutover_nat (.intro trivial trivial)) trivial)) trivial)))) (.intro e_book_Same_Header_nat (.intro (.intro e_book_Same_byte_nat (.intro trivial (.intro e_asciiSet_contains_nat (.intro trivial trivial)))) (.intro trivial (.intro (.intro e_strings_trimRightASCII_nat (.intro trivial trivial)) (.intro e_utf8_decodeRuneInStringSlow_nat (.intro trivial trivial)))))))))) (.intro trivial (.intro (.intro trivial (.intro (.intro trivial (.intro trivial (.intro (PrimEnt_nat joinP) (.intro trivial trivial)))) (.intro e_filter_Hide_nat (.intro (.intro e_filter_Share_1_nat (.intro trivial trivial)) (.intro (PrimEnt_nat namesP) (.intro (.intro e_strings_makeASCIISet_nat (.intro trivial trivial)) trivial)))))) (.intro trivial (.intro (.intro trivial (.intro trivial (.intro e_infra_mapped_nat (.intro trivial trivial)))) (.intro trivial (.intro (.intro trivial (.intro trivial (.intro e_strings_ContainsRune_nat (.intro trivial trivial)))) (.intro trivial (.intro (.intro e_strings_trimRightUnicode_nat (.intro trivial trivial)) (.intro e_utf8_RuneStart_nat (.intro trivial trivial)))))))))))) (.intro trivial (.intro (.intro trivial (.intro (.intro trivial (.intro (.intro e_filter_Share_nat (.intro trivial (.intro e_headers_is_nat (.intro trivial trivial)))) (.intro e_filter_Fail_nat (.intro (.intro e_cors_Exposed_nat (.intro trivial trivial)) (.intro e_headers_Split_nat (.intro (.intro e_strings_trimRightByte_nat (.intro trivial trivial)) trivial)))))) (.intro trivial (.intro (.intro trivial (.intro (.intro trivial (.intro (.intro e_strings_Trim_nat (.intro trivial trivial)) trivial)) (.intro e_strings_IndexByte_nat (.intro trivial trivial)))) (.intro trivial (.intro (.intro trivial (.intro trivial (.intro e_utf8_DecodeRuneInString_nat (.intro trivial trivial)))) (.intro trivial (.intro (.intro e_strings_trimLeftUnicode_nat (.intro trivial trivial)) (.intro e_strings_IndexRune_nat (.intro trivial trivial)))))))))) (.intro e_law20_FilterNumbers_nat (.intro (.intro trivial (.intro (.intro e_law20_known_nat (.intro (.intro e_infra_Token_nat (.intro trivial trivial)) (.intro trivial (.intro (.intro trivial (.intro (.intro e_utf8_ValidRune_nat (.intro trivial trivial)) trivial)) trivial)))) (.intro e_filter_HideRedirect_nat (.intro (.intro e_slices_Contains_string_nat (.intro trivial trivial)) (.intro e_slices_Index_string_nat (.intro (.intro e_strings_trimLeftASCII_nat (.intro trivial trivial)) trivial)))))) (.intro trivial (.intro (.intro trivial (.intro (.intro e_filter_shown_nat (.intro trivial trivial)) (.intro e_infra_Lower_1_nat (.intro trivial trivial)))) (.intro e_headers_Get_nat (.intro (.intro trivial (.intro trivial (.intro e_utf8_DecodeLastRuneInString_nat (.intro trivial trivial)))) trivial)))))))))) h) d
end Go.Am.X
