/- The abstract machine, printed functions of the program, and what they are shown to be. -/
import Derived.Test.YtlpedafppdffoaaGreatDoorFSHM5
import Derived.KernelRfl
set_option linter.unusedVariables false
namespace Go.Am.X
set_option maxRecDepth 1000000
abbrev funE (fn : Fun) : Ent := fun call N vs H τ q => funK call N fn vs H τ q
theorem funE_ok (fn : Fun) : EntOk fn (funE fn) := fun _ _ _ _ _ _ _ h => h
theorem funE_nat (fn : Fun) : EntNat (funE fn) := fun _ hn _ _ _ _ _ => funK_ent hn _ _ _ _ _ _
abbrev iR (n : Nat) (o : AOp) (a : List O) : Ins := ⟨some n, none, o, a, none⟩
abbrev iG (n g : Nat) (b : Bool) (o : AOp) (a : List O) : Ins := ⟨some n, some (g, b), o, a, none⟩
abbrev iM (n a : Nat) : Ins := ⟨some n, none, .p .mv, [.t a], none⟩
abbrev iN (n g : Nat) (b : Bool) (a : Nat) : Ins := ⟨some n, some (g, b), .p .mv, [.t a], none⟩
abbrev iC (n : Nat) : O := .c (.int .i64 (.ofNat n))
abbrev iU (n : Nat) : O := .c (.int .u8 (.ofNat n))
abbrev iB (b : BinOp) : AOp := .p (.bin b)
abbrev iK (l : List Nat) (c : C) : C := .keep l c
theorem iA {a b : Prop} (h : a) (k : b) : a ∧ b := ⟨h, k⟩
theorem iT : True := trivial
abbrev f_law20_FilterShows : Nat := 3
abbrev f_keep_Reply : Nat := 9
abbrev f_keep_Few : Nat := 10
abbrev f_keep_CopyReply : Nat := 11
abbrev f_keep_SameResponse : Nat := 12
abbrev f_filter_Own : Nat := 13
abbrev f_ref20_Own : Nat := 14
abbrev f_filter_Share : Nat := 15
abbrev f_ref20_Share : Nat := 16
abbrev f_keep_SameReply : Nat := 17
abbrev f_filter_HideRedirect : Nat := 18
abbrev f_law20_known : Nat := 19
abbrev f_cors_Exposed : Nat := 35
abbrev f_keep_FewHeaders : Nat := 41
abbrev f_ref18_Exposed : Nat := 43
abbrev f_keep_FewBytes : Nat := 46
abbrev f_book_Same_Header : Nat := 47
abbrev f_book_Same_byte : Nat := 48
abbrev f_filter_shown : Nat := 49
abbrev f_filter_Own_1 : Nat := 50
abbrev f_ref20_cookies : Nat := 51
abbrev f_filter_Share_1 : Nat := 52
abbrev f_slices_Contains_string : Nat := 53
abbrev f_ref1_Has : Nat := 54
abbrev f_ref1_Lower : Nat := 55
abbrev f_law20_h : Nat := 56
abbrev f_infra_Lower : Nat := 59
abbrev f_headers_Get : Nat := 60
abbrev f_cors_names : Nat := 71
abbrev f_ref1_Sorted : Nat := 73
abbrev f_headers_Split : Nat := 74
abbrev f_infra_Token : Nat := 75
abbrev f_ref1_Token : Nat := 77
abbrev f_ref5_Split : Nat := 78
abbrev f_ref5_Get : Nat := 79
abbrev f_slices_Clone_byte : Nat := 81
abbrev f_slices_Index_string : Nat := 82
abbrev f_infra_mapped : Nat := 85
abbrev f_infra_Lower_1 : Nat := 86
abbrev f_headers_is : Nat := 87
abbrev f_strings_Join : Nat := 88
abbrev f_strings_Trim : Nat := 110
abbrev f_strings_IndexByte : Nat := 111
abbrev f_ref1_Letter : Nat := 114
abbrev f_ref1_Digit : Nat := 115
abbrev f_ref1_Trim : Nat := 116
abbrev f_ref5_Named : Nat := 117
abbrev f_strings_trimLeftByte : Nat := 138
abbrev f_strings_trimRightByte : Nat := 139
abbrev f_strings_makeASCIISet : Nat := 140
abbrev f_strings_trimLeftASCII : Nat := 141
abbrev f_strings_trimRightASCII : Nat := 142
abbrev f_strings_trimLeftUnicode : Nat := 143
abbrev f_strings_trimRightUnicode : Nat := 144
abbrev f_stringslite_IndexByte : Nat := 145
abbrev f_ref1_ends : Nat := 147
abbrev f_asciiSet_contains : Nat := 171
abbrev f_utf8_DecodeRuneInString : Nat := 172
abbrev f_strings_ContainsRune : Nat := 173
abbrev f_utf8_DecodeLastRuneInString : Nat := 174
abbrev f_bytealg_Cutover : Nat := 190
abbrev f_utf8_decodeRuneInStringSlow : Nat := 193
abbrev f_strings_IndexRune : Nat := 194
abbrev f_utf8_RuneStart : Nat := 195
abbrev f_utf8_ValidRune : Nat := 205
/-- ostiary/ostiarylaw20.FilterShows -/
def fn_law20_FilterShows : Fun := ⟨3,(.seq (.reg [iR 3 (.e .box) [(.t 0)],iR 6 (.p .mv) [(.c (.bool false))]]) (iK [1,2,3] (.seq (.reg [iR 8 (.l (.load (some 3))) [(.t 3)],iR 9 (.call 9) [(.t 8)],⟨none,none,(.e (.store 3)),[(.t 3),(.t 9)],none⟩]) (iK [1,2,3] (.seq (.reg [iM 10 1,iR 11 (.call 10) [(.t 10),(iC 100)],iM 1 11]) (iK [1,2,3] (.seq (.reg [iR 12 (.l (.load (some 3))) [(.t 3)],iR 13 (.call 11) [(.t 12)],iR 7 (.e (.alloc [(.int .i64 (.ofNat 0)),.nils,.nils])) [],⟨none,none,(.e (.store 3)),[(.t 7),(.t 13)],none⟩]) (iK [1,2,3,7] (.seq (.draw [iR 14 (.l (.load (some 3))) [(.t 3)],iM 15 1,iR 16 (.call 13) [(.t 14),(.t 15)],⟨(some 17),none,(.l (.load (some 3))),[(.t 7)],some (0,1)⟩,iM 18 1,iR 19 (.call 14) [(.t 17),(.t 18)],
    iR 20 (.call 12) [(.t 16),(.t 19)],iM 21 20,iG 22 21 true (.l (.load (some 3))) [(.t 3)],iN 23 21 true 1,iN 24 21 true 2,iG 25 21 true (.call 15) [(.t 22),(.t 23),(.t 24)],⟨(some 26),some (21,true),(.l (.load (some 3))),[(.t 7)],some (3,4)⟩,iN 27 21 true 1,iN 28 21 true 2,iG 29 21 true (.call 16) [(.t 26),(.t 27),(.t 28)],iG 30 21 true (.call 12) [(.t 25),(.t 29)],iR 31 (.p .pick) [(.t 21),(.t 30),(.c (.bool false))],iM 32 31,iG 33 32 true (.l (.load (some 3))) [(.t 3)],iG 34 32 true (.l (.load (some 3))) [(.t 7)],iG 35 32 true (.call 17) [(.t 33),(.t 34)],iR 36 (.p .pick) [(.t 32),(.t 35),(.c (.bool false))],iM 37 36,iN 38 37 true 1,iG 39 37 true (.call 18) [(.t 38)],iN 40 37 true 1,
    iG 41 37 true (.p (.build [(.int .i64 (.ofNat 0)),(.int .i64 (.ofNat 0)),.nils,.nils,(.str [])] [(0,1),(4,1)])) [(iC 5),(.t 40)],iG 42 37 true (.call 12) [(.t 39),(.t 41)],iR 43 (.p .pick) [(.t 37),(.t 42),(.c (.bool false))],iM 44 43,iG 45 44 true (.call 19) [],iR 46 (.p .pick) [(.t 44),(.t 45),(.c (.bool false))],iM 6 46]) (iK [6] (iK [6] .ret))))))))))),[(.t 6)]⟩
def s_law20_FilterShows (call : CallK) (N : Nat) (a0 a1 a2 : V) (H : Heap) (τ : Tape) (q : KV) : Ans := effK (eBox [a0] H τ) fun v0 H1 τ2 => someK (lLoadN 3 [v0] H1) fun v3 => call f_keep_Reply [v3] H1 τ2 fun v4 H5 τ6 => effK (eStore 3 [v0,v4] H5 τ6) fun v7 H8 τ9 => call f_keep_Few [a1,(.int .i64 (.ofNat 100))] H8 τ9 fun v10 H11 τ12 => someK (lLoadN 3 [v0] H11) fun v13 => call f_keep_CopyReply [v13] H11 τ12 fun v14 H15 τ16 => effK (eAlloc [(.int .i64 (.ofNat 0)),.nils,.nils] [] H15 τ16) fun v17 H18 τ19 => effK (eStore 3 [v17,v14] H18 τ19) fun v20 H21 τ22 => someK (lLoadN 3 [v0] H21) fun v23 => call f_filter_Own [v23,v10] H21 τ22 fun v24 H25 τ26 => someK (lLoadN 3 [v17] H25) fun v27 => call f_ref20_Own [v27,v10] H25 τ26 fun v28 H29 τ30 => call f_keep_SameResponse [v24,v28] H29 τ30 fun v31 H32 τ33 =>
    gK v31 true (fun q' => someK (lLoadN 3 [v0] H32) fun v => q' v H32 τ33) H32 τ33 fun v34 H35 τ36 => gK v31 true (fun q' => q' v10 H35 τ36) H35 τ36 fun v37 H38 τ39 => gK v31 true (fun q' => q' a2 H38 τ39) H38 τ39 fun v40 H41 τ42 => gK v31 true (fun q' => call f_filter_Share [v34,v37,v40] H41 τ42 q') H41 τ42 fun v43 H44 τ45 => gK v31 true (fun q' => someK (lLoadN 3 [v17] H44) fun v => q' v H44 τ45) H44 τ45 fun v46 H47 τ48 => gK v31 true (fun q' => q' v10 H47 τ48) H47 τ48 fun v49 H50 τ51 => gK v31 true (fun q' => q' a2 H50 τ51) H50 τ51 fun v52 H53 τ54 => gK v31 true (fun q' => call f_ref20_Share [v46,v49,v52] H53 τ54 q') H53 τ54 fun v55 H56 τ57 => gK v31 true (fun q' => call f_keep_SameResponse [v43,v55] H56 τ57 q') H56 τ57 fun v58 H59 τ60 => someK (pPick [v31,v58,(.bool false)]) fun v61 =>
    gK v61 true (fun q' => someK (lLoadN 3 [v0] H59) fun v => q' v H59 τ60) H59 τ60 fun v62 H63 τ64 => gK v61 true (fun q' => someK (lLoadN 3 [v17] H63) fun v => q' v H63 τ64) H63 τ64 fun v65 H66 τ67 => gK v61 true (fun q' => call f_keep_SameReply [v62,v65] H66 τ67 q') H66 τ67 fun v68 H69 τ70 => someK (pPick [v61,v68,(.bool false)]) fun v71 => gK v71 true (fun q' => q' v10 H69 τ70) H69 τ70 fun v72 H73 τ74 => gK v71 true (fun q' => call f_filter_HideRedirect [v72] H73 τ74 q') H73 τ74 fun v75 H76 τ77 => gK v71 true (fun q' => q' v10 H76 τ77) H76 τ77 fun v78 H79 τ80 => gK v71 true (fun q' => someK (pBuild [(.int .i64 (.ofNat 0)),(.int .i64 (.ofNat 0)),.nils,.nils,(.str [])] [(0,1),(4,1)] [(.int .i64 (.ofNat 5)),v78]) fun v => q' v H79 τ80) H79 τ80 fun v81 H82 τ83 => gK v71 true (fun q' => call f_keep_SameResponse [v75,v81] H82 τ83 q') H82 τ83 fun v84 H85 τ86 =>
    someK (pPick [v71,v84,(.bool false)]) fun v87 => gK v87 true (fun q' => call f_law20_known [] H85 τ86 q') H85 τ86 fun v88 H89 τ90 => someK (pPick [v87,v88,(.bool false)]) fun v91 => bif chkLoads [H21,H25,H29,H32,H44,H56,H59,H69,H76,H85,H89] (match wantsV v31 true with | some true => (((.load (some 3)),[v17],3,4) :: (((.load (some 3)),[v17],0,1) :: [])) | _ => (((.load (some 3)),[v17],0,1) :: [])) then q v91 H89 τ90 else none
theorem s_law20_FilterShows_eq (call : CallK) (N : Nat) (a0 a1 a2 : V) (H : Heap) (τ : Tape) (q : KV) : s_law20_FilterShows call N a0 a1 a2 H τ q = funK call N fn_law20_FilterShows [a0, a1, a2] H τ q := by kernel_rfl
def e_law20_FilterShows (call : CallK) (N : Nat) (vs : List V) (H : Heap) (τ : Tape) (q : KV) : Ans := match vs with | [a0, a1, a2] => s_law20_FilterShows call N a0 a1 a2 H τ q | _ => none
theorem e_law20_FilterShows_ok : EntOk fn_law20_FilterShows e_law20_FilterShows := by
  intro call N vs H τ q r h
  unfold e_law20_FilterShows at h
  split at h
  · rw [s_law20_FilterShows_eq] at h; exact h
  · cases h
theorem e_law20_FilterShows_nat : EntNat e_law20_FilterShows := by
  intro c hn N vs H τ q
  unfold e_law20_FilterShows
  split
  · rw [s_law20_FilterShows_eq, s_law20_FilterShows_eq]; exact funK_ent hn _ _ _ _ _ _
  · rfl
/-- ostiary/ostiarykeep.Reply -/
def fn_keep_Reply : Fun := ⟨1,(.seq (.reg [iR 1 (.e .box) [(.t 0)],iR 2 (.e (.alloc [(.int .i64 (.ofNat 0)),.nils,.nils])) []]) (iK [1,2] (.seq (.draw [iR 3 (.p (.fieldAddr 0)) [(.t 1)],⟨(some 4),none,(.l (.load none)),[(.t 3)],some (0,4)⟩,iR 5 (.p (.fieldAddr 1)) [(.t 1)],⟨(some 6),none,(.l (.load none)),[(.t 5)],some (0,1)⟩,iR 7 (.call 41) [(.t 6),(iC 12),(iC 200)],iR 9 (.p (.fieldAddr 2)) [(.t 1)],⟨(some 10),none,(.l (.load none)),[(.t 9)],some (0,2)⟩,iR 11 (.call 46) [(.t 10),(iC 300)],iR 8 (.e (.buildSlice 0 1 [] [])) [],iR 12 (.e (.append 1 1)) [(.t 8),(.t 11)],iR 13 (.p (.build [(.int .i64 (.ofNat 0)),.nils,.nils] [(0,1),(1,1),(2,1)])) [(.t 4),(.t 7),(.t 12)],⟨none,none,(.e (.store 3)),[(.t 2),(.t 13)],none⟩]) (iK [2] (iK [2] .ret))))),[(.cell 2 (some 3))]⟩
def s_keep_Reply (call : CallK) (N : Nat) (a0 : V) (H : Heap) (τ : Tape) (q : KV) : Ans := effK (eBox [a0] H τ) fun v0 H1 τ2 => effK (eAlloc [(.int .i64 (.ofNat 0)),.nils,.nils] [] H1 τ2) fun v3 H4 τ5 => someK (pFieldAddr 0 [v0]) fun v6 => someK (lLoad1 [v6] H4) fun v7 => someK (pFieldAddr 1 [v0]) fun v8 => someK (lLoad1 [v8] H4) fun v9 => call f_keep_FewHeaders [v9,(.int .i64 (.ofNat 12)),(.int .i64 (.ofNat 200))] H4 τ5 fun v10 H11 τ12 => someK (pFieldAddr 2 [v0]) fun v13 => someK (lLoad1 [v13] H11) fun v14 => call f_keep_FewBytes [v14,(.int .i64 (.ofNat 300))] H11 τ12 fun v15 H16 τ17 => effK (eBuildSlice 0 1 [] [] [] H16 τ17) fun v18 H19 τ20 => effK (eAppend 1 1 [v18,v15] H19 τ20) fun v21 H22 τ23 => someK (pBuild [(.int .i64 (.ofNat 0)),.nils,.nils] [(0,1),(1,1),(2,1)] [v7,v10,v21]) fun v24 => effK (eStore 3 [v3,v24] H22 τ23) fun v25 H26 τ27 =>
    bif chkLoads [H4,H11,H16,H19,H22,H26] (((.load none),[v13],0,2) :: (((.load none),[v8],0,1) :: (((.load none),[v6],0,4) :: []))) then someK (results ⟨(T.set .leaf 2 v3),H26⟩ [(.cell 2 (some 3))]) fun v => q v H26 τ27 else none
theorem s_keep_Reply_eq (call : CallK) (N : Nat) (a0 : V) (H : Heap) (τ : Tape) (q : KV) : s_keep_Reply call N a0 H τ q = funK call N fn_keep_Reply [a0] H τ q := by kernel_rfl
def e_keep_Reply (call : CallK) (N : Nat) (vs : List V) (H : Heap) (τ : Tape) (q : KV) : Ans := match vs with | [a0] => s_keep_Reply call N a0 H τ q | _ => none
theorem e_keep_Reply_ok : EntOk fn_keep_Reply e_keep_Reply := by
  intro call N vs H τ q r h
  unfold e_keep_Reply at h
  split at h
  · rw [s_keep_Reply_eq] at h; exact h
  · cases h
theorem e_keep_Reply_nat : EntNat e_keep_Reply := by
  intro c hn N vs H τ q
  unfold e_keep_Reply
  split
  · rw [s_keep_Reply_eq, s_keep_Reply_eq]; exact funK_ent hn _ _ _ _ _ _
  · rfl
/-- ostiary/ostiarykeep.Few -/
def fn_keep_Few : Fun := ⟨2,(.seq (.reg [iR 4 (.p .mv) [(.c (.str []))]]) (iK [0,1] (.seq (.seq (.reg [iM 5 0,iR 6 (.p .lenS) [(.t 5)],iM 7 1,iR 8 (iB .gtr) [(.t 6),(.t 7)]]) (iK [0,1,8] (.cond (.t 8) (.seq (.reg [iM 9 0,iM 10 1,iR 11 (.p (.strSlice false true)) [(.t 9),(.t 10)],iM 4 11]) (iK [4] (iK [4] .ret))) .skip))) (iK [0] (.seq (.reg [iM 12 0,iM 4 12]) (iK [4] (iK [4] .ret))))))),[(.t 4)]⟩
def s_keep_Few (call : CallK) (N : Nat) (a0 a1 : V) (H : Heap) (τ : Tape) (q : KV) : Ans := someK (pLenS [a0]) fun v0 => binK .gtr v0 a1 fun v1 => condK v1 (someK (pStrSlice false true [a0,a1]) fun v2 => q v2 H τ) (q a0 H τ)
theorem s_keep_Few_eq (call : CallK) (N : Nat) (a0 a1 : V) (H : Heap) (τ : Tape) (q : KV) : s_keep_Few call N a0 a1 H τ q = funK call N fn_keep_Few [a0, a1] H τ q := by kernel_rfl
def e_keep_Few (call : CallK) (N : Nat) (vs : List V) (H : Heap) (τ : Tape) (q : KV) : Ans := match vs with | [a0, a1] => s_keep_Few call N a0 a1 H τ q | _ => none
theorem e_keep_Few_ok : EntOk fn_keep_Few e_keep_Few := by
  intro call N vs H τ q r h
  unfold e_keep_Few at h
  split at h
  · rw [s_keep_Few_eq] at h; exact h
  · cases h
theorem e_keep_Few_nat : EntNat e_keep_Few := by
  intro c hn N vs H τ q
  unfold e_keep_Few
  split
  · rw [s_keep_Few_eq, s_keep_Few_eq]; exact funK_ent hn _ _ _ _ _ _
  · rfl
/-- ostiary/ostiarykeep.CopyReply -/
def fn_keep_CopyReply : Fun := ⟨1,(.seq (.reg [iR 1 (.e .box) [(.t 0)],iR 2 (.e (.alloc [(.int .i64 (.ofNat 0)),.nils,.nils])) []]) (iK [1,2] (.seq (.reg [iR 3 (.e (.buildSlice 0 2 [] [])) [],iR 4 (.p (.fieldAddr 1)) [(.t 1)],iR 5 (.l (.load none)) [(.t 4)],iR 6 (.e (.append 2 32)) [(.t 3),(.t 5)],iR 7 (.p (.fieldAddr 1)) [(.t 1)],⟨none,none,(.e (.store 1)),[(.t 7),(.t 6)],none⟩]) (iK [1,2] (.seq (.reg [iR 8 (.e (.buildSlice 0 1 [] [])) [],iR 9 (.p (.fieldAddr 2)) [(.t 1)],iR 10 (.l (.load none)) [(.t 9)],iR 11 (.e (.append 1 1)) [(.t 8),(.t 10)],iR 12 (.p (.fieldAddr 2)) [(.t 1)],⟨none,none,(.e (.store 1)),[(.t 12),(.t 11)],none⟩]) (iK [1,2] (.seq (.reg [iR 13 (.l (.load (some 3))) [(.t 1)],⟨none,none,(.e (.store 3)),[(.t 2),(.t 13)],none⟩]) (iK [2] (iK [2] .ret))))))))),[(.cell 2 (some 3))]⟩
def s_keep_CopyReply (call : CallK) (N : Nat) (a0 : V) (H : Heap) (τ : Tape) (q : KV) : Ans := effK (eBox [a0] H τ) fun v0 H1 τ2 => effK (eAlloc [(.int .i64 (.ofNat 0)),.nils,.nils] [] H1 τ2) fun v3 H4 τ5 => effK (eBuildSlice 0 2 [] [] [] H4 τ5) fun v6 H7 τ8 => someK (pFieldAddr 1 [v0]) fun v9 => someK (lLoad1 [v9] H7) fun v10 => effK (eAppend 2 32 [v6,v10] H7 τ8) fun v11 H12 τ13 => someK (pFieldAddr 1 [v0]) fun v14 => effK (eStore 1 [v14,v11] H12 τ13) fun v15 H16 τ17 => effK (eBuildSlice 0 1 [] [] [] H16 τ17) fun v18 H19 τ20 => someK (pFieldAddr 2 [v0]) fun v21 => someK (lLoad1 [v21] H19) fun v22 => effK (eAppend 1 1 [v18,v22] H19 τ20) fun v23 H24 τ25 => someK (pFieldAddr 2 [v0]) fun v26 => effK (eStore 1 [v26,v23] H24 τ25) fun v27 H28 τ29 => someK (lLoadN 3 [v0] H28) fun v30 => effK (eStore 3 [v3,v30] H28 τ29) fun v31 H32 τ33 =>
    someK (results ⟨(T.set .leaf 2 v3),H32⟩ [(.cell 2 (some 3))]) fun v => q v H32 τ33
theorem s_keep_CopyReply_eq (call : CallK) (N : Nat) (a0 : V) (H : Heap) (τ : Tape) (q : KV) : s_keep_CopyReply call N a0 H τ q = funK call N fn_keep_CopyReply [a0] H τ q := by kernel_rfl
def e_keep_CopyReply (call : CallK) (N : Nat) (vs : List V) (H : Heap) (τ : Tape) (q : KV) : Ans := match vs with | [a0] => s_keep_CopyReply call N a0 H τ q | _ => none
theorem e_keep_CopyReply_ok : EntOk fn_keep_CopyReply e_keep_CopyReply := by
  intro call N vs H τ q r h
  unfold e_keep_CopyReply at h
  split at h
  · rw [s_keep_CopyReply_eq] at h; exact h
  · cases h
theorem e_keep_CopyReply_nat : EntNat e_keep_CopyReply := by
  intro c hn N vs H τ q
  unfold e_keep_CopyReply
  split
  · rw [s_keep_CopyReply_eq, s_keep_CopyReply_eq]; exact funK_ent hn _ _ _ _ _ _
  · rfl
/-- ostiary/ostiarykeep.SameResponse -/
def fn_keep_SameResponse : Fun := ⟨2,(.seq (.reg [iR 2 (.e .box) [(.t 0)],iR 3 (.e .box) [(.t 1)],iR 4 (.p .mv) [(.c (.bool false))]]) (iK [2,3] (.seq (.reg [iR 5 (.p (.fieldAddr 0)) [(.t 2)],iR 6 (.l (.load none)) [(.t 5)],iR 7 (.p (.fieldAddr 0)) [(.t 3)],iR 8 (.l (.load none)) [(.t 7)],iR 9 (iB .eql) [(.t 6),(.t 8)],iM 10 9,iG 11 10 true (.p (.fieldAddr 1)) [(.t 2)],iG 12 10 true (.l (.load none)) [(.t 11)],iG 13 10 true (.p (.fieldAddr 1)) [(.t 3)],iG 14 10 true (.l (.load none)) [(.t 13)],iG 15 10 true (iB .eql) [(.t 12),(.t 14)],iR 16 (.p .pick) [(.t 10),(.t 15),(.c (.bool false))],iM 17 16,iG 18 17 true (.p (.fieldAddr 2)) [(.t 2)],iG 19 17 true (.l (.load none)) [(.t 18)],iG 20 17 true (.p (.fieldAddr 2)) [(.t 3)],iG 21 17 true (.l (.load none)) [(.t 20)],iG 22 17 true (.call 47) [(.t 19),(.t 21)],
    iR 23 (.p .pick) [(.t 17),(.t 22),(.c (.bool false))],iM 24 23,iG 25 24 true (.p (.fieldAddr 3)) [(.t 2)],iG 26 24 true (.l (.load none)) [(.t 25)],iG 27 24 true (.p (.fieldAddr 3)) [(.t 3)],iG 28 24 true (.l (.load none)) [(.t 27)],iG 29 24 true (.call 48) [(.t 26),(.t 28)],iR 30 (.p .pick) [(.t 24),(.t 29),(.c (.bool false))],iM 31 30,iG 32 31 true (.p (.fieldAddr 4)) [(.t 2)],iG 33 31 true (.l (.load none)) [(.t 32)],iG 34 31 true (.p (.fieldAddr 4)) [(.t 3)],iG 35 31 true (.l (.load none)) [(.t 34)],iG 36 31 true (iB .eql) [(.t 33),(.t 35)],iR 37 (.p .pick) [(.t 31),(.t 36),(.c (.bool false))],iM 4 37]) (iK [4] (iK [4] .ret))))),[(.t 4)]⟩
def s_keep_SameResponse (call : CallK) (N : Nat) (a0 a1 : V) (H : Heap) (τ : Tape) (q : KV) : Ans := funK call N fn_keep_SameResponse [a0,a1] H τ q
theorem s_keep_SameResponse_eq (call : CallK) (N : Nat) (a0 a1 : V) (H : Heap) (τ : Tape) (q : KV) : s_keep_SameResponse call N a0 a1 H τ q = funK call N fn_keep_SameResponse [a0, a1] H τ q := by kernel_rfl
def e_keep_SameResponse (call : CallK) (N : Nat) (vs : List V) (H : Heap) (τ : Tape) (q : KV) : Ans := match vs with | [a0, a1] => s_keep_SameResponse call N a0 a1 H τ q | _ => none
theorem e_keep_SameResponse_ok : EntOk fn_keep_SameResponse e_keep_SameResponse := by
  intro call N vs H τ q r h
  unfold e_keep_SameResponse at h
  split at h
  · rw [s_keep_SameResponse_eq] at h; exact h
  · cases h
theorem e_keep_SameResponse_nat : EntNat e_keep_SameResponse := by
  intro c hn N vs H τ q
  unfold e_keep_SameResponse
  split
  · rw [s_keep_SameResponse_eq, s_keep_SameResponse_eq]; exact funK_ent hn _ _ _ _ _ _
  · rfl
/-- ostiary/filter.Own -/
def fn_filter_Own : Fun := ⟨2,(.seq (.reg [iR 2 (.e .box) [(.t 0)],iR 4 (.e (.alloc [(.int .i64 (.ofNat 0)),(.int .i64 (.ofNat 0)),.nils,.nils,(.str [])])) []]) (iK [1,2,4] (.seq (.reg [iR 5 (.l (.load (some 3))) [(.t 2)],iM 6 1,iR 7 (.call 49) [(iC 2),(.t 5),(.t 6),(.c (.func 50 [] []))],⟨none,none,(.e (.store 5)),[(.t 4),(.t 7)],none⟩]) (iK [4] (iK [4] .ret))))),[(.cell 4 (some 5))]⟩
def s_filter_Own (call : CallK) (N : Nat) (a0 a1 : V) (H : Heap) (τ : Tape) (q : KV) : Ans := effK (eBox [a0] H τ) fun v0 H1 τ2 => effK (eAlloc [(.int .i64 (.ofNat 0)),(.int .i64 (.ofNat 0)),.nils,.nils,(.str [])] [] H1 τ2) fun v3 H4 τ5 => someK (lLoadN 3 [v0] H4) fun v6 => call f_filter_shown [(.int .i64 (.ofNat 2)),v6,a1,(.func f_filter_Own_1 [] [])] H4 τ5 fun v7 H8 τ9 => effK (eStore 5 [v3,v7] H8 τ9) fun v10 H11 τ12 => someK (results ⟨(T.set .leaf 4 v3),H11⟩ [(.cell 4 (some 5))]) fun v => q v H11 τ12
theorem s_filter_Own_eq (call : CallK) (N : Nat) (a0 a1 : V) (H : Heap) (τ : Tape) (q : KV) : s_filter_Own call N a0 a1 H τ q = funK call N fn_filter_Own [a0, a1] H τ q := by kernel_rfl
def e_filter_Own (call : CallK) (N : Nat) (vs : List V) (H : Heap) (τ : Tape) (q : KV) : Ans := match vs with | [a0, a1] => s_filter_Own call N a0 a1 H τ q | _ => none
theorem e_filter_Own_ok : EntOk fn_filter_Own e_filter_Own := by
  intro call N vs H τ q r h
  unfold e_filter_Own at h
  split at h
  · rw [s_filter_Own_eq] at h; exact h
  · cases h
theorem e_filter_Own_nat : EntNat e_filter_Own := by
  intro c hn N vs H τ q
  unfold e_filter_Own
  split
  · rw [s_filter_Own_eq, s_filter_Own_eq]; exact funK_ent hn _ _ _ _ _ _
  · rfl
/-- ostiary/ostiaryref20.Own -/
def fn_ref20_Own : Fun := ⟨2,(.seq (.reg [iR 2 (.e .box) [(.t 0)],iR 4 (.e (.alloc [(.int .i64 (.ofNat 0)),(.int .i64 (.ofNat 0)),.nils,.nils,(.str [])])) []]) (iK [1,2,4] (.seq (.draw [iR 7 (.p (.fieldAddr 0)) [(.t 2)],⟨(some 8),none,(.l (.load none)),[(.t 7)],some (0,3)⟩,iR 9 (.e (.buildSlice 0 1 [] [])) [],iR 10 (.p (.fieldAddr 2)) [(.t 2)],⟨(some 11),none,(.l (.load none)),[(.t 10)],some (0,2)⟩,iR 12 (.e (.append 1 1)) [(.t 9),(.t 11)],iM 13 1,iR 14 (.p (.build [(.int .i64 (.ofNat 0)),(.int .i64 (.ofNat 0)),.nils,.nils,(.str [])] [(0,1),(1,1),(3,1),(4,1)])) [(iC 2),(.t 8),(.t 12),(.t 13)],iR 5 (.e (.alloc [(.int .i64 (.ofNat 0)),(.int .i64 (.ofNat 0)),.nils,.nils,(.str [])])) [],⟨none,none,(.e (.store 5)),[(.t 5),(.t 14)],none⟩])
    (iK [2,4,5] (.seq (.seq (.reg [iR 6 (.p .mv) [(iC 0)]]) (iK [2,4,5,6] (.block 0 (.loop (iK [2,4,5,6] (.seq (.seq (.reg [iM 15 6,iR 16 (.p (.fieldAddr 1)) [(.t 2)],iR 17 (.l (.load none)) [(.t 16)],iR 18 (.p .len) [(.t 17)],iR 19 (iB .lss) [(.t 15),(.t 18)]]) (iK [2,4,5,6,19] (.cond (.t 19) .skip (iK [4,5] (.exit 0))))) (iK [2,4,5,6] (.seq (.block 1 (.seq (.reg [iR 22 (.p (.fieldAddr 1)) [(.t 2)],iR 23 (.l (.load none)) [(.t 22)],iM 24 6,iR 25 (.p (.slIdx 2)) [(.t 23),(.t 24)],iR 26 (.l (.load (some 2))) [(.t 25)],iR 27 (.call 51) [(.t 26)],iR 28 (.p (.un .not)) [(.t 27)]]) (iK [2,4,5,6,28] (.cond (.t 28) (.draw [iR 29 (.p (.fieldAddr 2)) [(.t 5)],⟨(some 30),none,(.l (.load none)),[(.t 29)],some (0,1)⟩,iR 31 (.p (.fieldAddr 1)) [(.t 2)],
    iR 32 (.l (.load none)) [(.t 31)],iM 33 6,iR 34 (.p (.slIdx 2)) [(.t 32),(.t 33)],iR 35 (.l (.load (some 2))) [(.t 34)],iR 36 (.e (.buildSlice 1 2 [(.str []),(.str [])] [(0,2)])) [(.t 35)],iR 37 (.e (.append 2 32)) [(.t 30),(.t 36)],iR 38 (.p (.fieldAddr 2)) [(.t 5)],⟨none,none,(.e (.store 1)),[(.t 38),(.t 37)],none⟩]) .skip)))) (iK [2,4,5,6] (.reg [iM 20 6,iR 21 (iB .add) [(.t 20),(iC 1)],iM 6 21])))))))))) (iK [4,5] (.seq (.reg [iR 39 (.l (.load (some 5))) [(.t 5)],⟨none,none,(.e (.store 5)),[(.t 4),(.t 39)],none⟩]) (iK [4] (iK [4] .ret))))))))),[(.cell 4 (some 5))]⟩
def s_ref20_Own_j0 (call : CallK) (N : Nat) (q : KV) (st : St) (τ : Tape) : Ans := match st with
  | ⟨fr,H⟩ => getK fr 4 fun t4 => getK fr 5 fun t5 => someK (lLoadN 5 [t5] H) fun v23 => effK (eStore 5 [t4,v23] H τ) fun v24 H25 τ26 => someK (results ⟨(T.set .leaf 4 t4),H25⟩ [(.cell 4 (some 5))]) fun v => q v H25 τ26
def s_ref20_Own_j2 (call : CallK) (N : Nat) (k : KC) (st : St) (τ : Tape) : Ans := match st with
  | ⟨fr,H⟩ => getK fr 2 fun t2 => getK fr 4 fun t4 => getK fr 5 fun t5 => getK fr 6 fun t6 => binK .add t6 (.int .i64 (.ofNat 1)) fun v31 => k .normal ⟨(T.set (T.set (T.set (T.set (T.set (T.set (T.set .leaf 2 t2) 4 t4) 5 t5) 6 t6) 20 t6) 21 v31) 6 v31),H⟩ τ
def s_ref20_Own_l1 (call : CallK) (N : Nat) (st : St) (τ : Tape) (k : KC) : Ans := match st with
  | ⟨fr,H⟩ => getK fr 2 fun t2 => getK fr 4 fun t4 => getK fr 5 fun t5 => getK fr 6 fun t6 => someK (pFieldAddr 1 [t2]) fun v27 => someK (lLoad1 [v27] H) fun v28 => someK (pLen [v28]) fun v29 => binK .lss t6 v29 fun v30 => condK v30 (someK (pFieldAddr 1 [t2]) fun v32 => someK (lLoad1 [v32] H) fun v33 => someK (pSlIdx 2 [v33,t6]) fun v34 => someK (lLoadN 2 [v34] H) fun v35 => call f_ref20_cookies [v35] H τ fun v36 H37 τ38 => unK .not v36 fun v39 => condK v39 (someK (pFieldAddr 2 [t5]) fun v40 => someK (lLoad1 [v40] H37) fun v41 => someK (pFieldAddr 1 [t2]) fun v42 => someK (lLoad1 [v42] H37) fun v43 => someK (pSlIdx 2 [v43,t6]) fun v44 => someK (lLoadN 2 [v44] H37) fun v45 => effK (eBuildSlice 1 2 [(.str []),(.str [])] [(0,2)] [v45] H37 τ38) fun v46 H47 τ48 => effK (eAppend 2 32 [v41,v46] H47 τ48) fun v49 H50 τ51 => someK (pFieldAddr 2 [t5]) fun v52 =>
    effK (eStore 1 [v52,v49] H50 τ51) fun v53 H54 τ55 => bif chkLoads [H37,H47,H50,H54] (((.load none),[v40],0,1) :: []) then s_ref20_Own_j2 call N k ⟨(T.set (T.set (T.set (T.set (T.set (T.set (T.set (T.set (T.set (T.set (T.set (T.set (T.set (T.set (T.set .leaf 2 t2) 4 t4) 5 t5) 6 t6) 28 v39) 29 v40) 30 v41) 31 v42) 32 v43) 33 t6) 34 v44) 35 v45) 36 v46) 37 v49) 38 v52),H54⟩ τ55 else none) (s_ref20_Own_j2 call N k ⟨(T.set (T.set (T.set (T.set (T.set .leaf 2 t2) 4 t4) 5 t5) 6 t6) 28 v39),H37⟩ τ38)) (k (.exit 0) ⟨(T.set (T.set .leaf 4 t4) 5 t5),H⟩ τ)
def s_ref20_Own (call : CallK) (N : Nat) (a0 a1 : V) (H : Heap) (τ : Tape) (q : KV) : Ans := effK (eBox [a0] H τ) fun v0 H1 τ2 => effK (eAlloc [(.int .i64 (.ofNat 0)),(.int .i64 (.ofNat 0)),.nils,.nils,(.str [])] [] H1 τ2) fun v3 H4 τ5 => someK (pFieldAddr 0 [v0]) fun v6 => someK (lLoad1 [v6] H4) fun v7 => effK (eBuildSlice 0 1 [] [] [] H4 τ5) fun v8 H9 τ10 => someK (pFieldAddr 2 [v0]) fun v11 => someK (lLoad1 [v11] H9) fun v12 => effK (eAppend 1 1 [v8,v12] H9 τ10) fun v13 H14 τ15 => someK (pBuild [(.int .i64 (.ofNat 0)),(.int .i64 (.ofNat 0)),.nils,.nils,(.str [])] [(0,1),(1,1),(3,1),(4,1)] [(.int .i64 (.ofNat 2)),v7,v13,a1]) fun v16 => effK (eAlloc [(.int .i64 (.ofNat 0)),(.int .i64 (.ofNat 0)),.nils,.nils,(.str [])] [] H14 τ15) fun v17 H18 τ19 => effK (eStore 5 [v17,v16] H18 τ19) fun v20 H21 τ22 =>
    bif chkLoads [H4,H9,H14,H18,H21] (((.load none),[v11],0,2) :: (((.load none),[v6],0,3) :: [])) then loopK (s_ref20_Own_l1 call N) N ⟨(T.set (T.set (T.set (T.set .leaf 2 v0) 4 v3) 5 v17) 6 (.int .i64 (.ofNat 0))),H21⟩ τ22 (blockK 0 (seqK (s_ref20_Own_j0 call N q) (endK [(.cell 4 (some 5))] q))) else none
theorem s_ref20_Own_eq (call : CallK) (N : Nat) (a0 a1 : V) (H : Heap) (τ : Tape) (q : KV) : s_ref20_Own call N a0 a1 H τ q = funK call N fn_ref20_Own [a0, a1] H τ q := by kernel_rfl
def e_ref20_Own (call : CallK) (N : Nat) (vs : List V) (H : Heap) (τ : Tape) (q : KV) : Ans := match vs with | [a0, a1] => s_ref20_Own call N a0 a1 H τ q | _ => none
theorem e_ref20_Own_ok : EntOk fn_ref20_Own e_ref20_Own := by
  intro call N vs H τ q r h
  unfold e_ref20_Own at h
  split at h
  · rw [s_ref20_Own_eq] at h; exact h
  · cases h
theorem e_ref20_Own_nat : EntNat e_ref20_Own := by
  intro c hn N vs H τ q
  unfold e_ref20_Own
  split
  · rw [s_ref20_Own_eq, s_ref20_Own_eq]; exact funK_ent hn _ _ _ _ _ _
  · rfl
/-- ostiary/filter.Share -/
def fn_filter_Share : Fun := ⟨3,(.seq (.reg [iR 3 (.e .box) [(.t 0)],iR 6 (.e (.alloc [(.int .i64 (.ofNat 0)),(.int .i64 (.ofNat 0)),.nils,.nils,(.str [])])) []]) (iK [1,2,3,6] (.seq (.reg [iR 10 (.p (.fieldAddr 1)) [(.t 3)],iR 11 (.l (.load none)) [(.t 10)],iM 12 2,iR 13 (.call 35) [(.t 11),(.t 12)],iM 9 13,iR 14 (.p (.extract 0)) [(.t 9)],iR 15 (.p (.extract 1)) [(.t 9)],iR 7 (.e (.alloc [.nils])) [],iR 8 (.e (.alloc [(.bool false)])) [],⟨none,none,(.e (.store 1)),[(.t 7),(.t 14)],none⟩,⟨none,none,(.e (.store 1)),[(.t 8),(.t 15)],none⟩]) (iK [1,3,6,7,8] (.seq (.reg [iR 16 (.l (.load (some 3))) [(.t 3)],iM 17 1,iR 18 (.p (.mkFunc 52 0)) [(.t 8),(.t 7)],iR 19 (.call 49) [(iC 3),(.t 16),(.t 17),(.t 18)],⟨none,none,(.e (.store 5)),[(.t 6),(.t 19)],none⟩])
    (iK [6] (iK [6] .ret))))))),[(.cell 6 (some 5))]⟩
def s_filter_Share (call : CallK) (N : Nat) (a0 a1 a2 : V) (H : Heap) (τ : Tape) (q : KV) : Ans := effK (eBox [a0] H τ) fun v0 H1 τ2 => effK (eAlloc [(.int .i64 (.ofNat 0)),(.int .i64 (.ofNat 0)),.nils,.nils,(.str [])] [] H1 τ2) fun v3 H4 τ5 => someK (pFieldAddr 1 [v0]) fun v6 => someK (lLoad1 [v6] H4) fun v7 => call f_cors_Exposed [v7,a2] H4 τ5 fun v8 H9 τ10 => someK (pExtract 0 [v8]) fun v11 => someK (pExtract 1 [v8]) fun v12 => effK (eAlloc [.nils] [] H9 τ10) fun v13 H14 τ15 => effK (eAlloc [(.bool false)] [] H14 τ15) fun v16 H17 τ18 => effK (eStore 1 [v13,v11] H17 τ18) fun v19 H20 τ21 => effK (eStore 1 [v16,v12] H20 τ21) fun v22 H23 τ24 => someK (lLoadN 3 [v0] H23) fun v25 => someK (some (V.func f_filter_Share_1 (List.take 0 [v16,v13]) (List.drop 0 [v16,v13]))) fun v26 => call f_filter_shown [(.int .i64 (.ofNat 3)),v25,a1,v26] H23 τ24 fun v27 H28 τ29 =>
    effK (eStore 5 [v3,v27] H28 τ29) fun v30 H31 τ32 => someK (results ⟨(T.set .leaf 6 v3),H31⟩ [(.cell 6 (some 5))]) fun v => q v H31 τ32
theorem s_filter_Share_eq (call : CallK) (N : Nat) (a0 a1 a2 : V) (H : Heap) (τ : Tape) (q : KV) : s_filter_Share call N a0 a1 a2 H τ q = funK call N fn_filter_Share [a0, a1, a2] H τ q := by kernel_rfl
def e_filter_Share (call : CallK) (N : Nat) (vs : List V) (H : Heap) (τ : Tape) (q : KV) : Ans := match vs with | [a0, a1, a2] => s_filter_Share call N a0 a1 a2 H τ q | _ => none
theorem e_filter_Share_ok : EntOk fn_filter_Share e_filter_Share := by
  intro call N vs H τ q r h
  unfold e_filter_Share at h
  split at h
  · rw [s_filter_Share_eq] at h; exact h
  · cases h
theorem e_filter_Share_nat : EntNat e_filter_Share := by
  intro c hn N vs H τ q
  unfold e_filter_Share
  split
  · rw [s_filter_Share_eq, s_filter_Share_eq]; exact funK_ent hn _ _ _ _ _ _
  · rfl
/-- ostiary/ostiaryref20.Share -/
def fn_ref20_Share : Fun := ⟨3,(.seq (.reg [iR 3 (.e .box) [(.t 0)],iR 6 (.e (.alloc [(.int .i64 (.ofNat 0)),(.int .i64 (.ofNat 0)),.nils,.nils,(.str [])])) []]) (iK [1,2,3,6] (.seq (.reg [iR 12 (.l (.load (some 3))) [(.t 3)],iM 13 1,iR 14 (.call 14) [(.t 12),(.t 13)],iR 7 (.e (.alloc [(.int .i64 (.ofNat 0)),(.int .i64 (.ofNat 0)),.nils,.nils,(.str [])])) [],⟨none,none,(.e (.store 5)),[(.t 7),(.t 14)],none⟩]) (iK [2,3,6,7] (.seq (.reg [iR 15 (.p (.fieldAddr 0)) [(.t 7)],⟨none,none,(.e (.store 1)),[(.t 15),(iC 3)],none⟩]) (iK [2,3,6,7] (.seq (.reg [iR 16 (.p (.fieldAddr 2)) [(.t 7)],iR 17 (.l (.load none)) [(.t 16)],iM 8 17]) (iK [2,3,6,7,8] (.seq (.reg [iR 18 (.p (.fieldAddr 2)) [(.t 7)],⟨none,none,(.e (.store 1)),[(.t 18),(.c .nils)],none⟩])
    (iK [2,3,6,7,8] (.seq (.reg [iR 20 (.p (.fieldAddr 1)) [(.t 3)],iR 21 (.l (.load none)) [(.t 20)],iM 22 2,iR 23 (.call 43) [(.t 21),(.t 22)],iM 19 23,iR 24 (.p (.extract 0)) [(.t 19)],iR 25 (.p (.extract 1)) [(.t 19)],iM 9 24,iM 10 25]) (iK [6,7,8,9,10] (.seq (.reg [iM 26 9,
    iR 27 (.e (.buildSlice 7 1 (repl 7 [(.str [])]) [(0,1),(1,1),(2,1),(3,1),(4,1),(5,1),(6,1)])) [(.c (.str (bs [99,97,99,104,101,45,99,111,110,116,114,111,108]))),(.c (.str (bs [99,111,110,116,101,110,116,45,108,97,110,103,117,97,103,101]))),(.c (.str (bs [99,111,110,116,101,110,116,45,108,101,110,103,116,104]))),(.c (.str (bs [99,111,110,116,101,110,116,45,116,121,112,101]))),(.c (.str (bs [101,120,112,105,114,101,115]))),(.c (.str (bs [108,97,115,116,45,109,111,100,105,102,105,101,100]))),(.c (.str (bs [112,114,97,103,109,97])))],iR 28 (.e (.append 1 16)) [(.t 26),(.t 27)],iM 9 28]) (iK [6,7,8,9,10] (.seq (.seq (.reg [iR 11 (.p .mv) [(iC 0)]]) (iK [6,7,8,9,10,11] (.block 0 (.loop
    (iK [6,7,8,9,10,11] (.seq (.seq (.reg [iM 29 11,iM 30 8,iR 31 (.p .len) [(.t 30)],iR 32 (iB .lss) [(.t 29),(.t 31)]]) (iK [6,7,8,9,10,11,32] (.cond (.t 32) .skip (iK [6,7] (.exit 0))))) (iK [6,7,8,9,10,11] (.seq (.block 1 (.seq (.reg [iM 35 10,iM 36 35,iN 37 36 false 9,iN 38 36 false 8,iN 39 36 false 11,iG 40 36 false (.p (.slIdx 2)) [(.t 38),(.t 39)],iG 41 36 false (.p (.fieldAddr 0)) [(.t 40)],iG 42 36 false (.l (.load none)) [(.t 41)],iG 43 36 false (.call 55) [(.t 42)],iG 44 36 false (.call 54) [(.t 37),(.t 43)],iR 45 (.p .pick) [(.t 36),(.c (.bool true)),(.t 44)]]) (iK [6,7,8,9,10,11,45] (.cond (.t 45) (.draw [iR 46 (.p (.fieldAddr 2)) [(.t 7)],
    ⟨(some 47),none,(.l (.load none)),[(.t 46)],some (0,1)⟩,iM 48 8,iM 49 11,iR 50 (.p (.slIdx 2)) [(.t 48),(.t 49)],iR 51 (.l (.load (some 2))) [(.t 50)],iR 52 (.e (.buildSlice 1 2 [(.str []),(.str [])] [(0,2)])) [(.t 51)],iR 53 (.e (.append 2 32)) [(.t 47),(.t 52)],iR 54 (.p (.fieldAddr 2)) [(.t 7)],⟨none,none,(.e (.store 1)),[(.t 54),(.t 53)],none⟩]) .skip)))) (iK [6,7,8,9,10,11] (.reg [iM 33 11,iR 34 (iB .add) [(.t 33),(iC 1)],iM 11 34])))))))))) (iK [6,7] (.seq (.reg [iR 55 (.l (.load (some 5))) [(.t 7)],⟨none,none,(.e (.store 5)),[(.t 6),(.t 55)],none⟩]) (iK [6] (iK [6] .ret))))))))))))))))))),[(.cell 6 (some 5))]⟩
def s_ref20_Share_j0 (call : CallK) (N : Nat) (q : KV) (st : St) (τ : Tape) : Ans := match st with
  | ⟨fr,H⟩ => getK fr 6 fun t6 => getK fr 7 fun t7 => someK (lLoadN 5 [t7] H) fun v39 => effK (eStore 5 [t6,v39] H τ) fun v40 H41 τ42 => someK (results ⟨(T.set .leaf 6 t6),H41⟩ [(.cell 6 (some 5))]) fun v => q v H41 τ42
def s_ref20_Share_j2 (call : CallK) (N : Nat) (k : KC) (st : St) (τ : Tape) : Ans := match st with
  | ⟨fr,H⟩ => getK fr 6 fun t6 => getK fr 7 fun t7 => getK fr 8 fun t8 => getK fr 9 fun t9 => getK fr 10 fun t10 => getK fr 11 fun t11 => binK .add t11 (.int .i64 (.ofNat 1)) fun v45 => k .normal ⟨(T.set (T.set (T.set (T.set (T.set (T.set (T.set (T.set (T.set .leaf 6 t6) 7 t7) 8 t8) 9 t9) 10 t10) 11 t11) 33 t11) 34 v45) 11 v45),H⟩ τ
def s_ref20_Share_l1 (call : CallK) (N : Nat) (st : St) (τ : Tape) (k : KC) : Ans := match st with
  | ⟨fr,H⟩ => getK fr 6 fun t6 => getK fr 7 fun t7 => getK fr 8 fun t8 => getK fr 9 fun t9 => getK fr 10 fun t10 => getK fr 11 fun t11 => someK (pLen [t8]) fun v43 => binK .lss t11 v43 fun v44 => condK v44 (gK t10 false (fun q' => q' t9 H τ) H τ fun v46 H47 τ48 => gK t10 false (fun q' => q' t8 H47 τ48) H47 τ48 fun v49 H50 τ51 => gK t10 false (fun q' => q' t11 H50 τ51) H50 τ51 fun v52 H53 τ54 => gK t10 false (fun q' => someK (pSlIdx 2 [v49,v52]) fun v => q' v H53 τ54) H53 τ54 fun v55 H56 τ57 => gK t10 false (fun q' => someK (pFieldAddr 0 [v55]) fun v => q' v H56 τ57) H56 τ57 fun v58 H59 τ60 => gK t10 false (fun q' => someK (lLoad1 [v58] H59) fun v => q' v H59 τ60) H59 τ60 fun v61 H62 τ63 => gK t10 false (fun q' => call f_ref1_Lower [v61] H62 τ63 q') H62 τ63 fun v64 H65 τ66 => gK t10 false (fun q' => call f_ref1_Has [v46,v64] H65 τ66 q') H65 τ66 fun v67 H68 τ69 =>
    someK (pPick [t10,(.bool true),v67]) fun v70 => condK v70 (someK (pFieldAddr 2 [t7]) fun v71 => someK (lLoad1 [v71] H68) fun v72 => someK (pSlIdx 2 [t8,t11]) fun v73 => someK (lLoadN 2 [v73] H68) fun v74 => effK (eBuildSlice 1 2 [(.str []),(.str [])] [(0,2)] [v74] H68 τ69) fun v75 H76 τ77 => effK (eAppend 2 32 [v72,v75] H76 τ77) fun v78 H79 τ80 => someK (pFieldAddr 2 [t7]) fun v81 => effK (eStore 1 [v81,v78] H79 τ80) fun v82 H83 τ84 => bif chkLoads [H68,H76,H79,H83] (((.load none),[v71],0,1) :: []) then s_ref20_Share_j2 call N k ⟨(T.set (T.set (T.set (T.set (T.set (T.set (T.set (T.set (T.set (T.set (T.set (T.set (T.set (T.set (T.set (T.set .leaf 6 t6) 7 t7) 8 t8) 9 t9) 10 t10) 11 t11) 45 v70) 46 v71) 47 v72) 48 t8) 49 t11) 50 v73) 51 v74) 52 v75) 53 v78) 54 v81),H83⟩ τ84 else none)
    (s_ref20_Share_j2 call N k ⟨(T.set (T.set (T.set (T.set (T.set (T.set (T.set .leaf 6 t6) 7 t7) 8 t8) 9 t9) 10 t10) 11 t11) 45 v70),H68⟩ τ69)) (k (.exit 0) ⟨(T.set (T.set .leaf 6 t6) 7 t7),H⟩ τ)
def s_ref20_Share (call : CallK) (N : Nat) (a0 a1 a2 : V) (H : Heap) (τ : Tape) (q : KV) : Ans := effK (eBox [a0] H τ) fun v0 H1 τ2 => effK (eAlloc [(.int .i64 (.ofNat 0)),(.int .i64 (.ofNat 0)),.nils,.nils,(.str [])] [] H1 τ2) fun v3 H4 τ5 => someK (lLoadN 3 [v0] H4) fun v6 => call f_ref20_Own [v6,a1] H4 τ5 fun v7 H8 τ9 => effK (eAlloc [(.int .i64 (.ofNat 0)),(.int .i64 (.ofNat 0)),.nils,.nils,(.str [])] [] H8 τ9) fun v10 H11 τ12 => effK (eStore 5 [v10,v7] H11 τ12) fun v13 H14 τ15 => someK (pFieldAddr 0 [v10]) fun v16 => effK (eStore 1 [v16,(.int .i64 (.ofNat 3))] H14 τ15) fun v17 H18 τ19 => someK (pFieldAddr 2 [v10]) fun v20 => someK (lLoad1 [v20] H18) fun v21 => someK (pFieldAddr 2 [v10]) fun v22 => effK (eStore 1 [v22,.nils] H18 τ19) fun v23 H24 τ25 => someK (pFieldAddr 1 [v0]) fun v26 => someK (lLoad1 [v26] H24) fun v27 =>
    call f_ref18_Exposed [v27,a2] H24 τ25 fun v28 H29 τ30 => someK (pExtract 0 [v28]) fun v31 => someK (pExtract 1 [v28]) fun v32 => effK (eBuildSlice 7 1 (repl 7 [(.str [])]) [(0,1),(1,1),(2,1),(3,1),(4,1),(5,1),(6,1)] [(.str (bs [99,97,99,104,101,45,99,111,110,116,114,111,108])),(.str (bs [99,111,110,116,101,110,116,45,108,97,110,103,117,97,103,101])),(.str (bs [99,111,110,116,101,110,116,45,108,101,110,103,116,104])),(.str (bs [99,111,110,116,101,110,116,45,116,121,112,101])),(.str (bs [101,120,112,105,114,101,115])),(.str (bs [108,97,115,116,45,109,111,100,105,102,105,101,100])),(.str (bs [112,114,97,103,109,97]))] H29 τ30) fun v33 H34 τ35 => effK (eAppend 1 16 [v31,v33] H34 τ35) fun v36 H37 τ38 =>
    loopK (s_ref20_Share_l1 call N) N ⟨(T.set (T.set (T.set (T.set (T.set (T.set .leaf 6 v3) 7 v10) 8 v21) 9 v36) 10 v32) 11 (.int .i64 (.ofNat 0))),H37⟩ τ38 (blockK 0 (seqK (s_ref20_Share_j0 call N q) (endK [(.cell 6 (some 5))] q)))
theorem s_ref20_Share_eq (call : CallK) (N : Nat) (a0 a1 a2 : V) (H : Heap) (τ : Tape) (q : KV) : s_ref20_Share call N a0 a1 a2 H τ q = funK call N fn_ref20_Share [a0, a1, a2] H τ q := by kernel_rfl
def e_ref20_Share (call : CallK) (N : Nat) (vs : List V) (H : Heap) (τ : Tape) (q : KV) : Ans := match vs with | [a0, a1, a2] => s_ref20_Share call N a0 a1 a2 H τ q | _ => none
theorem e_ref20_Share_ok : EntOk fn_ref20_Share e_ref20_Share := by
  intro call N vs H τ q r h
  unfold e_ref20_Share at h
  split at h
  · rw [s_ref20_Share_eq] at h; exact h
  · cases h
theorem e_ref20_Share_nat : EntNat e_ref20_Share := by
  intro c hn N vs H τ q
  unfold e_ref20_Share
  split
  · rw [s_ref20_Share_eq, s_ref20_Share_eq]; exact funK_ent hn _ _ _ _ _ _
  · rfl
/-- ostiary/ostiarykeep.SameReply -/
def fn_keep_SameReply : Fun := ⟨2,(.seq (.reg [iR 2 (.e .box) [(.t 0)],iR 3 (.e .box) [(.t 1)],iR 4 (.p .mv) [(.c (.bool false))]]) (iK [2,3] (.seq (.reg [iR 5 (.p (.fieldAddr 0)) [(.t 2)],iR 6 (.l (.load none)) [(.t 5)],iR 7 (.p (.fieldAddr 0)) [(.t 3)],iR 8 (.l (.load none)) [(.t 7)],iR 9 (iB .eql) [(.t 6),(.t 8)],iM 10 9,iG 11 10 true (.p (.fieldAddr 1)) [(.t 2)],iG 12 10 true (.l (.load none)) [(.t 11)],iG 13 10 true (.p (.fieldAddr 1)) [(.t 3)],iG 14 10 true (.l (.load none)) [(.t 13)],iG 15 10 true (.call 47) [(.t 12),(.t 14)],iR 16 (.p .pick) [(.t 10),(.t 15),(.c (.bool false))],iM 17 16,iG 18 17 true (.p (.fieldAddr 2)) [(.t 2)],iG 19 17 true (.l (.load none)) [(.t 18)],iG 20 17 true (.p (.fieldAddr 2)) [(.t 3)],iG 21 17 true (.l (.load none)) [(.t 20)],iG 22 17 true (.call 48) [(.t 19),(.t 21)],
    iR 23 (.p .pick) [(.t 17),(.t 22),(.c (.bool false))],iM 4 23]) (iK [4] (iK [4] .ret))))),[(.t 4)]⟩
def s_keep_SameReply (call : CallK) (N : Nat) (a0 a1 : V) (H : Heap) (τ : Tape) (q : KV) : Ans := funK call N fn_keep_SameReply [a0,a1] H τ q
theorem s_keep_SameReply_eq (call : CallK) (N : Nat) (a0 a1 : V) (H : Heap) (τ : Tape) (q : KV) : s_keep_SameReply call N a0 a1 H τ q = funK call N fn_keep_SameReply [a0, a1] H τ q := by kernel_rfl
def e_keep_SameReply (call : CallK) (N : Nat) (vs : List V) (H : Heap) (τ : Tape) (q : KV) : Ans := match vs with | [a0, a1] => s_keep_SameReply call N a0 a1 H τ q | _ => none
theorem e_keep_SameReply_ok : EntOk fn_keep_SameReply e_keep_SameReply := by
  intro call N vs H τ q r h
  unfold e_keep_SameReply at h
  split at h
  · rw [s_keep_SameReply_eq] at h; exact h
  · cases h
theorem e_keep_SameReply_nat : EntNat e_keep_SameReply := by
  intro c hn N vs H τ q
  unfold e_keep_SameReply
  split
  · rw [s_keep_SameReply_eq, s_keep_SameReply_eq]; exact funK_ent hn _ _ _ _ _ _
  · rfl
/-- ostiary/filter.HideRedirect -/
def fn_filter_HideRedirect : Fun := ⟨1,(.seq (.reg [iR 2 (.e (.alloc [(.int .i64 (.ofNat 0)),(.int .i64 (.ofNat 0)),.nils,.nils,(.str [])])) []]) (iK [0,2] (.seq (.reg [iM 3 0,iR 4 (.p (.build [(.int .i64 (.ofNat 0)),(.int .i64 (.ofNat 0)),.nils,.nils,(.str [])] [(0,1),(4,1)])) [(iC 5),(.t 3)],⟨none,none,(.e (.store 5)),[(.t 2),(.t 4)],none⟩]) (iK [2] (iK [2] .ret))))),[(.cell 2 (some 5))]⟩
def s_filter_HideRedirect (call : CallK) (N : Nat) (a0 : V) (H : Heap) (τ : Tape) (q : KV) : Ans := effK (eAlloc [(.int .i64 (.ofNat 0)),(.int .i64 (.ofNat 0)),.nils,.nils,(.str [])] [] H τ) fun v0 H1 τ2 => someK (pBuild [(.int .i64 (.ofNat 0)),(.int .i64 (.ofNat 0)),.nils,.nils,(.str [])] [(0,1),(4,1)] [(.int .i64 (.ofNat 5)),a0]) fun v3 => effK (eStore 5 [v0,v3] H1 τ2) fun v4 H5 τ6 => someK (results ⟨(T.set .leaf 2 v0),H5⟩ [(.cell 2 (some 5))]) fun v => q v H5 τ6
theorem s_filter_HideRedirect_eq (call : CallK) (N : Nat) (a0 : V) (H : Heap) (τ : Tape) (q : KV) : s_filter_HideRedirect call N a0 H τ q = funK call N fn_filter_HideRedirect [a0] H τ q := by kernel_rfl
def e_filter_HideRedirect (call : CallK) (N : Nat) (vs : List V) (H : Heap) (τ : Tape) (q : KV) : Ans := match vs with | [a0] => s_filter_HideRedirect call N a0 H τ q | _ => none
theorem e_filter_HideRedirect_ok : EntOk fn_filter_HideRedirect e_filter_HideRedirect := by
  intro call N vs H τ q r h
  unfold e_filter_HideRedirect at h
  split at h
  · rw [s_filter_HideRedirect_eq] at h; exact h
  · cases h
theorem e_filter_HideRedirect_nat : EntNat e_filter_HideRedirect := by
  intro c hn N vs H τ q
  unfold e_filter_HideRedirect
  split
  · rw [s_filter_HideRedirect_eq, s_filter_HideRedirect_eq]; exact funK_ent hn _ _ _ _ _ _
  · rfl
/-- ostiary/ostiarylaw20.known -/
def fn_law20_known : Fun := ⟨0,(.seq (.reg [iR 0 (.p .mv) [(.c (.bool false))]]) (iK [] (.seq (.reg [iR 3 (.call 56) [(.c (.str (bs [83,101,116,45,67,111,111,107,105,101]))),(.c (.str (bs [97])))],iR 4 (.call 56) [(.c (.str (bs [88]))),(.c (.str (bs [98])))],iR 5 (.e (.buildSlice 2 2 [(.str []),(.str []),(.str []),(.str [])] [(0,2),(2,2)])) [(.t 3),(.t 4)],iR 6 (.p (.build [(.int .i64 (.ofNat 0)),.nils,.nils] [(0,1),(1,1)])) [(iC 200),(.t 5)],iR 7 (.call 13) [(.t 6),(.c (.str (bs [117])))],iR 1 (.e (.alloc [(.int .i64 (.ofNat 0)),(.int .i64 (.ofNat 0)),.nils,.nils,(.str [])])) [],⟨none,none,(.e (.store 5)),[(.t 1),(.t 7)],none⟩]) (iK [1] (.seq (.reg [iR 8 (.call 56) [(.c (.str (bs [88]))),(.c (.str (bs [98])))],iR 9 (.call 56) [(.c (.str (bs [101,120,112,105,114,101,115]))),(.c (.str (bs [99])))],
    iR 10 (.e (.buildSlice 2 2 [(.str []),(.str []),(.str []),(.str [])] [(0,2),(2,2)])) [(.t 8),(.t 9)],iR 11 (.p (.build [(.int .i64 (.ofNat 0)),.nils,.nils] [(0,1),(1,1)])) [(iC 200),(.t 10)],iR 12 (.call 15) [(.t 11),(.c (.str (bs [117]))),(.c (.bool false))],iR 2 (.e (.alloc [(.int .i64 (.ofNat 0)),(.int .i64 (.ofNat 0)),.nils,.nils,(.str [])])) [],⟨none,none,(.e (.store 5)),[(.t 2),(.t 12)],none⟩]) (iK [1,2] (.seq (.draw [⟨(some 13),none,(.l (.load (some 5))),[(.t 1)],some (0,2)⟩,iR 14 (.call 56) [(.c (.str (bs [88]))),(.c (.str (bs [98])))],iR 15 (.e (.buildSlice 1 2 [(.str []),(.str [])] [(0,2)])) [(.t 14)],
    iR 16 (.p (.build [(.int .i64 (.ofNat 0)),(.int .i64 (.ofNat 0)),.nils,.nils,(.str [])] [(0,1),(1,1),(2,1),(4,1)])) [(iC 2),(iC 200),(.t 15),(.c (.str (bs [117])))],iR 17 (.call 12) [(.t 13),(.t 16)],iM 18 17,⟨(some 19),some (18,true),(.l (.load (some 5))),[(.t 2)],some (3,5)⟩,iG 20 18 true (.call 56) [(.c (.str (bs [101,120,112,105,114,101,115]))),(.c (.str (bs [99])))],iG 21 18 true (.e (.buildSlice 1 2 [(.str []),(.str [])] [(0,2)])) [(.t 20)],iG 22 18 true (.p (.build [(.int .i64 (.ofNat 0)),(.int .i64 (.ofNat 0)),.nils,.nils,(.str [])] [(0,1),(1,1),(2,1),(4,1)])) [(iC 3),(iC 200),(.t 21),(.c (.str (bs [117])))],iG 23 18 true (.call 12) [(.t 19),(.t 22)],iR 24 (.p .pick) [(.t 18),(.t 23),(.c (.bool false))],
    iM 0 24]) (iK [0] (iK [0] .ret))))))))),[(.t 0)]⟩
/-- ostiary/cors.Exposed -/
def fn_cors_Exposed : Fun := ⟨2,(.seq (.reg [iR 4 (.p .mv) [(.c .nils)],iR 5 (.p .mv) [(.c (.bool false))]]) (iK [0,1] (.seq (.reg [iM 12 0,iR 13 (.call 74) [(.t 12),(.c (.str (bs [97,99,99,101,115,115,45,99,111,110,116,114,111,108,45,101,120,112,111,115,101,45,104,101,97,100,101,114,115])))],iM 11 13,iR 14 (.p (.extract 0)) [(.t 11)],iR 15 (.p (.extract 1)) [(.t 11)],iM 6 14,iM 7 15]) (iK [1,6] (.seq (.seq (.reg [iM 16 1,iR 17 (.p (.un .not)) [(.t 16)],iM 18 17,iN 19 18 true 6,iG 20 18 true (.call 53) [(.t 19),(.c (.str (bs [42])))],iR 21 (.p .pick) [(.t 18),(.t 20),(.c (.bool false))]]) (iK [6,21] (.cond (.t 21) (.seq (.reg [iR 4 (.p .mv) [(.c .nils)],iR 5 (.p .mv) [(.c (.bool true))]])
    (iK [4,5] (iK [4,5] .ret))) .skip))) (iK [6] (.seq (.reg [iR 22 (.e .mkMap) [],iM 8 22]) (iK [6,8] (.seq (.seq (.reg [iM 23 6,iR 24 (.p .len) [(.t 23)],iR 25 (.p .mv) [(iC 0)]]) (iK [8,23,24,25] (.block 0 (.loop (iK [8,23,24,25] (.seq (.reg [iR 26 (iB .lss) [(.t 25),(.t 24)]]) (iK [8,23,24,25,26] (.seq (.cond (.t 26) .skip (iK [8] (.exit 0))) (iK [8,23,24,25] (.seq (.block 1 (.seq (.reg [iR 27 (.p (.slIdx 1)) [(.t 23),(.t 25)],iR 28 (.l (.load none)) [(.t 27)],iM 10 28]) (iK [8,10,23,24,25] (.seq (.reg [iM 29 10,iR 30 (.call 75) [(.t 29)]]) (iK [8,10,23,24,25,30] (.cond (.t 30) (.reg [iM 31 8,iM 32 10,iR 33 (.call 59) [(.t 32)],
    iR 34 (.l (.mlook (.int .i64 (.ofNat 0)) false)) [(.t 31),(.t 33)],iR 35 (iB .add) [(.t 34),(iC 1)],⟨none,none,(.e .mput),[(.t 31),(.t 33),(.t 35)],none⟩]) .skip)))))) (iK [8,23,24,25] (.reg [iR 36 (iB .add) [(.t 25),(iC 1)],iM 25 36])))))))))))) (iK [8] (.seq (.reg [iM 37 8,iR 38 (.call 71) [(.t 37)],iM 4 38,iR 5 (.p .mv) [(.c (.bool false))]]) (iK [4,5] (iK [4,5] .ret))))))))))))),[(.t 4),(.t 5)]⟩
def s_cors_Exposed_j0 (call : CallK) (N : Nat) (q : KV) (st : St) (τ : Tape) : Ans := match st with
  | ⟨fr,H⟩ => getK fr 8 fun t8 => call f_cors_names [t8] H τ fun v17 H18 τ19 => q (.tup [v17,(.bool false)]) H18 τ19
def s_cors_Exposed_j2 (call : CallK) (N : Nat) (k : KC) (st : St) (τ : Tape) : Ans := match st with
  | ⟨fr,H⟩ => getK fr 8 fun t8 => getK fr 23 fun t23 => getK fr 24 fun t24 => getK fr 25 fun t25 => binK .add t25 (.int .i64 (.ofNat 1)) fun v21 => k .normal ⟨(T.set (T.set (T.set (T.set (T.set (T.set .leaf 8 t8) 23 t23) 24 t24) 25 t25) 36 v21) 25 v21),H⟩ τ
def s_cors_Exposed_l1 (call : CallK) (N : Nat) (st : St) (τ : Tape) (k : KC) : Ans := match st with
  | ⟨fr,H⟩ => getK fr 8 fun t8 => getK fr 23 fun t23 => getK fr 24 fun t24 => getK fr 25 fun t25 => binK .lss t25 t24 fun v20 => condK v20 (someK (pSlIdx 1 [t23,t25]) fun v22 => someK (lLoad1 [v22] H) fun v23 => call f_infra_Token [v23] H τ fun v24 H25 τ26 => condK v24 (call f_infra_Lower [v23] H25 τ26 fun v27 H28 τ29 => someK (lLook (.int .i64 (.ofNat 0)) false [t8,v27] H28) fun v30 => binK .add v30 (.int .i64 (.ofNat 1)) fun v31 => effK (eMput [t8,v27,v31] H28 τ29) fun v32 H33 τ34 => s_cors_Exposed_j2 call N k ⟨(T.set (T.set (T.set (T.set (T.set (T.set (T.set (T.set (T.set (T.set (T.set .leaf 8 t8) 10 v23) 23 t23) 24 t24) 25 t25) 30 v24) 31 t8) 32 v23) 33 v27) 34 v30) 35 v31),H33⟩ τ34) (s_cors_Exposed_j2 call N k ⟨(T.set (T.set (T.set (T.set (T.set (T.set .leaf 8 t8) 10 v23) 23 t23) 24 t24) 25 t25) 30 v24),H25⟩ τ26)) (k (.exit 0) ⟨(T.set .leaf 8 t8),H⟩ τ)
def s_cors_Exposed (call : CallK) (N : Nat) (a0 a1 : V) (H : Heap) (τ : Tape) (q : KV) : Ans := call f_headers_Split [a0,(.str (bs [97,99,99,101,115,115,45,99,111,110,116,114,111,108,45,101,120,112,111,115,101,45,104,101,97,100,101,114,115]))] H τ fun v0 H1 τ2 => someK (pExtract 0 [v0]) fun v3 => someK (pExtract 1 [v0]) fun v4 => unK .not a1 fun v5 => gK v5 true (fun q' => q' v3 H1 τ2) H1 τ2 fun v6 H7 τ8 => gK v5 true (fun q' => call f_slices_Contains_string [v6,(.str (bs [42]))] H7 τ8 q') H7 τ8 fun v9 H10 τ11 => someK (pPick [v5,v9,(.bool false)]) fun v12 => condK v12 (q (.tup [.nils,(.bool true)]) H10 τ11) (effK (eMkMap [] H10 τ11) fun v13 H14 τ15 => someK (pLen [v3]) fun v16 =>
    loopK (s_cors_Exposed_l1 call N) N ⟨(T.set (T.set (T.set (T.set .leaf 8 v13) 23 v3) 24 v16) 25 (.int .i64 (.ofNat 0))),H14⟩ τ15 (blockK 0 (seqK (s_cors_Exposed_j0 call N q) (endK [(.t 4),(.t 5)] q))))
theorem s_cors_Exposed_eq (call : CallK) (N : Nat) (a0 a1 : V) (H : Heap) (τ : Tape) (q : KV) : s_cors_Exposed call N a0 a1 H τ q = funK call N fn_cors_Exposed [a0, a1] H τ q := by kernel_rfl
def e_cors_Exposed (call : CallK) (N : Nat) (vs : List V) (H : Heap) (τ : Tape) (q : KV) : Ans := match vs with | [a0, a1] => s_cors_Exposed call N a0 a1 H τ q | _ => none
theorem e_cors_Exposed_ok : EntOk fn_cors_Exposed e_cors_Exposed := by
  intro call N vs H τ q r h
  unfold e_cors_Exposed at h
  split at h
  · rw [s_cors_Exposed_eq] at h; exact h
  · cases h
theorem e_cors_Exposed_nat : EntNat e_cors_Exposed := by
  intro c hn N vs H τ q
  unfold e_cors_Exposed
  split
  · rw [s_cors_Exposed_eq, s_cors_Exposed_eq]; exact funK_ent hn _ _ _ _ _ _
  · rfl
/-- ostiary/ostiarykeep.FewHeaders -/
def fn_keep_FewHeaders : Fun := ⟨3,(.seq (.reg [iR 6 (.p .mv) [(.c .nils)]]) (iK [0,1,2] (.seq (.reg [iR 7 (.p .mv) [(.c .nils)]]) (iK [0,1,2,7] (.seq (.seq (.reg [iR 8 (.p .mv) [(iC 0)]]) (iK [0,1,2,7,8] (.block 0 (.loop (iK [0,1,2,7,8] (.seq (.seq (.reg [iM 9 8,iM 10 0,iR 11 (.p .len) [(.t 10)],iR 12 (iB .lss) [(.t 9),(.t 11)],iM 13 12,iN 14 13 true 8,iN 15 13 true 1,iG 16 13 true (iB .lss) [(.t 14),(.t 15)],iR 17 (.p .pick) [(.t 13),(.t 16),(.c (.bool false))]]) (iK [0,1,2,7,8,17] (.cond (.t 17) .skip (iK [7] (.exit 0))))) (iK [0,1,2,7,8] (.seq (.block 1 (.draw [iM 20 7,iM 21 0,iM 22 8,iR 23 (.p (.slIdx 2)) [(.t 21),(.t 22)],
    iR 24 (.p (.fieldAddr 0)) [(.t 23)],iR 25 (.l (.load none)) [(.t 24)],iM 26 2,iR 27 (.call 10) [(.t 25),(.t 26)],iM 28 0,iM 29 8,iR 30 (.p (.slIdx 2)) [(.t 28),(.t 29)],iR 31 (.p (.fieldAddr 1)) [(.t 30)],⟨(some 32),none,(.l (.load none)),[(.t 31)],some (0,1)⟩,iM 33 2,iR 34 (.call 10) [(.t 32),(.t 33)],iR 35 (.p (.build [(.str []),(.str [])] [(0,1),(1,1)])) [(.t 27),(.t 34)],iR 36 (.e (.buildSlice 1 2 [(.str []),(.str [])] [(0,2)])) [(.t 35)],iR 37 (.e (.append 2 32)) [(.t 20),(.t 36)],iM 7 37])) (iK [0,1,2,7,8] (.reg [iM 18 8,iR 19 (iB .add) [(.t 18),(iC 1)],iM 8 19])))))))))) (iK [7] (.seq (.reg [iM 38 7,iM 6 38]) (iK [6] (iK [6] .ret))))))))),[(.t 6)]⟩
def s_keep_FewHeaders_j0 (call : CallK) (N : Nat) (q : KV) (st : St) (τ : Tape) : Ans := match st with
  | ⟨fr,H⟩ => getK fr 7 fun t7 => q t7 H τ
def s_keep_FewHeaders_l1 (call : CallK) (N : Nat) (st : St) (τ : Tape) (k : KC) : Ans := match st with
  | ⟨fr,H⟩ => getK fr 0 fun t0 => getK fr 1 fun t1 => getK fr 2 fun t2 => getK fr 7 fun t7 => getK fr 8 fun t8 => someK (pLen [t0]) fun v0 => binK .lss t8 v0 fun v1 => gK v1 true (fun q' => q' t8 H τ) H τ fun v2 H3 τ4 => gK v1 true (fun q' => q' t1 H3 τ4) H3 τ4 fun v5 H6 τ7 => gK v1 true (fun q' => binK .lss v2 v5 fun v => q' v H6 τ7) H6 τ7 fun v8 H9 τ10 => someK (pPick [v1,v8,(.bool false)]) fun v11 => condK v11 (someK (pSlIdx 2 [t0,t8]) fun v12 => someK (pFieldAddr 0 [v12]) fun v13 => someK (lLoad1 [v13] H9) fun v14 => call f_keep_Few [v14,t2] H9 τ10 fun v15 H16 τ17 => someK (pSlIdx 2 [t0,t8]) fun v18 => someK (pFieldAddr 1 [v18]) fun v19 => someK (lLoad1 [v19] H16) fun v20 => call f_keep_Few [v20,t2] H16 τ17 fun v21 H22 τ23 => someK (pBuild [(.str []),(.str [])] [(0,1),(1,1)] [v15,v21]) fun v24 =>
    effK (eBuildSlice 1 2 [(.str []),(.str [])] [(0,2)] [v24] H22 τ23) fun v25 H26 τ27 => effK (eAppend 2 32 [t7,v25] H26 τ27) fun v28 H29 τ30 => bif chkLoads [H9,H16,H22,H26,H29] (((.load none),[v19],0,1) :: []) then binK .add t8 (.int .i64 (.ofNat 1)) fun v31 => k .normal ⟨(T.set (T.set (T.set (T.set (T.set (T.set (T.set (T.set .leaf 0 t0) 1 t1) 2 t2) 7 v28) 8 t8) 18 t8) 19 v31) 8 v31),H29⟩ τ30 else none) (k (.exit 0) ⟨(T.set .leaf 7 t7),H9⟩ τ10)
def s_keep_FewHeaders (call : CallK) (N : Nat) (a0 a1 a2 : V) (H : Heap) (τ : Tape) (q : KV) : Ans := loopK (s_keep_FewHeaders_l1 call N) N ⟨(T.set (T.set (T.set (T.set (T.set .leaf 0 a0) 1 a1) 2 a2) 7 .nils) 8 (.int .i64 (.ofNat 0))),H⟩ τ (blockK 0 (seqK (s_keep_FewHeaders_j0 call N q) (endK [(.t 6)] q)))
theorem s_keep_FewHeaders_eq (call : CallK) (N : Nat) (a0 a1 a2 : V) (H : Heap) (τ : Tape) (q : KV) : s_keep_FewHeaders call N a0 a1 a2 H τ q = funK call N fn_keep_FewHeaders [a0, a1, a2] H τ q := by kernel_rfl
def e_keep_FewHeaders (call : CallK) (N : Nat) (vs : List V) (H : Heap) (τ : Tape) (q : KV) : Ans := match vs with | [a0, a1, a2] => s_keep_FewHeaders call N a0 a1 a2 H τ q | _ => none
theorem e_keep_FewHeaders_ok : EntOk fn_keep_FewHeaders e_keep_FewHeaders := by
  intro call N vs H τ q r h
  unfold e_keep_FewHeaders at h
  split at h
  · rw [s_keep_FewHeaders_eq] at h; exact h
  · cases h
theorem e_keep_FewHeaders_nat : EntNat e_keep_FewHeaders := by
  intro c hn N vs H τ q
  unfold e_keep_FewHeaders
  split
  · rw [s_keep_FewHeaders_eq, s_keep_FewHeaders_eq]; exact funK_ent hn _ _ _ _ _ _
  · rfl
/-- ostiary/ostiaryref18.Exposed -/
def fn_ref18_Exposed : Fun := ⟨2,(.seq (.reg [iR 4 (.p .mv) [(.c .nils)],iR 5 (.p .mv) [(.c (.bool false))]]) (iK [0,1] (.seq (.reg [iM 11 0,iR 12 (.call 78) [(.t 11),(.c (.str (bs [97,99,99,101,115,115,45,99,111,110,116,114,111,108,45,101,120,112,111,115,101,45,104,101,97,100,101,114,115])))],iM 10 12,iR 13 (.p (.extract 0)) [(.t 10)],iR 14 (.p (.extract 1)) [(.t 10)],iM 6 13,iM 7 14]) (iK [1,6] (.seq (.reg [iR 8 (.p .mv) [(.c .nils)]]) (iK [1,6,8] (.seq (.seq (.reg [iR 9 (.p .mv) [(iC 0)]]) (iK [1,6,8,9] (.block 0 (.loop (iK [1,6,8,9] (.seq (.seq (.reg [iM 15 9,iM 16 6,iR 17 (.p .len) [(.t 16)],iR 18 (iB .lss) [(.t 15),(.t 17)]]) (iK [1,6,8,9,18] (.cond (.t 18) .skip
    (iK [8] (.exit 0))))) (iK [1,6,8,9] (.seq (.block 1 (.seq (.seq (.reg [iM 21 6,iM 22 9,iR 23 (.p (.slIdx 1)) [(.t 21),(.t 22)],iR 24 (.l (.load none)) [(.t 23)],iR 25 (iB .eql) [(.t 24),(.c (.str (bs [42])))],iM 26 25,iN 27 26 true 1,iG 28 26 true (.p (.un .not)) [(.t 27)],iR 29 (.p .pick) [(.t 26),(.t 28),(.c (.bool false))]]) (iK [1,6,8,9,29] (.cond (.t 29) (.seq (.reg [iR 4 (.p .mv) [(.c .nils)],iR 5 (.p .mv) [(.c (.bool true))]]) (iK [4,5] (iK [4,5] .ret))) .skip))) (iK [1,6,8,9] (.seq (.reg [iM 30 6,iM 31 9,iR 32 (.p (.slIdx 1)) [(.t 30),(.t 31)],iR 33 (.l (.load none)) [(.t 32)],iR 34 (.call 77) [(.t 33)]]) (iK [1,6,8,9,34] (.cond (.t 34) (.reg [iM 35 8,iM 36 6,
    iM 37 9,iR 38 (.p (.slIdx 1)) [(.t 36),(.t 37)],iR 39 (.l (.load none)) [(.t 38)],iR 40 (.call 55) [(.t 39)],iR 41 (.e (.buildSlice 1 1 [(.str [])] [(0,1)])) [(.t 40)],iR 42 (.e (.append 1 16)) [(.t 35),(.t 41)],iM 8 42]) .skip)))))) (iK [1,6,8,9] (.reg [iM 19 9,iR 20 (iB .add) [(.t 19),(iC 1)],iM 9 20])))))))))) (iK [8] (.seq (.reg [iM 43 8,iR 44 (.call 73) [(.t 43)],iM 4 44,iR 5 (.p .mv) [(.c (.bool false))]]) (iK [4,5] (iK [4,5] .ret))))))))))),[(.t 4),(.t 5)]⟩
def s_ref18_Exposed_j0 (call : CallK) (N : Nat) (q : KV) (st : St) (τ : Tape) : Ans := match st with
  | ⟨fr,H⟩ => getK fr 8 fun t8 => call f_ref1_Sorted [t8] H τ fun v5 H6 τ7 => q (.tup [v5,(.bool false)]) H6 τ7
def s_ref18_Exposed_j2 (call : CallK) (N : Nat) (k : KC) (st : St) (τ : Tape) : Ans := match st with
  | ⟨fr,H⟩ => getK fr 1 fun t1 => getK fr 6 fun t6 => getK fr 8 fun t8 => getK fr 9 fun t9 => binK .add t9 (.int .i64 (.ofNat 1)) fun v10 => k .normal ⟨(T.set (T.set (T.set (T.set (T.set (T.set (T.set .leaf 1 t1) 6 t6) 8 t8) 9 t9) 19 t9) 20 v10) 9 v10),H⟩ τ
def s_ref18_Exposed_l1 (call : CallK) (N : Nat) (st : St) (τ : Tape) (k : KC) : Ans := match st with
  | ⟨fr,H⟩ => getK fr 1 fun t1 => getK fr 6 fun t6 => getK fr 8 fun t8 => getK fr 9 fun t9 => someK (pLen [t6]) fun v8 => binK .lss t9 v8 fun v9 => condK v9 (someK (pSlIdx 1 [t6,t9]) fun v11 => someK (lLoad1 [v11] H) fun v12 => binK .eql v12 (.str (bs [42])) fun v13 => gK v13 true (fun q' => q' t1 H τ) H τ fun v14 H15 τ16 => gK v13 true (fun q' => unK .not v14 fun v => q' v H15 τ16) H15 τ16 fun v17 H18 τ19 => someK (pPick [v13,v17,(.bool false)]) fun v20 => condK v20 (k .ret ⟨(T.set (T.set .leaf 4 .nils) 5 (.bool true)),H18⟩ τ19) (someK (pSlIdx 1 [t6,t9]) fun v21 => someK (lLoad1 [v21] H18) fun v22 => call f_ref1_Token [v22] H18 τ19 fun v23 H24 τ25 => condK v23 (someK (pSlIdx 1 [t6,t9]) fun v26 => someK (lLoad1 [v26] H24) fun v27 => call f_ref1_Lower [v27] H24 τ25 fun v28 H29 τ30 => effK (eBuildSlice 1 1 [(.str [])] [(0,1)] [v28] H29 τ30) fun v31 H32 τ33 =>
    effK (eAppend 1 16 [t8,v31] H32 τ33) fun v34 H35 τ36 => s_ref18_Exposed_j2 call N k ⟨(T.set (T.set (T.set (T.set (T.set (T.set (T.set (T.set (T.set (T.set (T.set (T.set (T.set (T.set .leaf 1 t1) 6 t6) 8 t8) 9 t9) 34 v23) 35 t8) 36 t6) 37 t9) 38 v26) 39 v27) 40 v28) 41 v31) 42 v34) 8 v34),H35⟩ τ36) (s_ref18_Exposed_j2 call N k ⟨(T.set (T.set (T.set (T.set (T.set .leaf 1 t1) 6 t6) 8 t8) 9 t9) 34 v23),H24⟩ τ25))) (k (.exit 0) ⟨(T.set .leaf 8 t8),H⟩ τ)
def s_ref18_Exposed (call : CallK) (N : Nat) (a0 a1 : V) (H : Heap) (τ : Tape) (q : KV) : Ans := call f_ref5_Split [a0,(.str (bs [97,99,99,101,115,115,45,99,111,110,116,114,111,108,45,101,120,112,111,115,101,45,104,101,97,100,101,114,115]))] H τ fun v0 H1 τ2 => someK (pExtract 0 [v0]) fun v3 => someK (pExtract 1 [v0]) fun v4 => loopK (s_ref18_Exposed_l1 call N) N ⟨(T.set (T.set (T.set (T.set .leaf 1 a1) 6 v3) 8 .nils) 9 (.int .i64 (.ofNat 0))),H1⟩ τ2 (blockK 0 (seqK (s_ref18_Exposed_j0 call N q) (endK [(.t 4),(.t 5)] q)))
theorem s_ref18_Exposed_eq (call : CallK) (N : Nat) (a0 a1 : V) (H : Heap) (τ : Tape) (q : KV) : s_ref18_Exposed call N a0 a1 H τ q = funK call N fn_ref18_Exposed [a0, a1] H τ q := by kernel_rfl
def e_ref18_Exposed (call : CallK) (N : Nat) (vs : List V) (H : Heap) (τ : Tape) (q : KV) : Ans := match vs with | [a0, a1] => s_ref18_Exposed call N a0 a1 H τ q | _ => none
theorem e_ref18_Exposed_ok : EntOk fn_ref18_Exposed e_ref18_Exposed := by
  intro call N vs H τ q r h
  unfold e_ref18_Exposed at h
  split at h
  · rw [s_ref18_Exposed_eq] at h; exact h
  · cases h
theorem e_ref18_Exposed_nat : EntNat e_ref18_Exposed := by
  intro c hn N vs H τ q
  unfold e_ref18_Exposed
  split
  · rw [s_ref18_Exposed_eq, s_ref18_Exposed_eq]; exact funK_ent hn _ _ _ _ _ _
  · rfl
/-- ostiary/ostiarykeep.FewBytes -/
def fn_keep_FewBytes : Fun := ⟨2,(.seq (.reg [iR 4 (.p .mv) [(.c .nils)]]) (iK [0,1] (.seq (.seq (.reg [iM 5 0,iR 6 (.p .len) [(.t 5)],iM 7 1,iR 8 (iB .gtr) [(.t 6),(.t 7)]]) (iK [0,1,8] (.cond (.t 8) (.seq (.reg [iM 9 0,iM 10 1,iR 11 (.p (.slSlice 1 false true false)) [(.t 9),(.t 10)],iM 4 11]) (iK [4] (iK [4] .ret))) .skip))) (iK [0] (.seq (.reg [iM 12 0,iM 4 12]) (iK [4] (iK [4] .ret))))))),[(.t 4)]⟩
def s_keep_FewBytes (call : CallK) (N : Nat) (a0 a1 : V) (H : Heap) (τ : Tape) (q : KV) : Ans := someK (pLen [a0]) fun v0 => binK .gtr v0 a1 fun v1 => condK v1 (someK (pSlSlice 1 false true false [a0,a1]) fun v2 => q v2 H τ) (q a0 H τ)
theorem s_keep_FewBytes_eq (call : CallK) (N : Nat) (a0 a1 : V) (H : Heap) (τ : Tape) (q : KV) : s_keep_FewBytes call N a0 a1 H τ q = funK call N fn_keep_FewBytes [a0, a1] H τ q := by kernel_rfl
def e_keep_FewBytes (call : CallK) (N : Nat) (vs : List V) (H : Heap) (τ : Tape) (q : KV) : Ans := match vs with | [a0, a1] => s_keep_FewBytes call N a0 a1 H τ q | _ => none
theorem e_keep_FewBytes_ok : EntOk fn_keep_FewBytes e_keep_FewBytes := by
  intro call N vs H τ q r h
  unfold e_keep_FewBytes at h
  split at h
  · rw [s_keep_FewBytes_eq] at h; exact h
  · cases h
theorem e_keep_FewBytes_nat : EntNat e_keep_FewBytes := by
  intro c hn N vs H τ q
  unfold e_keep_FewBytes
  split
  · rw [s_keep_FewBytes_eq, s_keep_FewBytes_eq]; exact funK_ent hn _ _ _ _ _ _
  · rfl
/-- ostiary/ostiarybook.Same[ostiary/api.Header] -/
def fn_book_Same_Header : Fun := ⟨2,(.seq (.reg [iR 4 (.p .mv) [(.c (.bool false))]]) (iK [0,1] (.seq (.seq (.reg [iM 6 0,iR 7 (.p .len) [(.t 6)],iM 8 1,iR 9 (.p .len) [(.t 8)],iR 10 (iB .neq) [(.t 7),(.t 9)]]) (iK [0,1,10] (.cond (.t 10) (.seq (.reg [iR 4 (.p .mv) [(.c (.bool false))]]) (iK [4] (iK [4] .ret))) .skip))) (iK [0,1] (.seq (.seq (.reg [iR 5 (.p .mv) [(iC 0)]]) (iK [0,1,5] (.block 0 (.loop (iK [0,1,5] (.seq (.seq (.reg [iM 11 5,iM 12 0,iR 13 (.p .len) [(.t 12)],iR 14 (iB .lss) [(.t 11),(.t 13)]]) (iK [0,1,5,14] (.cond (.t 14) .skip (iK [] (.exit 0))))) (iK [0,1,5] (.seq (.block 1 (.seq (.draw [iM 17 0,iM 18 5,iR 19 (.p (.slIdx 2)) [(.t 17),(.t 18)],
    iR 20 (.l (.load (some 2))) [(.t 19)],iM 21 1,iM 22 5,iR 23 (.p (.slIdx 2)) [(.t 21),(.t 22)],iR 24 (.l (.load (some 2))) [(.t 23)],iR 25 (.p (.eq true (.flat [.str,.str]))) [(.t 20),(.t 24)]]) (iK [0,1,5,25] (.cond (.t 25) (.seq (.reg [iR 4 (.p .mv) [(.c (.bool false))]]) (iK [4] (iK [4] .ret))) .skip)))) (iK [0,1,5] (.reg [iM 15 5,iR 16 (iB .add) [(.t 15),(iC 1)],iM 5 16])))))))))) (iK [] (.seq (.reg [iR 4 (.p .mv) [(.c (.bool true))]]) (iK [4] (iK [4] .ret))))))))),[(.t 4)]⟩
def s_book_Same_Header_j0 (call : CallK) (N : Nat) (q : KV) (st : St) (τ : Tape) : Ans := match st with
  | ⟨fr,H⟩ => q (.bool true) H τ
def s_book_Same_Header_l1 (call : CallK) (N : Nat) (st : St) (τ : Tape) (k : KC) : Ans := match st with
  | ⟨fr,H⟩ => getK fr 0 fun t0 => getK fr 1 fun t1 => getK fr 5 fun t5 => someK (pLen [t0]) fun v3 => binK .lss t5 v3 fun v4 => condK v4 (someK (pSlIdx 2 [t0,t5]) fun v5 => someK (lLoadN 2 [v5] H) fun v6 => someK (pSlIdx 2 [t1,t5]) fun v7 => someK (lLoadN 2 [v7] H) fun v8 => someK (pEq true (.flat [.str,.str]) [v6,v8]) fun v9 => condK v9 (k .ret ⟨(T.set .leaf 4 (.bool false)),H⟩ τ) (binK .add t5 (.int .i64 (.ofNat 1)) fun v10 => k .normal ⟨(T.set (T.set (T.set (T.set (T.set (T.set .leaf 0 t0) 1 t1) 5 t5) 15 t5) 16 v10) 5 v10),H⟩ τ)) (k (.exit 0) ⟨.leaf,H⟩ τ)
def s_book_Same_Header (call : CallK) (N : Nat) (a0 a1 : V) (H : Heap) (τ : Tape) (q : KV) : Ans := someK (pLen [a0]) fun v0 => someK (pLen [a1]) fun v1 => binK .neq v0 v1 fun v2 => condK v2 (q (.bool false) H τ) (loopK (s_book_Same_Header_l1 call N) N ⟨(T.set (T.set (T.set .leaf 0 a0) 1 a1) 5 (.int .i64 (.ofNat 0))),H⟩ τ (blockK 0 (seqK (s_book_Same_Header_j0 call N q) (endK [(.t 4)] q))))
theorem s_book_Same_Header_eq (call : CallK) (N : Nat) (a0 a1 : V) (H : Heap) (τ : Tape) (q : KV) : s_book_Same_Header call N a0 a1 H τ q = funK call N fn_book_Same_Header [a0, a1] H τ q := by kernel_rfl
def e_book_Same_Header (call : CallK) (N : Nat) (vs : List V) (H : Heap) (τ : Tape) (q : KV) : Ans := match vs with | [a0, a1] => s_book_Same_Header call N a0 a1 H τ q | _ => none
theorem e_book_Same_Header_ok : EntOk fn_book_Same_Header e_book_Same_Header := by
  intro call N vs H τ q r h
  unfold e_book_Same_Header at h
  split at h
  · rw [s_book_Same_Header_eq] at h; exact h
  · cases h
theorem e_book_Same_Header_nat : EntNat e_book_Same_Header := by
  intro c hn N vs H τ q
  unfold e_book_Same_Header
  split
  · rw [s_book_Same_Header_eq, s_book_Same_Header_eq]; exact funK_ent hn _ _ _ _ _ _
  · rfl
/-- ostiary/ostiarybook.Same[byte] -/
def fn_book_Same_byte : Fun := ⟨2,(.seq (.reg [iR 4 (.p .mv) [(.c (.bool false))]]) (iK [0,1] (.seq (.seq (.reg [iM 6 0,iR 7 (.p .len) [(.t 6)],iM 8 1,iR 9 (.p .len) [(.t 8)],iR 10 (iB .neq) [(.t 7),(.t 9)]]) (iK [0,1,10] (.cond (.t 10) (.seq (.reg [iR 4 (.p .mv) [(.c (.bool false))]]) (iK [4] (iK [4] .ret))) .skip))) (iK [0,1] (.seq (.seq (.reg [iR 5 (.p .mv) [(iC 0)]]) (iK [0,1,5] (.block 0 (.loop (iK [0,1,5] (.seq (.seq (.reg [iM 11 5,iM 12 0,iR 13 (.p .len) [(.t 12)],iR 14 (iB .lss) [(.t 11),(.t 13)]]) (iK [0,1,5,14] (.cond (.t 14) .skip (iK [] (.exit 0))))) (iK [0,1,5] (.seq (.block 1 (.seq (.draw [iM 17 0,iM 18 5,iR 19 (.p (.slIdx 1)) [(.t 17),(.t 18)],iR 20 (.l (.load none)) [(.t 19)],
    iM 21 1,iM 22 5,iR 23 (.p (.slIdx 1)) [(.t 21),(.t 22)],iR 24 (.l (.load none)) [(.t 23)],iR 25 (iB .neq) [(.t 20),(.t 24)]]) (iK [0,1,5,25] (.cond (.t 25) (.seq (.reg [iR 4 (.p .mv) [(.c (.bool false))]]) (iK [4] (iK [4] .ret))) .skip)))) (iK [0,1,5] (.reg [iM 15 5,iR 16 (iB .add) [(.t 15),(iC 1)],iM 5 16])))))))))) (iK [] (.seq (.reg [iR 4 (.p .mv) [(.c (.bool true))]]) (iK [4] (iK [4] .ret))))))))),[(.t 4)]⟩
def s_book_Same_byte_j0 (call : CallK) (N : Nat) (q : KV) (st : St) (τ : Tape) : Ans := match st with
  | ⟨fr,H⟩ => q (.bool true) H τ
def s_book_Same_byte_l1 (call : CallK) (N : Nat) (st : St) (τ : Tape) (k : KC) : Ans := match st with
  | ⟨fr,H⟩ => getK fr 0 fun t0 => getK fr 1 fun t1 => getK fr 5 fun t5 => someK (pLen [t0]) fun v3 => binK .lss t5 v3 fun v4 => condK v4 (someK (pSlIdx 1 [t0,t5]) fun v5 => someK (lLoad1 [v5] H) fun v6 => someK (pSlIdx 1 [t1,t5]) fun v7 => someK (lLoad1 [v7] H) fun v8 => binK .neq v6 v8 fun v9 => condK v9 (k .ret ⟨(T.set .leaf 4 (.bool false)),H⟩ τ) (binK .add t5 (.int .i64 (.ofNat 1)) fun v10 => k .normal ⟨(T.set (T.set (T.set (T.set (T.set (T.set .leaf 0 t0) 1 t1) 5 t5) 15 t5) 16 v10) 5 v10),H⟩ τ)) (k (.exit 0) ⟨.leaf,H⟩ τ)
def s_book_Same_byte (call : CallK) (N : Nat) (a0 a1 : V) (H : Heap) (τ : Tape) (q : KV) : Ans := someK (pLen [a0]) fun v0 => someK (pLen [a1]) fun v1 => binK .neq v0 v1 fun v2 => condK v2 (q (.bool false) H τ) (loopK (s_book_Same_byte_l1 call N) N ⟨(T.set (T.set (T.set .leaf 0 a0) 1 a1) 5 (.int .i64 (.ofNat 0))),H⟩ τ (blockK 0 (seqK (s_book_Same_byte_j0 call N q) (endK [(.t 4)] q))))
theorem s_book_Same_byte_eq (call : CallK) (N : Nat) (a0 a1 : V) (H : Heap) (τ : Tape) (q : KV) : s_book_Same_byte call N a0 a1 H τ q = funK call N fn_book_Same_byte [a0, a1] H τ q := by kernel_rfl
def e_book_Same_byte (call : CallK) (N : Nat) (vs : List V) (H : Heap) (τ : Tape) (q : KV) : Ans := match vs with | [a0, a1] => s_book_Same_byte call N a0 a1 H τ q | _ => none
theorem e_book_Same_byte_ok : EntOk fn_book_Same_byte e_book_Same_byte := by
  intro call N vs H τ q r h
  unfold e_book_Same_byte at h
  split at h
  · rw [s_book_Same_byte_eq] at h; exact h
  · cases h
theorem e_book_Same_byte_nat : EntNat e_book_Same_byte := by
  intro c hn N vs H τ q
  unfold e_book_Same_byte
  split
  · rw [s_book_Same_byte_eq, s_book_Same_byte_eq]; exact funK_ent hn _ _ _ _ _ _
  · rfl
/-- ostiary/filter.shown -/
def fn_filter_shown : Fun := ⟨4,(.seq (.reg [iR 5 (.e .box) [(.t 1)],iR 8 (.e (.alloc [(.int .i64 (.ofNat 0)),(.int .i64 (.ofNat 0)),.nils,.nils,(.str [])])) []]) (iK [0,2,3,5,8] (.seq (.draw [iM 13 0,iR 14 (.p (.fieldAddr 0)) [(.t 5)],⟨(some 15),none,(.l (.load none)),[(.t 14)],some (0,2)⟩,iR 16 (.p (.fieldAddr 2)) [(.t 5)],⟨(some 17),none,(.l (.load none)),[(.t 16)],some (0,1)⟩,iR 18 (.call 81) [(.t 17)],iM 19 2,iR 20 (.p (.build [(.int .i64 (.ofNat 0)),(.int .i64 (.ofNat 0)),.nils,.nils,(.str [])] [(0,1),(1,1),(3,1),(4,1)])) [(.t 13),(.t 15),(.t 18),(.t 19)],iR 9 (.e (.alloc [(.int .i64 (.ofNat 0)),(.int .i64 (.ofNat 0)),.nils,.nils,(.str [])])) [],⟨none,none,(.e (.store 5)),[(.t 9),(.t 20)],none⟩]) (iK [3,5,8,9] (.seq (.seq (.reg [iR 21 (.p (.fieldAddr 1)) [(.t 5)],
    iR 22 (.l (.load none)) [(.t 21)],iR 23 (.p .len) [(.t 22)],iR 24 (.p .mv) [(iC 0)]]) (iK [3,8,9,22,23,24] (.block 0 (.loop (iK [3,8,9,22,23,24] (.seq (.reg [iR 25 (iB .lss) [(.t 24),(.t 23)]]) (iK [3,8,9,22,23,24,25] (.seq (.cond (.t 25) .skip (iK [8,9] (.exit 0))) (iK [3,8,9,22,23,24] (.seq (.block 1 (.seq (.reg [iR 26 (.p (.slIdx 2)) [(.t 22),(.t 24)],iR 27 (.l (.load (some 2))) [(.t 26)],iR 11 (.e (.alloc [(.str []),(.str [])])) [],⟨none,none,(.e (.store 2)),[(.t 11),(.t 27)],none⟩]) (iK [3,8,9,11,22,23,24] (.seq (.reg [iR 28 (.p (.fieldAddr 0)) [(.t 11)],iR 29 (.l (.load none)) [(.t 28)],iR 30 (.call 59) [(.t 29)],iM 12 30]) (iK [3,8,9,11,12,22,23,24] (.seq (.reg [iM 31 12,
    iR 32 (iB .neq) [(.t 31),(.c (.str (bs [115,101,116,45,99,111,111,107,105,101])))],iM 33 32,iN 34 33 true 12,iG 35 33 true (iB .neq) [(.t 34),(.c (.str (bs [115,101,116,45,99,111,111,107,105,101,50])))],iR 36 (.p .pick) [(.t 33),(.t 35),(.c (.bool false))],iM 37 36,iN 38 37 true 3,iN 39 37 true 12,iG 40 37 true .callv [(.t 38),(.t 39)],iR 41 (.p .pick) [(.t 37),(.t 40),(.c (.bool false))]]) (iK [3,8,9,11,22,23,24,41] (.cond (.t 41) (.reg [iR 42 (.p (.fieldAddr 2)) [(.t 9)],iR 43 (.l (.load none)) [(.t 42)],iR 44 (.l (.load (some 2))) [(.t 11)],iR 45 (.e (.buildSlice 1 2 [(.str []),(.str [])] [(0,2)])) [(.t 44)],iR 46 (.e (.append 2 32)) [(.t 43),(.t 45)],iR 47 (.p (.fieldAddr 2)) [(.t 9)],
    ⟨none,none,(.e (.store 1)),[(.t 47),(.t 46)],none⟩]) .skip)))))))) (iK [3,8,9,22,23,24] (.reg [iR 48 (iB .add) [(.t 24),(iC 1)],iM 24 48])))))))))))) (iK [8,9] (.seq (.reg [iR 49 (.l (.load (some 5))) [(.t 9)],⟨none,none,(.e (.store 5)),[(.t 8),(.t 49)],none⟩]) (iK [8] (iK [8] .ret))))))))),[(.cell 8 (some 5))]⟩
def s_filter_shown_j0 (call : CallK) (N : Nat) (q : KV) (st : St) (τ : Tape) : Ans := match st with
  | ⟨fr,H⟩ => getK fr 8 fun t8 => getK fr 9 fun t9 => someK (lLoadN 5 [t9] H) fun v23 => effK (eStore 5 [t8,v23] H τ) fun v24 H25 τ26 => someK (results ⟨(T.set .leaf 8 t8),H25⟩ [(.cell 8 (some 5))]) fun v => q v H25 τ26
def s_filter_shown_j2 (call : CallK) (N : Nat) (k : KC) (st : St) (τ : Tape) : Ans := match st with
  | ⟨fr,H⟩ => getK fr 3 fun t3 => getK fr 8 fun t8 => getK fr 9 fun t9 => getK fr 22 fun t22 => getK fr 23 fun t23 => getK fr 24 fun t24 => binK .add t24 (.int .i64 (.ofNat 1)) fun v28 => k .normal ⟨(T.set (T.set (T.set (T.set (T.set (T.set (T.set (T.set .leaf 3 t3) 8 t8) 9 t9) 22 t22) 23 t23) 24 t24) 48 v28) 24 v28),H⟩ τ
def s_filter_shown_l1 (call : CallK) (N : Nat) (st : St) (τ : Tape) (k : KC) : Ans := match st with
  | ⟨fr,H⟩ => getK fr 3 fun t3 => getK fr 8 fun t8 => getK fr 9 fun t9 => getK fr 22 fun t22 => getK fr 23 fun t23 => getK fr 24 fun t24 => binK .lss t24 t23 fun v27 => condK v27 (someK (pSlIdx 2 [t22,t24]) fun v29 => someK (lLoadN 2 [v29] H) fun v30 => effK (eAlloc [(.str []),(.str [])] [] H τ) fun v31 H32 τ33 => effK (eStore 2 [v31,v30] H32 τ33) fun v34 H35 τ36 => someK (pFieldAddr 0 [v31]) fun v37 => someK (lLoad1 [v37] H35) fun v38 => call f_infra_Lower [v38] H35 τ36 fun v39 H40 τ41 => binK .neq v39 (.str (bs [115,101,116,45,99,111,111,107,105,101])) fun v42 => gK v42 true (fun q' => q' v39 H40 τ41) H40 τ41 fun v43 H44 τ45 => gK v42 true (fun q' => binK .neq v43 (.str (bs [115,101,116,45,99,111,111,107,105,101,50])) fun v => q' v H44 τ45) H44 τ45 fun v46 H47 τ48 => someK (pPick [v42,v46,(.bool false)]) fun v49 =>
    gK v49 true (fun q' => q' t3 H47 τ48) H47 τ48 fun v50 H51 τ52 => gK v49 true (fun q' => q' v39 H51 τ52) H51 τ52 fun v53 H54 τ55 => gK v49 true (fun q' => opK call .callv [v50,v53] H54 τ55 q') H54 τ55 fun v56 H57 τ58 => someK (pPick [v49,v56,(.bool false)]) fun v59 => condK v59 (someK (pFieldAddr 2 [t9]) fun v60 => someK (lLoad1 [v60] H57) fun v61 => someK (lLoadN 2 [v31] H57) fun v62 => effK (eBuildSlice 1 2 [(.str []),(.str [])] [(0,2)] [v62] H57 τ58) fun v63 H64 τ65 => effK (eAppend 2 32 [v61,v63] H64 τ65) fun v66 H67 τ68 => someK (pFieldAddr 2 [t9]) fun v69 => effK (eStore 1 [v69,v66] H67 τ68) fun v70 H71 τ72 => s_filter_shown_j2 call N k ⟨(T.set (T.set (T.set (T.set (T.set (T.set (T.set (T.set (T.set (T.set (T.set (T.set (T.set (T.set .leaf 3 t3) 8 t8) 9 t9) 11 v31) 22 t22) 23 t23) 24 t24) 41 v59) 42 v60) 43 v61) 44 v62) 45 v63) 46 v66) 47 v69),H71⟩ τ72)
    (s_filter_shown_j2 call N k ⟨(T.set (T.set (T.set (T.set (T.set (T.set (T.set (T.set .leaf 3 t3) 8 t8) 9 t9) 11 v31) 22 t22) 23 t23) 24 t24) 41 v59),H57⟩ τ58)) (k (.exit 0) ⟨(T.set (T.set .leaf 8 t8) 9 t9),H⟩ τ)
def s_filter_shown (call : CallK) (N : Nat) (a0 a1 a2 a3 : V) (H : Heap) (τ : Tape) (q : KV) : Ans := effK (eBox [a1] H τ) fun v0 H1 τ2 => effK (eAlloc [(.int .i64 (.ofNat 0)),(.int .i64 (.ofNat 0)),.nils,.nils,(.str [])] [] H1 τ2) fun v3 H4 τ5 => someK (pFieldAddr 0 [v0]) fun v6 => someK (lLoad1 [v6] H4) fun v7 => someK (pFieldAddr 2 [v0]) fun v8 => someK (lLoad1 [v8] H4) fun v9 => call f_slices_Clone_byte [v9] H4 τ5 fun v10 H11 τ12 => someK (pBuild [(.int .i64 (.ofNat 0)),(.int .i64 (.ofNat 0)),.nils,.nils,(.str [])] [(0,1),(1,1),(3,1),(4,1)] [a0,v7,v10,a2]) fun v13 => effK (eAlloc [(.int .i64 (.ofNat 0)),(.int .i64 (.ofNat 0)),.nils,.nils,(.str [])] [] H11 τ12) fun v14 H15 τ16 => effK (eStore 5 [v14,v13] H15 τ16) fun v17 H18 τ19 => bif chkLoads [H4,H11,H15,H18] (((.load none),[v8],0,1) :: (((.load none),[v6],0,2) :: [])) then
    someK (pFieldAddr 1 [v0]) fun v20 => someK (lLoad1 [v20] H18) fun v21 => someK (pLen [v21]) fun v22 => loopK (s_filter_shown_l1 call N) N ⟨(T.set (T.set (T.set (T.set (T.set (T.set .leaf 3 a3) 8 v3) 9 v14) 22 v21) 23 v22) 24 (.int .i64 (.ofNat 0))),H18⟩ τ19 (blockK 0 (seqK (s_filter_shown_j0 call N q) (endK [(.cell 8 (some 5))] q))) else none
theorem s_filter_shown_eq (call : CallK) (N : Nat) (a0 a1 a2 a3 : V) (H : Heap) (τ : Tape) (q : KV) : s_filter_shown call N a0 a1 a2 a3 H τ q = funK call N fn_filter_shown [a0, a1, a2, a3] H τ q := by kernel_rfl
def e_filter_shown (call : CallK) (N : Nat) (vs : List V) (H : Heap) (τ : Tape) (q : KV) : Ans := match vs with | [a0, a1, a2, a3] => s_filter_shown call N a0 a1 a2 a3 H τ q | _ => none
theorem e_filter_shown_ok : EntOk fn_filter_shown e_filter_shown := by
  intro call N vs H τ q r h
  unfold e_filter_shown at h
  split at h
  · rw [s_filter_shown_eq] at h; exact h
  · cases h
theorem e_filter_shown_nat : EntNat e_filter_shown := by
  intro c hn N vs H τ q
  unfold e_filter_shown
  split
  · rw [s_filter_shown_eq, s_filter_shown_eq]; exact funK_ent hn _ _ _ _ _ _
  · rfl
/-- ostiary/filter.Own$1 -/
def fn_filter_Own_1 : Fun := ⟨1,(.seq (.reg [iR 2 (.p .mv) [(.c (.bool false))]]) (iK [] (.seq (.reg [iR 2 (.p .mv) [(.c (.bool true))]]) (iK [2] (iK [2] .ret))))),[(.t 2)]⟩
def s_filter_Own_1 (call : CallK) (N : Nat) (a0 : V) (H : Heap) (τ : Tape) (q : KV) : Ans := q (.bool true) H τ
theorem s_filter_Own_1_eq (call : CallK) (N : Nat) (a0 : V) (H : Heap) (τ : Tape) (q : KV) : s_filter_Own_1 call N a0 H τ q = funK call N fn_filter_Own_1 [a0] H τ q := by kernel_rfl
def e_filter_Own_1 (call : CallK) (N : Nat) (vs : List V) (H : Heap) (τ : Tape) (q : KV) : Ans := match vs with | [a0] => s_filter_Own_1 call N a0 H τ q | _ => none
theorem e_filter_Own_1_ok : EntOk fn_filter_Own_1 e_filter_Own_1 := by
  intro call N vs H τ q r h
  unfold e_filter_Own_1 at h
  split at h
  · rw [s_filter_Own_1_eq] at h; exact h
  · cases h
theorem e_filter_Own_1_nat : EntNat e_filter_Own_1 := by
  intro c hn N vs H τ q
  unfold e_filter_Own_1
  split
  · rw [s_filter_Own_1_eq, s_filter_Own_1_eq]; exact funK_ent hn _ _ _ _ _ _
  · rfl
/-- ostiary/ostiaryref20.cookies -/
def fn_ref20_cookies : Fun := ⟨1,(.seq (.reg [iR 1 (.e .box) [(.t 0)],iR 2 (.p .mv) [(.c (.bool false))]]) (iK [1] (.seq (.reg [iR 4 (.p (.fieldAddr 0)) [(.t 1)],iR 5 (.l (.load none)) [(.t 4)],iR 6 (.call 55) [(.t 5)],iM 3 6]) (iK [3] (.seq (.reg [iM 7 3,iR 8 (iB .eql) [(.t 7),(.c (.str (bs [115,101,116,45,99,111,111,107,105,101])))],iM 9 8,iN 10 9 false 3,iG 11 9 false (iB .eql) [(.t 10),(.c (.str (bs [115,101,116,45,99,111,111,107,105,101,50])))],iR 12 (.p .pick) [(.t 9),(.c (.bool true)),(.t 11)],iM 2 12]) (iK [2] (iK [2] .ret))))))),[(.t 2)]⟩
def s_ref20_cookies (call : CallK) (N : Nat) (a0 : V) (H : Heap) (τ : Tape) (q : KV) : Ans := effK (eBox [a0] H τ) fun v0 H1 τ2 => someK (pFieldAddr 0 [v0]) fun v3 => someK (lLoad1 [v3] H1) fun v4 => call f_ref1_Lower [v4] H1 τ2 fun v5 H6 τ7 => binK .eql v5 (.str (bs [115,101,116,45,99,111,111,107,105,101])) fun v8 => gK v8 false (fun q' => q' v5 H6 τ7) H6 τ7 fun v9 H10 τ11 => gK v8 false (fun q' => binK .eql v9 (.str (bs [115,101,116,45,99,111,111,107,105,101,50])) fun v => q' v H10 τ11) H10 τ11 fun v12 H13 τ14 => someK (pPick [v8,(.bool true),v12]) fun v15 => q v15 H13 τ14
theorem s_ref20_cookies_eq (call : CallK) (N : Nat) (a0 : V) (H : Heap) (τ : Tape) (q : KV) : s_ref20_cookies call N a0 H τ q = funK call N fn_ref20_cookies [a0] H τ q := by kernel_rfl
def e_ref20_cookies (call : CallK) (N : Nat) (vs : List V) (H : Heap) (τ : Tape) (q : KV) : Ans := match vs with | [a0] => s_ref20_cookies call N a0 H τ q | _ => none
theorem e_ref20_cookies_ok : EntOk fn_ref20_cookies e_ref20_cookies := by
  intro call N vs H τ q r h
  unfold e_ref20_cookies at h
  split at h
  · rw [s_ref20_cookies_eq] at h; exact h
  · cases h
theorem e_ref20_cookies_nat : EntNat e_ref20_cookies := by
  intro c hn N vs H τ q
  unfold e_ref20_cookies
  split
  · rw [s_ref20_cookies_eq, s_ref20_cookies_eq]; exact funK_ent hn _ _ _ _ _ _
  · rfl
/-- ostiary/filter.Share$1 -/
def fn_filter_Share_1 : Fun := ⟨3,(.seq (.reg [iR 4 (.p .mv) [(.c (.bool false))]]) (iK [0,1,2] (.seq (.seq (.reg [iM 5 0]) (iK [0,1,2,5] (.block 0 (.seq (.seq (.reg [iR 7 (iB .eql) [(.t 5),(.c (.str (bs [99,97,99,104,101,45,99,111,110,116,114,111,108])))],iM 6 7]) (iK [0,1,2,5,6] (.cond (.t 6) .skip (.seq (.reg [iR 8 (iB .eql) [(.t 5),(.c (.str (bs [99,111,110,116,101,110,116,45,108,97,110,103,117,97,103,101])))],iM 6 8]) (iK [0,1,2,5,6] (.cond (.t 6) .skip (.seq (.reg [iR 9 (iB .eql) [(.t 5),(.c (.str (bs [99,111,110,116,101,110,116,45,108,101,110,103,116,104])))],iM 6 9]) (iK [0,1,2,5,6] (.cond (.t 6) .skip
    (.seq (.reg [iR 10 (iB .eql) [(.t 5),(.c (.str (bs [99,111,110,116,101,110,116,45,116,121,112,101])))],iM 6 10]) (iK [0,1,2,5,6] (.cond (.t 6) .skip (.seq (.reg [iR 11 (iB .eql) [(.t 5),(.c (.str (bs [101,120,112,105,114,101,115])))],iM 6 11]) (iK [0,1,2,5,6] (.cond (.t 6) .skip (.seq (.reg [iR 12 (iB .eql) [(.t 5),(.c (.str (bs [108,97,115,116,45,109,111,100,105,102,105,101,100])))],iM 6 12]) (iK [0,1,2,5,6] (.cond (.t 6) .skip (.reg [iR 13 (iB .eql) [(.t 5),(.c (.str (bs [112,114,97,103,109,97])))],iM 6 13]))))))))))))))))))) (iK [0,1,2,6] (.cond (.t 6) (.seq (.reg [iR 4 (.p .mv) [(.c (.bool true))]]) (iK [4] (iK [4] .ret))) .skip)))))) (iK [0,1,2] (.seq (.reg [iR 14 (.l (.load none)) [(.t 1)],
    iM 15 14,iG 16 15 false (.l (.load none)) [(.t 2)],iN 17 15 false 0,iG 18 15 false (.call 53) [(.t 16),(.t 17)],iR 19 (.p .pick) [(.t 15),(.c (.bool true)),(.t 18)],iM 4 19]) (iK [4] (iK [4] .ret))))))),[(.t 4)]⟩
def s_filter_Share_1_j0 (call : CallK) (N : Nat) (q : KV) (st : St) (τ : Tape) : Ans := match st with
  | ⟨fr,H⟩ => getK fr 0 fun t0 => getK fr 1 fun t1 => getK fr 2 fun t2 => someK (lLoad1 [t1] H) fun v1 => gK v1 false (fun q' => someK (lLoad1 [t2] H) fun v => q' v H τ) H τ fun v2 H3 τ4 => gK v1 false (fun q' => q' t0 H3 τ4) H3 τ4 fun v5 H6 τ7 => gK v1 false (fun q' => call f_slices_Contains_string [v2,v5] H6 τ7 q') H6 τ7 fun v8 H9 τ10 => someK (pPick [v1,(.bool true),v8]) fun v11 => q v11 H9 τ10
def s_filter_Share_1_j1 (call : CallK) (N : Nat) (q : KV) (st : St) (τ : Tape) : Ans := match st with
  | ⟨fr,H⟩ => getK fr 0 fun t0 => getK fr 1 fun t1 => getK fr 2 fun t2 => getK fr 6 fun t6 => condK t6 (q (.bool true) H τ) (s_filter_Share_1_j0 call N q ⟨(T.set (T.set (T.set (T.set .leaf 0 t0) 1 t1) 2 t2) 6 t6),H⟩ τ)
def s_filter_Share_1 (call : CallK) (N : Nat) (a0 a1 a2 : V) (H : Heap) (τ : Tape) (q : KV) : Ans := binK .eql a0 (.str (bs [99,97,99,104,101,45,99,111,110,116,114,111,108])) fun v0 => condK v0 (s_filter_Share_1_j1 call N q ⟨(T.set (T.set (T.set (T.set (T.set .leaf 0 a0) 1 a1) 2 a2) 5 a0) 6 v0),H⟩ τ) (binK .eql a0 (.str (bs [99,111,110,116,101,110,116,45,108,97,110,103,117,97,103,101])) fun v12 => condK v12 (s_filter_Share_1_j1 call N q ⟨(T.set (T.set (T.set (T.set (T.set .leaf 0 a0) 1 a1) 2 a2) 5 a0) 6 v12),H⟩ τ) (binK .eql a0 (.str (bs [99,111,110,116,101,110,116,45,108,101,110,103,116,104])) fun v13 => condK v13 (s_filter_Share_1_j1 call N q ⟨(T.set (T.set (T.set (T.set (T.set .leaf 0 a0) 1 a1) 2 a2) 5 a0) 6 v13),H⟩ τ) (binK .eql a0 (.str (bs [99,111,110,116,101,110,116,45,116,121,112,101])) fun v14 => condK v14
    (s_filter_Share_1_j1 call N q ⟨(T.set (T.set (T.set (T.set (T.set .leaf 0 a0) 1 a1) 2 a2) 5 a0) 6 v14),H⟩ τ) (binK .eql a0 (.str (bs [101,120,112,105,114,101,115])) fun v15 => condK v15 (s_filter_Share_1_j1 call N q ⟨(T.set (T.set (T.set (T.set (T.set .leaf 0 a0) 1 a1) 2 a2) 5 a0) 6 v15),H⟩ τ) (binK .eql a0 (.str (bs [108,97,115,116,45,109,111,100,105,102,105,101,100])) fun v16 => condK v16 (s_filter_Share_1_j1 call N q ⟨(T.set (T.set (T.set (T.set (T.set .leaf 0 a0) 1 a1) 2 a2) 5 a0) 6 v16),H⟩ τ) (binK .eql a0 (.str (bs [112,114,97,103,109,97])) fun v17 => s_filter_Share_1_j1 call N q ⟨(T.set (T.set (T.set (T.set (T.set (T.set (T.set .leaf 0 a0) 1 a1) 2 a2) 5 a0) 6 v16) 13 v17) 6 v17),H⟩ τ))))))
theorem s_filter_Share_1_eq (call : CallK) (N : Nat) (a0 a1 a2 : V) (H : Heap) (τ : Tape) (q : KV) : s_filter_Share_1 call N a0 a1 a2 H τ q = funK call N fn_filter_Share_1 [a0, a1, a2] H τ q := by kernel_rfl
def e_filter_Share_1 (call : CallK) (N : Nat) (vs : List V) (H : Heap) (τ : Tape) (q : KV) : Ans := match vs with | [a0, a1, a2] => s_filter_Share_1 call N a0 a1 a2 H τ q | _ => none
theorem e_filter_Share_1_ok : EntOk fn_filter_Share_1 e_filter_Share_1 := by
  intro call N vs H τ q r h
  unfold e_filter_Share_1 at h
  split at h
  · rw [s_filter_Share_1_eq] at h; exact h
  · cases h
theorem e_filter_Share_1_nat : EntNat e_filter_Share_1 := by
  intro c hn N vs H τ q
  unfold e_filter_Share_1
  split
  · rw [s_filter_Share_1_eq, s_filter_Share_1_eq]; exact funK_ent hn _ _ _ _ _ _
  · rfl
/-- slices.Contains[[]string,string] -/
def fn_slices_Contains_string : Fun := ⟨2,(.seq (.reg [iR 4 (.p .mv) [(.c (.bool false))]]) (iK [0,1] (.seq (.reg [iM 5 0,iM 6 1,iR 7 (.call 82) [(.t 5),(.t 6)],iR 8 (iB .geq) [(.t 7),(iC 0)],iM 4 8]) (iK [4] (iK [4] .ret))))),[(.t 4)]⟩
def s_slices_Contains_string (call : CallK) (N : Nat) (a0 a1 : V) (H : Heap) (τ : Tape) (q : KV) : Ans := call f_slices_Index_string [a0,a1] H τ fun v0 H1 τ2 => binK .geq v0 (.int .i64 (.ofNat 0)) fun v3 => q v3 H1 τ2
theorem s_slices_Contains_string_eq (call : CallK) (N : Nat) (a0 a1 : V) (H : Heap) (τ : Tape) (q : KV) : s_slices_Contains_string call N a0 a1 H τ q = funK call N fn_slices_Contains_string [a0, a1] H τ q := by kernel_rfl
def e_slices_Contains_string (call : CallK) (N : Nat) (vs : List V) (H : Heap) (τ : Tape) (q : KV) : Ans := match vs with | [a0, a1] => s_slices_Contains_string call N a0 a1 H τ q | _ => none
theorem e_slices_Contains_string_ok : EntOk fn_slices_Contains_string e_slices_Contains_string := by
  intro call N vs H τ q r h
  unfold e_slices_Contains_string at h
  split at h
  · rw [s_slices_Contains_string_eq] at h; exact h
  · cases h
theorem e_slices_Contains_string_nat : EntNat e_slices_Contains_string := by
  intro c hn N vs H τ q
  unfold e_slices_Contains_string
  split
  · rw [s_slices_Contains_string_eq, s_slices_Contains_string_eq]; exact funK_ent hn _ _ _ _ _ _
  · rfl
/-- ostiary/ostiaryref1.Has -/
def fn_ref1_Has : Fun := ⟨2,(.seq (.reg [iR 4 (.p .mv) [(.c (.bool false))]]) (iK [0,1] (.seq (.seq (.reg [iR 5 (.p .mv) [(iC 0)]]) (iK [0,1,5] (.block 0 (.loop (iK [0,1,5] (.seq (.seq (.reg [iM 6 5,iM 7 0,iR 8 (.p .len) [(.t 7)],iR 9 (iB .lss) [(.t 6),(.t 8)]]) (iK [0,1,5,9] (.cond (.t 9) .skip (iK [] (.exit 0))))) (iK [0,1,5] (.seq (.block 1 (.seq (.reg [iM 12 0,iM 13 5,iR 14 (.p (.slIdx 1)) [(.t 12),(.t 13)],iR 15 (.l (.load none)) [(.t 14)],iM 16 1,iR 17 (iB .eql) [(.t 15),(.t 16)]]) (iK [0,1,5,17] (.cond (.t 17) (.seq (.reg [iR 4 (.p .mv) [(.c (.bool true))]]) (iK [4] (iK [4] .ret))) .skip)))) (iK [0,1,5] (.reg [iM 10 5,iR 11 (iB .add) [(.t 10),(iC 1)],
    iM 5 11])))))))))) (iK [] (.seq (.reg [iR 4 (.p .mv) [(.c (.bool false))]]) (iK [4] (iK [4] .ret))))))),[(.t 4)]⟩
def s_ref1_Has_j0 (call : CallK) (N : Nat) (q : KV) (st : St) (τ : Tape) : Ans := match st with
  | ⟨fr,H⟩ => q (.bool false) H τ
def s_ref1_Has_l1 (call : CallK) (N : Nat) (st : St) (τ : Tape) (k : KC) : Ans := match st with
  | ⟨fr,H⟩ => getK fr 0 fun t0 => getK fr 1 fun t1 => getK fr 5 fun t5 => someK (pLen [t0]) fun v0 => binK .lss t5 v0 fun v1 => condK v1 (someK (pSlIdx 1 [t0,t5]) fun v2 => someK (lLoad1 [v2] H) fun v3 => binK .eql v3 t1 fun v4 => condK v4 (k .ret ⟨(T.set .leaf 4 (.bool true)),H⟩ τ) (binK .add t5 (.int .i64 (.ofNat 1)) fun v5 => k .normal ⟨(T.set (T.set (T.set (T.set (T.set (T.set .leaf 0 t0) 1 t1) 5 t5) 10 t5) 11 v5) 5 v5),H⟩ τ)) (k (.exit 0) ⟨.leaf,H⟩ τ)
def s_ref1_Has (call : CallK) (N : Nat) (a0 a1 : V) (H : Heap) (τ : Tape) (q : KV) : Ans := loopK (s_ref1_Has_l1 call N) N ⟨(T.set (T.set (T.set .leaf 0 a0) 1 a1) 5 (.int .i64 (.ofNat 0))),H⟩ τ (blockK 0 (seqK (s_ref1_Has_j0 call N q) (endK [(.t 4)] q)))
theorem s_ref1_Has_eq (call : CallK) (N : Nat) (a0 a1 : V) (H : Heap) (τ : Tape) (q : KV) : s_ref1_Has call N a0 a1 H τ q = funK call N fn_ref1_Has [a0, a1] H τ q := by kernel_rfl
def e_ref1_Has (call : CallK) (N : Nat) (vs : List V) (H : Heap) (τ : Tape) (q : KV) : Ans := match vs with | [a0, a1] => s_ref1_Has call N a0 a1 H τ q | _ => none
theorem e_ref1_Has_ok : EntOk fn_ref1_Has e_ref1_Has := by
  intro call N vs H τ q r h
  unfold e_ref1_Has at h
  split at h
  · rw [s_ref1_Has_eq] at h; exact h
  · cases h
theorem e_ref1_Has_nat : EntNat e_ref1_Has := by
  intro c hn N vs H τ q
  unfold e_ref1_Has
  split
  · rw [s_ref1_Has_eq, s_ref1_Has_eq]; exact funK_ent hn _ _ _ _ _ _
  · rfl
/-- ostiary/ostiaryref1.Lower -/
def fn_ref1_Lower : Fun := ⟨1,(.seq (.reg [iR 2 (.p .mv) [(.c (.str []))]]) (iK [0] (.seq (.reg [iM 5 0,iR 6 (.e .strBytes) [(.t 5)],iM 3 6]) (iK [3] (.seq (.seq (.reg [iR 4 (.p .mv) [(iC 0)]]) (iK [3,4] (.block 0 (.loop (iK [3,4] (.seq (.seq (.reg [iM 7 4,iM 8 3,iR 9 (.p .len) [(.t 8)],iR 10 (iB .lss) [(.t 7),(.t 9)]]) (iK [3,4,10] (.cond (.t 10) .skip (iK [3] (.exit 0))))) (iK [3,4] (.seq (.block 1 (.seq (.reg [iM 13 3,iM 14 4,iR 15 (.p (.slIdx 1)) [(.t 13),(.t 14)],iR 16 (.l (.load none)) [(.t 15)],iR 17 (iB .geq) [(.t 16),(iU 65)],iM 18 17,iN 19 18 true 3,iN 20 18 true 4,iG 21 18 true (.p (.slIdx 1)) [(.t 19),(.t 20)],
    iG 22 18 true (.l (.load none)) [(.t 21)],iG 23 18 true (iB .leq) [(.t 22),(iU 90)],iR 24 (.p .pick) [(.t 18),(.t 23),(.c (.bool false))]]) (iK [3,4,24] (.cond (.t 24) (.reg [iM 25 3,iM 26 4,iM 27 3,iM 28 4,iR 29 (.p (.slIdx 1)) [(.t 27),(.t 28)],iR 30 (.l (.load none)) [(.t 29)],iR 31 (iB .add) [(.t 30),(iU 32)],iR 32 (.p (.slIdx 1)) [(.t 25),(.t 26)],⟨none,none,(.e (.store 1)),[(.t 32),(.t 31)],none⟩]) .skip)))) (iK [3,4] (.reg [iM 11 4,iR 12 (iB .add) [(.t 11),(iC 1)],iM 4 12])))))))))) (iK [3] (.seq (.reg [iM 33 3,iR 34 (.l .bytesStr) [(.t 33)],iM 2 34]) (iK [2] (iK [2] .ret))))))))),[(.t 2)]⟩
def s_ref1_Lower_j0 (call : CallK) (N : Nat) (q : KV) (st : St) (τ : Tape) : Ans := match st with
  | ⟨fr,H⟩ => getK fr 3 fun t3 => someK (lBytesStr [t3] H) fun v3 => q v3 H τ
def s_ref1_Lower_j2 (call : CallK) (N : Nat) (k : KC) (st : St) (τ : Tape) : Ans := match st with
  | ⟨fr,H⟩ => getK fr 3 fun t3 => getK fr 4 fun t4 => binK .add t4 (.int .i64 (.ofNat 1)) fun v6 => k .normal ⟨(T.set (T.set (T.set (T.set (T.set .leaf 3 t3) 4 t4) 11 t4) 12 v6) 4 v6),H⟩ τ
def s_ref1_Lower_l1 (call : CallK) (N : Nat) (st : St) (τ : Tape) (k : KC) : Ans := match st with
  | ⟨fr,H⟩ => getK fr 3 fun t3 => getK fr 4 fun t4 => someK (pLen [t3]) fun v4 => binK .lss t4 v4 fun v5 => condK v5 (someK (pSlIdx 1 [t3,t4]) fun v7 => someK (lLoad1 [v7] H) fun v8 => binK .geq v8 (.int .u8 (.ofNat 65)) fun v9 => gK v9 true (fun q' => q' t3 H τ) H τ fun v10 H11 τ12 => gK v9 true (fun q' => q' t4 H11 τ12) H11 τ12 fun v13 H14 τ15 => gK v9 true (fun q' => someK (pSlIdx 1 [v10,v13]) fun v => q' v H14 τ15) H14 τ15 fun v16 H17 τ18 => gK v9 true (fun q' => someK (lLoad1 [v16] H17) fun v => q' v H17 τ18) H17 τ18 fun v19 H20 τ21 => gK v9 true (fun q' => binK .leq v19 (.int .u8 (.ofNat 90)) fun v => q' v H20 τ21) H20 τ21 fun v22 H23 τ24 => someK (pPick [v9,v22,(.bool false)]) fun v25 => condK v25 (someK (pSlIdx 1 [t3,t4]) fun v26 => someK (lLoad1 [v26] H23) fun v27 => binK .add v27 (.int .u8 (.ofNat 32)) fun v28 => someK (pSlIdx 1 [t3,t4]) fun v29 =>
    effK (eStore 1 [v29,v28] H23 τ24) fun v30 H31 τ32 => s_ref1_Lower_j2 call N k ⟨(T.set (T.set (T.set (T.set (T.set (T.set (T.set (T.set (T.set (T.set (T.set .leaf 3 t3) 4 t4) 24 v25) 25 t3) 26 t4) 27 t3) 28 t4) 29 v26) 30 v27) 31 v28) 32 v29),H31⟩ τ32) (s_ref1_Lower_j2 call N k ⟨(T.set (T.set (T.set .leaf 3 t3) 4 t4) 24 v25),H23⟩ τ24)) (k (.exit 0) ⟨(T.set .leaf 3 t3),H⟩ τ)
def s_ref1_Lower (call : CallK) (N : Nat) (a0 : V) (H : Heap) (τ : Tape) (q : KV) : Ans := effK (eStrBytes [a0] H τ) fun v0 H1 τ2 => loopK (s_ref1_Lower_l1 call N) N ⟨(T.set (T.set .leaf 3 v0) 4 (.int .i64 (.ofNat 0))),H1⟩ τ2 (blockK 0 (seqK (s_ref1_Lower_j0 call N q) (endK [(.t 2)] q)))
theorem s_ref1_Lower_eq (call : CallK) (N : Nat) (a0 : V) (H : Heap) (τ : Tape) (q : KV) : s_ref1_Lower call N a0 H τ q = funK call N fn_ref1_Lower [a0] H τ q := by kernel_rfl
def e_ref1_Lower (call : CallK) (N : Nat) (vs : List V) (H : Heap) (τ : Tape) (q : KV) : Ans := match vs with | [a0] => s_ref1_Lower call N a0 H τ q | _ => none
theorem e_ref1_Lower_ok : EntOk fn_ref1_Lower e_ref1_Lower := by
  intro call N vs H τ q r h
  unfold e_ref1_Lower at h
  split at h
  · rw [s_ref1_Lower_eq] at h; exact h
  · cases h
theorem e_ref1_Lower_nat : EntNat e_ref1_Lower := by
  intro c hn N vs H τ q
  unfold e_ref1_Lower
  split
  · rw [s_ref1_Lower_eq, s_ref1_Lower_eq]; exact funK_ent hn _ _ _ _ _ _
  · rfl
/-- ostiary/ostiarylaw20.h -/
def fn_law20_h : Fun := ⟨2,(.seq (.reg [iR 4 (.e (.alloc [(.str []),(.str [])])) []]) (iK [0,1,4] (.seq (.reg [iM 5 0,iM 6 1,iR 7 (.p (.build [(.str []),(.str [])] [(0,1),(1,1)])) [(.t 5),(.t 6)],⟨none,none,(.e (.store 2)),[(.t 4),(.t 7)],none⟩]) (iK [4] (iK [4] .ret))))),[(.cell 4 (some 2))]⟩
/-- ostiary/infra.Lower -/
def fn_infra_Lower : Fun := ⟨1,(.seq (.reg [iR 2 (.p .mv) [(.c (.str []))]]) (iK [0] (.seq (.reg [iM 3 0,iR 4 (.call 85) [(.t 3),(.c (.func 86 [] []))],iM 2 4]) (iK [2] (iK [2] .ret))))),[(.t 2)]⟩
/-- ostiary/headers.Get -/
def fn_headers_Get : Fun := ⟨2,(.seq (.reg [iR 4 (.p .mv) [(.c (.str []))],iR 5 (.p .mv) [(.c (.bool false))]]) (iK [0,1] (.seq (.reg [iR 6 (.p .mv) [(.c .nils)]]) (iK [0,1,6] (.seq (.seq (.reg [iM 9 0,iR 10 (.p .len) [(.t 9)],iR 11 (.p .mv) [(iC 0)]]) (iK [1,6,9,10,11] (.block 0 (.loop (iK [1,6,9,10,11] (.seq (.reg [iR 12 (iB .lss) [(.t 11),(.t 10)]]) (iK [1,6,9,10,11,12] (.seq (.cond (.t 12) .skip (iK [6] (.exit 0))) (iK [1,6,9,10,11] (.seq (.block 1 (.seq (.reg [iR 13 (.p (.slIdx 2)) [(.t 9),(.t 11)],iR 14 (.l (.load (some 2))) [(.t 13)],iR 8 (.e (.alloc [(.str []),(.str [])])) [],⟨none,none,(.e (.store 2)),[(.t 8),(.t 14)],none⟩]) (iK [1,6,8,9,10,11] (.seq (.reg [iR 15 (.l (.load (some 2))) [(.t 8)],iM 16 1,iR 17 (.call 87) [(.t 15),(.t 16)]])
    (iK [1,6,8,9,10,11,17] (.cond (.t 17) (.reg [iM 18 6,iR 19 (.p (.fieldAddr 1)) [(.t 8)],iR 20 (.l (.load none)) [(.t 19)],iR 21 (.e (.buildSlice 1 1 [(.str [])] [(0,1)])) [(.t 20)],iR 22 (.e (.append 1 16)) [(.t 18),(.t 21)],iM 6 22]) .skip)))))) (iK [1,6,9,10,11] (.reg [iR 23 (iB .add) [(.t 11),(iC 1)],iM 11 23])))))))))))) (iK [6] (.seq (.reg [iM 24 6,iR 25 (.call 88) [(.t 24),(.c (.str (bs [44,32])))],iM 26 6,iR 27 (.p .len) [(.t 26)],iR 28 (iB .gtr) [(.t 27),(iC 0)],iM 4 25,iM 5 28]) (iK [4,5] (iK [4,5] .ret))))))))),[(.t 4),(.t 5)]⟩
def s_headers_Get_j0 (call : CallK) (N : Nat) (q : KV) (st : St) (τ : Tape) : Ans := match st with
  | ⟨fr,H⟩ => getK fr 6 fun t6 => call f_strings_Join [t6,(.str (bs [44,32]))] H τ fun v1 H2 τ3 => someK (pLen [t6]) fun v4 => binK .gtr v4 (.int .i64 (.ofNat 0)) fun v5 => q (.tup [v1,v5]) H2 τ3
def s_headers_Get_j2 (call : CallK) (N : Nat) (k : KC) (st : St) (τ : Tape) : Ans := match st with
  | ⟨fr,H⟩ => getK fr 1 fun t1 => getK fr 6 fun t6 => getK fr 9 fun t9 => getK fr 10 fun t10 => getK fr 11 fun t11 => binK .add t11 (.int .i64 (.ofNat 1)) fun v7 => k .normal ⟨(T.set (T.set (T.set (T.set (T.set (T.set (T.set .leaf 1 t1) 6 t6) 9 t9) 10 t10) 11 t11) 23 v7) 11 v7),H⟩ τ
def s_headers_Get_l1 (call : CallK) (N : Nat) (st : St) (τ : Tape) (k : KC) : Ans := match st with
  | ⟨fr,H⟩ => getK fr 1 fun t1 => getK fr 6 fun t6 => getK fr 9 fun t9 => getK fr 10 fun t10 => getK fr 11 fun t11 => binK .lss t11 t10 fun v6 => condK v6 (someK (pSlIdx 2 [t9,t11]) fun v8 => someK (lLoadN 2 [v8] H) fun v9 => effK (eAlloc [(.str []),(.str [])] [] H τ) fun v10 H11 τ12 => effK (eStore 2 [v10,v9] H11 τ12) fun v13 H14 τ15 => someK (lLoadN 2 [v10] H14) fun v16 => call f_headers_is [v16,t1] H14 τ15 fun v17 H18 τ19 => condK v17 (someK (pFieldAddr 1 [v10]) fun v20 => someK (lLoad1 [v20] H18) fun v21 => effK (eBuildSlice 1 1 [(.str [])] [(0,1)] [v21] H18 τ19) fun v22 H23 τ24 => effK (eAppend 1 16 [t6,v22] H23 τ24) fun v25 H26 τ27 => s_headers_Get_j2 call N k ⟨(T.set (T.set (T.set (T.set (T.set (T.set (T.set (T.set (T.set (T.set (T.set (T.set (T.set .leaf 1 t1) 6 t6) 8 v10) 9 t9) 10 t10) 11 t11) 17 v17) 18 t6) 19 v20) 20 v21) 21 v22) 22 v25) 6 v25),H26⟩ τ27)
    (s_headers_Get_j2 call N k ⟨(T.set (T.set (T.set (T.set (T.set (T.set (T.set .leaf 1 t1) 6 t6) 8 v10) 9 t9) 10 t10) 11 t11) 17 v17),H18⟩ τ19)) (k (.exit 0) ⟨(T.set .leaf 6 t6),H⟩ τ)
def s_headers_Get (call : CallK) (N : Nat) (a0 a1 : V) (H : Heap) (τ : Tape) (q : KV) : Ans := someK (pLen [a0]) fun v0 => loopK (s_headers_Get_l1 call N) N ⟨(T.set (T.set (T.set (T.set (T.set .leaf 1 a1) 6 .nils) 9 a0) 10 v0) 11 (.int .i64 (.ofNat 0))),H⟩ τ (blockK 0 (seqK (s_headers_Get_j0 call N q) (endK [(.t 4),(.t 5)] q)))
theorem s_headers_Get_eq (call : CallK) (N : Nat) (a0 a1 : V) (H : Heap) (τ : Tape) (q : KV) : s_headers_Get call N a0 a1 H τ q = funK call N fn_headers_Get [a0, a1] H τ q := by kernel_rfl
def e_headers_Get (call : CallK) (N : Nat) (vs : List V) (H : Heap) (τ : Tape) (q : KV) : Ans := match vs with | [a0, a1] => s_headers_Get call N a0 a1 H τ q | _ => none
theorem e_headers_Get_ok : EntOk fn_headers_Get e_headers_Get := by
  intro call N vs H τ q r h
  unfold e_headers_Get at h
  split at h
  · rw [s_headers_Get_eq] at h; exact h
  · cases h
theorem e_headers_Get_nat : EntNat e_headers_Get := by
  intro c hn N vs H τ q
  unfold e_headers_Get
  split
  · rw [s_headers_Get_eq, s_headers_Get_eq]; exact funK_ent hn _ _ _ _ _ _
  · rfl
/-- ostiary/ostiaryref1.Sorted -/
def fn_ref1_Sorted : Fun := ⟨1,(.seq (.reg [iR 2 (.p .mv) [(.c .nils)]]) (iK [0] (.seq (.reg [iR 3 (.p .mv) [(.c .nils)]]) (iK [0,3] (.seq (.seq (.reg [iR 4 (.p .mv) [(iC 0)]]) (iK [0,3,4] (.block 0 (.loop (iK [0,3,4] (.seq (.seq (.reg [iM 6 4,iM 7 0,iR 8 (.p .len) [(.t 7)],iR 9 (iB .lss) [(.t 6),(.t 8)]]) (iK [0,3,4,9] (.cond (.t 9) .skip (iK [3] (.exit 0))))) (iK [0,3,4] (.seq (.block 1 (.seq (.reg [iR 5 (.p .mv) [(iC 0)]]) (iK [0,3,4,5] (.seq (.block 2 (.loop (iK [0,3,4,5] (.seq (.seq (.draw [iM 12 5,iM 13 3,iR 14 (.p .len) [(.t 13)],iR 15 (iB .lss) [(.t 12),(.t 14)],iM 16 15,iN 17 16 true 3,iN 18 16 true 5,iG 19 16 true (.p (.slIdx 1)) [(.t 17),(.t 18)],
    iG 20 16 true (.l (.load none)) [(.t 19)],iN 21 16 true 0,iN 22 16 true 4,iG 23 16 true (.p (.slIdx 1)) [(.t 21),(.t 22)],iG 24 16 true (.l (.load none)) [(.t 23)],iG 25 16 true (iB .lss) [(.t 20),(.t 24)],iR 26 (.p .pick) [(.t 16),(.t 25),(.c (.bool false))]]) (iK [0,3,4,5,26] (.cond (.t 26) .skip (iK [0,3,4,5] (.exit 2))))) (iK [0,3,4,5] (.block 3 (.reg [iM 27 5,iR 28 (iB .add) [(.t 27),(iC 1)],iM 5 28]))))))) (iK [0,3,4,5] (.seq (.seq (.draw [iM 29 5,iM 30 3,iR 31 (.p .len) [(.t 30)],iR 32 (iB .lss) [(.t 29),(.t 31)],iM 33 32,iN 34 33 true 3,iN 35 33 true 5,iG 36 33 true (.p (.slIdx 1)) [(.t 34),(.t 35)],
    iG 37 33 true (.l (.load none)) [(.t 36)],iN 38 33 true 0,iN 39 33 true 4,iG 40 33 true (.p (.slIdx 1)) [(.t 38),(.t 39)],iG 41 33 true (.l (.load none)) [(.t 40)],iG 42 33 true (iB .eql) [(.t 37),(.t 41)],iR 43 (.p .pick) [(.t 33),(.t 42),(.c (.bool false))]]) (iK [0,3,4,5,43] (.cond (.t 43) (iK [0,3,4] (.exit 1)) .skip))) (iK [0,3,4,5] (.seq (.reg [iM 44 3,iR 45 (.e (.buildSlice 1 1 [(.str [])] [(0,1)])) [(.c (.str []))],iR 46 (.e (.append 1 16)) [(.t 44),(.t 45)],iM 3 46]) (iK [0,3,4,5] (.seq (.draw [iM 47 3,iM 48 5,iR 49 (iB .add) [(.t 48),(iC 1)],iR 50 (.p (.slSlice 1 true false false)) [(.t 47),(.t 49)],iM 51 3,iM 52 5,
    iR 53 (.p (.slSlice 1 true false false)) [(.t 51),(.t 52)],iR 54 (.e (.copy 1)) [(.t 50),(.t 53)]]) (iK [0,3,4,5] (.reg [iM 55 3,iM 56 5,iM 57 0,iM 58 4,iR 59 (.p (.slIdx 1)) [(.t 57),(.t 58)],iR 60 (.l (.load none)) [(.t 59)],iR 61 (.p (.slIdx 1)) [(.t 55),(.t 56)],⟨none,none,(.e (.store 1)),[(.t 61),(.t 60)],none⟩])))))))))))) (iK [0,3,4] (.reg [iM 10 4,iR 11 (iB .add) [(.t 10),(iC 1)],iM 4 11])))))))))) (iK [3] (.seq (.reg [iM 62 3,iM 2 62]) (iK [2] (iK [2] .ret))))))))),[(.t 2)]⟩
def s_ref1_Sorted_j0 (call : CallK) (N : Nat) (q : KV) (st : St) (τ : Tape) : Ans := match st with
  | ⟨fr,H⟩ => getK fr 3 fun t3 => q t3 H τ
def s_ref1_Sorted_j2 (call : CallK) (N : Nat) (k : KC) (st : St) (τ : Tape) : Ans := match st with
  | ⟨fr,H⟩ => getK fr 0 fun t0 => getK fr 3 fun t3 => getK fr 4 fun t4 => binK .add t4 (.int .i64 (.ofNat 1)) fun v2 => k .normal ⟨(T.set (T.set (T.set (T.set (T.set (T.set .leaf 0 t0) 3 t3) 4 t4) 10 t4) 11 v2) 4 v2),H⟩ τ
def s_ref1_Sorted_j3 (call : CallK) (N : Nat) (k : KC) (st : St) (τ : Tape) : Ans := match st with
  | ⟨fr,H⟩ => getK fr 0 fun t0 => getK fr 3 fun t3 => getK fr 4 fun t4 => getK fr 5 fun t5 => someK (pLen [t3]) fun v3 => binK .lss t5 v3 fun v4 => gK v4 true (fun q' => q' t3 H τ) H τ fun v5 H6 τ7 => gK v4 true (fun q' => q' t5 H6 τ7) H6 τ7 fun v8 H9 τ10 => gK v4 true (fun q' => someK (pSlIdx 1 [v5,v8]) fun v => q' v H9 τ10) H9 τ10 fun v11 H12 τ13 => gK v4 true (fun q' => someK (lLoad1 [v11] H12) fun v => q' v H12 τ13) H12 τ13 fun v14 H15 τ16 => gK v4 true (fun q' => q' t0 H15 τ16) H15 τ16 fun v17 H18 τ19 => gK v4 true (fun q' => q' t4 H18 τ19) H18 τ19 fun v20 H21 τ22 => gK v4 true (fun q' => someK (pSlIdx 1 [v17,v20]) fun v => q' v H21 τ22) H21 τ22 fun v23 H24 τ25 => gK v4 true (fun q' => someK (lLoad1 [v23] H24) fun v => q' v H24 τ25) H24 τ25 fun v26 H27 τ28 => gK v4 true (fun q' => binK .eql v14 v26 fun v => q' v H27 τ28) H27 τ28 fun v29 H30 τ31 =>
    someK (pPick [v4,v29,(.bool false)]) fun v32 => condK v32 (s_ref1_Sorted_j2 call N k ⟨(T.set (T.set (T.set .leaf 0 t0) 3 t3) 4 t4),H30⟩ τ31) (effK (eBuildSlice 1 1 [(.str [])] [(0,1)] [(.str [])] H30 τ31) fun v33 H34 τ35 => effK (eAppend 1 16 [t3,v33] H34 τ35) fun v36 H37 τ38 => binK .add t5 (.int .i64 (.ofNat 1)) fun v39 => someK (pSlSlice 1 true false false [v36,v39]) fun v40 => someK (pSlSlice 1 true false false [v36,t5]) fun v41 => effK (eCopy 1 [v40,v41] H37 τ38) fun v42 H43 τ44 => someK (pSlIdx 1 [t0,t4]) fun v45 => someK (lLoad1 [v45] H43) fun v46 => someK (pSlIdx 1 [v36,t5]) fun v47 => effK (eStore 1 [v47,v46] H43 τ44) fun v48 H49 τ50 => s_ref1_Sorted_j2 call N k ⟨(T.set (T.set (T.set (T.set (T.set (T.set (T.set (T.set (T.set (T.set (T.set .leaf 0 t0) 3 v36) 4 t4) 5 t5) 55 v36) 56 t5) 57 t0) 58 t4) 59 v45) 60 v46) 61 v47),H49⟩ τ50)
def s_ref1_Sorted_l4 (call : CallK) (N : Nat) (st : St) (τ : Tape) (k : KC) : Ans := match st with
  | ⟨fr,H⟩ => getK fr 0 fun t0 => getK fr 3 fun t3 => getK fr 4 fun t4 => getK fr 5 fun t5 => someK (pLen [t3]) fun v51 => binK .lss t5 v51 fun v52 => gK v52 true (fun q' => q' t3 H τ) H τ fun v53 H54 τ55 => gK v52 true (fun q' => q' t5 H54 τ55) H54 τ55 fun v56 H57 τ58 => gK v52 true (fun q' => someK (pSlIdx 1 [v53,v56]) fun v => q' v H57 τ58) H57 τ58 fun v59 H60 τ61 => gK v52 true (fun q' => someK (lLoad1 [v59] H60) fun v => q' v H60 τ61) H60 τ61 fun v62 H63 τ64 => gK v52 true (fun q' => q' t0 H63 τ64) H63 τ64 fun v65 H66 τ67 => gK v52 true (fun q' => q' t4 H66 τ67) H66 τ67 fun v68 H69 τ70 => gK v52 true (fun q' => someK (pSlIdx 1 [v65,v68]) fun v => q' v H69 τ70) H69 τ70 fun v71 H72 τ73 => gK v52 true (fun q' => someK (lLoad1 [v71] H72) fun v => q' v H72 τ73) H72 τ73 fun v74 H75 τ76 => gK v52 true (fun q' => binK .lss v62 v74 fun v => q' v H75 τ76) H75 τ76 fun v77 H78 τ79 =>
    someK (pPick [v52,v77,(.bool false)]) fun v80 => condK v80 (binK .add t5 (.int .i64 (.ofNat 1)) fun v81 => k .normal ⟨(T.set (T.set (T.set (T.set (T.set (T.set (T.set .leaf 0 t0) 3 t3) 4 t4) 5 t5) 27 t5) 28 v81) 5 v81),H78⟩ τ79) (k (.exit 2) ⟨(T.set (T.set (T.set (T.set .leaf 0 t0) 3 t3) 4 t4) 5 t5),H78⟩ τ79)
def s_ref1_Sorted_l1 (call : CallK) (N : Nat) (st : St) (τ : Tape) (k : KC) : Ans := match st with
  | ⟨fr,H⟩ => getK fr 0 fun t0 => getK fr 3 fun t3 => getK fr 4 fun t4 => someK (pLen [t0]) fun v0 => binK .lss t4 v0 fun v1 => condK v1 (loopK (s_ref1_Sorted_l4 call N) N ⟨(T.set (T.set (T.set (T.set .leaf 0 t0) 3 t3) 4 t4) 5 (.int .i64 (.ofNat 0))),H⟩ τ (blockK 2 (seqK (s_ref1_Sorted_j3 call N k) (blockK 1 (seqK (s_ref1_Sorted_j2 call N k) k))))) (k (.exit 0) ⟨(T.set .leaf 3 t3),H⟩ τ)
def s_ref1_Sorted (call : CallK) (N : Nat) (a0 : V) (H : Heap) (τ : Tape) (q : KV) : Ans := loopK (s_ref1_Sorted_l1 call N) N ⟨(T.set (T.set (T.set .leaf 0 a0) 3 .nils) 4 (.int .i64 (.ofNat 0))),H⟩ τ (blockK 0 (seqK (s_ref1_Sorted_j0 call N q) (endK [(.t 2)] q)))
theorem s_ref1_Sorted_eq (call : CallK) (N : Nat) (a0 : V) (H : Heap) (τ : Tape) (q : KV) : s_ref1_Sorted call N a0 H τ q = funK call N fn_ref1_Sorted [a0] H τ q := by kernel_rfl
def e_ref1_Sorted (call : CallK) (N : Nat) (vs : List V) (H : Heap) (τ : Tape) (q : KV) : Ans := match vs with | [a0] => s_ref1_Sorted call N a0 H τ q | _ => none
theorem e_ref1_Sorted_ok : EntOk fn_ref1_Sorted e_ref1_Sorted := by
  intro call N vs H τ q r h
  unfold e_ref1_Sorted at h
  split at h
  · rw [s_ref1_Sorted_eq] at h; exact h
  · cases h
theorem e_ref1_Sorted_nat : EntNat e_ref1_Sorted := by
  intro c hn N vs H τ q
  unfold e_ref1_Sorted
  split
  · rw [s_ref1_Sorted_eq, s_ref1_Sorted_eq]; exact funK_ent hn _ _ _ _ _ _
  · rfl
/-- ostiary/headers.Split -/
def fn_headers_Split : Fun := ⟨2,(.seq (.reg [iR 4 (.p .mv) [(.c .nils)],iR 5 (.p .mv) [(.c (.bool false))]]) (iK [0,1] (.seq (.reg [iM 13 0,iM 14 1,iR 15 (.call 60) [(.t 13),(.t 14)],iM 12 15,iR 16 (.p (.extract 0)) [(.t 12)],iR 17 (.p (.extract 1)) [(.t 12)],iM 6 16,iM 7 17]) (iK [6,7] (.seq (.seq (.reg [iM 18 7,iR 19 (.p (.un .not)) [(.t 18)]]) (iK [6,19] (.cond (.t 19) (.seq (.reg [iR 4 (.p .mv) [(.c .nils)],iR 5 (.p .mv) [(.c (.bool false))]]) (iK [4,5] (iK [4,5] .ret))) .skip))) (iK [6] (.seq (.reg [iR 8 (.p .mv) [(.c .nils)]]) (iK [6,8] (.seq (.reg [iR 9 (.p .mv) [(.c (.bool false))],iR 10 (.p .mv) [(iC 0)]]) (iK [6,8,9,10] (.seq (.seq (.reg [iR 11 (.p .mv) [(iC 0)]])
    (iK [6,8,9,10,11] (.block 0 (.loop (iK [6,8,9,10,11] (.seq (.seq (.reg [iM 20 11,iM 21 6,iR 22 (.p .lenS) [(.t 21)],iR 23 (iB .lss) [(.t 20),(.t 22)]]) (iK [6,8,9,10,11,23] (.cond (.t 23) .skip (iK [6,8,10] (.exit 0))))) (iK [6,8,9,10,11] (.seq (.block 1 (.block 2 (.seq (.reg [iM 27 6,iM 28 11,iR 29 (.p .strIndex) [(.t 27),(.t 28)],iR 30 (iB .eql) [(.t 29),(iU 34)],iM 26 30]) (iK [6,8,9,10,11,26] (.cond (.t 26) (.reg [iM 31 9,iR 32 (.p (.un .not)) [(.t 31)],iM 9 32]) (.seq (.reg [iM 34 9,iM 35 34,iN 36 35 true 6,iN 37 35 true 11,iG 38 35 true (.p .strIndex) [(.t 36),(.t 37)],
    iG 39 35 true (iB .eql) [(.t 38),(iU 92)],iR 40 (.p .pick) [(.t 35),(.t 39),(.c (.bool false))],iM 33 40]) (iK [6,8,9,10,11,33] (.cond (.t 33) (.reg [iM 41 11,iR 42 (iB .add) [(.t 41),(iC 1)],iM 11 42]) (.seq (.reg [iM 44 9,iR 45 (.p (.un .not)) [(.t 44)],iM 46 45,iN 47 46 true 6,iN 48 46 true 11,iG 49 46 true (.p .strIndex) [(.t 47),(.t 48)],iG 50 46 true (iB .eql) [(.t 49),(iU 44)],iR 51 (.p .pick) [(.t 46),(.t 50),(.c (.bool false))],iM 43 51]) (iK [6,8,9,10,11,43] (.cond (.t 43) (.seq (.reg [iM 52 8,iM 53 6,iM 54 10,iM 55 11,
    iR 56 (.p (.strSlice true true)) [(.t 53),(.t 54),(.t 55)],iR 57 (.call 110) [(.t 56),(.c (.str (bs [9,32])))],iR 58 (.e (.buildSlice 1 1 [(.str [])] [(0,1)])) [(.t 57)],iR 59 (.e (.append 1 16)) [(.t 52),(.t 58)],iM 8 59]) (iK [6,8,9,11] (.reg [iM 60 11,iR 61 (iB .add) [(.t 60),(iC 1)],iM 10 61]))) .skip))))))))))) (iK [6,8,9,10,11] (.reg [iM 24 11,iR 25 (iB .add) [(.t 24),(iC 1)],iM 11 25])))))))))) (iK [6,8,10] (.seq (.reg [iM 62 8,iM 63 6,iM 64 10,iR 65 (.p (.strSlice true false)) [(.t 63),(.t 64)],iR 66 (.call 110) [(.t 65),(.c (.str (bs [9,32])))],iR 67 (.e (.buildSlice 1 1 [(.str [])] [(0,1)])) [(.t 66)],iR 68 (.e (.append 1 16)) [(.t 62),(.t 67)],
    iM 4 68,iR 5 (.p .mv) [(.c (.bool true))]]) (iK [4,5] (iK [4,5] .ret))))))))))))))),[(.t 4),(.t 5)]⟩
def s_headers_Split_j0 (call : CallK) (N : Nat) (q : KV) (st : St) (τ : Tape) : Ans := match st with
  | ⟨fr,H⟩ => getK fr 6 fun t6 => getK fr 8 fun t8 => getK fr 10 fun t10 => someK (pStrSlice true false [t6,t10]) fun v6 => call f_strings_Trim [v6,(.str (bs [9,32]))] H τ fun v7 H8 τ9 => effK (eBuildSlice 1 1 [(.str [])] [(0,1)] [v7] H8 τ9) fun v10 H11 τ12 => effK (eAppend 1 16 [t8,v10] H11 τ12) fun v13 H14 τ15 => q (.tup [v13,(.bool true)]) H14 τ15
def s_headers_Split_j2 (call : CallK) (N : Nat) (k : KC) (st : St) (τ : Tape) : Ans := match st with
  | ⟨fr,H⟩ => getK fr 6 fun t6 => getK fr 8 fun t8 => getK fr 9 fun t9 => getK fr 10 fun t10 => getK fr 11 fun t11 => binK .add t11 (.int .i64 (.ofNat 1)) fun v18 => k .normal ⟨(T.set (T.set (T.set (T.set (T.set (T.set (T.set (T.set .leaf 6 t6) 8 t8) 9 t9) 10 t10) 11 t11) 24 t11) 25 v18) 11 v18),H⟩ τ
def s_headers_Split_l1 (call : CallK) (N : Nat) (st : St) (τ : Tape) (k : KC) : Ans := match st with
  | ⟨fr,H⟩ => getK fr 6 fun t6 => getK fr 8 fun t8 => getK fr 9 fun t9 => getK fr 10 fun t10 => getK fr 11 fun t11 => someK (pLenS [t6]) fun v16 => binK .lss t11 v16 fun v17 => condK v17 (someK (pStrIndex [t6,t11]) fun v19 => binK .eql v19 (.int .u8 (.ofNat 34)) fun v20 => condK v20 (unK .not t9 fun v21 => s_headers_Split_j2 call N k ⟨(T.set (T.set (T.set (T.set (T.set (T.set (T.set (T.set (T.set .leaf 6 t6) 8 t8) 9 t9) 10 t10) 11 t11) 26 v20) 31 t9) 32 v21) 9 v21),H⟩ τ) (gK t9 true (fun q' => q' t6 H τ) H τ fun v22 H23 τ24 => gK t9 true (fun q' => q' t11 H23 τ24) H23 τ24 fun v25 H26 τ27 => gK t9 true (fun q' => someK (pStrIndex [v22,v25]) fun v => q' v H26 τ27) H26 τ27 fun v28 H29 τ30 => gK t9 true (fun q' => binK .eql v28 (.int .u8 (.ofNat 92)) fun v => q' v H29 τ30) H29 τ30 fun v31 H32 τ33 => someK (pPick [t9,v31,(.bool false)]) fun v34 => condK v34
    (binK .add t11 (.int .i64 (.ofNat 1)) fun v35 => s_headers_Split_j2 call N k ⟨(T.set (T.set (T.set (T.set (T.set (T.set (T.set (T.set (T.set .leaf 6 t6) 8 t8) 9 t9) 10 t10) 11 t11) 33 v34) 41 t11) 42 v35) 11 v35),H32⟩ τ33) (unK .not t9 fun v36 => gK v36 true (fun q' => q' t6 H32 τ33) H32 τ33 fun v37 H38 τ39 => gK v36 true (fun q' => q' t11 H38 τ39) H38 τ39 fun v40 H41 τ42 => gK v36 true (fun q' => someK (pStrIndex [v37,v40]) fun v => q' v H41 τ42) H41 τ42 fun v43 H44 τ45 => gK v36 true (fun q' => binK .eql v43 (.int .u8 (.ofNat 44)) fun v => q' v H44 τ45) H44 τ45 fun v46 H47 τ48 => someK (pPick [v36,v46,(.bool false)]) fun v49 => condK v49 (someK (pStrSlice true true [t6,t10,t11]) fun v50 => call f_strings_Trim [v50,(.str (bs [9,32]))] H47 τ48 fun v51 H52 τ53 => effK (eBuildSlice 1 1 [(.str [])] [(0,1)] [v51] H52 τ53) fun v54 H55 τ56 =>
    effK (eAppend 1 16 [t8,v54] H55 τ56) fun v57 H58 τ59 => binK .add t11 (.int .i64 (.ofNat 1)) fun v60 => s_headers_Split_j2 call N k ⟨(T.set (T.set (T.set (T.set (T.set (T.set (T.set .leaf 6 t6) 8 v57) 9 t9) 11 t11) 60 t11) 61 v60) 10 v60),H58⟩ τ59) (s_headers_Split_j2 call N k ⟨(T.set (T.set (T.set (T.set (T.set (T.set .leaf 6 t6) 8 t8) 9 t9) 10 t10) 11 t11) 43 v49),H47⟩ τ48)))) (k (.exit 0) ⟨(T.set (T.set (T.set .leaf 6 t6) 8 t8) 10 t10),H⟩ τ)
def s_headers_Split (call : CallK) (N : Nat) (a0 a1 : V) (H : Heap) (τ : Tape) (q : KV) : Ans := call f_headers_Get [a0,a1] H τ fun v0 H1 τ2 => someK (pExtract 0 [v0]) fun v3 => someK (pExtract 1 [v0]) fun v4 => unK .not v4 fun v5 => condK v5 (q (.tup [.nils,(.bool false)]) H1 τ2) (loopK (s_headers_Split_l1 call N) N ⟨(T.set (T.set (T.set (T.set (T.set .leaf 6 v3) 8 .nils) 9 (.bool false)) 10 (.int .i64 (.ofNat 0))) 11 (.int .i64 (.ofNat 0))),H1⟩ τ2 (blockK 0 (seqK (s_headers_Split_j0 call N q) (endK [(.t 4),(.t 5)] q))))
theorem s_headers_Split_eq (call : CallK) (N : Nat) (a0 a1 : V) (H : Heap) (τ : Tape) (q : KV) : s_headers_Split call N a0 a1 H τ q = funK call N fn_headers_Split [a0, a1] H τ q := by kernel_rfl
def e_headers_Split (call : CallK) (N : Nat) (vs : List V) (H : Heap) (τ : Tape) (q : KV) : Ans := match vs with | [a0, a1] => s_headers_Split call N a0 a1 H τ q | _ => none
theorem e_headers_Split_ok : EntOk fn_headers_Split e_headers_Split := by
  intro call N vs H τ q r h
  unfold e_headers_Split at h
  split at h
  · rw [s_headers_Split_eq] at h; exact h
  · cases h
theorem e_headers_Split_nat : EntNat e_headers_Split := by
  intro c hn N vs H τ q
  unfold e_headers_Split
  split
  · rw [s_headers_Split_eq, s_headers_Split_eq]; exact funK_ent hn _ _ _ _ _ _
  · rfl
/-- ostiary/infra.Token -/
def fn_infra_Token : Fun := ⟨1,(.seq (.reg [iR 2 (.p .mv) [(.c (.bool false))]]) (iK [0] (.seq (.seq (.reg [iM 6 0,iR 7 (.p .lenS) [(.t 6)],iR 8 (.p .mv) [(iC 0)]]) (iK [0,7,8] (.block 0 (.loop (iK [0,7,8] (.seq (.reg [iR 9 (iB .lss) [(.t 8),(.t 7)]]) (iK [0,7,8,9] (.seq (.cond (.t 9) .skip (iK [0] (.exit 0))) (iK [0,7,8] (.seq (.block 1 (.seq (.reg [iM 10 8,iM 3 10]) (iK [0,3,7,8] (.seq (.reg [iM 11 0,iM 12 3,iR 13 (.p .strIndex) [(.t 11),(.t 12)],iM 4 13]) (iK [0,4,7,8] (.seq (.reg [iM 14 4,iR 15 (iB .geq) [(.t 14),(iU 97)],iM 16 15,iN 17 16 true 4,iG 18 16 true (iB .leq) [(.t 17),(iU 122)],
    iR 19 (.p .pick) [(.t 16),(.t 18),(.c (.bool false))],iM 20 19,iN 21 20 false 4,iG 22 20 false (iB .geq) [(.t 21),(iU 65)],iN 23 20 false 22,iN 24 23 true 4,iG 25 23 true (iB .leq) [(.t 24),(iU 90)],iG 26 20 false (.p .pick) [(.t 23),(.t 25),(.c (.bool false))],iR 27 (.p .pick) [(.t 20),(.c (.bool true)),(.t 26)],iM 28 27,iN 29 28 false 4,iG 30 28 false (iB .geq) [(.t 29),(iU 48)],iN 31 28 false 30,iN 32 31 true 4,iG 33 31 true (iB .leq) [(.t 32),(iU 57)],iG 34 28 false (.p .pick) [(.t 31),(.t 33),(.c (.bool false))],iR 35 (.p .pick) [(.t 28),(.c (.bool true)),(.t 34)],iM 5 35])
    (iK [0,4,5,7,8] (.seq (.reg [iM 36 5,iR 37 (.p (.un .not)) [(.t 36)],iM 38 37,iN 39 38 true 4,iG 40 38 true (.call 111) [(.c (.str (bs [33,35,36,37,38,39,42,43,45,46,94,95,96,124,126]))),(.t 39)],iG 41 38 true (iB .lss) [(.t 40),(iC 0)],iR 42 (.p .pick) [(.t 38),(.t 41),(.c (.bool false))]]) (iK [0,7,8,42] (.cond (.t 42) (.seq (.reg [iR 2 (.p .mv) [(.c (.bool false))]]) (iK [2] (iK [2] .ret))) .skip)))))))))) (iK [0,7,8] (.reg [iR 43 (iB .add) [(.t 8),(iC 1)],iM 8 43])))))))))))) (iK [0] (.seq (.reg [iM 44 0,iR 45 (iB .neq) [(.t 44),(.c (.str []))],iM 2 45]) (iK [2] (iK [2] .ret))))))),[(.t 2)]⟩
def s_infra_Token_j0 (call : CallK) (N : Nat) (q : KV) (st : St) (τ : Tape) : Ans := match st with
  | ⟨fr,H⟩ => getK fr 0 fun t0 => binK .neq t0 (.str []) fun v1 => q v1 H τ
def s_infra_Token_l1 (call : CallK) (N : Nat) (st : St) (τ : Tape) (k : KC) : Ans := match st with
  | ⟨fr,H⟩ => getK fr 0 fun t0 => getK fr 7 fun t7 => getK fr 8 fun t8 => binK .lss t8 t7 fun v2 => condK v2 (someK (pStrIndex [t0,t8]) fun v3 => binK .geq v3 (.int .u8 (.ofNat 97)) fun v4 => gK v4 true (fun q' => q' v3 H τ) H τ fun v5 H6 τ7 => gK v4 true (fun q' => binK .leq v5 (.int .u8 (.ofNat 122)) fun v => q' v H6 τ7) H6 τ7 fun v8 H9 τ10 => someK (pPick [v4,v8,(.bool false)]) fun v11 => gK v11 false (fun q' => q' v3 H9 τ10) H9 τ10 fun v12 H13 τ14 => gK v11 false (fun q' => binK .geq v12 (.int .u8 (.ofNat 65)) fun v => q' v H13 τ14) H13 τ14 fun v15 H16 τ17 => gK v11 false (fun q' => q' v15 H16 τ17) H16 τ17 fun v18 H19 τ20 => gK v18 true (fun q' => q' v3 H19 τ20) H19 τ20 fun v21 H22 τ23 => gK v18 true (fun q' => binK .leq v21 (.int .u8 (.ofNat 90)) fun v => q' v H22 τ23) H22 τ23 fun v24 H25 τ26 =>
    gK v11 false (fun q' => someK (pPick [v18,v24,(.bool false)]) fun v => q' v H25 τ26) H25 τ26 fun v27 H28 τ29 => someK (pPick [v11,(.bool true),v27]) fun v30 => gK v30 false (fun q' => q' v3 H28 τ29) H28 τ29 fun v31 H32 τ33 => gK v30 false (fun q' => binK .geq v31 (.int .u8 (.ofNat 48)) fun v => q' v H32 τ33) H32 τ33 fun v34 H35 τ36 => gK v30 false (fun q' => q' v34 H35 τ36) H35 τ36 fun v37 H38 τ39 => gK v37 true (fun q' => q' v3 H38 τ39) H38 τ39 fun v40 H41 τ42 => gK v37 true (fun q' => binK .leq v40 (.int .u8 (.ofNat 57)) fun v => q' v H41 τ42) H41 τ42 fun v43 H44 τ45 => gK v30 false (fun q' => someK (pPick [v37,v43,(.bool false)]) fun v => q' v H44 τ45) H44 τ45 fun v46 H47 τ48 => someK (pPick [v30,(.bool true),v46]) fun v49 => unK .not v49 fun v50 => gK v50 true (fun q' => q' v3 H47 τ48) H47 τ48 fun v51 H52 τ53 =>
    gK v50 true (fun q' => call f_strings_IndexByte [(.str (bs [33,35,36,37,38,39,42,43,45,46,94,95,96,124,126])),v51] H52 τ53 q') H52 τ53 fun v54 H55 τ56 => gK v50 true (fun q' => binK .lss v54 (.int .i64 (.ofNat 0)) fun v => q' v H55 τ56) H55 τ56 fun v57 H58 τ59 => someK (pPick [v50,v57,(.bool false)]) fun v60 => condK v60 (k .ret ⟨(T.set .leaf 2 (.bool false)),H58⟩ τ59) (binK .add t8 (.int .i64 (.ofNat 1)) fun v61 => k .normal ⟨(T.set (T.set (T.set (T.set (T.set .leaf 0 t0) 7 t7) 8 t8) 43 v61) 8 v61),H58⟩ τ59)) (k (.exit 0) ⟨(T.set .leaf 0 t0),H⟩ τ)
def s_infra_Token (call : CallK) (N : Nat) (a0 : V) (H : Heap) (τ : Tape) (q : KV) : Ans := someK (pLenS [a0]) fun v0 => loopK (s_infra_Token_l1 call N) N ⟨(T.set (T.set (T.set .leaf 0 a0) 7 v0) 8 (.int .i64 (.ofNat 0))),H⟩ τ (blockK 0 (seqK (s_infra_Token_j0 call N q) (endK [(.t 2)] q)))
theorem s_infra_Token_eq (call : CallK) (N : Nat) (a0 : V) (H : Heap) (τ : Tape) (q : KV) : s_infra_Token call N a0 H τ q = funK call N fn_infra_Token [a0] H τ q := by kernel_rfl
def e_infra_Token (call : CallK) (N : Nat) (vs : List V) (H : Heap) (τ : Tape) (q : KV) : Ans := match vs with | [a0] => s_infra_Token call N a0 H τ q | _ => none
theorem e_infra_Token_ok : EntOk fn_infra_Token e_infra_Token := by
  intro call N vs H τ q r h
  unfold e_infra_Token at h
  split at h
  · rw [s_infra_Token_eq] at h; exact h
  · cases h
theorem e_infra_Token_nat : EntNat e_infra_Token := by
  intro c hn N vs H τ q
  unfold e_infra_Token
  split
  · rw [s_infra_Token_eq, s_infra_Token_eq]; exact funK_ent hn _ _ _ _ _ _
  · rfl
/-- ostiary/ostiaryref1.Token -/
def fn_ref1_Token : Fun := ⟨1,(.seq (.reg [iR 2 (.p .mv) [(.c (.bool false))]]) (iK [0] (.seq (.seq (.reg [iR 3 (.p .mv) [(iC 0)]]) (iK [0,3] (.block 0 (.loop (iK [0,3] (.seq (.seq (.reg [iM 7 3,iM 8 0,iR 9 (.p .lenS) [(.t 8)],iR 10 (iB .lss) [(.t 7),(.t 9)]]) (iK [0,3,10] (.cond (.t 10) .skip (iK [0] (.exit 0))))) (iK [0,3] (.seq (.block 1 (.seq (.reg [iM 13 0,iM 14 3,iR 15 (.p .strIndex) [(.t 13),(.t 14)],iM 4 15]) (iK [0,3,4] (.seq (.reg [iM 16 4,iR 17 (.call 114) [(.t 16)],iM 18 17,iN 19 18 false 4,iG 20 18 false (.call 115) [(.t 19)],iR 21 (.p .pick) [(.t 18),(.c (.bool true)),(.t 20)],iM 5 21])
    (iK [0,3,4,5] (.seq (.seq (.reg [iR 6 (.p .mv) [(iC 0)]]) (iK [0,3,4,5,6] (.block 2 (.loop (iK [0,3,4,5,6] (.seq (.seq (.reg [iM 22 6,iR 23 (iB .lss) [(.t 22),(iC 15)]]) (iK [0,3,4,5,6,23] (.cond (.t 23) .skip (iK [0,3,5] (.exit 2))))) (iK [0,3,4,5,6] (.seq (.block 3 (.reg [iM 26 5,iM 27 26,iN 28 27 false 4,iN 29 27 false 6,iG 30 27 false (.p .strIndex) [(.c (.str (bs [33,35,36,37,38,39,42,43,45,46,94,95,96,124,126]))),(.t 29)],iG 31 27 false (iB .eql) [(.t 28),(.t 30)],iR 32 (.p .pick) [(.t 27),(.c (.bool true)),(.t 31)],iM 5 32])) (iK [0,3,4,5,6] (.reg [iM 24 6,iR 25 (iB .add) [(.t 24),(iC 1)],
    iM 6 25])))))))))) (iK [0,3,5] (.seq (.reg [iM 33 5,iR 34 (.p (.un .not)) [(.t 33)]]) (iK [0,3,34] (.cond (.t 34) (.seq (.reg [iR 2 (.p .mv) [(.c (.bool false))]]) (iK [2] (iK [2] .ret))) .skip)))))))))) (iK [0,3] (.reg [iM 11 3,iR 12 (iB .add) [(.t 11),(iC 1)],iM 3 12])))))))))) (iK [0] (.seq (.reg [iM 35 0,iR 36 (.p .lenS) [(.t 35)],iR 37 (iB .gtr) [(.t 36),(iC 0)],iM 2 37]) (iK [2] (iK [2] .ret))))))),[(.t 2)]⟩
def s_ref1_Token_j0 (call : CallK) (N : Nat) (q : KV) (st : St) (τ : Tape) : Ans := match st with
  | ⟨fr,H⟩ => getK fr 0 fun t0 => someK (pLenS [t0]) fun v0 => binK .gtr v0 (.int .i64 (.ofNat 0)) fun v1 => q v1 H τ
def s_ref1_Token_j2 (call : CallK) (N : Nat) (k : KC) (st : St) (τ : Tape) : Ans := match st with
  | ⟨fr,H⟩ => getK fr 0 fun t0 => getK fr 3 fun t3 => binK .add t3 (.int .i64 (.ofNat 1)) fun v15 => k .normal ⟨(T.set (T.set (T.set (T.set (T.set .leaf 0 t0) 3 t3) 11 t3) 12 v15) 3 v15),H⟩ τ
def s_ref1_Token_j3 (call : CallK) (N : Nat) (k : KC) (st : St) (τ : Tape) : Ans := match st with
  | ⟨fr,H⟩ => getK fr 0 fun t0 => getK fr 3 fun t3 => getK fr 5 fun t5 => unK .not t5 fun v16 => condK v16 (k .ret ⟨(T.set .leaf 2 (.bool false)),H⟩ τ) (s_ref1_Token_j2 call N k ⟨(T.set (T.set (T.set .leaf 0 t0) 3 t3) 34 v16),H⟩ τ)
def s_ref1_Token_l4 (call : CallK) (N : Nat) (st : St) (τ : Tape) (k : KC) : Ans := match st with
  | ⟨fr,H⟩ => getK fr 0 fun t0 => getK fr 3 fun t3 => getK fr 4 fun t4 => getK fr 5 fun t5 => getK fr 6 fun t6 => binK .lss t6 (.int .i64 (.ofNat 15)) fun v17 => condK v17 (gK t5 false (fun q' => q' t4 H τ) H τ fun v18 H19 τ20 => gK t5 false (fun q' => q' t6 H19 τ20) H19 τ20 fun v21 H22 τ23 => gK t5 false (fun q' => someK (pStrIndex [(.str (bs [33,35,36,37,38,39,42,43,45,46,94,95,96,124,126])),v21]) fun v => q' v H22 τ23) H22 τ23 fun v24 H25 τ26 => gK t5 false (fun q' => binK .eql v18 v24 fun v => q' v H25 τ26) H25 τ26 fun v27 H28 τ29 => someK (pPick [t5,(.bool true),v27]) fun v30 => binK .add t6 (.int .i64 (.ofNat 1)) fun v31 => k .normal ⟨(T.set (T.set (T.set (T.set (T.set (T.set (T.set (T.set .leaf 0 t0) 3 t3) 4 t4) 5 v30) 6 t6) 24 t6) 25 v31) 6 v31),H28⟩ τ29) (k (.exit 2) ⟨(T.set (T.set (T.set .leaf 0 t0) 3 t3) 5 t5),H⟩ τ)
def s_ref1_Token_l1 (call : CallK) (N : Nat) (st : St) (τ : Tape) (k : KC) : Ans := match st with
  | ⟨fr,H⟩ => getK fr 0 fun t0 => getK fr 3 fun t3 => someK (pLenS [t0]) fun v2 => binK .lss t3 v2 fun v3 => condK v3 (someK (pStrIndex [t0,t3]) fun v4 => call f_ref1_Letter [v4] H τ fun v5 H6 τ7 => gK v5 false (fun q' => q' v4 H6 τ7) H6 τ7 fun v8 H9 τ10 => gK v5 false (fun q' => call f_ref1_Digit [v8] H9 τ10 q') H9 τ10 fun v11 H12 τ13 => someK (pPick [v5,(.bool true),v11]) fun v14 => loopK (s_ref1_Token_l4 call N) N ⟨(T.set (T.set (T.set (T.set (T.set .leaf 0 t0) 3 t3) 4 v4) 5 v14) 6 (.int .i64 (.ofNat 0))),H12⟩ τ13 (blockK 2 (seqK (s_ref1_Token_j3 call N k) (blockK 1 (seqK (s_ref1_Token_j2 call N k) k))))) (k (.exit 0) ⟨(T.set .leaf 0 t0),H⟩ τ)
def s_ref1_Token (call : CallK) (N : Nat) (a0 : V) (H : Heap) (τ : Tape) (q : KV) : Ans := loopK (s_ref1_Token_l1 call N) N ⟨(T.set (T.set .leaf 0 a0) 3 (.int .i64 (.ofNat 0))),H⟩ τ (blockK 0 (seqK (s_ref1_Token_j0 call N q) (endK [(.t 2)] q)))
theorem s_ref1_Token_eq (call : CallK) (N : Nat) (a0 : V) (H : Heap) (τ : Tape) (q : KV) : s_ref1_Token call N a0 H τ q = funK call N fn_ref1_Token [a0] H τ q := by kernel_rfl
def e_ref1_Token (call : CallK) (N : Nat) (vs : List V) (H : Heap) (τ : Tape) (q : KV) : Ans := match vs with | [a0] => s_ref1_Token call N a0 H τ q | _ => none
theorem e_ref1_Token_ok : EntOk fn_ref1_Token e_ref1_Token := by
  intro call N vs H τ q r h
  unfold e_ref1_Token at h
  split at h
  · rw [s_ref1_Token_eq] at h; exact h
  · cases h
theorem e_ref1_Token_nat : EntNat e_ref1_Token := by
  intro c hn N vs H τ q
  unfold e_ref1_Token
  split
  · rw [s_ref1_Token_eq, s_ref1_Token_eq]; exact funK_ent hn _ _ _ _ _ _
  · rfl
/-- ostiary/ostiaryref5.Split -/
def fn_ref5_Split : Fun := ⟨2,(.seq (.reg [iR 4 (.p .mv) [(.c .nils)],iR 5 (.p .mv) [(.c (.bool false))]]) (iK [0,1] (.seq (.reg [iM 13 0,iM 14 1,iR 15 (.call 79) [(.t 13),(.t 14)],iM 12 15,iR 16 (.p (.extract 0)) [(.t 12)],iR 17 (.p (.extract 1)) [(.t 12)],iM 6 16,iM 7 17]) (iK [6,7] (.seq (.seq (.reg [iM 18 7,iR 19 (.p (.un .not)) [(.t 18)]]) (iK [6,19] (.cond (.t 19) (.seq (.reg [iR 4 (.p .mv) [(.c .nils)],iR 5 (.p .mv) [(.c (.bool false))]]) (iK [4,5] (iK [4,5] .ret))) .skip))) (iK [6] (.seq (.reg [iR 8 (.p .mv) [(.c .nils)]]) (iK [6,8] (.seq (.reg [iR 9 (.p .mv) [(iC 0)]]) (iK [6,8,9] (.seq (.reg [iR 10 (.p .mv) [(.c (.bool false))]]) (iK [6,8,9,10] (.seq (.seq (.reg [iR 11 (.p .mv) [(iC 0)]])
    (iK [6,8,9,10,11] (.block 0 (.loop (iK [6,8,9,10,11] (.seq (.seq (.reg [iM 20 11,iM 21 6,iR 22 (.p .lenS) [(.t 21)],iR 23 (iB .leq) [(.t 20),(.t 22)]]) (iK [6,8,9,10,11,23] (.cond (.t 23) .skip (iK [8] (.exit 0))))) (iK [6,8,9,10,11] (.seq (.block 1 (.seq (.seq (.reg [iM 26 11,iM 27 6,iR 28 (.p .lenS) [(.t 27)],iR 29 (iB .eql) [(.t 26),(.t 28)],iM 30 29,iN 31 30 false 6,iN 32 30 false 11,iG 33 30 false (.p .strIndex) [(.t 31),(.t 32)],iG 34 30 false (iB .eql) [(.t 33),(iU 44)],iN 35 30 false 34,iN 36 35 true 10,iG 37 35 true (.p (.un .not)) [(.t 36)],iG 38 30 false (.p .pick) [(.t 35),(.t 37),(.c (.bool false))],
    iR 39 (.p .pick) [(.t 30),(.c (.bool true)),(.t 38)]]) (iK [6,8,9,10,11,39] (.cond (.t 39) (.seq (.reg [iM 40 8,iM 41 6,iM 42 9,iM 43 11,iR 44 (.p (.strSlice true true)) [(.t 41),(.t 42),(.t 43)],iR 45 (.call 116) [(.t 44),(.c (.bool true))],iR 46 (.e (.buildSlice 1 1 [(.str [])] [(0,1)])) [(.t 45)],iR 47 (.e (.append 1 16)) [(.t 40),(.t 46)],iM 8 47]) (iK [6,8,10,11] (.seq (.reg [iM 48 11,iR 49 (iB .add) [(.t 48),(iC 1)],iM 9 49]) (iK [6,8,9,10,11] (iK [6,8,9,10,11] (.exit 1)))))) .skip))) (iK [6,8,9,10,11] (.seq (.seq (.reg [iM 50 6,iM 51 11,iR 52 (.p .strIndex) [(.t 50),(.t 51)],iR 53 (iB .eql) [(.t 52),(iU 92)],
    iM 54 53,iN 55 54 true 10,iR 56 (.p .pick) [(.t 54),(.t 55),(.c (.bool false))]]) (iK [6,8,9,10,11,56] (.cond (.t 56) (.seq (.reg [iM 57 11,iR 58 (iB .add) [(.t 57),(iC 1)],iM 11 58]) (iK [6,8,9,10,11] (.seq (.seq (.reg [iM 59 11,iM 60 6,iR 61 (.p .lenS) [(.t 60)],iR 62 (iB .geq) [(.t 59),(.t 61)]]) (iK [6,8,9,10,11,62] (.cond (.t 62) (.reg [iM 63 6,iR 64 (.p .lenS) [(.t 63)],iR 65 (iB .sub) [(.t 64),(iC 1)],iM 11 65]) .skip))) (iK [6,8,9,10,11] (iK [6,8,9,10,11] (.exit 1)))))) .skip))) (iK [6,8,9,10,11] (.seq (.reg [iM 66 6,iM 67 11,iR 68 (.p .strIndex) [(.t 66),(.t 67)],
    iR 69 (iB .eql) [(.t 68),(iU 34)]]) (iK [6,8,9,10,11,69] (.cond (.t 69) (.reg [iM 70 10,iR 71 (.p (.un .not)) [(.t 70)],iM 10 71]) .skip)))))))) (iK [6,8,9,10,11] (.reg [iM 24 11,iR 25 (iB .add) [(.t 24),(iC 1)],iM 11 25])))))))))) (iK [8] (.seq (.reg [iM 72 8,iM 4 72,iR 5 (.p .mv) [(.c (.bool true))]]) (iK [4,5] (iK [4,5] .ret))))))))))))))))),[(.t 4),(.t 5)]⟩
def s_ref5_Split_j0 (call : CallK) (N : Nat) (q : KV) (st : St) (τ : Tape) : Ans := match st with
  | ⟨fr,H⟩ => getK fr 8 fun t8 => q (.tup [t8,(.bool true)]) H τ
def s_ref5_Split_j2 (call : CallK) (N : Nat) (k : KC) (st : St) (τ : Tape) : Ans := match st with
  | ⟨fr,H⟩ => getK fr 6 fun t6 => getK fr 8 fun t8 => getK fr 9 fun t9 => getK fr 10 fun t10 => getK fr 11 fun t11 => binK .add t11 (.int .i64 (.ofNat 1)) fun v8 => k .normal ⟨(T.set (T.set (T.set (T.set (T.set (T.set (T.set (T.set .leaf 6 t6) 8 t8) 9 t9) 10 t10) 11 t11) 24 t11) 25 v8) 11 v8),H⟩ τ
def s_ref5_Split_j3 (call : CallK) (N : Nat) (k : KC) (st : St) (τ : Tape) : Ans := match st with
  | ⟨fr,H⟩ => getK fr 6 fun t6 => getK fr 8 fun t8 => getK fr 9 fun t9 => getK fr 10 fun t10 => getK fr 11 fun t11 => someK (pStrIndex [t6,t11]) fun v56 => binK .eql v56 (.int .u8 (.ofNat 34)) fun v57 => condK v57 (unK .not t10 fun v58 => s_ref5_Split_j2 call N k ⟨(T.set (T.set (T.set (T.set (T.set (T.set (T.set (T.set (T.set .leaf 6 t6) 8 t8) 9 t9) 10 t10) 11 t11) 69 v57) 70 t10) 71 v58) 10 v58),H⟩ τ) (s_ref5_Split_j2 call N k ⟨(T.set (T.set (T.set (T.set (T.set (T.set .leaf 6 t6) 8 t8) 9 t9) 10 t10) 11 t11) 69 v57),H⟩ τ)
def s_ref5_Split_j4 (call : CallK) (N : Nat) (k : KC) (st : St) (τ : Tape) : Ans := match st with
  | ⟨fr,H⟩ => getK fr 6 fun t6 => getK fr 8 fun t8 => getK fr 9 fun t9 => getK fr 10 fun t10 => getK fr 11 fun t11 => s_ref5_Split_j2 call N k ⟨(T.set (T.set (T.set (T.set (T.set .leaf 6 t6) 8 t8) 9 t9) 10 t10) 11 t11),H⟩ τ
def s_ref5_Split_l1 (call : CallK) (N : Nat) (st : St) (τ : Tape) (k : KC) : Ans := match st with
  | ⟨fr,H⟩ => getK fr 6 fun t6 => getK fr 8 fun t8 => getK fr 9 fun t9 => getK fr 10 fun t10 => getK fr 11 fun t11 => someK (pLenS [t6]) fun v6 => binK .leq t11 v6 fun v7 => condK v7 (someK (pLenS [t6]) fun v9 => binK .eql t11 v9 fun v10 => gK v10 false (fun q' => q' t6 H τ) H τ fun v11 H12 τ13 => gK v10 false (fun q' => q' t11 H12 τ13) H12 τ13 fun v14 H15 τ16 => gK v10 false (fun q' => someK (pStrIndex [v11,v14]) fun v => q' v H15 τ16) H15 τ16 fun v17 H18 τ19 => gK v10 false (fun q' => binK .eql v17 (.int .u8 (.ofNat 44)) fun v => q' v H18 τ19) H18 τ19 fun v20 H21 τ22 => gK v10 false (fun q' => q' v20 H21 τ22) H21 τ22 fun v23 H24 τ25 => gK v23 true (fun q' => q' t10 H24 τ25) H24 τ25 fun v26 H27 τ28 => gK v23 true (fun q' => unK .not v26 fun v => q' v H27 τ28) H27 τ28 fun v29 H30 τ31 =>
    gK v10 false (fun q' => someK (pPick [v23,v29,(.bool false)]) fun v => q' v H30 τ31) H30 τ31 fun v32 H33 τ34 => someK (pPick [v10,(.bool true),v32]) fun v35 => condK v35 (someK (pStrSlice true true [t6,t9,t11]) fun v36 => call f_ref1_Trim [v36,(.bool true)] H33 τ34 fun v37 H38 τ39 => effK (eBuildSlice 1 1 [(.str [])] [(0,1)] [v37] H38 τ39) fun v40 H41 τ42 => effK (eAppend 1 16 [t8,v40] H41 τ42) fun v43 H44 τ45 => binK .add t11 (.int .i64 (.ofNat 1)) fun v46 => s_ref5_Split_j2 call N k ⟨(T.set (T.set (T.set (T.set (T.set .leaf 6 t6) 8 v43) 9 v46) 10 t10) 11 t11),H44⟩ τ45) (someK (pStrIndex [t6,t11]) fun v47 => binK .eql v47 (.int .u8 (.ofNat 92)) fun v48 => gK v48 true (fun q' => q' t10 H33 τ34) H33 τ34 fun v49 H50 τ51 => someK (pPick [v48,v49,(.bool false)]) fun v52 => condK v52 (binK .add t11 (.int .i64 (.ofNat 1)) fun v53 => someK (pLenS [t6]) fun v54 =>
    binK .geq v53 v54 fun v55 => condK v55 (someK (pLenS [t6]) fun v59 => binK .sub v59 (.int .i64 (.ofNat 1)) fun v60 => s_ref5_Split_j4 call N k ⟨(T.set (T.set (T.set (T.set (T.set (T.set (T.set (T.set (T.set (T.set .leaf 6 t6) 8 t8) 9 t9) 10 t10) 11 v53) 62 v55) 63 t6) 64 v59) 65 v60) 11 v60),H50⟩ τ51) (s_ref5_Split_j4 call N k ⟨(T.set (T.set (T.set (T.set (T.set (T.set .leaf 6 t6) 8 t8) 9 t9) 10 t10) 11 v53) 62 v55),H50⟩ τ51)) (someK (pStrIndex [t6,t11]) fun v61 => binK .eql v61 (.int .u8 (.ofNat 34)) fun v62 => condK v62 (unK .not t10 fun v63 => s_ref5_Split_j2 call N k ⟨(T.set (T.set (T.set (T.set (T.set (T.set (T.set (T.set (T.set .leaf 6 t6) 8 t8) 9 t9) 10 t10) 11 t11) 69 v62) 70 t10) 71 v63) 10 v63),H50⟩ τ51) (s_ref5_Split_j2 call N k ⟨(T.set (T.set (T.set (T.set (T.set (T.set .leaf 6 t6) 8 t8) 9 t9) 10 t10) 11 t11) 69 v62),H50⟩ τ51))))
    (k (.exit 0) ⟨(T.set .leaf 8 t8),H⟩ τ)
def s_ref5_Split (call : CallK) (N : Nat) (a0 a1 : V) (H : Heap) (τ : Tape) (q : KV) : Ans := call f_ref5_Get [a0,a1] H τ fun v0 H1 τ2 => someK (pExtract 0 [v0]) fun v3 => someK (pExtract 1 [v0]) fun v4 => unK .not v4 fun v5 => condK v5 (q (.tup [.nils,(.bool false)]) H1 τ2) (loopK (s_ref5_Split_l1 call N) N ⟨(T.set (T.set (T.set (T.set (T.set .leaf 6 v3) 8 .nils) 9 (.int .i64 (.ofNat 0))) 10 (.bool false)) 11 (.int .i64 (.ofNat 0))),H1⟩ τ2 (blockK 0 (seqK (s_ref5_Split_j0 call N q) (endK [(.t 4),(.t 5)] q))))
theorem s_ref5_Split_eq (call : CallK) (N : Nat) (a0 a1 : V) (H : Heap) (τ : Tape) (q : KV) : s_ref5_Split call N a0 a1 H τ q = funK call N fn_ref5_Split [a0, a1] H τ q := by kernel_rfl
def e_ref5_Split (call : CallK) (N : Nat) (vs : List V) (H : Heap) (τ : Tape) (q : KV) : Ans := match vs with | [a0, a1] => s_ref5_Split call N a0 a1 H τ q | _ => none
theorem e_ref5_Split_ok : EntOk fn_ref5_Split e_ref5_Split := by
  intro call N vs H τ q r h
  unfold e_ref5_Split at h
  split at h
  · rw [s_ref5_Split_eq] at h; exact h
  · cases h
theorem e_ref5_Split_nat : EntNat e_ref5_Split := by
  intro c hn N vs H τ q
  unfold e_ref5_Split
  split
  · rw [s_ref5_Split_eq, s_ref5_Split_eq]; exact funK_ent hn _ _ _ _ _ _
  · rfl
/-- ostiary/ostiaryref5.Get -/
def fn_ref5_Get : Fun := ⟨2,(.seq (.reg [iR 4 (.p .mv) [(.c (.str []))],iR 5 (.p .mv) [(.c (.bool false))]]) (iK [0,1] (.seq (.reg [iR 6 (.p .mv) [(.c (.str []))]]) (iK [0,1,6] (.seq (.reg [iR 7 (.p .mv) [(.c (.bool false))]]) (iK [0,1,6,7] (.seq (.seq (.reg [iR 8 (.p .mv) [(iC 0)]]) (iK [0,1,6,7,8] (.block 0 (.loop (iK [0,1,6,7,8] (.seq (.seq (.reg [iM 9 8,iM 10 0,iR 11 (.p .len) [(.t 10)],iR 12 (iB .lss) [(.t 9),(.t 11)]]) (iK [0,1,6,7,8,12] (.cond (.t 12) .skip (iK [6,7] (.exit 0))))) (iK [0,1,6,7,8] (.seq (.block 1 (.seq (.seq (.reg [iM 15 0,iM 16 8,iR 17 (.p (.slIdx 2)) [(.t 15),(.t 16)],iR 18 (.l (.load (some 2))) [(.t 17)],iM 19 1,iR 20 (.call 117) [(.t 18),(.t 19)],iR 21 (.p (.un .not)) [(.t 20)]])
    (iK [0,1,6,7,8,21] (.cond (.t 21) (iK [0,1,6,7,8] (.exit 1)) .skip))) (iK [0,1,6,7,8] (.seq (.seq (.reg [iM 22 7]) (iK [0,1,6,8,22] (.cond (.t 22) (.reg [iM 23 6,iR 24 (iB .add) [(.t 23),(.c (.str (bs [44,32])))],iM 6 24]) .skip))) (iK [0,1,6,8] (.seq (.reg [iM 25 6,iM 26 0,iM 27 8,iR 28 (.p (.slIdx 2)) [(.t 26),(.t 27)],iR 29 (.p (.fieldAddr 1)) [(.t 28)],iR 30 (.l (.load none)) [(.t 29)],iR 31 (iB .add) [(.t 25),(.t 30)],iM 6 31]) (iK [0,1,6,8] (.reg [iR 7 (.p .mv) [(.c (.bool true))]])))))))) (iK [0,1,6,7,8] (.reg [iM 13 8,iR 14 (iB .add) [(.t 13),(iC 1)],iM 8 14])))))))))) (iK [6,7] (.seq (.reg [iM 32 6,
    iM 33 7,iM 4 32,iM 5 33]) (iK [4,5] (iK [4,5] .ret))))))))))),[(.t 4),(.t 5)]⟩
def s_ref5_Get_j0 (call : CallK) (N : Nat) (q : KV) (st : St) (τ : Tape) : Ans := match st with
  | ⟨fr,H⟩ => getK fr 6 fun t6 => getK fr 7 fun t7 => q (.tup [t6,t7]) H τ
def s_ref5_Get_j2 (call : CallK) (N : Nat) (k : KC) (st : St) (τ : Tape) : Ans := match st with
  | ⟨fr,H⟩ => getK fr 0 fun t0 => getK fr 1 fun t1 => getK fr 6 fun t6 => getK fr 7 fun t7 => getK fr 8 fun t8 => binK .add t8 (.int .i64 (.ofNat 1)) fun v2 => k .normal ⟨(T.set (T.set (T.set (T.set (T.set (T.set (T.set (T.set .leaf 0 t0) 1 t1) 6 t6) 7 t7) 8 t8) 13 t8) 14 v2) 8 v2),H⟩ τ
def s_ref5_Get_j3 (call : CallK) (N : Nat) (k : KC) (st : St) (τ : Tape) : Ans := match st with
  | ⟨fr,H⟩ => getK fr 0 fun t0 => getK fr 1 fun t1 => getK fr 6 fun t6 => getK fr 8 fun t8 => someK (pSlIdx 2 [t0,t8]) fun v9 => someK (pFieldAddr 1 [v9]) fun v10 => someK (lLoad1 [v10] H) fun v11 => binK .add t6 v11 fun v12 => s_ref5_Get_j2 call N k ⟨(T.set (T.set (T.set (T.set (T.set .leaf 0 t0) 1 t1) 6 v12) 8 t8) 7 (.bool true)),H⟩ τ
def s_ref5_Get_l1 (call : CallK) (N : Nat) (st : St) (τ : Tape) (k : KC) : Ans := match st with
  | ⟨fr,H⟩ => getK fr 0 fun t0 => getK fr 1 fun t1 => getK fr 6 fun t6 => getK fr 7 fun t7 => getK fr 8 fun t8 => someK (pLen [t0]) fun v0 => binK .lss t8 v0 fun v1 => condK v1 (someK (pSlIdx 2 [t0,t8]) fun v3 => someK (lLoadN 2 [v3] H) fun v4 => call f_ref5_Named [v4,t1] H τ fun v5 H6 τ7 => unK .not v5 fun v8 => condK v8 (s_ref5_Get_j2 call N k ⟨(T.set (T.set (T.set (T.set (T.set .leaf 0 t0) 1 t1) 6 t6) 7 t7) 8 t8),H6⟩ τ7) (condK t7 (binK .add t6 (.str (bs [44,32])) fun v13 => s_ref5_Get_j3 call N k ⟨(T.set (T.set (T.set (T.set (T.set (T.set (T.set (T.set .leaf 0 t0) 1 t1) 6 t6) 8 t8) 22 t7) 23 t6) 24 v13) 6 v13),H6⟩ τ7) (s_ref5_Get_j3 call N k ⟨(T.set (T.set (T.set (T.set (T.set .leaf 0 t0) 1 t1) 6 t6) 8 t8) 22 t7),H6⟩ τ7))) (k (.exit 0) ⟨(T.set (T.set .leaf 6 t6) 7 t7),H⟩ τ)
def s_ref5_Get (call : CallK) (N : Nat) (a0 a1 : V) (H : Heap) (τ : Tape) (q : KV) : Ans := loopK (s_ref5_Get_l1 call N) N ⟨(T.set (T.set (T.set (T.set (T.set .leaf 0 a0) 1 a1) 6 (.str [])) 7 (.bool false)) 8 (.int .i64 (.ofNat 0))),H⟩ τ (blockK 0 (seqK (s_ref5_Get_j0 call N q) (endK [(.t 4),(.t 5)] q)))
theorem s_ref5_Get_eq (call : CallK) (N : Nat) (a0 a1 : V) (H : Heap) (τ : Tape) (q : KV) : s_ref5_Get call N a0 a1 H τ q = funK call N fn_ref5_Get [a0, a1] H τ q := by kernel_rfl
def e_ref5_Get (call : CallK) (N : Nat) (vs : List V) (H : Heap) (τ : Tape) (q : KV) : Ans := match vs with | [a0, a1] => s_ref5_Get call N a0 a1 H τ q | _ => none
theorem e_ref5_Get_ok : EntOk fn_ref5_Get e_ref5_Get := by
  intro call N vs H τ q r h
  unfold e_ref5_Get at h
  split at h
  · rw [s_ref5_Get_eq] at h; exact h
  · cases h
theorem e_ref5_Get_nat : EntNat e_ref5_Get := by
  intro c hn N vs H τ q
  unfold e_ref5_Get
  split
  · rw [s_ref5_Get_eq, s_ref5_Get_eq]; exact funK_ent hn _ _ _ _ _ _
  · rfl
/-- slices.Clone[[]byte,byte] -/
def fn_slices_Clone_byte : Fun := ⟨1,(.seq (.reg [iR 2 (.p .mv) [(.c .nils)]]) (iK [0] (.seq (.seq (.reg [iM 3 0,iR 4 (.p (.eq false .slice)) [(.t 3),(.c .nils)]]) (iK [0,4] (.cond (.t 4) (.seq (.reg [iR 2 (.p .mv) [(.c .nils)]]) (iK [2] (iK [2] .ret))) .skip))) (iK [0] (.seq (.reg [iR 5 (.e (.buildSlice 0 1 [] [])) [],iM 6 0,iR 7 (.e (.append 1 1)) [(.t 5),(.t 6)],iM 2 7]) (iK [2] (iK [2] .ret))))))),[(.t 2)]⟩
def s_slices_Clone_byte (call : CallK) (N : Nat) (a0 : V) (H : Heap) (τ : Tape) (q : KV) : Ans := someK (pEq false .slice [a0,.nils]) fun v0 => condK v0 (q .nils H τ) (effK (eBuildSlice 0 1 [] [] [] H τ) fun v1 H2 τ3 => effK (eAppend 1 1 [v1,a0] H2 τ3) fun v4 H5 τ6 => q v4 H5 τ6)
theorem s_slices_Clone_byte_eq (call : CallK) (N : Nat) (a0 : V) (H : Heap) (τ : Tape) (q : KV) : s_slices_Clone_byte call N a0 H τ q = funK call N fn_slices_Clone_byte [a0] H τ q := by kernel_rfl
def e_slices_Clone_byte (call : CallK) (N : Nat) (vs : List V) (H : Heap) (τ : Tape) (q : KV) : Ans := match vs with | [a0] => s_slices_Clone_byte call N a0 H τ q | _ => none
theorem e_slices_Clone_byte_ok : EntOk fn_slices_Clone_byte e_slices_Clone_byte := by
  intro call N vs H τ q r h
  unfold e_slices_Clone_byte at h
  split at h
  · rw [s_slices_Clone_byte_eq] at h; exact h
  · cases h
theorem e_slices_Clone_byte_nat : EntNat e_slices_Clone_byte := by
  intro c hn N vs H τ q
  unfold e_slices_Clone_byte
  split
  · rw [s_slices_Clone_byte_eq, s_slices_Clone_byte_eq]; exact funK_ent hn _ _ _ _ _ _
  · rfl
/-- slices.Index[[]string,string] -/
def fn_slices_Index_string : Fun := ⟨2,(.seq (.reg [iR 4 (.p .mv) [(iC 0)]]) (iK [0,1] (.seq (.seq (.reg [iM 6 0,iR 7 (.p .len) [(.t 6)],iR 8 (.p .mv) [(iC 0)]]) (iK [0,1,7,8] (.block 0 (.loop (iK [0,1,7,8] (.seq (.reg [iR 9 (iB .lss) [(.t 8),(.t 7)]]) (iK [0,1,7,8,9] (.seq (.cond (.t 9) .skip (iK [] (.exit 0))) (iK [0,1,7,8] (.seq (.block 1 (.seq (.reg [iM 10 8,iM 5 10]) (iK [0,1,5,7,8] (.seq (.reg [iM 11 1,iM 12 0,iM 13 5,iR 14 (.p (.slIdx 1)) [(.t 12),(.t 13)],iR 15 (.l (.load none)) [(.t 14)],iR 16 (iB .eql) [(.t 11),(.t 15)]]) (iK [0,1,5,7,8,16] (.cond (.t 16) (.seq (.reg [iM 17 5,iM 4 17]) (iK [4] (iK [4] .ret))) .skip))))))
    (iK [0,1,7,8] (.reg [iR 18 (iB .add) [(.t 8),(iC 1)],iM 8 18])))))))))))) (iK [] (.seq (.reg [iR 4 (.p .mv) [(.c (.int .i64 (.negSucc 0)))]]) (iK [4] (iK [4] .ret))))))),[(.t 4)]⟩
def s_slices_Index_string_j0 (call : CallK) (N : Nat) (q : KV) (st : St) (τ : Tape) : Ans := match st with
  | ⟨fr,H⟩ => q (.int .i64 (.negSucc 0)) H τ
def s_slices_Index_string_l1 (call : CallK) (N : Nat) (st : St) (τ : Tape) (k : KC) : Ans := match st with
  | ⟨fr,H⟩ => getK fr 0 fun t0 => getK fr 1 fun t1 => getK fr 7 fun t7 => getK fr 8 fun t8 => binK .lss t8 t7 fun v1 => condK v1 (someK (pSlIdx 1 [t0,t8]) fun v2 => someK (lLoad1 [v2] H) fun v3 => binK .eql t1 v3 fun v4 => condK v4 (k .ret ⟨(T.set .leaf 4 t8),H⟩ τ) (binK .add t8 (.int .i64 (.ofNat 1)) fun v5 => k .normal ⟨(T.set (T.set (T.set (T.set (T.set (T.set .leaf 0 t0) 1 t1) 7 t7) 8 t8) 18 v5) 8 v5),H⟩ τ)) (k (.exit 0) ⟨.leaf,H⟩ τ)
def s_slices_Index_string (call : CallK) (N : Nat) (a0 a1 : V) (H : Heap) (τ : Tape) (q : KV) : Ans := someK (pLen [a0]) fun v0 => loopK (s_slices_Index_string_l1 call N) N ⟨(T.set (T.set (T.set (T.set .leaf 0 a0) 1 a1) 7 v0) 8 (.int .i64 (.ofNat 0))),H⟩ τ (blockK 0 (seqK (s_slices_Index_string_j0 call N q) (endK [(.t 4)] q)))
theorem s_slices_Index_string_eq (call : CallK) (N : Nat) (a0 a1 : V) (H : Heap) (τ : Tape) (q : KV) : s_slices_Index_string call N a0 a1 H τ q = funK call N fn_slices_Index_string [a0, a1] H τ q := by kernel_rfl
def e_slices_Index_string (call : CallK) (N : Nat) (vs : List V) (H : Heap) (τ : Tape) (q : KV) : Ans := match vs with | [a0, a1] => s_slices_Index_string call N a0 a1 H τ q | _ => none
theorem e_slices_Index_string_ok : EntOk fn_slices_Index_string e_slices_Index_string := by
  intro call N vs H τ q r h
  unfold e_slices_Index_string at h
  split at h
  · rw [s_slices_Index_string_eq] at h; exact h
  · cases h
theorem e_slices_Index_string_nat : EntNat e_slices_Index_string := by
  intro c hn N vs H τ q
  unfold e_slices_Index_string
  split
  · rw [s_slices_Index_string_eq, s_slices_Index_string_eq]; exact funK_ent hn _ _ _ _ _ _
  · rfl
/-- ostiary/infra.mapped -/
def fn_infra_mapped : Fun := ⟨2,(.seq (.reg [iR 4 (.p .mv) [(.c (.str []))]]) (iK [0,1] (.seq (.reg [iM 8 0,iR 9 (.e .strBytes) [(.t 8)],iM 5 9]) (iK [1,5] (.seq (.seq (.reg [iM 10 5,iR 11 (.p .len) [(.t 10)],iR 12 (.p .mv) [(iC 0)]]) (iK [1,5,10,11,12] (.block 0 (.loop (iK [1,5,10,11,12] (.seq (.reg [iR 13 (iB .lss) [(.t 12),(.t 11)]]) (iK [1,5,10,11,12,13] (.seq (.cond (.t 13) .skip (iK [5] (.exit 0))) (iK [1,5,10,11,12] (.seq (.block 1 (.seq (.reg [iM 14 12,iR 15 (.p (.slIdx 1)) [(.t 10),(.t 12)],iR 16 (.l (.load none)) [(.t 15)],iM 6 14,iM 7 16]) (iK [1,5,6,7,10,11,12] (.reg [iM 17 5,iM 18 6,iM 19 1,iM 20 7,
    iR 21 .callv [(.t 19),(.t 20)],iR 22 (.p (.slIdx 1)) [(.t 17),(.t 18)],⟨none,none,(.e (.store 1)),[(.t 22),(.t 21)],none⟩])))) (iK [1,5,10,11,12] (.reg [iR 23 (iB .add) [(.t 12),(iC 1)],iM 12 23])))))))))))) (iK [5] (.seq (.reg [iM 24 5,iR 25 (.l .bytesStr) [(.t 24)],iM 4 25]) (iK [4] (iK [4] .ret))))))))),[(.t 4)]⟩
def s_infra_mapped_j0 (call : CallK) (N : Nat) (q : KV) (st : St) (τ : Tape) : Ans := match st with
  | ⟨fr,H⟩ => getK fr 5 fun t5 => someK (lBytesStr [t5] H) fun v4 => q v4 H τ
def s_infra_mapped_l1 (call : CallK) (N : Nat) (st : St) (τ : Tape) (k : KC) : Ans := match st with
  | ⟨fr,H⟩ => getK fr 1 fun t1 => getK fr 5 fun t5 => getK fr 10 fun t10 => getK fr 11 fun t11 => getK fr 12 fun t12 => binK .lss t12 t11 fun v5 => condK v5 (someK (pSlIdx 1 [t10,t12]) fun v6 => someK (lLoad1 [v6] H) fun v7 => opK call .callv [t1,v7] H τ fun v8 H9 τ10 => someK (pSlIdx 1 [t5,t12]) fun v11 => effK (eStore 1 [v11,v8] H9 τ10) fun v12 H13 τ14 => binK .add t12 (.int .i64 (.ofNat 1)) fun v15 => k .normal ⟨(T.set (T.set (T.set (T.set (T.set (T.set (T.set .leaf 1 t1) 5 t5) 10 t10) 11 t11) 12 t12) 23 v15) 12 v15),H13⟩ τ14) (k (.exit 0) ⟨(T.set .leaf 5 t5),H⟩ τ)
def s_infra_mapped (call : CallK) (N : Nat) (a0 a1 : V) (H : Heap) (τ : Tape) (q : KV) : Ans := effK (eStrBytes [a0] H τ) fun v0 H1 τ2 => someK (pLen [v0]) fun v3 => loopK (s_infra_mapped_l1 call N) N ⟨(T.set (T.set (T.set (T.set (T.set .leaf 1 a1) 5 v0) 10 v0) 11 v3) 12 (.int .i64 (.ofNat 0))),H1⟩ τ2 (blockK 0 (seqK (s_infra_mapped_j0 call N q) (endK [(.t 4)] q)))
theorem s_infra_mapped_eq (call : CallK) (N : Nat) (a0 a1 : V) (H : Heap) (τ : Tape) (q : KV) : s_infra_mapped call N a0 a1 H τ q = funK call N fn_infra_mapped [a0, a1] H τ q := by kernel_rfl
def e_infra_mapped (call : CallK) (N : Nat) (vs : List V) (H : Heap) (τ : Tape) (q : KV) : Ans := match vs with | [a0, a1] => s_infra_mapped call N a0 a1 H τ q | _ => none
theorem e_infra_mapped_ok : EntOk fn_infra_mapped e_infra_mapped := by
  intro call N vs H τ q r h
  unfold e_infra_mapped at h
  split at h
  · rw [s_infra_mapped_eq] at h; exact h
  · cases h
theorem e_infra_mapped_nat : EntNat e_infra_mapped := by
  intro c hn N vs H τ q
  unfold e_infra_mapped
  split
  · rw [s_infra_mapped_eq, s_infra_mapped_eq]; exact funK_ent hn _ _ _ _ _ _
  · rfl
/-- ostiary/infra.Lower$1 -/
def fn_infra_Lower_1 : Fun := ⟨1,(.seq (.reg [iR 2 (.p .mv) [(iU 0)]]) (iK [0] (.seq (.seq (.reg [iM 3 0,iR 4 (iB .geq) [(.t 3),(iU 65)],iM 5 4,iN 6 5 true 0,iG 7 5 true (iB .leq) [(.t 6),(iU 90)],iR 8 (.p .pick) [(.t 5),(.t 7),(.c (.bool false))]]) (iK [0,8] (.cond (.t 8) (.reg [iM 9 0,iR 10 (iB .add) [(.t 9),(iU 32)],iM 0 10]) .skip))) (iK [0] (.seq (.reg [iM 11 0,iM 2 11]) (iK [2] (iK [2] .ret))))))),[(.t 2)]⟩
def s_infra_Lower_1_j0 (call : CallK) (N : Nat) (q : KV) (st : St) (τ : Tape) : Ans := match st with
  | ⟨fr,H⟩ => getK fr 0 fun t0 => q t0 H τ
def s_infra_Lower_1 (call : CallK) (N : Nat) (a0 : V) (H : Heap) (τ : Tape) (q : KV) : Ans := binK .geq a0 (.int .u8 (.ofNat 65)) fun v0 => gK v0 true (fun q' => q' a0 H τ) H τ fun v1 H2 τ3 => gK v0 true (fun q' => binK .leq v1 (.int .u8 (.ofNat 90)) fun v => q' v H2 τ3) H2 τ3 fun v4 H5 τ6 => someK (pPick [v0,v4,(.bool false)]) fun v7 => condK v7 (binK .add a0 (.int .u8 (.ofNat 32)) fun v8 => s_infra_Lower_1_j0 call N q ⟨(T.set (T.set (T.set (T.set (T.set .leaf 0 a0) 8 v7) 9 a0) 10 v8) 0 v8),H5⟩ τ6) (s_infra_Lower_1_j0 call N q ⟨(T.set (T.set .leaf 0 a0) 8 v7),H5⟩ τ6)
theorem s_infra_Lower_1_eq (call : CallK) (N : Nat) (a0 : V) (H : Heap) (τ : Tape) (q : KV) : s_infra_Lower_1 call N a0 H τ q = funK call N fn_infra_Lower_1 [a0] H τ q := by kernel_rfl
def e_infra_Lower_1 (call : CallK) (N : Nat) (vs : List V) (H : Heap) (τ : Tape) (q : KV) : Ans := match vs with | [a0] => s_infra_Lower_1 call N a0 H τ q | _ => none
theorem e_infra_Lower_1_ok : EntOk fn_infra_Lower_1 e_infra_Lower_1 := by
  intro call N vs H τ q r h
  unfold e_infra_Lower_1 at h
  split at h
  · rw [s_infra_Lower_1_eq] at h; exact h
  · cases h
theorem e_infra_Lower_1_nat : EntNat e_infra_Lower_1 := by
  intro c hn N vs H τ q
  unfold e_infra_Lower_1
  split
  · rw [s_infra_Lower_1_eq, s_infra_Lower_1_eq]; exact funK_ent hn _ _ _ _ _ _
  · rfl
/-- ostiary/headers.is -/
def fn_headers_is : Fun := ⟨2,(.seq (.reg [iR 2 (.e .box) [(.t 0)],iR 4 (.p .mv) [(.c (.bool false))]]) (iK [1,2] (.seq (.reg [iR 5 (.p (.fieldAddr 0)) [(.t 2)],iR 6 (.l (.load none)) [(.t 5)],iR 7 (.call 59) [(.t 6)],iM 8 1,iR 9 (.call 59) [(.t 8)],iR 10 (iB .eql) [(.t 7),(.t 9)],iM 4 10]) (iK [4] (iK [4] .ret))))),[(.t 4)]⟩
def s_headers_is (call : CallK) (N : Nat) (a0 a1 : V) (H : Heap) (τ : Tape) (q : KV) : Ans := effK (eBox [a0] H τ) fun v0 H1 τ2 => someK (pFieldAddr 0 [v0]) fun v3 => someK (lLoad1 [v3] H1) fun v4 => call f_infra_Lower [v4] H1 τ2 fun v5 H6 τ7 => call f_infra_Lower [a1] H6 τ7 fun v8 H9 τ10 => binK .eql v5 v8 fun v11 => q v11 H9 τ10
theorem s_headers_is_eq (call : CallK) (N : Nat) (a0 a1 : V) (H : Heap) (τ : Tape) (q : KV) : s_headers_is call N a0 a1 H τ q = funK call N fn_headers_is [a0, a1] H τ q := by kernel_rfl
def e_headers_is (call : CallK) (N : Nat) (vs : List V) (H : Heap) (τ : Tape) (q : KV) : Ans := match vs with | [a0, a1] => s_headers_is call N a0 a1 H τ q | _ => none
theorem e_headers_is_ok : EntOk fn_headers_is e_headers_is := by
  intro call N vs H τ q r h
  unfold e_headers_is at h
  split at h
  · rw [s_headers_is_eq] at h; exact h
  · cases h
theorem e_headers_is_nat : EntNat e_headers_is := by
  intro c hn N vs H τ q
  unfold e_headers_is
  split
  · rw [s_headers_is_eq, s_headers_is_eq]; exact funK_ent hn _ _ _ _ _ _
  · rfl
/-- strings.Trim -/
def fn_strings_Trim : Fun := ⟨2,(.seq (.reg [iR 4 (.p .mv) [(.c (.str []))]]) (iK [0,1] (.seq (.seq (.reg [iM 7 0,iR 8 (iB .eql) [(.t 7),(.c (.str []))],iM 9 8,iN 10 9 false 1,iG 11 9 false (iB .eql) [(.t 10),(.c (.str []))],iR 12 (.p .pick) [(.t 9),(.c (.bool true)),(.t 11)]]) (iK [0,1,12] (.cond (.t 12) (.seq (.reg [iM 13 0,iM 4 13]) (iK [4] (iK [4] .ret))) .skip))) (iK [0,1] (.seq (.seq (.reg [iM 14 1,iR 15 (.p .lenS) [(.t 14)],iR 16 (iB .eql) [(.t 15),(iC 1)],iM 17 16,iN 18 17 true 1,iG 19 17 true (.p .strIndex) [(.t 18),(iC 0)],iG 20 17 true (iB .lss) [(.t 19),(iU 128)],
    iR 21 (.p .pick) [(.t 17),(.t 20),(.c (.bool false))]]) (iK [0,1,21] (.cond (.t 21) (.seq (.draw [iM 22 0,iM 23 1,iR 24 (.p .strIndex) [(.t 23),(iC 0)],iR 25 (.call 139) [(.t 22),(.t 24)],iM 26 1,iR 27 (.p .strIndex) [(.t 26),(iC 0)],iR 28 (.call 138) [(.t 25),(.t 27)],iM 4 28]) (iK [4] (iK [4] .ret))) .skip))) (iK [0,1] (.seq (.seq (.reg [iM 30 1,iR 31 (.call 140) [(.t 30)],iM 29 31,iR 32 (.p (.extract 0)) [(.t 29)],iR 33 (.p (.extract 1)) [(.t 29)],iR 5 (.e (.alloc (repl 256 [(.bool false)]))) [],⟨none,none,(.e (.store 256)),[(.t 5),(.t 32)],none⟩,iM 6 33]) (iK [0,1,5,6] (.seq (.reg [iM 34 6]) (iK [0,1,5,34] (.cond (.t 34) (.seq (.reg [iM 35 0,
    iR 36 (.call 142) [(.t 35),(.t 5)],iR 37 (.call 141) [(.t 36),(.t 5)],iM 4 37]) (iK [4] (iK [4] .ret))) .skip))))) (iK [0,1] (.seq (.reg [iM 38 0,iM 39 1,iR 40 (.call 144) [(.t 38),(.t 39)],iM 41 1,iR 42 (.call 143) [(.t 40),(.t 41)],iM 4 42]) (iK [4] (iK [4] .ret))))))))))),[(.t 4)]⟩
def s_strings_Trim (call : CallK) (N : Nat) (a0 a1 : V) (H : Heap) (τ : Tape) (q : KV) : Ans := binK .eql a0 (.str []) fun v0 => gK v0 false (fun q' => q' a1 H τ) H τ fun v1 H2 τ3 => gK v0 false (fun q' => binK .eql v1 (.str []) fun v => q' v H2 τ3) H2 τ3 fun v4 H5 τ6 => someK (pPick [v0,(.bool true),v4]) fun v7 => condK v7 (q a0 H5 τ6) (someK (pLenS [a1]) fun v8 => binK .eql v8 (.int .i64 (.ofNat 1)) fun v9 => gK v9 true (fun q' => q' a1 H5 τ6) H5 τ6 fun v10 H11 τ12 => gK v9 true (fun q' => someK (pStrIndex [v10,(.int .i64 (.ofNat 0))]) fun v => q' v H11 τ12) H11 τ12 fun v13 H14 τ15 => gK v9 true (fun q' => binK .lss v13 (.int .u8 (.ofNat 128)) fun v => q' v H14 τ15) H14 τ15 fun v16 H17 τ18 => someK (pPick [v9,v16,(.bool false)]) fun v19 => condK v19 (someK (pStrIndex [a1,(.int .i64 (.ofNat 0))]) fun v20 => call f_strings_trimRightByte [a0,v20] H17 τ18 fun v21 H22 τ23 =>
    someK (pStrIndex [a1,(.int .i64 (.ofNat 0))]) fun v24 => call f_strings_trimLeftByte [v21,v24] H22 τ23 fun v25 H26 τ27 => q v25 H26 τ27) (call f_strings_makeASCIISet [a1] H17 τ18 fun v28 H29 τ30 => someK (pExtract 0 [v28]) fun v31 => someK (pExtract 1 [v28]) fun v32 => effK (eAlloc (repl 256 [(.bool false)]) [] H29 τ30) fun v33 H34 τ35 => effK (eStore 256 [v33,v31] H34 τ35) fun v36 H37 τ38 => condK v32 (call f_strings_trimRightASCII [a0,v33] H37 τ38 fun v39 H40 τ41 => call f_strings_trimLeftASCII [v39,v33] H40 τ41 fun v42 H43 τ44 => q v42 H43 τ44) (call f_strings_trimRightUnicode [a0,a1] H37 τ38 fun v45 H46 τ47 => call f_strings_trimLeftUnicode [v45,a1] H46 τ47 fun v48 H49 τ50 => q v48 H49 τ50)))
theorem s_strings_Trim_eq (call : CallK) (N : Nat) (a0 a1 : V) (H : Heap) (τ : Tape) (q : KV) : s_strings_Trim call N a0 a1 H τ q = funK call N fn_strings_Trim [a0, a1] H τ q := by kernel_rfl
def e_strings_Trim (call : CallK) (N : Nat) (vs : List V) (H : Heap) (τ : Tape) (q : KV) : Ans := match vs with | [a0, a1] => s_strings_Trim call N a0 a1 H τ q | _ => none
theorem e_strings_Trim_ok : EntOk fn_strings_Trim e_strings_Trim := by
  intro call N vs H τ q r h
  unfold e_strings_Trim at h
  split at h
  · rw [s_strings_Trim_eq] at h; exact h
  · cases h
theorem e_strings_Trim_nat : EntNat e_strings_Trim := by
  intro c hn N vs H τ q
  unfold e_strings_Trim
  split
  · rw [s_strings_Trim_eq, s_strings_Trim_eq]; exact funK_ent hn _ _ _ _ _ _
  · rfl
/-- strings.IndexByte -/
def fn_strings_IndexByte : Fun := ⟨2,(.seq (.reg [iR 4 (.p .mv) [(iC 0)]]) (iK [0,1] (.seq (.reg [iM 5 0,iM 6 1,iR 7 (.call 145) [(.t 5),(.t 6)],iM 4 7]) (iK [4] (iK [4] .ret))))),[(.t 4)]⟩
def s_strings_IndexByte (call : CallK) (N : Nat) (a0 a1 : V) (H : Heap) (τ : Tape) (q : KV) : Ans := call f_stringslite_IndexByte [a0,a1] H τ fun v0 H1 τ2 => q v0 H1 τ2
theorem s_strings_IndexByte_eq (call : CallK) (N : Nat) (a0 a1 : V) (H : Heap) (τ : Tape) (q : KV) : s_strings_IndexByte call N a0 a1 H τ q = funK call N fn_strings_IndexByte [a0, a1] H τ q := by kernel_rfl
def e_strings_IndexByte (call : CallK) (N : Nat) (vs : List V) (H : Heap) (τ : Tape) (q : KV) : Ans := match vs with | [a0, a1] => s_strings_IndexByte call N a0 a1 H τ q | _ => none
theorem e_strings_IndexByte_ok : EntOk fn_strings_IndexByte e_strings_IndexByte := by
  intro call N vs H τ q r h
  unfold e_strings_IndexByte at h
  split at h
  · rw [s_strings_IndexByte_eq] at h; exact h
  · cases h
theorem e_strings_IndexByte_nat : EntNat e_strings_IndexByte := by
  intro c hn N vs H τ q
  unfold e_strings_IndexByte
  split
  · rw [s_strings_IndexByte_eq, s_strings_IndexByte_eq]; exact funK_ent hn _ _ _ _ _ _
  · rfl
/-- ostiary/ostiaryref1.Letter -/
def fn_ref1_Letter : Fun := ⟨1,(.seq (.reg [iR 2 (.p .mv) [(.c (.bool false))]]) (iK [0] (.seq (.reg [iM 3 0,iR 4 (iB .geq) [(.t 3),(iU 97)],iM 5 4,iN 6 5 true 0,iG 7 5 true (iB .leq) [(.t 6),(iU 122)],iR 8 (.p .pick) [(.t 5),(.t 7),(.c (.bool false))],iM 9 8,iN 10 9 false 0,iG 11 9 false (iB .geq) [(.t 10),(iU 65)],iN 12 9 false 11,iN 13 12 true 0,iG 14 12 true (iB .leq) [(.t 13),(iU 90)],iG 15 9 false (.p .pick) [(.t 12),(.t 14),(.c (.bool false))],iR 16 (.p .pick) [(.t 9),(.c (.bool true)),(.t 15)],iM 2 16]) (iK [2] (iK [2] .ret))))),[(.t 2)]⟩
def s_ref1_Letter (call : CallK) (N : Nat) (a0 : V) (H : Heap) (τ : Tape) (q : KV) : Ans := binK .geq a0 (.int .u8 (.ofNat 97)) fun v0 => gK v0 true (fun q' => q' a0 H τ) H τ fun v1 H2 τ3 => gK v0 true (fun q' => binK .leq v1 (.int .u8 (.ofNat 122)) fun v => q' v H2 τ3) H2 τ3 fun v4 H5 τ6 => someK (pPick [v0,v4,(.bool false)]) fun v7 => gK v7 false (fun q' => q' a0 H5 τ6) H5 τ6 fun v8 H9 τ10 => gK v7 false (fun q' => binK .geq v8 (.int .u8 (.ofNat 65)) fun v => q' v H9 τ10) H9 τ10 fun v11 H12 τ13 => gK v7 false (fun q' => q' v11 H12 τ13) H12 τ13 fun v14 H15 τ16 => gK v14 true (fun q' => q' a0 H15 τ16) H15 τ16 fun v17 H18 τ19 => gK v14 true (fun q' => binK .leq v17 (.int .u8 (.ofNat 90)) fun v => q' v H18 τ19) H18 τ19 fun v20 H21 τ22 => gK v7 false (fun q' => someK (pPick [v14,v20,(.bool false)]) fun v => q' v H21 τ22) H21 τ22 fun v23 H24 τ25 =>
    someK (pPick [v7,(.bool true),v23]) fun v26 => q v26 H24 τ25
theorem s_ref1_Letter_eq (call : CallK) (N : Nat) (a0 : V) (H : Heap) (τ : Tape) (q : KV) : s_ref1_Letter call N a0 H τ q = funK call N fn_ref1_Letter [a0] H τ q := by kernel_rfl
def e_ref1_Letter (call : CallK) (N : Nat) (vs : List V) (H : Heap) (τ : Tape) (q : KV) : Ans := match vs with | [a0] => s_ref1_Letter call N a0 H τ q | _ => none
theorem e_ref1_Letter_ok : EntOk fn_ref1_Letter e_ref1_Letter := by
  intro call N vs H τ q r h
  unfold e_ref1_Letter at h
  split at h
  · rw [s_ref1_Letter_eq] at h; exact h
  · cases h
theorem e_ref1_Letter_nat : EntNat e_ref1_Letter := by
  intro c hn N vs H τ q
  unfold e_ref1_Letter
  split
  · rw [s_ref1_Letter_eq, s_ref1_Letter_eq]; exact funK_ent hn _ _ _ _ _ _
  · rfl
/-- ostiary/ostiaryref1.Digit -/
def fn_ref1_Digit : Fun := ⟨1,(.seq (.reg [iR 2 (.p .mv) [(.c (.bool false))]]) (iK [0] (.seq (.reg [iM 3 0,iR 4 (iB .geq) [(.t 3),(iU 48)],iM 5 4,iN 6 5 true 0,iG 7 5 true (iB .leq) [(.t 6),(iU 57)],iR 8 (.p .pick) [(.t 5),(.t 7),(.c (.bool false))],iM 2 8]) (iK [2] (iK [2] .ret))))),[(.t 2)]⟩
def s_ref1_Digit (call : CallK) (N : Nat) (a0 : V) (H : Heap) (τ : Tape) (q : KV) : Ans := binK .geq a0 (.int .u8 (.ofNat 48)) fun v0 => gK v0 true (fun q' => q' a0 H τ) H τ fun v1 H2 τ3 => gK v0 true (fun q' => binK .leq v1 (.int .u8 (.ofNat 57)) fun v => q' v H2 τ3) H2 τ3 fun v4 H5 τ6 => someK (pPick [v0,v4,(.bool false)]) fun v7 => q v7 H5 τ6
theorem s_ref1_Digit_eq (call : CallK) (N : Nat) (a0 : V) (H : Heap) (τ : Tape) (q : KV) : s_ref1_Digit call N a0 H τ q = funK call N fn_ref1_Digit [a0] H τ q := by kernel_rfl
def e_ref1_Digit (call : CallK) (N : Nat) (vs : List V) (H : Heap) (τ : Tape) (q : KV) : Ans := match vs with | [a0] => s_ref1_Digit call N a0 H τ q | _ => none
theorem e_ref1_Digit_ok : EntOk fn_ref1_Digit e_ref1_Digit := by
  intro call N vs H τ q r h
  unfold e_ref1_Digit at h
  split at h
  · rw [s_ref1_Digit_eq] at h; exact h
  · cases h
theorem e_ref1_Digit_nat : EntNat e_ref1_Digit := by
  intro c hn N vs H τ q
  unfold e_ref1_Digit
  split
  · rw [s_ref1_Digit_eq, s_ref1_Digit_eq]; exact funK_ent hn _ _ _ _ _ _
  · rfl
/-- ostiary/ostiaryref1.Trim -/
def fn_ref1_Trim : Fun := ⟨2,(.seq (.reg [iR 4 (.p .mv) [(.c (.str []))]]) (iK [0,1] (.seq (.block 0 (.loop (iK [0,1] (.seq (.seq (.reg [iM 5 0,iR 6 (.p .lenS) [(.t 5)],iR 7 (iB .gtr) [(.t 6),(iC 0)],iM 8 7,iN 9 8 true 0,iG 10 8 true (.p .strIndex) [(.t 9),(iC 0)],iN 11 8 true 1,iG 12 8 true (.call 147) [(.t 10),(.t 11)],iR 13 (.p .pick) [(.t 8),(.t 12),(.c (.bool false))]]) (iK [0,1,13] (.cond (.t 13) .skip (iK [0,1] (.exit 0))))) (iK [0,1] (.block 1 (.reg [iM 14 0,iR 15 (.p (.strSlice true false)) [(.t 14),(iC 1)],iM 0 15]))))))) (iK [0,1] (.seq (.block 2 (.loop (iK [0,1] (.seq (.seq (.reg [iM 16 0,iR 17 (.p .lenS) [(.t 16)],
    iR 18 (iB .gtr) [(.t 17),(iC 0)],iM 19 18,iN 20 19 true 0,iN 21 19 true 0,iG 22 19 true (.p .lenS) [(.t 21)],iG 23 19 true (iB .sub) [(.t 22),(iC 1)],iG 24 19 true (.p .strIndex) [(.t 20),(.t 23)],iN 25 19 true 1,iG 26 19 true (.call 147) [(.t 24),(.t 25)],iR 27 (.p .pick) [(.t 19),(.t 26),(.c (.bool false))]]) (iK [0,1,27] (.cond (.t 27) .skip (iK [0] (.exit 2))))) (iK [0,1] (.block 3 (.reg [iM 28 0,iM 29 0,iR 30 (.p .lenS) [(.t 29)],iR 31 (iB .sub) [(.t 30),(iC 1)],iR 32 (.p (.strSlice false true)) [(.t 28),(.t 31)],iM 0 32]))))))) (iK [0] (.seq (.reg [iM 33 0,iM 4 33]) (iK [4] (iK [4] .ret))))))))),[(.t 4)]⟩
def s_ref1_Trim_j1 (call : CallK) (N : Nat) (q : KV) (st : St) (τ : Tape) : Ans := match st with
  | ⟨fr,H⟩ => getK fr 0 fun t0 => q t0 H τ
def s_ref1_Trim_l2 (call : CallK) (N : Nat) (st : St) (τ : Tape) (k : KC) : Ans := match st with
  | ⟨fr,H⟩ => getK fr 0 fun t0 => getK fr 1 fun t1 => someK (pLenS [t0]) fun v0 => binK .gtr v0 (.int .i64 (.ofNat 0)) fun v1 => gK v1 true (fun q' => q' t0 H τ) H τ fun v2 H3 τ4 => gK v1 true (fun q' => q' t0 H3 τ4) H3 τ4 fun v5 H6 τ7 => gK v1 true (fun q' => someK (pLenS [v5]) fun v => q' v H6 τ7) H6 τ7 fun v8 H9 τ10 => gK v1 true (fun q' => binK .sub v8 (.int .i64 (.ofNat 1)) fun v => q' v H9 τ10) H9 τ10 fun v11 H12 τ13 => gK v1 true (fun q' => someK (pStrIndex [v2,v11]) fun v => q' v H12 τ13) H12 τ13 fun v14 H15 τ16 => gK v1 true (fun q' => q' t1 H15 τ16) H15 τ16 fun v17 H18 τ19 => gK v1 true (fun q' => call f_ref1_ends [v14,v17] H18 τ19 q') H18 τ19 fun v20 H21 τ22 => someK (pPick [v1,v20,(.bool false)]) fun v23 => condK v23 (someK (pLenS [t0]) fun v24 => binK .sub v24 (.int .i64 (.ofNat 1)) fun v25 => someK (pStrSlice false true [t0,v25]) fun v26 =>
    k .normal ⟨(T.set (T.set (T.set (T.set (T.set (T.set (T.set (T.set .leaf 0 t0) 1 t1) 28 t0) 29 t0) 30 v24) 31 v25) 32 v26) 0 v26),H21⟩ τ22) (k (.exit 2) ⟨(T.set .leaf 0 t0),H21⟩ τ22)
def s_ref1_Trim_j0 (call : CallK) (N : Nat) (q : KV) (st : St) (τ : Tape) : Ans := match st with
  | ⟨fr,H⟩ => getK fr 0 fun t0 => getK fr 1 fun t1 => loopK (s_ref1_Trim_l2 call N) N ⟨(T.set (T.set .leaf 0 t0) 1 t1),H⟩ τ (blockK 2 (seqK (s_ref1_Trim_j1 call N q) (endK [(.t 4)] q)))
def s_ref1_Trim_l3 (call : CallK) (N : Nat) (st : St) (τ : Tape) (k : KC) : Ans := match st with
  | ⟨fr,H⟩ => getK fr 0 fun t0 => getK fr 1 fun t1 => someK (pLenS [t0]) fun v27 => binK .gtr v27 (.int .i64 (.ofNat 0)) fun v28 => gK v28 true (fun q' => q' t0 H τ) H τ fun v29 H30 τ31 => gK v28 true (fun q' => someK (pStrIndex [v29,(.int .i64 (.ofNat 0))]) fun v => q' v H30 τ31) H30 τ31 fun v32 H33 τ34 => gK v28 true (fun q' => q' t1 H33 τ34) H33 τ34 fun v35 H36 τ37 => gK v28 true (fun q' => call f_ref1_ends [v32,v35] H36 τ37 q') H36 τ37 fun v38 H39 τ40 => someK (pPick [v28,v38,(.bool false)]) fun v41 => condK v41 (someK (pStrSlice true false [t0,(.int .i64 (.ofNat 1))]) fun v42 => k .normal ⟨(T.set (T.set (T.set (T.set (T.set .leaf 0 t0) 1 t1) 14 t0) 15 v42) 0 v42),H39⟩ τ40) (k (.exit 0) ⟨(T.set (T.set .leaf 0 t0) 1 t1),H39⟩ τ40)
def s_ref1_Trim (call : CallK) (N : Nat) (a0 a1 : V) (H : Heap) (τ : Tape) (q : KV) : Ans := loopK (s_ref1_Trim_l3 call N) N ⟨(T.set (T.set .leaf 0 a0) 1 a1),H⟩ τ (blockK 0 (seqK (s_ref1_Trim_j0 call N q) (endK [(.t 4)] q)))
theorem s_ref1_Trim_eq (call : CallK) (N : Nat) (a0 a1 : V) (H : Heap) (τ : Tape) (q : KV) : s_ref1_Trim call N a0 a1 H τ q = funK call N fn_ref1_Trim [a0, a1] H τ q := by kernel_rfl
def e_ref1_Trim (call : CallK) (N : Nat) (vs : List V) (H : Heap) (τ : Tape) (q : KV) : Ans := match vs with | [a0, a1] => s_ref1_Trim call N a0 a1 H τ q | _ => none
theorem e_ref1_Trim_ok : EntOk fn_ref1_Trim e_ref1_Trim := by
  intro call N vs H τ q r h
  unfold e_ref1_Trim at h
  split at h
  · rw [s_ref1_Trim_eq] at h; exact h
  · cases h
theorem e_ref1_Trim_nat : EntNat e_ref1_Trim := by
  intro c hn N vs H τ q
  unfold e_ref1_Trim
  split
  · rw [s_ref1_Trim_eq, s_ref1_Trim_eq]; exact funK_ent hn _ _ _ _ _ _
  · rfl
/-- ostiary/ostiaryref5.Named -/
def fn_ref5_Named : Fun := ⟨2,(.seq (.reg [iR 2 (.e .box) [(.t 0)],iR 4 (.p .mv) [(.c (.bool false))]]) (iK [1,2] (.seq (.reg [iR 5 (.p (.fieldAddr 0)) [(.t 2)],iR 6 (.l (.load none)) [(.t 5)],iR 7 (.call 55) [(.t 6)],iM 8 1,iR 9 (.call 55) [(.t 8)],iR 10 (iB .eql) [(.t 7),(.t 9)],iM 4 10]) (iK [4] (iK [4] .ret))))),[(.t 4)]⟩
def s_ref5_Named (call : CallK) (N : Nat) (a0 a1 : V) (H : Heap) (τ : Tape) (q : KV) : Ans := effK (eBox [a0] H τ) fun v0 H1 τ2 => someK (pFieldAddr 0 [v0]) fun v3 => someK (lLoad1 [v3] H1) fun v4 => call f_ref1_Lower [v4] H1 τ2 fun v5 H6 τ7 => call f_ref1_Lower [a1] H6 τ7 fun v8 H9 τ10 => binK .eql v5 v8 fun v11 => q v11 H9 τ10
theorem s_ref5_Named_eq (call : CallK) (N : Nat) (a0 a1 : V) (H : Heap) (τ : Tape) (q : KV) : s_ref5_Named call N a0 a1 H τ q = funK call N fn_ref5_Named [a0, a1] H τ q := by kernel_rfl
def e_ref5_Named (call : CallK) (N : Nat) (vs : List V) (H : Heap) (τ : Tape) (q : KV) : Ans := match vs with | [a0, a1] => s_ref5_Named call N a0 a1 H τ q | _ => none
theorem e_ref5_Named_ok : EntOk fn_ref5_Named e_ref5_Named := by
  intro call N vs H τ q r h
  unfold e_ref5_Named at h
  split at h
  · rw [s_ref5_Named_eq] at h; exact h
  · cases h
theorem e_ref5_Named_nat : EntNat e_ref5_Named := by
  intro c hn N vs H τ q
  unfold e_ref5_Named
  split
  · rw [s_ref5_Named_eq, s_ref5_Named_eq]; exact funK_ent hn _ _ _ _ _ _
  · rfl
/-- strings.trimLeftByte -/
def fn_strings_trimLeftByte : Fun := ⟨2,(.seq (.reg [iR 4 (.p .mv) [(.c (.str []))]]) (iK [0,1] (.seq (.block 0 (.loop (iK [0,1] (.seq (.seq (.reg [iM 5 0,iR 6 (.p .lenS) [(.t 5)],iR 7 (iB .gtr) [(.t 6),(iC 0)],iM 8 7,iN 9 8 true 0,iG 10 8 true (.p .strIndex) [(.t 9),(iC 0)],iN 11 8 true 1,iG 12 8 true (iB .eql) [(.t 10),(.t 11)],iR 13 (.p .pick) [(.t 8),(.t 12),(.c (.bool false))]]) (iK [0,1,13] (.cond (.t 13) .skip (iK [0] (.exit 0))))) (iK [0,1] (.block 1 (.reg [iM 14 0,iR 15 (.p (.strSlice true false)) [(.t 14),(iC 1)],iM 0 15]))))))) (iK [0] (.seq (.reg [iM 16 0,iM 4 16]) (iK [4] (iK [4] .ret))))))),[(.t 4)]⟩
/-- strings.trimRightByte -/
def fn_strings_trimRightByte : Fun := ⟨2,(.seq (.reg [iR 4 (.p .mv) [(.c (.str []))]]) (iK [0,1] (.seq (.block 0 (.loop (iK [0,1] (.seq (.seq (.reg [iM 5 0,iR 6 (.p .lenS) [(.t 5)],iR 7 (iB .gtr) [(.t 6),(iC 0)],iM 8 7,iN 9 8 true 0,iN 10 8 true 0,iG 11 8 true (.p .lenS) [(.t 10)],iG 12 8 true (iB .sub) [(.t 11),(iC 1)],iG 13 8 true (.p .strIndex) [(.t 9),(.t 12)],iN 14 8 true 1,iG 15 8 true (iB .eql) [(.t 13),(.t 14)],iR 16 (.p .pick) [(.t 8),(.t 15),(.c (.bool false))]]) (iK [0,1,16] (.cond (.t 16) .skip (iK [0] (.exit 0))))) (iK [0,1] (.block 1 (.reg [iM 17 0,iM 18 0,iR 19 (.p .lenS) [(.t 18)],iR 20 (iB .sub) [(.t 19),(iC 1)],
    iR 21 (.p (.strSlice false true)) [(.t 17),(.t 20)],iM 0 21]))))))) (iK [0] (.seq (.reg [iM 22 0,iM 4 22]) (iK [4] (iK [4] .ret))))))),[(.t 4)]⟩
/-- strings.makeASCIISet -/
def fn_strings_makeASCIISet : Fun := ⟨1,(.seq (.reg [iR 2 (.e (.alloc (repl 256 [(.bool false)]))) [],iR 3 (.p .mv) [(.c (.bool false))]]) (iK [0,2] (.seq (.seq (.reg [iR 4 (.p .mv) [(iC 0)]]) (iK [0,2,4] (.block 0 (.loop (iK [0,2,4] (.seq (.seq (.reg [iM 6 4,iM 7 0,iR 8 (.p .lenS) [(.t 7)],iR 9 (iB .lss) [(.t 6),(.t 8)]]) (iK [0,2,4,9] (.cond (.t 9) .skip (iK [2] (.exit 0))))) (iK [0,2,4] (.seq (.block 1 (.seq (.reg [iM 12 0,iM 13 4,iR 14 (.p .strIndex) [(.t 12),(.t 13)],iM 5 14]) (iK [0,2,4,5] (.seq (.seq (.reg [iM 15 5,iR 16 (iB .geq) [(.t 15),(iU 128)]]) (iK [0,2,4,5,16] (.cond (.t 16) (.seq (.reg [iR 17 (.l (.load (some 256))) [(.t 2)],
    ⟨none,none,(.e (.store 256)),[(.t 2),(.t 17)],none⟩,iR 3 (.p .mv) [(.c (.bool false))]]) (iK [2,3] (iK [2,3] .ret))) .skip))) (iK [0,2,4,5] (.reg [iM 18 5,iR 19 (.p (.arrIdx 256 1)) [(.t 2),(.t 18)],⟨none,none,(.e (.store 1)),[(.t 19),(.c (.bool true))],none⟩])))))) (iK [0,2,4] (.reg [iM 10 4,iR 11 (iB .add) [(.t 10),(iC 1)],iM 4 11])))))))))) (iK [2] (.seq (.reg [iR 20 (.l (.load (some 256))) [(.t 2)],⟨none,none,(.e (.store 256)),[(.t 2),(.t 20)],none⟩,iR 3 (.p .mv) [(.c (.bool true))]]) (iK [2,3] (iK [2,3] .ret))))))),[(.cell 2 (some 256)),(.t 3)]⟩
def s_strings_makeASCIISet_j0 (call : CallK) (N : Nat) (q : KV) (st : St) (τ : Tape) : Ans := match st with
  | ⟨fr,H⟩ => getK fr 2 fun t2 => someK (lLoadN 256 [t2] H) fun v3 => effK (eStore 256 [t2,v3] H τ) fun v4 H5 τ6 => someK (results ⟨(T.set (T.set .leaf 2 t2) 3 (.bool true)),H5⟩ [(.cell 2 (some 256)),(.t 3)]) fun v => q v H5 τ6
def s_strings_makeASCIISet_l1 (call : CallK) (N : Nat) (st : St) (τ : Tape) (k : KC) : Ans := match st with
  | ⟨fr,H⟩ => getK fr 0 fun t0 => getK fr 2 fun t2 => getK fr 4 fun t4 => someK (pLenS [t0]) fun v7 => binK .lss t4 v7 fun v8 => condK v8 (someK (pStrIndex [t0,t4]) fun v9 => binK .geq v9 (.int .u8 (.ofNat 128)) fun v10 => condK v10 (someK (lLoadN 256 [t2] H) fun v11 => effK (eStore 256 [t2,v11] H τ) fun v12 H13 τ14 => k .ret ⟨(T.set (T.set .leaf 2 t2) 3 (.bool false)),H13⟩ τ14) (someK (pArrIdx 256 1 [t2,v9]) fun v15 => effK (eStore 1 [v15,(.bool true)] H τ) fun v16 H17 τ18 => binK .add t4 (.int .i64 (.ofNat 1)) fun v19 => k .normal ⟨(T.set (T.set (T.set (T.set (T.set (T.set .leaf 0 t0) 2 t2) 4 t4) 10 t4) 11 v19) 4 v19),H17⟩ τ18)) (k (.exit 0) ⟨(T.set .leaf 2 t2),H⟩ τ)
def s_strings_makeASCIISet (call : CallK) (N : Nat) (a0 : V) (H : Heap) (τ : Tape) (q : KV) : Ans := effK (eAlloc (repl 256 [(.bool false)]) [] H τ) fun v0 H1 τ2 => loopK (s_strings_makeASCIISet_l1 call N) N ⟨(T.set (T.set (T.set .leaf 0 a0) 2 v0) 4 (.int .i64 (.ofNat 0))),H1⟩ τ2 (blockK 0 (seqK (s_strings_makeASCIISet_j0 call N q) (endK [(.cell 2 (some 256)),(.t 3)] q)))
theorem s_strings_makeASCIISet_eq (call : CallK) (N : Nat) (a0 : V) (H : Heap) (τ : Tape) (q : KV) : s_strings_makeASCIISet call N a0 H τ q = funK call N fn_strings_makeASCIISet [a0] H τ q := by kernel_rfl
def e_strings_makeASCIISet (call : CallK) (N : Nat) (vs : List V) (H : Heap) (τ : Tape) (q : KV) : Ans := match vs with | [a0] => s_strings_makeASCIISet call N a0 H τ q | _ => none
theorem e_strings_makeASCIISet_ok : EntOk fn_strings_makeASCIISet e_strings_makeASCIISet := by
  intro call N vs H τ q r h
  unfold e_strings_makeASCIISet at h
  split at h
  · rw [s_strings_makeASCIISet_eq] at h; exact h
  · cases h
theorem e_strings_makeASCIISet_nat : EntNat e_strings_makeASCIISet := by
  intro c hn N vs H τ q
  unfold e_strings_makeASCIISet
  split
  · rw [s_strings_makeASCIISet_eq, s_strings_makeASCIISet_eq]; exact funK_ent hn _ _ _ _ _ _
  · rfl
/-- strings.trimLeftASCII -/
def fn_strings_trimLeftASCII : Fun := ⟨2,(.seq (.reg [iR 4 (.p .mv) [(.c (.str []))]]) (iK [0,1] (.seq (.block 0 (.loop (iK [0,1] (.seq (.seq (.reg [iM 5 0,iR 6 (.p .lenS) [(.t 5)],iR 7 (iB .gtr) [(.t 6),(iC 0)]]) (iK [0,1,7] (.cond (.t 7) .skip (iK [0] (.exit 0))))) (iK [0,1] (.block 1 (.seq (.seq (.reg [iM 8 1,iM 9 0,iR 10 (.p .strIndex) [(.t 9),(iC 0)],iR 11 (.call 171) [(.t 8),(.t 10)],iR 12 (.p (.un .not)) [(.t 11)]]) (iK [0,1,12] (.cond (.t 12) (iK [0] (.exit 0)) .skip))) (iK [0,1] (.reg [iM 13 0,iR 14 (.p (.strSlice true false)) [(.t 13),(iC 1)],iM 0 14]))))))))) (iK [0] (.seq (.reg [iM 15 0,iM 4 15]) (iK [4] (iK [4] .ret))))))),[(.t 4)]⟩
def s_strings_trimLeftASCII_j0 (call : CallK) (N : Nat) (q : KV) (st : St) (τ : Tape) : Ans := match st with
  | ⟨fr,H⟩ => getK fr 0 fun t0 => q t0 H τ
def s_strings_trimLeftASCII_l1 (call : CallK) (N : Nat) (st : St) (τ : Tape) (k : KC) : Ans := match st with
  | ⟨fr,H⟩ => getK fr 0 fun t0 => getK fr 1 fun t1 => someK (pLenS [t0]) fun v0 => binK .gtr v0 (.int .i64 (.ofNat 0)) fun v1 => condK v1 (someK (pStrIndex [t0,(.int .i64 (.ofNat 0))]) fun v2 => call f_asciiSet_contains [t1,v2] H τ fun v3 H4 τ5 => unK .not v3 fun v6 => condK v6 (k (.exit 0) ⟨(T.set .leaf 0 t0),H4⟩ τ5) (someK (pStrSlice true false [t0,(.int .i64 (.ofNat 1))]) fun v7 => k .normal ⟨(T.set (T.set (T.set (T.set (T.set .leaf 0 t0) 1 t1) 13 t0) 14 v7) 0 v7),H4⟩ τ5)) (k (.exit 0) ⟨(T.set .leaf 0 t0),H⟩ τ)
def s_strings_trimLeftASCII (call : CallK) (N : Nat) (a0 a1 : V) (H : Heap) (τ : Tape) (q : KV) : Ans := loopK (s_strings_trimLeftASCII_l1 call N) N ⟨(T.set (T.set .leaf 0 a0) 1 a1),H⟩ τ (blockK 0 (seqK (s_strings_trimLeftASCII_j0 call N q) (endK [(.t 4)] q)))
theorem s_strings_trimLeftASCII_eq (call : CallK) (N : Nat) (a0 a1 : V) (H : Heap) (τ : Tape) (q : KV) : s_strings_trimLeftASCII call N a0 a1 H τ q = funK call N fn_strings_trimLeftASCII [a0, a1] H τ q := by kernel_rfl
def e_strings_trimLeftASCII (call : CallK) (N : Nat) (vs : List V) (H : Heap) (τ : Tape) (q : KV) : Ans := match vs with | [a0, a1] => s_strings_trimLeftASCII call N a0 a1 H τ q | _ => none
theorem e_strings_trimLeftASCII_ok : EntOk fn_strings_trimLeftASCII e_strings_trimLeftASCII := by
  intro call N vs H τ q r h
  unfold e_strings_trimLeftASCII at h
  split at h
  · rw [s_strings_trimLeftASCII_eq] at h; exact h
  · cases h
theorem e_strings_trimLeftASCII_nat : EntNat e_strings_trimLeftASCII := by
  intro c hn N vs H τ q
  unfold e_strings_trimLeftASCII
  split
  · rw [s_strings_trimLeftASCII_eq, s_strings_trimLeftASCII_eq]; exact funK_ent hn _ _ _ _ _ _
  · rfl
/-- strings.trimRightASCII -/
def fn_strings_trimRightASCII : Fun := ⟨2,(.seq (.reg [iR 4 (.p .mv) [(.c (.str []))]]) (iK [0,1] (.seq (.block 0 (.loop (iK [0,1] (.seq (.seq (.reg [iM 5 0,iR 6 (.p .lenS) [(.t 5)],iR 7 (iB .gtr) [(.t 6),(iC 0)]]) (iK [0,1,7] (.cond (.t 7) .skip (iK [0] (.exit 0))))) (iK [0,1] (.block 1 (.seq (.seq (.reg [iM 8 1,iM 9 0,iM 10 0,iR 11 (.p .lenS) [(.t 10)],iR 12 (iB .sub) [(.t 11),(iC 1)],iR 13 (.p .strIndex) [(.t 9),(.t 12)],iR 14 (.call 171) [(.t 8),(.t 13)],iR 15 (.p (.un .not)) [(.t 14)]]) (iK [0,1,15] (.cond (.t 15) (iK [0] (.exit 0)) .skip))) (iK [0,1] (.reg [iM 16 0,iM 17 0,iR 18 (.p .lenS) [(.t 17)],iR 19 (iB .sub) [(.t 18),(iC 1)],
    iR 20 (.p (.strSlice false true)) [(.t 16),(.t 19)],iM 0 20]))))))))) (iK [0] (.seq (.reg [iM 21 0,iM 4 21]) (iK [4] (iK [4] .ret))))))),[(.t 4)]⟩
def s_strings_trimRightASCII_j0 (call : CallK) (N : Nat) (q : KV) (st : St) (τ : Tape) : Ans := match st with
  | ⟨fr,H⟩ => getK fr 0 fun t0 => q t0 H τ
def s_strings_trimRightASCII_l1 (call : CallK) (N : Nat) (st : St) (τ : Tape) (k : KC) : Ans := match st with
  | ⟨fr,H⟩ => getK fr 0 fun t0 => getK fr 1 fun t1 => someK (pLenS [t0]) fun v0 => binK .gtr v0 (.int .i64 (.ofNat 0)) fun v1 => condK v1 (someK (pLenS [t0]) fun v2 => binK .sub v2 (.int .i64 (.ofNat 1)) fun v3 => someK (pStrIndex [t0,v3]) fun v4 => call f_asciiSet_contains [t1,v4] H τ fun v5 H6 τ7 => unK .not v5 fun v8 => condK v8 (k (.exit 0) ⟨(T.set .leaf 0 t0),H6⟩ τ7) (someK (pLenS [t0]) fun v9 => binK .sub v9 (.int .i64 (.ofNat 1)) fun v10 => someK (pStrSlice false true [t0,v10]) fun v11 => k .normal ⟨(T.set (T.set (T.set (T.set (T.set (T.set (T.set (T.set .leaf 0 t0) 1 t1) 16 t0) 17 t0) 18 v9) 19 v10) 20 v11) 0 v11),H6⟩ τ7)) (k (.exit 0) ⟨(T.set .leaf 0 t0),H⟩ τ)
def s_strings_trimRightASCII (call : CallK) (N : Nat) (a0 a1 : V) (H : Heap) (τ : Tape) (q : KV) : Ans := loopK (s_strings_trimRightASCII_l1 call N) N ⟨(T.set (T.set .leaf 0 a0) 1 a1),H⟩ τ (blockK 0 (seqK (s_strings_trimRightASCII_j0 call N q) (endK [(.t 4)] q)))
theorem s_strings_trimRightASCII_eq (call : CallK) (N : Nat) (a0 a1 : V) (H : Heap) (τ : Tape) (q : KV) : s_strings_trimRightASCII call N a0 a1 H τ q = funK call N fn_strings_trimRightASCII [a0, a1] H τ q := by kernel_rfl
def e_strings_trimRightASCII (call : CallK) (N : Nat) (vs : List V) (H : Heap) (τ : Tape) (q : KV) : Ans := match vs with | [a0, a1] => s_strings_trimRightASCII call N a0 a1 H τ q | _ => none
theorem e_strings_trimRightASCII_ok : EntOk fn_strings_trimRightASCII e_strings_trimRightASCII := by
  intro call N vs H τ q r h
  unfold e_strings_trimRightASCII at h
  split at h
  · rw [s_strings_trimRightASCII_eq] at h; exact h
  · cases h
theorem e_strings_trimRightASCII_nat : EntNat e_strings_trimRightASCII := by
  intro c hn N vs H τ q
  unfold e_strings_trimRightASCII
  split
  · rw [s_strings_trimRightASCII_eq, s_strings_trimRightASCII_eq]; exact funK_ent hn _ _ _ _ _ _
  · rfl
/-- strings.trimLeftUnicode -/
def fn_strings_trimLeftUnicode : Fun := ⟨2,(.seq (.reg [iR 4 (.p .mv) [(.c (.str []))]]) (iK [0,1] (.seq (.block 0 (.loop (iK [0,1] (.seq (.seq (.reg [iM 7 0,iR 8 (.p .lenS) [(.t 7)],iR 9 (iB .gtr) [(.t 8),(iC 0)]]) (iK [0,1,9] (.cond (.t 9) .skip (iK [0] (.exit 0))))) (iK [0,1] (.block 1 (.seq (.reg [iM 11 0,iR 12 (.call 172) [(.t 11)],iM 10 12,iR 13 (.p (.extract 0)) [(.t 10)],iR 14 (.p (.extract 1)) [(.t 10)],iM 5 13,iM 6 14]) (iK [0,1,5,6] (.seq (.seq (.reg [iM 15 1,iM 16 5,iR 17 (.call 173) [(.t 15),(.t 16)],iR 18 (.p (.un .not)) [(.t 17)]]) (iK [0,1,6,18] (.cond (.t 18) (iK [0] (.exit 0)) .skip))) (iK [0,1,6] (.reg [iM 19 0,iM 20 6,
    iR 21 (.p (.strSlice true false)) [(.t 19),(.t 20)],iM 0 21]))))))))))) (iK [0] (.seq (.reg [iM 22 0,iM 4 22]) (iK [4] (iK [4] .ret))))))),[(.t 4)]⟩
/-- strings.trimRightUnicode -/
def fn_strings_trimRightUnicode : Fun := ⟨2,(.seq (.reg [iR 4 (.p .mv) [(.c (.str []))]]) (iK [0,1] (.seq (.block 0 (.loop (iK [0,1] (.seq (.seq (.reg [iM 7 0,iR 8 (.p .lenS) [(.t 7)],iR 9 (iB .gtr) [(.t 8),(iC 0)]]) (iK [0,1,9] (.cond (.t 9) .skip (iK [0] (.exit 0))))) (iK [0,1] (.block 1 (.seq (.reg [iM 10 0,iM 11 0,iR 12 (.p .lenS) [(.t 11)],iR 13 (iB .sub) [(.t 12),(iC 1)],iR 14 (.p .strIndex) [(.t 10),(.t 13)],iR 15 (.p (.toInt .i32)) [(.t 14)],iM 5 15,iR 6 (.p .mv) [(iC 1)]]) (iK [0,1,5,6] (.seq (.seq (.reg [iM 16 5,iR 17 (iB .geq) [(.t 16),(.c (.int .i32 (.ofNat 128)))]]) (iK [0,1,5,6,17] (.cond (.t 17) (.reg [iM 19 0,iR 20 (.call 174) [(.t 19)],
    iM 18 20,iR 21 (.p (.extract 0)) [(.t 18)],iR 22 (.p (.extract 1)) [(.t 18)],iM 5 21,iM 6 22]) .skip))) (iK [0,1,5,6] (.seq (.seq (.reg [iM 23 1,iM 24 5,iR 25 (.call 173) [(.t 23),(.t 24)],iR 26 (.p (.un .not)) [(.t 25)]]) (iK [0,1,6,26] (.cond (.t 26) (iK [0] (.exit 0)) .skip))) (iK [0,1,6] (.reg [iM 27 0,iM 28 0,iR 29 (.p .lenS) [(.t 28)],iM 30 6,iR 31 (iB .sub) [(.t 29),(.t 30)],iR 32 (.p (.strSlice false true)) [(.t 27),(.t 31)],iM 0 32]))))))))))))) (iK [0] (.seq (.reg [iM 33 0,iM 4 33]) (iK [4] (iK [4] .ret))))))),[(.t 4)]⟩
/-- ostiary/ostiaryref1.ends -/
def fn_ref1_ends : Fun := ⟨2,(.seq (.reg [iR 4 (.p .mv) [(.c (.bool false))]]) (iK [0,1] (.seq (.reg [iM 5 0,iR 6 (iB .eql) [(.t 5),(iU 9)],iM 7 6,iN 8 7 false 0,iG 9 7 false (iB .eql) [(.t 8),(iU 32)],iR 10 (.p .pick) [(.t 7),(.c (.bool true)),(.t 9)],iM 11 10,iN 12 11 false 1,iG 13 11 false (.p (.un .not)) [(.t 12)],iN 14 11 false 13,iN 15 14 true 0,iG 16 14 true (iB .eql) [(.t 15),(iU 10)],iN 17 14 true 16,iN 18 17 false 0,iG 19 17 false (iB .eql) [(.t 18),(iU 13)],iG 20 14 true (.p .pick) [(.t 17),(.c (.bool true)),(.t 19)],iG 21 11 false (.p .pick) [(.t 14),(.t 20),(.c (.bool false))],
    iR 22 (.p .pick) [(.t 11),(.c (.bool true)),(.t 21)],iM 4 22]) (iK [4] (iK [4] .ret))))),[(.t 4)]⟩
def s_ref1_ends (call : CallK) (N : Nat) (a0 a1 : V) (H : Heap) (τ : Tape) (q : KV) : Ans := binK .eql a0 (.int .u8 (.ofNat 9)) fun v0 => gK v0 false (fun q' => q' a0 H τ) H τ fun v1 H2 τ3 => gK v0 false (fun q' => binK .eql v1 (.int .u8 (.ofNat 32)) fun v => q' v H2 τ3) H2 τ3 fun v4 H5 τ6 => someK (pPick [v0,(.bool true),v4]) fun v7 => gK v7 false (fun q' => q' a1 H5 τ6) H5 τ6 fun v8 H9 τ10 => gK v7 false (fun q' => unK .not v8 fun v => q' v H9 τ10) H9 τ10 fun v11 H12 τ13 => gK v7 false (fun q' => q' v11 H12 τ13) H12 τ13 fun v14 H15 τ16 => gK v14 true (fun q' => q' a0 H15 τ16) H15 τ16 fun v17 H18 τ19 => gK v14 true (fun q' => binK .eql v17 (.int .u8 (.ofNat 10)) fun v => q' v H18 τ19) H18 τ19 fun v20 H21 τ22 => gK v14 true (fun q' => q' v20 H21 τ22) H21 τ22 fun v23 H24 τ25 => gK v23 false (fun q' => q' a0 H24 τ25) H24 τ25 fun v26 H27 τ28 =>
    gK v23 false (fun q' => binK .eql v26 (.int .u8 (.ofNat 13)) fun v => q' v H27 τ28) H27 τ28 fun v29 H30 τ31 => gK v14 true (fun q' => someK (pPick [v23,(.bool true),v29]) fun v => q' v H30 τ31) H30 τ31 fun v32 H33 τ34 => gK v7 false (fun q' => someK (pPick [v14,v32,(.bool false)]) fun v => q' v H33 τ34) H33 τ34 fun v35 H36 τ37 => someK (pPick [v7,(.bool true),v35]) fun v38 => q v38 H36 τ37
theorem s_ref1_ends_eq (call : CallK) (N : Nat) (a0 a1 : V) (H : Heap) (τ : Tape) (q : KV) : s_ref1_ends call N a0 a1 H τ q = funK call N fn_ref1_ends [a0, a1] H τ q := by kernel_rfl
def e_ref1_ends (call : CallK) (N : Nat) (vs : List V) (H : Heap) (τ : Tape) (q : KV) : Ans := match vs with | [a0, a1] => s_ref1_ends call N a0 a1 H τ q | _ => none
theorem e_ref1_ends_ok : EntOk fn_ref1_ends e_ref1_ends := by
  intro call N vs H τ q r h
  unfold e_ref1_ends at h
  split at h
  · rw [s_ref1_ends_eq] at h; exact h
  · cases h
theorem e_ref1_ends_nat : EntNat e_ref1_ends := by
  intro c hn N vs H τ q
  unfold e_ref1_ends
  split
  · rw [s_ref1_ends_eq, s_ref1_ends_eq]; exact funK_ent hn _ _ _ _ _ _
  · rfl
/-- (*strings.asciiSet).contains -/
def fn_asciiSet_contains : Fun := ⟨2,(.seq (.reg [iR 4 (.p .mv) [(.c (.bool false))]]) (iK [0,1] (.seq (.reg [iM 5 0,iM 6 1,iR 7 (.p .nilck) [(.t 5)],iR 8 (.p (.arrIdx 256 1)) [(.t 7),(.t 6)],iR 9 (.l (.load none)) [(.t 8)],iM 4 9]) (iK [4] (iK [4] .ret))))),[(.t 4)]⟩
def s_asciiSet_contains (call : CallK) (N : Nat) (a0 a1 : V) (H : Heap) (τ : Tape) (q : KV) : Ans := someK (pNilck [a0]) fun v0 => someK (pArrIdx 256 1 [v0,a1]) fun v1 => someK (lLoad1 [v1] H) fun v2 => q v2 H τ
theorem s_asciiSet_contains_eq (call : CallK) (N : Nat) (a0 a1 : V) (H : Heap) (τ : Tape) (q : KV) : s_asciiSet_contains call N a0 a1 H τ q = funK call N fn_asciiSet_contains [a0, a1] H τ q := by kernel_rfl
def e_asciiSet_contains (call : CallK) (N : Nat) (vs : List V) (H : Heap) (τ : Tape) (q : KV) : Ans := match vs with | [a0, a1] => s_asciiSet_contains call N a0 a1 H τ q | _ => none
theorem e_asciiSet_contains_ok : EntOk fn_asciiSet_contains e_asciiSet_contains := by
  intro call N vs H τ q r h
  unfold e_asciiSet_contains at h
  split at h
  · rw [s_asciiSet_contains_eq] at h; exact h
  · cases h
theorem e_asciiSet_contains_nat : EntNat e_asciiSet_contains := by
  intro c hn N vs H τ q
  unfold e_asciiSet_contains
  split
  · rw [s_asciiSet_contains_eq, s_asciiSet_contains_eq]; exact funK_ent hn _ _ _ _ _ _
  · rfl
/-- unicode/utf8.DecodeRuneInString -/
def fn_utf8_DecodeRuneInString : Fun := ⟨1,(.seq (.reg [iR 2 (.p .mv) [(.c (.int .i32 (.ofNat 0)))],iR 3 (.p .mv) [(iC 0)]]) (iK [0] (.seq (.seq (.reg [iM 4 0,iR 5 (iB .neq) [(.t 4),(.c (.str []))],iM 6 5,iN 7 6 true 0,iG 8 6 true (.p .strIndex) [(.t 7),(iC 0)],iG 9 6 true (iB .lss) [(.t 8),(iU 128)],iR 10 (.p .pick) [(.t 6),(.t 9),(.c (.bool false))]]) (iK [0,10] (.cond (.t 10) (.seq (.reg [iM 11 0,iR 12 (.p .strIndex) [(.t 11),(iC 0)],iR 13 (.p (.toInt .i32)) [(.t 12)],iM 2 13,iR 3 (.p .mv) [(iC 1)]]) (iK [2,3] (iK [2,3] .ret))) (.reg [iM 15 0,iR 16 (.call 193) [(.t 15)],iM 14 16,iR 17 (.p (.extract 0)) [(.t 14)],
    iR 18 (.p (.extract 1)) [(.t 14)],iM 2 17,iM 3 18])))) (iK [2,3] (iK [2,3] .ret))))),[(.t 2),(.t 3)]⟩
/-- strings.ContainsRune -/
def fn_strings_ContainsRune : Fun := ⟨2,(.seq (.reg [iR 4 (.p .mv) [(.c (.bool false))]]) (iK [0,1] (.seq (.reg [iM 5 0,iM 6 1,iR 7 (.call 194) [(.t 5),(.t 6)],iR 8 (iB .geq) [(.t 7),(iC 0)],iM 4 8]) (iK [4] (iK [4] .ret))))),[(.t 4)]⟩
/-- unicode/utf8.DecodeLastRuneInString -/
def fn_utf8_DecodeLastRuneInString : Fun := ⟨1,(.seq (.reg [iR 2 (.p .mv) [(.c (.int .i32 (.ofNat 0)))],iR 3 (.p .mv) [(iC 0)]]) (iK [0] (.seq (.reg [iM 7 0,iR 8 (.p .lenS) [(.t 7)],iM 4 8]) (iK [0,4] (.seq (.seq (.reg [iM 9 4,iR 10 (iB .eql) [(.t 9),(iC 0)]]) (iK [0,4,10] (.cond (.t 10) (.seq (.reg [iR 2 (.p .mv) [(.c (.int .i32 (.ofNat 65533)))],iR 3 (.p .mv) [(iC 0)]]) (iK [2,3] (iK [2,3] .ret))) .skip))) (iK [0,4] (.seq (.reg [iM 11 4,iR 12 (iB .sub) [(.t 11),(iC 1)],iM 5 12]) (iK [0,4,5] (.seq (.reg [iM 13 0,iM 14 5,iR 15 (.p .strIndex) [(.t 13),(.t 14)],iR 16 (.p (.toInt .i32)) [(.t 15)],iM 2 16])
    (iK [0,2,4,5] (.seq (.seq (.reg [iM 17 2,iR 18 (iB .lss) [(.t 17),(.c (.int .i32 (.ofNat 128)))]]) (iK [0,2,4,5,18] (.cond (.t 18) (.seq (.reg [iM 19 2,iM 2 19,iR 3 (.p .mv) [(iC 1)]]) (iK [2,3] (iK [2,3] .ret))) .skip))) (iK [0,4,5] (.seq (.reg [iM 20 4,iR 21 (iB .sub) [(.t 20),(iC 4)],iR 22 (.p .max2) [(.t 21),(iC 0)],iM 6 22]) (iK [0,4,5,6] (.seq (.seq (.reg [iM 23 5,iR 24 (iB .sub) [(.t 23),(iC 1)],iM 5 24]) (iK [0,4,5,6] (.block 0 (.loop (iK [0,4,5,6] (.seq (.seq (.reg [iM 25 5,iM 26 6,iR 27 (iB .geq) [(.t 25),(.t 26)]]) (iK [0,4,5,6,27] (.cond (.t 27) .skip
    (iK [0,4,5] (.exit 0))))) (iK [0,4,5,6] (.seq (.block 1 (.seq (.reg [iM 30 0,iM 31 5,iR 32 (.p .strIndex) [(.t 30),(.t 31)],iR 33 (.call 195) [(.t 32)]]) (iK [0,4,5,6,33] (.cond (.t 33) (iK [0,4,5] (.exit 0)) .skip)))) (iK [0,4,5,6] (.reg [iM 28 5,iR 29 (iB .sub) [(.t 28),(iC 1)],iM 5 29])))))))))) (iK [0,4,5] (.seq (.seq (.reg [iM 34 5,iR 35 (iB .lss) [(.t 34),(iC 0)]]) (iK [0,4,5,35] (.cond (.t 35) (.reg [iR 5 (.p .mv) [(iC 0)]]) .skip))) (iK [0,4,5] (.seq (.reg [iM 37 0,iM 38 5,iM 39 4,iR 40 (.p (.strSlice true true)) [(.t 37),(.t 38),(.t 39)],iR 41 (.call 172) [(.t 40)],iM 36 41,
    iR 42 (.p (.extract 0)) [(.t 36)],iR 43 (.p (.extract 1)) [(.t 36)],iM 2 42,iM 3 43]) (iK [2,3,4,5] (.seq (.seq (.reg [iM 44 5,iM 45 3,iR 46 (iB .add) [(.t 44),(.t 45)],iM 47 4,iR 48 (iB .neq) [(.t 46),(.t 47)]]) (iK [2,3,48] (.cond (.t 48) (.seq (.reg [iR 2 (.p .mv) [(.c (.int .i32 (.ofNat 65533)))],iR 3 (.p .mv) [(iC 1)]]) (iK [2,3] (iK [2,3] .ret))) .skip))) (iK [2,3] (.seq (.reg [iM 49 2,iM 50 3,iM 2 49,iM 3 50]) (iK [2,3] (iK [2,3] .ret))))))))))))))))))))))))),[(.t 2),(.t 3)]⟩
/-- internal/bytealg.Cutover -/
def fn_bytealg_Cutover : Fun := ⟨1,(.seq (.reg [iR 2 (.p .mv) [(iC 0)]]) (iK [0] (.seq (.reg [iM 3 0,iR 4 (iB .add) [(.t 3),(iC 16)],iR 5 (iB .quo) [(.t 4),(iC 8)],iM 2 5]) (iK [2] (iK [2] .ret))))),[(.t 2)]⟩
end Go.Am.X
