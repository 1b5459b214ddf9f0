/- The abstract machine, printed functions of the program, and what they are shown to be. -/
import Derived.Test.YtlpedafppdffoaaDoorFLEM5
import Derived.KernelRfl
set_option linter.unusedVariables false
namespace Go.Am.X
set_option maxRecDepth 1000000
abbrev funE (fn : Fun) : Ent := fun call N vs H τ q => funK call N fn vs H τ q
theorem funE_ok (fn : Fun) : EntOk fn (funE fn) := fun _ _ _ _ _ _ _ h => h
theorem funE_nat (fn : Fun) : EntNat (funE fn) := fun _ hn _ _ _ _ _ => funK_ent hn _ _ _ _ _ _
abbrev iR (n : Nat) (o : AOp) (a : List O) : Ins := ⟨some n, none, o, a, none⟩
abbrev iG (n g : Nat) (b : Bool) (o : AOp) (a : List O) : Ins := ⟨some n, some (g, b), o, a, none⟩
abbrev iM (n a : Nat) : Ins := ⟨some n, none, .p .mv, [.t a], none⟩
abbrev iN (n g : Nat) (b : Bool) (a : Nat) : Ins := ⟨some n, some (g, b), .p .mv, [.t a], none⟩
abbrev iC (n : Nat) : O := .c (.int .i64 (.ofNat n))
abbrev iU (n : Nat) : O := .c (.int .u8 (.ofNat n))
abbrev iB (b : BinOp) : AOp := .p (.bin b)
abbrev iK (l : List Nat) (c : C) : C := .keep l c
theorem iA {a b : Prop} (h : a) (k : b) : a ∧ b := ⟨h, k⟩
theorem iT : True := trivial
abbrev f_law20_FilterLess : Nat := 4
abbrev f_keep_FewHeaders : Nat := 7
abbrev f_keep_Few : Nat := 12
abbrev f_keep_Reply : Nat := 14
abbrev f_filter_Own : Nat := 15
abbrev f_filter_Share : Nat := 16
abbrev f_law20_among : Nat := 17
abbrev f_law20_known : Nat := 18
abbrev f_law20_h : Nat := 19
abbrev f_keep_SameResponse : Nat := 23
abbrev f_book_Same_Header : Nat := 27
abbrev f_headers_Get : Nat := 30
abbrev f_infra_Token : Nat := 34
abbrev f_infra_Lower : Nat := 35
abbrev f_keep_FewBytes : Nat := 37
abbrev f_filter_shown : Nat := 38
abbrev f_filter_Own_1 : Nat := 39
abbrev f_cors_Exposed : Nat := 40
abbrev f_filter_Share_1 : Nat := 41
abbrev f_slices_Contains_string : Nat := 42
abbrev f_book_Same_byte : Nat := 43
abbrev f_headers_is : Nat := 48
abbrev f_strings_Join : Nat := 49
abbrev f_strings_IndexByte : Nat := 52
abbrev f_infra_mapped : Nat := 53
abbrev f_infra_Lower_1 : Nat := 54
abbrev f_slices_Clone_byte : Nat := 55
abbrev f_headers_Split : Nat := 56
abbrev f_cors_names : Nat := 57
abbrev f_slices_Index_string : Nat := 58
abbrev f_stringslite_IndexByte : Nat := 67
abbrev f_strings_Trim : Nat := 68
abbrev f_strings_trimLeftByte : Nat := 87
abbrev f_strings_trimRightByte : Nat := 88
abbrev f_strings_makeASCIISet : Nat := 89
abbrev f_strings_trimLeftASCII : Nat := 90
abbrev f_strings_trimRightASCII : Nat := 91
abbrev f_strings_trimLeftUnicode : Nat := 92
abbrev f_strings_trimRightUnicode : Nat := 93
abbrev f_asciiSet_contains : Nat := 107
abbrev f_utf8_DecodeRuneInString : Nat := 108
abbrev f_strings_ContainsRune : Nat := 109
abbrev f_utf8_DecodeLastRuneInString : Nat := 110
abbrev f_utf8_decodeRuneInStringSlow : Nat := 123
abbrev f_strings_IndexRune : Nat := 124
abbrev f_utf8_RuneStart : Nat := 125
abbrev f_utf8_ValidRune : Nat := 146
abbrev f_bytealg_Cutover : Nat := 147
/-- ostiary/ostiarylaw20.FilterLess -/
def fn_law20_FilterLess : Fun := ⟨2,(.seq (.reg [iR 2 (.e .box) [(.t 0)],iR 4 (.p .mv) [(.c (.bool false))]]) (iK [1,2] (.seq (.reg [iR 8 (.l (.load (some 3))) [(.t 2)],iR 9 (.call 14) [(.t 8)],⟨none,none,(.e (.store 3)),[(.t 2),(.t 9)],none⟩]) (iK [1,2] (.seq (.reg [iR 10 (.l (.load (some 3))) [(.t 2)],iM 11 1,iR 12 (.call 15) [(.t 10),(.t 11)],iR 5 (.e (.alloc [(.int .i64 (.ofNat 0)),(.int .i64 (.ofNat 0)),.nils,.nils,(.str [])])) [],⟨none,none,(.e (.store 5)),[(.t 5),(.t 12)],none⟩]) (iK [1,2,5] (.seq (.reg [iR 13 (.l (.load (some 3))) [(.t 2)],iM 14 1,iR 15 (.call 16) [(.t 13),(.t 14),(.c (.bool true))],iR 6 (.e (.alloc [(.int .i64 (.ofNat 0)),(.int .i64 (.ofNat 0)),.nils,.nils,(.str [])])) [],⟨none,none,(.e (.store 5)),[(.t 6),(.t 15)],none⟩])
    (iK [1,2,5,6] (.seq (.reg [iR 16 (.l (.load (some 3))) [(.t 2)],iM 17 1,iR 18 (.call 16) [(.t 16),(.t 17),(.c (.bool false))],iR 7 (.e (.alloc [(.int .i64 (.ofNat 0)),(.int .i64 (.ofNat 0)),.nils,.nils,(.str [])])) [],⟨none,none,(.e (.store 5)),[(.t 7),(.t 18)],none⟩]) (iK [2,5,6,7] (.seq (.reg [iR 19 (.p (.fieldAddr 2)) [(.t 6)],iR 20 (.l (.load none)) [(.t 19)],iR 21 (.p (.fieldAddr 2)) [(.t 7)],iR 22 (.l (.load none)) [(.t 21)],iR 23 (.call 17) [(.t 20),(.t 22)],iM 24 23,iG 25 24 true (.p (.fieldAddr 2)) [(.t 7)],iG 26 24 true (.l (.load none)) [(.t 25)],iG 27 24 true (.p (.fieldAddr 2)) [(.t 5)],iG 28 24 true (.l (.load none)) [(.t 27)],iG 29 24 true (.call 17) [(.t 26),(.t 28)],iR 30 (.p .pick) [(.t 24),(.t 29),(.c (.bool false))],iM 31 30,iG 32 31 true (.p (.fieldAddr 2)) [(.t 5)],
    iG 33 31 true (.l (.load none)) [(.t 32)],iG 34 31 true (.p (.fieldAddr 1)) [(.t 2)],iG 35 31 true (.l (.load none)) [(.t 34)],iG 36 31 true (.call 17) [(.t 33),(.t 35)],iR 37 (.p .pick) [(.t 31),(.t 36),(.c (.bool false))],iM 38 37,iG 39 38 true (.p (.fieldAddr 3)) [(.t 5)],iG 40 38 true (.l (.load none)) [(.t 39)],iG 41 38 true (.l .bytesStr) [(.t 40)],iG 42 38 true (.p (.fieldAddr 3)) [(.t 6)],iG 43 38 true (.l (.load none)) [(.t 42)],iG 44 38 true (.l .bytesStr) [(.t 43)],iG 45 38 true (iB .eql) [(.t 41),(.t 44)],iR 46 (.p .pick) [(.t 38),(.t 45),(.c (.bool false))],iM 47 46,iG 48 47 true (.p (.fieldAddr 1)) [(.t 5)],iG 49 47 true (.l (.load none)) [(.t 48)],iG 50 47 true (.p (.fieldAddr 1)) [(.t 6)],iG 51 47 true (.l (.load none)) [(.t 50)],iG 52 47 true (iB .eql) [(.t 49),(.t 51)],
    iR 53 (.p .pick) [(.t 47),(.t 52),(.c (.bool false))],iM 54 53,iG 55 54 true (.call 18) [],iR 56 (.p .pick) [(.t 54),(.t 55),(.c (.bool false))],iM 4 56]) (iK [4] (iK [4] .ret))))))))))))),[(.t 4)]⟩
def s_law20_FilterLess (call : CallK) (N : Nat) (a0 a1 : V) (H : Heap) (τ : Tape) (q : KV) : Ans := effK (eBox [a0] H τ) fun v0 H1 τ2 => someK (lLoadN 3 [v0] H1) fun v3 => call f_keep_Reply [v3] H1 τ2 fun v4 H5 τ6 => effK (eStore 3 [v0,v4] H5 τ6) fun v7 H8 τ9 => someK (lLoadN 3 [v0] H8) fun v10 => call f_filter_Own [v10,a1] H8 τ9 fun v11 H12 τ13 => effK (eAlloc [(.int .i64 (.ofNat 0)),(.int .i64 (.ofNat 0)),.nils,.nils,(.str [])] [] H12 τ13) fun v14 H15 τ16 => effK (eStore 5 [v14,v11] H15 τ16) fun v17 H18 τ19 => someK (lLoadN 3 [v0] H18) fun v20 => call f_filter_Share [v20,a1,(.bool true)] H18 τ19 fun v21 H22 τ23 => effK (eAlloc [(.int .i64 (.ofNat 0)),(.int .i64 (.ofNat 0)),.nils,.nils,(.str [])] [] H22 τ23) fun v24 H25 τ26 => effK (eStore 5 [v24,v21] H25 τ26) fun v27 H28 τ29 => someK (lLoadN 3 [v0] H28) fun v30 =>
    call f_filter_Share [v30,a1,(.bool false)] H28 τ29 fun v31 H32 τ33 => effK (eAlloc [(.int .i64 (.ofNat 0)),(.int .i64 (.ofNat 0)),.nils,.nils,(.str [])] [] H32 τ33) fun v34 H35 τ36 => effK (eStore 5 [v34,v31] H35 τ36) fun v37 H38 τ39 => someK (pFieldAddr 2 [v24]) fun v40 => someK (lLoad1 [v40] H38) fun v41 => someK (pFieldAddr 2 [v34]) fun v42 => someK (lLoad1 [v42] H38) fun v43 => call f_law20_among [v41,v43] H38 τ39 fun v44 H45 τ46 => gK v44 true (fun q' => someK (pFieldAddr 2 [v34]) fun v => q' v H45 τ46) H45 τ46 fun v47 H48 τ49 => gK v44 true (fun q' => someK (lLoad1 [v47] H48) fun v => q' v H48 τ49) H48 τ49 fun v50 H51 τ52 => gK v44 true (fun q' => someK (pFieldAddr 2 [v14]) fun v => q' v H51 τ52) H51 τ52 fun v53 H54 τ55 => gK v44 true (fun q' => someK (lLoad1 [v53] H54) fun v => q' v H54 τ55) H54 τ55 fun v56 H57 τ58 =>
    gK v44 true (fun q' => call f_law20_among [v50,v56] H57 τ58 q') H57 τ58 fun v59 H60 τ61 => someK (pPick [v44,v59,(.bool false)]) fun v62 => gK v62 true (fun q' => someK (pFieldAddr 2 [v14]) fun v => q' v H60 τ61) H60 τ61 fun v63 H64 τ65 => gK v62 true (fun q' => someK (lLoad1 [v63] H64) fun v => q' v H64 τ65) H64 τ65 fun v66 H67 τ68 => gK v62 true (fun q' => someK (pFieldAddr 1 [v0]) fun v => q' v H67 τ68) H67 τ68 fun v69 H70 τ71 => gK v62 true (fun q' => someK (lLoad1 [v69] H70) fun v => q' v H70 τ71) H70 τ71 fun v72 H73 τ74 => gK v62 true (fun q' => call f_law20_among [v66,v72] H73 τ74 q') H73 τ74 fun v75 H76 τ77 => someK (pPick [v62,v75,(.bool false)]) fun v78 => gK v78 true (fun q' => someK (pFieldAddr 3 [v14]) fun v => q' v H76 τ77) H76 τ77 fun v79 H80 τ81 => gK v78 true (fun q' => someK (lLoad1 [v79] H80) fun v => q' v H80 τ81) H80 τ81 fun v82 H83 τ84 =>
    gK v78 true (fun q' => someK (lBytesStr [v82] H83) fun v => q' v H83 τ84) H83 τ84 fun v85 H86 τ87 => gK v78 true (fun q' => someK (pFieldAddr 3 [v24]) fun v => q' v H86 τ87) H86 τ87 fun v88 H89 τ90 => gK v78 true (fun q' => someK (lLoad1 [v88] H89) fun v => q' v H89 τ90) H89 τ90 fun v91 H92 τ93 => gK v78 true (fun q' => someK (lBytesStr [v91] H92) fun v => q' v H92 τ93) H92 τ93 fun v94 H95 τ96 => gK v78 true (fun q' => binK .eql v85 v94 fun v => q' v H95 τ96) H95 τ96 fun v97 H98 τ99 => someK (pPick [v78,v97,(.bool false)]) fun v100 => gK v100 true (fun q' => someK (pFieldAddr 1 [v14]) fun v => q' v H98 τ99) H98 τ99 fun v101 H102 τ103 => gK v100 true (fun q' => someK (lLoad1 [v101] H102) fun v => q' v H102 τ103) H102 τ103 fun v104 H105 τ106 => gK v100 true (fun q' => someK (pFieldAddr 1 [v24]) fun v => q' v H105 τ106) H105 τ106 fun v107 H108 τ109 =>
    gK v100 true (fun q' => someK (lLoad1 [v107] H108) fun v => q' v H108 τ109) H108 τ109 fun v110 H111 τ112 => gK v100 true (fun q' => binK .eql v104 v110 fun v => q' v H111 τ112) H111 τ112 fun v113 H114 τ115 => someK (pPick [v100,v113,(.bool false)]) fun v116 => gK v116 true (fun q' => call f_law20_known [] H114 τ115 q') H114 τ115 fun v117 H118 τ119 => someK (pPick [v116,v117,(.bool false)]) fun v120 => q v120 H118 τ119
theorem s_law20_FilterLess_eq (call : CallK) (N : Nat) (a0 a1 : V) (H : Heap) (τ : Tape) (q : KV) : s_law20_FilterLess call N a0 a1 H τ q = funK call N fn_law20_FilterLess [a0, a1] H τ q := by kernel_rfl
def e_law20_FilterLess (call : CallK) (N : Nat) (vs : List V) (H : Heap) (τ : Tape) (q : KV) : Ans := match vs with | [a0, a1] => s_law20_FilterLess call N a0 a1 H τ q | _ => none
theorem e_law20_FilterLess_ok : EntOk fn_law20_FilterLess e_law20_FilterLess := by
  intro call N vs H τ q r h
  unfold e_law20_FilterLess at h
  split at h
  · rw [s_law20_FilterLess_eq] at h; exact h
  · cases h
theorem e_law20_FilterLess_nat : EntNat e_law20_FilterLess := by
  intro c hn N vs H τ q
  unfold e_law20_FilterLess
  split
  · rw [s_law20_FilterLess_eq, s_law20_FilterLess_eq]; exact funK_ent hn _ _ _ _ _ _
  · rfl
/-- ostiary/ostiarykeep.FewHeaders -/
def fn_keep_FewHeaders : Fun := ⟨3,(.seq (.reg [iR 6 (.p .mv) [(.c .nils)]]) (iK [0,1,2] (.seq (.reg [iR 7 (.p .mv) [(.c .nils)]]) (iK [0,1,2,7] (.seq (.seq (.reg [iR 8 (.p .mv) [(iC 0)]]) (iK [0,1,2,7,8] (.block 0 (.loop (iK [0,1,2,7,8] (.seq (.seq (.reg [iM 9 8,iM 10 0,iR 11 (.p .len) [(.t 10)],iR 12 (iB .lss) [(.t 9),(.t 11)],iM 13 12,iN 14 13 true 8,iN 15 13 true 1,iG 16 13 true (iB .lss) [(.t 14),(.t 15)],iR 17 (.p .pick) [(.t 13),(.t 16),(.c (.bool false))]]) (iK [0,1,2,7,8,17] (.cond (.t 17) .skip (iK [7] (.exit 0))))) (iK [0,1,2,7,8] (.seq (.block 1 (.draw [iM 20 7,iM 21 0,iM 22 8,iR 23 (.p (.slIdx 2)) [(.t 21),(.t 22)],
    iR 24 (.p (.fieldAddr 0)) [(.t 23)],iR 25 (.l (.load none)) [(.t 24)],iM 26 2,iR 27 (.call 12) [(.t 25),(.t 26)],iM 28 0,iM 29 8,iR 30 (.p (.slIdx 2)) [(.t 28),(.t 29)],iR 31 (.p (.fieldAddr 1)) [(.t 30)],⟨(some 32),none,(.l (.load none)),[(.t 31)],some (0,1)⟩,iM 33 2,iR 34 (.call 12) [(.t 32),(.t 33)],iR 35 (.p (.build [(.str []),(.str [])] [(0,1),(1,1)])) [(.t 27),(.t 34)],iR 36 (.e (.buildSlice 1 2 [(.str []),(.str [])] [(0,2)])) [(.t 35)],iR 37 (.e (.append 2 32)) [(.t 20),(.t 36)],iM 7 37])) (iK [0,1,2,7,8] (.reg [iM 18 8,iR 19 (iB .add) [(.t 18),(iC 1)],iM 8 19])))))))))) (iK [7] (.seq (.reg [iM 38 7,iM 6 38]) (iK [6] (iK [6] .ret))))))))),[(.t 6)]⟩
def s_keep_FewHeaders_j0 (call : CallK) (N : Nat) (q : KV) (st : St) (τ : Tape) : Ans := match st with
  | ⟨fr,H⟩ => getK fr 7 fun t7 => q t7 H τ
def s_keep_FewHeaders_l1 (call : CallK) (N : Nat) (st : St) (τ : Tape) (k : KC) : Ans := match st with
  | ⟨fr,H⟩ => getK fr 0 fun t0 => getK fr 1 fun t1 => getK fr 2 fun t2 => getK fr 7 fun t7 => getK fr 8 fun t8 => someK (pLen [t0]) fun v0 => binK .lss t8 v0 fun v1 => gK v1 true (fun q' => q' t8 H τ) H τ fun v2 H3 τ4 => gK v1 true (fun q' => q' t1 H3 τ4) H3 τ4 fun v5 H6 τ7 => gK v1 true (fun q' => binK .lss v2 v5 fun v => q' v H6 τ7) H6 τ7 fun v8 H9 τ10 => someK (pPick [v1,v8,(.bool false)]) fun v11 => condK v11 (someK (pSlIdx 2 [t0,t8]) fun v12 => someK (pFieldAddr 0 [v12]) fun v13 => someK (lLoad1 [v13] H9) fun v14 => call f_keep_Few [v14,t2] H9 τ10 fun v15 H16 τ17 => someK (pSlIdx 2 [t0,t8]) fun v18 => someK (pFieldAddr 1 [v18]) fun v19 => someK (lLoad1 [v19] H16) fun v20 => call f_keep_Few [v20,t2] H16 τ17 fun v21 H22 τ23 => someK (pBuild [(.str []),(.str [])] [(0,1),(1,1)] [v15,v21]) fun v24 =>
    effK (eBuildSlice 1 2 [(.str []),(.str [])] [(0,2)] [v24] H22 τ23) fun v25 H26 τ27 => effK (eAppend 2 32 [t7,v25] H26 τ27) fun v28 H29 τ30 => bif chkLoads [H9,H16,H22,H26,H29] (((.load none),[v19],0,1) :: []) then binK .add t8 (.int .i64 (.ofNat 1)) fun v31 => k .normal ⟨(T.set (T.set (T.set (T.set (T.set (T.set (T.set (T.set .leaf 0 t0) 1 t1) 2 t2) 7 v28) 8 t8) 18 t8) 19 v31) 8 v31),H29⟩ τ30 else none) (k (.exit 0) ⟨(T.set .leaf 7 t7),H9⟩ τ10)
def s_keep_FewHeaders (call : CallK) (N : Nat) (a0 a1 a2 : V) (H : Heap) (τ : Tape) (q : KV) : Ans := loopK (s_keep_FewHeaders_l1 call N) N ⟨(T.set (T.set (T.set (T.set (T.set .leaf 0 a0) 1 a1) 2 a2) 7 .nils) 8 (.int .i64 (.ofNat 0))),H⟩ τ (blockK 0 (seqK (s_keep_FewHeaders_j0 call N q) (endK [(.t 6)] q)))
theorem s_keep_FewHeaders_eq (call : CallK) (N : Nat) (a0 a1 a2 : V) (H : Heap) (τ : Tape) (q : KV) : s_keep_FewHeaders call N a0 a1 a2 H τ q = funK call N fn_keep_FewHeaders [a0, a1, a2] H τ q := by kernel_rfl
def e_keep_FewHeaders (call : CallK) (N : Nat) (vs : List V) (H : Heap) (τ : Tape) (q : KV) : Ans := match vs with | [a0, a1, a2] => s_keep_FewHeaders call N a0 a1 a2 H τ q | _ => none
theorem e_keep_FewHeaders_ok : EntOk fn_keep_FewHeaders e_keep_FewHeaders := by
  intro call N vs H τ q r h
  unfold e_keep_FewHeaders at h
  split at h
  · rw [s_keep_FewHeaders_eq] at h; exact h
  · cases h
theorem e_keep_FewHeaders_nat : EntNat e_keep_FewHeaders := by
  intro c hn N vs H τ q
  unfold e_keep_FewHeaders
  split
  · rw [s_keep_FewHeaders_eq, s_keep_FewHeaders_eq]; exact funK_ent hn _ _ _ _ _ _
  · rfl
/-- ostiary/ostiarykeep.Few -/
def fn_keep_Few : Fun := ⟨2,(.seq (.reg [iR 4 (.p .mv) [(.c (.str []))]]) (iK [0,1] (.seq (.seq (.reg [iM 5 0,iR 6 (.p .lenS) [(.t 5)],iM 7 1,iR 8 (iB .gtr) [(.t 6),(.t 7)]]) (iK [0,1,8] (.cond (.t 8) (.seq (.reg [iM 9 0,iM 10 1,iR 11 (.p (.strSlice false true)) [(.t 9),(.t 10)],iM 4 11]) (iK [4] (iK [4] .ret))) .skip))) (iK [0] (.seq (.reg [iM 12 0,iM 4 12]) (iK [4] (iK [4] .ret))))))),[(.t 4)]⟩
def s_keep_Few (call : CallK) (N : Nat) (a0 a1 : V) (H : Heap) (τ : Tape) (q : KV) : Ans := someK (pLenS [a0]) fun v0 => binK .gtr v0 a1 fun v1 => condK v1 (someK (pStrSlice false true [a0,a1]) fun v2 => q v2 H τ) (q a0 H τ)
theorem s_keep_Few_eq (call : CallK) (N : Nat) (a0 a1 : V) (H : Heap) (τ : Tape) (q : KV) : s_keep_Few call N a0 a1 H τ q = funK call N fn_keep_Few [a0, a1] H τ q := by kernel_rfl
def e_keep_Few (call : CallK) (N : Nat) (vs : List V) (H : Heap) (τ : Tape) (q : KV) : Ans := match vs with | [a0, a1] => s_keep_Few call N a0 a1 H τ q | _ => none
theorem e_keep_Few_ok : EntOk fn_keep_Few e_keep_Few := by
  intro call N vs H τ q r h
  unfold e_keep_Few at h
  split at h
  · rw [s_keep_Few_eq] at h; exact h
  · cases h
theorem e_keep_Few_nat : EntNat e_keep_Few := by
  intro c hn N vs H τ q
  unfold e_keep_Few
  split
  · rw [s_keep_Few_eq, s_keep_Few_eq]; exact funK_ent hn _ _ _ _ _ _
  · rfl
/-- ostiary/ostiarykeep.Reply -/
def fn_keep_Reply : Fun := ⟨1,(.seq (.reg [iR 1 (.e .box) [(.t 0)],iR 2 (.e (.alloc [(.int .i64 (.ofNat 0)),.nils,.nils])) []]) (iK [1,2] (.seq (.draw [iR 3 (.p (.fieldAddr 0)) [(.t 1)],⟨(some 4),none,(.l (.load none)),[(.t 3)],some (0,4)⟩,iR 5 (.p (.fieldAddr 1)) [(.t 1)],⟨(some 6),none,(.l (.load none)),[(.t 5)],some (0,1)⟩,iR 7 (.call 7) [(.t 6),(iC 12),(iC 200)],iR 9 (.p (.fieldAddr 2)) [(.t 1)],⟨(some 10),none,(.l (.load none)),[(.t 9)],some (0,2)⟩,iR 11 (.call 37) [(.t 10),(iC 300)],iR 8 (.e (.buildSlice 0 1 [] [])) [],iR 12 (.e (.append 1 1)) [(.t 8),(.t 11)],iR 13 (.p (.build [(.int .i64 (.ofNat 0)),.nils,.nils] [(0,1),(1,1),(2,1)])) [(.t 4),(.t 7),(.t 12)],⟨none,none,(.e (.store 3)),[(.t 2),(.t 13)],none⟩]) (iK [2] (iK [2] .ret))))),[(.cell 2 (some 3))]⟩
def s_keep_Reply (call : CallK) (N : Nat) (a0 : V) (H : Heap) (τ : Tape) (q : KV) : Ans := effK (eBox [a0] H τ) fun v0 H1 τ2 => effK (eAlloc [(.int .i64 (.ofNat 0)),.nils,.nils] [] H1 τ2) fun v3 H4 τ5 => someK (pFieldAddr 0 [v0]) fun v6 => someK (lLoad1 [v6] H4) fun v7 => someK (pFieldAddr 1 [v0]) fun v8 => someK (lLoad1 [v8] H4) fun v9 => call f_keep_FewHeaders [v9,(.int .i64 (.ofNat 12)),(.int .i64 (.ofNat 200))] H4 τ5 fun v10 H11 τ12 => someK (pFieldAddr 2 [v0]) fun v13 => someK (lLoad1 [v13] H11) fun v14 => call f_keep_FewBytes [v14,(.int .i64 (.ofNat 300))] H11 τ12 fun v15 H16 τ17 => effK (eBuildSlice 0 1 [] [] [] H16 τ17) fun v18 H19 τ20 => effK (eAppend 1 1 [v18,v15] H19 τ20) fun v21 H22 τ23 => someK (pBuild [(.int .i64 (.ofNat 0)),.nils,.nils] [(0,1),(1,1),(2,1)] [v7,v10,v21]) fun v24 => effK (eStore 3 [v3,v24] H22 τ23) fun v25 H26 τ27 =>
    bif chkLoads [H4,H11,H16,H19,H22,H26] (((.load none),[v13],0,2) :: (((.load none),[v8],0,1) :: (((.load none),[v6],0,4) :: []))) then someK (results ⟨(T.set .leaf 2 v3),H26⟩ [(.cell 2 (some 3))]) fun v => q v H26 τ27 else none
theorem s_keep_Reply_eq (call : CallK) (N : Nat) (a0 : V) (H : Heap) (τ : Tape) (q : KV) : s_keep_Reply call N a0 H τ q = funK call N fn_keep_Reply [a0] H τ q := by kernel_rfl
def e_keep_Reply (call : CallK) (N : Nat) (vs : List V) (H : Heap) (τ : Tape) (q : KV) : Ans := match vs with | [a0] => s_keep_Reply call N a0 H τ q | _ => none
theorem e_keep_Reply_ok : EntOk fn_keep_Reply e_keep_Reply := by
  intro call N vs H τ q r h
  unfold e_keep_Reply at h
  split at h
  · rw [s_keep_Reply_eq] at h; exact h
  · cases h
theorem e_keep_Reply_nat : EntNat e_keep_Reply := by
  intro c hn N vs H τ q
  unfold e_keep_Reply
  split
  · rw [s_keep_Reply_eq, s_keep_Reply_eq]; exact funK_ent hn _ _ _ _ _ _
  · rfl
/-- ostiary/filter.Own -/
def fn_filter_Own : Fun := ⟨2,(.seq (.reg [iR 2 (.e .box) [(.t 0)],iR 4 (.e (.alloc [(.int .i64 (.ofNat 0)),(.int .i64 (.ofNat 0)),.nils,.nils,(.str [])])) []]) (iK [1,2,4] (.seq (.reg [iR 5 (.l (.load (some 3))) [(.t 2)],iM 6 1,iR 7 (.call 38) [(iC 2),(.t 5),(.t 6),(.c (.func 39 [] []))],⟨none,none,(.e (.store 5)),[(.t 4),(.t 7)],none⟩]) (iK [4] (iK [4] .ret))))),[(.cell 4 (some 5))]⟩
def s_filter_Own (call : CallK) (N : Nat) (a0 a1 : V) (H : Heap) (τ : Tape) (q : KV) : Ans := effK (eBox [a0] H τ) fun v0 H1 τ2 => effK (eAlloc [(.int .i64 (.ofNat 0)),(.int .i64 (.ofNat 0)),.nils,.nils,(.str [])] [] H1 τ2) fun v3 H4 τ5 => someK (lLoadN 3 [v0] H4) fun v6 => call f_filter_shown [(.int .i64 (.ofNat 2)),v6,a1,(.func f_filter_Own_1 [] [])] H4 τ5 fun v7 H8 τ9 => effK (eStore 5 [v3,v7] H8 τ9) fun v10 H11 τ12 => someK (results ⟨(T.set .leaf 4 v3),H11⟩ [(.cell 4 (some 5))]) fun v => q v H11 τ12
theorem s_filter_Own_eq (call : CallK) (N : Nat) (a0 a1 : V) (H : Heap) (τ : Tape) (q : KV) : s_filter_Own call N a0 a1 H τ q = funK call N fn_filter_Own [a0, a1] H τ q := by kernel_rfl
def e_filter_Own (call : CallK) (N : Nat) (vs : List V) (H : Heap) (τ : Tape) (q : KV) : Ans := match vs with | [a0, a1] => s_filter_Own call N a0 a1 H τ q | _ => none
theorem e_filter_Own_ok : EntOk fn_filter_Own e_filter_Own := by
  intro call N vs H τ q r h
  unfold e_filter_Own at h
  split at h
  · rw [s_filter_Own_eq] at h; exact h
  · cases h
theorem e_filter_Own_nat : EntNat e_filter_Own := by
  intro c hn N vs H τ q
  unfold e_filter_Own
  split
  · rw [s_filter_Own_eq, s_filter_Own_eq]; exact funK_ent hn _ _ _ _ _ _
  · rfl
/-- ostiary/filter.Share -/
def fn_filter_Share : Fun := ⟨3,(.seq (.reg [iR 3 (.e .box) [(.t 0)],iR 6 (.e (.alloc [(.int .i64 (.ofNat 0)),(.int .i64 (.ofNat 0)),.nils,.nils,(.str [])])) []]) (iK [1,2,3,6] (.seq (.reg [iR 10 (.p (.fieldAddr 1)) [(.t 3)],iR 11 (.l (.load none)) [(.t 10)],iM 12 2,iR 13 (.call 40) [(.t 11),(.t 12)],iM 9 13,iR 14 (.p (.extract 0)) [(.t 9)],iR 15 (.p (.extract 1)) [(.t 9)],iR 7 (.e (.alloc [.nils])) [],iR 8 (.e (.alloc [(.bool false)])) [],⟨none,none,(.e (.store 1)),[(.t 7),(.t 14)],none⟩,⟨none,none,(.e (.store 1)),[(.t 8),(.t 15)],none⟩]) (iK [1,3,6,7,8] (.seq (.reg [iR 16 (.l (.load (some 3))) [(.t 3)],iM 17 1,iR 18 (.p (.mkFunc 41 0)) [(.t 8),(.t 7)],iR 19 (.call 38) [(iC 3),(.t 16),(.t 17),(.t 18)],⟨none,none,(.e (.store 5)),[(.t 6),(.t 19)],none⟩])
    (iK [6] (iK [6] .ret))))))),[(.cell 6 (some 5))]⟩
def s_filter_Share (call : CallK) (N : Nat) (a0 a1 a2 : V) (H : Heap) (τ : Tape) (q : KV) : Ans := effK (eBox [a0] H τ) fun v0 H1 τ2 => effK (eAlloc [(.int .i64 (.ofNat 0)),(.int .i64 (.ofNat 0)),.nils,.nils,(.str [])] [] H1 τ2) fun v3 H4 τ5 => someK (pFieldAddr 1 [v0]) fun v6 => someK (lLoad1 [v6] H4) fun v7 => call f_cors_Exposed [v7,a2] H4 τ5 fun v8 H9 τ10 => someK (pExtract 0 [v8]) fun v11 => someK (pExtract 1 [v8]) fun v12 => effK (eAlloc [.nils] [] H9 τ10) fun v13 H14 τ15 => effK (eAlloc [(.bool false)] [] H14 τ15) fun v16 H17 τ18 => effK (eStore 1 [v13,v11] H17 τ18) fun v19 H20 τ21 => effK (eStore 1 [v16,v12] H20 τ21) fun v22 H23 τ24 => someK (lLoadN 3 [v0] H23) fun v25 => someK (some (V.func f_filter_Share_1 (List.take 0 [v16,v13]) (List.drop 0 [v16,v13]))) fun v26 => call f_filter_shown [(.int .i64 (.ofNat 3)),v25,a1,v26] H23 τ24 fun v27 H28 τ29 =>
    effK (eStore 5 [v3,v27] H28 τ29) fun v30 H31 τ32 => someK (results ⟨(T.set .leaf 6 v3),H31⟩ [(.cell 6 (some 5))]) fun v => q v H31 τ32
theorem s_filter_Share_eq (call : CallK) (N : Nat) (a0 a1 a2 : V) (H : Heap) (τ : Tape) (q : KV) : s_filter_Share call N a0 a1 a2 H τ q = funK call N fn_filter_Share [a0, a1, a2] H τ q := by kernel_rfl
def e_filter_Share (call : CallK) (N : Nat) (vs : List V) (H : Heap) (τ : Tape) (q : KV) : Ans := match vs with | [a0, a1, a2] => s_filter_Share call N a0 a1 a2 H τ q | _ => none
theorem e_filter_Share_ok : EntOk fn_filter_Share e_filter_Share := by
  intro call N vs H τ q r h
  unfold e_filter_Share at h
  split at h
  · rw [s_filter_Share_eq] at h; exact h
  · cases h
theorem e_filter_Share_nat : EntNat e_filter_Share := by
  intro c hn N vs H τ q
  unfold e_filter_Share
  split
  · rw [s_filter_Share_eq, s_filter_Share_eq]; exact funK_ent hn _ _ _ _ _ _
  · rfl
/-- ostiary/ostiarylaw20.among -/
def fn_law20_among : Fun := ⟨2,(.seq (.reg [iR 4 (.p .mv) [(.c (.bool false))]]) (iK [0,1] (.seq (.reg [iR 5 (.p .mv) [(iC 0)]]) (iK [0,1,5] (.seq (.seq (.reg [iR 6 (.p .mv) [(iC 0)]]) (iK [0,1,5,6] (.block 0 (.loop (iK [0,1,5,6] (.seq (.seq (.reg [iM 7 6,iM 8 0,iR 9 (.p .len) [(.t 8)],iR 10 (iB .lss) [(.t 7),(.t 9)]]) (iK [0,1,5,6,10] (.cond (.t 10) .skip (iK [] (.exit 0))))) (iK [0,1,5,6] (.seq (.block 1 (.seq (.block 2 (.loop (iK [0,1,5,6] (.seq (.seq (.draw [iM 13 5,iM 14 1,iR 15 (.p .len) [(.t 14)],iR 16 (iB .lss) [(.t 13),(.t 15)],iM 17 16,iN 18 17 true 1,iN 19 17 true 5,iG 20 17 true (.p (.slIdx 2)) [(.t 18),(.t 19)],
    iG 21 17 true (.l (.load (some 2))) [(.t 20)],iN 22 17 true 0,iN 23 17 true 6,iG 24 17 true (.p (.slIdx 2)) [(.t 22),(.t 23)],iG 25 17 true (.l (.load (some 2))) [(.t 24)],iG 26 17 true (.p (.eq true (.flat [.str,.str]))) [(.t 21),(.t 25)],iR 27 (.p .pick) [(.t 17),(.t 26),(.c (.bool false))]]) (iK [0,1,5,6,27] (.cond (.t 27) .skip (iK [0,1,5,6] (.exit 2))))) (iK [0,1,5,6] (.block 3 (.reg [iM 28 5,iR 29 (iB .add) [(.t 28),(iC 1)],iM 5 29]))))))) (iK [0,1,5,6] (.seq (.seq (.reg [iM 30 5,iM 31 1,iR 32 (.p .len) [(.t 31)],iR 33 (iB .eql) [(.t 30),(.t 32)],iM 34 33,iN 35 34 false 0,iN 36 34 false 6,iG 37 34 false (.p (.slIdx 2)) [(.t 35),(.t 36)],
    iG 38 34 false (.p (.fieldAddr 0)) [(.t 37)],iG 39 34 false (.l (.load none)) [(.t 38)],iG 40 34 false (iB .eql) [(.t 39),(.c (.str (bs [115,101,116,45,99,111,111,107,105,101])))],iR 41 (.p .pick) [(.t 34),(.c (.bool true)),(.t 40)],iM 42 41,iN 43 42 false 0,iN 44 42 false 6,iG 45 42 false (.p (.slIdx 2)) [(.t 43),(.t 44)],iG 46 42 false (.p (.fieldAddr 0)) [(.t 45)],iG 47 42 false (.l (.load none)) [(.t 46)],iG 48 42 false (iB .eql) [(.t 47),(.c (.str (bs [83,101,116,45,67,111,111,107,105,101])))],iR 49 (.p .pick) [(.t 42),(.c (.bool true)),(.t 48)],iM 50 49,iN 51 50 false 0,iN 52 50 false 6,iG 53 50 false (.p (.slIdx 2)) [(.t 51),(.t 52)],iG 54 50 false (.p (.fieldAddr 0)) [(.t 53)],
    iG 55 50 false (.l (.load none)) [(.t 54)],iG 56 50 false (iB .eql) [(.t 55),(.c (.str (bs [115,101,116,45,99,111,111,107,105,101,50])))],iR 57 (.p .pick) [(.t 50),(.c (.bool true)),(.t 56)]]) (iK [0,1,5,6,57] (.cond (.t 57) (.seq (.reg [iR 4 (.p .mv) [(.c (.bool false))]]) (iK [4] (iK [4] .ret))) .skip))) (iK [0,1,5,6] (.reg [iM 58 5,iR 59 (iB .add) [(.t 58),(iC 1)],iM 5 59])))))) (iK [0,1,5,6] (.reg [iM 11 6,iR 12 (iB .add) [(.t 11),(iC 1)],iM 6 12])))))))))) (iK [] (.seq (.reg [iR 4 (.p .mv) [(.c (.bool true))]]) (iK [4] (iK [4] .ret))))))))),[(.t 4)]⟩
def s_law20_among_j0 (call : CallK) (N : Nat) (q : KV) (st : St) (τ : Tape) : Ans := match st with
  | ⟨fr,H⟩ => q (.bool true) H τ
def s_law20_among_j2 (call : CallK) (N : Nat) (k : KC) (st : St) (τ : Tape) : Ans := match st with
  | ⟨fr,H⟩ => getK fr 0 fun t0 => getK fr 1 fun t1 => getK fr 5 fun t5 => getK fr 6 fun t6 => binK .add t6 (.int .i64 (.ofNat 1)) fun v2 => k .normal ⟨(T.set (T.set (T.set (T.set (T.set (T.set (T.set .leaf 0 t0) 1 t1) 5 t5) 6 t6) 11 t6) 12 v2) 6 v2),H⟩ τ
def s_law20_among_j3 (call : CallK) (N : Nat) (k : KC) (st : St) (τ : Tape) : Ans := match st with
  | ⟨fr,H⟩ => getK fr 0 fun t0 => getK fr 1 fun t1 => getK fr 5 fun t5 => getK fr 6 fun t6 => someK (pLen [t1]) fun v3 => binK .eql t5 v3 fun v4 => gK v4 false (fun q' => q' t0 H τ) H τ fun v5 H6 τ7 => gK v4 false (fun q' => q' t6 H6 τ7) H6 τ7 fun v8 H9 τ10 => gK v4 false (fun q' => someK (pSlIdx 2 [v5,v8]) fun v => q' v H9 τ10) H9 τ10 fun v11 H12 τ13 => gK v4 false (fun q' => someK (pFieldAddr 0 [v11]) fun v => q' v H12 τ13) H12 τ13 fun v14 H15 τ16 => gK v4 false (fun q' => someK (lLoad1 [v14] H15) fun v => q' v H15 τ16) H15 τ16 fun v17 H18 τ19 => gK v4 false (fun q' => binK .eql v17 (.str (bs [115,101,116,45,99,111,111,107,105,101])) fun v => q' v H18 τ19) H18 τ19 fun v20 H21 τ22 => someK (pPick [v4,(.bool true),v20]) fun v23 => gK v23 false (fun q' => q' t0 H21 τ22) H21 τ22 fun v24 H25 τ26 => gK v23 false (fun q' => q' t6 H25 τ26) H25 τ26 fun v27 H28 τ29 =>
    gK v23 false (fun q' => someK (pSlIdx 2 [v24,v27]) fun v => q' v H28 τ29) H28 τ29 fun v30 H31 τ32 => gK v23 false (fun q' => someK (pFieldAddr 0 [v30]) fun v => q' v H31 τ32) H31 τ32 fun v33 H34 τ35 => gK v23 false (fun q' => someK (lLoad1 [v33] H34) fun v => q' v H34 τ35) H34 τ35 fun v36 H37 τ38 => gK v23 false (fun q' => binK .eql v36 (.str (bs [83,101,116,45,67,111,111,107,105,101])) fun v => q' v H37 τ38) H37 τ38 fun v39 H40 τ41 => someK (pPick [v23,(.bool true),v39]) fun v42 => gK v42 false (fun q' => q' t0 H40 τ41) H40 τ41 fun v43 H44 τ45 => gK v42 false (fun q' => q' t6 H44 τ45) H44 τ45 fun v46 H47 τ48 => gK v42 false (fun q' => someK (pSlIdx 2 [v43,v46]) fun v => q' v H47 τ48) H47 τ48 fun v49 H50 τ51 => gK v42 false (fun q' => someK (pFieldAddr 0 [v49]) fun v => q' v H50 τ51) H50 τ51 fun v52 H53 τ54 =>
    gK v42 false (fun q' => someK (lLoad1 [v52] H53) fun v => q' v H53 τ54) H53 τ54 fun v55 H56 τ57 => gK v42 false (fun q' => binK .eql v55 (.str (bs [115,101,116,45,99,111,111,107,105,101,50])) fun v => q' v H56 τ57) H56 τ57 fun v58 H59 τ60 => someK (pPick [v42,(.bool true),v58]) fun v61 => condK v61 (k .ret ⟨(T.set .leaf 4 (.bool false)),H59⟩ τ60) (binK .add t5 (.int .i64 (.ofNat 1)) fun v62 => s_law20_among_j2 call N k ⟨(T.set (T.set (T.set (T.set (T.set (T.set (T.set .leaf 0 t0) 1 t1) 5 t5) 6 t6) 58 t5) 59 v62) 5 v62),H59⟩ τ60)
def s_law20_among_l4 (call : CallK) (N : Nat) (st : St) (τ : Tape) (k : KC) : Ans := match st with
  | ⟨fr,H⟩ => getK fr 0 fun t0 => getK fr 1 fun t1 => getK fr 5 fun t5 => getK fr 6 fun t6 => someK (pLen [t1]) fun v63 => binK .lss t5 v63 fun v64 => gK v64 true (fun q' => q' t1 H τ) H τ fun v65 H66 τ67 => gK v64 true (fun q' => q' t5 H66 τ67) H66 τ67 fun v68 H69 τ70 => gK v64 true (fun q' => someK (pSlIdx 2 [v65,v68]) fun v => q' v H69 τ70) H69 τ70 fun v71 H72 τ73 => gK v64 true (fun q' => someK (lLoadN 2 [v71] H72) fun v => q' v H72 τ73) H72 τ73 fun v74 H75 τ76 => gK v64 true (fun q' => q' t0 H75 τ76) H75 τ76 fun v77 H78 τ79 => gK v64 true (fun q' => q' t6 H78 τ79) H78 τ79 fun v80 H81 τ82 => gK v64 true (fun q' => someK (pSlIdx 2 [v77,v80]) fun v => q' v H81 τ82) H81 τ82 fun v83 H84 τ85 => gK v64 true (fun q' => someK (lLoadN 2 [v83] H84) fun v => q' v H84 τ85) H84 τ85 fun v86 H87 τ88 =>
    gK v64 true (fun q' => someK (pEq true (.flat [.str,.str]) [v74,v86]) fun v => q' v H87 τ88) H87 τ88 fun v89 H90 τ91 => someK (pPick [v64,v89,(.bool false)]) fun v92 => condK v92 (binK .add t5 (.int .i64 (.ofNat 1)) fun v93 => k .normal ⟨(T.set (T.set (T.set (T.set (T.set (T.set (T.set .leaf 0 t0) 1 t1) 5 t5) 6 t6) 28 t5) 29 v93) 5 v93),H90⟩ τ91) (k (.exit 2) ⟨(T.set (T.set (T.set (T.set .leaf 0 t0) 1 t1) 5 t5) 6 t6),H90⟩ τ91)
def s_law20_among_l1 (call : CallK) (N : Nat) (st : St) (τ : Tape) (k : KC) : Ans := match st with
  | ⟨fr,H⟩ => getK fr 0 fun t0 => getK fr 1 fun t1 => getK fr 5 fun t5 => getK fr 6 fun t6 => someK (pLen [t0]) fun v0 => binK .lss t6 v0 fun v1 => condK v1 (loopK (s_law20_among_l4 call N) N ⟨(T.set (T.set (T.set (T.set .leaf 0 t0) 1 t1) 5 t5) 6 t6),H⟩ τ (blockK 2 (seqK (s_law20_among_j3 call N k) (blockK 1 (seqK (s_law20_among_j2 call N k) k))))) (k (.exit 0) ⟨.leaf,H⟩ τ)
def s_law20_among (call : CallK) (N : Nat) (a0 a1 : V) (H : Heap) (τ : Tape) (q : KV) : Ans := loopK (s_law20_among_l1 call N) N ⟨(T.set (T.set (T.set (T.set .leaf 0 a0) 1 a1) 5 (.int .i64 (.ofNat 0))) 6 (.int .i64 (.ofNat 0))),H⟩ τ (blockK 0 (seqK (s_law20_among_j0 call N q) (endK [(.t 4)] q)))
theorem s_law20_among_eq (call : CallK) (N : Nat) (a0 a1 : V) (H : Heap) (τ : Tape) (q : KV) : s_law20_among call N a0 a1 H τ q = funK call N fn_law20_among [a0, a1] H τ q := by kernel_rfl
def e_law20_among (call : CallK) (N : Nat) (vs : List V) (H : Heap) (τ : Tape) (q : KV) : Ans := match vs with | [a0, a1] => s_law20_among call N a0 a1 H τ q | _ => none
theorem e_law20_among_ok : EntOk fn_law20_among e_law20_among := by
  intro call N vs H τ q r h
  unfold e_law20_among at h
  split at h
  · rw [s_law20_among_eq] at h; exact h
  · cases h
theorem e_law20_among_nat : EntNat e_law20_among := by
  intro c hn N vs H τ q
  unfold e_law20_among
  split
  · rw [s_law20_among_eq, s_law20_among_eq]; exact funK_ent hn _ _ _ _ _ _
  · rfl
/-- ostiary/ostiarylaw20.known -/
def fn_law20_known : Fun := ⟨0,(.seq (.reg [iR 0 (.p .mv) [(.c (.bool false))]]) (iK [] (.seq (.reg [iR 3 (.call 19) [(.c (.str (bs [83,101,116,45,67,111,111,107,105,101]))),(.c (.str (bs [97])))],iR 4 (.call 19) [(.c (.str (bs [88]))),(.c (.str (bs [98])))],iR 5 (.e (.buildSlice 2 2 [(.str []),(.str []),(.str []),(.str [])] [(0,2),(2,2)])) [(.t 3),(.t 4)],iR 6 (.p (.build [(.int .i64 (.ofNat 0)),.nils,.nils] [(0,1),(1,1)])) [(iC 200),(.t 5)],iR 7 (.call 15) [(.t 6),(.c (.str (bs [117])))],iR 1 (.e (.alloc [(.int .i64 (.ofNat 0)),(.int .i64 (.ofNat 0)),.nils,.nils,(.str [])])) [],⟨none,none,(.e (.store 5)),[(.t 1),(.t 7)],none⟩]) (iK [1] (.seq (.reg [iR 8 (.call 19) [(.c (.str (bs [88]))),(.c (.str (bs [98])))],iR 9 (.call 19) [(.c (.str (bs [101,120,112,105,114,101,115]))),(.c (.str (bs [99])))],
    iR 10 (.e (.buildSlice 2 2 [(.str []),(.str []),(.str []),(.str [])] [(0,2),(2,2)])) [(.t 8),(.t 9)],iR 11 (.p (.build [(.int .i64 (.ofNat 0)),.nils,.nils] [(0,1),(1,1)])) [(iC 200),(.t 10)],iR 12 (.call 16) [(.t 11),(.c (.str (bs [117]))),(.c (.bool false))],iR 2 (.e (.alloc [(.int .i64 (.ofNat 0)),(.int .i64 (.ofNat 0)),.nils,.nils,(.str [])])) [],⟨none,none,(.e (.store 5)),[(.t 2),(.t 12)],none⟩]) (iK [1,2] (.seq (.draw [⟨(some 13),none,(.l (.load (some 5))),[(.t 1)],some (0,2)⟩,iR 14 (.call 19) [(.c (.str (bs [88]))),(.c (.str (bs [98])))],iR 15 (.e (.buildSlice 1 2 [(.str []),(.str [])] [(0,2)])) [(.t 14)],
    iR 16 (.p (.build [(.int .i64 (.ofNat 0)),(.int .i64 (.ofNat 0)),.nils,.nils,(.str [])] [(0,1),(1,1),(2,1),(4,1)])) [(iC 2),(iC 200),(.t 15),(.c (.str (bs [117])))],iR 17 (.call 23) [(.t 13),(.t 16)],iM 18 17,⟨(some 19),some (18,true),(.l (.load (some 5))),[(.t 2)],some (3,5)⟩,iG 20 18 true (.call 19) [(.c (.str (bs [101,120,112,105,114,101,115]))),(.c (.str (bs [99])))],iG 21 18 true (.e (.buildSlice 1 2 [(.str []),(.str [])] [(0,2)])) [(.t 20)],iG 22 18 true (.p (.build [(.int .i64 (.ofNat 0)),(.int .i64 (.ofNat 0)),.nils,.nils,(.str [])] [(0,1),(1,1),(2,1),(4,1)])) [(iC 3),(iC 200),(.t 21),(.c (.str (bs [117])))],iG 23 18 true (.call 23) [(.t 19),(.t 22)],iR 24 (.p .pick) [(.t 18),(.t 23),(.c (.bool false))],
    iM 0 24]) (iK [0] (iK [0] .ret))))))))),[(.t 0)]⟩
/-- ostiary/ostiarylaw20.h -/
def fn_law20_h : Fun := ⟨2,(.seq (.reg [iR 4 (.e (.alloc [(.str []),(.str [])])) []]) (iK [0,1,4] (.seq (.reg [iM 5 0,iM 6 1,iR 7 (.p (.build [(.str []),(.str [])] [(0,1),(1,1)])) [(.t 5),(.t 6)],⟨none,none,(.e (.store 2)),[(.t 4),(.t 7)],none⟩]) (iK [4] (iK [4] .ret))))),[(.cell 4 (some 2))]⟩
/-- ostiary/ostiarykeep.SameResponse -/
def fn_keep_SameResponse : Fun := ⟨2,(.seq (.reg [iR 2 (.e .box) [(.t 0)],iR 3 (.e .box) [(.t 1)],iR 4 (.p .mv) [(.c (.bool false))]]) (iK [2,3] (.seq (.reg [iR 5 (.p (.fieldAddr 0)) [(.t 2)],iR 6 (.l (.load none)) [(.t 5)],iR 7 (.p (.fieldAddr 0)) [(.t 3)],iR 8 (.l (.load none)) [(.t 7)],iR 9 (iB .eql) [(.t 6),(.t 8)],iM 10 9,iG 11 10 true (.p (.fieldAddr 1)) [(.t 2)],iG 12 10 true (.l (.load none)) [(.t 11)],iG 13 10 true (.p (.fieldAddr 1)) [(.t 3)],iG 14 10 true (.l (.load none)) [(.t 13)],iG 15 10 true (iB .eql) [(.t 12),(.t 14)],iR 16 (.p .pick) [(.t 10),(.t 15),(.c (.bool false))],iM 17 16,iG 18 17 true (.p (.fieldAddr 2)) [(.t 2)],iG 19 17 true (.l (.load none)) [(.t 18)],iG 20 17 true (.p (.fieldAddr 2)) [(.t 3)],iG 21 17 true (.l (.load none)) [(.t 20)],iG 22 17 true (.call 27) [(.t 19),(.t 21)],
    iR 23 (.p .pick) [(.t 17),(.t 22),(.c (.bool false))],iM 24 23,iG 25 24 true (.p (.fieldAddr 3)) [(.t 2)],iG 26 24 true (.l (.load none)) [(.t 25)],iG 27 24 true (.p (.fieldAddr 3)) [(.t 3)],iG 28 24 true (.l (.load none)) [(.t 27)],iG 29 24 true (.call 43) [(.t 26),(.t 28)],iR 30 (.p .pick) [(.t 24),(.t 29),(.c (.bool false))],iM 31 30,iG 32 31 true (.p (.fieldAddr 4)) [(.t 2)],iG 33 31 true (.l (.load none)) [(.t 32)],iG 34 31 true (.p (.fieldAddr 4)) [(.t 3)],iG 35 31 true (.l (.load none)) [(.t 34)],iG 36 31 true (iB .eql) [(.t 33),(.t 35)],iR 37 (.p .pick) [(.t 31),(.t 36),(.c (.bool false))],iM 4 37]) (iK [4] (iK [4] .ret))))),[(.t 4)]⟩
/-- ostiary/ostiarybook.Same[ostiary/api.Header] -/
def fn_book_Same_Header : Fun := ⟨2,(.seq (.reg [iR 4 (.p .mv) [(.c (.bool false))]]) (iK [0,1] (.seq (.seq (.reg [iM 6 0,iR 7 (.p .len) [(.t 6)],iM 8 1,iR 9 (.p .len) [(.t 8)],iR 10 (iB .neq) [(.t 7),(.t 9)]]) (iK [0,1,10] (.cond (.t 10) (.seq (.reg [iR 4 (.p .mv) [(.c (.bool false))]]) (iK [4] (iK [4] .ret))) .skip))) (iK [0,1] (.seq (.seq (.reg [iR 5 (.p .mv) [(iC 0)]]) (iK [0,1,5] (.block 0 (.loop (iK [0,1,5] (.seq (.seq (.reg [iM 11 5,iM 12 0,iR 13 (.p .len) [(.t 12)],iR 14 (iB .lss) [(.t 11),(.t 13)]]) (iK [0,1,5,14] (.cond (.t 14) .skip (iK [] (.exit 0))))) (iK [0,1,5] (.seq (.block 1 (.seq (.draw [iM 17 0,iM 18 5,iR 19 (.p (.slIdx 2)) [(.t 17),(.t 18)],
    iR 20 (.l (.load (some 2))) [(.t 19)],iM 21 1,iM 22 5,iR 23 (.p (.slIdx 2)) [(.t 21),(.t 22)],iR 24 (.l (.load (some 2))) [(.t 23)],iR 25 (.p (.eq true (.flat [.str,.str]))) [(.t 20),(.t 24)]]) (iK [0,1,5,25] (.cond (.t 25) (.seq (.reg [iR 4 (.p .mv) [(.c (.bool false))]]) (iK [4] (iK [4] .ret))) .skip)))) (iK [0,1,5] (.reg [iM 15 5,iR 16 (iB .add) [(.t 15),(iC 1)],iM 5 16])))))))))) (iK [] (.seq (.reg [iR 4 (.p .mv) [(.c (.bool true))]]) (iK [4] (iK [4] .ret))))))))),[(.t 4)]⟩
/-- ostiary/headers.Get -/
def fn_headers_Get : Fun := ⟨2,(.seq (.reg [iR 4 (.p .mv) [(.c (.str []))],iR 5 (.p .mv) [(.c (.bool false))]]) (iK [0,1] (.seq (.reg [iR 6 (.p .mv) [(.c .nils)]]) (iK [0,1,6] (.seq (.seq (.reg [iM 9 0,iR 10 (.p .len) [(.t 9)],iR 11 (.p .mv) [(iC 0)]]) (iK [1,6,9,10,11] (.block 0 (.loop (iK [1,6,9,10,11] (.seq (.reg [iR 12 (iB .lss) [(.t 11),(.t 10)]]) (iK [1,6,9,10,11,12] (.seq (.cond (.t 12) .skip (iK [6] (.exit 0))) (iK [1,6,9,10,11] (.seq (.block 1 (.seq (.reg [iR 13 (.p (.slIdx 2)) [(.t 9),(.t 11)],iR 14 (.l (.load (some 2))) [(.t 13)],iR 8 (.e (.alloc [(.str []),(.str [])])) [],⟨none,none,(.e (.store 2)),[(.t 8),(.t 14)],none⟩]) (iK [1,6,8,9,10,11] (.seq (.reg [iR 15 (.l (.load (some 2))) [(.t 8)],iM 16 1,iR 17 (.call 48) [(.t 15),(.t 16)]])
    (iK [1,6,8,9,10,11,17] (.cond (.t 17) (.reg [iM 18 6,iR 19 (.p (.fieldAddr 1)) [(.t 8)],iR 20 (.l (.load none)) [(.t 19)],iR 21 (.e (.buildSlice 1 1 [(.str [])] [(0,1)])) [(.t 20)],iR 22 (.e (.append 1 16)) [(.t 18),(.t 21)],iM 6 22]) .skip)))))) (iK [1,6,9,10,11] (.reg [iR 23 (iB .add) [(.t 11),(iC 1)],iM 11 23])))))))))))) (iK [6] (.seq (.reg [iM 24 6,iR 25 (.call 49) [(.t 24),(.c (.str (bs [44,32])))],iM 26 6,iR 27 (.p .len) [(.t 26)],iR 28 (iB .gtr) [(.t 27),(iC 0)],iM 4 25,iM 5 28]) (iK [4,5] (iK [4,5] .ret))))))))),[(.t 4),(.t 5)]⟩
def s_headers_Get_j0 (call : CallK) (N : Nat) (q : KV) (st : St) (τ : Tape) : Ans := match st with
  | ⟨fr,H⟩ => getK fr 6 fun t6 => call f_strings_Join [t6,(.str (bs [44,32]))] H τ fun v1 H2 τ3 => someK (pLen [t6]) fun v4 => binK .gtr v4 (.int .i64 (.ofNat 0)) fun v5 => q (.tup [v1,v5]) H2 τ3
def s_headers_Get_j2 (call : CallK) (N : Nat) (k : KC) (st : St) (τ : Tape) : Ans := match st with
  | ⟨fr,H⟩ => getK fr 1 fun t1 => getK fr 6 fun t6 => getK fr 9 fun t9 => getK fr 10 fun t10 => getK fr 11 fun t11 => binK .add t11 (.int .i64 (.ofNat 1)) fun v7 => k .normal ⟨(T.set (T.set (T.set (T.set (T.set (T.set (T.set .leaf 1 t1) 6 t6) 9 t9) 10 t10) 11 t11) 23 v7) 11 v7),H⟩ τ
def s_headers_Get_l1 (call : CallK) (N : Nat) (st : St) (τ : Tape) (k : KC) : Ans := match st with
  | ⟨fr,H⟩ => getK fr 1 fun t1 => getK fr 6 fun t6 => getK fr 9 fun t9 => getK fr 10 fun t10 => getK fr 11 fun t11 => binK .lss t11 t10 fun v6 => condK v6 (someK (pSlIdx 2 [t9,t11]) fun v8 => someK (lLoadN 2 [v8] H) fun v9 => effK (eAlloc [(.str []),(.str [])] [] H τ) fun v10 H11 τ12 => effK (eStore 2 [v10,v9] H11 τ12) fun v13 H14 τ15 => someK (lLoadN 2 [v10] H14) fun v16 => call f_headers_is [v16,t1] H14 τ15 fun v17 H18 τ19 => condK v17 (someK (pFieldAddr 1 [v10]) fun v20 => someK (lLoad1 [v20] H18) fun v21 => effK (eBuildSlice 1 1 [(.str [])] [(0,1)] [v21] H18 τ19) fun v22 H23 τ24 => effK (eAppend 1 16 [t6,v22] H23 τ24) fun v25 H26 τ27 => s_headers_Get_j2 call N k ⟨(T.set (T.set (T.set (T.set (T.set (T.set (T.set (T.set (T.set (T.set (T.set (T.set (T.set .leaf 1 t1) 6 t6) 8 v10) 9 t9) 10 t10) 11 t11) 17 v17) 18 t6) 19 v20) 20 v21) 21 v22) 22 v25) 6 v25),H26⟩ τ27)
    (s_headers_Get_j2 call N k ⟨(T.set (T.set (T.set (T.set (T.set (T.set (T.set .leaf 1 t1) 6 t6) 8 v10) 9 t9) 10 t10) 11 t11) 17 v17),H18⟩ τ19)) (k (.exit 0) ⟨(T.set .leaf 6 t6),H⟩ τ)
def s_headers_Get (call : CallK) (N : Nat) (a0 a1 : V) (H : Heap) (τ : Tape) (q : KV) : Ans := someK (pLen [a0]) fun v0 => loopK (s_headers_Get_l1 call N) N ⟨(T.set (T.set (T.set (T.set (T.set .leaf 1 a1) 6 .nils) 9 a0) 10 v0) 11 (.int .i64 (.ofNat 0))),H⟩ τ (blockK 0 (seqK (s_headers_Get_j0 call N q) (endK [(.t 4),(.t 5)] q)))
theorem s_headers_Get_eq (call : CallK) (N : Nat) (a0 a1 : V) (H : Heap) (τ : Tape) (q : KV) : s_headers_Get call N a0 a1 H τ q = funK call N fn_headers_Get [a0, a1] H τ q := by kernel_rfl
def e_headers_Get (call : CallK) (N : Nat) (vs : List V) (H : Heap) (τ : Tape) (q : KV) : Ans := match vs with | [a0, a1] => s_headers_Get call N a0 a1 H τ q | _ => none
theorem e_headers_Get_ok : EntOk fn_headers_Get e_headers_Get := by
  intro call N vs H τ q r h
  unfold e_headers_Get at h
  split at h
  · rw [s_headers_Get_eq] at h; exact h
  · cases h
theorem e_headers_Get_nat : EntNat e_headers_Get := by
  intro c hn N vs H τ q
  unfold e_headers_Get
  split
  · rw [s_headers_Get_eq, s_headers_Get_eq]; exact funK_ent hn _ _ _ _ _ _
  · rfl
/-- ostiary/infra.Token -/
def fn_infra_Token : Fun := ⟨1,(.seq (.reg [iR 2 (.p .mv) [(.c (.bool false))]]) (iK [0] (.seq (.seq (.reg [iM 6 0,iR 7 (.p .lenS) [(.t 6)],iR 8 (.p .mv) [(iC 0)]]) (iK [0,7,8] (.block 0 (.loop (iK [0,7,8] (.seq (.reg [iR 9 (iB .lss) [(.t 8),(.t 7)]]) (iK [0,7,8,9] (.seq (.cond (.t 9) .skip (iK [0] (.exit 0))) (iK [0,7,8] (.seq (.block 1 (.seq (.reg [iM 10 8,iM 3 10]) (iK [0,3,7,8] (.seq (.reg [iM 11 0,iM 12 3,iR 13 (.p .strIndex) [(.t 11),(.t 12)],iM 4 13]) (iK [0,4,7,8] (.seq (.reg [iM 14 4,iR 15 (iB .geq) [(.t 14),(iU 97)],iM 16 15,iN 17 16 true 4,iG 18 16 true (iB .leq) [(.t 17),(iU 122)],
    iR 19 (.p .pick) [(.t 16),(.t 18),(.c (.bool false))],iM 20 19,iN 21 20 false 4,iG 22 20 false (iB .geq) [(.t 21),(iU 65)],iN 23 20 false 22,iN 24 23 true 4,iG 25 23 true (iB .leq) [(.t 24),(iU 90)],iG 26 20 false (.p .pick) [(.t 23),(.t 25),(.c (.bool false))],iR 27 (.p .pick) [(.t 20),(.c (.bool true)),(.t 26)],iM 28 27,iN 29 28 false 4,iG 30 28 false (iB .geq) [(.t 29),(iU 48)],iN 31 28 false 30,iN 32 31 true 4,iG 33 31 true (iB .leq) [(.t 32),(iU 57)],iG 34 28 false (.p .pick) [(.t 31),(.t 33),(.c (.bool false))],iR 35 (.p .pick) [(.t 28),(.c (.bool true)),(.t 34)],iM 5 35])
    (iK [0,4,5,7,8] (.seq (.reg [iM 36 5,iR 37 (.p (.un .not)) [(.t 36)],iM 38 37,iN 39 38 true 4,iG 40 38 true (.call 52) [(.c (.str (bs [33,35,36,37,38,39,42,43,45,46,94,95,96,124,126]))),(.t 39)],iG 41 38 true (iB .lss) [(.t 40),(iC 0)],iR 42 (.p .pick) [(.t 38),(.t 41),(.c (.bool false))]]) (iK [0,7,8,42] (.cond (.t 42) (.seq (.reg [iR 2 (.p .mv) [(.c (.bool false))]]) (iK [2] (iK [2] .ret))) .skip)))))))))) (iK [0,7,8] (.reg [iR 43 (iB .add) [(.t 8),(iC 1)],iM 8 43])))))))))))) (iK [0] (.seq (.reg [iM 44 0,iR 45 (iB .neq) [(.t 44),(.c (.str []))],iM 2 45]) (iK [2] (iK [2] .ret))))))),[(.t 2)]⟩
def s_infra_Token_j0 (call : CallK) (N : Nat) (q : KV) (st : St) (τ : Tape) : Ans := match st with
  | ⟨fr,H⟩ => getK fr 0 fun t0 => binK .neq t0 (.str []) fun v1 => q v1 H τ
def s_infra_Token_l1 (call : CallK) (N : Nat) (st : St) (τ : Tape) (k : KC) : Ans := match st with
  | ⟨fr,H⟩ => getK fr 0 fun t0 => getK fr 7 fun t7 => getK fr 8 fun t8 => binK .lss t8 t7 fun v2 => condK v2 (someK (pStrIndex [t0,t8]) fun v3 => binK .geq v3 (.int .u8 (.ofNat 97)) fun v4 => gK v4 true (fun q' => q' v3 H τ) H τ fun v5 H6 τ7 => gK v4 true (fun q' => binK .leq v5 (.int .u8 (.ofNat 122)) fun v => q' v H6 τ7) H6 τ7 fun v8 H9 τ10 => someK (pPick [v4,v8,(.bool false)]) fun v11 => gK v11 false (fun q' => q' v3 H9 τ10) H9 τ10 fun v12 H13 τ14 => gK v11 false (fun q' => binK .geq v12 (.int .u8 (.ofNat 65)) fun v => q' v H13 τ14) H13 τ14 fun v15 H16 τ17 => gK v11 false (fun q' => q' v15 H16 τ17) H16 τ17 fun v18 H19 τ20 => gK v18 true (fun q' => q' v3 H19 τ20) H19 τ20 fun v21 H22 τ23 => gK v18 true (fun q' => binK .leq v21 (.int .u8 (.ofNat 90)) fun v => q' v H22 τ23) H22 τ23 fun v24 H25 τ26 =>
    gK v11 false (fun q' => someK (pPick [v18,v24,(.bool false)]) fun v => q' v H25 τ26) H25 τ26 fun v27 H28 τ29 => someK (pPick [v11,(.bool true),v27]) fun v30 => gK v30 false (fun q' => q' v3 H28 τ29) H28 τ29 fun v31 H32 τ33 => gK v30 false (fun q' => binK .geq v31 (.int .u8 (.ofNat 48)) fun v => q' v H32 τ33) H32 τ33 fun v34 H35 τ36 => gK v30 false (fun q' => q' v34 H35 τ36) H35 τ36 fun v37 H38 τ39 => gK v37 true (fun q' => q' v3 H38 τ39) H38 τ39 fun v40 H41 τ42 => gK v37 true (fun q' => binK .leq v40 (.int .u8 (.ofNat 57)) fun v => q' v H41 τ42) H41 τ42 fun v43 H44 τ45 => gK v30 false (fun q' => someK (pPick [v37,v43,(.bool false)]) fun v => q' v H44 τ45) H44 τ45 fun v46 H47 τ48 => someK (pPick [v30,(.bool true),v46]) fun v49 => unK .not v49 fun v50 => gK v50 true (fun q' => q' v3 H47 τ48) H47 τ48 fun v51 H52 τ53 =>
    gK v50 true (fun q' => call f_strings_IndexByte [(.str (bs [33,35,36,37,38,39,42,43,45,46,94,95,96,124,126])),v51] H52 τ53 q') H52 τ53 fun v54 H55 τ56 => gK v50 true (fun q' => binK .lss v54 (.int .i64 (.ofNat 0)) fun v => q' v H55 τ56) H55 τ56 fun v57 H58 τ59 => someK (pPick [v50,v57,(.bool false)]) fun v60 => condK v60 (k .ret ⟨(T.set .leaf 2 (.bool false)),H58⟩ τ59) (binK .add t8 (.int .i64 (.ofNat 1)) fun v61 => k .normal ⟨(T.set (T.set (T.set (T.set (T.set .leaf 0 t0) 7 t7) 8 t8) 43 v61) 8 v61),H58⟩ τ59)) (k (.exit 0) ⟨(T.set .leaf 0 t0),H⟩ τ)
def s_infra_Token (call : CallK) (N : Nat) (a0 : V) (H : Heap) (τ : Tape) (q : KV) : Ans := someK (pLenS [a0]) fun v0 => loopK (s_infra_Token_l1 call N) N ⟨(T.set (T.set (T.set .leaf 0 a0) 7 v0) 8 (.int .i64 (.ofNat 0))),H⟩ τ (blockK 0 (seqK (s_infra_Token_j0 call N q) (endK [(.t 2)] q)))
theorem s_infra_Token_eq (call : CallK) (N : Nat) (a0 : V) (H : Heap) (τ : Tape) (q : KV) : s_infra_Token call N a0 H τ q = funK call N fn_infra_Token [a0] H τ q := by kernel_rfl
def e_infra_Token (call : CallK) (N : Nat) (vs : List V) (H : Heap) (τ : Tape) (q : KV) : Ans := match vs with | [a0] => s_infra_Token call N a0 H τ q | _ => none
theorem e_infra_Token_ok : EntOk fn_infra_Token e_infra_Token := by
  intro call N vs H τ q r h
  unfold e_infra_Token at h
  split at h
  · rw [s_infra_Token_eq] at h; exact h
  · cases h
theorem e_infra_Token_nat : EntNat e_infra_Token := by
  intro c hn N vs H τ q
  unfold e_infra_Token
  split
  · rw [s_infra_Token_eq, s_infra_Token_eq]; exact funK_ent hn _ _ _ _ _ _
  · rfl
/-- ostiary/infra.Lower -/
def fn_infra_Lower : Fun := ⟨1,(.seq (.reg [iR 2 (.p .mv) [(.c (.str []))]]) (iK [0] (.seq (.reg [iM 3 0,iR 4 (.call 53) [(.t 3),(.c (.func 54 [] []))],iM 2 4]) (iK [2] (iK [2] .ret))))),[(.t 2)]⟩
/-- ostiary/ostiarykeep.FewBytes -/
def fn_keep_FewBytes : Fun := ⟨2,(.seq (.reg [iR 4 (.p .mv) [(.c .nils)]]) (iK [0,1] (.seq (.seq (.reg [iM 5 0,iR 6 (.p .len) [(.t 5)],iM 7 1,iR 8 (iB .gtr) [(.t 6),(.t 7)]]) (iK [0,1,8] (.cond (.t 8) (.seq (.reg [iM 9 0,iM 10 1,iR 11 (.p (.slSlice 1 false true false)) [(.t 9),(.t 10)],iM 4 11]) (iK [4] (iK [4] .ret))) .skip))) (iK [0] (.seq (.reg [iM 12 0,iM 4 12]) (iK [4] (iK [4] .ret))))))),[(.t 4)]⟩
def s_keep_FewBytes (call : CallK) (N : Nat) (a0 a1 : V) (H : Heap) (τ : Tape) (q : KV) : Ans := someK (pLen [a0]) fun v0 => binK .gtr v0 a1 fun v1 => condK v1 (someK (pSlSlice 1 false true false [a0,a1]) fun v2 => q v2 H τ) (q a0 H τ)
theorem s_keep_FewBytes_eq (call : CallK) (N : Nat) (a0 a1 : V) (H : Heap) (τ : Tape) (q : KV) : s_keep_FewBytes call N a0 a1 H τ q = funK call N fn_keep_FewBytes [a0, a1] H τ q := by kernel_rfl
def e_keep_FewBytes (call : CallK) (N : Nat) (vs : List V) (H : Heap) (τ : Tape) (q : KV) : Ans := match vs with | [a0, a1] => s_keep_FewBytes call N a0 a1 H τ q | _ => none
theorem e_keep_FewBytes_ok : EntOk fn_keep_FewBytes e_keep_FewBytes := by
  intro call N vs H τ q r h
  unfold e_keep_FewBytes at h
  split at h
  · rw [s_keep_FewBytes_eq] at h; exact h
  · cases h
theorem e_keep_FewBytes_nat : EntNat e_keep_FewBytes := by
  intro c hn N vs H τ q
  unfold e_keep_FewBytes
  split
  · rw [s_keep_FewBytes_eq, s_keep_FewBytes_eq]; exact funK_ent hn _ _ _ _ _ _
  · rfl
/-- ostiary/filter.shown -/
def fn_filter_shown : Fun := ⟨4,(.seq (.reg [iR 5 (.e .box) [(.t 1)],iR 8 (.e (.alloc [(.int .i64 (.ofNat 0)),(.int .i64 (.ofNat 0)),.nils,.nils,(.str [])])) []]) (iK [0,2,3,5,8] (.seq (.draw [iM 13 0,iR 14 (.p (.fieldAddr 0)) [(.t 5)],⟨(some 15),none,(.l (.load none)),[(.t 14)],some (0,2)⟩,iR 16 (.p (.fieldAddr 2)) [(.t 5)],⟨(some 17),none,(.l (.load none)),[(.t 16)],some (0,1)⟩,iR 18 (.call 55) [(.t 17)],iM 19 2,iR 20 (.p (.build [(.int .i64 (.ofNat 0)),(.int .i64 (.ofNat 0)),.nils,.nils,(.str [])] [(0,1),(1,1),(3,1),(4,1)])) [(.t 13),(.t 15),(.t 18),(.t 19)],iR 9 (.e (.alloc [(.int .i64 (.ofNat 0)),(.int .i64 (.ofNat 0)),.nils,.nils,(.str [])])) [],⟨none,none,(.e (.store 5)),[(.t 9),(.t 20)],none⟩]) (iK [3,5,8,9] (.seq (.seq (.reg [iR 21 (.p (.fieldAddr 1)) [(.t 5)],
    iR 22 (.l (.load none)) [(.t 21)],iR 23 (.p .len) [(.t 22)],iR 24 (.p .mv) [(iC 0)]]) (iK [3,8,9,22,23,24] (.block 0 (.loop (iK [3,8,9,22,23,24] (.seq (.reg [iR 25 (iB .lss) [(.t 24),(.t 23)]]) (iK [3,8,9,22,23,24,25] (.seq (.cond (.t 25) .skip (iK [8,9] (.exit 0))) (iK [3,8,9,22,23,24] (.seq (.block 1 (.seq (.reg [iR 26 (.p (.slIdx 2)) [(.t 22),(.t 24)],iR 27 (.l (.load (some 2))) [(.t 26)],iR 11 (.e (.alloc [(.str []),(.str [])])) [],⟨none,none,(.e (.store 2)),[(.t 11),(.t 27)],none⟩]) (iK [3,8,9,11,22,23,24] (.seq (.reg [iR 28 (.p (.fieldAddr 0)) [(.t 11)],iR 29 (.l (.load none)) [(.t 28)],iR 30 (.call 35) [(.t 29)],iM 12 30]) (iK [3,8,9,11,12,22,23,24] (.seq (.reg [iM 31 12,
    iR 32 (iB .neq) [(.t 31),(.c (.str (bs [115,101,116,45,99,111,111,107,105,101])))],iM 33 32,iN 34 33 true 12,iG 35 33 true (iB .neq) [(.t 34),(.c (.str (bs [115,101,116,45,99,111,111,107,105,101,50])))],iR 36 (.p .pick) [(.t 33),(.t 35),(.c (.bool false))],iM 37 36,iN 38 37 true 3,iN 39 37 true 12,iG 40 37 true .callv [(.t 38),(.t 39)],iR 41 (.p .pick) [(.t 37),(.t 40),(.c (.bool false))]]) (iK [3,8,9,11,22,23,24,41] (.cond (.t 41) (.reg [iR 42 (.p (.fieldAddr 2)) [(.t 9)],iR 43 (.l (.load none)) [(.t 42)],iR 44 (.l (.load (some 2))) [(.t 11)],iR 45 (.e (.buildSlice 1 2 [(.str []),(.str [])] [(0,2)])) [(.t 44)],iR 46 (.e (.append 2 32)) [(.t 43),(.t 45)],iR 47 (.p (.fieldAddr 2)) [(.t 9)],
    ⟨none,none,(.e (.store 1)),[(.t 47),(.t 46)],none⟩]) .skip)))))))) (iK [3,8,9,22,23,24] (.reg [iR 48 (iB .add) [(.t 24),(iC 1)],iM 24 48])))))))))))) (iK [8,9] (.seq (.reg [iR 49 (.l (.load (some 5))) [(.t 9)],⟨none,none,(.e (.store 5)),[(.t 8),(.t 49)],none⟩]) (iK [8] (iK [8] .ret))))))))),[(.cell 8 (some 5))]⟩
def s_filter_shown_j0 (call : CallK) (N : Nat) (q : KV) (st : St) (τ : Tape) : Ans := match st with
  | ⟨fr,H⟩ => getK fr 8 fun t8 => getK fr 9 fun t9 => someK (lLoadN 5 [t9] H) fun v23 => effK (eStore 5 [t8,v23] H τ) fun v24 H25 τ26 => someK (results ⟨(T.set .leaf 8 t8),H25⟩ [(.cell 8 (some 5))]) fun v => q v H25 τ26
def s_filter_shown_j2 (call : CallK) (N : Nat) (k : KC) (st : St) (τ : Tape) : Ans := match st with
  | ⟨fr,H⟩ => getK fr 3 fun t3 => getK fr 8 fun t8 => getK fr 9 fun t9 => getK fr 22 fun t22 => getK fr 23 fun t23 => getK fr 24 fun t24 => binK .add t24 (.int .i64 (.ofNat 1)) fun v28 => k .normal ⟨(T.set (T.set (T.set (T.set (T.set (T.set (T.set (T.set .leaf 3 t3) 8 t8) 9 t9) 22 t22) 23 t23) 24 t24) 48 v28) 24 v28),H⟩ τ
def s_filter_shown_l1 (call : CallK) (N : Nat) (st : St) (τ : Tape) (k : KC) : Ans := match st with
  | ⟨fr,H⟩ => getK fr 3 fun t3 => getK fr 8 fun t8 => getK fr 9 fun t9 => getK fr 22 fun t22 => getK fr 23 fun t23 => getK fr 24 fun t24 => binK .lss t24 t23 fun v27 => condK v27 (someK (pSlIdx 2 [t22,t24]) fun v29 => someK (lLoadN 2 [v29] H) fun v30 => effK (eAlloc [(.str []),(.str [])] [] H τ) fun v31 H32 τ33 => effK (eStore 2 [v31,v30] H32 τ33) fun v34 H35 τ36 => someK (pFieldAddr 0 [v31]) fun v37 => someK (lLoad1 [v37] H35) fun v38 => call f_infra_Lower [v38] H35 τ36 fun v39 H40 τ41 => binK .neq v39 (.str (bs [115,101,116,45,99,111,111,107,105,101])) fun v42 => gK v42 true (fun q' => q' v39 H40 τ41) H40 τ41 fun v43 H44 τ45 => gK v42 true (fun q' => binK .neq v43 (.str (bs [115,101,116,45,99,111,111,107,105,101,50])) fun v => q' v H44 τ45) H44 τ45 fun v46 H47 τ48 => someK (pPick [v42,v46,(.bool false)]) fun v49 =>
    gK v49 true (fun q' => q' t3 H47 τ48) H47 τ48 fun v50 H51 τ52 => gK v49 true (fun q' => q' v39 H51 τ52) H51 τ52 fun v53 H54 τ55 => gK v49 true (fun q' => opK call .callv [v50,v53] H54 τ55 q') H54 τ55 fun v56 H57 τ58 => someK (pPick [v49,v56,(.bool false)]) fun v59 => condK v59 (someK (pFieldAddr 2 [t9]) fun v60 => someK (lLoad1 [v60] H57) fun v61 => someK (lLoadN 2 [v31] H57) fun v62 => effK (eBuildSlice 1 2 [(.str []),(.str [])] [(0,2)] [v62] H57 τ58) fun v63 H64 τ65 => effK (eAppend 2 32 [v61,v63] H64 τ65) fun v66 H67 τ68 => someK (pFieldAddr 2 [t9]) fun v69 => effK (eStore 1 [v69,v66] H67 τ68) fun v70 H71 τ72 => s_filter_shown_j2 call N k ⟨(T.set (T.set (T.set (T.set (T.set (T.set (T.set (T.set (T.set (T.set (T.set (T.set (T.set (T.set .leaf 3 t3) 8 t8) 9 t9) 11 v31) 22 t22) 23 t23) 24 t24) 41 v59) 42 v60) 43 v61) 44 v62) 45 v63) 46 v66) 47 v69),H71⟩ τ72)
    (s_filter_shown_j2 call N k ⟨(T.set (T.set (T.set (T.set (T.set (T.set (T.set (T.set .leaf 3 t3) 8 t8) 9 t9) 11 v31) 22 t22) 23 t23) 24 t24) 41 v59),H57⟩ τ58)) (k (.exit 0) ⟨(T.set (T.set .leaf 8 t8) 9 t9),H⟩ τ)
def s_filter_shown (call : CallK) (N : Nat) (a0 a1 a2 a3 : V) (H : Heap) (τ : Tape) (q : KV) : Ans := effK (eBox [a1] H τ) fun v0 H1 τ2 => effK (eAlloc [(.int .i64 (.ofNat 0)),(.int .i64 (.ofNat 0)),.nils,.nils,(.str [])] [] H1 τ2) fun v3 H4 τ5 => someK (pFieldAddr 0 [v0]) fun v6 => someK (lLoad1 [v6] H4) fun v7 => someK (pFieldAddr 2 [v0]) fun v8 => someK (lLoad1 [v8] H4) fun v9 => call f_slices_Clone_byte [v9] H4 τ5 fun v10 H11 τ12 => someK (pBuild [(.int .i64 (.ofNat 0)),(.int .i64 (.ofNat 0)),.nils,.nils,(.str [])] [(0,1),(1,1),(3,1),(4,1)] [a0,v7,v10,a2]) fun v13 => effK (eAlloc [(.int .i64 (.ofNat 0)),(.int .i64 (.ofNat 0)),.nils,.nils,(.str [])] [] H11 τ12) fun v14 H15 τ16 => effK (eStore 5 [v14,v13] H15 τ16) fun v17 H18 τ19 => bif chkLoads [H4,H11,H15,H18] (((.load none),[v8],0,1) :: (((.load none),[v6],0,2) :: [])) then
    someK (pFieldAddr 1 [v0]) fun v20 => someK (lLoad1 [v20] H18) fun v21 => someK (pLen [v21]) fun v22 => loopK (s_filter_shown_l1 call N) N ⟨(T.set (T.set (T.set (T.set (T.set (T.set .leaf 3 a3) 8 v3) 9 v14) 22 v21) 23 v22) 24 (.int .i64 (.ofNat 0))),H18⟩ τ19 (blockK 0 (seqK (s_filter_shown_j0 call N q) (endK [(.cell 8 (some 5))] q))) else none
theorem s_filter_shown_eq (call : CallK) (N : Nat) (a0 a1 a2 a3 : V) (H : Heap) (τ : Tape) (q : KV) : s_filter_shown call N a0 a1 a2 a3 H τ q = funK call N fn_filter_shown [a0, a1, a2, a3] H τ q := by kernel_rfl
def e_filter_shown (call : CallK) (N : Nat) (vs : List V) (H : Heap) (τ : Tape) (q : KV) : Ans := match vs with | [a0, a1, a2, a3] => s_filter_shown call N a0 a1 a2 a3 H τ q | _ => none
theorem e_filter_shown_ok : EntOk fn_filter_shown e_filter_shown := by
  intro call N vs H τ q r h
  unfold e_filter_shown at h
  split at h
  · rw [s_filter_shown_eq] at h; exact h
  · cases h
theorem e_filter_shown_nat : EntNat e_filter_shown := by
  intro c hn N vs H τ q
  unfold e_filter_shown
  split
  · rw [s_filter_shown_eq, s_filter_shown_eq]; exact funK_ent hn _ _ _ _ _ _
  · rfl
/-- ostiary/filter.Own$1 -/
def fn_filter_Own_1 : Fun := ⟨1,(.seq (.reg [iR 2 (.p .mv) [(.c (.bool false))]]) (iK [] (.seq (.reg [iR 2 (.p .mv) [(.c (.bool true))]]) (iK [2] (iK [2] .ret))))),[(.t 2)]⟩
def s_filter_Own_1 (call : CallK) (N : Nat) (a0 : V) (H : Heap) (τ : Tape) (q : KV) : Ans := q (.bool true) H τ
theorem s_filter_Own_1_eq (call : CallK) (N : Nat) (a0 : V) (H : Heap) (τ : Tape) (q : KV) : s_filter_Own_1 call N a0 H τ q = funK call N fn_filter_Own_1 [a0] H τ q := by kernel_rfl
def e_filter_Own_1 (call : CallK) (N : Nat) (vs : List V) (H : Heap) (τ : Tape) (q : KV) : Ans := match vs with | [a0] => s_filter_Own_1 call N a0 H τ q | _ => none
theorem e_filter_Own_1_ok : EntOk fn_filter_Own_1 e_filter_Own_1 := by
  intro call N vs H τ q r h
  unfold e_filter_Own_1 at h
  split at h
  · rw [s_filter_Own_1_eq] at h; exact h
  · cases h
theorem e_filter_Own_1_nat : EntNat e_filter_Own_1 := by
  intro c hn N vs H τ q
  unfold e_filter_Own_1
  split
  · rw [s_filter_Own_1_eq, s_filter_Own_1_eq]; exact funK_ent hn _ _ _ _ _ _
  · rfl
/-- ostiary/cors.Exposed -/
def fn_cors_Exposed : Fun := ⟨2,(.seq (.reg [iR 4 (.p .mv) [(.c .nils)],iR 5 (.p .mv) [(.c (.bool false))]]) (iK [0,1] (.seq (.reg [iM 12 0,iR 13 (.call 56) [(.t 12),(.c (.str (bs [97,99,99,101,115,115,45,99,111,110,116,114,111,108,45,101,120,112,111,115,101,45,104,101,97,100,101,114,115])))],iM 11 13,iR 14 (.p (.extract 0)) [(.t 11)],iR 15 (.p (.extract 1)) [(.t 11)],iM 6 14,iM 7 15]) (iK [1,6] (.seq (.seq (.reg [iM 16 1,iR 17 (.p (.un .not)) [(.t 16)],iM 18 17,iN 19 18 true 6,iG 20 18 true (.call 42) [(.t 19),(.c (.str (bs [42])))],iR 21 (.p .pick) [(.t 18),(.t 20),(.c (.bool false))]]) (iK [6,21] (.cond (.t 21) (.seq (.reg [iR 4 (.p .mv) [(.c .nils)],iR 5 (.p .mv) [(.c (.bool true))]])
    (iK [4,5] (iK [4,5] .ret))) .skip))) (iK [6] (.seq (.reg [iR 22 (.e .mkMap) [],iM 8 22]) (iK [6,8] (.seq (.seq (.reg [iM 23 6,iR 24 (.p .len) [(.t 23)],iR 25 (.p .mv) [(iC 0)]]) (iK [8,23,24,25] (.block 0 (.loop (iK [8,23,24,25] (.seq (.reg [iR 26 (iB .lss) [(.t 25),(.t 24)]]) (iK [8,23,24,25,26] (.seq (.cond (.t 26) .skip (iK [8] (.exit 0))) (iK [8,23,24,25] (.seq (.block 1 (.seq (.reg [iR 27 (.p (.slIdx 1)) [(.t 23),(.t 25)],iR 28 (.l (.load none)) [(.t 27)],iM 10 28]) (iK [8,10,23,24,25] (.seq (.reg [iM 29 10,iR 30 (.call 34) [(.t 29)]]) (iK [8,10,23,24,25,30] (.cond (.t 30) (.reg [iM 31 8,iM 32 10,iR 33 (.call 35) [(.t 32)],
    iR 34 (.l (.mlook (.int .i64 (.ofNat 0)) false)) [(.t 31),(.t 33)],iR 35 (iB .add) [(.t 34),(iC 1)],⟨none,none,(.e .mput),[(.t 31),(.t 33),(.t 35)],none⟩]) .skip)))))) (iK [8,23,24,25] (.reg [iR 36 (iB .add) [(.t 25),(iC 1)],iM 25 36])))))))))))) (iK [8] (.seq (.reg [iM 37 8,iR 38 (.call 57) [(.t 37)],iM 4 38,iR 5 (.p .mv) [(.c (.bool false))]]) (iK [4,5] (iK [4,5] .ret))))))))))))),[(.t 4),(.t 5)]⟩
def s_cors_Exposed_j0 (call : CallK) (N : Nat) (q : KV) (st : St) (τ : Tape) : Ans := match st with
  | ⟨fr,H⟩ => getK fr 8 fun t8 => call f_cors_names [t8] H τ fun v17 H18 τ19 => q (.tup [v17,(.bool false)]) H18 τ19
def s_cors_Exposed_j2 (call : CallK) (N : Nat) (k : KC) (st : St) (τ : Tape) : Ans := match st with
  | ⟨fr,H⟩ => getK fr 8 fun t8 => getK fr 23 fun t23 => getK fr 24 fun t24 => getK fr 25 fun t25 => binK .add t25 (.int .i64 (.ofNat 1)) fun v21 => k .normal ⟨(T.set (T.set (T.set (T.set (T.set (T.set .leaf 8 t8) 23 t23) 24 t24) 25 t25) 36 v21) 25 v21),H⟩ τ
def s_cors_Exposed_l1 (call : CallK) (N : Nat) (st : St) (τ : Tape) (k : KC) : Ans := match st with
  | ⟨fr,H⟩ => getK fr 8 fun t8 => getK fr 23 fun t23 => getK fr 24 fun t24 => getK fr 25 fun t25 => binK .lss t25 t24 fun v20 => condK v20 (someK (pSlIdx 1 [t23,t25]) fun v22 => someK (lLoad1 [v22] H) fun v23 => call f_infra_Token [v23] H τ fun v24 H25 τ26 => condK v24 (call f_infra_Lower [v23] H25 τ26 fun v27 H28 τ29 => someK (lLook (.int .i64 (.ofNat 0)) false [t8,v27] H28) fun v30 => binK .add v30 (.int .i64 (.ofNat 1)) fun v31 => effK (eMput [t8,v27,v31] H28 τ29) fun v32 H33 τ34 => s_cors_Exposed_j2 call N k ⟨(T.set (T.set (T.set (T.set (T.set (T.set (T.set (T.set (T.set (T.set (T.set .leaf 8 t8) 10 v23) 23 t23) 24 t24) 25 t25) 30 v24) 31 t8) 32 v23) 33 v27) 34 v30) 35 v31),H33⟩ τ34) (s_cors_Exposed_j2 call N k ⟨(T.set (T.set (T.set (T.set (T.set (T.set .leaf 8 t8) 10 v23) 23 t23) 24 t24) 25 t25) 30 v24),H25⟩ τ26)) (k (.exit 0) ⟨(T.set .leaf 8 t8),H⟩ τ)
def s_cors_Exposed (call : CallK) (N : Nat) (a0 a1 : V) (H : Heap) (τ : Tape) (q : KV) : Ans := call f_headers_Split [a0,(.str (bs [97,99,99,101,115,115,45,99,111,110,116,114,111,108,45,101,120,112,111,115,101,45,104,101,97,100,101,114,115]))] H τ fun v0 H1 τ2 => someK (pExtract 0 [v0]) fun v3 => someK (pExtract 1 [v0]) fun v4 => unK .not a1 fun v5 => gK v5 true (fun q' => q' v3 H1 τ2) H1 τ2 fun v6 H7 τ8 => gK v5 true (fun q' => call f_slices_Contains_string [v6,(.str (bs [42]))] H7 τ8 q') H7 τ8 fun v9 H10 τ11 => someK (pPick [v5,v9,(.bool false)]) fun v12 => condK v12 (q (.tup [.nils,(.bool true)]) H10 τ11) (effK (eMkMap [] H10 τ11) fun v13 H14 τ15 => someK (pLen [v3]) fun v16 =>
    loopK (s_cors_Exposed_l1 call N) N ⟨(T.set (T.set (T.set (T.set .leaf 8 v13) 23 v3) 24 v16) 25 (.int .i64 (.ofNat 0))),H14⟩ τ15 (blockK 0 (seqK (s_cors_Exposed_j0 call N q) (endK [(.t 4),(.t 5)] q))))
theorem s_cors_Exposed_eq (call : CallK) (N : Nat) (a0 a1 : V) (H : Heap) (τ : Tape) (q : KV) : s_cors_Exposed call N a0 a1 H τ q = funK call N fn_cors_Exposed [a0, a1] H τ q := by kernel_rfl
def e_cors_Exposed (call : CallK) (N : Nat) (vs : List V) (H : Heap) (τ : Tape) (q : KV) : Ans := match vs with | [a0, a1] => s_cors_Exposed call N a0 a1 H τ q | _ => none
theorem e_cors_Exposed_ok : EntOk fn_cors_Exposed e_cors_Exposed := by
  intro call N vs H τ q r h
  unfold e_cors_Exposed at h
  split at h
  · rw [s_cors_Exposed_eq] at h; exact h
  · cases h
theorem e_cors_Exposed_nat : EntNat e_cors_Exposed := by
  intro c hn N vs H τ q
  unfold e_cors_Exposed
  split
  · rw [s_cors_Exposed_eq, s_cors_Exposed_eq]; exact funK_ent hn _ _ _ _ _ _
  · rfl
/-- ostiary/filter.Share$1 -/
def fn_filter_Share_1 : Fun := ⟨3,(.seq (.reg [iR 4 (.p .mv) [(.c (.bool false))]]) (iK [0,1,2] (.seq (.seq (.reg [iM 5 0]) (iK [0,1,2,5] (.block 0 (.seq (.seq (.reg [iR 7 (iB .eql) [(.t 5),(.c (.str (bs [99,97,99,104,101,45,99,111,110,116,114,111,108])))],iM 6 7]) (iK [0,1,2,5,6] (.cond (.t 6) .skip (.seq (.reg [iR 8 (iB .eql) [(.t 5),(.c (.str (bs [99,111,110,116,101,110,116,45,108,97,110,103,117,97,103,101])))],iM 6 8]) (iK [0,1,2,5,6] (.cond (.t 6) .skip (.seq (.reg [iR 9 (iB .eql) [(.t 5),(.c (.str (bs [99,111,110,116,101,110,116,45,108,101,110,103,116,104])))],iM 6 9]) (iK [0,1,2,5,6] (.cond (.t 6) .skip
    (.seq (.reg [iR 10 (iB .eql) [(.t 5),(.c (.str (bs [99,111,110,116,101,110,116,45,116,121,112,101])))],iM 6 10]) (iK [0,1,2,5,6] (.cond (.t 6) .skip (.seq (.reg [iR 11 (iB .eql) [(.t 5),(.c (.str (bs [101,120,112,105,114,101,115])))],iM 6 11]) (iK [0,1,2,5,6] (.cond (.t 6) .skip (.seq (.reg [iR 12 (iB .eql) [(.t 5),(.c (.str (bs [108,97,115,116,45,109,111,100,105,102,105,101,100])))],iM 6 12]) (iK [0,1,2,5,6] (.cond (.t 6) .skip (.reg [iR 13 (iB .eql) [(.t 5),(.c (.str (bs [112,114,97,103,109,97])))],iM 6 13]))))))))))))))))))) (iK [0,1,2,6] (.cond (.t 6) (.seq (.reg [iR 4 (.p .mv) [(.c (.bool true))]]) (iK [4] (iK [4] .ret))) .skip)))))) (iK [0,1,2] (.seq (.reg [iR 14 (.l (.load none)) [(.t 1)],
    iM 15 14,iG 16 15 false (.l (.load none)) [(.t 2)],iN 17 15 false 0,iG 18 15 false (.call 42) [(.t 16),(.t 17)],iR 19 (.p .pick) [(.t 15),(.c (.bool true)),(.t 18)],iM 4 19]) (iK [4] (iK [4] .ret))))))),[(.t 4)]⟩
def s_filter_Share_1_j0 (call : CallK) (N : Nat) (q : KV) (st : St) (τ : Tape) : Ans := match st with
  | ⟨fr,H⟩ => getK fr 0 fun t0 => getK fr 1 fun t1 => getK fr 2 fun t2 => someK (lLoad1 [t1] H) fun v1 => gK v1 false (fun q' => someK (lLoad1 [t2] H) fun v => q' v H τ) H τ fun v2 H3 τ4 => gK v1 false (fun q' => q' t0 H3 τ4) H3 τ4 fun v5 H6 τ7 => gK v1 false (fun q' => call f_slices_Contains_string [v2,v5] H6 τ7 q') H6 τ7 fun v8 H9 τ10 => someK (pPick [v1,(.bool true),v8]) fun v11 => q v11 H9 τ10
def s_filter_Share_1_j1 (call : CallK) (N : Nat) (q : KV) (st : St) (τ : Tape) : Ans := match st with
  | ⟨fr,H⟩ => getK fr 0 fun t0 => getK fr 1 fun t1 => getK fr 2 fun t2 => getK fr 6 fun t6 => condK t6 (q (.bool true) H τ) (s_filter_Share_1_j0 call N q ⟨(T.set (T.set (T.set (T.set .leaf 0 t0) 1 t1) 2 t2) 6 t6),H⟩ τ)
def s_filter_Share_1 (call : CallK) (N : Nat) (a0 a1 a2 : V) (H : Heap) (τ : Tape) (q : KV) : Ans := binK .eql a0 (.str (bs [99,97,99,104,101,45,99,111,110,116,114,111,108])) fun v0 => condK v0 (s_filter_Share_1_j1 call N q ⟨(T.set (T.set (T.set (T.set (T.set .leaf 0 a0) 1 a1) 2 a2) 5 a0) 6 v0),H⟩ τ) (binK .eql a0 (.str (bs [99,111,110,116,101,110,116,45,108,97,110,103,117,97,103,101])) fun v12 => condK v12 (s_filter_Share_1_j1 call N q ⟨(T.set (T.set (T.set (T.set (T.set .leaf 0 a0) 1 a1) 2 a2) 5 a0) 6 v12),H⟩ τ) (binK .eql a0 (.str (bs [99,111,110,116,101,110,116,45,108,101,110,103,116,104])) fun v13 => condK v13 (s_filter_Share_1_j1 call N q ⟨(T.set (T.set (T.set (T.set (T.set .leaf 0 a0) 1 a1) 2 a2) 5 a0) 6 v13),H⟩ τ) (binK .eql a0 (.str (bs [99,111,110,116,101,110,116,45,116,121,112,101])) fun v14 => condK v14
    (s_filter_Share_1_j1 call N q ⟨(T.set (T.set (T.set (T.set (T.set .leaf 0 a0) 1 a1) 2 a2) 5 a0) 6 v14),H⟩ τ) (binK .eql a0 (.str (bs [101,120,112,105,114,101,115])) fun v15 => condK v15 (s_filter_Share_1_j1 call N q ⟨(T.set (T.set (T.set (T.set (T.set .leaf 0 a0) 1 a1) 2 a2) 5 a0) 6 v15),H⟩ τ) (binK .eql a0 (.str (bs [108,97,115,116,45,109,111,100,105,102,105,101,100])) fun v16 => condK v16 (s_filter_Share_1_j1 call N q ⟨(T.set (T.set (T.set (T.set (T.set .leaf 0 a0) 1 a1) 2 a2) 5 a0) 6 v16),H⟩ τ) (binK .eql a0 (.str (bs [112,114,97,103,109,97])) fun v17 => s_filter_Share_1_j1 call N q ⟨(T.set (T.set (T.set (T.set (T.set (T.set (T.set .leaf 0 a0) 1 a1) 2 a2) 5 a0) 6 v16) 13 v17) 6 v17),H⟩ τ))))))
theorem s_filter_Share_1_eq (call : CallK) (N : Nat) (a0 a1 a2 : V) (H : Heap) (τ : Tape) (q : KV) : s_filter_Share_1 call N a0 a1 a2 H τ q = funK call N fn_filter_Share_1 [a0, a1, a2] H τ q := by kernel_rfl
def e_filter_Share_1 (call : CallK) (N : Nat) (vs : List V) (H : Heap) (τ : Tape) (q : KV) : Ans := match vs with | [a0, a1, a2] => s_filter_Share_1 call N a0 a1 a2 H τ q | _ => none
theorem e_filter_Share_1_ok : EntOk fn_filter_Share_1 e_filter_Share_1 := by
  intro call N vs H τ q r h
  unfold e_filter_Share_1 at h
  split at h
  · rw [s_filter_Share_1_eq] at h; exact h
  · cases h
theorem e_filter_Share_1_nat : EntNat e_filter_Share_1 := by
  intro c hn N vs H τ q
  unfold e_filter_Share_1
  split
  · rw [s_filter_Share_1_eq, s_filter_Share_1_eq]; exact funK_ent hn _ _ _ _ _ _
  · rfl
/-- slices.Contains[[]string,string] -/
def fn_slices_Contains_string : Fun := ⟨2,(.seq (.reg [iR 4 (.p .mv) [(.c (.bool false))]]) (iK [0,1] (.seq (.reg [iM 5 0,iM 6 1,iR 7 (.call 58) [(.t 5),(.t 6)],iR 8 (iB .geq) [(.t 7),(iC 0)],iM 4 8]) (iK [4] (iK [4] .ret))))),[(.t 4)]⟩
def s_slices_Contains_string (call : CallK) (N : Nat) (a0 a1 : V) (H : Heap) (τ : Tape) (q : KV) : Ans := call f_slices_Index_string [a0,a1] H τ fun v0 H1 τ2 => binK .geq v0 (.int .i64 (.ofNat 0)) fun v3 => q v3 H1 τ2
theorem s_slices_Contains_string_eq (call : CallK) (N : Nat) (a0 a1 : V) (H : Heap) (τ : Tape) (q : KV) : s_slices_Contains_string call N a0 a1 H τ q = funK call N fn_slices_Contains_string [a0, a1] H τ q := by kernel_rfl
def e_slices_Contains_string (call : CallK) (N : Nat) (vs : List V) (H : Heap) (τ : Tape) (q : KV) : Ans := match vs with | [a0, a1] => s_slices_Contains_string call N a0 a1 H τ q | _ => none
theorem e_slices_Contains_string_ok : EntOk fn_slices_Contains_string e_slices_Contains_string := by
  intro call N vs H τ q r h
  unfold e_slices_Contains_string at h
  split at h
  · rw [s_slices_Contains_string_eq] at h; exact h
  · cases h
theorem e_slices_Contains_string_nat : EntNat e_slices_Contains_string := by
  intro c hn N vs H τ q
  unfold e_slices_Contains_string
  split
  · rw [s_slices_Contains_string_eq, s_slices_Contains_string_eq]; exact funK_ent hn _ _ _ _ _ _
  · rfl
/-- ostiary/ostiarybook.Same[byte] -/
def fn_book_Same_byte : Fun := ⟨2,(.seq (.reg [iR 4 (.p .mv) [(.c (.bool false))]]) (iK [0,1] (.seq (.seq (.reg [iM 6 0,iR 7 (.p .len) [(.t 6)],iM 8 1,iR 9 (.p .len) [(.t 8)],iR 10 (iB .neq) [(.t 7),(.t 9)]]) (iK [0,1,10] (.cond (.t 10) (.seq (.reg [iR 4 (.p .mv) [(.c (.bool false))]]) (iK [4] (iK [4] .ret))) .skip))) (iK [0,1] (.seq (.seq (.reg [iR 5 (.p .mv) [(iC 0)]]) (iK [0,1,5] (.block 0 (.loop (iK [0,1,5] (.seq (.seq (.reg [iM 11 5,iM 12 0,iR 13 (.p .len) [(.t 12)],iR 14 (iB .lss) [(.t 11),(.t 13)]]) (iK [0,1,5,14] (.cond (.t 14) .skip (iK [] (.exit 0))))) (iK [0,1,5] (.seq (.block 1 (.seq (.draw [iM 17 0,iM 18 5,iR 19 (.p (.slIdx 1)) [(.t 17),(.t 18)],iR 20 (.l (.load none)) [(.t 19)],
    iM 21 1,iM 22 5,iR 23 (.p (.slIdx 1)) [(.t 21),(.t 22)],iR 24 (.l (.load none)) [(.t 23)],iR 25 (iB .neq) [(.t 20),(.t 24)]]) (iK [0,1,5,25] (.cond (.t 25) (.seq (.reg [iR 4 (.p .mv) [(.c (.bool false))]]) (iK [4] (iK [4] .ret))) .skip)))) (iK [0,1,5] (.reg [iM 15 5,iR 16 (iB .add) [(.t 15),(iC 1)],iM 5 16])))))))))) (iK [] (.seq (.reg [iR 4 (.p .mv) [(.c (.bool true))]]) (iK [4] (iK [4] .ret))))))))),[(.t 4)]⟩
/-- ostiary/headers.is -/
def fn_headers_is : Fun := ⟨2,(.seq (.reg [iR 2 (.e .box) [(.t 0)],iR 4 (.p .mv) [(.c (.bool false))]]) (iK [1,2] (.seq (.reg [iR 5 (.p (.fieldAddr 0)) [(.t 2)],iR 6 (.l (.load none)) [(.t 5)],iR 7 (.call 35) [(.t 6)],iM 8 1,iR 9 (.call 35) [(.t 8)],iR 10 (iB .eql) [(.t 7),(.t 9)],iM 4 10]) (iK [4] (iK [4] .ret))))),[(.t 4)]⟩
def s_headers_is (call : CallK) (N : Nat) (a0 a1 : V) (H : Heap) (τ : Tape) (q : KV) : Ans := effK (eBox [a0] H τ) fun v0 H1 τ2 => someK (pFieldAddr 0 [v0]) fun v3 => someK (lLoad1 [v3] H1) fun v4 => call f_infra_Lower [v4] H1 τ2 fun v5 H6 τ7 => call f_infra_Lower [a1] H6 τ7 fun v8 H9 τ10 => binK .eql v5 v8 fun v11 => q v11 H9 τ10
theorem s_headers_is_eq (call : CallK) (N : Nat) (a0 a1 : V) (H : Heap) (τ : Tape) (q : KV) : s_headers_is call N a0 a1 H τ q = funK call N fn_headers_is [a0, a1] H τ q := by kernel_rfl
def e_headers_is (call : CallK) (N : Nat) (vs : List V) (H : Heap) (τ : Tape) (q : KV) : Ans := match vs with | [a0, a1] => s_headers_is call N a0 a1 H τ q | _ => none
theorem e_headers_is_ok : EntOk fn_headers_is e_headers_is := by
  intro call N vs H τ q r h
  unfold e_headers_is at h
  split at h
  · rw [s_headers_is_eq] at h; exact h
  · cases h
theorem e_headers_is_nat : EntNat e_headers_is := by
  intro c hn N vs H τ q
  unfold e_headers_is
  split
  · rw [s_headers_is_eq, s_headers_is_eq]; exact funK_ent hn _ _ _ _ _ _
  · rfl
/-- strings.IndexByte -/
def fn_strings_IndexByte : Fun := ⟨2,(.seq (.reg [iR 4 (.p .mv) [(iC 0)]]) (iK [0,1] (.seq (.reg [iM 5 0,iM 6 1,iR 7 (.call 67) [(.t 5),(.t 6)],iM 4 7]) (iK [4] (iK [4] .ret))))),[(.t 4)]⟩
def s_strings_IndexByte (call : CallK) (N : Nat) (a0 a1 : V) (H : Heap) (τ : Tape) (q : KV) : Ans := call f_stringslite_IndexByte [a0,a1] H τ fun v0 H1 τ2 => q v0 H1 τ2
theorem s_strings_IndexByte_eq (call : CallK) (N : Nat) (a0 a1 : V) (H : Heap) (τ : Tape) (q : KV) : s_strings_IndexByte call N a0 a1 H τ q = funK call N fn_strings_IndexByte [a0, a1] H τ q := by kernel_rfl
def e_strings_IndexByte (call : CallK) (N : Nat) (vs : List V) (H : Heap) (τ : Tape) (q : KV) : Ans := match vs with | [a0, a1] => s_strings_IndexByte call N a0 a1 H τ q | _ => none
theorem e_strings_IndexByte_ok : EntOk fn_strings_IndexByte e_strings_IndexByte := by
  intro call N vs H τ q r h
  unfold e_strings_IndexByte at h
  split at h
  · rw [s_strings_IndexByte_eq] at h; exact h
  · cases h
theorem e_strings_IndexByte_nat : EntNat e_strings_IndexByte := by
  intro c hn N vs H τ q
  unfold e_strings_IndexByte
  split
  · rw [s_strings_IndexByte_eq, s_strings_IndexByte_eq]; exact funK_ent hn _ _ _ _ _ _
  · rfl
/-- ostiary/infra.mapped -/
def fn_infra_mapped : Fun := ⟨2,(.seq (.reg [iR 4 (.p .mv) [(.c (.str []))]]) (iK [0,1] (.seq (.reg [iM 8 0,iR 9 (.e .strBytes) [(.t 8)],iM 5 9]) (iK [1,5] (.seq (.seq (.reg [iM 10 5,iR 11 (.p .len) [(.t 10)],iR 12 (.p .mv) [(iC 0)]]) (iK [1,5,10,11,12] (.block 0 (.loop (iK [1,5,10,11,12] (.seq (.reg [iR 13 (iB .lss) [(.t 12),(.t 11)]]) (iK [1,5,10,11,12,13] (.seq (.cond (.t 13) .skip (iK [5] (.exit 0))) (iK [1,5,10,11,12] (.seq (.block 1 (.seq (.reg [iM 14 12,iR 15 (.p (.slIdx 1)) [(.t 10),(.t 12)],iR 16 (.l (.load none)) [(.t 15)],iM 6 14,iM 7 16]) (iK [1,5,6,7,10,11,12] (.reg [iM 17 5,iM 18 6,iM 19 1,iM 20 7,
    iR 21 .callv [(.t 19),(.t 20)],iR 22 (.p (.slIdx 1)) [(.t 17),(.t 18)],⟨none,none,(.e (.store 1)),[(.t 22),(.t 21)],none⟩])))) (iK [1,5,10,11,12] (.reg [iR 23 (iB .add) [(.t 12),(iC 1)],iM 12 23])))))))))))) (iK [5] (.seq (.reg [iM 24 5,iR 25 (.l .bytesStr) [(.t 24)],iM 4 25]) (iK [4] (iK [4] .ret))))))))),[(.t 4)]⟩
def s_infra_mapped_j0 (call : CallK) (N : Nat) (q : KV) (st : St) (τ : Tape) : Ans := match st with
  | ⟨fr,H⟩ => getK fr 5 fun t5 => someK (lBytesStr [t5] H) fun v4 => q v4 H τ
def s_infra_mapped_l1 (call : CallK) (N : Nat) (st : St) (τ : Tape) (k : KC) : Ans := match st with
  | ⟨fr,H⟩ => getK fr 1 fun t1 => getK fr 5 fun t5 => getK fr 10 fun t10 => getK fr 11 fun t11 => getK fr 12 fun t12 => binK .lss t12 t11 fun v5 => condK v5 (someK (pSlIdx 1 [t10,t12]) fun v6 => someK (lLoad1 [v6] H) fun v7 => opK call .callv [t1,v7] H τ fun v8 H9 τ10 => someK (pSlIdx 1 [t5,t12]) fun v11 => effK (eStore 1 [v11,v8] H9 τ10) fun v12 H13 τ14 => binK .add t12 (.int .i64 (.ofNat 1)) fun v15 => k .normal ⟨(T.set (T.set (T.set (T.set (T.set (T.set (T.set .leaf 1 t1) 5 t5) 10 t10) 11 t11) 12 t12) 23 v15) 12 v15),H13⟩ τ14) (k (.exit 0) ⟨(T.set .leaf 5 t5),H⟩ τ)
def s_infra_mapped (call : CallK) (N : Nat) (a0 a1 : V) (H : Heap) (τ : Tape) (q : KV) : Ans := effK (eStrBytes [a0] H τ) fun v0 H1 τ2 => someK (pLen [v0]) fun v3 => loopK (s_infra_mapped_l1 call N) N ⟨(T.set (T.set (T.set (T.set (T.set .leaf 1 a1) 5 v0) 10 v0) 11 v3) 12 (.int .i64 (.ofNat 0))),H1⟩ τ2 (blockK 0 (seqK (s_infra_mapped_j0 call N q) (endK [(.t 4)] q)))
theorem s_infra_mapped_eq (call : CallK) (N : Nat) (a0 a1 : V) (H : Heap) (τ : Tape) (q : KV) : s_infra_mapped call N a0 a1 H τ q = funK call N fn_infra_mapped [a0, a1] H τ q := by kernel_rfl
def e_infra_mapped (call : CallK) (N : Nat) (vs : List V) (H : Heap) (τ : Tape) (q : KV) : Ans := match vs with | [a0, a1] => s_infra_mapped call N a0 a1 H τ q | _ => none
theorem e_infra_mapped_ok : EntOk fn_infra_mapped e_infra_mapped := by
  intro call N vs H τ q r h
  unfold e_infra_mapped at h
  split at h
  · rw [s_infra_mapped_eq] at h; exact h
  · cases h
theorem e_infra_mapped_nat : EntNat e_infra_mapped := by
  intro c hn N vs H τ q
  unfold e_infra_mapped
  split
  · rw [s_infra_mapped_eq, s_infra_mapped_eq]; exact funK_ent hn _ _ _ _ _ _
  · rfl
/-- ostiary/infra.Lower$1 -/
def fn_infra_Lower_1 : Fun := ⟨1,(.seq (.reg [iR 2 (.p .mv) [(iU 0)]]) (iK [0] (.seq (.seq (.reg [iM 3 0,iR 4 (iB .geq) [(.t 3),(iU 65)],iM 5 4,iN 6 5 true 0,iG 7 5 true (iB .leq) [(.t 6),(iU 90)],iR 8 (.p .pick) [(.t 5),(.t 7),(.c (.bool false))]]) (iK [0,8] (.cond (.t 8) (.reg [iM 9 0,iR 10 (iB .add) [(.t 9),(iU 32)],iM 0 10]) .skip))) (iK [0] (.seq (.reg [iM 11 0,iM 2 11]) (iK [2] (iK [2] .ret))))))),[(.t 2)]⟩
def s_infra_Lower_1_j0 (call : CallK) (N : Nat) (q : KV) (st : St) (τ : Tape) : Ans := match st with
  | ⟨fr,H⟩ => getK fr 0 fun t0 => q t0 H τ
def s_infra_Lower_1 (call : CallK) (N : Nat) (a0 : V) (H : Heap) (τ : Tape) (q : KV) : Ans := binK .geq a0 (.int .u8 (.ofNat 65)) fun v0 => gK v0 true (fun q' => q' a0 H τ) H τ fun v1 H2 τ3 => gK v0 true (fun q' => binK .leq v1 (.int .u8 (.ofNat 90)) fun v => q' v H2 τ3) H2 τ3 fun v4 H5 τ6 => someK (pPick [v0,v4,(.bool false)]) fun v7 => condK v7 (binK .add a0 (.int .u8 (.ofNat 32)) fun v8 => s_infra_Lower_1_j0 call N q ⟨(T.set (T.set (T.set (T.set (T.set .leaf 0 a0) 8 v7) 9 a0) 10 v8) 0 v8),H5⟩ τ6) (s_infra_Lower_1_j0 call N q ⟨(T.set (T.set .leaf 0 a0) 8 v7),H5⟩ τ6)
theorem s_infra_Lower_1_eq (call : CallK) (N : Nat) (a0 : V) (H : Heap) (τ : Tape) (q : KV) : s_infra_Lower_1 call N a0 H τ q = funK call N fn_infra_Lower_1 [a0] H τ q := by kernel_rfl
def e_infra_Lower_1 (call : CallK) (N : Nat) (vs : List V) (H : Heap) (τ : Tape) (q : KV) : Ans := match vs with | [a0] => s_infra_Lower_1 call N a0 H τ q | _ => none
theorem e_infra_Lower_1_ok : EntOk fn_infra_Lower_1 e_infra_Lower_1 := by
  intro call N vs H τ q r h
  unfold e_infra_Lower_1 at h
  split at h
  · rw [s_infra_Lower_1_eq] at h; exact h
  · cases h
theorem e_infra_Lower_1_nat : EntNat e_infra_Lower_1 := by
  intro c hn N vs H τ q
  unfold e_infra_Lower_1
  split
  · rw [s_infra_Lower_1_eq, s_infra_Lower_1_eq]; exact funK_ent hn _ _ _ _ _ _
  · rfl
/-- slices.Clone[[]byte,byte] -/
def fn_slices_Clone_byte : Fun := ⟨1,(.seq (.reg [iR 2 (.p .mv) [(.c .nils)]]) (iK [0] (.seq (.seq (.reg [iM 3 0,iR 4 (.p (.eq false .slice)) [(.t 3),(.c .nils)]]) (iK [0,4] (.cond (.t 4) (.seq (.reg [iR 2 (.p .mv) [(.c .nils)]]) (iK [2] (iK [2] .ret))) .skip))) (iK [0] (.seq (.reg [iR 5 (.e (.buildSlice 0 1 [] [])) [],iM 6 0,iR 7 (.e (.append 1 1)) [(.t 5),(.t 6)],iM 2 7]) (iK [2] (iK [2] .ret))))))),[(.t 2)]⟩
def s_slices_Clone_byte (call : CallK) (N : Nat) (a0 : V) (H : Heap) (τ : Tape) (q : KV) : Ans := someK (pEq false .slice [a0,.nils]) fun v0 => condK v0 (q .nils H τ) (effK (eBuildSlice 0 1 [] [] [] H τ) fun v1 H2 τ3 => effK (eAppend 1 1 [v1,a0] H2 τ3) fun v4 H5 τ6 => q v4 H5 τ6)
theorem s_slices_Clone_byte_eq (call : CallK) (N : Nat) (a0 : V) (H : Heap) (τ : Tape) (q : KV) : s_slices_Clone_byte call N a0 H τ q = funK call N fn_slices_Clone_byte [a0] H τ q := by kernel_rfl
def e_slices_Clone_byte (call : CallK) (N : Nat) (vs : List V) (H : Heap) (τ : Tape) (q : KV) : Ans := match vs with | [a0] => s_slices_Clone_byte call N a0 H τ q | _ => none
theorem e_slices_Clone_byte_ok : EntOk fn_slices_Clone_byte e_slices_Clone_byte := by
  intro call N vs H τ q r h
  unfold e_slices_Clone_byte at h
  split at h
  · rw [s_slices_Clone_byte_eq] at h; exact h
  · cases h
theorem e_slices_Clone_byte_nat : EntNat e_slices_Clone_byte := by
  intro c hn N vs H τ q
  unfold e_slices_Clone_byte
  split
  · rw [s_slices_Clone_byte_eq, s_slices_Clone_byte_eq]; exact funK_ent hn _ _ _ _ _ _
  · rfl
/-- ostiary/headers.Split -/
def fn_headers_Split : Fun := ⟨2,(.seq (.reg [iR 4 (.p .mv) [(.c .nils)],iR 5 (.p .mv) [(.c (.bool false))]]) (iK [0,1] (.seq (.reg [iM 13 0,iM 14 1,iR 15 (.call 30) [(.t 13),(.t 14)],iM 12 15,iR 16 (.p (.extract 0)) [(.t 12)],iR 17 (.p (.extract 1)) [(.t 12)],iM 6 16,iM 7 17]) (iK [6,7] (.seq (.seq (.reg [iM 18 7,iR 19 (.p (.un .not)) [(.t 18)]]) (iK [6,19] (.cond (.t 19) (.seq (.reg [iR 4 (.p .mv) [(.c .nils)],iR 5 (.p .mv) [(.c (.bool false))]]) (iK [4,5] (iK [4,5] .ret))) .skip))) (iK [6] (.seq (.reg [iR 8 (.p .mv) [(.c .nils)]]) (iK [6,8] (.seq (.reg [iR 9 (.p .mv) [(.c (.bool false))],iR 10 (.p .mv) [(iC 0)]]) (iK [6,8,9,10] (.seq (.seq (.reg [iR 11 (.p .mv) [(iC 0)]])
    (iK [6,8,9,10,11] (.block 0 (.loop (iK [6,8,9,10,11] (.seq (.seq (.reg [iM 20 11,iM 21 6,iR 22 (.p .lenS) [(.t 21)],iR 23 (iB .lss) [(.t 20),(.t 22)]]) (iK [6,8,9,10,11,23] (.cond (.t 23) .skip (iK [6,8,10] (.exit 0))))) (iK [6,8,9,10,11] (.seq (.block 1 (.block 2 (.seq (.reg [iM 27 6,iM 28 11,iR 29 (.p .strIndex) [(.t 27),(.t 28)],iR 30 (iB .eql) [(.t 29),(iU 34)],iM 26 30]) (iK [6,8,9,10,11,26] (.cond (.t 26) (.reg [iM 31 9,iR 32 (.p (.un .not)) [(.t 31)],iM 9 32]) (.seq (.reg [iM 34 9,iM 35 34,iN 36 35 true 6,iN 37 35 true 11,iG 38 35 true (.p .strIndex) [(.t 36),(.t 37)],
    iG 39 35 true (iB .eql) [(.t 38),(iU 92)],iR 40 (.p .pick) [(.t 35),(.t 39),(.c (.bool false))],iM 33 40]) (iK [6,8,9,10,11,33] (.cond (.t 33) (.reg [iM 41 11,iR 42 (iB .add) [(.t 41),(iC 1)],iM 11 42]) (.seq (.reg [iM 44 9,iR 45 (.p (.un .not)) [(.t 44)],iM 46 45,iN 47 46 true 6,iN 48 46 true 11,iG 49 46 true (.p .strIndex) [(.t 47),(.t 48)],iG 50 46 true (iB .eql) [(.t 49),(iU 44)],iR 51 (.p .pick) [(.t 46),(.t 50),(.c (.bool false))],iM 43 51]) (iK [6,8,9,10,11,43] (.cond (.t 43) (.seq (.reg [iM 52 8,iM 53 6,iM 54 10,iM 55 11,
    iR 56 (.p (.strSlice true true)) [(.t 53),(.t 54),(.t 55)],iR 57 (.call 68) [(.t 56),(.c (.str (bs [9,32])))],iR 58 (.e (.buildSlice 1 1 [(.str [])] [(0,1)])) [(.t 57)],iR 59 (.e (.append 1 16)) [(.t 52),(.t 58)],iM 8 59]) (iK [6,8,9,11] (.reg [iM 60 11,iR 61 (iB .add) [(.t 60),(iC 1)],iM 10 61]))) .skip))))))))))) (iK [6,8,9,10,11] (.reg [iM 24 11,iR 25 (iB .add) [(.t 24),(iC 1)],iM 11 25])))))))))) (iK [6,8,10] (.seq (.reg [iM 62 8,iM 63 6,iM 64 10,iR 65 (.p (.strSlice true false)) [(.t 63),(.t 64)],iR 66 (.call 68) [(.t 65),(.c (.str (bs [9,32])))],iR 67 (.e (.buildSlice 1 1 [(.str [])] [(0,1)])) [(.t 66)],iR 68 (.e (.append 1 16)) [(.t 62),(.t 67)],
    iM 4 68,iR 5 (.p .mv) [(.c (.bool true))]]) (iK [4,5] (iK [4,5] .ret))))))))))))))),[(.t 4),(.t 5)]⟩
def s_headers_Split_j0 (call : CallK) (N : Nat) (q : KV) (st : St) (τ : Tape) : Ans := match st with
  | ⟨fr,H⟩ => getK fr 6 fun t6 => getK fr 8 fun t8 => getK fr 10 fun t10 => someK (pStrSlice true false [t6,t10]) fun v6 => call f_strings_Trim [v6,(.str (bs [9,32]))] H τ fun v7 H8 τ9 => effK (eBuildSlice 1 1 [(.str [])] [(0,1)] [v7] H8 τ9) fun v10 H11 τ12 => effK (eAppend 1 16 [t8,v10] H11 τ12) fun v13 H14 τ15 => q (.tup [v13,(.bool true)]) H14 τ15
def s_headers_Split_j2 (call : CallK) (N : Nat) (k : KC) (st : St) (τ : Tape) : Ans := match st with
  | ⟨fr,H⟩ => getK fr 6 fun t6 => getK fr 8 fun t8 => getK fr 9 fun t9 => getK fr 10 fun t10 => getK fr 11 fun t11 => binK .add t11 (.int .i64 (.ofNat 1)) fun v18 => k .normal ⟨(T.set (T.set (T.set (T.set (T.set (T.set (T.set (T.set .leaf 6 t6) 8 t8) 9 t9) 10 t10) 11 t11) 24 t11) 25 v18) 11 v18),H⟩ τ
def s_headers_Split_l1 (call : CallK) (N : Nat) (st : St) (τ : Tape) (k : KC) : Ans := match st with
  | ⟨fr,H⟩ => getK fr 6 fun t6 => getK fr 8 fun t8 => getK fr 9 fun t9 => getK fr 10 fun t10 => getK fr 11 fun t11 => someK (pLenS [t6]) fun v16 => binK .lss t11 v16 fun v17 => condK v17 (someK (pStrIndex [t6,t11]) fun v19 => binK .eql v19 (.int .u8 (.ofNat 34)) fun v20 => condK v20 (unK .not t9 fun v21 => s_headers_Split_j2 call N k ⟨(T.set (T.set (T.set (T.set (T.set (T.set (T.set (T.set (T.set .leaf 6 t6) 8 t8) 9 t9) 10 t10) 11 t11) 26 v20) 31 t9) 32 v21) 9 v21),H⟩ τ) (gK t9 true (fun q' => q' t6 H τ) H τ fun v22 H23 τ24 => gK t9 true (fun q' => q' t11 H23 τ24) H23 τ24 fun v25 H26 τ27 => gK t9 true (fun q' => someK (pStrIndex [v22,v25]) fun v => q' v H26 τ27) H26 τ27 fun v28 H29 τ30 => gK t9 true (fun q' => binK .eql v28 (.int .u8 (.ofNat 92)) fun v => q' v H29 τ30) H29 τ30 fun v31 H32 τ33 => someK (pPick [t9,v31,(.bool false)]) fun v34 => condK v34
    (binK .add t11 (.int .i64 (.ofNat 1)) fun v35 => s_headers_Split_j2 call N k ⟨(T.set (T.set (T.set (T.set (T.set (T.set (T.set (T.set (T.set .leaf 6 t6) 8 t8) 9 t9) 10 t10) 11 t11) 33 v34) 41 t11) 42 v35) 11 v35),H32⟩ τ33) (unK .not t9 fun v36 => gK v36 true (fun q' => q' t6 H32 τ33) H32 τ33 fun v37 H38 τ39 => gK v36 true (fun q' => q' t11 H38 τ39) H38 τ39 fun v40 H41 τ42 => gK v36 true (fun q' => someK (pStrIndex [v37,v40]) fun v => q' v H41 τ42) H41 τ42 fun v43 H44 τ45 => gK v36 true (fun q' => binK .eql v43 (.int .u8 (.ofNat 44)) fun v => q' v H44 τ45) H44 τ45 fun v46 H47 τ48 => someK (pPick [v36,v46,(.bool false)]) fun v49 => condK v49 (someK (pStrSlice true true [t6,t10,t11]) fun v50 => call f_strings_Trim [v50,(.str (bs [9,32]))] H47 τ48 fun v51 H52 τ53 => effK (eBuildSlice 1 1 [(.str [])] [(0,1)] [v51] H52 τ53) fun v54 H55 τ56 =>
    effK (eAppend 1 16 [t8,v54] H55 τ56) fun v57 H58 τ59 => binK .add t11 (.int .i64 (.ofNat 1)) fun v60 => s_headers_Split_j2 call N k ⟨(T.set (T.set (T.set (T.set (T.set (T.set (T.set .leaf 6 t6) 8 v57) 9 t9) 11 t11) 60 t11) 61 v60) 10 v60),H58⟩ τ59) (s_headers_Split_j2 call N k ⟨(T.set (T.set (T.set (T.set (T.set (T.set .leaf 6 t6) 8 t8) 9 t9) 10 t10) 11 t11) 43 v49),H47⟩ τ48)))) (k (.exit 0) ⟨(T.set (T.set (T.set .leaf 6 t6) 8 t8) 10 t10),H⟩ τ)
def s_headers_Split (call : CallK) (N : Nat) (a0 a1 : V) (H : Heap) (τ : Tape) (q : KV) : Ans := call f_headers_Get [a0,a1] H τ fun v0 H1 τ2 => someK (pExtract 0 [v0]) fun v3 => someK (pExtract 1 [v0]) fun v4 => unK .not v4 fun v5 => condK v5 (q (.tup [.nils,(.bool false)]) H1 τ2) (loopK (s_headers_Split_l1 call N) N ⟨(T.set (T.set (T.set (T.set (T.set .leaf 6 v3) 8 .nils) 9 (.bool false)) 10 (.int .i64 (.ofNat 0))) 11 (.int .i64 (.ofNat 0))),H1⟩ τ2 (blockK 0 (seqK (s_headers_Split_j0 call N q) (endK [(.t 4),(.t 5)] q))))
theorem s_headers_Split_eq (call : CallK) (N : Nat) (a0 a1 : V) (H : Heap) (τ : Tape) (q : KV) : s_headers_Split call N a0 a1 H τ q = funK call N fn_headers_Split [a0, a1] H τ q := by kernel_rfl
def e_headers_Split (call : CallK) (N : Nat) (vs : List V) (H : Heap) (τ : Tape) (q : KV) : Ans := match vs with | [a0, a1] => s_headers_Split call N a0 a1 H τ q | _ => none
theorem e_headers_Split_ok : EntOk fn_headers_Split e_headers_Split := by
  intro call N vs H τ q r h
  unfold e_headers_Split at h
  split at h
  · rw [s_headers_Split_eq] at h; exact h
  · cases h
theorem e_headers_Split_nat : EntNat e_headers_Split := by
  intro c hn N vs H τ q
  unfold e_headers_Split
  split
  · rw [s_headers_Split_eq, s_headers_Split_eq]; exact funK_ent hn _ _ _ _ _ _
  · rfl
/-- slices.Index[[]string,string] -/
def fn_slices_Index_string : Fun := ⟨2,(.seq (.reg [iR 4 (.p .mv) [(iC 0)]]) (iK [0,1] (.seq (.seq (.reg [iM 6 0,iR 7 (.p .len) [(.t 6)],iR 8 (.p .mv) [(iC 0)]]) (iK [0,1,7,8] (.block 0 (.loop (iK [0,1,7,8] (.seq (.reg [iR 9 (iB .lss) [(.t 8),(.t 7)]]) (iK [0,1,7,8,9] (.seq (.cond (.t 9) .skip (iK [] (.exit 0))) (iK [0,1,7,8] (.seq (.block 1 (.seq (.reg [iM 10 8,iM 5 10]) (iK [0,1,5,7,8] (.seq (.reg [iM 11 1,iM 12 0,iM 13 5,iR 14 (.p (.slIdx 1)) [(.t 12),(.t 13)],iR 15 (.l (.load none)) [(.t 14)],iR 16 (iB .eql) [(.t 11),(.t 15)]]) (iK [0,1,5,7,8,16] (.cond (.t 16) (.seq (.reg [iM 17 5,iM 4 17]) (iK [4] (iK [4] .ret))) .skip))))))
    (iK [0,1,7,8] (.reg [iR 18 (iB .add) [(.t 8),(iC 1)],iM 8 18])))))))))))) (iK [] (.seq (.reg [iR 4 (.p .mv) [(.c (.int .i64 (.negSucc 0)))]]) (iK [4] (iK [4] .ret))))))),[(.t 4)]⟩
def s_slices_Index_string_j0 (call : CallK) (N : Nat) (q : KV) (st : St) (τ : Tape) : Ans := match st with
  | ⟨fr,H⟩ => q (.int .i64 (.negSucc 0)) H τ
def s_slices_Index_string_l1 (call : CallK) (N : Nat) (st : St) (τ : Tape) (k : KC) : Ans := match st with
  | ⟨fr,H⟩ => getK fr 0 fun t0 => getK fr 1 fun t1 => getK fr 7 fun t7 => getK fr 8 fun t8 => binK .lss t8 t7 fun v1 => condK v1 (someK (pSlIdx 1 [t0,t8]) fun v2 => someK (lLoad1 [v2] H) fun v3 => binK .eql t1 v3 fun v4 => condK v4 (k .ret ⟨(T.set .leaf 4 t8),H⟩ τ) (binK .add t8 (.int .i64 (.ofNat 1)) fun v5 => k .normal ⟨(T.set (T.set (T.set (T.set (T.set (T.set .leaf 0 t0) 1 t1) 7 t7) 8 t8) 18 v5) 8 v5),H⟩ τ)) (k (.exit 0) ⟨.leaf,H⟩ τ)
def s_slices_Index_string (call : CallK) (N : Nat) (a0 a1 : V) (H : Heap) (τ : Tape) (q : KV) : Ans := someK (pLen [a0]) fun v0 => loopK (s_slices_Index_string_l1 call N) N ⟨(T.set (T.set (T.set (T.set .leaf 0 a0) 1 a1) 7 v0) 8 (.int .i64 (.ofNat 0))),H⟩ τ (blockK 0 (seqK (s_slices_Index_string_j0 call N q) (endK [(.t 4)] q)))
theorem s_slices_Index_string_eq (call : CallK) (N : Nat) (a0 a1 : V) (H : Heap) (τ : Tape) (q : KV) : s_slices_Index_string call N a0 a1 H τ q = funK call N fn_slices_Index_string [a0, a1] H τ q := by kernel_rfl
def e_slices_Index_string (call : CallK) (N : Nat) (vs : List V) (H : Heap) (τ : Tape) (q : KV) : Ans := match vs with | [a0, a1] => s_slices_Index_string call N a0 a1 H τ q | _ => none
theorem e_slices_Index_string_ok : EntOk fn_slices_Index_string e_slices_Index_string := by
  intro call N vs H τ q r h
  unfold e_slices_Index_string at h
  split at h
  · rw [s_slices_Index_string_eq] at h; exact h
  · cases h
theorem e_slices_Index_string_nat : EntNat e_slices_Index_string := by
  intro c hn N vs H τ q
  unfold e_slices_Index_string
  split
  · rw [s_slices_Index_string_eq, s_slices_Index_string_eq]; exact funK_ent hn _ _ _ _ _ _
  · rfl
/-- strings.Trim -/
def fn_strings_Trim : Fun := ⟨2,(.seq (.reg [iR 4 (.p .mv) [(.c (.str []))]]) (iK [0,1] (.seq (.seq (.reg [iM 7 0,iR 8 (iB .eql) [(.t 7),(.c (.str []))],iM 9 8,iN 10 9 false 1,iG 11 9 false (iB .eql) [(.t 10),(.c (.str []))],iR 12 (.p .pick) [(.t 9),(.c (.bool true)),(.t 11)]]) (iK [0,1,12] (.cond (.t 12) (.seq (.reg [iM 13 0,iM 4 13]) (iK [4] (iK [4] .ret))) .skip))) (iK [0,1] (.seq (.seq (.reg [iM 14 1,iR 15 (.p .lenS) [(.t 14)],iR 16 (iB .eql) [(.t 15),(iC 1)],iM 17 16,iN 18 17 true 1,iG 19 17 true (.p .strIndex) [(.t 18),(iC 0)],iG 20 17 true (iB .lss) [(.t 19),(iU 128)],
    iR 21 (.p .pick) [(.t 17),(.t 20),(.c (.bool false))]]) (iK [0,1,21] (.cond (.t 21) (.seq (.draw [iM 22 0,iM 23 1,iR 24 (.p .strIndex) [(.t 23),(iC 0)],iR 25 (.call 88) [(.t 22),(.t 24)],iM 26 1,iR 27 (.p .strIndex) [(.t 26),(iC 0)],iR 28 (.call 87) [(.t 25),(.t 27)],iM 4 28]) (iK [4] (iK [4] .ret))) .skip))) (iK [0,1] (.seq (.seq (.reg [iM 30 1,iR 31 (.call 89) [(.t 30)],iM 29 31,iR 32 (.p (.extract 0)) [(.t 29)],iR 33 (.p (.extract 1)) [(.t 29)],iR 5 (.e (.alloc (repl 256 [(.bool false)]))) [],⟨none,none,(.e (.store 256)),[(.t 5),(.t 32)],none⟩,iM 6 33]) (iK [0,1,5,6] (.seq (.reg [iM 34 6]) (iK [0,1,5,34] (.cond (.t 34) (.seq (.reg [iM 35 0,
    iR 36 (.call 91) [(.t 35),(.t 5)],iR 37 (.call 90) [(.t 36),(.t 5)],iM 4 37]) (iK [4] (iK [4] .ret))) .skip))))) (iK [0,1] (.seq (.reg [iM 38 0,iM 39 1,iR 40 (.call 93) [(.t 38),(.t 39)],iM 41 1,iR 42 (.call 92) [(.t 40),(.t 41)],iM 4 42]) (iK [4] (iK [4] .ret))))))))))),[(.t 4)]⟩
def s_strings_Trim (call : CallK) (N : Nat) (a0 a1 : V) (H : Heap) (τ : Tape) (q : KV) : Ans := binK .eql a0 (.str []) fun v0 => gK v0 false (fun q' => q' a1 H τ) H τ fun v1 H2 τ3 => gK v0 false (fun q' => binK .eql v1 (.str []) fun v => q' v H2 τ3) H2 τ3 fun v4 H5 τ6 => someK (pPick [v0,(.bool true),v4]) fun v7 => condK v7 (q a0 H5 τ6) (someK (pLenS [a1]) fun v8 => binK .eql v8 (.int .i64 (.ofNat 1)) fun v9 => gK v9 true (fun q' => q' a1 H5 τ6) H5 τ6 fun v10 H11 τ12 => gK v9 true (fun q' => someK (pStrIndex [v10,(.int .i64 (.ofNat 0))]) fun v => q' v H11 τ12) H11 τ12 fun v13 H14 τ15 => gK v9 true (fun q' => binK .lss v13 (.int .u8 (.ofNat 128)) fun v => q' v H14 τ15) H14 τ15 fun v16 H17 τ18 => someK (pPick [v9,v16,(.bool false)]) fun v19 => condK v19 (someK (pStrIndex [a1,(.int .i64 (.ofNat 0))]) fun v20 => call f_strings_trimRightByte [a0,v20] H17 τ18 fun v21 H22 τ23 =>
    someK (pStrIndex [a1,(.int .i64 (.ofNat 0))]) fun v24 => call f_strings_trimLeftByte [v21,v24] H22 τ23 fun v25 H26 τ27 => q v25 H26 τ27) (call f_strings_makeASCIISet [a1] H17 τ18 fun v28 H29 τ30 => someK (pExtract 0 [v28]) fun v31 => someK (pExtract 1 [v28]) fun v32 => effK (eAlloc (repl 256 [(.bool false)]) [] H29 τ30) fun v33 H34 τ35 => effK (eStore 256 [v33,v31] H34 τ35) fun v36 H37 τ38 => condK v32 (call f_strings_trimRightASCII [a0,v33] H37 τ38 fun v39 H40 τ41 => call f_strings_trimLeftASCII [v39,v33] H40 τ41 fun v42 H43 τ44 => q v42 H43 τ44) (call f_strings_trimRightUnicode [a0,a1] H37 τ38 fun v45 H46 τ47 => call f_strings_trimLeftUnicode [v45,a1] H46 τ47 fun v48 H49 τ50 => q v48 H49 τ50)))
theorem s_strings_Trim_eq (call : CallK) (N : Nat) (a0 a1 : V) (H : Heap) (τ : Tape) (q : KV) : s_strings_Trim call N a0 a1 H τ q = funK call N fn_strings_Trim [a0, a1] H τ q := by kernel_rfl
def e_strings_Trim (call : CallK) (N : Nat) (vs : List V) (H : Heap) (τ : Tape) (q : KV) : Ans := match vs with | [a0, a1] => s_strings_Trim call N a0 a1 H τ q | _ => none
theorem e_strings_Trim_ok : EntOk fn_strings_Trim e_strings_Trim := by
  intro call N vs H τ q r h
  unfold e_strings_Trim at h
  split at h
  · rw [s_strings_Trim_eq] at h; exact h
  · cases h
theorem e_strings_Trim_nat : EntNat e_strings_Trim := by
  intro c hn N vs H τ q
  unfold e_strings_Trim
  split
  · rw [s_strings_Trim_eq, s_strings_Trim_eq]; exact funK_ent hn _ _ _ _ _ _
  · rfl
/-- strings.trimLeftByte -/
def fn_strings_trimLeftByte : Fun := ⟨2,(.seq (.reg [iR 4 (.p .mv) [(.c (.str []))]]) (iK [0,1] (.seq (.block 0 (.loop (iK [0,1] (.seq (.seq (.reg [iM 5 0,iR 6 (.p .lenS) [(.t 5)],iR 7 (iB .gtr) [(.t 6),(iC 0)],iM 8 7,iN 9 8 true 0,iG 10 8 true (.p .strIndex) [(.t 9),(iC 0)],iN 11 8 true 1,iG 12 8 true (iB .eql) [(.t 10),(.t 11)],iR 13 (.p .pick) [(.t 8),(.t 12),(.c (.bool false))]]) (iK [0,1,13] (.cond (.t 13) .skip (iK [0] (.exit 0))))) (iK [0,1] (.block 1 (.reg [iM 14 0,iR 15 (.p (.strSlice true false)) [(.t 14),(iC 1)],iM 0 15]))))))) (iK [0] (.seq (.reg [iM 16 0,iM 4 16]) (iK [4] (iK [4] .ret))))))),[(.t 4)]⟩
/-- strings.trimRightByte -/
def fn_strings_trimRightByte : Fun := ⟨2,(.seq (.reg [iR 4 (.p .mv) [(.c (.str []))]]) (iK [0,1] (.seq (.block 0 (.loop (iK [0,1] (.seq (.seq (.reg [iM 5 0,iR 6 (.p .lenS) [(.t 5)],iR 7 (iB .gtr) [(.t 6),(iC 0)],iM 8 7,iN 9 8 true 0,iN 10 8 true 0,iG 11 8 true (.p .lenS) [(.t 10)],iG 12 8 true (iB .sub) [(.t 11),(iC 1)],iG 13 8 true (.p .strIndex) [(.t 9),(.t 12)],iN 14 8 true 1,iG 15 8 true (iB .eql) [(.t 13),(.t 14)],iR 16 (.p .pick) [(.t 8),(.t 15),(.c (.bool false))]]) (iK [0,1,16] (.cond (.t 16) .skip (iK [0] (.exit 0))))) (iK [0,1] (.block 1 (.reg [iM 17 0,iM 18 0,iR 19 (.p .lenS) [(.t 18)],iR 20 (iB .sub) [(.t 19),(iC 1)],
    iR 21 (.p (.strSlice false true)) [(.t 17),(.t 20)],iM 0 21]))))))) (iK [0] (.seq (.reg [iM 22 0,iM 4 22]) (iK [4] (iK [4] .ret))))))),[(.t 4)]⟩
/-- strings.makeASCIISet -/
def fn_strings_makeASCIISet : Fun := ⟨1,(.seq (.reg [iR 2 (.e (.alloc (repl 256 [(.bool false)]))) [],iR 3 (.p .mv) [(.c (.bool false))]]) (iK [0,2] (.seq (.seq (.reg [iR 4 (.p .mv) [(iC 0)]]) (iK [0,2,4] (.block 0 (.loop (iK [0,2,4] (.seq (.seq (.reg [iM 6 4,iM 7 0,iR 8 (.p .lenS) [(.t 7)],iR 9 (iB .lss) [(.t 6),(.t 8)]]) (iK [0,2,4,9] (.cond (.t 9) .skip (iK [2] (.exit 0))))) (iK [0,2,4] (.seq (.block 1 (.seq (.reg [iM 12 0,iM 13 4,iR 14 (.p .strIndex) [(.t 12),(.t 13)],iM 5 14]) (iK [0,2,4,5] (.seq (.seq (.reg [iM 15 5,iR 16 (iB .geq) [(.t 15),(iU 128)]]) (iK [0,2,4,5,16] (.cond (.t 16) (.seq (.reg [iR 17 (.l (.load (some 256))) [(.t 2)],
    ⟨none,none,(.e (.store 256)),[(.t 2),(.t 17)],none⟩,iR 3 (.p .mv) [(.c (.bool false))]]) (iK [2,3] (iK [2,3] .ret))) .skip))) (iK [0,2,4,5] (.reg [iM 18 5,iR 19 (.p (.arrIdx 256 1)) [(.t 2),(.t 18)],⟨none,none,(.e (.store 1)),[(.t 19),(.c (.bool true))],none⟩])))))) (iK [0,2,4] (.reg [iM 10 4,iR 11 (iB .add) [(.t 10),(iC 1)],iM 4 11])))))))))) (iK [2] (.seq (.reg [iR 20 (.l (.load (some 256))) [(.t 2)],⟨none,none,(.e (.store 256)),[(.t 2),(.t 20)],none⟩,iR 3 (.p .mv) [(.c (.bool true))]]) (iK [2,3] (iK [2,3] .ret))))))),[(.cell 2 (some 256)),(.t 3)]⟩
def s_strings_makeASCIISet_j0 (call : CallK) (N : Nat) (q : KV) (st : St) (τ : Tape) : Ans := match st with
  | ⟨fr,H⟩ => getK fr 2 fun t2 => someK (lLoadN 256 [t2] H) fun v3 => effK (eStore 256 [t2,v3] H τ) fun v4 H5 τ6 => someK (results ⟨(T.set (T.set .leaf 2 t2) 3 (.bool true)),H5⟩ [(.cell 2 (some 256)),(.t 3)]) fun v => q v H5 τ6
def s_strings_makeASCIISet_l1 (call : CallK) (N : Nat) (st : St) (τ : Tape) (k : KC) : Ans := match st with
  | ⟨fr,H⟩ => getK fr 0 fun t0 => getK fr 2 fun t2 => getK fr 4 fun t4 => someK (pLenS [t0]) fun v7 => binK .lss t4 v7 fun v8 => condK v8 (someK (pStrIndex [t0,t4]) fun v9 => binK .geq v9 (.int .u8 (.ofNat 128)) fun v10 => condK v10 (someK (lLoadN 256 [t2] H) fun v11 => effK (eStore 256 [t2,v11] H τ) fun v12 H13 τ14 => k .ret ⟨(T.set (T.set .leaf 2 t2) 3 (.bool false)),H13⟩ τ14) (someK (pArrIdx 256 1 [t2,v9]) fun v15 => effK (eStore 1 [v15,(.bool true)] H τ) fun v16 H17 τ18 => binK .add t4 (.int .i64 (.ofNat 1)) fun v19 => k .normal ⟨(T.set (T.set (T.set (T.set (T.set (T.set .leaf 0 t0) 2 t2) 4 t4) 10 t4) 11 v19) 4 v19),H17⟩ τ18)) (k (.exit 0) ⟨(T.set .leaf 2 t2),H⟩ τ)
def s_strings_makeASCIISet (call : CallK) (N : Nat) (a0 : V) (H : Heap) (τ : Tape) (q : KV) : Ans := effK (eAlloc (repl 256 [(.bool false)]) [] H τ) fun v0 H1 τ2 => loopK (s_strings_makeASCIISet_l1 call N) N ⟨(T.set (T.set (T.set .leaf 0 a0) 2 v0) 4 (.int .i64 (.ofNat 0))),H1⟩ τ2 (blockK 0 (seqK (s_strings_makeASCIISet_j0 call N q) (endK [(.cell 2 (some 256)),(.t 3)] q)))
theorem s_strings_makeASCIISet_eq (call : CallK) (N : Nat) (a0 : V) (H : Heap) (τ : Tape) (q : KV) : s_strings_makeASCIISet call N a0 H τ q = funK call N fn_strings_makeASCIISet [a0] H τ q := by kernel_rfl
def e_strings_makeASCIISet (call : CallK) (N : Nat) (vs : List V) (H : Heap) (τ : Tape) (q : KV) : Ans := match vs with | [a0] => s_strings_makeASCIISet call N a0 H τ q | _ => none
theorem e_strings_makeASCIISet_ok : EntOk fn_strings_makeASCIISet e_strings_makeASCIISet := by
  intro call N vs H τ q r h
  unfold e_strings_makeASCIISet at h
  split at h
  · rw [s_strings_makeASCIISet_eq] at h; exact h
  · cases h
theorem e_strings_makeASCIISet_nat : EntNat e_strings_makeASCIISet := by
  intro c hn N vs H τ q
  unfold e_strings_makeASCIISet
  split
  · rw [s_strings_makeASCIISet_eq, s_strings_makeASCIISet_eq]; exact funK_ent hn _ _ _ _ _ _
  · rfl
/-- strings.trimLeftASCII -/
def fn_strings_trimLeftASCII : Fun := ⟨2,(.seq (.reg [iR 4 (.p .mv) [(.c (.str []))]]) (iK [0,1] (.seq (.block 0 (.loop (iK [0,1] (.seq (.seq (.reg [iM 5 0,iR 6 (.p .lenS) [(.t 5)],iR 7 (iB .gtr) [(.t 6),(iC 0)]]) (iK [0,1,7] (.cond (.t 7) .skip (iK [0] (.exit 0))))) (iK [0,1] (.block 1 (.seq (.seq (.reg [iM 8 1,iM 9 0,iR 10 (.p .strIndex) [(.t 9),(iC 0)],iR 11 (.call 107) [(.t 8),(.t 10)],iR 12 (.p (.un .not)) [(.t 11)]]) (iK [0,1,12] (.cond (.t 12) (iK [0] (.exit 0)) .skip))) (iK [0,1] (.reg [iM 13 0,iR 14 (.p (.strSlice true false)) [(.t 13),(iC 1)],iM 0 14]))))))))) (iK [0] (.seq (.reg [iM 15 0,iM 4 15]) (iK [4] (iK [4] .ret))))))),[(.t 4)]⟩
def s_strings_trimLeftASCII_j0 (call : CallK) (N : Nat) (q : KV) (st : St) (τ : Tape) : Ans := match st with
  | ⟨fr,H⟩ => getK fr 0 fun t0 => q t0 H τ
def s_strings_trimLeftASCII_l1 (call : CallK) (N : Nat) (st : St) (τ : Tape) (k : KC) : Ans := match st with
  | ⟨fr,H⟩ => getK fr 0 fun t0 => getK fr 1 fun t1 => someK (pLenS [t0]) fun v0 => binK .gtr v0 (.int .i64 (.ofNat 0)) fun v1 => condK v1 (someK (pStrIndex [t0,(.int .i64 (.ofNat 0))]) fun v2 => call f_asciiSet_contains [t1,v2] H τ fun v3 H4 τ5 => unK .not v3 fun v6 => condK v6 (k (.exit 0) ⟨(T.set .leaf 0 t0),H4⟩ τ5) (someK (pStrSlice true false [t0,(.int .i64 (.ofNat 1))]) fun v7 => k .normal ⟨(T.set (T.set (T.set (T.set (T.set .leaf 0 t0) 1 t1) 13 t0) 14 v7) 0 v7),H4⟩ τ5)) (k (.exit 0) ⟨(T.set .leaf 0 t0),H⟩ τ)
def s_strings_trimLeftASCII (call : CallK) (N : Nat) (a0 a1 : V) (H : Heap) (τ : Tape) (q : KV) : Ans := loopK (s_strings_trimLeftASCII_l1 call N) N ⟨(T.set (T.set .leaf 0 a0) 1 a1),H⟩ τ (blockK 0 (seqK (s_strings_trimLeftASCII_j0 call N q) (endK [(.t 4)] q)))
theorem s_strings_trimLeftASCII_eq (call : CallK) (N : Nat) (a0 a1 : V) (H : Heap) (τ : Tape) (q : KV) : s_strings_trimLeftASCII call N a0 a1 H τ q = funK call N fn_strings_trimLeftASCII [a0, a1] H τ q := by kernel_rfl
def e_strings_trimLeftASCII (call : CallK) (N : Nat) (vs : List V) (H : Heap) (τ : Tape) (q : KV) : Ans := match vs with | [a0, a1] => s_strings_trimLeftASCII call N a0 a1 H τ q | _ => none
theorem e_strings_trimLeftASCII_ok : EntOk fn_strings_trimLeftASCII e_strings_trimLeftASCII := by
  intro call N vs H τ q r h
  unfold e_strings_trimLeftASCII at h
  split at h
  · rw [s_strings_trimLeftASCII_eq] at h; exact h
  · cases h
theorem e_strings_trimLeftASCII_nat : EntNat e_strings_trimLeftASCII := by
  intro c hn N vs H τ q
  unfold e_strings_trimLeftASCII
  split
  · rw [s_strings_trimLeftASCII_eq, s_strings_trimLeftASCII_eq]; exact funK_ent hn _ _ _ _ _ _
  · rfl
/-- strings.trimRightASCII -/
def fn_strings_trimRightASCII : Fun := ⟨2,(.seq (.reg [iR 4 (.p .mv) [(.c (.str []))]]) (iK [0,1] (.seq (.block 0 (.loop (iK [0,1] (.seq (.seq (.reg [iM 5 0,iR 6 (.p .lenS) [(.t 5)],iR 7 (iB .gtr) [(.t 6),(iC 0)]]) (iK [0,1,7] (.cond (.t 7) .skip (iK [0] (.exit 0))))) (iK [0,1] (.block 1 (.seq (.seq (.reg [iM 8 1,iM 9 0,iM 10 0,iR 11 (.p .lenS) [(.t 10)],iR 12 (iB .sub) [(.t 11),(iC 1)],iR 13 (.p .strIndex) [(.t 9),(.t 12)],iR 14 (.call 107) [(.t 8),(.t 13)],iR 15 (.p (.un .not)) [(.t 14)]]) (iK [0,1,15] (.cond (.t 15) (iK [0] (.exit 0)) .skip))) (iK [0,1] (.reg [iM 16 0,iM 17 0,iR 18 (.p .lenS) [(.t 17)],iR 19 (iB .sub) [(.t 18),(iC 1)],
    iR 20 (.p (.strSlice false true)) [(.t 16),(.t 19)],iM 0 20]))))))))) (iK [0] (.seq (.reg [iM 21 0,iM 4 21]) (iK [4] (iK [4] .ret))))))),[(.t 4)]⟩
def s_strings_trimRightASCII_j0 (call : CallK) (N : Nat) (q : KV) (st : St) (τ : Tape) : Ans := match st with
  | ⟨fr,H⟩ => getK fr 0 fun t0 => q t0 H τ
def s_strings_trimRightASCII_l1 (call : CallK) (N : Nat) (st : St) (τ : Tape) (k : KC) : Ans := match st with
  | ⟨fr,H⟩ => getK fr 0 fun t0 => getK fr 1 fun t1 => someK (pLenS [t0]) fun v0 => binK .gtr v0 (.int .i64 (.ofNat 0)) fun v1 => condK v1 (someK (pLenS [t0]) fun v2 => binK .sub v2 (.int .i64 (.ofNat 1)) fun v3 => someK (pStrIndex [t0,v3]) fun v4 => call f_asciiSet_contains [t1,v4] H τ fun v5 H6 τ7 => unK .not v5 fun v8 => condK v8 (k (.exit 0) ⟨(T.set .leaf 0 t0),H6⟩ τ7) (someK (pLenS [t0]) fun v9 => binK .sub v9 (.int .i64 (.ofNat 1)) fun v10 => someK (pStrSlice false true [t0,v10]) fun v11 => k .normal ⟨(T.set (T.set (T.set (T.set (T.set (T.set (T.set (T.set .leaf 0 t0) 1 t1) 16 t0) 17 t0) 18 v9) 19 v10) 20 v11) 0 v11),H6⟩ τ7)) (k (.exit 0) ⟨(T.set .leaf 0 t0),H⟩ τ)
def s_strings_trimRightASCII (call : CallK) (N : Nat) (a0 a1 : V) (H : Heap) (τ : Tape) (q : KV) : Ans := loopK (s_strings_trimRightASCII_l1 call N) N ⟨(T.set (T.set .leaf 0 a0) 1 a1),H⟩ τ (blockK 0 (seqK (s_strings_trimRightASCII_j0 call N q) (endK [(.t 4)] q)))
theorem s_strings_trimRightASCII_eq (call : CallK) (N : Nat) (a0 a1 : V) (H : Heap) (τ : Tape) (q : KV) : s_strings_trimRightASCII call N a0 a1 H τ q = funK call N fn_strings_trimRightASCII [a0, a1] H τ q := by kernel_rfl
def e_strings_trimRightASCII (call : CallK) (N : Nat) (vs : List V) (H : Heap) (τ : Tape) (q : KV) : Ans := match vs with | [a0, a1] => s_strings_trimRightASCII call N a0 a1 H τ q | _ => none
theorem e_strings_trimRightASCII_ok : EntOk fn_strings_trimRightASCII e_strings_trimRightASCII := by
  intro call N vs H τ q r h
  unfold e_strings_trimRightASCII at h
  split at h
  · rw [s_strings_trimRightASCII_eq] at h; exact h
  · cases h
theorem e_strings_trimRightASCII_nat : EntNat e_strings_trimRightASCII := by
  intro c hn N vs H τ q
  unfold e_strings_trimRightASCII
  split
  · rw [s_strings_trimRightASCII_eq, s_strings_trimRightASCII_eq]; exact funK_ent hn _ _ _ _ _ _
  · rfl
/-- strings.trimLeftUnicode -/
def fn_strings_trimLeftUnicode : Fun := ⟨2,(.seq (.reg [iR 4 (.p .mv) [(.c (.str []))]]) (iK [0,1] (.seq (.block 0 (.loop (iK [0,1] (.seq (.seq (.reg [iM 7 0,iR 8 (.p .lenS) [(.t 7)],iR 9 (iB .gtr) [(.t 8),(iC 0)]]) (iK [0,1,9] (.cond (.t 9) .skip (iK [0] (.exit 0))))) (iK [0,1] (.block 1 (.seq (.reg [iM 11 0,iR 12 (.call 108) [(.t 11)],iM 10 12,iR 13 (.p (.extract 0)) [(.t 10)],iR 14 (.p (.extract 1)) [(.t 10)],iM 5 13,iM 6 14]) (iK [0,1,5,6] (.seq (.seq (.reg [iM 15 1,iM 16 5,iR 17 (.call 109) [(.t 15),(.t 16)],iR 18 (.p (.un .not)) [(.t 17)]]) (iK [0,1,6,18] (.cond (.t 18) (iK [0] (.exit 0)) .skip))) (iK [0,1,6] (.reg [iM 19 0,iM 20 6,
    iR 21 (.p (.strSlice true false)) [(.t 19),(.t 20)],iM 0 21]))))))))))) (iK [0] (.seq (.reg [iM 22 0,iM 4 22]) (iK [4] (iK [4] .ret))))))),[(.t 4)]⟩
/-- strings.trimRightUnicode -/
def fn_strings_trimRightUnicode : Fun := ⟨2,(.seq (.reg [iR 4 (.p .mv) [(.c (.str []))]]) (iK [0,1] (.seq (.block 0 (.loop (iK [0,1] (.seq (.seq (.reg [iM 7 0,iR 8 (.p .lenS) [(.t 7)],iR 9 (iB .gtr) [(.t 8),(iC 0)]]) (iK [0,1,9] (.cond (.t 9) .skip (iK [0] (.exit 0))))) (iK [0,1] (.block 1 (.seq (.reg [iM 10 0,iM 11 0,iR 12 (.p .lenS) [(.t 11)],iR 13 (iB .sub) [(.t 12),(iC 1)],iR 14 (.p .strIndex) [(.t 10),(.t 13)],iR 15 (.p (.toInt .i32)) [(.t 14)],iM 5 15,iR 6 (.p .mv) [(iC 1)]]) (iK [0,1,5,6] (.seq (.seq (.reg [iM 16 5,iR 17 (iB .geq) [(.t 16),(.c (.int .i32 (.ofNat 128)))]]) (iK [0,1,5,6,17] (.cond (.t 17) (.reg [iM 19 0,iR 20 (.call 110) [(.t 19)],
    iM 18 20,iR 21 (.p (.extract 0)) [(.t 18)],iR 22 (.p (.extract 1)) [(.t 18)],iM 5 21,iM 6 22]) .skip))) (iK [0,1,5,6] (.seq (.seq (.reg [iM 23 1,iM 24 5,iR 25 (.call 109) [(.t 23),(.t 24)],iR 26 (.p (.un .not)) [(.t 25)]]) (iK [0,1,6,26] (.cond (.t 26) (iK [0] (.exit 0)) .skip))) (iK [0,1,6] (.reg [iM 27 0,iM 28 0,iR 29 (.p .lenS) [(.t 28)],iM 30 6,iR 31 (iB .sub) [(.t 29),(.t 30)],iR 32 (.p (.strSlice false true)) [(.t 27),(.t 31)],iM 0 32]))))))))))))) (iK [0] (.seq (.reg [iM 33 0,iM 4 33]) (iK [4] (iK [4] .ret))))))),[(.t 4)]⟩
/-- (*strings.asciiSet).contains -/
def fn_asciiSet_contains : Fun := ⟨2,(.seq (.reg [iR 4 (.p .mv) [(.c (.bool false))]]) (iK [0,1] (.seq (.reg [iM 5 0,iM 6 1,iR 7 (.p .nilck) [(.t 5)],iR 8 (.p (.arrIdx 256 1)) [(.t 7),(.t 6)],iR 9 (.l (.load none)) [(.t 8)],iM 4 9]) (iK [4] (iK [4] .ret))))),[(.t 4)]⟩
def s_asciiSet_contains (call : CallK) (N : Nat) (a0 a1 : V) (H : Heap) (τ : Tape) (q : KV) : Ans := someK (pNilck [a0]) fun v0 => someK (pArrIdx 256 1 [v0,a1]) fun v1 => someK (lLoad1 [v1] H) fun v2 => q v2 H τ
theorem s_asciiSet_contains_eq (call : CallK) (N : Nat) (a0 a1 : V) (H : Heap) (τ : Tape) (q : KV) : s_asciiSet_contains call N a0 a1 H τ q = funK call N fn_asciiSet_contains [a0, a1] H τ q := by kernel_rfl
def e_asciiSet_contains (call : CallK) (N : Nat) (vs : List V) (H : Heap) (τ : Tape) (q : KV) : Ans := match vs with | [a0, a1] => s_asciiSet_contains call N a0 a1 H τ q | _ => none
theorem e_asciiSet_contains_ok : EntOk fn_asciiSet_contains e_asciiSet_contains := by
  intro call N vs H τ q r h
  unfold e_asciiSet_contains at h
  split at h
  · rw [s_asciiSet_contains_eq] at h; exact h
  · cases h
theorem e_asciiSet_contains_nat : EntNat e_asciiSet_contains := by
  intro c hn N vs H τ q
  unfold e_asciiSet_contains
  split
  · rw [s_asciiSet_contains_eq, s_asciiSet_contains_eq]; exact funK_ent hn _ _ _ _ _ _
  · rfl
/-- unicode/utf8.DecodeRuneInString -/
def fn_utf8_DecodeRuneInString : Fun := ⟨1,(.seq (.reg [iR 2 (.p .mv) [(.c (.int .i32 (.ofNat 0)))],iR 3 (.p .mv) [(iC 0)]]) (iK [0] (.seq (.seq (.reg [iM 4 0,iR 5 (iB .neq) [(.t 4),(.c (.str []))],iM 6 5,iN 7 6 true 0,iG 8 6 true (.p .strIndex) [(.t 7),(iC 0)],iG 9 6 true (iB .lss) [(.t 8),(iU 128)],iR 10 (.p .pick) [(.t 6),(.t 9),(.c (.bool false))]]) (iK [0,10] (.cond (.t 10) (.seq (.reg [iM 11 0,iR 12 (.p .strIndex) [(.t 11),(iC 0)],iR 13 (.p (.toInt .i32)) [(.t 12)],iM 2 13,iR 3 (.p .mv) [(iC 1)]]) (iK [2,3] (iK [2,3] .ret))) (.reg [iM 15 0,iR 16 (.call 123) [(.t 15)],iM 14 16,iR 17 (.p (.extract 0)) [(.t 14)],
    iR 18 (.p (.extract 1)) [(.t 14)],iM 2 17,iM 3 18])))) (iK [2,3] (iK [2,3] .ret))))),[(.t 2),(.t 3)]⟩
/-- strings.ContainsRune -/
def fn_strings_ContainsRune : Fun := ⟨2,(.seq (.reg [iR 4 (.p .mv) [(.c (.bool false))]]) (iK [0,1] (.seq (.reg [iM 5 0,iM 6 1,iR 7 (.call 124) [(.t 5),(.t 6)],iR 8 (iB .geq) [(.t 7),(iC 0)],iM 4 8]) (iK [4] (iK [4] .ret))))),[(.t 4)]⟩
/-- unicode/utf8.DecodeLastRuneInString -/
def fn_utf8_DecodeLastRuneInString : Fun := ⟨1,(.seq (.reg [iR 2 (.p .mv) [(.c (.int .i32 (.ofNat 0)))],iR 3 (.p .mv) [(iC 0)]]) (iK [0] (.seq (.reg [iM 7 0,iR 8 (.p .lenS) [(.t 7)],iM 4 8]) (iK [0,4] (.seq (.seq (.reg [iM 9 4,iR 10 (iB .eql) [(.t 9),(iC 0)]]) (iK [0,4,10] (.cond (.t 10) (.seq (.reg [iR 2 (.p .mv) [(.c (.int .i32 (.ofNat 65533)))],iR 3 (.p .mv) [(iC 0)]]) (iK [2,3] (iK [2,3] .ret))) .skip))) (iK [0,4] (.seq (.reg [iM 11 4,iR 12 (iB .sub) [(.t 11),(iC 1)],iM 5 12]) (iK [0,4,5] (.seq (.reg [iM 13 0,iM 14 5,iR 15 (.p .strIndex) [(.t 13),(.t 14)],iR 16 (.p (.toInt .i32)) [(.t 15)],iM 2 16])
    (iK [0,2,4,5] (.seq (.seq (.reg [iM 17 2,iR 18 (iB .lss) [(.t 17),(.c (.int .i32 (.ofNat 128)))]]) (iK [0,2,4,5,18] (.cond (.t 18) (.seq (.reg [iM 19 2,iM 2 19,iR 3 (.p .mv) [(iC 1)]]) (iK [2,3] (iK [2,3] .ret))) .skip))) (iK [0,4,5] (.seq (.reg [iM 20 4,iR 21 (iB .sub) [(.t 20),(iC 4)],iR 22 (.p .max2) [(.t 21),(iC 0)],iM 6 22]) (iK [0,4,5,6] (.seq (.seq (.reg [iM 23 5,iR 24 (iB .sub) [(.t 23),(iC 1)],iM 5 24]) (iK [0,4,5,6] (.block 0 (.loop (iK [0,4,5,6] (.seq (.seq (.reg [iM 25 5,iM 26 6,iR 27 (iB .geq) [(.t 25),(.t 26)]]) (iK [0,4,5,6,27] (.cond (.t 27) .skip
    (iK [0,4,5] (.exit 0))))) (iK [0,4,5,6] (.seq (.block 1 (.seq (.reg [iM 30 0,iM 31 5,iR 32 (.p .strIndex) [(.t 30),(.t 31)],iR 33 (.call 125) [(.t 32)]]) (iK [0,4,5,6,33] (.cond (.t 33) (iK [0,4,5] (.exit 0)) .skip)))) (iK [0,4,5,6] (.reg [iM 28 5,iR 29 (iB .sub) [(.t 28),(iC 1)],iM 5 29])))))))))) (iK [0,4,5] (.seq (.seq (.reg [iM 34 5,iR 35 (iB .lss) [(.t 34),(iC 0)]]) (iK [0,4,5,35] (.cond (.t 35) (.reg [iR 5 (.p .mv) [(iC 0)]]) .skip))) (iK [0,4,5] (.seq (.reg [iM 37 0,iM 38 5,iM 39 4,iR 40 (.p (.strSlice true true)) [(.t 37),(.t 38),(.t 39)],iR 41 (.call 108) [(.t 40)],iM 36 41,
    iR 42 (.p (.extract 0)) [(.t 36)],iR 43 (.p (.extract 1)) [(.t 36)],iM 2 42,iM 3 43]) (iK [2,3,4,5] (.seq (.seq (.reg [iM 44 5,iM 45 3,iR 46 (iB .add) [(.t 44),(.t 45)],iM 47 4,iR 48 (iB .neq) [(.t 46),(.t 47)]]) (iK [2,3,48] (.cond (.t 48) (.seq (.reg [iR 2 (.p .mv) [(.c (.int .i32 (.ofNat 65533)))],iR 3 (.p .mv) [(iC 1)]]) (iK [2,3] (iK [2,3] .ret))) .skip))) (iK [2,3] (.seq (.reg [iM 49 2,iM 50 3,iM 2 49,iM 3 50]) (iK [2,3] (iK [2,3] .ret))))))))))))))))))))))))),[(.t 2),(.t 3)]⟩
/-- unicode/utf8.decodeRuneInStringSlow -/
def fn_utf8_decodeRuneInStringSlow : Fun := ⟨1,(.seq (.reg [iR 2 (.p .mv) [(.c (.int .i32 (.ofNat 0)))],iR 3 (.p .mv) [(iC 0)]]) (iK [0] (.seq (.reg [iM 13 0,iR 14 (.p .lenS) [(.t 13)],iM 4 14]) (iK [0,4] (.seq (.seq (.reg [iM 15 4,iR 16 (iB .lss) [(.t 15),(iC 1)]]) (iK [0,4,16] (.cond (.t 16) (.seq (.reg [iR 2 (.p .mv) [(.c (.int .i32 (.ofNat 65533)))],iR 3 (.p .mv) [(iC 0)]]) (iK [2,3] (iK [2,3] .ret))) .skip))) (iK [0,4] (.seq (.reg [iM 17 0,iR 18 (.p .strIndex) [(.t 17),(iC 0)],iM 5 18]) (iK [0,4,5] (.seq (.reg [iM 19 5,iR 20 (.p (.arrIdx 256 1)) [(.c (.ptr 2 0)),(.t 19)],iR 21 (.l (.load none)) [(.t 20)],iM 6 21])
    (iK [0,4,5,6] (.seq (.seq (.reg [iM 22 6,iR 23 (iB .geq) [(.t 22),(iU 240)]]) (iK [0,4,5,6,23] (.cond (.t 23) (.seq (.reg [iM 24 6,iR 25 (.p (.toInt .i32)) [(.t 24)],iR 26 (iB .shl) [(.t 25),(.c (.int .u64 (.ofNat 31)))],iR 27 (iB .shr) [(.t 26),(.c (.int .u64 (.ofNat 31)))],iM 7 27]) (iK [0,7] (.seq (.reg [iM 28 0,iR 29 (.p .strIndex) [(.t 28),(iC 0)],iR 30 (.p (.toInt .i32)) [(.t 29)],iM 31 7,iR 32 (iB .andNot) [(.t 30),(.t 31)],iM 33 7,iR 34 (iB .and) [(.c (.int .i32 (.ofNat 65533))),(.t 33)],iR 35 (iB .or) [(.t 32),(.t 34)],iM 2 35,iR 3 (.p .mv) [(iC 1)]]) (iK [2,3] (iK [2,3] .ret))))) .skip)))
    (iK [0,4,5,6] (.seq (.reg [iM 36 6,iR 37 (iB .and) [(.t 36),(iU 7)],iR 38 (.p (.toInt .i64)) [(.t 37)],iM 8 38]) (iK [0,4,5,6,8] (.seq (.reg [iM 39 6,iR 40 (iB .shr) [(.t 39),(.c (.int .u64 (.ofNat 4)))],iR 41 (.p (.arrIdx 16 2)) [(.c (.ptr 3 0)),(.t 40)],iR 42 (.l (.load (some 2))) [(.t 41)],iR 9 (.e (.alloc [(.int .u8 (.ofNat 0)),(.int .u8 (.ofNat 0))])) [],⟨none,none,(.e (.store 2)),[(.t 9),(.t 42)],none⟩]) (iK [0,4,5,8,9] (.seq (.seq (.reg [iM 43 4,iM 44 8,iR 45 (iB .lss) [(.t 43),(.t 44)]]) (iK [0,5,8,9,45] (.cond (.t 45) (.seq (.reg [iR 2 (.p .mv) [(.c (.int .i32 (.ofNat 65533)))],iR 3 (.p .mv) [(iC 1)]]) (iK [2,3] (iK [2,3] .ret))) .skip)))
    (iK [0,5,8,9] (.seq (.reg [iM 46 0,iR 47 (.p .strIndex) [(.t 46),(iC 1)],iM 10 47]) (iK [0,5,8,9,10] (.seq (.seq (.reg [iM 48 10,iR 49 (.p (.fieldAddr 0)) [(.t 9)],iR 50 (.l (.load none)) [(.t 49)],iR 51 (iB .lss) [(.t 48),(.t 50)],iM 52 51,iG 53 52 false (.p (.fieldAddr 1)) [(.t 9)],iG 54 52 false (.l (.load none)) [(.t 53)],iN 55 52 false 10,iG 56 52 false (iB .lss) [(.t 54),(.t 55)],iR 57 (.p .pick) [(.t 52),(.c (.bool true)),(.t 56)]]) (iK [0,5,8,10,57] (.cond (.t 57) (.seq (.reg [iR 2 (.p .mv) [(.c (.int .i32 (.ofNat 65533)))],iR 3 (.p .mv) [(iC 1)]]) (iK [2,3] (iK [2,3] .ret))) .skip))) (iK [0,5,8,10] (.seq (.seq (.reg [iM 58 8,
    iR 59 (iB .leq) [(.t 58),(iC 2)]]) (iK [0,5,8,10,59] (.cond (.t 59) (.seq (.reg [iM 60 5,iR 61 (iB .and) [(.t 60),(iU 31)],iR 62 (.p (.toInt .i32)) [(.t 61)],iR 63 (iB .shl) [(.t 62),(.c (.int .u64 (.ofNat 6)))],iM 64 10,iR 65 (iB .and) [(.t 64),(iU 63)],iR 66 (.p (.toInt .i32)) [(.t 65)],iR 67 (iB .or) [(.t 63),(.t 66)],iM 2 67,iR 3 (.p .mv) [(iC 2)]]) (iK [2,3] (iK [2,3] .ret))) .skip))) (iK [0,5,8,10] (.seq (.reg [iM 68 0,iR 69 (.p .strIndex) [(.t 68),(iC 2)],iM 11 69]) (iK [0,5,8,10,11] (.seq (.seq (.reg [iM 70 11,iR 71 (iB .lss) [(.t 70),(iU 128)],
    iM 72 71,iN 73 72 false 11,iG 74 72 false (iB .lss) [(iU 191),(.t 73)],iR 75 (.p .pick) [(.t 72),(.c (.bool true)),(.t 74)]]) (iK [0,5,8,10,11,75] (.cond (.t 75) (.seq (.reg [iR 2 (.p .mv) [(.c (.int .i32 (.ofNat 65533)))],iR 3 (.p .mv) [(iC 1)]]) (iK [2,3] (iK [2,3] .ret))) .skip))) (iK [0,5,8,10,11] (.seq (.seq (.reg [iM 76 8,iR 77 (iB .leq) [(.t 76),(iC 3)]]) (iK [0,5,10,11,77] (.cond (.t 77) (.seq (.reg [iM 78 5,iR 79 (iB .and) [(.t 78),(iU 15)],iR 80 (.p (.toInt .i32)) [(.t 79)],iR 81 (iB .shl) [(.t 80),(.c (.int .u64 (.ofNat 12)))],iM 82 10,iR 83 (iB .and) [(.t 82),(iU 63)],iR 84 (.p (.toInt .i32)) [(.t 83)],
    iR 85 (iB .shl) [(.t 84),(.c (.int .u64 (.ofNat 6)))],iR 86 (iB .or) [(.t 81),(.t 85)],iM 87 11,iR 88 (iB .and) [(.t 87),(iU 63)],iR 89 (.p (.toInt .i32)) [(.t 88)],iR 90 (iB .or) [(.t 86),(.t 89)],iM 2 90,iR 3 (.p .mv) [(iC 3)]]) (iK [2,3] (iK [2,3] .ret))) .skip))) (iK [0,5,10,11] (.seq (.reg [iM 91 0,iR 92 (.p .strIndex) [(.t 91),(iC 3)],iM 12 92]) (iK [5,10,11,12] (.seq (.seq (.reg [iM 93 12,iR 94 (iB .lss) [(.t 93),(iU 128)],iM 95 94,iN 96 95 false 12,iG 97 95 false (iB .lss) [(iU 191),(.t 96)],iR 98 (.p .pick) [(.t 95),(.c (.bool true)),(.t 97)]])
    (iK [5,10,11,12,98] (.cond (.t 98) (.seq (.reg [iR 2 (.p .mv) [(.c (.int .i32 (.ofNat 65533)))],iR 3 (.p .mv) [(iC 1)]]) (iK [2,3] (iK [2,3] .ret))) .skip))) (iK [5,10,11,12] (.seq (.reg [iM 99 5,iR 100 (iB .and) [(.t 99),(iU 7)],iR 101 (.p (.toInt .i32)) [(.t 100)],iR 102 (iB .shl) [(.t 101),(.c (.int .u64 (.ofNat 18)))],iM 103 10,iR 104 (iB .and) [(.t 103),(iU 63)],iR 105 (.p (.toInt .i32)) [(.t 104)],iR 106 (iB .shl) [(.t 105),(.c (.int .u64 (.ofNat 12)))],iR 107 (iB .or) [(.t 102),(.t 106)],iM 108 11,iR 109 (iB .and) [(.t 108),(iU 63)],iR 110 (.p (.toInt .i32)) [(.t 109)],iR 111 (iB .shl) [(.t 110),(.c (.int .u64 (.ofNat 6)))],
    iR 112 (iB .or) [(.t 107),(.t 111)],iM 113 12,iR 114 (iB .and) [(.t 113),(iU 63)],iR 115 (.p (.toInt .i32)) [(.t 114)],iR 116 (iB .or) [(.t 112),(.t 115)],iM 2 116,iR 3 (.p .mv) [(iC 4)]]) (iK [2,3] (iK [2,3] .ret))))))))))))))))))))))))))))))))))))),[(.t 2),(.t 3)]⟩
/-- strings.IndexRune -/
def fn_strings_IndexRune : Fun := ⟨2,(.seq (.reg [iR 4 (.p .mv) [(iC 0)]]) (iK [0,1] (.block 0 (.seq (.reg [iM 161 1,iR 162 (iB .leq) [(.c (.int .i32 (.ofNat 0))),(.t 161)],iM 163 162,iN 164 163 true 1,iG 165 163 true (iB .lss) [(.t 164),(.c (.int .i32 (.ofNat 128)))],iR 166 (.p .pick) [(.t 163),(.t 165),(.c (.bool false))],iM 160 166]) (iK [0,1,160] (.cond (.t 160) (.seq (.reg [iM 167 0,iM 168 1,iR 169 (.p (.toInt .u8)) [(.t 168)],iR 170 (.call 52) [(.t 167),(.t 169)],iM 4 170]) (iK [4] (iK [4] .ret))) (.seq (.reg [iM 172 1,iR 173 (iB .eql) [(.t 172),(.c (.int .i32 (.ofNat 65533)))],iM 171 173]) (iK [0,1,171] (.cond (.t 171)
    (.seq (.seq (.reg [iM 174 0,iR 175 (.e .range) [(.t 174)]]) (iK [175] (.block 9 (.loop (iK [175] (.seq (.reg [iR 176 (.e .next) [(.t 175)],iR 177 (.p (.extract 0)) [(.t 176)]]) (iK [175,176,177] (.seq (.cond (.t 177) .skip (iK [] (.exit 9))) (iK [175,176] (.block 10 (.seq (.reg [iR 178 (.p (.extract 1)) [(.t 176)],iR 179 (.p (.extract 2)) [(.t 176)],iM 5 178,iM 6 179]) (iK [5,6,175] (.seq (.reg [iM 180 6,iR 181 (iB .eql) [(.t 180),(.c (.int .i32 (.ofNat 65533)))]]) (iK [5,175,181] (.cond (.t 181) (.seq (.reg [iM 182 5,iM 4 182]) (iK [4] (iK [4] .ret))) .skip))))))))))))))) (iK [] (.seq (.reg [iR 4 (.p .mv) [(.c (.int .i64 (.negSucc 0)))]]) (iK [4] (iK [4] .ret))))) (.seq (.reg [iM 184 1,
    iR 185 (.call 146) [(.t 184)],iR 186 (.p (.un .not)) [(.t 185)],iM 183 186]) (iK [0,1,183] (.cond (.t 183) (.seq (.reg [iR 4 (.p .mv) [(.c (.int .i64 (.negSucc 0)))]]) (iK [4] (iK [4] .ret))) (.scope (.seq (.reg [iM 17 1,iR 18 (.p .runeStr) [(.t 17)],iM 7 18]) (iK [0,7] (.seq (.reg [iM 19 7,iR 20 (.p .lenS) [(.t 19)],iR 21 (iB .sub) [(.t 20),(iC 1)],iM 8 21]) (iK [0,7,8] (.seq (.reg [iM 22 8,iM 9 22]) (iK [0,7,8,9] (.seq (.reg [iR 10 (.p .mv) [(iC 0)]]) (iK [0,7,8,9] (.seq (.block 1 (.loop (iK [0,7,8,9] (.seq (.seq (.reg [iM 23 9,iM 24 0,iR 25 (.p .lenS) [(.t 24)],iR 26 (iB .lss) [(.t 23),(.t 25)]])
    (iK [0,7,8,9,26] (.cond (.t 26) .skip (iK [] (.exit 1))))) (iK [0,7,8,9] (.block 2 (.scope (.seq (.seq (.draw [iM 27 0,iM 28 9,iR 29 (.p .strIndex) [(.t 27),(.t 28)],iM 30 7,iM 31 8,iR 32 (.p .strIndex) [(.t 30),(.t 31)],iR 33 (iB .neq) [(.t 29),(.t 32)]]) (iK [0,7,8,9,33] (.cond (.t 33) (.seq (.draw [iM 34 0,iM 35 9,iR 36 (iB .add) [(.t 35),(iC 1)],iR 37 (.p (.strSlice true false)) [(.t 34),(.t 36)],iM 38 7,iM 39 8,iR 40 (.p .strIndex) [(.t 38),(.t 39)],iR 41 (.call 52) [(.t 37),(.t 40)],iM 11 41]) (iK [0,7,8,9,11] (.seq (.seq (.reg [iM 42 11,iR 43 (iB .lss) [(.t 42),(iC 0)]])
    (iK [0,7,8,9,11,43] (.cond (.t 43) (.seq (.reg [iR 4 (.p .mv) [(.c (.int .i64 (.negSucc 0)))]]) (iK [4] (iK [4] .ret))) .skip))) (iK [0,7,8,9,11] (.reg [iM 44 9,iM 45 11,iR 46 (iB .add) [(.t 45),(iC 1)],iR 47 (iB .add) [(.t 44),(.t 46)],iM 9 47]))))) .skip))) (iK [0,7,8,9] (.seq (.seq (.reg [iR 12 (.p .mv) [(iC 1)]]) (iK [0,7,8,9,12] (.block 3 (.loop (iK [0,7,8,9,12] (.seq (.seq (.reg [iM 48 12,iM 49 7,iR 50 (.p .lenS) [(.t 49)],iR 51 (iB .lss) [(.t 48),(.t 50)]]) (iK [0,7,8,9,12,51] (.cond (.t 51) .skip (iK [8,9] (.exit 3))))) (iK [0,7,8,9,12] (.seq (.block 4 (.seq (.draw [iM 54 0,iM 55 9,iM 56 12,
    iR 57 (iB .sub) [(.t 55),(.t 56)],iR 58 (.p .strIndex) [(.t 54),(.t 57)],iM 59 7,iM 60 8,iM 61 12,iR 62 (iB .sub) [(.t 60),(.t 61)],iR 63 (.p .strIndex) [(.t 59),(.t 62)],iR 64 (iB .neq) [(.t 58),(.t 63)]]) (iK [0,7,8,9,12,64] (.cond (.t 64) .bad .skip)))) (iK [0,7,8,9,12] (.reg [iM 52 12,iR 53 (iB .add) [(.t 52),(iC 1)],iM 12 53])))))))))) (iK [8,9] (.seq (.seq (.reg [iM 65 9,iM 66 8,iR 67 (iB .sub) [(.t 65),(.t 66)],iM 4 67]) (iK [4] (iK [4] .ret))) (iK [0,7,8,9,10] (.seq .skip (iK [0,7,8,9,10] (.seq (.reg [iM 68 10,iR 69 (iB .add) [(.t 68),(iC 1)],iM 10 69])
    (iK [0,7,8,9,10] (.seq (.reg [iM 70 9,iR 71 (iB .add) [(.t 70),(iC 1)],iM 9 71]) (iK [0,7,8,9,10] (.seq (.reg [iR 72 (.p .mv) [(.c (.bool true))],iN 73 72 true 10,iN 74 72 true 9,iG 75 72 true (.call 147) [(.t 74)],iG 76 72 true (iB .gtr) [(.t 73),(.t 75)],iR 77 (.p .pick) [(.t 72),(.t 76),(.c (.bool false))],iM 78 77,iN 79 78 true 9,iN 80 78 true 0,iG 81 78 true (.p .lenS) [(.t 80)],iG 82 78 true (iB .lss) [(.t 79),(.t 81)],iR 83 (.p .pick) [(.t 78),(.t 82),(.c (.bool false))],iM 84 83,iG 85 84 false (.p .mv) [(.c (.bool false))],iN 86 85 true 10,iN 87 85 true 9,iG 88 85 true (iB .shr) [(.t 87),(.c (.int .u64 (.ofNat 4)))],
    iG 89 85 true (iB .add) [(iC 4),(.t 88)],iG 90 85 true (iB .geq) [(.t 86),(.t 89)],iG 91 84 false (.p .pick) [(.t 85),(.t 90),(.c (.bool false))],iN 92 84 false 91,iN 93 92 true 9,iN 94 92 true 0,iG 95 92 true (.p .lenS) [(.t 94)],iG 96 92 true (iB .lss) [(.t 93),(.t 95)],iG 97 84 false (.p .pick) [(.t 92),(.t 96),(.c (.bool false))],iR 98 (.p .pick) [(.t 84),(.c (.bool true)),(.t 97)]]) (iK [0,7,8,9,98] (.cond (.t 98) .bad .skip)))))))))))))))))))))) (iK [] (.seq (.seq (.reg [iR 4 (.p .mv) [(.c (.int .i64 (.negSucc 0)))]]) (iK [4] (iK [4] .ret))) (iK [0,7,8,9] (.seq .skip (iK [0,7,8,9] (.seq (.cond (.c (.bool true)) (.seq .bad (iK [8,9,13] (.seq (.reg [iM 107 13,
    iR 108 (iB .geq) [(.t 107),(iC 0)]]) (iK [8,9,13,108] (.cond (.t 108) (.seq (.reg [iM 109 9,iM 110 13,iR 111 (iB .add) [(.t 109),(.t 110)],iM 112 8,iR 113 (iB .sub) [(.t 111),(.t 112)],iM 4 113]) (iK [4] (iK [4] .ret))) .skip))))) (.scope (.seq (.reg [iM 114 7,iM 115 8,iR 116 (.p .strIndex) [(.t 114),(.t 115)],iM 14 116]) (iK [0,7,8,9,14] (.seq (.reg [iM 117 7,iM 118 8,iR 119 (iB .sub) [(.t 118),(iC 1)],iR 120 (.p .strIndex) [(.t 117),(.t 119)],iM 15 120]) (iK [0,7,8,9,14,15] (.seq .skip (iK [0,7,8,9,14,15] (.block 5 (.loop (iK [0,7,8,9,14,15] (.seq (.seq (.reg [iM 121 9,
    iM 122 0,iR 123 (.p .lenS) [(.t 122)],iR 124 (iB .lss) [(.t 121),(.t 123)]]) (iK [0,7,8,9,14,15,124] (.cond (.t 124) .skip (iK [] (.exit 5))))) (iK [0,7,8,9,14,15] (.seq (.block 6 (.seq (.reg [iM 127 0,iM 128 9,iR 129 (.p .strIndex) [(.t 127),(.t 128)],iM 130 14,iR 131 (iB .eql) [(.t 129),(.t 130)],iM 132 131,iN 133 132 true 0,iN 134 132 true 9,iG 135 132 true (iB .sub) [(.t 134),(iC 1)],iG 136 132 true (.p .strIndex) [(.t 133),(.t 135)],iN 137 132 true 15,iG 138 132 true (iB .eql) [(.t 136),(.t 137)],iR 139 (.p .pick) [(.t 132),(.t 138),(.c (.bool false))]]) (iK [0,7,8,9,14,15,139] (.cond (.t 139)
    (.seq (.seq (.reg [iR 16 (.p .mv) [(iC 2)]]) (iK [0,7,8,9,14,15,16] (.block 7 (.loop (iK [0,7,8,9,14,15,16] (.seq (.seq (.reg [iM 140 16,iM 141 7,iR 142 (.p .lenS) [(.t 141)],iR 143 (iB .lss) [(.t 140),(.t 142)]]) (iK [0,7,8,9,14,15,16,143] (.cond (.t 143) .skip (iK [8,9] (.exit 7))))) (iK [0,7,8,9,14,15,16] (.seq (.block 8 (.seq (.draw [iM 146 0,iM 147 9,iM 148 16,iR 149 (iB .sub) [(.t 147),(.t 148)],iR 150 (.p .strIndex) [(.t 146),(.t 149)],iM 151 7,iM 152 8,iM 153 16,iR 154 (iB .sub) [(.t 152),(.t 153)],iR 155 (.p .strIndex) [(.t 151),(.t 154)],iR 156 (iB .neq) [(.t 150),(.t 155)]]) (iK [0,7,8,9,14,15,16,156] (.cond (.t 156)
    (iK [0,7,8,9,14,15] (.exit 6)) .skip)))) (iK [0,7,8,9,14,15,16] (.reg [iM 144 16,iR 145 (iB .add) [(.t 144),(iC 1)],iM 16 145])))))))))) (iK [8,9] (.seq (.reg [iM 157 9,iM 158 8,iR 159 (iB .sub) [(.t 157),(.t 158)],iM 4 159]) (iK [4] (iK [4] .ret))))) .skip)))) (iK [0,7,8,9,14,15] (.reg [iM 125 9,iR 126 (iB .add) [(.t 125),(iC 1)],iM 9 126])))))))))))))))) (iK [] (.seq (.reg [iR 4 (.p .mv) [(.c (.int .i64 (.negSucc 0)))]]) (iK [4] (iK [4] .ret)))))))))))))))))))))))))))))))),[(.t 4)]⟩
/-- unicode/utf8.RuneStart -/
def fn_utf8_RuneStart : Fun := ⟨1,(.seq (.reg [iR 2 (.p .mv) [(.c (.bool false))]]) (iK [0] (.seq (.reg [iM 3 0,iR 4 (iB .and) [(.t 3),(iU 192)],iR 5 (iB .neq) [(.t 4),(iU 128)],iM 2 5]) (iK [2] (iK [2] .ret))))),[(.t 2)]⟩
/-- unicode/utf8.ValidRune -/
def fn_utf8_ValidRune : Fun := ⟨1,(.seq (.reg [iR 2 (.p .mv) [(.c (.bool false))]]) (iK [0] (.seq (.block 0 (.seq (.reg [iM 4 0,iR 5 (iB .leq) [(.c (.int .i32 (.ofNat 0))),(.t 4)],iM 6 5,iN 7 6 true 0,iG 8 6 true (iB .lss) [(.t 7),(.c (.int .i32 (.ofNat 55296)))],iR 9 (.p .pick) [(.t 6),(.t 8),(.c (.bool false))],iM 3 9]) (iK [0,3] (.cond (.t 3) (.seq (.reg [iR 2 (.p .mv) [(.c (.bool true))]]) (iK [2] (iK [2] .ret))) (.seq (.reg [iM 11 0,iR 12 (iB .lss) [(.c (.int .i32 (.ofNat 57343))),(.t 11)],iM 13 12,iN 14 13 true 0,iG 15 13 true (iB .leq) [(.t 14),(.c (.int .i32 (.ofNat 1114111)))],iR 16 (.p .pick) [(.t 13),(.t 15),(.c (.bool false))],iM 10 16]) (iK [10] (.cond (.t 10)
    (.seq (.reg [iR 2 (.p .mv) [(.c (.bool true))]]) (iK [2] (iK [2] .ret))) .skip))))))) (iK [] (.seq (.reg [iR 2 (.p .mv) [(.c (.bool false))]]) (iK [2] (iK [2] .ret))))))),[(.t 2)]⟩
/-- internal/bytealg.Cutover -/
def fn_bytealg_Cutover : Fun := ⟨1,(.seq (.reg [iR 2 (.p .mv) [(iC 0)]]) (iK [0] (.seq (.reg [iM 3 0,iR 4 (iB .add) [(.t 3),(iC 16)],iR 5 (iB .quo) [(.t 4),(iC 8)],iM 2 5]) (iK [2] (iK [2] .ret))))),[(.t 2)]⟩
def tabF : T Def := (.node none (.node none (.node none (.node (some (.fn fn_keep_FewHeaders)) (.node (some (.fn fn_filter_Own)) .leaf .leaf) (.node (some (.fn fn_keep_SameResponse)) (.node (some (.fn fn_filter_Own_1)) .leaf .leaf) (.node (some (.fn fn_slices_Clone_byte)) (.node (some (.fn fn_strings_trimLeftByte)) .leaf .leaf) .leaf))) (.node none (.node (some (.fn fn_law20_h)) (.node (some (.fn fn_infra_Lower)) (.node (some (.prim idxP)) .leaf .leaf) .leaf) (.node none (.node none (.node (some (.fn fn_bytealg_Cutover)) .leaf .leaf) .leaf) .leaf)) (.node (some (.fn fn_book_Same_Header)) (.node (some (.fn fn_book_Same_byte)) .leaf (.node (some (.fn fn_asciiSet_contains)) .leaf .leaf)) (.node none (.node (some (.fn fn_strings_trimRightASCII)) .leaf .leaf) (.node (some (.fn fn_utf8_decodeRuneInStringSlow)) .leaf .leaf))))) (.node none (.node none (.node (some (.fn fn_law20_among)) .leaf (.node (some (.prim joinP)) .leaf .leaf)) (.node none (.node (some (.fn fn_filter_Share_1)) .leaf .leaf) (.node (some (.prim namesP)) (.node (some (.fn fn_strings_makeASCIISet)) .leaf .leaf) .leaf))) (.node none (.node none (.node (some (.fn fn_keep_FewBytes)) .leaf .leaf) (.node (some (.fn fn_infra_mapped)) .leaf .leaf)) (.node none (.node none .leaf (.node (some (.fn fn_strings_ContainsRune)) .leaf .leaf)) (.node none (.node (some (.fn fn_strings_trimRightUnicode)) .leaf .leaf) (.node (some (.fn fn_utf8_RuneStart)) .leaf .leaf)))))) (.node none (.node (some (.fn fn_law20_FilterLess)) (.node none (.node (some (.fn fn_filter_Share)) .leaf (.node (some (.fn fn_headers_is)) .leaf .leaf)) (.node none (.node (some (.fn fn_cors_Exposed)) .leaf .leaf) (.node (some (.fn fn_headers_Split)) (.node (some (.fn fn_strings_trimRightByte)) .leaf .leaf) .leaf))) (.node (some (.fn fn_keep_Few)) (.node none (.node none (.node (some (.fn fn_strings_Trim)) .leaf .leaf) .leaf) (.node (some (.fn fn_strings_IndexByte)) .leaf .leaf)) (.node none (.node none .leaf (.node (some (.fn fn_utf8_DecodeRuneInString)) .leaf .leaf)) (.node none (.node (some (.fn fn_strings_trimLeftUnicode)) .leaf .leaf) (.node (some (.fn fn_strings_IndexRune)) .leaf .leaf))))) (.node none (.node none (.node (some (.prim closedP)) (.node (some (.fn fn_infra_Token)) .leaf .leaf) (.node none (.node none (.node (some (.fn fn_utf8_ValidRune)) .leaf .leaf) .leaf) .leaf)) (.node none (.node (some (.fn fn_slices_Contains_string)) .leaf .leaf) (.node (some (.fn fn_slices_Index_string)) (.node (some (.fn fn_strings_trimLeftASCII)) .leaf .leaf) .leaf))) (.node (some (.fn fn_keep_Reply)) (.node none (.node (some (.fn fn_filter_shown)) .leaf .leaf) (.node (some (.fn fn_infra_Lower_1)) .leaf .leaf)) (.node (some (.fn fn_headers_Get)) (.node none .leaf (.node (some (.fn fn_utf8_DecodeLastRuneInString)) .leaf .leaf)) .leaf)))))
def tabE : T Ent := (.node none (.node none (.node none (.node (some e_keep_FewHeaders) (.node (some e_filter_Own) .leaf .leaf) (.node (some (funE fn_keep_SameResponse)) (.node (some e_filter_Own_1) .leaf .leaf) (.node (some e_slices_Clone_byte) (.node (some (funE fn_strings_trimLeftByte)) .leaf .leaf) .leaf))) (.node none (.node (some (funE fn_law20_h)) (.node (some (funE fn_infra_Lower)) (.node (some (PrimEnt idxP)) .leaf .leaf) .leaf) (.node none (.node none (.node (some (funE fn_bytealg_Cutover)) .leaf .leaf) .leaf) .leaf)) (.node (some (funE fn_book_Same_Header)) (.node (some (funE fn_book_Same_byte)) .leaf (.node (some e_asciiSet_contains) .leaf .leaf)) (.node none (.node (some e_strings_trimRightASCII) .leaf .leaf) (.node (some (funE fn_utf8_decodeRuneInStringSlow)) .leaf .leaf))))) (.node none (.node none (.node (some e_law20_among) .leaf (.node (some (PrimEnt joinP)) .leaf .leaf)) (.node none (.node (some e_filter_Share_1) .leaf .leaf) (.node (some (PrimEnt namesP)) (.node (some e_strings_makeASCIISet) .leaf .leaf) .leaf))) (.node none (.node none (.node (some e_keep_FewBytes) .leaf .leaf) (.node (some e_infra_mapped) .leaf .leaf)) (.node none (.node none .leaf (.node (some (funE fn_strings_ContainsRune)) .leaf .leaf)) (.node none (.node (some (funE fn_strings_trimRightUnicode)) .leaf .leaf) (.node (some (funE fn_utf8_RuneStart)) .leaf .leaf)))))) (.node none (.node (some e_law20_FilterLess) (.node none (.node (some e_filter_Share) .leaf (.node (some e_headers_is) .leaf .leaf)) (.node none (.node (some e_cors_Exposed) .leaf .leaf) (.node (some e_headers_Split) (.node (some (funE fn_strings_trimRightByte)) .leaf .leaf) .leaf))) (.node (some e_keep_Few) (.node none (.node none (.node (some e_strings_Trim) .leaf .leaf) .leaf) (.node (some e_strings_IndexByte) .leaf .leaf)) (.node none (.node none .leaf (.node (some (funE fn_utf8_DecodeRuneInString)) .leaf .leaf)) (.node none (.node (some (funE fn_strings_trimLeftUnicode)) .leaf .leaf) (.node (some (funE fn_strings_IndexRune)) .leaf .leaf))))) (.node none (.node none (.node (some (PrimEnt closedP)) (.node (some e_infra_Token) .leaf .leaf) (.node none (.node none (.node (some (funE fn_utf8_ValidRune)) .leaf .leaf) .leaf) .leaf)) (.node none (.node (some e_slices_Contains_string) .leaf .leaf) (.node (some e_slices_Index_string) (.node (some e_strings_trimLeftASCII) .leaf .leaf) .leaf))) (.node (some e_keep_Reply) (.node none (.node (some e_filter_shown) .leaf .leaf) (.node (some e_infra_Lower_1) .leaf .leaf)) (.node (some e_headers_Get) (.node none .leaf (.node (some (funE fn_utf8_DecodeLastRuneInString)) .leaf .leaf)) .leaf)))))
theorem tab_ok (N : Nat) : TabOk tabF.get N (tabOf tabE N) := tabOf_okP (E := tabE) (F := tabF) N fun f e h => T.All_get (t := tabE) (P := fun f e => (∃ fn, tabF.get f = some (.fn fn) ∧ EntOk fn e) ∨ (∃ p, tabF.get f = some (.prim p) ∧ e = PrimEnt p)) (iA iT (iA (iA iT (iA (iA iT (iA (iA (.inl ⟨fn_keep_FewHeaders, rfl, e_keep_FewHeaders_ok⟩) (iA (iA (.inl ⟨fn_filter_Own, rfl, e_filter_Own_ok⟩) (iA iT iT)) (iA (.inl ⟨fn_keep_SameResponse, rfl, (funE_ok _)⟩) (iA (iA (.inl ⟨fn_filter_Own_1, rfl, e_filter_Own_1_ok⟩) (iA iT iT)) (iA (.inl ⟨fn_slices_Clone_byte, rfl, e_slices_Clone_byte_ok⟩) (iA (iA (.inl ⟨fn_strings_trimLeftByte, rfl, (funE_ok _)⟩) (iA iT iT)) iT)))))) (iA iT (iA (iA (.inl ⟨fn_law20_h, rfl, (funE_ok _)⟩) (iA (iA (.inl ⟨fn_infra_Lower, rfl, (funE_ok _)⟩) (iA (iA (.inr ⟨idxP, rfl, rfl⟩) (iA iT iT)) iT)) (iA iT (iA (iA iT (iA (iA (.inl ⟨fn_bytealg_Cutover, rfl, (funE_ok _)⟩) (iA iT iT)) iT)) iT)))) (iA (.inl ⟨fn_book_Same_Header, rfl, (funE_ok _)⟩) (iA (iA (.inl ⟨fn_book_Same_byte, rfl, (funE_ok _)⟩) (iA iT (iA (.inl ⟨fn_asciiSet_contains, rfl, e_asciiSet_contains_ok⟩) (iA iT iT)))) (iA iT (iA (iA (.inl ⟨fn_strings_trimRightASCII, rfl, e_strings_trimRightASCII_ok⟩) (iA iT iT)) (iA (.inl ⟨fn_utf8_decodeRuneInStringSlow, rfl, (funE_ok _)⟩) (iA iT iT)))))))))) (iA iT (iA (iA iT (iA (iA (.inl ⟨fn_law20_among, rfl, e_law20_among_ok⟩) (iA iT (iA (.inr ⟨joinP, rfl, rfl⟩) (iA iT iT)))) (iA iT (iA (iA (.inl ⟨fn_filter_Share_1, rfl, e_filter_Share_1_ok⟩) (iA iT iT)) (iA (.inr ⟨namesP, rfl, rfl⟩) (iA (iA (.inl ⟨fn_strings_makeASCIISet, rfl, e_strings_makeASCIISet_ok⟩) (iA iT iT)) iT)))))) (iA iT (iA (iA iT (iA (iA (.inl ⟨fn_keep_FewBytes, rfl, e_keep_FewBytes_ok⟩) (iA iT iT)) (iA (.inl ⟨fn_infra_mapped, rfl, e_infra_mapped_ok⟩) (iA iT iT)))) (iA iT (iA (iA iT (iA iT (iA (.inl ⟨fn_strings_ContainsRune, rfl, (funE_ok _)⟩) (iA iT iT)))) (iA iT (iA (iA (.inl ⟨fn_strings_trimRightUnicode, rfl, (funE_ok _)⟩) (iA iT iT)) (iA (.inl ⟨fn_utf8_RuneStart, rfl, (funE_ok _)⟩) (iA iT iT)))))))))))) (iA iT (iA (iA (.inl ⟨fn_law20_FilterLess, rfl, e_law20_FilterLess_ok⟩) (iA (iA iT (iA (iA (.inl ⟨fn_filter_Share, rfl, e_filter_Share_ok⟩) (iA iT (iA (.inl ⟨fn_headers_is, rfl, e_headers_is_ok⟩) (iA iT iT)))) (iA iT (iA (iA (.inl ⟨fn_cors_Exposed, rfl, e_cors_Exposed_ok⟩) (iA iT iT)) (iA (.inl ⟨fn_headers_Split, rfl, e_headers_Split_ok⟩) (iA (iA (.inl ⟨fn_strings_trimRightByte, rfl, (funE_ok _)⟩) (iA iT iT)) iT)))))) (iA (.inl ⟨fn_keep_Few, rfl, e_keep_Few_ok⟩) (iA (iA iT (iA (iA iT (iA (iA (.inl ⟨fn_strings_Trim, rfl, e_strings_Trim_ok⟩) (iA iT iT)) iT)) (iA (.inl ⟨fn_strings_IndexByte, rfl, e_strings_IndexByte_ok⟩) (iA iT iT)))) (iA iT (iA (iA iT (iA iT (iA (.inl ⟨fn_utf8_DecodeRuneInString, rfl, (funE_ok _)⟩) (iA iT iT)))) (iA iT (iA (iA (.inl ⟨fn_strings_trimLeftUnicode, rfl, (funE_ok _)⟩) (iA iT iT)) (iA (.inl ⟨fn_strings_IndexRune, rfl, (funE_ok _)⟩) (iA iT iT)))))))))) (iA iT (iA (iA iT (iA (iA (.inr ⟨closedP, rfl, rfl⟩) (iA (iA (.inl ⟨fn_infra_Token, rfl, e_infra_Token_ok⟩) (iA iT iT)) (iA iT (iA (iA iT (iA (iA (.inl ⟨fn_utf8_ValidRune, rfl, (funE_ok _)⟩) (iA iT iT)) iT)) iT)))) (iA iT (iA (iA (.inl ⟨fn_slices_Contains_string, rfl, e_slices_Contains_string_ok⟩) (iA iT iT)) (iA (.inl ⟨fn_slices_Index_string, rfl, e_slices_Index_string_ok⟩) (iA (iA (.inl ⟨fn_strings_trimLeftASCII, rfl, e_strings_trimLeftASCII_ok⟩) (iA iT iT)) iT)))))) (iA (.inl ⟨fn_keep_Reply, rfl, e_keep_Reply_ok⟩) (iA (iA iT (iA (iA (.inl ⟨fn_filter_shown, rfl, e_filter_shown_ok⟩) (iA iT iT)) (iA (.inl ⟨fn_infra_Lower_1, rfl, e_infra_Lower_1_ok⟩) (iA iT iT)))) (iA (.inl ⟨fn_headers_Get, rfl, e_headers_Get_ok⟩) (iA (iA iT (iA iT (iA (.inl ⟨fn_utf8_DecodeLastRuneInString, rfl, (funE_ok _)⟩) (iA iT iT)))) iT)))))))))) h
theorem tab_nat (N d : Nat) : CallNat (callK (tabOf tabE N) d) := callK_nat N (fun f e h => T.All_get (t := tabE) (P := fun _ e => EntNat e) (iA iT (iA (iA iT (iA (iA iT (iA (iA e_keep_FewHeaders_nat (iA (iA e_filter_Own_nat (iA iT iT)) (iA (funE_nat _) (iA (iA e_filter_Own_1_nat (iA iT iT)) (iA e_slices_Clone_byte_nat (iA (iA (funE_nat _) (iA iT iT)) iT)))))) (iA iT (iA (iA (funE_nat _) (iA (iA (funE_nat _) (iA (iA (PrimEnt_nat idxP) (iA iT iT)) iT)) (iA iT (iA (iA iT (iA (iA (funE_nat _) (iA iT iT)) iT)) iT)))) (iA (funE_nat _) (iA (iA (funE_nat _) (iA iT (iA e_asciiSet_contains_nat (iA iT iT)))) (iA iT (iA (iA e_strings_trimRightASCII_nat (iA iT iT)) (iA (funE_nat _) (iA iT iT)))))))))) (iA iT (iA (iA iT (iA (iA e_law20_among_nat (iA iT (iA (PrimEnt_nat joinP) (iA iT iT)))) (iA iT (iA (iA e_filter_Share_1_nat (iA iT iT)) (iA (PrimEnt_nat namesP) (iA (iA e_strings_makeASCIISet_nat (iA iT iT)) iT)))))) (iA iT (iA (iA iT (iA (iA e_keep_FewBytes_nat (iA iT iT)) (iA e_infra_mapped_nat (iA iT iT)))) (iA iT (iA (iA iT (iA iT (iA (funE_nat _) (iA iT iT)))) (iA iT (iA (iA (funE_nat _) (iA iT iT)) (iA (funE_nat _) (iA iT iT)))))))))))) (iA iT (iA (iA e_law20_FilterLess_nat (iA (iA iT (iA (iA e_filter_Share_nat (iA iT (iA e_headers_is_nat (iA iT iT)))) (iA iT (iA (iA e_cors_Exposed_nat (iA iT iT)) (iA e_headers_Split_nat (iA (iA (funE_nat _) (iA iT iT)) iT)))))) (iA e_keep_Few_nat (iA (iA iT (iA (iA iT (iA (iA e_strings_Trim_nat (iA iT iT)) iT)) (iA e_strings_IndexByte_nat (iA iT iT)))) (iA iT (iA (iA iT (iA iT (iA (funE_nat _) (iA iT iT)))) (iA iT (iA (iA (funE_nat _) (iA iT iT)) (iA (funE_nat _) (iA iT iT)))))))))) (iA iT (iA (iA iT (iA (iA (PrimEnt_nat closedP) (iA (iA e_infra_Token_nat (iA iT iT)) (iA iT (iA (iA iT (iA (iA (funE_nat _) (iA iT iT)) iT)) iT)))) (iA iT (iA (iA e_slices_Contains_string_nat (iA iT iT)) (iA e_slices_Index_string_nat (iA (iA e_strings_trimLeftASCII_nat (iA iT iT)) iT)))))) (iA e_keep_Reply_nat (iA (iA iT (iA (iA e_filter_shown_nat (iA iT iT)) (iA e_infra_Lower_1_nat (iA iT iT)))) (iA e_headers_Get_nat (iA (iA iT (iA iT (iA (funE_nat _) (iA iT iT)))) iT)))))))))) h) d
def tabFk : T Def := (.node none (.node none (.node none (.node none (.node (some (.fn fn_filter_Own)) .leaf .leaf) (.node (some (.fn fn_keep_SameResponse)) (.node (some (.fn fn_filter_Own_1)) .leaf .leaf) (.node (some (.fn fn_slices_Clone_byte)) (.node (some (.fn fn_strings_trimLeftByte)) .leaf .leaf) .leaf))) (.node none (.node (some (.fn fn_law20_h)) (.node (some (.fn fn_infra_Lower)) (.node (some (.prim idxP)) .leaf .leaf) .leaf) (.node none (.node none (.node (some (.fn fn_bytealg_Cutover)) .leaf .leaf) .leaf) .leaf)) (.node (some (.fn fn_book_Same_Header)) (.node (some (.fn fn_book_Same_byte)) .leaf (.node (some (.fn fn_asciiSet_contains)) .leaf .leaf)) (.node none (.node (some (.fn fn_strings_trimRightASCII)) .leaf .leaf) (.node (some (.fn fn_utf8_decodeRuneInStringSlow)) .leaf .leaf))))) (.node none (.node none (.node none .leaf (.node (some (.prim joinP)) .leaf .leaf)) (.node none (.node (some (.fn fn_filter_Share_1)) .leaf .leaf) (.node (some (.prim namesP)) (.node (some (.fn fn_strings_makeASCIISet)) .leaf .leaf) .leaf))) (.node none (.node none .leaf (.node (some (.fn fn_infra_mapped)) .leaf .leaf)) (.node none (.node none .leaf (.node (some (.fn fn_strings_ContainsRune)) .leaf .leaf)) (.node none (.node (some (.fn fn_strings_trimRightUnicode)) .leaf .leaf) (.node (some (.fn fn_utf8_RuneStart)) .leaf .leaf)))))) (.node none (.node none (.node none (.node (some (.fn fn_filter_Share)) .leaf (.node (some (.fn fn_headers_is)) .leaf .leaf)) (.node none (.node (some (.fn fn_cors_Exposed)) .leaf .leaf) (.node (some (.fn fn_headers_Split)) (.node (some (.fn fn_strings_trimRightByte)) .leaf .leaf) .leaf))) (.node none (.node none (.node none (.node (some (.fn fn_strings_Trim)) .leaf .leaf) .leaf) (.node (some (.fn fn_strings_IndexByte)) .leaf .leaf)) (.node none (.node none .leaf (.node (some (.fn fn_utf8_DecodeRuneInString)) .leaf .leaf)) (.node none (.node (some (.fn fn_strings_trimLeftUnicode)) .leaf .leaf) (.node (some (.fn fn_strings_IndexRune)) .leaf .leaf))))) (.node none (.node none (.node (some (.fn fn_law20_known)) (.node (some (.fn fn_infra_Token)) .leaf .leaf) (.node none (.node none (.node (some (.fn fn_utf8_ValidRune)) .leaf .leaf) .leaf) .leaf)) (.node none (.node (some (.fn fn_slices_Contains_string)) .leaf .leaf) (.node (some (.fn fn_slices_Index_string)) (.node (some (.fn fn_strings_trimLeftASCII)) .leaf .leaf) .leaf))) (.node none (.node none (.node (some (.fn fn_filter_shown)) .leaf .leaf) (.node (some (.fn fn_infra_Lower_1)) .leaf .leaf)) (.node (some (.fn fn_headers_Get)) (.node none .leaf (.node (some (.fn fn_utf8_DecodeLastRuneInString)) .leaf .leaf)) .leaf)))))
def tabEk : T Ent := (.node none (.node none (.node none (.node none (.node (some e_filter_Own) .leaf .leaf) (.node (some (funE fn_keep_SameResponse)) (.node (some e_filter_Own_1) .leaf .leaf) (.node (some e_slices_Clone_byte) (.node (some (funE fn_strings_trimLeftByte)) .leaf .leaf) .leaf))) (.node none (.node (some (funE fn_law20_h)) (.node (some (funE fn_infra_Lower)) (.node (some (PrimEnt idxP)) .leaf .leaf) .leaf) (.node none (.node none (.node (some (funE fn_bytealg_Cutover)) .leaf .leaf) .leaf) .leaf)) (.node (some (funE fn_book_Same_Header)) (.node (some (funE fn_book_Same_byte)) .leaf (.node (some e_asciiSet_contains) .leaf .leaf)) (.node none (.node (some e_strings_trimRightASCII) .leaf .leaf) (.node (some (funE fn_utf8_decodeRuneInStringSlow)) .leaf .leaf))))) (.node none (.node none (.node none .leaf (.node (some (PrimEnt joinP)) .leaf .leaf)) (.node none (.node (some e_filter_Share_1) .leaf .leaf) (.node (some (PrimEnt namesP)) (.node (some e_strings_makeASCIISet) .leaf .leaf) .leaf))) (.node none (.node none .leaf (.node (some e_infra_mapped) .leaf .leaf)) (.node none (.node none .leaf (.node (some (funE fn_strings_ContainsRune)) .leaf .leaf)) (.node none (.node (some (funE fn_strings_trimRightUnicode)) .leaf .leaf) (.node (some (funE fn_utf8_RuneStart)) .leaf .leaf)))))) (.node none (.node none (.node none (.node (some e_filter_Share) .leaf (.node (some e_headers_is) .leaf .leaf)) (.node none (.node (some e_cors_Exposed) .leaf .leaf) (.node (some e_headers_Split) (.node (some (funE fn_strings_trimRightByte)) .leaf .leaf) .leaf))) (.node none (.node none (.node none (.node (some e_strings_Trim) .leaf .leaf) .leaf) (.node (some e_strings_IndexByte) .leaf .leaf)) (.node none (.node none .leaf (.node (some (funE fn_utf8_DecodeRuneInString)) .leaf .leaf)) (.node none (.node (some (funE fn_strings_trimLeftUnicode)) .leaf .leaf) (.node (some (funE fn_strings_IndexRune)) .leaf .leaf))))) (.node none (.node none (.node (some (funE fn_law20_known)) (.node (some e_infra_Token) .leaf .leaf) (.node none (.node none (.node (some (funE fn_utf8_ValidRune)) .leaf .leaf) .leaf) .leaf)) (.node none (.node (some e_slices_Contains_string) .leaf .leaf) (.node (some e_slices_Index_string) (.node (some e_strings_trimLeftASCII) .leaf .leaf) .leaf))) (.node none (.node none (.node (some e_filter_shown) .leaf .leaf) (.node (some e_infra_Lower_1) .leaf .leaf)) (.node (some e_headers_Get) (.node none .leaf (.node (some (funE fn_utf8_DecodeLastRuneInString)) .leaf .leaf)) .leaf)))))
theorem tabk_ok (N : Nat) : TabOk tabFk.get N (tabOf tabEk N) := tabOf_okP (E := tabEk) (F := tabFk) N fun f e h => T.All_get (t := tabEk) (P := fun f e => (∃ fn, tabFk.get f = some (.fn fn) ∧ EntOk fn e) ∨ (∃ p, tabFk.get f = some (.prim p) ∧ e = PrimEnt p)) (iA iT (iA (iA iT (iA (iA iT (iA (iA iT (iA (iA (.inl ⟨fn_filter_Own, rfl, e_filter_Own_ok⟩) (iA iT iT)) (iA (.inl ⟨fn_keep_SameResponse, rfl, (funE_ok _)⟩) (iA (iA (.inl ⟨fn_filter_Own_1, rfl, e_filter_Own_1_ok⟩) (iA iT iT)) (iA (.inl ⟨fn_slices_Clone_byte, rfl, e_slices_Clone_byte_ok⟩) (iA (iA (.inl ⟨fn_strings_trimLeftByte, rfl, (funE_ok _)⟩) (iA iT iT)) iT)))))) (iA iT (iA (iA (.inl ⟨fn_law20_h, rfl, (funE_ok _)⟩) (iA (iA (.inl ⟨fn_infra_Lower, rfl, (funE_ok _)⟩) (iA (iA (.inr ⟨idxP, rfl, rfl⟩) (iA iT iT)) iT)) (iA iT (iA (iA iT (iA (iA (.inl ⟨fn_bytealg_Cutover, rfl, (funE_ok _)⟩) (iA iT iT)) iT)) iT)))) (iA (.inl ⟨fn_book_Same_Header, rfl, (funE_ok _)⟩) (iA (iA (.inl ⟨fn_book_Same_byte, rfl, (funE_ok _)⟩) (iA iT (iA (.inl ⟨fn_asciiSet_contains, rfl, e_asciiSet_contains_ok⟩) (iA iT iT)))) (iA iT (iA (iA (.inl ⟨fn_strings_trimRightASCII, rfl, e_strings_trimRightASCII_ok⟩) (iA iT iT)) (iA (.inl ⟨fn_utf8_decodeRuneInStringSlow, rfl, (funE_ok _)⟩) (iA iT iT)))))))))) (iA iT (iA (iA iT (iA (iA iT (iA iT (iA (.inr ⟨joinP, rfl, rfl⟩) (iA iT iT)))) (iA iT (iA (iA (.inl ⟨fn_filter_Share_1, rfl, e_filter_Share_1_ok⟩) (iA iT iT)) (iA (.inr ⟨namesP, rfl, rfl⟩) (iA (iA (.inl ⟨fn_strings_makeASCIISet, rfl, e_strings_makeASCIISet_ok⟩) (iA iT iT)) iT)))))) (iA iT (iA (iA iT (iA iT (iA (.inl ⟨fn_infra_mapped, rfl, e_infra_mapped_ok⟩) (iA iT iT)))) (iA iT (iA (iA iT (iA iT (iA (.inl ⟨fn_strings_ContainsRune, rfl, (funE_ok _)⟩) (iA iT iT)))) (iA iT (iA (iA (.inl ⟨fn_strings_trimRightUnicode, rfl, (funE_ok _)⟩) (iA iT iT)) (iA (.inl ⟨fn_utf8_RuneStart, rfl, (funE_ok _)⟩) (iA iT iT)))))))))))) (iA iT (iA (iA iT (iA (iA iT (iA (iA (.inl ⟨fn_filter_Share, rfl, e_filter_Share_ok⟩) (iA iT (iA (.inl ⟨fn_headers_is, rfl, e_headers_is_ok⟩) (iA iT iT)))) (iA iT (iA (iA (.inl ⟨fn_cors_Exposed, rfl, e_cors_Exposed_ok⟩) (iA iT iT)) (iA (.inl ⟨fn_headers_Split, rfl, e_headers_Split_ok⟩) (iA (iA (.inl ⟨fn_strings_trimRightByte, rfl, (funE_ok _)⟩) (iA iT iT)) iT)))))) (iA iT (iA (iA iT (iA (iA iT (iA (iA (.inl ⟨fn_strings_Trim, rfl, e_strings_Trim_ok⟩) (iA iT iT)) iT)) (iA (.inl ⟨fn_strings_IndexByte, rfl, e_strings_IndexByte_ok⟩) (iA iT iT)))) (iA iT (iA (iA iT (iA iT (iA (.inl ⟨fn_utf8_DecodeRuneInString, rfl, (funE_ok _)⟩) (iA iT iT)))) (iA iT (iA (iA (.inl ⟨fn_strings_trimLeftUnicode, rfl, (funE_ok _)⟩) (iA iT iT)) (iA (.inl ⟨fn_strings_IndexRune, rfl, (funE_ok _)⟩) (iA iT iT)))))))))) (iA iT (iA (iA iT (iA (iA (.inl ⟨fn_law20_known, rfl, (funE_ok _)⟩) (iA (iA (.inl ⟨fn_infra_Token, rfl, e_infra_Token_ok⟩) (iA iT iT)) (iA iT (iA (iA iT (iA (iA (.inl ⟨fn_utf8_ValidRune, rfl, (funE_ok _)⟩) (iA iT iT)) iT)) iT)))) (iA iT (iA (iA (.inl ⟨fn_slices_Contains_string, rfl, e_slices_Contains_string_ok⟩) (iA iT iT)) (iA (.inl ⟨fn_slices_Index_string, rfl, e_slices_Index_string_ok⟩) (iA (iA (.inl ⟨fn_strings_trimLeftASCII, rfl, e_strings_trimLeftASCII_ok⟩) (iA iT iT)) iT)))))) (iA iT (iA (iA iT (iA (iA (.inl ⟨fn_filter_shown, rfl, e_filter_shown_ok⟩) (iA iT iT)) (iA (.inl ⟨fn_infra_Lower_1, rfl, e_infra_Lower_1_ok⟩) (iA iT iT)))) (iA (.inl ⟨fn_headers_Get, rfl, e_headers_Get_ok⟩) (iA (iA iT (iA iT (iA (.inl ⟨fn_utf8_DecodeLastRuneInString, rfl, (funE_ok _)⟩) (iA iT iT)))) iT)))))))))) h
theorem tabk_nat (N d : Nat) : CallNat (callK (tabOf tabEk N) d) := callK_nat N (fun f e h => T.All_get (t := tabEk) (P := fun _ e => EntNat e) (iA iT (iA (iA iT (iA (iA iT (iA (iA iT (iA (iA e_filter_Own_nat (iA iT iT)) (iA (funE_nat _) (iA (iA e_filter_Own_1_nat (iA iT iT)) (iA e_slices_Clone_byte_nat (iA (iA (funE_nat _) (iA iT iT)) iT)))))) (iA iT (iA (iA (funE_nat _) (iA (iA (funE_nat _) (iA (iA (PrimEnt_nat idxP) (iA iT iT)) iT)) (iA iT (iA (iA iT (iA (iA (funE_nat _) (iA iT iT)) iT)) iT)))) (iA (funE_nat _) (iA (iA (funE_nat _) (iA iT (iA e_asciiSet_contains_nat (iA iT iT)))) (iA iT (iA (iA e_strings_trimRightASCII_nat (iA iT iT)) (iA (funE_nat _) (iA iT iT)))))))))) (iA iT (iA (iA iT (iA (iA iT (iA iT (iA (PrimEnt_nat joinP) (iA iT iT)))) (iA iT (iA (iA e_filter_Share_1_nat (iA iT iT)) (iA (PrimEnt_nat namesP) (iA (iA e_strings_makeASCIISet_nat (iA iT iT)) iT)))))) (iA iT (iA (iA iT (iA iT (iA e_infra_mapped_nat (iA iT iT)))) (iA iT (iA (iA iT (iA iT (iA (funE_nat _) (iA iT iT)))) (iA iT (iA (iA (funE_nat _) (iA iT iT)) (iA (funE_nat _) (iA iT iT)))))))))))) (iA iT (iA (iA iT (iA (iA iT (iA (iA e_filter_Share_nat (iA iT (iA e_headers_is_nat (iA iT iT)))) (iA iT (iA (iA e_cors_Exposed_nat (iA iT iT)) (iA e_headers_Split_nat (iA (iA (funE_nat _) (iA iT iT)) iT)))))) (iA iT (iA (iA iT (iA (iA iT (iA (iA e_strings_Trim_nat (iA iT iT)) iT)) (iA e_strings_IndexByte_nat (iA iT iT)))) (iA iT (iA (iA iT (iA iT (iA (funE_nat _) (iA iT iT)))) (iA iT (iA (iA (funE_nat _) (iA iT iT)) (iA (funE_nat _) (iA iT iT)))))))))) (iA iT (iA (iA iT (iA (iA (funE_nat _) (iA (iA e_infra_Token_nat (iA iT iT)) (iA iT (iA (iA iT (iA (iA (funE_nat _) (iA iT iT)) iT)) iT)))) (iA iT (iA (iA e_slices_Contains_string_nat (iA iT iT)) (iA e_slices_Index_string_nat (iA (iA e_strings_trimLeftASCII_nat (iA iT iT)) iT)))))) (iA iT (iA (iA iT (iA (iA e_filter_shown_nat (iA iT iT)) (iA e_infra_Lower_1_nat (iA iT iT)))) (iA e_headers_Get_nat (iA (iA iT (iA iT (iA (funE_nat _) (iA iT iT)))) iT)))))))))) h) d
end Go.Am.X
