/- The abstract machine, printed functions of the program, and what they are shown to be. -/
import Derived.Test.YtpigmhokjbbffaaGreatDoorHA2Sh0
import Derived.Test.YtpigmhokjbbffaaGreatDoorHA2M3
import Derived.KernelRfl
namespace Go.Am.X
set_option maxRecDepth 1000000
set_option linter.unusedVariables false
/-- ostiary/ostiaryref1.Sorted -/
def fn_ref1_Sorted : Fun := ⟨1, (.seq (.reg [iR 2 (.p .mv) [(.c .nils)]]) (.keep [0] (.seq (.reg [iR 3 (.p .mv) [(.c .nils)]]) (.keep [0, 3] (.seq (.seq (.reg [iR 4 (.p .mv) [(.c (.int .i64 (.ofNat 0)))]]) (.keep [0, 3, 4] (.block 0 (.loop (.keep [0, 3, 4] (.seq (.seq (.reg [iR 6 (.p .mv) [(.t 4)], iR 7 (.p .mv) [(.t 0)], iR 8 (.p .len) [(.t 7)], iR 9 (.p (.bin .lss)) [(.t 6), (.t 8)]]) (.keep [0, 3, 4, 9] (.cond (.t 9) .skip (.keep [3] (.exit 0))))) (.keep [0, 3, 4] (.seq (.block 1 (.seq (.reg [iR 5 (.p .mv) [(.c (.int .i64 (.ofNat 0)))]]) (.keep [0, 3, 4, 5] (.seq (.block 2 (.loop (.keep [0, 3, 4, 5] (.seq (.seq (.draw [iR 12 (.p .mv) [(.t 5)], iR 13 (.p .mv) [(.t 3)], iR 14 (.p .len) [(.t 13)], iR 15 (.p (.bin .lss)) [(.t 12), (.t 14)], iR 16 (.p .mv) [(.t 15)], iG 17 16 true (.p .mv) [(.t 3)], iG 18 16 true (.p .mv) [(.t 5)], iG 19 16 true (.p (.slIdx 1)) [(.t 17), (.t 18)],
    iG 20 16 true (.l (.load none)) [(.t 19)], iG 21 16 true (.p .mv) [(.t 0)], iG 22 16 true (.p .mv) [(.t 4)], iG 23 16 true (.p (.slIdx 1)) [(.t 21), (.t 22)], iG 24 16 true (.l (.load none)) [(.t 23)], iG 25 16 true (.p (.bin .lss)) [(.t 20), (.t 24)], iR 26 (.p .pick) [(.t 16), (.t 25), (.c (.bool false))]]) (.keep [0, 3, 4, 5, 26] (.cond (.t 26) .skip (.keep [0, 3, 4, 5] (.exit 2))))) (.keep [0, 3, 4, 5] (.block 3 (.reg [iR 27 (.p .mv) [(.t 5)], iR 28 (.p (.bin .add)) [(.t 27), (.c (.int .i64 (.ofNat 1)))], iR 5 (.p .mv) [(.t 28)]]))))))) (.keep [0, 3, 4, 5] (.seq (.seq (.draw [iR 29 (.p .mv) [(.t 5)], iR 30 (.p .mv) [(.t 3)], iR 31 (.p .len) [(.t 30)], iR 32 (.p (.bin .lss)) [(.t 29), (.t 31)], iR 33 (.p .mv) [(.t 32)], iG 34 33 true (.p .mv) [(.t 3)], iG 35 33 true (.p .mv) [(.t 5)], iG 36 33 true (.p (.slIdx 1)) [(.t 34), (.t 35)],
    iG 37 33 true (.l (.load none)) [(.t 36)], iG 38 33 true (.p .mv) [(.t 0)], iG 39 33 true (.p .mv) [(.t 4)], iG 40 33 true (.p (.slIdx 1)) [(.t 38), (.t 39)], iG 41 33 true (.l (.load none)) [(.t 40)], iG 42 33 true (.p (.bin .eql)) [(.t 37), (.t 41)], iR 43 (.p .pick) [(.t 33), (.t 42), (.c (.bool false))]]) (.keep [0, 3, 4, 5, 43] (.cond (.t 43) (.keep [0, 3, 4] (.exit 1)) .skip))) (.keep [0, 3, 4, 5] (.seq (.reg [iR 44 (.p .mv) [(.t 3)], iR 45 (.e (.buildSlice 1 1 [(.str [])] [(0, 1)])) [(.c (.str []))], iR 46 (.e (.append 1 16)) [(.t 44), (.t 45)], iR 3 (.p .mv) [(.t 46)]]) (.keep [0, 3, 4, 5] (.seq (.draw [iR 47 (.p .mv) [(.t 3)], iR 48 (.p .mv) [(.t 5)], iR 49 (.p (.bin .add)) [(.t 48), (.c (.int .i64 (.ofNat 1)))], iR 50 (.p (.slSlice 1 true false false)) [(.t 47), (.t 49)], iR 51 (.p .mv) [(.t 3)], iR 52 (.p .mv) [(.t 5)],
    iR 53 (.p (.slSlice 1 true false false)) [(.t 51), (.t 52)], iR 54 (.e (.copy 1)) [(.t 50), (.t 53)]]) (.keep [0, 3, 4, 5] (.reg [iR 55 (.p .mv) [(.t 3)], iR 56 (.p .mv) [(.t 5)], iR 57 (.p .mv) [(.t 0)], iR 58 (.p .mv) [(.t 4)], iR 59 (.p (.slIdx 1)) [(.t 57), (.t 58)], iR 60 (.l (.load none)) [(.t 59)], iR 61 (.p (.slIdx 1)) [(.t 55), (.t 56)], ⟨none, none, (.e (.store 1)), [(.t 61), (.t 60)], none⟩])))))))))))) (.keep [0, 3, 4] (.reg [iR 10 (.p .mv) [(.t 4)], iR 11 (.p (.bin .add)) [(.t 10), (.c (.int .i64 (.ofNat 1)))], iR 4 (.p .mv) [(.t 11)]])))))))))) (.keep [3] (.seq (.reg [iR 62 (.p .mv) [(.t 3)], iR 2 (.p .mv) [(.t 62)]]) (.keep [2] (.keep [2] .ret))))))))), [(.t 2)]⟩
def s_ref1_Sorted_j0 (call : CallK) (N : Nat) (q : KV) (st : St) (τ : Tape) : Ans := match st with
  | ⟨fr, H⟩ => getK fr 3 fun t3 => q t3 H τ
def s_ref1_Sorted_j2 (call : CallK) (N : Nat) (k : KC) (st : St) (τ : Tape) : Ans := match st with
  | ⟨fr, H⟩ => getK fr 0 fun t0 => getK fr 3 fun t3 => getK fr 4 fun t4 => binK .add t4 (.int .i64 (.ofNat 1)) fun v2 => k .normal ⟨(T.set (T.set (T.set (T.set (T.set (T.set .leaf 0 t0) 3 t3) 4 t4) 10 t4) 11 v2) 4 v2), H⟩ τ
def s_ref1_Sorted_j3 (call : CallK) (N : Nat) (k : KC) (st : St) (τ : Tape) : Ans := match st with
  | ⟨fr, H⟩ => getK fr 0 fun t0 => getK fr 3 fun t3 => getK fr 4 fun t4 => getK fr 5 fun t5 => someK (pLen [t3]) fun v3 => binK .lss t5 v3 fun v4 => gK v4 true (fun q' => q' t3 H τ) H τ fun v5 H6 τ7 => gK v4 true (fun q' => q' t5 H6 τ7) H6 τ7 fun v8 H9 τ10 => gK v4 true (fun q' => someK (pSlIdx 1 [v5, v8]) fun v => q' v H9 τ10) H9 τ10 fun v11 H12 τ13 => gK v4 true (fun q' => someK (lLoad1 [v11] H12) fun v => q' v H12 τ13) H12 τ13 fun v14 H15 τ16 => gK v4 true (fun q' => q' t0 H15 τ16) H15 τ16 fun v17 H18 τ19 => gK v4 true (fun q' => q' t4 H18 τ19) H18 τ19 fun v20 H21 τ22 => gK v4 true (fun q' => someK (pSlIdx 1 [v17, v20]) fun v => q' v H21 τ22) H21 τ22 fun v23 H24 τ25 => gK v4 true (fun q' => someK (lLoad1 [v23] H24) fun v => q' v H24 τ25) H24 τ25 fun v26 H27 τ28 => gK v4 true (fun q' => binK .eql v14 v26 fun v => q' v H27 τ28) H27 τ28 fun v29 H30 τ31 =>
    someK (pPick [v4, v29, (.bool false)]) fun v32 => condK v32 (s_ref1_Sorted_j2 call N k ⟨(T.set (T.set (T.set .leaf 0 t0) 3 t3) 4 t4), H30⟩ τ31) (effK (eBuildSlice 1 1 [(.str [])] [(0, 1)] [(.str [])] H30 τ31) fun v33 H34 τ35 => effK (eAppend 1 16 [t3, v33] H34 τ35) fun v36 H37 τ38 => binK .add t5 (.int .i64 (.ofNat 1)) fun v39 => someK (pSlSlice 1 true false false [v36, v39]) fun v40 => someK (pSlSlice 1 true false false [v36, t5]) fun v41 => effK (eCopy 1 [v40, v41] H37 τ38) fun v42 H43 τ44 => someK (pSlIdx 1 [t0, t4]) fun v45 => someK (lLoad1 [v45] H43) fun v46 => someK (pSlIdx 1 [v36, t5]) fun v47 => effK (eStore 1 [v47, v46] H43 τ44) fun v48 H49 τ50 => s_ref1_Sorted_j2 call N k ⟨(T.set (T.set (T.set (T.set (T.set (T.set (T.set (T.set (T.set (T.set (T.set .leaf 0 t0) 3 v36) 4 t4) 5 t5) 55 v36) 56 t5) 57 t0) 58 t4) 59 v45) 60 v46) 61 v47), H49⟩ τ50)
def s_ref1_Sorted_l4 (call : CallK) (N : Nat) (st : St) (τ : Tape) (k : KC) : Ans := match st with
  | ⟨fr, H⟩ => getK fr 0 fun t0 => getK fr 3 fun t3 => getK fr 4 fun t4 => getK fr 5 fun t5 => someK (pLen [t3]) fun v51 => binK .lss t5 v51 fun v52 => gK v52 true (fun q' => q' t3 H τ) H τ fun v53 H54 τ55 => gK v52 true (fun q' => q' t5 H54 τ55) H54 τ55 fun v56 H57 τ58 => gK v52 true (fun q' => someK (pSlIdx 1 [v53, v56]) fun v => q' v H57 τ58) H57 τ58 fun v59 H60 τ61 => gK v52 true (fun q' => someK (lLoad1 [v59] H60) fun v => q' v H60 τ61) H60 τ61 fun v62 H63 τ64 => gK v52 true (fun q' => q' t0 H63 τ64) H63 τ64 fun v65 H66 τ67 => gK v52 true (fun q' => q' t4 H66 τ67) H66 τ67 fun v68 H69 τ70 => gK v52 true (fun q' => someK (pSlIdx 1 [v65, v68]) fun v => q' v H69 τ70) H69 τ70 fun v71 H72 τ73 => gK v52 true (fun q' => someK (lLoad1 [v71] H72) fun v => q' v H72 τ73) H72 τ73 fun v74 H75 τ76 => gK v52 true (fun q' => binK .lss v62 v74 fun v => q' v H75 τ76) H75 τ76 fun v77 H78 τ79 =>
    someK (pPick [v52, v77, (.bool false)]) fun v80 => condK v80 (binK .add t5 (.int .i64 (.ofNat 1)) fun v81 => k .normal ⟨(T.set (T.set (T.set (T.set (T.set (T.set (T.set .leaf 0 t0) 3 t3) 4 t4) 5 t5) 27 t5) 28 v81) 5 v81), H78⟩ τ79) (k (.exit 2) ⟨(T.set (T.set (T.set (T.set .leaf 0 t0) 3 t3) 4 t4) 5 t5), H78⟩ τ79)
def s_ref1_Sorted_l1 (call : CallK) (N : Nat) (st : St) (τ : Tape) (k : KC) : Ans := match st with
  | ⟨fr, H⟩ => getK fr 0 fun t0 => getK fr 3 fun t3 => getK fr 4 fun t4 => someK (pLen [t0]) fun v0 => binK .lss t4 v0 fun v1 => condK v1 (loopK (s_ref1_Sorted_l4 call N) N ⟨(T.set (T.set (T.set (T.set .leaf 0 t0) 3 t3) 4 t4) 5 (.int .i64 (.ofNat 0))), H⟩ τ (blockK 2 (seqK (s_ref1_Sorted_j3 call N k) (blockK 1 (seqK (s_ref1_Sorted_j2 call N k) k))))) (k (.exit 0) ⟨(T.set .leaf 3 t3), H⟩ τ)
def s_ref1_Sorted (call : CallK) (N : Nat) (a0 : V) (H : Heap) (τ : Tape) (q : KV) : Ans := loopK (s_ref1_Sorted_l1 call N) N ⟨(T.set (T.set (T.set .leaf 0 a0) 3 .nils) 4 (.int .i64 (.ofNat 0))), H⟩ τ (blockK 0 (seqK (s_ref1_Sorted_j0 call N q) (endK [(.t 2)] q)))
theorem s_ref1_Sorted_eq (call : CallK) (N : Nat) (a0 : V) (H : Heap) (τ : Tape) (q : KV) : s_ref1_Sorted call N a0 H τ q = funK call N fn_ref1_Sorted [a0] H τ q := by kernel_rfl
def e_ref1_Sorted (call : CallK) (N : Nat) (vs : List V) (H : Heap) (τ : Tape) (q : KV) : Ans := match vs with | [a0] => s_ref1_Sorted call N a0 H τ q | _ => none
theorem e_ref1_Sorted_ok : EntOk fn_ref1_Sorted e_ref1_Sorted := by
  intro call N vs H τ q r h
  unfold e_ref1_Sorted at h
  split at h
  · rw [s_ref1_Sorted_eq] at h; exact h
  · cases h
theorem e_ref1_Sorted_nat : EntNat e_ref1_Sorted := by
  intro c hn N vs H τ q
  unfold e_ref1_Sorted
  split
  · rw [s_ref1_Sorted_eq, s_ref1_Sorted_eq]; exact funK_ent hn _ _ _ _ _ _
  · rfl
/-- strings.HasPrefix -/
def fn_strings_HasPrefix : Fun := ⟨2, (.seq (.reg [iR 4 (.p .mv) [(.c (.bool false))]]) (.keep [0, 1] (.seq (.reg [iR 5 (.p .mv) [(.t 0)], iR 6 (.p .mv) [(.t 1)], iR 7 (.call 89) [(.t 5), (.t 6)], iR 4 (.p .mv) [(.t 7)]]) (.keep [4] (.keep [4] .ret))))), [(.t 4)]⟩
def s_strings_HasPrefix (call : CallK) (N : Nat) (a0 a1 : V) (H : Heap) (τ : Tape) (q : KV) : Ans := call f_stringslite_HasPrefix [a0, a1] H τ fun v0 H1 τ2 => q v0 H1 τ2
theorem s_strings_HasPrefix_eq (call : CallK) (N : Nat) (a0 a1 : V) (H : Heap) (τ : Tape) (q : KV) : s_strings_HasPrefix call N a0 a1 H τ q = funK call N fn_strings_HasPrefix [a0, a1] H τ q := by kernel_rfl
def e_strings_HasPrefix (call : CallK) (N : Nat) (vs : List V) (H : Heap) (τ : Tape) (q : KV) : Ans := match vs with | [a0, a1] => s_strings_HasPrefix call N a0 a1 H τ q | _ => none
theorem e_strings_HasPrefix_ok : EntOk fn_strings_HasPrefix e_strings_HasPrefix := by
  intro call N vs H τ q r h
  unfold e_strings_HasPrefix at h
  split at h
  · rw [s_strings_HasPrefix_eq] at h; exact h
  · cases h
theorem e_strings_HasPrefix_nat : EntNat e_strings_HasPrefix := by
  intro c hn N vs H τ q
  unfold e_strings_HasPrefix
  split
  · rw [s_strings_HasPrefix_eq, s_strings_HasPrefix_eq]; exact funK_ent hn _ _ _ _ _ _
  · rfl
/-- ostiary/ostiaryref1.Has -/
def fn_ref1_Has : Fun := ⟨2, (.seq (.reg [iR 4 (.p .mv) [(.c (.bool false))]]) (.keep [0, 1] (.seq (.seq (.reg [iR 5 (.p .mv) [(.c (.int .i64 (.ofNat 0)))]]) (.keep [0, 1, 5] (.block 0 (.loop (.keep [0, 1, 5] (.seq (.seq (.reg [iR 6 (.p .mv) [(.t 5)], iR 7 (.p .mv) [(.t 0)], iR 8 (.p .len) [(.t 7)], iR 9 (.p (.bin .lss)) [(.t 6), (.t 8)]]) (.keep [0, 1, 5, 9] (.cond (.t 9) .skip (.keep [] (.exit 0))))) (.keep [0, 1, 5] (.seq (.block 1 (.seq (.reg [iR 12 (.p .mv) [(.t 0)], iR 13 (.p .mv) [(.t 5)], iR 14 (.p (.slIdx 1)) [(.t 12), (.t 13)], iR 15 (.l (.load none)) [(.t 14)], iR 16 (.p .mv) [(.t 1)], iR 17 (.p (.bin .eql)) [(.t 15), (.t 16)]]) (.keep [0, 1, 5, 17] (.cond (.t 17) (.seq (.reg [iR 4 (.p .mv) [(.c (.bool true))]]) (.keep [4] (.keep [4] .ret))) .skip)))) (.keep [0, 1, 5] (.reg [iR 10 (.p .mv) [(.t 5)], iR 11 (.p (.bin .add)) [(.t 10), (.c (.int .i64 (.ofNat 1)))],
    iR 5 (.p .mv) [(.t 11)]])))))))))) (.keep [] (.seq (.reg [iR 4 (.p .mv) [(.c (.bool false))]]) (.keep [4] (.keep [4] .ret))))))), [(.t 4)]⟩
def s_ref1_Has_j0 (call : CallK) (N : Nat) (q : KV) (st : St) (τ : Tape) : Ans := match st with
  | ⟨fr, H⟩ => q (.bool false) H τ
def s_ref1_Has_l1 (call : CallK) (N : Nat) (st : St) (τ : Tape) (k : KC) : Ans := match st with
  | ⟨fr, H⟩ => getK fr 0 fun t0 => getK fr 1 fun t1 => getK fr 5 fun t5 => someK (pLen [t0]) fun v0 => binK .lss t5 v0 fun v1 => condK v1 (someK (pSlIdx 1 [t0, t5]) fun v2 => someK (lLoad1 [v2] H) fun v3 => binK .eql v3 t1 fun v4 => condK v4 (k .ret ⟨(T.set .leaf 4 (.bool true)), H⟩ τ) (binK .add t5 (.int .i64 (.ofNat 1)) fun v5 => k .normal ⟨(T.set (T.set (T.set (T.set (T.set (T.set .leaf 0 t0) 1 t1) 5 t5) 10 t5) 11 v5) 5 v5), H⟩ τ)) (k (.exit 0) ⟨.leaf, H⟩ τ)
def s_ref1_Has (call : CallK) (N : Nat) (a0 a1 : V) (H : Heap) (τ : Tape) (q : KV) : Ans := loopK (s_ref1_Has_l1 call N) N ⟨(T.set (T.set (T.set .leaf 0 a0) 1 a1) 5 (.int .i64 (.ofNat 0))), H⟩ τ (blockK 0 (seqK (s_ref1_Has_j0 call N q) (endK [(.t 4)] q)))
theorem s_ref1_Has_eq (call : CallK) (N : Nat) (a0 a1 : V) (H : Heap) (τ : Tape) (q : KV) : s_ref1_Has call N a0 a1 H τ q = funK call N fn_ref1_Has [a0, a1] H τ q := by kernel_rfl
def e_ref1_Has (call : CallK) (N : Nat) (vs : List V) (H : Heap) (τ : Tape) (q : KV) : Ans := match vs with | [a0, a1] => s_ref1_Has call N a0 a1 H τ q | _ => none
theorem e_ref1_Has_ok : EntOk fn_ref1_Has e_ref1_Has := by
  intro call N vs H τ q r h
  unfold e_ref1_Has at h
  split at h
  · rw [s_ref1_Has_eq] at h; exact h
  · cases h
theorem e_ref1_Has_nat : EntNat e_ref1_Has := by
  intro c hn N vs H τ q
  unfold e_ref1_Has
  split
  · rw [s_ref1_Has_eq, s_ref1_Has_eq]; exact funK_ent hn _ _ _ _ _ _
  · rfl
/-- ostiary/headers.un-safe -/
def fn_headers_unsafe : Fun := ⟨1, (.seq (.reg [iR 2 (.p .mv) [(.c (.bool false))]]) (.keep [0] (.seq (.seq (.reg [iR 5 (.p .mv) [(.t 0)], iR 6 (.p .lenS) [(.t 5)], iR 7 (.p .mv) [(.c (.int .i64 (.ofNat 0)))]]) (.keep [0, 6, 7] (.block 0 (.loop (.keep [0, 6, 7] (.seq (.reg [iR 8 (.p (.bin .lss)) [(.t 7), (.t 6)]]) (.keep [0, 6, 7, 8] (.seq (.cond (.t 8) .skip (.keep [] (.exit 0))) (.keep [0, 6, 7] (.seq (.block 1 (.seq (.reg [iR 9 (.p .mv) [(.t 7)], iR 3 (.p .mv) [(.t 9)]]) (.keep [0, 3, 6, 7] (.seq (.reg [iR 10 (.p .mv) [(.t 0)], iR 11 (.p .mv) [(.t 3)], iR 12 (.p .strIndex) [(.t 10), (.t 11)], iR 4 (.p .mv) [(.t 12)]]) (.keep [0, 4, 6, 7] (.seq (.reg [iR 13 (.p .mv) [(.t 4)], iR 14 (.p (.bin .lss)) [(.t 13), (.c (.int .u8 (.ofNat 32)))], iR 15 (.p .mv) [(.t 14)], iG 16 15 true (.p .mv) [(.t 4)], iG 17 15 true (.p (.bin .neq)) [(.t 16), (.c (.int .u8 (.ofNat 9)))],
    iR 18 (.p .pick) [(.t 15), (.t 17), (.c (.bool false))], iR 19 (.p .mv) [(.t 18)], iG 20 19 false (.p .mv) [(.t 4)], iG 21 19 false (.p (.bin .eql)) [(.t 20), (.c (.int .u8 (.ofNat 127)))], iR 22 (.p .pick) [(.t 19), (.c (.bool true)), (.t 21)], iR 23 (.p .mv) [(.t 22)], iG 24 23 false (.p .mv) [(.t 4)], iG 25 23 false (.call 90) [(.c (.str (bs [34, 40, 41, 58, 60, 62, 63, 64, 91, 92, 93, 123, 125]))), (.t 24)], iG 26 23 false (.p (.bin .geq)) [(.t 25), (.c (.int .i64 (.ofNat 0)))], iR 27 (.p .pick) [(.t 23), (.c (.bool true)), (.t 26)]]) (.keep [0, 6, 7, 27] (.cond (.t 27) (.seq (.reg [iR 2 (.p .mv) [(.c (.bool true))]]) (.keep [2] (.keep [2] .ret))) .skip)))))))) (.keep [0, 6, 7] (.reg [iR 28 (.p (.bin .add)) [(.t 7), (.c (.int .i64 (.ofNat 1)))], iR 7 (.p .mv) [(.t 28)]])))))))))))) (.keep [] (.seq (.reg [iR 2 (.p .mv) [(.c (.bool false))]]) (.keep [2] (.keep [2] .ret))))))),
    [(.t 2)]⟩
def s_headers_unsafe_j0 (call : CallK) (N : Nat) (q : KV) (st : St) (τ : Tape) : Ans := match st with
  | ⟨fr, H⟩ => q (.bool false) H τ
def s_headers_unsafe_l1 (call : CallK) (N : Nat) (st : St) (τ : Tape) (k : KC) : Ans := match st with
  | ⟨fr, H⟩ => getK fr 0 fun t0 => getK fr 6 fun t6 => getK fr 7 fun t7 => binK .lss t7 t6 fun v1 => condK v1 (someK (pStrIndex [t0, t7]) fun v2 => binK .lss v2 (.int .u8 (.ofNat 32)) fun v3 => gK v3 true (fun q' => q' v2 H τ) H τ fun v4 H5 τ6 => gK v3 true (fun q' => binK .neq v4 (.int .u8 (.ofNat 9)) fun v => q' v H5 τ6) H5 τ6 fun v7 H8 τ9 => someK (pPick [v3, v7, (.bool false)]) fun v10 => gK v10 false (fun q' => q' v2 H8 τ9) H8 τ9 fun v11 H12 τ13 => gK v10 false (fun q' => binK .eql v11 (.int .u8 (.ofNat 127)) fun v => q' v H12 τ13) H12 τ13 fun v14 H15 τ16 => someK (pPick [v10, (.bool true), v14]) fun v17 => gK v17 false (fun q' => q' v2 H15 τ16) H15 τ16 fun v18 H19 τ20 => gK v17 false (fun q' => call f_strings_IndexByte [(.str (bs [34, 40, 41, 58, 60, 62, 63, 64, 91, 92, 93, 123, 125])), v18] H19 τ20 q') H19 τ20 fun v21 H22 τ23 =>
    gK v17 false (fun q' => binK .geq v21 (.int .i64 (.ofNat 0)) fun v => q' v H22 τ23) H22 τ23 fun v24 H25 τ26 => someK (pPick [v17, (.bool true), v24]) fun v27 => condK v27 (k .ret ⟨(T.set .leaf 2 (.bool true)), H25⟩ τ26) (binK .add t7 (.int .i64 (.ofNat 1)) fun v28 => k .normal ⟨(T.set (T.set (T.set (T.set (T.set .leaf 0 t0) 6 t6) 7 t7) 28 v28) 7 v28), H25⟩ τ26)) (k (.exit 0) ⟨.leaf, H⟩ τ)
def s_headers_unsafe (call : CallK) (N : Nat) (a0 : V) (H : Heap) (τ : Tape) (q : KV) : Ans := someK (pLenS [a0]) fun v0 => loopK (s_headers_unsafe_l1 call N) N ⟨(T.set (T.set (T.set .leaf 0 a0) 6 v0) 7 (.int .i64 (.ofNat 0))), H⟩ τ (blockK 0 (seqK (s_headers_unsafe_j0 call N q) (endK [(.t 2)] q)))
theorem s_headers_unsafe_eq (call : CallK) (N : Nat) (a0 : V) (H : Heap) (τ : Tape) (q : KV) : s_headers_unsafe call N a0 H τ q = funK call N fn_headers_unsafe [a0] H τ q := by kernel_rfl
def e_headers_unsafe (call : CallK) (N : Nat) (vs : List V) (H : Heap) (τ : Tape) (q : KV) : Ans := match vs with | [a0] => s_headers_unsafe call N a0 H τ q | _ => none
theorem e_headers_unsafe_ok : EntOk fn_headers_unsafe e_headers_unsafe := by
  intro call N vs H τ q r h
  unfold e_headers_unsafe at h
  split at h
  · rw [s_headers_unsafe_eq] at h; exact h
  · cases h
theorem e_headers_unsafe_nat : EntNat e_headers_unsafe := by
  intro c hn N vs H τ q
  unfold e_headers_unsafe
  split
  · rw [s_headers_unsafe_eq, s_headers_unsafe_eq]; exact funK_ent hn _ _ _ _ _ _
  · rfl
/-- ostiary/headers.tongues -/
def fn_headers_tongues : Fun := ⟨1, (.seq (.reg [iR 2 (.p .mv) [(.c (.bool false))]]) (.keep [0] (.seq (.seq (.reg [iR 5 (.p .mv) [(.t 0)], iR 6 (.p .lenS) [(.t 5)], iR 7 (.p .mv) [(.c (.int .i64 (.ofNat 0)))]]) (.keep [0, 6, 7] (.block 0 (.loop (.keep [0, 6, 7] (.seq (.reg [iR 8 (.p (.bin .lss)) [(.t 7), (.t 6)]]) (.keep [0, 6, 7, 8] (.seq (.cond (.t 8) .skip (.keep [] (.exit 0))) (.keep [0, 6, 7] (.seq (.block 1 (.seq (.reg [iR 9 (.p .mv) [(.t 7)], iR 3 (.p .mv) [(.t 9)]]) (.keep [0, 3, 6, 7] (.seq (.reg [iR 10 (.p .mv) [(.t 0)], iR 11 (.p .mv) [(.t 3)], iR 12 (.p .strIndex) [(.t 10), (.t 11)], iR 4 (.p .mv) [(.t 12)]]) (.keep [0, 4, 6, 7] (.seq (.reg [iR 13 (.p .mv) [(.t 4)], iR 14 (.p (.bin .geq)) [(.t 13), (.c (.int .u8 (.ofNat 97)))], iR 15 (.p .mv) [(.t 14)], iG 16 15 true (.p .mv) [(.t 4)], iG 17 15 true (.p (.bin .leq)) [(.t 16), (.c (.int .u8 (.ofNat 122)))],
    iR 18 (.p .pick) [(.t 15), (.t 17), (.c (.bool false))], iR 19 (.p .mv) [(.t 18)], iG 20 19 false (.p .mv) [(.t 4)], iG 21 19 false (.p (.bin .geq)) [(.t 20), (.c (.int .u8 (.ofNat 65)))], iG 22 19 false (.p .mv) [(.t 21)], iG 23 22 true (.p .mv) [(.t 4)], iG 24 22 true (.p (.bin .leq)) [(.t 23), (.c (.int .u8 (.ofNat 90)))], iG 25 19 false (.p .pick) [(.t 22), (.t 24), (.c (.bool false))], iR 26 (.p .pick) [(.t 19), (.c (.bool true)), (.t 25)], iR 27 (.p .mv) [(.t 26)], iG 28 27 false (.p .mv) [(.t 4)], iG 29 27 false (.p (.bin .geq)) [(.t 28), (.c (.int .u8 (.ofNat 48)))], iG 30 27 false (.p .mv) [(.t 29)], iG 31 30 true (.p .mv) [(.t 4)], iG 32 30 true (.p (.bin .leq)) [(.t 31), (.c (.int .u8 (.ofNat 57)))], iG 33 27 false (.p .pick) [(.t 30), (.t 32), (.c (.bool false))], iR 34 (.p .pick) [(.t 27), (.c (.bool true)), (.t 33)], iR 35 (.p (.un .not)) [(.t 34)],
    iR 36 (.p .mv) [(.t 35)], iG 37 36 true (.p .mv) [(.t 4)], iG 38 36 true (.call 90) [(.c (.str (bs [32, 42, 44, 45, 46, 59, 61]))), (.t 37)], iG 39 36 true (.p (.bin .lss)) [(.t 38), (.c (.int .i64 (.ofNat 0)))], iR 40 (.p .pick) [(.t 36), (.t 39), (.c (.bool false))]]) (.keep [0, 6, 7, 40] (.cond (.t 40) (.seq (.reg [iR 2 (.p .mv) [(.c (.bool false))]]) (.keep [2] (.keep [2] .ret))) .skip)))))))) (.keep [0, 6, 7] (.reg [iR 41 (.p (.bin .add)) [(.t 7), (.c (.int .i64 (.ofNat 1)))], iR 7 (.p .mv) [(.t 41)]])))))))))))) (.keep [] (.seq (.reg [iR 2 (.p .mv) [(.c (.bool true))]]) (.keep [2] (.keep [2] .ret))))))), [(.t 2)]⟩
def s_headers_tongues_j0 (call : CallK) (N : Nat) (q : KV) (st : St) (τ : Tape) : Ans := match st with
  | ⟨fr, H⟩ => q (.bool true) H τ
def s_headers_tongues_l1 (call : CallK) (N : Nat) (st : St) (τ : Tape) (k : KC) : Ans := match st with
  | ⟨fr, H⟩ => getK fr 0 fun t0 => getK fr 6 fun t6 => getK fr 7 fun t7 => binK .lss t7 t6 fun v1 => condK v1 (someK (pStrIndex [t0, t7]) fun v2 => binK .geq v2 (.int .u8 (.ofNat 97)) fun v3 => gK v3 true (fun q' => q' v2 H τ) H τ fun v4 H5 τ6 => gK v3 true (fun q' => binK .leq v4 (.int .u8 (.ofNat 122)) fun v => q' v H5 τ6) H5 τ6 fun v7 H8 τ9 => someK (pPick [v3, v7, (.bool false)]) fun v10 => gK v10 false (fun q' => q' v2 H8 τ9) H8 τ9 fun v11 H12 τ13 => gK v10 false (fun q' => binK .geq v11 (.int .u8 (.ofNat 65)) fun v => q' v H12 τ13) H12 τ13 fun v14 H15 τ16 => gK v10 false (fun q' => q' v14 H15 τ16) H15 τ16 fun v17 H18 τ19 => gK v17 true (fun q' => q' v2 H18 τ19) H18 τ19 fun v20 H21 τ22 => gK v17 true (fun q' => binK .leq v20 (.int .u8 (.ofNat 90)) fun v => q' v H21 τ22) H21 τ22 fun v23 H24 τ25 =>
    gK v10 false (fun q' => someK (pPick [v17, v23, (.bool false)]) fun v => q' v H24 τ25) H24 τ25 fun v26 H27 τ28 => someK (pPick [v10, (.bool true), v26]) fun v29 => gK v29 false (fun q' => q' v2 H27 τ28) H27 τ28 fun v30 H31 τ32 => gK v29 false (fun q' => binK .geq v30 (.int .u8 (.ofNat 48)) fun v => q' v H31 τ32) H31 τ32 fun v33 H34 τ35 => gK v29 false (fun q' => q' v33 H34 τ35) H34 τ35 fun v36 H37 τ38 => gK v36 true (fun q' => q' v2 H37 τ38) H37 τ38 fun v39 H40 τ41 => gK v36 true (fun q' => binK .leq v39 (.int .u8 (.ofNat 57)) fun v => q' v H40 τ41) H40 τ41 fun v42 H43 τ44 => gK v29 false (fun q' => someK (pPick [v36, v42, (.bool false)]) fun v => q' v H43 τ44) H43 τ44 fun v45 H46 τ47 => someK (pPick [v29, (.bool true), v45]) fun v48 => unK .not v48 fun v49 => gK v49 true (fun q' => q' v2 H46 τ47) H46 τ47 fun v50 H51 τ52 =>
    gK v49 true (fun q' => call f_strings_IndexByte [(.str (bs [32, 42, 44, 45, 46, 59, 61])), v50] H51 τ52 q') H51 τ52 fun v53 H54 τ55 => gK v49 true (fun q' => binK .lss v53 (.int .i64 (.ofNat 0)) fun v => q' v H54 τ55) H54 τ55 fun v56 H57 τ58 => someK (pPick [v49, v56, (.bool false)]) fun v59 => condK v59 (k .ret ⟨(T.set .leaf 2 (.bool false)), H57⟩ τ58) (binK .add t7 (.int .i64 (.ofNat 1)) fun v60 => k .normal ⟨(T.set (T.set (T.set (T.set (T.set .leaf 0 t0) 6 t6) 7 t7) 41 v60) 7 v60), H57⟩ τ58)) (k (.exit 0) ⟨.leaf, H⟩ τ)
def s_headers_tongues (call : CallK) (N : Nat) (a0 : V) (H : Heap) (τ : Tape) (q : KV) : Ans := someK (pLenS [a0]) fun v0 => loopK (s_headers_tongues_l1 call N) N ⟨(T.set (T.set (T.set .leaf 0 a0) 6 v0) 7 (.int .i64 (.ofNat 0))), H⟩ τ (blockK 0 (seqK (s_headers_tongues_j0 call N q) (endK [(.t 2)] q)))
theorem s_headers_tongues_eq (call : CallK) (N : Nat) (a0 : V) (H : Heap) (τ : Tape) (q : KV) : s_headers_tongues call N a0 H τ q = funK call N fn_headers_tongues [a0] H τ q := by kernel_rfl
def e_headers_tongues (call : CallK) (N : Nat) (vs : List V) (H : Heap) (τ : Tape) (q : KV) : Ans := match vs with | [a0] => s_headers_tongues call N a0 H τ q | _ => none
theorem e_headers_tongues_ok : EntOk fn_headers_tongues e_headers_tongues := by
  intro call N vs H τ q r h
  unfold e_headers_tongues at h
  split at h
  · rw [s_headers_tongues_eq] at h; exact h
  · cases h
theorem e_headers_tongues_nat : EntNat e_headers_tongues := by
  intro c hn N vs H τ q
  unfold e_headers_tongues
  split
  · rw [s_headers_tongues_eq, s_headers_tongues_eq]; exact funK_ent hn _ _ _ _ _ _
  · rfl
/-- ostiary/infra.Strip -/
def fn_infra_Strip : Fun := ⟨1, (.seq (.reg [iR 2 (.p .mv) [(.c (.str []))]]) (.keep [0] (.seq (.reg [iR 3 (.p .mv) [(.t 0)], iR 4 (.call 36) [(.t 3), (.c (.str (bs [9, 10, 12, 13, 32])))], iR 2 (.p .mv) [(.t 4)]]) (.keep [2] (.keep [2] .ret))))), [(.t 2)]⟩
def s_infra_Strip (call : CallK) (N : Nat) (a0 : V) (H : Heap) (τ : Tape) (q : KV) : Ans := call f_strings_Trim [a0, (.str (bs [9, 10, 12, 13, 32]))] H τ fun v0 H1 τ2 => q v0 H1 τ2
theorem s_infra_Strip_eq (call : CallK) (N : Nat) (a0 : V) (H : Heap) (τ : Tape) (q : KV) : s_infra_Strip call N a0 H τ q = funK call N fn_infra_Strip [a0] H τ q := by kernel_rfl
def e_infra_Strip (call : CallK) (N : Nat) (vs : List V) (H : Heap) (τ : Tape) (q : KV) : Ans := match vs with | [a0] => s_infra_Strip call N a0 H τ q | _ => none
theorem e_infra_Strip_ok : EntOk fn_infra_Strip e_infra_Strip := by
  intro call N vs H τ q r h
  unfold e_infra_Strip at h
  split at h
  · rw [s_infra_Strip_eq] at h; exact h
  · cases h
theorem e_infra_Strip_nat : EntNat e_infra_Strip := by
  intro c hn N vs H τ q
  unfold e_infra_Strip
  split
  · rw [s_infra_Strip_eq, s_infra_Strip_eq]; exact funK_ent hn _ _ _ _ _ _
  · rfl
/-- ostiary/ostiaryref5.un-safe -/
def fn_ref5_unsafe : Fun := ⟨1, (.seq (.reg [iR 2 (.p .mv) [(.c (.bool false))]]) (.keep [0] (.seq (.seq (.reg [iR 3 (.p .mv) [(.c (.int .i64 (.ofNat 0)))]]) (.keep [0, 3] (.block 0 (.loop (.keep [0, 3] (.seq (.seq (.reg [iR 5 (.p .mv) [(.t 3)], iR 6 (.p .mv) [(.t 0)], iR 7 (.p .lenS) [(.t 6)], iR 8 (.p (.bin .lss)) [(.t 5), (.t 7)]]) (.keep [0, 3, 8] (.cond (.t 8) .skip (.keep [] (.exit 0))))) (.keep [0, 3] (.seq (.block 1 (.seq (.seq (.reg [iR 11 (.p .mv) [(.t 0)], iR 12 (.p .mv) [(.t 3)], iR 13 (.p .strIndex) [(.t 11), (.t 12)], iR 14 (.p (.bin .lss)) [(.t 13), (.c (.int .u8 (.ofNat 32)))], iR 15 (.p .mv) [(.t 14)], iG 16 15 true (.p .mv) [(.t 0)], iG 17 15 true (.p .mv) [(.t 3)], iG 18 15 true (.p .strIndex) [(.t 16), (.t 17)], iG 19 15 true (.p (.bin .neq)) [(.t 18), (.c (.int .u8 (.ofNat 9)))], iR 20 (.p .pick) [(.t 15), (.t 19), (.c (.bool false))],
    iR 21 (.p .mv) [(.t 20)], iG 22 21 false (.p .mv) [(.t 0)], iG 23 21 false (.p .mv) [(.t 3)], iG 24 21 false (.p .strIndex) [(.t 22), (.t 23)], iG 25 21 false (.p (.bin .eql)) [(.t 24), (.c (.int .u8 (.ofNat 127)))], iR 26 (.p .pick) [(.t 21), (.c (.bool true)), (.t 25)]]) (.keep [0, 3, 26] (.cond (.t 26) (.seq (.reg [iR 2 (.p .mv) [(.c (.bool true))]]) (.keep [2] (.keep [2] .ret))) .skip))) (.keep [0, 3] (.seq (.reg [iR 4 (.p .mv) [(.c (.int .i64 (.ofNat 0)))]]) (.keep [0, 3, 4] (.block 2 (.loop (.keep [0, 3, 4] (.seq (.seq (.reg [iR 27 (.p .mv) [(.t 4)], iR 28 (.p (.bin .lss)) [(.t 27), (.c (.int .i64 (.ofNat 13)))]]) (.keep [0, 3, 4, 28] (.cond (.t 28) .skip (.keep [0, 3] (.exit 2))))) (.keep [0, 3, 4] (.seq (.block 3 (.seq (.draw [iR 31 (.p .mv) [(.t 0)], iR 32 (.p .mv) [(.t 3)], iR 33 (.p .strIndex) [(.t 31), (.t 32)], iR 34 (.p .mv) [(.t 4)],
    iR 35 (.p .strIndex) [(.c (.str (bs [34, 40, 41, 58, 60, 62, 63, 64, 91, 92, 93, 123, 125]))), (.t 34)], iR 36 (.p (.bin .eql)) [(.t 33), (.t 35)]]) (.keep [0, 3, 4, 36] (.cond (.t 36) (.seq (.reg [iR 2 (.p .mv) [(.c (.bool true))]]) (.keep [2] (.keep [2] .ret))) .skip)))) (.keep [0, 3, 4] (.reg [iR 29 (.p .mv) [(.t 4)], iR 30 (.p (.bin .add)) [(.t 29), (.c (.int .i64 (.ofNat 1)))], iR 4 (.p .mv) [(.t 30)]]))))))))))))) (.keep [0, 3] (.reg [iR 9 (.p .mv) [(.t 3)], iR 10 (.p (.bin .add)) [(.t 9), (.c (.int .i64 (.ofNat 1)))], iR 3 (.p .mv) [(.t 10)]])))))))))) (.keep [] (.seq (.reg [iR 2 (.p .mv) [(.c (.bool false))]]) (.keep [2] (.keep [2] .ret))))))), [(.t 2)]⟩
def s_ref5_unsafe_j0 (call : CallK) (N : Nat) (q : KV) (st : St) (τ : Tape) : Ans := match st with
  | ⟨fr, H⟩ => q (.bool false) H τ
def s_ref5_unsafe_j2 (call : CallK) (N : Nat) (k : KC) (st : St) (τ : Tape) : Ans := match st with
  | ⟨fr, H⟩ => getK fr 0 fun t0 => getK fr 3 fun t3 => binK .add t3 (.int .i64 (.ofNat 1)) fun v2 => k .normal ⟨(T.set (T.set (T.set (T.set (T.set .leaf 0 t0) 3 t3) 9 t3) 10 v2) 3 v2), H⟩ τ
def s_ref5_unsafe_l3 (call : CallK) (N : Nat) (st : St) (τ : Tape) (k : KC) : Ans := match st with
  | ⟨fr, H⟩ => getK fr 0 fun t0 => getK fr 3 fun t3 => getK fr 4 fun t4 => binK .lss t4 (.int .i64 (.ofNat 13)) fun v31 => condK v31 (someK (pStrIndex [t0, t3]) fun v32 => someK (pStrIndex [(.str (bs [34, 40, 41, 58, 60, 62, 63, 64, 91, 92, 93, 123, 125])), t4]) fun v33 => binK .eql v32 v33 fun v34 => condK v34 (k .ret ⟨(T.set .leaf 2 (.bool true)), H⟩ τ) (binK .add t4 (.int .i64 (.ofNat 1)) fun v35 => k .normal ⟨(T.set (T.set (T.set (T.set (T.set (T.set .leaf 0 t0) 3 t3) 4 t4) 29 t4) 30 v35) 4 v35), H⟩ τ)) (k (.exit 2) ⟨(T.set (T.set .leaf 0 t0) 3 t3), H⟩ τ)
def s_ref5_unsafe_l1 (call : CallK) (N : Nat) (st : St) (τ : Tape) (k : KC) : Ans := match st with
  | ⟨fr, H⟩ => getK fr 0 fun t0 => getK fr 3 fun t3 => someK (pLenS [t0]) fun v0 => binK .lss t3 v0 fun v1 => condK v1 (someK (pStrIndex [t0, t3]) fun v3 => binK .lss v3 (.int .u8 (.ofNat 32)) fun v4 => gK v4 true (fun q' => q' t0 H τ) H τ fun v5 H6 τ7 => gK v4 true (fun q' => q' t3 H6 τ7) H6 τ7 fun v8 H9 τ10 => gK v4 true (fun q' => someK (pStrIndex [v5, v8]) fun v => q' v H9 τ10) H9 τ10 fun v11 H12 τ13 => gK v4 true (fun q' => binK .neq v11 (.int .u8 (.ofNat 9)) fun v => q' v H12 τ13) H12 τ13 fun v14 H15 τ16 => someK (pPick [v4, v14, (.bool false)]) fun v17 => gK v17 false (fun q' => q' t0 H15 τ16) H15 τ16 fun v18 H19 τ20 => gK v17 false (fun q' => q' t3 H19 τ20) H19 τ20 fun v21 H22 τ23 => gK v17 false (fun q' => someK (pStrIndex [v18, v21]) fun v => q' v H22 τ23) H22 τ23 fun v24 H25 τ26 =>
    gK v17 false (fun q' => binK .eql v24 (.int .u8 (.ofNat 127)) fun v => q' v H25 τ26) H25 τ26 fun v27 H28 τ29 => someK (pPick [v17, (.bool true), v27]) fun v30 => condK v30 (k .ret ⟨(T.set .leaf 2 (.bool true)), H28⟩ τ29) (loopK (s_ref5_unsafe_l3 call N) N ⟨(T.set (T.set (T.set .leaf 0 t0) 3 t3) 4 (.int .i64 (.ofNat 0))), H28⟩ τ29 (blockK 2 (blockK 1 (seqK (s_ref5_unsafe_j2 call N k) k))))) (k (.exit 0) ⟨.leaf, H⟩ τ)
def s_ref5_unsafe (call : CallK) (N : Nat) (a0 : V) (H : Heap) (τ : Tape) (q : KV) : Ans := loopK (s_ref5_unsafe_l1 call N) N ⟨(T.set (T.set .leaf 0 a0) 3 (.int .i64 (.ofNat 0))), H⟩ τ (blockK 0 (seqK (s_ref5_unsafe_j0 call N q) (endK [(.t 2)] q)))
theorem s_ref5_unsafe_eq (call : CallK) (N : Nat) (a0 : V) (H : Heap) (τ : Tape) (q : KV) : s_ref5_unsafe call N a0 H τ q = funK call N fn_ref5_unsafe [a0] H τ q := by kernel_rfl
def e_ref5_unsafe (call : CallK) (N : Nat) (vs : List V) (H : Heap) (τ : Tape) (q : KV) : Ans := match vs with | [a0] => s_ref5_unsafe call N a0 H τ q | _ => none
theorem e_ref5_unsafe_ok : EntOk fn_ref5_unsafe e_ref5_unsafe := by
  intro call N vs H τ q r h
  unfold e_ref5_unsafe at h
  split at h
  · rw [s_ref5_unsafe_eq] at h; exact h
  · cases h
theorem e_ref5_unsafe_nat : EntNat e_ref5_unsafe := by
  intro c hn N vs H τ q
  unfold e_ref5_unsafe
  split
  · rw [s_ref5_unsafe_eq, s_ref5_unsafe_eq]; exact funK_ent hn _ _ _ _ _ _
  · rfl
/-- ostiary/ostiaryref5.language -/
def fn_ref5_language : Fun := ⟨1, (.seq (.reg [iR 2 (.p .mv) [(.c (.bool false))]]) (.keep [0] (.seq (.seq (.reg [iR 3 (.p .mv) [(.c (.int .i64 (.ofNat 0)))]]) (.keep [0, 3] (.block 0 (.loop (.keep [0, 3] (.seq (.seq (.reg [iR 6 (.p .mv) [(.t 3)], iR 7 (.p .mv) [(.t 0)], iR 8 (.p .lenS) [(.t 7)], iR 9 (.p (.bin .lss)) [(.t 6), (.t 8)]]) (.keep [0, 3, 9] (.cond (.t 9) .skip (.keep [] (.exit 0))))) (.keep [0, 3] (.seq (.block 1 (.seq (.reg [iR 12 (.p .mv) [(.t 0)], iR 13 (.p .mv) [(.t 3)], iR 14 (.p .strIndex) [(.t 12), (.t 13)], iR 15 (.call 91) [(.t 14)], iR 16 (.p .mv) [(.t 15)], iG 17 16 false (.p .mv) [(.t 0)], iG 18 16 false (.p .mv) [(.t 3)], iG 19 16 false (.p .strIndex) [(.t 17), (.t 18)], iG 20 16 false (.call 84) [(.t 19)], iR 21 (.p .pick) [(.t 16), (.c (.bool true)), (.t 20)], iR 4 (.p .mv) [(.t 21)]])
    (.keep [0, 3, 4] (.seq (.seq (.reg [iR 5 (.p .mv) [(.c (.int .i64 (.ofNat 0)))]]) (.keep [0, 3, 4, 5] (.block 2 (.loop (.keep [0, 3, 4, 5] (.seq (.seq (.reg [iR 22 (.p .mv) [(.t 5)], iR 23 (.p (.bin .lss)) [(.t 22), (.c (.int .i64 (.ofNat 7)))]]) (.keep [0, 3, 4, 5, 23] (.cond (.t 23) .skip (.keep [0, 3, 4] (.exit 2))))) (.keep [0, 3, 4, 5] (.seq (.block 3 (.draw [iR 26 (.p .mv) [(.t 4)], iR 27 (.p .mv) [(.t 26)], iG 28 27 false (.p .mv) [(.t 0)], iG 29 27 false (.p .mv) [(.t 3)], iG 30 27 false (.p .strIndex) [(.t 28), (.t 29)], iG 31 27 false (.p .mv) [(.t 5)], iG 32 27 false (.p .strIndex) [(.c (.str (bs [32, 42, 44, 45, 46, 59, 61]))), (.t 31)], iG 33 27 false (.p (.bin .eql)) [(.t 30), (.t 32)], iR 34 (.p .pick) [(.t 27), (.c (.bool true)), (.t 33)], iR 4 (.p .mv) [(.t 34)]])) (.keep [0, 3, 4, 5] (.reg [iR 24 (.p .mv) [(.t 5)],
    iR 25 (.p (.bin .add)) [(.t 24), (.c (.int .i64 (.ofNat 1)))], iR 5 (.p .mv) [(.t 25)]])))))))))) (.keep [0, 3, 4] (.seq (.reg [iR 35 (.p .mv) [(.t 4)], iR 36 (.p (.un .not)) [(.t 35)]]) (.keep [0, 3, 36] (.cond (.t 36) (.seq (.reg [iR 2 (.p .mv) [(.c (.bool false))]]) (.keep [2] (.keep [2] .ret))) .skip)))))))) (.keep [0, 3] (.reg [iR 10 (.p .mv) [(.t 3)], iR 11 (.p (.bin .add)) [(.t 10), (.c (.int .i64 (.ofNat 1)))], iR 3 (.p .mv) [(.t 11)]])))))))))) (.keep [] (.seq (.reg [iR 2 (.p .mv) [(.c (.bool true))]]) (.keep [2] (.keep [2] .ret))))))), [(.t 2)]⟩
def s_ref5_language_j0 (call : CallK) (N : Nat) (q : KV) (st : St) (τ : Tape) : Ans := match st with
  | ⟨fr, H⟩ => q (.bool true) H τ
def s_ref5_language_j2 (call : CallK) (N : Nat) (k : KC) (st : St) (τ : Tape) : Ans := match st with
  | ⟨fr, H⟩ => getK fr 0 fun t0 => getK fr 3 fun t3 => binK .add t3 (.int .i64 (.ofNat 1)) fun v19 => k .normal ⟨(T.set (T.set (T.set (T.set (T.set .leaf 0 t0) 3 t3) 10 t3) 11 v19) 3 v19), H⟩ τ
def s_ref5_language_j3 (call : CallK) (N : Nat) (k : KC) (st : St) (τ : Tape) : Ans := match st with
  | ⟨fr, H⟩ => getK fr 0 fun t0 => getK fr 3 fun t3 => getK fr 4 fun t4 => unK .not t4 fun v20 => condK v20 (k .ret ⟨(T.set .leaf 2 (.bool false)), H⟩ τ) (s_ref5_language_j2 call N k ⟨(T.set (T.set (T.set .leaf 0 t0) 3 t3) 36 v20), H⟩ τ)
def s_ref5_language_l4 (call : CallK) (N : Nat) (st : St) (τ : Tape) (k : KC) : Ans := match st with
  | ⟨fr, H⟩ => getK fr 0 fun t0 => getK fr 3 fun t3 => getK fr 4 fun t4 => getK fr 5 fun t5 => binK .lss t5 (.int .i64 (.ofNat 7)) fun v21 => condK v21 (gK t4 false (fun q' => q' t0 H τ) H τ fun v22 H23 τ24 => gK t4 false (fun q' => q' t3 H23 τ24) H23 τ24 fun v25 H26 τ27 => gK t4 false (fun q' => someK (pStrIndex [v22, v25]) fun v => q' v H26 τ27) H26 τ27 fun v28 H29 τ30 => gK t4 false (fun q' => q' t5 H29 τ30) H29 τ30 fun v31 H32 τ33 => gK t4 false (fun q' => someK (pStrIndex [(.str (bs [32, 42, 44, 45, 46, 59, 61])), v31]) fun v => q' v H32 τ33) H32 τ33 fun v34 H35 τ36 => gK t4 false (fun q' => binK .eql v28 v34 fun v => q' v H35 τ36) H35 τ36 fun v37 H38 τ39 => someK (pPick [t4, (.bool true), v37]) fun v40 => binK .add t5 (.int .i64 (.ofNat 1)) fun v41 => k .normal ⟨(T.set (T.set (T.set (T.set (T.set (T.set (T.set .leaf 0 t0) 3 t3) 4 v40) 5 t5) 24 t5) 25 v41) 5 v41), H38⟩ τ39)
    (k (.exit 2) ⟨(T.set (T.set (T.set .leaf 0 t0) 3 t3) 4 t4), H⟩ τ)
def s_ref5_language_l1 (call : CallK) (N : Nat) (st : St) (τ : Tape) (k : KC) : Ans := match st with
  | ⟨fr, H⟩ => getK fr 0 fun t0 => getK fr 3 fun t3 => someK (pLenS [t0]) fun v0 => binK .lss t3 v0 fun v1 => condK v1 (someK (pStrIndex [t0, t3]) fun v2 => call f_ref1_Letter [v2] H τ fun v3 H4 τ5 => gK v3 false (fun q' => q' t0 H4 τ5) H4 τ5 fun v6 H7 τ8 => gK v3 false (fun q' => q' t3 H7 τ8) H7 τ8 fun v9 H10 τ11 => gK v3 false (fun q' => someK (pStrIndex [v6, v9]) fun v => q' v H10 τ11) H10 τ11 fun v12 H13 τ14 => gK v3 false (fun q' => call f_ref1_Digit [v12] H13 τ14 q') H13 τ14 fun v15 H16 τ17 => someK (pPick [v3, (.bool true), v15]) fun v18 => loopK (s_ref5_language_l4 call N) N ⟨(T.set (T.set (T.set (T.set .leaf 0 t0) 3 t3) 4 v18) 5 (.int .i64 (.ofNat 0))), H16⟩ τ17 (blockK 2 (seqK (s_ref5_language_j3 call N k) (blockK 1 (seqK (s_ref5_language_j2 call N k) k))))) (k (.exit 0) ⟨.leaf, H⟩ τ)
def s_ref5_language (call : CallK) (N : Nat) (a0 : V) (H : Heap) (τ : Tape) (q : KV) : Ans := loopK (s_ref5_language_l1 call N) N ⟨(T.set (T.set .leaf 0 a0) 3 (.int .i64 (.ofNat 0))), H⟩ τ (blockK 0 (seqK (s_ref5_language_j0 call N q) (endK [(.t 2)] q)))
theorem s_ref5_language_eq (call : CallK) (N : Nat) (a0 : V) (H : Heap) (τ : Tape) (q : KV) : s_ref5_language call N a0 H τ q = funK call N fn_ref5_language [a0] H τ q := by kernel_rfl
def e_ref5_language (call : CallK) (N : Nat) (vs : List V) (H : Heap) (τ : Tape) (q : KV) : Ans := match vs with | [a0] => s_ref5_language call N a0 H τ q | _ => none
theorem e_ref5_language_ok : EntOk fn_ref5_language e_ref5_language := by
  intro call N vs H τ q r h
  unfold e_ref5_language at h
  split at h
  · rw [s_ref5_language_eq] at h; exact h
  · cases h
theorem e_ref5_language_nat : EntNat e_ref5_language := by
  intro c hn N vs H τ q
  unfold e_ref5_language
  split
  · rw [s_ref5_language_eq, s_ref5_language_eq]; exact funK_ent hn _ _ _ _ _ _
  · rfl
/-- ostiary/ostiaryref1.Strip -/
def fn_ref1_Strip : Fun := ⟨1, (.seq (.reg [iR 2 (.p .mv) [(.c (.str []))]]) (.keep [0] (.seq (.block 0 (.loop (.keep [0] (.seq (.seq (.reg [iR 3 (.p .mv) [(.t 0)], iR 4 (.p .lenS) [(.t 3)], iR 5 (.p (.bin .gtr)) [(.t 4), (.c (.int .i64 (.ofNat 0)))], iR 6 (.p .mv) [(.t 5)], iG 7 6 true (.p .mv) [(.t 0)], iG 8 6 true (.p .strIndex) [(.t 7), (.c (.int .i64 (.ofNat 0)))], iG 9 6 true (.call 92) [(.t 8)], iR 10 (.p .pick) [(.t 6), (.t 9), (.c (.bool false))]]) (.keep [0, 10] (.cond (.t 10) .skip (.keep [0] (.exit 0))))) (.keep [0] (.block 1 (.reg [iR 11 (.p .mv) [(.t 0)], iR 12 (.p (.strSlice true false)) [(.t 11), (.c (.int .i64 (.ofNat 1)))], iR 0 (.p .mv) [(.t 12)]]))))))) (.keep [0] (.seq (.block 2 (.loop (.keep [0] (.seq (.seq (.reg [iR 13 (.p .mv) [(.t 0)], iR 14 (.p .lenS) [(.t 13)], iR 15 (.p (.bin .gtr)) [(.t 14), (.c (.int .i64 (.ofNat 0)))], iR 16 (.p .mv) [(.t 15)],
    iG 17 16 true (.p .mv) [(.t 0)], iG 18 16 true (.p .mv) [(.t 0)], iG 19 16 true (.p .lenS) [(.t 18)], iG 20 16 true (.p (.bin .sub)) [(.t 19), (.c (.int .i64 (.ofNat 1)))], iG 21 16 true (.p .strIndex) [(.t 17), (.t 20)], iG 22 16 true (.call 92) [(.t 21)], iR 23 (.p .pick) [(.t 16), (.t 22), (.c (.bool false))]]) (.keep [0, 23] (.cond (.t 23) .skip (.keep [0] (.exit 2))))) (.keep [0] (.block 3 (.reg [iR 24 (.p .mv) [(.t 0)], iR 25 (.p .mv) [(.t 0)], iR 26 (.p .lenS) [(.t 25)], iR 27 (.p (.bin .sub)) [(.t 26), (.c (.int .i64 (.ofNat 1)))], iR 28 (.p (.strSlice false true)) [(.t 24), (.t 27)], iR 0 (.p .mv) [(.t 28)]]))))))) (.keep [0] (.seq (.reg [iR 29 (.p .mv) [(.t 0)], iR 2 (.p .mv) [(.t 29)]]) (.keep [2] (.keep [2] .ret))))))))), [(.t 2)]⟩
def s_ref1_Strip_j1 (call : CallK) (N : Nat) (q : KV) (st : St) (τ : Tape) : Ans := match st with
  | ⟨fr, H⟩ => getK fr 0 fun t0 => q t0 H τ
def s_ref1_Strip_l2 (call : CallK) (N : Nat) (st : St) (τ : Tape) (k : KC) : Ans := match st with
  | ⟨fr, H⟩ => getK fr 0 fun t0 => someK (pLenS [t0]) fun v0 => binK .gtr v0 (.int .i64 (.ofNat 0)) fun v1 => gK v1 true (fun q' => q' t0 H τ) H τ fun v2 H3 τ4 => gK v1 true (fun q' => q' t0 H3 τ4) H3 τ4 fun v5 H6 τ7 => gK v1 true (fun q' => someK (pLenS [v5]) fun v => q' v H6 τ7) H6 τ7 fun v8 H9 τ10 => gK v1 true (fun q' => binK .sub v8 (.int .i64 (.ofNat 1)) fun v => q' v H9 τ10) H9 τ10 fun v11 H12 τ13 => gK v1 true (fun q' => someK (pStrIndex [v2, v11]) fun v => q' v H12 τ13) H12 τ13 fun v14 H15 τ16 => gK v1 true (fun q' => call f_ref1_Blank [v14] H15 τ16 q') H15 τ16 fun v17 H18 τ19 => someK (pPick [v1, v17, (.bool false)]) fun v20 => condK v20 (someK (pLenS [t0]) fun v21 => binK .sub v21 (.int .i64 (.ofNat 1)) fun v22 => someK (pStrSlice false true [t0, v22]) fun v23 =>
    k .normal ⟨(T.set (T.set (T.set (T.set (T.set (T.set (T.set .leaf 0 t0) 24 t0) 25 t0) 26 v21) 27 v22) 28 v23) 0 v23), H18⟩ τ19) (k (.exit 2) ⟨(T.set .leaf 0 t0), H18⟩ τ19)
def s_ref1_Strip_j0 (call : CallK) (N : Nat) (q : KV) (st : St) (τ : Tape) : Ans := match st with
  | ⟨fr, H⟩ => getK fr 0 fun t0 => loopK (s_ref1_Strip_l2 call N) N ⟨(T.set .leaf 0 t0), H⟩ τ (blockK 2 (seqK (s_ref1_Strip_j1 call N q) (endK [(.t 2)] q)))
def s_ref1_Strip_l3 (call : CallK) (N : Nat) (st : St) (τ : Tape) (k : KC) : Ans := match st with
  | ⟨fr, H⟩ => getK fr 0 fun t0 => someK (pLenS [t0]) fun v24 => binK .gtr v24 (.int .i64 (.ofNat 0)) fun v25 => gK v25 true (fun q' => q' t0 H τ) H τ fun v26 H27 τ28 => gK v25 true (fun q' => someK (pStrIndex [v26, (.int .i64 (.ofNat 0))]) fun v => q' v H27 τ28) H27 τ28 fun v29 H30 τ31 => gK v25 true (fun q' => call f_ref1_Blank [v29] H30 τ31 q') H30 τ31 fun v32 H33 τ34 => someK (pPick [v25, v32, (.bool false)]) fun v35 => condK v35 (someK (pStrSlice true false [t0, (.int .i64 (.ofNat 1))]) fun v36 => k .normal ⟨(T.set (T.set (T.set (T.set .leaf 0 t0) 11 t0) 12 v36) 0 v36), H33⟩ τ34) (k (.exit 0) ⟨(T.set .leaf 0 t0), H33⟩ τ34)
def s_ref1_Strip (call : CallK) (N : Nat) (a0 : V) (H : Heap) (τ : Tape) (q : KV) : Ans := loopK (s_ref1_Strip_l3 call N) N ⟨(T.set .leaf 0 a0), H⟩ τ (blockK 0 (seqK (s_ref1_Strip_j0 call N q) (endK [(.t 2)] q)))
theorem s_ref1_Strip_eq (call : CallK) (N : Nat) (a0 : V) (H : Heap) (τ : Tape) (q : KV) : s_ref1_Strip call N a0 H τ q = funK call N fn_ref1_Strip [a0] H τ q := by kernel_rfl
def e_ref1_Strip (call : CallK) (N : Nat) (vs : List V) (H : Heap) (τ : Tape) (q : KV) : Ans := match vs with | [a0] => s_ref1_Strip call N a0 H τ q | _ => none
theorem e_ref1_Strip_ok : EntOk fn_ref1_Strip e_ref1_Strip := by
  intro call N vs H τ q r h
  unfold e_ref1_Strip at h
  split at h
  · rw [s_ref1_Strip_eq] at h; exact h
  · cases h
theorem e_ref1_Strip_nat : EntNat e_ref1_Strip := by
  intro c hn N vs H τ q
  unfold e_ref1_Strip
  split
  · rw [s_ref1_Strip_eq, s_ref1_Strip_eq]; exact funK_ent hn _ _ _ _ _ _
  · rfl
/-- strings.trimLeftByte -/
def fn_strings_trimLeftByte : Fun := ⟨2, (.seq (.reg [iR 4 (.p .mv) [(.c (.str []))]]) (.keep [0, 1] (.seq (.block 0 (.loop (.keep [0, 1] (.seq (.seq (.reg [iR 5 (.p .mv) [(.t 0)], iR 6 (.p .lenS) [(.t 5)], iR 7 (.p (.bin .gtr)) [(.t 6), (.c (.int .i64 (.ofNat 0)))], iR 8 (.p .mv) [(.t 7)], iG 9 8 true (.p .mv) [(.t 0)], iG 10 8 true (.p .strIndex) [(.t 9), (.c (.int .i64 (.ofNat 0)))], iG 11 8 true (.p .mv) [(.t 1)], iG 12 8 true (.p (.bin .eql)) [(.t 10), (.t 11)], iR 13 (.p .pick) [(.t 8), (.t 12), (.c (.bool false))]]) (.keep [0, 1, 13] (.cond (.t 13) .skip (.keep [0] (.exit 0))))) (.keep [0, 1] (.block 1 (.reg [iR 14 (.p .mv) [(.t 0)], iR 15 (.p (.strSlice true false)) [(.t 14), (.c (.int .i64 (.ofNat 1)))], iR 0 (.p .mv) [(.t 15)]]))))))) (.keep [0] (.seq (.reg [iR 16 (.p .mv) [(.t 0)], iR 4 (.p .mv) [(.t 16)]]) (.keep [4] (.keep [4] .ret))))))), [(.t 4)]⟩
def s_strings_trimLeftByte_j0 (call : CallK) (N : Nat) (q : KV) (st : St) (τ : Tape) : Ans := match st with
  | ⟨fr, H⟩ => getK fr 0 fun t0 => q t0 H τ
def s_strings_trimLeftByte_l1 (call : CallK) (N : Nat) (st : St) (τ : Tape) (k : KC) : Ans := match st with
  | ⟨fr, H⟩ => getK fr 0 fun t0 => getK fr 1 fun t1 => someK (pLenS [t0]) fun v0 => binK .gtr v0 (.int .i64 (.ofNat 0)) fun v1 => gK v1 true (fun q' => q' t0 H τ) H τ fun v2 H3 τ4 => gK v1 true (fun q' => someK (pStrIndex [v2, (.int .i64 (.ofNat 0))]) fun v => q' v H3 τ4) H3 τ4 fun v5 H6 τ7 => gK v1 true (fun q' => q' t1 H6 τ7) H6 τ7 fun v8 H9 τ10 => gK v1 true (fun q' => binK .eql v5 v8 fun v => q' v H9 τ10) H9 τ10 fun v11 H12 τ13 => someK (pPick [v1, v11, (.bool false)]) fun v14 => condK v14 (someK (pStrSlice true false [t0, (.int .i64 (.ofNat 1))]) fun v15 => k .normal ⟨(T.set (T.set (T.set (T.set (T.set .leaf 0 t0) 1 t1) 14 t0) 15 v15) 0 v15), H12⟩ τ13) (k (.exit 0) ⟨(T.set .leaf 0 t0), H12⟩ τ13)
def s_strings_trimLeftByte (call : CallK) (N : Nat) (a0 a1 : V) (H : Heap) (τ : Tape) (q : KV) : Ans := loopK (s_strings_trimLeftByte_l1 call N) N ⟨(T.set (T.set .leaf 0 a0) 1 a1), H⟩ τ (blockK 0 (seqK (s_strings_trimLeftByte_j0 call N q) (endK [(.t 4)] q)))
theorem s_strings_trimLeftByte_eq (call : CallK) (N : Nat) (a0 a1 : V) (H : Heap) (τ : Tape) (q : KV) : s_strings_trimLeftByte call N a0 a1 H τ q = funK call N fn_strings_trimLeftByte [a0, a1] H τ q := by kernel_rfl
def e_strings_trimLeftByte (call : CallK) (N : Nat) (vs : List V) (H : Heap) (τ : Tape) (q : KV) : Ans := match vs with | [a0, a1] => s_strings_trimLeftByte call N a0 a1 H τ q | _ => none
theorem e_strings_trimLeftByte_ok : EntOk fn_strings_trimLeftByte e_strings_trimLeftByte := by
  intro call N vs H τ q r h
  unfold e_strings_trimLeftByte at h
  split at h
  · rw [s_strings_trimLeftByte_eq] at h; exact h
  · cases h
theorem e_strings_trimLeftByte_nat : EntNat e_strings_trimLeftByte := by
  intro c hn N vs H τ q
  unfold e_strings_trimLeftByte
  split
  · rw [s_strings_trimLeftByte_eq, s_strings_trimLeftByte_eq]; exact funK_ent hn _ _ _ _ _ _
  · rfl
/-- strings.trimRightByte -/
def fn_strings_trimRightByte : Fun := ⟨2, (.seq (.reg [iR 4 (.p .mv) [(.c (.str []))]]) (.keep [0, 1] (.seq (.block 0 (.loop (.keep [0, 1] (.seq (.seq (.reg [iR 5 (.p .mv) [(.t 0)], iR 6 (.p .lenS) [(.t 5)], iR 7 (.p (.bin .gtr)) [(.t 6), (.c (.int .i64 (.ofNat 0)))], iR 8 (.p .mv) [(.t 7)], iG 9 8 true (.p .mv) [(.t 0)], iG 10 8 true (.p .mv) [(.t 0)], iG 11 8 true (.p .lenS) [(.t 10)], iG 12 8 true (.p (.bin .sub)) [(.t 11), (.c (.int .i64 (.ofNat 1)))], iG 13 8 true (.p .strIndex) [(.t 9), (.t 12)], iG 14 8 true (.p .mv) [(.t 1)], iG 15 8 true (.p (.bin .eql)) [(.t 13), (.t 14)], iR 16 (.p .pick) [(.t 8), (.t 15), (.c (.bool false))]]) (.keep [0, 1, 16] (.cond (.t 16) .skip (.keep [0] (.exit 0))))) (.keep [0, 1] (.block 1 (.reg [iR 17 (.p .mv) [(.t 0)], iR 18 (.p .mv) [(.t 0)], iR 19 (.p .lenS) [(.t 18)], iR 20 (.p (.bin .sub)) [(.t 19), (.c (.int .i64 (.ofNat 1)))],
    iR 21 (.p (.strSlice false true)) [(.t 17), (.t 20)], iR 0 (.p .mv) [(.t 21)]]))))))) (.keep [0] (.seq (.reg [iR 22 (.p .mv) [(.t 0)], iR 4 (.p .mv) [(.t 22)]]) (.keep [4] (.keep [4] .ret))))))), [(.t 4)]⟩
def s_strings_trimRightByte_j0 (call : CallK) (N : Nat) (q : KV) (st : St) (τ : Tape) : Ans := match st with
  | ⟨fr, H⟩ => getK fr 0 fun t0 => q t0 H τ
def s_strings_trimRightByte_l1 (call : CallK) (N : Nat) (st : St) (τ : Tape) (k : KC) : Ans := match st with
  | ⟨fr, H⟩ => getK fr 0 fun t0 => getK fr 1 fun t1 => someK (pLenS [t0]) fun v0 => binK .gtr v0 (.int .i64 (.ofNat 0)) fun v1 => gK v1 true (fun q' => q' t0 H τ) H τ fun v2 H3 τ4 => gK v1 true (fun q' => q' t0 H3 τ4) H3 τ4 fun v5 H6 τ7 => gK v1 true (fun q' => someK (pLenS [v5]) fun v => q' v H6 τ7) H6 τ7 fun v8 H9 τ10 => gK v1 true (fun q' => binK .sub v8 (.int .i64 (.ofNat 1)) fun v => q' v H9 τ10) H9 τ10 fun v11 H12 τ13 => gK v1 true (fun q' => someK (pStrIndex [v2, v11]) fun v => q' v H12 τ13) H12 τ13 fun v14 H15 τ16 => gK v1 true (fun q' => q' t1 H15 τ16) H15 τ16 fun v17 H18 τ19 => gK v1 true (fun q' => binK .eql v14 v17 fun v => q' v H18 τ19) H18 τ19 fun v20 H21 τ22 => someK (pPick [v1, v20, (.bool false)]) fun v23 => condK v23 (someK (pLenS [t0]) fun v24 => binK .sub v24 (.int .i64 (.ofNat 1)) fun v25 => someK (pStrSlice false true [t0, v25]) fun v26 =>
    k .normal ⟨(T.set (T.set (T.set (T.set (T.set (T.set (T.set (T.set .leaf 0 t0) 1 t1) 17 t0) 18 t0) 19 v24) 20 v25) 21 v26) 0 v26), H21⟩ τ22) (k (.exit 0) ⟨(T.set .leaf 0 t0), H21⟩ τ22)
def s_strings_trimRightByte (call : CallK) (N : Nat) (a0 a1 : V) (H : Heap) (τ : Tape) (q : KV) : Ans := loopK (s_strings_trimRightByte_l1 call N) N ⟨(T.set (T.set .leaf 0 a0) 1 a1), H⟩ τ (blockK 0 (seqK (s_strings_trimRightByte_j0 call N q) (endK [(.t 4)] q)))
theorem s_strings_trimRightByte_eq (call : CallK) (N : Nat) (a0 a1 : V) (H : Heap) (τ : Tape) (q : KV) : s_strings_trimRightByte call N a0 a1 H τ q = funK call N fn_strings_trimRightByte [a0, a1] H τ q := by kernel_rfl
def e_strings_trimRightByte (call : CallK) (N : Nat) (vs : List V) (H : Heap) (τ : Tape) (q : KV) : Ans := match vs with | [a0, a1] => s_strings_trimRightByte call N a0 a1 H τ q | _ => none
theorem e_strings_trimRightByte_ok : EntOk fn_strings_trimRightByte e_strings_trimRightByte := by
  intro call N vs H τ q r h
  unfold e_strings_trimRightByte at h
  split at h
  · rw [s_strings_trimRightByte_eq] at h; exact h
  · cases h
theorem e_strings_trimRightByte_nat : EntNat e_strings_trimRightByte := by
  intro c hn N vs H τ q
  unfold e_strings_trimRightByte
  split
  · rw [s_strings_trimRightByte_eq, s_strings_trimRightByte_eq]; exact funK_ent hn _ _ _ _ _ _
  · rfl
/-- strings.makeASCIISet -/
def fn_strings_makeASCIISet : Fun := ⟨1, (.seq (.reg [iR 2 (.e (.alloc (repl 256 [(.bool false)]))) [], iR 3 (.p .mv) [(.c (.bool false))]]) (.keep [0, 2] (.seq (.seq (.reg [iR 4 (.p .mv) [(.c (.int .i64 (.ofNat 0)))]]) (.keep [0, 2, 4] (.block 0 (.loop (.keep [0, 2, 4] (.seq (.seq (.reg [iR 6 (.p .mv) [(.t 4)], iR 7 (.p .mv) [(.t 0)], iR 8 (.p .lenS) [(.t 7)], iR 9 (.p (.bin .lss)) [(.t 6), (.t 8)]]) (.keep [0, 2, 4, 9] (.cond (.t 9) .skip (.keep [2] (.exit 0))))) (.keep [0, 2, 4] (.seq (.block 1 (.seq (.reg [iR 12 (.p .mv) [(.t 0)], iR 13 (.p .mv) [(.t 4)], iR 14 (.p .strIndex) [(.t 12), (.t 13)], iR 5 (.p .mv) [(.t 14)]]) (.keep [0, 2, 4, 5] (.seq (.seq (.reg [iR 15 (.p .mv) [(.t 5)], iR 16 (.p (.bin .geq)) [(.t 15), (.c (.int .u8 (.ofNat 128)))]]) (.keep [0, 2, 4, 5, 16] (.cond (.t 16) (.seq (.reg [iR 17 (.l (.load (some 256))) [(.t 2)],
    ⟨none, none, (.e (.store 256)), [(.t 2), (.t 17)], none⟩, iR 3 (.p .mv) [(.c (.bool false))]]) (.keep [2, 3] (.keep [2, 3] .ret))) .skip))) (.keep [0, 2, 4, 5] (.reg [iR 18 (.p .mv) [(.t 5)], iR 19 (.p (.arrIdx 256 1)) [(.t 2), (.t 18)], ⟨none, none, (.e (.store 1)), [(.t 19), (.c (.bool true))], none⟩])))))) (.keep [0, 2, 4] (.reg [iR 10 (.p .mv) [(.t 4)], iR 11 (.p (.bin .add)) [(.t 10), (.c (.int .i64 (.ofNat 1)))], iR 4 (.p .mv) [(.t 11)]])))))))))) (.keep [2] (.seq (.reg [iR 20 (.l (.load (some 256))) [(.t 2)], ⟨none, none, (.e (.store 256)), [(.t 2), (.t 20)], none⟩, iR 3 (.p .mv) [(.c (.bool true))]]) (.keep [2, 3] (.keep [2, 3] .ret))))))), [(.cell 2 (some 256)), (.t 3)]⟩
def s_strings_makeASCIISet_j0 (call : CallK) (N : Nat) (q : KV) (st : St) (τ : Tape) : Ans := match st with
  | ⟨fr, H⟩ => getK fr 2 fun t2 => someK (lLoadN 256 [t2] H) fun v3 => effK (eStore 256 [t2, v3] H τ) fun v4 H5 τ6 => someK (results ⟨(T.set (T.set .leaf 2 t2) 3 (.bool true)), H5⟩ [(.cell 2 (some 256)), (.t 3)]) fun v => q v H5 τ6
def s_strings_makeASCIISet_l1 (call : CallK) (N : Nat) (st : St) (τ : Tape) (k : KC) : Ans := match st with
  | ⟨fr, H⟩ => getK fr 0 fun t0 => getK fr 2 fun t2 => getK fr 4 fun t4 => someK (pLenS [t0]) fun v7 => binK .lss t4 v7 fun v8 => condK v8 (someK (pStrIndex [t0, t4]) fun v9 => binK .geq v9 (.int .u8 (.ofNat 128)) fun v10 => condK v10 (someK (lLoadN 256 [t2] H) fun v11 => effK (eStore 256 [t2, v11] H τ) fun v12 H13 τ14 => k .ret ⟨(T.set (T.set .leaf 2 t2) 3 (.bool false)), H13⟩ τ14) (someK (pArrIdx 256 1 [t2, v9]) fun v15 => effK (eStore 1 [v15, (.bool true)] H τ) fun v16 H17 τ18 => binK .add t4 (.int .i64 (.ofNat 1)) fun v19 => k .normal ⟨(T.set (T.set (T.set (T.set (T.set (T.set .leaf 0 t0) 2 t2) 4 t4) 10 t4) 11 v19) 4 v19), H17⟩ τ18)) (k (.exit 0) ⟨(T.set .leaf 2 t2), H⟩ τ)
def s_strings_makeASCIISet (call : CallK) (N : Nat) (a0 : V) (H : Heap) (τ : Tape) (q : KV) : Ans := effK (eAlloc (repl 256 [(.bool false)]) [] H τ) fun v0 H1 τ2 => loopK (s_strings_makeASCIISet_l1 call N) N ⟨(T.set (T.set (T.set .leaf 0 a0) 2 v0) 4 (.int .i64 (.ofNat 0))), H1⟩ τ2 (blockK 0 (seqK (s_strings_makeASCIISet_j0 call N q) (endK [(.cell 2 (some 256)), (.t 3)] q)))
theorem s_strings_makeASCIISet_eq (call : CallK) (N : Nat) (a0 : V) (H : Heap) (τ : Tape) (q : KV) : s_strings_makeASCIISet call N a0 H τ q = funK call N fn_strings_makeASCIISet [a0] H τ q := by kernel_rfl
def e_strings_makeASCIISet (call : CallK) (N : Nat) (vs : List V) (H : Heap) (τ : Tape) (q : KV) : Ans := match vs with | [a0] => s_strings_makeASCIISet call N a0 H τ q | _ => none
theorem e_strings_makeASCIISet_ok : EntOk fn_strings_makeASCIISet e_strings_makeASCIISet := by
  intro call N vs H τ q r h
  unfold e_strings_makeASCIISet at h
  split at h
  · rw [s_strings_makeASCIISet_eq] at h; exact h
  · cases h
theorem e_strings_makeASCIISet_nat : EntNat e_strings_makeASCIISet := by
  intro c hn N vs H τ q
  unfold e_strings_makeASCIISet
  split
  · rw [s_strings_makeASCIISet_eq, s_strings_makeASCIISet_eq]; exact funK_ent hn _ _ _ _ _ _
  · rfl
/-- strings.trimLeftASCII -/
def fn_strings_trimLeftASCII : Fun := ⟨2, (.seq (.reg [iR 4 (.p .mv) [(.c (.str []))]]) (.keep [0, 1] (.seq (.block 0 (.loop (.keep [0, 1] (.seq (.seq (.reg [iR 5 (.p .mv) [(.t 0)], iR 6 (.p .lenS) [(.t 5)], iR 7 (.p (.bin .gtr)) [(.t 6), (.c (.int .i64 (.ofNat 0)))]]) (.keep [0, 1, 7] (.cond (.t 7) .skip (.keep [0] (.exit 0))))) (.keep [0, 1] (.block 1 (.seq (.seq (.reg [iR 8 (.p .mv) [(.t 1)], iR 9 (.p .mv) [(.t 0)], iR 10 (.p .strIndex) [(.t 9), (.c (.int .i64 (.ofNat 0)))], iR 11 (.call 94) [(.t 8), (.t 10)], iR 12 (.p (.un .not)) [(.t 11)]]) (.keep [0, 1, 12] (.cond (.t 12) (.keep [0] (.exit 0)) .skip))) (.keep [0, 1] (.reg [iR 13 (.p .mv) [(.t 0)], iR 14 (.p (.strSlice true false)) [(.t 13), (.c (.int .i64 (.ofNat 1)))], iR 0 (.p .mv) [(.t 14)]]))))))))) (.keep [0] (.seq (.reg [iR 15 (.p .mv) [(.t 0)], iR 4 (.p .mv) [(.t 15)]]) (.keep [4] (.keep [4] .ret))))))), [(.t 4)]⟩
def s_strings_trimLeftASCII_j0 (call : CallK) (N : Nat) (q : KV) (st : St) (τ : Tape) : Ans := match st with
  | ⟨fr, H⟩ => getK fr 0 fun t0 => q t0 H τ
def s_strings_trimLeftASCII_l1 (call : CallK) (N : Nat) (st : St) (τ : Tape) (k : KC) : Ans := match st with
  | ⟨fr, H⟩ => getK fr 0 fun t0 => getK fr 1 fun t1 => someK (pLenS [t0]) fun v0 => binK .gtr v0 (.int .i64 (.ofNat 0)) fun v1 => condK v1 (someK (pStrIndex [t0, (.int .i64 (.ofNat 0))]) fun v2 => call f_asciiSet_contains [t1, v2] H τ fun v3 H4 τ5 => unK .not v3 fun v6 => condK v6 (k (.exit 0) ⟨(T.set .leaf 0 t0), H4⟩ τ5) (someK (pStrSlice true false [t0, (.int .i64 (.ofNat 1))]) fun v7 => k .normal ⟨(T.set (T.set (T.set (T.set (T.set .leaf 0 t0) 1 t1) 13 t0) 14 v7) 0 v7), H4⟩ τ5)) (k (.exit 0) ⟨(T.set .leaf 0 t0), H⟩ τ)
def s_strings_trimLeftASCII (call : CallK) (N : Nat) (a0 a1 : V) (H : Heap) (τ : Tape) (q : KV) : Ans := loopK (s_strings_trimLeftASCII_l1 call N) N ⟨(T.set (T.set .leaf 0 a0) 1 a1), H⟩ τ (blockK 0 (seqK (s_strings_trimLeftASCII_j0 call N q) (endK [(.t 4)] q)))
theorem s_strings_trimLeftASCII_eq (call : CallK) (N : Nat) (a0 a1 : V) (H : Heap) (τ : Tape) (q : KV) : s_strings_trimLeftASCII call N a0 a1 H τ q = funK call N fn_strings_trimLeftASCII [a0, a1] H τ q := by kernel_rfl
def e_strings_trimLeftASCII (call : CallK) (N : Nat) (vs : List V) (H : Heap) (τ : Tape) (q : KV) : Ans := match vs with | [a0, a1] => s_strings_trimLeftASCII call N a0 a1 H τ q | _ => none
theorem e_strings_trimLeftASCII_ok : EntOk fn_strings_trimLeftASCII e_strings_trimLeftASCII := by
  intro call N vs H τ q r h
  unfold e_strings_trimLeftASCII at h
  split at h
  · rw [s_strings_trimLeftASCII_eq] at h; exact h
  · cases h
theorem e_strings_trimLeftASCII_nat : EntNat e_strings_trimLeftASCII := by
  intro c hn N vs H τ q
  unfold e_strings_trimLeftASCII
  split
  · rw [s_strings_trimLeftASCII_eq, s_strings_trimLeftASCII_eq]; exact funK_ent hn _ _ _ _ _ _
  · rfl
/-- strings.trimRightASCII -/
def fn_strings_trimRightASCII : Fun := ⟨2, (.seq (.reg [iR 4 (.p .mv) [(.c (.str []))]]) (.keep [0, 1] (.seq (.block 0 (.loop (.keep [0, 1] (.seq (.seq (.reg [iR 5 (.p .mv) [(.t 0)], iR 6 (.p .lenS) [(.t 5)], iR 7 (.p (.bin .gtr)) [(.t 6), (.c (.int .i64 (.ofNat 0)))]]) (.keep [0, 1, 7] (.cond (.t 7) .skip (.keep [0] (.exit 0))))) (.keep [0, 1] (.block 1 (.seq (.seq (.reg [iR 8 (.p .mv) [(.t 1)], iR 9 (.p .mv) [(.t 0)], iR 10 (.p .mv) [(.t 0)], iR 11 (.p .lenS) [(.t 10)], iR 12 (.p (.bin .sub)) [(.t 11), (.c (.int .i64 (.ofNat 1)))], iR 13 (.p .strIndex) [(.t 9), (.t 12)], iR 14 (.call 94) [(.t 8), (.t 13)], iR 15 (.p (.un .not)) [(.t 14)]]) (.keep [0, 1, 15] (.cond (.t 15) (.keep [0] (.exit 0)) .skip))) (.keep [0, 1] (.reg [iR 16 (.p .mv) [(.t 0)], iR 17 (.p .mv) [(.t 0)], iR 18 (.p .lenS) [(.t 17)], iR 19 (.p (.bin .sub)) [(.t 18), (.c (.int .i64 (.ofNat 1)))],
    iR 20 (.p (.strSlice false true)) [(.t 16), (.t 19)], iR 0 (.p .mv) [(.t 20)]]))))))))) (.keep [0] (.seq (.reg [iR 21 (.p .mv) [(.t 0)], iR 4 (.p .mv) [(.t 21)]]) (.keep [4] (.keep [4] .ret))))))), [(.t 4)]⟩
def s_strings_trimRightASCII_j0 (call : CallK) (N : Nat) (q : KV) (st : St) (τ : Tape) : Ans := match st with
  | ⟨fr, H⟩ => getK fr 0 fun t0 => q t0 H τ
def s_strings_trimRightASCII_l1 (call : CallK) (N : Nat) (st : St) (τ : Tape) (k : KC) : Ans := match st with
  | ⟨fr, H⟩ => getK fr 0 fun t0 => getK fr 1 fun t1 => someK (pLenS [t0]) fun v0 => binK .gtr v0 (.int .i64 (.ofNat 0)) fun v1 => condK v1 (someK (pLenS [t0]) fun v2 => binK .sub v2 (.int .i64 (.ofNat 1)) fun v3 => someK (pStrIndex [t0, v3]) fun v4 => call f_asciiSet_contains [t1, v4] H τ fun v5 H6 τ7 => unK .not v5 fun v8 => condK v8 (k (.exit 0) ⟨(T.set .leaf 0 t0), H6⟩ τ7) (someK (pLenS [t0]) fun v9 => binK .sub v9 (.int .i64 (.ofNat 1)) fun v10 => someK (pStrSlice false true [t0, v10]) fun v11 => k .normal ⟨(T.set (T.set (T.set (T.set (T.set (T.set (T.set (T.set .leaf 0 t0) 1 t1) 16 t0) 17 t0) 18 v9) 19 v10) 20 v11) 0 v11), H6⟩ τ7)) (k (.exit 0) ⟨(T.set .leaf 0 t0), H⟩ τ)
def s_strings_trimRightASCII (call : CallK) (N : Nat) (a0 a1 : V) (H : Heap) (τ : Tape) (q : KV) : Ans := loopK (s_strings_trimRightASCII_l1 call N) N ⟨(T.set (T.set .leaf 0 a0) 1 a1), H⟩ τ (blockK 0 (seqK (s_strings_trimRightASCII_j0 call N q) (endK [(.t 4)] q)))
theorem s_strings_trimRightASCII_eq (call : CallK) (N : Nat) (a0 a1 : V) (H : Heap) (τ : Tape) (q : KV) : s_strings_trimRightASCII call N a0 a1 H τ q = funK call N fn_strings_trimRightASCII [a0, a1] H τ q := by kernel_rfl
def e_strings_trimRightASCII (call : CallK) (N : Nat) (vs : List V) (H : Heap) (τ : Tape) (q : KV) : Ans := match vs with | [a0, a1] => s_strings_trimRightASCII call N a0 a1 H τ q | _ => none
theorem e_strings_trimRightASCII_ok : EntOk fn_strings_trimRightASCII e_strings_trimRightASCII := by
  intro call N vs H τ q r h
  unfold e_strings_trimRightASCII at h
  split at h
  · rw [s_strings_trimRightASCII_eq] at h; exact h
  · cases h
theorem e_strings_trimRightASCII_nat : EntNat e_strings_trimRightASCII := by
  intro c hn N vs H τ q
  unfold e_strings_trimRightASCII
  split
  · rw [s_strings_trimRightASCII_eq, s_strings_trimRightASCII_eq]; exact funK_ent hn _ _ _ _ _ _
  · rfl
/-- strings.trimLeftUnicode -/
def fn_strings_trimLeftUnicode : Fun := ⟨2, (.seq (.reg [iR 4 (.p .mv) [(.c (.str []))]]) (.keep [0, 1] (.seq (.block 0 (.loop (.keep [0, 1] (.seq (.seq (.reg [iR 7 (.p .mv) [(.t 0)], iR 8 (.p .lenS) [(.t 7)], iR 9 (.p (.bin .gtr)) [(.t 8), (.c (.int .i64 (.ofNat 0)))]]) (.keep [0, 1, 9] (.cond (.t 9) .skip (.keep [0] (.exit 0))))) (.keep [0, 1] (.block 1 (.seq (.reg [iR 11 (.p .mv) [(.t 0)], iR 12 (.call 95) [(.t 11)], iR 10 (.p .mv) [(.t 12)], iR 13 (.p (.extract 0)) [(.t 10)], iR 14 (.p (.extract 1)) [(.t 10)], iR 5 (.p .mv) [(.t 13)], iR 6 (.p .mv) [(.t 14)]]) (.keep [0, 1, 5, 6] (.seq (.seq (.reg [iR 15 (.p .mv) [(.t 1)], iR 16 (.p .mv) [(.t 5)], iR 17 (.call 96) [(.t 15), (.t 16)], iR 18 (.p (.un .not)) [(.t 17)]]) (.keep [0, 1, 6, 18] (.cond (.t 18) (.keep [0] (.exit 0)) .skip))) (.keep [0, 1, 6] (.reg [iR 19 (.p .mv) [(.t 0)], iR 20 (.p .mv) [(.t 6)],
    iR 21 (.p (.strSlice true false)) [(.t 19), (.t 20)], iR 0 (.p .mv) [(.t 21)]]))))))))))) (.keep [0] (.seq (.reg [iR 22 (.p .mv) [(.t 0)], iR 4 (.p .mv) [(.t 22)]]) (.keep [4] (.keep [4] .ret))))))), [(.t 4)]⟩
def s_strings_trimLeftUnicode_j0 (call : CallK) (N : Nat) (q : KV) (st : St) (τ : Tape) : Ans := match st with
  | ⟨fr, H⟩ => getK fr 0 fun t0 => q t0 H τ
def s_strings_trimLeftUnicode_l1 (call : CallK) (N : Nat) (st : St) (τ : Tape) (k : KC) : Ans := match st with
  | ⟨fr, H⟩ => getK fr 0 fun t0 => getK fr 1 fun t1 => someK (pLenS [t0]) fun v0 => binK .gtr v0 (.int .i64 (.ofNat 0)) fun v1 => condK v1 (call f_utf8_DecodeRuneInString [t0] H τ fun v2 H3 τ4 => someK (pExtract 0 [v2]) fun v5 => someK (pExtract 1 [v2]) fun v6 => call f_strings_ContainsRune [t1, v5] H3 τ4 fun v7 H8 τ9 => unK .not v7 fun v10 => condK v10 (k (.exit 0) ⟨(T.set .leaf 0 t0), H8⟩ τ9) (someK (pStrSlice true false [t0, v6]) fun v11 => k .normal ⟨(T.set (T.set (T.set (T.set (T.set (T.set (T.set .leaf 0 t0) 1 t1) 6 v6) 19 t0) 20 v6) 21 v11) 0 v11), H8⟩ τ9)) (k (.exit 0) ⟨(T.set .leaf 0 t0), H⟩ τ)
def s_strings_trimLeftUnicode (call : CallK) (N : Nat) (a0 a1 : V) (H : Heap) (τ : Tape) (q : KV) : Ans := loopK (s_strings_trimLeftUnicode_l1 call N) N ⟨(T.set (T.set .leaf 0 a0) 1 a1), H⟩ τ (blockK 0 (seqK (s_strings_trimLeftUnicode_j0 call N q) (endK [(.t 4)] q)))
theorem s_strings_trimLeftUnicode_eq (call : CallK) (N : Nat) (a0 a1 : V) (H : Heap) (τ : Tape) (q : KV) : s_strings_trimLeftUnicode call N a0 a1 H τ q = funK call N fn_strings_trimLeftUnicode [a0, a1] H τ q := by kernel_rfl
def e_strings_trimLeftUnicode (call : CallK) (N : Nat) (vs : List V) (H : Heap) (τ : Tape) (q : KV) : Ans := match vs with | [a0, a1] => s_strings_trimLeftUnicode call N a0 a1 H τ q | _ => none
theorem e_strings_trimLeftUnicode_ok : EntOk fn_strings_trimLeftUnicode e_strings_trimLeftUnicode := by
  intro call N vs H τ q r h
  unfold e_strings_trimLeftUnicode at h
  split at h
  · rw [s_strings_trimLeftUnicode_eq] at h; exact h
  · cases h
theorem e_strings_trimLeftUnicode_nat : EntNat e_strings_trimLeftUnicode := by
  intro c hn N vs H τ q
  unfold e_strings_trimLeftUnicode
  split
  · rw [s_strings_trimLeftUnicode_eq, s_strings_trimLeftUnicode_eq]; exact funK_ent hn _ _ _ _ _ _
  · rfl
/-- strings.trimRightUnicode -/
def fn_strings_trimRightUnicode : Fun := ⟨2, (.seq (.reg [iR 4 (.p .mv) [(.c (.str []))]]) (.keep [0, 1] (.seq (.block 0 (.loop (.keep [0, 1] (.seq (.seq (.reg [iR 7 (.p .mv) [(.t 0)], iR 8 (.p .lenS) [(.t 7)], iR 9 (.p (.bin .gtr)) [(.t 8), (.c (.int .i64 (.ofNat 0)))]]) (.keep [0, 1, 9] (.cond (.t 9) .skip (.keep [0] (.exit 0))))) (.keep [0, 1] (.block 1 (.seq (.reg [iR 10 (.p .mv) [(.t 0)], iR 11 (.p .mv) [(.t 0)], iR 12 (.p .lenS) [(.t 11)], iR 13 (.p (.bin .sub)) [(.t 12), (.c (.int .i64 (.ofNat 1)))], iR 14 (.p .strIndex) [(.t 10), (.t 13)], iR 15 (.p (.toInt .i32)) [(.t 14)], iR 5 (.p .mv) [(.t 15)], iR 6 (.p .mv) [(.c (.int .i64 (.ofNat 1)))]]) (.keep [0, 1, 5, 6] (.seq (.seq (.reg [iR 16 (.p .mv) [(.t 5)], iR 17 (.p (.bin .geq)) [(.t 16), (.c (.int .i32 (.ofNat 128)))]]) (.keep [0, 1, 5, 6, 17] (.cond (.t 17) (.reg [iR 19 (.p .mv) [(.t 0)], iR 20 (.call 97) [(.t 19)],
    iR 18 (.p .mv) [(.t 20)], iR 21 (.p (.extract 0)) [(.t 18)], iR 22 (.p (.extract 1)) [(.t 18)], iR 5 (.p .mv) [(.t 21)], iR 6 (.p .mv) [(.t 22)]]) .skip))) (.keep [0, 1, 5, 6] (.seq (.seq (.reg [iR 23 (.p .mv) [(.t 1)], iR 24 (.p .mv) [(.t 5)], iR 25 (.call 96) [(.t 23), (.t 24)], iR 26 (.p (.un .not)) [(.t 25)]]) (.keep [0, 1, 6, 26] (.cond (.t 26) (.keep [0] (.exit 0)) .skip))) (.keep [0, 1, 6] (.reg [iR 27 (.p .mv) [(.t 0)], iR 28 (.p .mv) [(.t 0)], iR 29 (.p .lenS) [(.t 28)], iR 30 (.p .mv) [(.t 6)], iR 31 (.p (.bin .sub)) [(.t 29), (.t 30)], iR 32 (.p (.strSlice false true)) [(.t 27), (.t 31)], iR 0 (.p .mv) [(.t 32)]]))))))))))))) (.keep [0] (.seq (.reg [iR 33 (.p .mv) [(.t 0)], iR 4 (.p .mv) [(.t 33)]]) (.keep [4] (.keep [4] .ret))))))), [(.t 4)]⟩
def s_strings_trimRightUnicode_j0 (call : CallK) (N : Nat) (q : KV) (st : St) (τ : Tape) : Ans := match st with
  | ⟨fr, H⟩ => getK fr 0 fun t0 => q t0 H τ
def s_strings_trimRightUnicode_j2 (call : CallK) (N : Nat) (k : KC) (st : St) (τ : Tape) : Ans := match st with
  | ⟨fr, H⟩ => getK fr 0 fun t0 => getK fr 1 fun t1 => getK fr 5 fun t5 => getK fr 6 fun t6 => call f_strings_ContainsRune [t1, t5] H τ fun v7 H8 τ9 => unK .not v7 fun v10 => condK v10 (k (.exit 0) ⟨(T.set .leaf 0 t0), H8⟩ τ9) (someK (pLenS [t0]) fun v11 => binK .sub v11 t6 fun v12 => someK (pStrSlice false true [t0, v12]) fun v13 => k .normal ⟨(T.set (T.set (T.set (T.set (T.set (T.set (T.set (T.set (T.set (T.set .leaf 0 t0) 1 t1) 6 t6) 27 t0) 28 t0) 29 v11) 30 t6) 31 v12) 32 v13) 0 v13), H8⟩ τ9)
def s_strings_trimRightUnicode_l1 (call : CallK) (N : Nat) (st : St) (τ : Tape) (k : KC) : Ans := match st with
  | ⟨fr, H⟩ => getK fr 0 fun t0 => getK fr 1 fun t1 => someK (pLenS [t0]) fun v0 => binK .gtr v0 (.int .i64 (.ofNat 0)) fun v1 => condK v1 (someK (pLenS [t0]) fun v2 => binK .sub v2 (.int .i64 (.ofNat 1)) fun v3 => someK (pStrIndex [t0, v3]) fun v4 => toIntK .i32 v4 fun v5 => binK .geq v5 (.int .i32 (.ofNat 128)) fun v6 => condK v6 (call f_utf8_DecodeLastRuneInString [t0] H τ fun v14 H15 τ16 => someK (pExtract 0 [v14]) fun v17 => someK (pExtract 1 [v14]) fun v18 => s_strings_trimRightUnicode_j2 call N k ⟨(T.set (T.set (T.set (T.set (T.set (T.set (T.set (T.set (T.set (T.set (T.set (T.set .leaf 0 t0) 1 t1) 5 v5) 6 (.int .i64 (.ofNat 1))) 17 v6) 19 t0) 20 v14) 18 v14) 21 v17) 22 v18) 5 v17) 6 v18), H15⟩ τ16) (s_strings_trimRightUnicode_j2 call N k ⟨(T.set (T.set (T.set (T.set (T.set .leaf 0 t0) 1 t1) 5 v5) 6 (.int .i64 (.ofNat 1))) 17 v6), H⟩ τ)) (k (.exit 0) ⟨(T.set .leaf 0 t0), H⟩ τ)
def s_strings_trimRightUnicode (call : CallK) (N : Nat) (a0 a1 : V) (H : Heap) (τ : Tape) (q : KV) : Ans := loopK (s_strings_trimRightUnicode_l1 call N) N ⟨(T.set (T.set .leaf 0 a0) 1 a1), H⟩ τ (blockK 0 (seqK (s_strings_trimRightUnicode_j0 call N q) (endK [(.t 4)] q)))
theorem s_strings_trimRightUnicode_eq (call : CallK) (N : Nat) (a0 a1 : V) (H : Heap) (τ : Tape) (q : KV) : s_strings_trimRightUnicode call N a0 a1 H τ q = funK call N fn_strings_trimRightUnicode [a0, a1] H τ q := by kernel_rfl
def e_strings_trimRightUnicode (call : CallK) (N : Nat) (vs : List V) (H : Heap) (τ : Tape) (q : KV) : Ans := match vs with | [a0, a1] => s_strings_trimRightUnicode call N a0 a1 H τ q | _ => none
theorem e_strings_trimRightUnicode_ok : EntOk fn_strings_trimRightUnicode e_strings_trimRightUnicode := by
  intro call N vs H τ q r h
  unfold e_strings_trimRightUnicode at h
  split at h
  · rw [s_strings_trimRightUnicode_eq] at h; exact h
  · cases h
theorem e_strings_trimRightUnicode_nat : EntNat e_strings_trimRightUnicode := by
  intro c hn N vs H τ q
  unfold e_strings_trimRightUnicode
  split
  · rw [s_strings_trimRightUnicode_eq, s_strings_trimRightUnicode_eq]; exact funK_ent hn _ _ _ _ _ _
  · rfl
/-- strings.IndexAny -/
def fn_strings_IndexAny : Fun := ⟨2, (.seq (.reg [iR 4 (.p .mv) [(.c (.int .i64 (.ofNat 0)))]]) (.keep [0, 1] (.seq (.seq (.reg [iR 11 (.p .mv) [(.t 1)], iR 12 (.p (.bin .eql)) [(.t 11), (.c (.str []))]]) (.keep [0, 1, 12] (.cond (.t 12) (.seq (.reg [iR 4 (.p .mv) [(.c (.int .i64 (.negSucc 0)))]]) (.keep [4] (.keep [4] .ret))) .skip))) (.keep [0, 1] (.seq (.seq (.reg [iR 13 (.p .mv) [(.t 1)], iR 14 (.p .lenS) [(.t 13)], iR 15 (.p (.bin .eql)) [(.t 14), (.c (.int .i64 (.ofNat 1)))]]) (.keep [0, 1, 15] (.cond (.t 15) (.seq (.reg [iR 16 (.p .mv) [(.t 1)], iR 17 (.p .strIndex) [(.t 16), (.c (.int .i64 (.ofNat 0)))], iR 18 (.p (.toInt .i32)) [(.t 17)], iR 5 (.p .mv) [(.t 18)]]) (.keep [0, 5] (.seq (.seq (.reg [iR 19 (.p .mv) [(.t 5)], iR 20 (.p (.bin .geq)) [(.t 19), (.c (.int .i32 (.ofNat 128)))]]) (.keep [0, 5, 20] (.cond (.t 20) (.reg [iR 5 (.p .mv) [(.c (.int .i32 (.ofNat 65533)))]])
    .skip))) (.keep [0, 5] (.seq (.reg [iR 21 (.p .mv) [(.t 0)], iR 22 (.p .mv) [(.t 5)], iR 23 (.call 98) [(.t 21), (.t 22)], iR 4 (.p .mv) [(.t 23)]]) (.keep [4] (.keep [4] .ret))))))) .skip))) (.keep [0, 1] (.seq (.seq (.reg [iR 24 (.p .mv) [(.t 0)], iR 25 (.p .lenS) [(.t 24)], iR 26 (.call 99) [(.t 25)]]) (.keep [0, 1, 26] (.cond (.t 26) (.seq (.reg [iR 28 (.p .mv) [(.t 1)], iR 29 (.call 71) [(.t 28)], iR 27 (.p .mv) [(.t 29)], iR 30 (.p (.extract 0)) [(.t 27)], iR 31 (.p (.extract 1)) [(.t 27)], iR 6 (.e (.alloc (repl 256 [(.bool false)]))) [], ⟨none, none, (.e (.store 256)), [(.t 6), (.t 30)], none⟩, iR 7 (.p .mv) [(.t 31)]]) (.keep [0, 1, 6, 7] (.seq (.reg [iR 32 (.p .mv) [(.t 7)]]) (.keep [0, 1, 6, 32] (.cond (.t 32) (.seq (.seq (.reg [iR 8 (.p .mv) [(.c (.int .i64 (.ofNat 0)))]]) (.keep [0, 6, 8] (.block 0 (.loop (.keep [0, 6, 8] (.seq (.seq (.reg [iR 33 (.p .mv) [(.t 8)],
    iR 34 (.p .mv) [(.t 0)], iR 35 (.p .lenS) [(.t 34)], iR 36 (.p (.bin .lss)) [(.t 33), (.t 35)]]) (.keep [0, 6, 8, 36] (.cond (.t 36) .skip (.keep [] (.exit 0))))) (.keep [0, 6, 8] (.seq (.block 1 (.seq (.reg [iR 39 (.p .mv) [(.t 0)], iR 40 (.p .mv) [(.t 8)], iR 41 (.p .strIndex) [(.t 39), (.t 40)], iR 42 (.call 94) [(.t 6), (.t 41)]]) (.keep [0, 6, 8, 42] (.cond (.t 42) (.seq (.reg [iR 43 (.p .mv) [(.t 8)], iR 4 (.p .mv) [(.t 43)]]) (.keep [4] (.keep [4] .ret))) .skip)))) (.keep [0, 6, 8] (.reg [iR 37 (.p .mv) [(.t 8)], iR 38 (.p (.bin .add)) [(.t 37), (.c (.int .i64 (.ofNat 1)))], iR 8 (.p .mv) [(.t 38)]])))))))))) (.keep [] (.seq (.reg [iR 4 (.p .mv) [(.c (.int .i64 (.negSucc 0)))]]) (.keep [4] (.keep [4] .ret))))) .skip))))) .skip))) (.keep [0, 1] (.seq (.seq (.reg [iR 44 (.p .mv) [(.t 0)], iR 45 (.e .range) [(.t 44)]]) (.keep [1, 45] (.block 2 (.loop
    (.keep [1, 45] (.seq (.reg [iR 46 (.e .next) [(.t 45)], iR 47 (.p (.extract 0)) [(.t 46)]]) (.keep [1, 45, 46, 47] (.seq (.cond (.t 47) .skip (.keep [] (.exit 2))) (.keep [1, 45, 46] (.block 3 (.seq (.reg [iR 48 (.p (.extract 1)) [(.t 46)], iR 49 (.p (.extract 2)) [(.t 46)], iR 9 (.p .mv) [(.t 48)], iR 10 (.p .mv) [(.t 49)]]) (.keep [1, 9, 10, 45] (.seq (.reg [iR 50 (.p .mv) [(.t 1)], iR 51 (.p .mv) [(.t 10)], iR 52 (.call 98) [(.t 50), (.t 51)], iR 53 (.p (.bin .geq)) [(.t 52), (.c (.int .i64 (.ofNat 0)))]]) (.keep [1, 9, 45, 53] (.cond (.t 53) (.seq (.reg [iR 54 (.p .mv) [(.t 9)], iR 4 (.p .mv) [(.t 54)]]) (.keep [4] (.keep [4] .ret))) .skip))))))))))))))) (.keep [] (.seq (.reg [iR 4 (.p .mv) [(.c (.int .i64 (.negSucc 0)))]]) (.keep [4] (.keep [4] .ret))))))))))))), [(.t 4)]⟩
def s_strings_IndexAny_j2 (call : CallK) (N : Nat) (q : KV) (st : St) (τ : Tape) : Ans := match st with
  | ⟨fr, H⟩ => q (.int .i64 (.negSucc 0)) H τ
def s_strings_IndexAny_l3 (call : CallK) (N : Nat) (st : St) (τ : Tape) (k : KC) : Ans := match st with
  | ⟨fr, H⟩ => getK fr 1 fun t1 => getK fr 45 fun t45 => effK (eNext [t45] H τ) fun v13 H14 τ15 => someK (pExtract 0 [v13]) fun v16 => condK v16 (someK (pExtract 1 [v13]) fun v17 => someK (pExtract 2 [v13]) fun v18 => call f_strings_IndexRune [t1, v18] H14 τ15 fun v19 H20 τ21 => binK .geq v19 (.int .i64 (.ofNat 0)) fun v22 => condK v22 (k .ret ⟨(T.set .leaf 4 v17), H20⟩ τ21) (k .normal ⟨(T.set (T.set (T.set (T.set .leaf 1 t1) 9 v17) 45 t45) 53 v22), H20⟩ τ21)) (k (.exit 2) ⟨.leaf, H14⟩ τ15)
def s_strings_IndexAny_j1 (call : CallK) (N : Nat) (q : KV) (st : St) (τ : Tape) : Ans := match st with
  | ⟨fr, H⟩ => getK fr 0 fun t0 => getK fr 1 fun t1 => effK (eRange [t0] H τ) fun v10 H11 τ12 => loopK (s_strings_IndexAny_l3 call N) N ⟨(T.set (T.set .leaf 1 t1) 45 v10), H11⟩ τ12 (blockK 2 (seqK (s_strings_IndexAny_j2 call N q) (endK [(.t 4)] q)))
def s_strings_IndexAny_j4 (call : CallK) (N : Nat) (q : KV) (st : St) (τ : Tape) : Ans := match st with
  | ⟨fr, H⟩ => q (.int .i64 (.negSucc 0)) H τ
def s_strings_IndexAny_l5 (call : CallK) (N : Nat) (st : St) (τ : Tape) (k : KC) : Ans := match st with
  | ⟨fr, H⟩ => getK fr 0 fun t0 => getK fr 6 fun t6 => getK fr 8 fun t8 => someK (pLenS [t0]) fun v34 => binK .lss t8 v34 fun v35 => condK v35 (someK (pStrIndex [t0, t8]) fun v36 => call f_asciiSet_contains [t6, v36] H τ fun v37 H38 τ39 => condK v37 (k .ret ⟨(T.set .leaf 4 t8), H38⟩ τ39) (binK .add t8 (.int .i64 (.ofNat 1)) fun v40 => k .normal ⟨(T.set (T.set (T.set (T.set (T.set (T.set .leaf 0 t0) 6 t6) 8 t8) 37 t8) 38 v40) 8 v40), H38⟩ τ39)) (k (.exit 0) ⟨.leaf, H⟩ τ)
def s_strings_IndexAny_j0 (call : CallK) (N : Nat) (q : KV) (st : St) (τ : Tape) : Ans := match st with
  | ⟨fr, H⟩ => getK fr 0 fun t0 => getK fr 1 fun t1 => someK (pLenS [t0]) fun v6 => call f_strings_shouldUseASCIISet [v6] H τ fun v7 H8 τ9 => condK v7 (call f_strings_makeASCIISet [t1] H8 τ9 fun v23 H24 τ25 => someK (pExtract 0 [v23]) fun v26 => someK (pExtract 1 [v23]) fun v27 => effK (eAlloc (repl 256 [(.bool false)]) [] H24 τ25) fun v28 H29 τ30 => effK (eStore 256 [v28, v26] H29 τ30) fun v31 H32 τ33 => condK v27 (loopK (s_strings_IndexAny_l5 call N) N ⟨(T.set (T.set (T.set .leaf 0 t0) 6 v28) 8 (.int .i64 (.ofNat 0))), H32⟩ τ33 (blockK 0 (seqK (s_strings_IndexAny_j4 call N q) (seqK (s_strings_IndexAny_j1 call N q) (endK [(.t 4)] q))))) (s_strings_IndexAny_j1 call N q ⟨(T.set (T.set (T.set (T.set .leaf 0 t0) 1 t1) 6 v28) 32 v27), H32⟩ τ33)) (s_strings_IndexAny_j1 call N q ⟨(T.set (T.set (T.set .leaf 0 t0) 1 t1) 26 v7), H8⟩ τ9)
def s_strings_IndexAny_j6 (call : CallK) (N : Nat) (q : KV) (st : St) (τ : Tape) : Ans := match st with
  | ⟨fr, H⟩ => getK fr 0 fun t0 => getK fr 5 fun t5 => call f_strings_IndexRune [t0, t5] H τ fun v41 H42 τ43 => q v41 H42 τ43
def s_strings_IndexAny_j8 (call : CallK) (N : Nat) (q : KV) (st : St) (τ : Tape) : Ans := match st with
  | ⟨fr, H⟩ => q (.int .i64 (.negSucc 0)) H τ
def s_strings_IndexAny_l9 (call : CallK) (N : Nat) (st : St) (τ : Tape) (k : KC) : Ans := match st with
  | ⟨fr, H⟩ => getK fr 1 fun t1 => getK fr 45 fun t45 => effK (eNext [t45] H τ) fun v51 H52 τ53 => someK (pExtract 0 [v51]) fun v54 => condK v54 (someK (pExtract 1 [v51]) fun v55 => someK (pExtract 2 [v51]) fun v56 => call f_strings_IndexRune [t1, v56] H52 τ53 fun v57 H58 τ59 => binK .geq v57 (.int .i64 (.ofNat 0)) fun v60 => condK v60 (k .ret ⟨(T.set .leaf 4 v55), H58⟩ τ59) (k .normal ⟨(T.set (T.set (T.set (T.set .leaf 1 t1) 9 v55) 45 t45) 53 v60), H58⟩ τ59)) (k (.exit 2) ⟨.leaf, H52⟩ τ53)
def s_strings_IndexAny_j7 (call : CallK) (N : Nat) (q : KV) (st : St) (τ : Tape) : Ans := match st with
  | ⟨fr, H⟩ => getK fr 0 fun t0 => getK fr 1 fun t1 => effK (eRange [t0] H τ) fun v48 H49 τ50 => loopK (s_strings_IndexAny_l9 call N) N ⟨(T.set (T.set .leaf 1 t1) 45 v48), H49⟩ τ50 (blockK 2 (seqK (s_strings_IndexAny_j8 call N q) (endK [(.t 4)] q)))
def s_strings_IndexAny_j10 (call : CallK) (N : Nat) (q : KV) (st : St) (τ : Tape) : Ans := match st with
  | ⟨fr, H⟩ => q (.int .i64 (.negSucc 0)) H τ
def s_strings_IndexAny_l11 (call : CallK) (N : Nat) (st : St) (τ : Tape) (k : KC) : Ans := match st with
  | ⟨fr, H⟩ => getK fr 0 fun t0 => getK fr 6 fun t6 => getK fr 8 fun t8 => someK (pLenS [t0]) fun v72 => binK .lss t8 v72 fun v73 => condK v73 (someK (pStrIndex [t0, t8]) fun v74 => call f_asciiSet_contains [t6, v74] H τ fun v75 H76 τ77 => condK v75 (k .ret ⟨(T.set .leaf 4 t8), H76⟩ τ77) (binK .add t8 (.int .i64 (.ofNat 1)) fun v78 => k .normal ⟨(T.set (T.set (T.set (T.set (T.set (T.set .leaf 0 t0) 6 t6) 8 t8) 37 t8) 38 v78) 8 v78), H76⟩ τ77)) (k (.exit 0) ⟨.leaf, H⟩ τ)
def s_strings_IndexAny (call : CallK) (N : Nat) (a0 a1 : V) (H : Heap) (τ : Tape) (q : KV) : Ans := binK .eql a1 (.str []) fun v0 => condK v0 (q (.int .i64 (.negSucc 0)) H τ) (someK (pLenS [a1]) fun v1 => binK .eql v1 (.int .i64 (.ofNat 1)) fun v2 => condK v2 (someK (pStrIndex [a1, (.int .i64 (.ofNat 0))]) fun v3 => toIntK .i32 v3 fun v4 => binK .geq v4 (.int .i32 (.ofNat 128)) fun v5 => condK v5 (s_strings_IndexAny_j6 call N q ⟨(T.set (T.set (T.set (T.set .leaf 0 a0) 5 v4) 20 v5) 5 (.int .i32 (.ofNat 65533))), H⟩ τ) (s_strings_IndexAny_j6 call N q ⟨(T.set (T.set (T.set .leaf 0 a0) 5 v4) 20 v5), H⟩ τ)) (someK (pLenS [a0]) fun v44 => call f_strings_shouldUseASCIISet [v44] H τ fun v45 H46 τ47 => condK v45 (call f_strings_makeASCIISet [a1] H46 τ47 fun v61 H62 τ63 => someK (pExtract 0 [v61]) fun v64 => someK (pExtract 1 [v61]) fun v65 =>
    effK (eAlloc (repl 256 [(.bool false)]) [] H62 τ63) fun v66 H67 τ68 => effK (eStore 256 [v66, v64] H67 τ68) fun v69 H70 τ71 => condK v65 (loopK (s_strings_IndexAny_l11 call N) N ⟨(T.set (T.set (T.set .leaf 0 a0) 6 v66) 8 (.int .i64 (.ofNat 0))), H70⟩ τ71 (blockK 0 (seqK (s_strings_IndexAny_j10 call N q) (seqK (s_strings_IndexAny_j7 call N q) (endK [(.t 4)] q))))) (s_strings_IndexAny_j7 call N q ⟨(T.set (T.set (T.set (T.set .leaf 0 a0) 1 a1) 6 v66) 32 v65), H70⟩ τ71)) (s_strings_IndexAny_j7 call N q ⟨(T.set (T.set (T.set .leaf 0 a0) 1 a1) 26 v45), H46⟩ τ47)))
theorem s_strings_IndexAny_eq (call : CallK) (N : Nat) (a0 a1 : V) (H : Heap) (τ : Tape) (q : KV) : s_strings_IndexAny call N a0 a1 H τ q = funK call N fn_strings_IndexAny [a0, a1] H τ q := by kernel_rfl
def e_strings_IndexAny (call : CallK) (N : Nat) (vs : List V) (H : Heap) (τ : Tape) (q : KV) : Ans := match vs with | [a0, a1] => s_strings_IndexAny call N a0 a1 H τ q | _ => none
theorem e_strings_IndexAny_ok : EntOk fn_strings_IndexAny e_strings_IndexAny := by
  intro call N vs H τ q r h
  unfold e_strings_IndexAny at h
  split at h
  · rw [s_strings_IndexAny_eq] at h; exact h
  · cases h
theorem e_strings_IndexAny_nat : EntNat e_strings_IndexAny := by
  intro c hn N vs H τ q
  unfold e_strings_IndexAny
  split
  · rw [s_strings_IndexAny_eq, s_strings_IndexAny_eq]; exact funK_ent hn _ _ _ _ _ _
  · rfl
/-- ostiary/ostiaryref1.ends -/
def fn_ref1_ends : Fun := ⟨2, (.seq (.reg [iR 4 (.p .mv) [(.c (.bool false))]]) (.keep [0, 1] (.seq (.reg [iR 5 (.p .mv) [(.t 0)], iR 6 (.p (.bin .eql)) [(.t 5), (.c (.int .u8 (.ofNat 9)))], iR 7 (.p .mv) [(.t 6)], iG 8 7 false (.p .mv) [(.t 0)], iG 9 7 false (.p (.bin .eql)) [(.t 8), (.c (.int .u8 (.ofNat 32)))], iR 10 (.p .pick) [(.t 7), (.c (.bool true)), (.t 9)], iR 11 (.p .mv) [(.t 10)], iG 12 11 false (.p .mv) [(.t 1)], iG 13 11 false (.p (.un .not)) [(.t 12)], iG 14 11 false (.p .mv) [(.t 13)], iG 15 14 true (.p .mv) [(.t 0)], iG 16 14 true (.p (.bin .eql)) [(.t 15), (.c (.int .u8 (.ofNat 10)))], iG 17 14 true (.p .mv) [(.t 16)], iG 18 17 false (.p .mv) [(.t 0)], iG 19 17 false (.p (.bin .eql)) [(.t 18), (.c (.int .u8 (.ofNat 13)))], iG 20 14 true (.p .pick) [(.t 17), (.c (.bool true)), (.t 19)], iG 21 11 false (.p .pick) [(.t 14), (.t 20), (.c (.bool false))],
    iR 22 (.p .pick) [(.t 11), (.c (.bool true)), (.t 21)], iR 4 (.p .mv) [(.t 22)]]) (.keep [4] (.keep [4] .ret))))), [(.t 4)]⟩
def s_ref1_ends (call : CallK) (N : Nat) (a0 a1 : V) (H : Heap) (τ : Tape) (q : KV) : Ans := binK .eql a0 (.int .u8 (.ofNat 9)) fun v0 => gK v0 false (fun q' => q' a0 H τ) H τ fun v1 H2 τ3 => gK v0 false (fun q' => binK .eql v1 (.int .u8 (.ofNat 32)) fun v => q' v H2 τ3) H2 τ3 fun v4 H5 τ6 => someK (pPick [v0, (.bool true), v4]) fun v7 => gK v7 false (fun q' => q' a1 H5 τ6) H5 τ6 fun v8 H9 τ10 => gK v7 false (fun q' => unK .not v8 fun v => q' v H9 τ10) H9 τ10 fun v11 H12 τ13 => gK v7 false (fun q' => q' v11 H12 τ13) H12 τ13 fun v14 H15 τ16 => gK v14 true (fun q' => q' a0 H15 τ16) H15 τ16 fun v17 H18 τ19 => gK v14 true (fun q' => binK .eql v17 (.int .u8 (.ofNat 10)) fun v => q' v H18 τ19) H18 τ19 fun v20 H21 τ22 => gK v14 true (fun q' => q' v20 H21 τ22) H21 τ22 fun v23 H24 τ25 => gK v23 false (fun q' => q' a0 H24 τ25) H24 τ25 fun v26 H27 τ28 =>
    gK v23 false (fun q' => binK .eql v26 (.int .u8 (.ofNat 13)) fun v => q' v H27 τ28) H27 τ28 fun v29 H30 τ31 => gK v14 true (fun q' => someK (pPick [v23, (.bool true), v29]) fun v => q' v H30 τ31) H30 τ31 fun v32 H33 τ34 => gK v7 false (fun q' => someK (pPick [v14, v32, (.bool false)]) fun v => q' v H33 τ34) H33 τ34 fun v35 H36 τ37 => someK (pPick [v7, (.bool true), v35]) fun v38 => q v38 H36 τ37
theorem s_ref1_ends_eq (call : CallK) (N : Nat) (a0 a1 : V) (H : Heap) (τ : Tape) (q : KV) : s_ref1_ends call N a0 a1 H τ q = funK call N fn_ref1_ends [a0, a1] H τ q := by kernel_rfl
def e_ref1_ends (call : CallK) (N : Nat) (vs : List V) (H : Heap) (τ : Tape) (q : KV) : Ans := match vs with | [a0, a1] => s_ref1_ends call N a0 a1 H τ q | _ => none
theorem e_ref1_ends_ok : EntOk fn_ref1_ends e_ref1_ends := by
  intro call N vs H τ q r h
  unfold e_ref1_ends at h
  split at h
  · rw [s_ref1_ends_eq] at h; exact h
  · cases h
theorem e_ref1_ends_nat : EntNat e_ref1_ends := by
  intro c hn N vs H τ q
  unfold e_ref1_ends
  split
  · rw [s_ref1_ends_eq, s_ref1_ends_eq]; exact funK_ent hn _ _ _ _ _ _
  · rfl
/-- internal/stringslite.CutPrefix -/
def fn_stringslite_CutPrefix : Fun := ⟨2, (.seq (.reg [iR 4 (.p .mv) [(.c (.str []))], iR 5 (.p .mv) [(.c (.bool false))]]) (.keep [0, 1] (.seq (.seq (.reg [iR 6 (.p .mv) [(.t 0)], iR 7 (.p .mv) [(.t 1)], iR 8 (.call 89) [(.t 6), (.t 7)], iR 9 (.p (.un .not)) [(.t 8)]]) (.keep [0, 1, 9] (.cond (.t 9) (.seq (.reg [iR 10 (.p .mv) [(.t 0)], iR 4 (.p .mv) [(.t 10)], iR 5 (.p .mv) [(.c (.bool false))]]) (.keep [4, 5] (.keep [4, 5] .ret))) .skip))) (.keep [0, 1] (.seq (.reg [iR 11 (.p .mv) [(.t 0)], iR 12 (.p .mv) [(.t 1)], iR 13 (.p .lenS) [(.t 12)], iR 14 (.p (.strSlice true false)) [(.t 11), (.t 13)], iR 4 (.p .mv) [(.t 14)], iR 5 (.p .mv) [(.c (.bool true))]]) (.keep [4, 5] (.keep [4, 5] .ret))))))), [(.t 4), (.t 5)]⟩
def s_stringslite_CutPrefix (call : CallK) (N : Nat) (a0 a1 : V) (H : Heap) (τ : Tape) (q : KV) : Ans := call f_stringslite_HasPrefix [a0, a1] H τ fun v0 H1 τ2 => unK .not v0 fun v3 => condK v3 (q (.tup [a0, (.bool false)]) H1 τ2) (someK (pLenS [a1]) fun v4 => someK (pStrSlice true false [a0, v4]) fun v5 => q (.tup [v5, (.bool true)]) H1 τ2)
theorem s_stringslite_CutPrefix_eq (call : CallK) (N : Nat) (a0 a1 : V) (H : Heap) (τ : Tape) (q : KV) : s_stringslite_CutPrefix call N a0 a1 H τ q = funK call N fn_stringslite_CutPrefix [a0, a1] H τ q := by kernel_rfl
def e_stringslite_CutPrefix (call : CallK) (N : Nat) (vs : List V) (H : Heap) (τ : Tape) (q : KV) : Ans := match vs with | [a0, a1] => s_stringslite_CutPrefix call N a0 a1 H τ q | _ => none
theorem e_stringslite_CutPrefix_ok : EntOk fn_stringslite_CutPrefix e_stringslite_CutPrefix := by
  intro call N vs H τ q r h
  unfold e_stringslite_CutPrefix at h
  split at h
  · rw [s_stringslite_CutPrefix_eq] at h; exact h
  · cases h
theorem e_stringslite_CutPrefix_nat : EntNat e_stringslite_CutPrefix := by
  intro c hn N vs H τ q
  unfold e_stringslite_CutPrefix
  split
  · rw [s_stringslite_CutPrefix_eq, s_stringslite_CutPrefix_eq]; exact funK_ent hn _ _ _ _ _ _
  · rfl
/-- internal/stringslite.Cut -/
def fn_stringslite_Cut : Fun := ⟨2, (.seq (.reg [iR 4 (.p .mv) [(.c (.str []))], iR 5 (.p .mv) [(.c (.str []))], iR 6 (.p .mv) [(.c (.bool false))]]) (.keep [0, 1] (.seq (.seq (.reg [iR 8 (.p .mv) [(.t 0)], iR 9 (.p .mv) [(.t 1)], iR 10 (.call 102) [(.t 8), (.t 9)], iR 7 (.p .mv) [(.t 10)]]) (.keep [0, 1, 7] (.seq (.reg [iR 11 (.p .mv) [(.t 7)], iR 12 (.p (.bin .geq)) [(.t 11), (.c (.int .i64 (.ofNat 0)))]]) (.keep [0, 1, 7, 12] (.cond (.t 12) (.seq (.draw [iR 13 (.p .mv) [(.t 0)], iR 14 (.p .mv) [(.t 7)], iR 15 (.p (.strSlice false true)) [(.t 13), (.t 14)], iR 16 (.p .mv) [(.t 0)], iR 17 (.p .mv) [(.t 7)], iR 18 (.p .mv) [(.t 1)], iR 19 (.p .lenS) [(.t 18)], iR 20 (.p (.bin .add)) [(.t 17), (.t 19)], iR 21 (.p (.strSlice true false)) [(.t 16), (.t 20)], iR 4 (.p .mv) [(.t 15)], iR 5 (.p .mv) [(.t 21)], iR 6 (.p .mv) [(.c (.bool true))]]) (.keep [4, 5, 6] (.keep [4, 5, 6] .ret)))
    .skip))))) (.keep [0] (.seq (.reg [iR 22 (.p .mv) [(.t 0)], iR 4 (.p .mv) [(.t 22)], iR 5 (.p .mv) [(.c (.str []))], iR 6 (.p .mv) [(.c (.bool false))]]) (.keep [4, 5, 6] (.keep [4, 5, 6] .ret))))))), [(.t 4), (.t 5), (.t 6)]⟩
def s_stringslite_Cut (call : CallK) (N : Nat) (a0 a1 : V) (H : Heap) (τ : Tape) (q : KV) : Ans := call f_stringslite_Index [a0, a1] H τ fun v0 H1 τ2 => binK .geq v0 (.int .i64 (.ofNat 0)) fun v3 => condK v3 (someK (pStrSlice false true [a0, v0]) fun v4 => someK (pLenS [a1]) fun v5 => binK .add v0 v5 fun v6 => someK (pStrSlice true false [a0, v6]) fun v7 => q (.tup [v4, v7, (.bool true)]) H1 τ2) (q (.tup [a0, (.str []), (.bool false)]) H1 τ2)
theorem s_stringslite_Cut_eq (call : CallK) (N : Nat) (a0 a1 : V) (H : Heap) (τ : Tape) (q : KV) : s_stringslite_Cut call N a0 a1 H τ q = funK call N fn_stringslite_Cut [a0, a1] H τ q := by kernel_rfl
def e_stringslite_Cut (call : CallK) (N : Nat) (vs : List V) (H : Heap) (τ : Tape) (q : KV) : Ans := match vs with | [a0, a1] => s_stringslite_Cut call N a0 a1 H τ q | _ => none
theorem e_stringslite_Cut_ok : EntOk fn_stringslite_Cut e_stringslite_Cut := by
  intro call N vs H τ q r h
  unfold e_stringslite_Cut at h
  split at h
  · rw [s_stringslite_Cut_eq] at h; exact h
  · cases h
theorem e_stringslite_Cut_nat : EntNat e_stringslite_Cut := by
  intro c hn N vs H τ q
  unfold e_stringslite_Cut
  split
  · rw [s_stringslite_Cut_eq, s_stringslite_Cut_eq]; exact funK_ent hn _ _ _ _ _ _
  · rfl
/-- ostiary/infra.Int -/
def fn_infra_Int : Fun := ⟨1, (.seq (.reg [iR 2 (.p .mv) [(.c (.int .i64 (.ofNat 0)))], iR 3 (.p .mv) [(.c (.bool false))]]) (.keep [0] (.seq (.reg [iR 4 (.p .mv) [(.c (.int .i64 (.ofNat 0)))]]) (.keep [0, 4] (.seq (.seq (.reg [iR 8 (.p .mv) [(.t 0)], iR 9 (.p .lenS) [(.t 8)], iR 10 (.p .mv) [(.c (.int .i64 (.ofNat 0)))]]) (.keep [0, 4, 9, 10] (.block 0 (.loop (.keep [0, 4, 9, 10] (.seq (.reg [iR 11 (.p (.bin .lss)) [(.t 10), (.t 9)]]) (.keep [0, 4, 9, 10, 11] (.seq (.cond (.t 11) .skip (.keep [0, 4] (.exit 0))) (.keep [0, 4, 9, 10] (.seq (.block 1 (.seq (.reg [iR 12 (.p .mv) [(.t 10)], iR 5 (.p .mv) [(.t 12)]]) (.keep [0, 4, 5, 9, 10] (.seq (.reg [iR 13 (.p .mv) [(.t 0)], iR 14 (.p .mv) [(.t 5)], iR 15 (.p .strIndex) [(.t 13), (.t 14)], iR 6 (.p .mv) [(.t 15)]]) (.keep [0, 4, 6, 9, 10] (.seq (.seq (.reg [iR 16 (.p .mv) [(.t 6)],
    iR 17 (.p (.bin .lss)) [(.t 16), (.c (.int .u8 (.ofNat 48)))], iR 18 (.p .mv) [(.t 17)], iG 19 18 false (.p .mv) [(.t 6)], iG 20 18 false (.p (.bin .gtr)) [(.t 19), (.c (.int .u8 (.ofNat 57)))], iR 21 (.p .pick) [(.t 18), (.c (.bool true)), (.t 20)]]) (.keep [0, 4, 6, 9, 10, 21] (.cond (.t 21) (.seq (.reg [iR 2 (.p .mv) [(.c (.int .i64 (.ofNat 0)))], iR 3 (.p .mv) [(.c (.bool false))]]) (.keep [2, 3] (.keep [2, 3] .ret))) .skip))) (.keep [0, 4, 6, 9, 10] (.seq (.reg [iR 22 (.p .mv) [(.t 6)], iR 23 (.p (.bin .sub)) [(.t 22), (.c (.int .u8 (.ofNat 48)))], iR 24 (.p (.toInt .i64)) [(.t 23)], iR 7 (.p .mv) [(.t 24)]]) (.keep [0, 4, 7, 9, 10] (.seq (.seq (.reg [iR 25 (.p .mv) [(.t 4)], iR 26 (.p .mv) [(.t 7)], iR 27 (.p (.bin .sub)) [(.c (.int .i64 (.ofNat 9223372036854775807))), (.t 26)], iR 28 (.p (.bin .quo)) [(.t 27), (.c (.int .i64 (.ofNat 10)))],
    iR 29 (.p (.bin .gtr)) [(.t 25), (.t 28)]]) (.keep [0, 4, 7, 9, 10, 29] (.cond (.t 29) (.seq (.reg [iR 4 (.p .mv) [(.c (.int .i64 (.ofNat 9223372036854775807)))]]) (.keep [0, 4, 9, 10] (.keep [0, 4, 9, 10] (.exit 1)))) .skip))) (.keep [0, 4, 7, 9, 10] (.reg [iR 30 (.p .mv) [(.t 4)], iR 31 (.p (.bin .mul)) [(.t 30), (.c (.int .i64 (.ofNat 10)))], iR 32 (.p .mv) [(.t 7)], iR 33 (.p (.bin .add)) [(.t 31), (.t 32)], iR 4 (.p .mv) [(.t 33)]])))))))))))) (.keep [0, 4, 9, 10] (.reg [iR 34 (.p (.bin .add)) [(.t 10), (.c (.int .i64 (.ofNat 1)))], iR 10 (.p .mv) [(.t 34)]])))))))))))) (.keep [0, 4] (.seq (.reg [iR 35 (.p .mv) [(.t 4)], iR 36 (.p .mv) [(.t 0)], iR 37 (.p .lenS) [(.t 36)], iR 38 (.p (.bin .gtr)) [(.t 37), (.c (.int .i64 (.ofNat 0)))], iR 2 (.p .mv) [(.t 35)], iR 3 (.p .mv) [(.t 38)]]) (.keep [2, 3] (.keep [2, 3] .ret))))))))), [(.t 2), (.t 3)]⟩
def s_infra_Int_j0 (call : CallK) (N : Nat) (q : KV) (st : St) (τ : Tape) : Ans := match st with
  | ⟨fr, H⟩ => getK fr 0 fun t0 => getK fr 4 fun t4 => someK (pLenS [t0]) fun v1 => binK .gtr v1 (.int .i64 (.ofNat 0)) fun v2 => q (.tup [t4, v2]) H τ
def s_infra_Int_j2 (call : CallK) (N : Nat) (k : KC) (st : St) (τ : Tape) : Ans := match st with
  | ⟨fr, H⟩ => getK fr 0 fun t0 => getK fr 4 fun t4 => getK fr 9 fun t9 => getK fr 10 fun t10 => binK .add t10 (.int .i64 (.ofNat 1)) fun v4 => k .normal ⟨(T.set (T.set (T.set (T.set (T.set (T.set .leaf 0 t0) 4 t4) 9 t9) 10 t10) 34 v4) 10 v4), H⟩ τ
def s_infra_Int_l1 (call : CallK) (N : Nat) (st : St) (τ : Tape) (k : KC) : Ans := match st with
  | ⟨fr, H⟩ => getK fr 0 fun t0 => getK fr 4 fun t4 => getK fr 9 fun t9 => getK fr 10 fun t10 => binK .lss t10 t9 fun v3 => condK v3 (someK (pStrIndex [t0, t10]) fun v5 => binK .lss v5 (.int .u8 (.ofNat 48)) fun v6 => gK v6 false (fun q' => q' v5 H τ) H τ fun v7 H8 τ9 => gK v6 false (fun q' => binK .gtr v7 (.int .u8 (.ofNat 57)) fun v => q' v H8 τ9) H8 τ9 fun v10 H11 τ12 => someK (pPick [v6, (.bool true), v10]) fun v13 => condK v13 (k .ret ⟨(T.set (T.set .leaf 2 (.int .i64 (.ofNat 0))) 3 (.bool false)), H11⟩ τ12) (binK .sub v5 (.int .u8 (.ofNat 48)) fun v14 => toIntK .i64 v14 fun v15 => binK .sub (.int .i64 (.ofNat 9223372036854775807)) v15 fun v16 => binK .quo v16 (.int .i64 (.ofNat 10)) fun v17 => binK .gtr t4 v17 fun v18 => condK v18 (s_infra_Int_j2 call N k ⟨(T.set (T.set (T.set (T.set .leaf 0 t0) 4 (.int .i64 (.ofNat 9223372036854775807))) 9 t9) 10 t10), H11⟩ τ12)
    (binK .mul t4 (.int .i64 (.ofNat 10)) fun v19 => binK .add v19 v15 fun v20 => s_infra_Int_j2 call N k ⟨(T.set (T.set (T.set (T.set (T.set (T.set (T.set (T.set (T.set (T.set .leaf 0 t0) 4 t4) 7 v15) 9 t9) 10 t10) 30 t4) 31 v19) 32 v15) 33 v20) 4 v20), H11⟩ τ12))) (k (.exit 0) ⟨(T.set (T.set .leaf 0 t0) 4 t4), H⟩ τ)
def s_infra_Int (call : CallK) (N : Nat) (a0 : V) (H : Heap) (τ : Tape) (q : KV) : Ans := someK (pLenS [a0]) fun v0 => loopK (s_infra_Int_l1 call N) N ⟨(T.set (T.set (T.set (T.set .leaf 0 a0) 4 (.int .i64 (.ofNat 0))) 9 v0) 10 (.int .i64 (.ofNat 0))), H⟩ τ (blockK 0 (seqK (s_infra_Int_j0 call N q) (endK [(.t 2), (.t 3)] q)))
theorem s_infra_Int_eq (call : CallK) (N : Nat) (a0 : V) (H : Heap) (τ : Tape) (q : KV) : s_infra_Int call N a0 H τ q = funK call N fn_infra_Int [a0] H τ q := by kernel_rfl
def e_infra_Int (call : CallK) (N : Nat) (vs : List V) (H : Heap) (τ : Tape) (q : KV) : Ans := match vs with | [a0] => s_infra_Int call N a0 H τ q | _ => none
theorem e_infra_Int_ok : EntOk fn_infra_Int e_infra_Int := by
  intro call N vs H τ q r h
  unfold e_infra_Int at h
  split at h
  · rw [s_infra_Int_eq] at h; exact h
  · cases h
theorem e_infra_Int_nat : EntNat e_infra_Int := by
  intro c hn N vs H τ q
  unfold e_infra_Int
  split
  · rw [s_infra_Int_eq, s_infra_Int_eq]; exact funK_ent hn _ _ _ _ _ _
  · rfl
/-- ostiary/ostiaryref1.Digit -/
def fn_ref1_Digit : Fun := ⟨1, (.seq (.reg [iR 2 (.p .mv) [(.c (.bool false))]]) (.keep [0] (.seq (.reg [iR 3 (.p .mv) [(.t 0)], iR 4 (.p (.bin .geq)) [(.t 3), (.c (.int .u8 (.ofNat 48)))], iR 5 (.p .mv) [(.t 4)], iG 6 5 true (.p .mv) [(.t 0)], iG 7 5 true (.p (.bin .leq)) [(.t 6), (.c (.int .u8 (.ofNat 57)))], iR 8 (.p .pick) [(.t 5), (.t 7), (.c (.bool false))], iR 2 (.p .mv) [(.t 8)]]) (.keep [2] (.keep [2] .ret))))), [(.t 2)]⟩
def s_ref1_Digit (call : CallK) (N : Nat) (a0 : V) (H : Heap) (τ : Tape) (q : KV) : Ans := binK .geq a0 (.int .u8 (.ofNat 48)) fun v0 => gK v0 true (fun q' => q' a0 H τ) H τ fun v1 H2 τ3 => gK v0 true (fun q' => binK .leq v1 (.int .u8 (.ofNat 57)) fun v => q' v H2 τ3) H2 τ3 fun v4 H5 τ6 => someK (pPick [v0, v4, (.bool false)]) fun v7 => q v7 H5 τ6
theorem s_ref1_Digit_eq (call : CallK) (N : Nat) (a0 : V) (H : Heap) (τ : Tape) (q : KV) : s_ref1_Digit call N a0 H τ q = funK call N fn_ref1_Digit [a0] H τ q := by kernel_rfl
def e_ref1_Digit (call : CallK) (N : Nat) (vs : List V) (H : Heap) (τ : Tape) (q : KV) : Ans := match vs with | [a0] => s_ref1_Digit call N a0 H τ q | _ => none
theorem e_ref1_Digit_ok : EntOk fn_ref1_Digit e_ref1_Digit := by
  intro call N vs H τ q r h
  unfold e_ref1_Digit at h
  split at h
  · rw [s_ref1_Digit_eq] at h; exact h
  · cases h
theorem e_ref1_Digit_nat : EntNat e_ref1_Digit := by
  intro c hn N vs H τ q
  unfold e_ref1_Digit
  split
  · rw [s_ref1_Digit_eq, s_ref1_Digit_eq]; exact funK_ent hn _ _ _ _ _ _
  · rfl
/-- ostiary/infra.mapped -/
def fn_infra_mapped : Fun := ⟨2, (.seq (.reg [iR 4 (.p .mv) [(.c (.str []))]]) (.keep [0, 1] (.seq (.reg [iR 8 (.p .mv) [(.t 0)], iR 9 (.e .strBytes) [(.t 8)], iR 5 (.p .mv) [(.t 9)]]) (.keep [1, 5] (.seq (.seq (.reg [iR 10 (.p .mv) [(.t 5)], iR 11 (.p .len) [(.t 10)], iR 12 (.p .mv) [(.c (.int .i64 (.ofNat 0)))]]) (.keep [1, 5, 10, 11, 12] (.block 0 (.loop (.keep [1, 5, 10, 11, 12] (.seq (.reg [iR 13 (.p (.bin .lss)) [(.t 12), (.t 11)]]) (.keep [1, 5, 10, 11, 12, 13] (.seq (.cond (.t 13) .skip (.keep [5] (.exit 0))) (.keep [1, 5, 10, 11, 12] (.seq (.block 1 (.seq (.reg [iR 14 (.p .mv) [(.t 12)], iR 15 (.p (.slIdx 1)) [(.t 10), (.t 12)], iR 16 (.l (.load none)) [(.t 15)], iR 6 (.p .mv) [(.t 14)], iR 7 (.p .mv) [(.t 16)]]) (.keep [1, 5, 6, 7, 10, 11, 12] (.reg [iR 17 (.p .mv) [(.t 5)], iR 18 (.p .mv) [(.t 6)], iR 19 (.p .mv) [(.t 1)], iR 20 (.p .mv) [(.t 7)],
    iR 21 .callv [(.t 19), (.t 20)], iR 22 (.p (.slIdx 1)) [(.t 17), (.t 18)], ⟨none, none, (.e (.store 1)), [(.t 22), (.t 21)], none⟩])))) (.keep [1, 5, 10, 11, 12] (.reg [iR 23 (.p (.bin .add)) [(.t 12), (.c (.int .i64 (.ofNat 1)))], iR 12 (.p .mv) [(.t 23)]])))))))))))) (.keep [5] (.seq (.reg [iR 24 (.p .mv) [(.t 5)], iR 25 (.l .bytesStr) [(.t 24)], iR 4 (.p .mv) [(.t 25)]]) (.keep [4] (.keep [4] .ret))))))))), [(.t 4)]⟩
def s_infra_mapped_j0 (call : CallK) (N : Nat) (q : KV) (st : St) (τ : Tape) : Ans := match st with
  | ⟨fr, H⟩ => getK fr 5 fun t5 => someK (lBytesStr [t5] H) fun v4 => q v4 H τ
def s_infra_mapped_l1 (call : CallK) (N : Nat) (st : St) (τ : Tape) (k : KC) : Ans := match st with
  | ⟨fr, H⟩ => getK fr 1 fun t1 => getK fr 5 fun t5 => getK fr 10 fun t10 => getK fr 11 fun t11 => getK fr 12 fun t12 => binK .lss t12 t11 fun v5 => condK v5 (someK (pSlIdx 1 [t10, t12]) fun v6 => someK (lLoad1 [v6] H) fun v7 => opK call .callv [t1, v7] H τ fun v8 H9 τ10 => someK (pSlIdx 1 [t5, t12]) fun v11 => effK (eStore 1 [v11, v8] H9 τ10) fun v12 H13 τ14 => binK .add t12 (.int .i64 (.ofNat 1)) fun v15 => k .normal ⟨(T.set (T.set (T.set (T.set (T.set (T.set (T.set .leaf 1 t1) 5 t5) 10 t10) 11 t11) 12 t12) 23 v15) 12 v15), H13⟩ τ14) (k (.exit 0) ⟨(T.set .leaf 5 t5), H⟩ τ)
def s_infra_mapped (call : CallK) (N : Nat) (a0 a1 : V) (H : Heap) (τ : Tape) (q : KV) : Ans := effK (eStrBytes [a0] H τ) fun v0 H1 τ2 => someK (pLen [v0]) fun v3 => loopK (s_infra_mapped_l1 call N) N ⟨(T.set (T.set (T.set (T.set (T.set .leaf 1 a1) 5 v0) 10 v0) 11 v3) 12 (.int .i64 (.ofNat 0))), H1⟩ τ2 (blockK 0 (seqK (s_infra_mapped_j0 call N q) (endK [(.t 4)] q)))
theorem s_infra_mapped_eq (call : CallK) (N : Nat) (a0 a1 : V) (H : Heap) (τ : Tape) (q : KV) : s_infra_mapped call N a0 a1 H τ q = funK call N fn_infra_mapped [a0, a1] H τ q := by kernel_rfl
def e_infra_mapped (call : CallK) (N : Nat) (vs : List V) (H : Heap) (τ : Tape) (q : KV) : Ans := match vs with | [a0, a1] => s_infra_mapped call N a0 a1 H τ q | _ => none
theorem e_infra_mapped_ok : EntOk fn_infra_mapped e_infra_mapped := by
  intro call N vs H τ q r h
  unfold e_infra_mapped at h
  split at h
  · rw [s_infra_mapped_eq] at h; exact h
  · cases h
theorem e_infra_mapped_nat : EntNat e_infra_mapped := by
  intro c hn N vs H τ q
  unfold e_infra_mapped
  split
  · rw [s_infra_mapped_eq, s_infra_mapped_eq]; exact funK_ent hn _ _ _ _ _ _
  · rfl
/-- ostiary/infra.Lower$1 -/
def fn_infra_Lower_1 : Fun := ⟨1, (.seq (.reg [iR 2 (.p .mv) [(.c (.int .u8 (.ofNat 0)))]]) (.keep [0] (.seq (.seq (.reg [iR 3 (.p .mv) [(.t 0)], iR 4 (.p (.bin .geq)) [(.t 3), (.c (.int .u8 (.ofNat 65)))], iR 5 (.p .mv) [(.t 4)], iG 6 5 true (.p .mv) [(.t 0)], iG 7 5 true (.p (.bin .leq)) [(.t 6), (.c (.int .u8 (.ofNat 90)))], iR 8 (.p .pick) [(.t 5), (.t 7), (.c (.bool false))]]) (.keep [0, 8] (.cond (.t 8) (.reg [iR 9 (.p .mv) [(.t 0)], iR 10 (.p (.bin .add)) [(.t 9), (.c (.int .u8 (.ofNat 32)))], iR 0 (.p .mv) [(.t 10)]]) .skip))) (.keep [0] (.seq (.reg [iR 11 (.p .mv) [(.t 0)], iR 2 (.p .mv) [(.t 11)]]) (.keep [2] (.keep [2] .ret))))))), [(.t 2)]⟩
def s_infra_Lower_1_j0 (call : CallK) (N : Nat) (q : KV) (st : St) (τ : Tape) : Ans := match st with
  | ⟨fr, H⟩ => getK fr 0 fun t0 => q t0 H τ
def s_infra_Lower_1 (call : CallK) (N : Nat) (a0 : V) (H : Heap) (τ : Tape) (q : KV) : Ans := binK .geq a0 (.int .u8 (.ofNat 65)) fun v0 => gK v0 true (fun q' => q' a0 H τ) H τ fun v1 H2 τ3 => gK v0 true (fun q' => binK .leq v1 (.int .u8 (.ofNat 90)) fun v => q' v H2 τ3) H2 τ3 fun v4 H5 τ6 => someK (pPick [v0, v4, (.bool false)]) fun v7 => condK v7 (binK .add a0 (.int .u8 (.ofNat 32)) fun v8 => s_infra_Lower_1_j0 call N q ⟨(T.set (T.set (T.set (T.set (T.set .leaf 0 a0) 8 v7) 9 a0) 10 v8) 0 v8), H5⟩ τ6) (s_infra_Lower_1_j0 call N q ⟨(T.set (T.set .leaf 0 a0) 8 v7), H5⟩ τ6)
theorem s_infra_Lower_1_eq (call : CallK) (N : Nat) (a0 : V) (H : Heap) (τ : Tape) (q : KV) : s_infra_Lower_1 call N a0 H τ q = funK call N fn_infra_Lower_1 [a0] H τ q := by kernel_rfl
def e_infra_Lower_1 (call : CallK) (N : Nat) (vs : List V) (H : Heap) (τ : Tape) (q : KV) : Ans := match vs with | [a0] => s_infra_Lower_1 call N a0 H τ q | _ => none
theorem e_infra_Lower_1_ok : EntOk fn_infra_Lower_1 e_infra_Lower_1 := by
  intro call N vs H τ q r h
  unfold e_infra_Lower_1 at h
  split at h
  · rw [s_infra_Lower_1_eq] at h; exact h
  · cases h
theorem e_infra_Lower_1_nat : EntNat e_infra_Lower_1 := by
  intro c hn N vs H τ q
  unfold e_infra_Lower_1
  split
  · rw [s_infra_Lower_1_eq, s_infra_Lower_1_eq]; exact funK_ent hn _ _ _ _ _ _
  · rfl
/-- internal/stringslite.HasPrefix -/
def fn_stringslite_HasPrefix : Fun := ⟨2, (.seq (.reg [iR 4 (.p .mv) [(.c (.bool false))]]) (.keep [0, 1] (.seq (.reg [iR 5 (.p .mv) [(.t 0)], iR 6 (.p .lenS) [(.t 5)], iR 7 (.p .mv) [(.t 1)], iR 8 (.p .lenS) [(.t 7)], iR 9 (.p (.bin .geq)) [(.t 6), (.t 8)], iR 10 (.p .mv) [(.t 9)], iG 11 10 true (.p .mv) [(.t 0)], iG 12 10 true (.p .mv) [(.t 1)], iG 13 10 true (.p .lenS) [(.t 12)], iG 14 10 true (.p (.strSlice false true)) [(.t 11), (.t 13)], iG 15 10 true (.p .mv) [(.t 1)], iG 16 10 true (.p (.bin .eql)) [(.t 14), (.t 15)], iR 17 (.p .pick) [(.t 10), (.t 16), (.c (.bool false))], iR 4 (.p .mv) [(.t 17)]]) (.keep [4] (.keep [4] .ret))))), [(.t 4)]⟩
def s_stringslite_HasPrefix (call : CallK) (N : Nat) (a0 a1 : V) (H : Heap) (τ : Tape) (q : KV) : Ans := someK (pLenS [a0]) fun v0 => someK (pLenS [a1]) fun v1 => binK .geq v0 v1 fun v2 => gK v2 true (fun q' => q' a0 H τ) H τ fun v3 H4 τ5 => gK v2 true (fun q' => q' a1 H4 τ5) H4 τ5 fun v6 H7 τ8 => gK v2 true (fun q' => someK (pLenS [v6]) fun v => q' v H7 τ8) H7 τ8 fun v9 H10 τ11 => gK v2 true (fun q' => someK (pStrSlice false true [v3, v9]) fun v => q' v H10 τ11) H10 τ11 fun v12 H13 τ14 => gK v2 true (fun q' => q' a1 H13 τ14) H13 τ14 fun v15 H16 τ17 => gK v2 true (fun q' => binK .eql v12 v15 fun v => q' v H16 τ17) H16 τ17 fun v18 H19 τ20 => someK (pPick [v2, v18, (.bool false)]) fun v21 => q v21 H19 τ20
theorem s_stringslite_HasPrefix_eq (call : CallK) (N : Nat) (a0 a1 : V) (H : Heap) (τ : Tape) (q : KV) : s_stringslite_HasPrefix call N a0 a1 H τ q = funK call N fn_stringslite_HasPrefix [a0, a1] H τ q := by kernel_rfl
def e_stringslite_HasPrefix (call : CallK) (N : Nat) (vs : List V) (H : Heap) (τ : Tape) (q : KV) : Ans := match vs with | [a0, a1] => s_stringslite_HasPrefix call N a0 a1 H τ q | _ => none
theorem e_stringslite_HasPrefix_ok : EntOk fn_stringslite_HasPrefix e_stringslite_HasPrefix := by
  intro call N vs H τ q r h
  unfold e_stringslite_HasPrefix at h
  split at h
  · rw [s_stringslite_HasPrefix_eq] at h; exact h
  · cases h
theorem e_stringslite_HasPrefix_nat : EntNat e_stringslite_HasPrefix := by
  intro c hn N vs H τ q
  unfold e_stringslite_HasPrefix
  split
  · rw [s_stringslite_HasPrefix_eq, s_stringslite_HasPrefix_eq]; exact funK_ent hn _ _ _ _ _ _
  · rfl
/-- strings.IndexByte -/
def fn_strings_IndexByte : Fun := ⟨2, (.seq (.reg [iR 4 (.p .mv) [(.c (.int .i64 (.ofNat 0)))]]) (.keep [0, 1] (.seq (.reg [iR 5 (.p .mv) [(.t 0)], iR 6 (.p .mv) [(.t 1)], iR 7 (.call 114) [(.t 5), (.t 6)], iR 4 (.p .mv) [(.t 7)]]) (.keep [4] (.keep [4] .ret))))), [(.t 4)]⟩
def s_strings_IndexByte (call : CallK) (N : Nat) (a0 a1 : V) (H : Heap) (τ : Tape) (q : KV) : Ans := call f_stringslite_IndexByte [a0, a1] H τ fun v0 H1 τ2 => q v0 H1 τ2
theorem s_strings_IndexByte_eq (call : CallK) (N : Nat) (a0 a1 : V) (H : Heap) (τ : Tape) (q : KV) : s_strings_IndexByte call N a0 a1 H τ q = funK call N fn_strings_IndexByte [a0, a1] H τ q := by kernel_rfl
def e_strings_IndexByte (call : CallK) (N : Nat) (vs : List V) (H : Heap) (τ : Tape) (q : KV) : Ans := match vs with | [a0, a1] => s_strings_IndexByte call N a0 a1 H τ q | _ => none
theorem e_strings_IndexByte_ok : EntOk fn_strings_IndexByte e_strings_IndexByte := by
  intro call N vs H τ q r h
  unfold e_strings_IndexByte at h
  split at h
  · rw [s_strings_IndexByte_eq] at h; exact h
  · cases h
theorem e_strings_IndexByte_nat : EntNat e_strings_IndexByte := by
  intro c hn N vs H τ q
  unfold e_strings_IndexByte
  split
  · rw [s_strings_IndexByte_eq, s_strings_IndexByte_eq]; exact funK_ent hn _ _ _ _ _ _
  · rfl
/-- ostiary/ostiaryref1.Letter -/
def fn_ref1_Letter : Fun := ⟨1, (.seq (.reg [iR 2 (.p .mv) [(.c (.bool false))]]) (.keep [0] (.seq (.reg [iR 3 (.p .mv) [(.t 0)], iR 4 (.p (.bin .geq)) [(.t 3), (.c (.int .u8 (.ofNat 97)))], iR 5 (.p .mv) [(.t 4)], iG 6 5 true (.p .mv) [(.t 0)], iG 7 5 true (.p (.bin .leq)) [(.t 6), (.c (.int .u8 (.ofNat 122)))], iR 8 (.p .pick) [(.t 5), (.t 7), (.c (.bool false))], iR 9 (.p .mv) [(.t 8)], iG 10 9 false (.p .mv) [(.t 0)], iG 11 9 false (.p (.bin .geq)) [(.t 10), (.c (.int .u8 (.ofNat 65)))], iG 12 9 false (.p .mv) [(.t 11)], iG 13 12 true (.p .mv) [(.t 0)], iG 14 12 true (.p (.bin .leq)) [(.t 13), (.c (.int .u8 (.ofNat 90)))], iG 15 9 false (.p .pick) [(.t 12), (.t 14), (.c (.bool false))], iR 16 (.p .pick) [(.t 9), (.c (.bool true)), (.t 15)], iR 2 (.p .mv) [(.t 16)]]) (.keep [2] (.keep [2] .ret))))), [(.t 2)]⟩
def s_ref1_Letter (call : CallK) (N : Nat) (a0 : V) (H : Heap) (τ : Tape) (q : KV) : Ans := binK .geq a0 (.int .u8 (.ofNat 97)) fun v0 => gK v0 true (fun q' => q' a0 H τ) H τ fun v1 H2 τ3 => gK v0 true (fun q' => binK .leq v1 (.int .u8 (.ofNat 122)) fun v => q' v H2 τ3) H2 τ3 fun v4 H5 τ6 => someK (pPick [v0, v4, (.bool false)]) fun v7 => gK v7 false (fun q' => q' a0 H5 τ6) H5 τ6 fun v8 H9 τ10 => gK v7 false (fun q' => binK .geq v8 (.int .u8 (.ofNat 65)) fun v => q' v H9 τ10) H9 τ10 fun v11 H12 τ13 => gK v7 false (fun q' => q' v11 H12 τ13) H12 τ13 fun v14 H15 τ16 => gK v14 true (fun q' => q' a0 H15 τ16) H15 τ16 fun v17 H18 τ19 => gK v14 true (fun q' => binK .leq v17 (.int .u8 (.ofNat 90)) fun v => q' v H18 τ19) H18 τ19 fun v20 H21 τ22 => gK v7 false (fun q' => someK (pPick [v14, v20, (.bool false)]) fun v => q' v H21 τ22) H21 τ22 fun v23 H24 τ25 =>
    someK (pPick [v7, (.bool true), v23]) fun v26 => q v26 H24 τ25
theorem s_ref1_Letter_eq (call : CallK) (N : Nat) (a0 : V) (H : Heap) (τ : Tape) (q : KV) : s_ref1_Letter call N a0 H τ q = funK call N fn_ref1_Letter [a0] H τ q := by kernel_rfl
def e_ref1_Letter (call : CallK) (N : Nat) (vs : List V) (H : Heap) (τ : Tape) (q : KV) : Ans := match vs with | [a0] => s_ref1_Letter call N a0 H τ q | _ => none
theorem e_ref1_Letter_ok : EntOk fn_ref1_Letter e_ref1_Letter := by
  intro call N vs H τ q r h
  unfold e_ref1_Letter at h
  split at h
  · rw [s_ref1_Letter_eq] at h; exact h
  · cases h
theorem e_ref1_Letter_nat : EntNat e_ref1_Letter := by
  intro c hn N vs H τ q
  unfold e_ref1_Letter
  split
  · rw [s_ref1_Letter_eq, s_ref1_Letter_eq]; exact funK_ent hn _ _ _ _ _ _
  · rfl
/-- ostiary/ostiaryref1.Blank -/
def fn_ref1_Blank : Fun := ⟨1, (.seq (.reg [iR 2 (.p .mv) [(.c (.bool false))]]) (.keep [0] (.seq (.reg [iR 3 (.p .mv) [(.t 0)], iR 4 (.p (.bin .eql)) [(.t 3), (.c (.int .u8 (.ofNat 9)))], iR 5 (.p .mv) [(.t 4)], iG 6 5 false (.p .mv) [(.t 0)], iG 7 5 false (.p (.bin .eql)) [(.t 6), (.c (.int .u8 (.ofNat 10)))], iR 8 (.p .pick) [(.t 5), (.c (.bool true)), (.t 7)], iR 9 (.p .mv) [(.t 8)], iG 10 9 false (.p .mv) [(.t 0)], iG 11 9 false (.p (.bin .eql)) [(.t 10), (.c (.int .u8 (.ofNat 12)))], iR 12 (.p .pick) [(.t 9), (.c (.bool true)), (.t 11)], iR 13 (.p .mv) [(.t 12)], iG 14 13 false (.p .mv) [(.t 0)], iG 15 13 false (.p (.bin .eql)) [(.t 14), (.c (.int .u8 (.ofNat 13)))], iR 16 (.p .pick) [(.t 13), (.c (.bool true)), (.t 15)], iR 17 (.p .mv) [(.t 16)], iG 18 17 false (.p .mv) [(.t 0)], iG 19 17 false (.p (.bin .eql)) [(.t 18), (.c (.int .u8 (.ofNat 32)))],
    iR 20 (.p .pick) [(.t 17), (.c (.bool true)), (.t 19)], iR 2 (.p .mv) [(.t 20)]]) (.keep [2] (.keep [2] .ret))))), [(.t 2)]⟩
def s_ref1_Blank (call : CallK) (N : Nat) (a0 : V) (H : Heap) (τ : Tape) (q : KV) : Ans := binK .eql a0 (.int .u8 (.ofNat 9)) fun v0 => gK v0 false (fun q' => q' a0 H τ) H τ fun v1 H2 τ3 => gK v0 false (fun q' => binK .eql v1 (.int .u8 (.ofNat 10)) fun v => q' v H2 τ3) H2 τ3 fun v4 H5 τ6 => someK (pPick [v0, (.bool true), v4]) fun v7 => gK v7 false (fun q' => q' a0 H5 τ6) H5 τ6 fun v8 H9 τ10 => gK v7 false (fun q' => binK .eql v8 (.int .u8 (.ofNat 12)) fun v => q' v H9 τ10) H9 τ10 fun v11 H12 τ13 => someK (pPick [v7, (.bool true), v11]) fun v14 => gK v14 false (fun q' => q' a0 H12 τ13) H12 τ13 fun v15 H16 τ17 => gK v14 false (fun q' => binK .eql v15 (.int .u8 (.ofNat 13)) fun v => q' v H16 τ17) H16 τ17 fun v18 H19 τ20 => someK (pPick [v14, (.bool true), v18]) fun v21 => gK v21 false (fun q' => q' a0 H19 τ20) H19 τ20 fun v22 H23 τ24 =>
    gK v21 false (fun q' => binK .eql v22 (.int .u8 (.ofNat 32)) fun v => q' v H23 τ24) H23 τ24 fun v25 H26 τ27 => someK (pPick [v21, (.bool true), v25]) fun v28 => q v28 H26 τ27
theorem s_ref1_Blank_eq (call : CallK) (N : Nat) (a0 : V) (H : Heap) (τ : Tape) (q : KV) : s_ref1_Blank call N a0 H τ q = funK call N fn_ref1_Blank [a0] H τ q := by kernel_rfl
def e_ref1_Blank (call : CallK) (N : Nat) (vs : List V) (H : Heap) (τ : Tape) (q : KV) : Ans := match vs with | [a0] => s_ref1_Blank call N a0 H τ q | _ => none
theorem e_ref1_Blank_ok : EntOk fn_ref1_Blank e_ref1_Blank := by
  intro call N vs H τ q r h
  unfold e_ref1_Blank at h
  split at h
  · rw [s_ref1_Blank_eq] at h; exact h
  · cases h
theorem e_ref1_Blank_nat : EntNat e_ref1_Blank := by
  intro c hn N vs H τ q
  unfold e_ref1_Blank
  split
  · rw [s_ref1_Blank_eq, s_ref1_Blank_eq]; exact funK_ent hn _ _ _ _ _ _
  · rfl
/-- (*strings.asciiSet).contains -/
def fn_asciiSet_contains : Fun := ⟨2, (.seq (.reg [iR 4 (.p .mv) [(.c (.bool false))]]) (.keep [0, 1] (.seq (.reg [iR 5 (.p .mv) [(.t 0)], iR 6 (.p .mv) [(.t 1)], iR 7 (.p .nilck) [(.t 5)], iR 8 (.p (.arrIdx 256 1)) [(.t 7), (.t 6)], iR 9 (.l (.load none)) [(.t 8)], iR 4 (.p .mv) [(.t 9)]]) (.keep [4] (.keep [4] .ret))))), [(.t 4)]⟩
def s_asciiSet_contains (call : CallK) (N : Nat) (a0 a1 : V) (H : Heap) (τ : Tape) (q : KV) : Ans := someK (pNilck [a0]) fun v0 => someK (pArrIdx 256 1 [v0, a1]) fun v1 => someK (lLoad1 [v1] H) fun v2 => q v2 H τ
theorem s_asciiSet_contains_eq (call : CallK) (N : Nat) (a0 a1 : V) (H : Heap) (τ : Tape) (q : KV) : s_asciiSet_contains call N a0 a1 H τ q = funK call N fn_asciiSet_contains [a0, a1] H τ q := by kernel_rfl
def e_asciiSet_contains (call : CallK) (N : Nat) (vs : List V) (H : Heap) (τ : Tape) (q : KV) : Ans := match vs with | [a0, a1] => s_asciiSet_contains call N a0 a1 H τ q | _ => none
theorem e_asciiSet_contains_ok : EntOk fn_asciiSet_contains e_asciiSet_contains := by
  intro call N vs H τ q r h
  unfold e_asciiSet_contains at h
  split at h
  · rw [s_asciiSet_contains_eq] at h; exact h
  · cases h
theorem e_asciiSet_contains_nat : EntNat e_asciiSet_contains := by
  intro c hn N vs H τ q
  unfold e_asciiSet_contains
  split
  · rw [s_asciiSet_contains_eq, s_asciiSet_contains_eq]; exact funK_ent hn _ _ _ _ _ _
  · rfl
/-- unicode/utf8.DecodeRuneInString -/
def fn_utf8_DecodeRuneInString : Fun := ⟨1, (.seq (.reg [iR 2 (.p .mv) [(.c (.int .i32 (.ofNat 0)))], iR 3 (.p .mv) [(.c (.int .i64 (.ofNat 0)))]]) (.keep [0] (.seq (.seq (.reg [iR 4 (.p .mv) [(.t 0)], iR 5 (.p (.bin .neq)) [(.t 4), (.c (.str []))], iR 6 (.p .mv) [(.t 5)], iG 7 6 true (.p .mv) [(.t 0)], iG 8 6 true (.p .strIndex) [(.t 7), (.c (.int .i64 (.ofNat 0)))], iG 9 6 true (.p (.bin .lss)) [(.t 8), (.c (.int .u8 (.ofNat 128)))], iR 10 (.p .pick) [(.t 6), (.t 9), (.c (.bool false))]]) (.keep [0, 10] (.cond (.t 10) (.seq (.reg [iR 11 (.p .mv) [(.t 0)], iR 12 (.p .strIndex) [(.t 11), (.c (.int .i64 (.ofNat 0)))], iR 13 (.p (.toInt .i32)) [(.t 12)], iR 2 (.p .mv) [(.t 13)], iR 3 (.p .mv) [(.c (.int .i64 (.ofNat 1)))]]) (.keep [2, 3] (.keep [2, 3] .ret))) (.reg [iR 15 (.p .mv) [(.t 0)], iR 16 (.call 115) [(.t 15)], iR 14 (.p .mv) [(.t 16)], iR 17 (.p (.extract 0)) [(.t 14)],
    iR 18 (.p (.extract 1)) [(.t 14)], iR 2 (.p .mv) [(.t 17)], iR 3 (.p .mv) [(.t 18)]])))) (.keep [2, 3] (.keep [2, 3] .ret))))), [(.t 2), (.t 3)]⟩
def s_utf8_DecodeRuneInString (call : CallK) (N : Nat) (a0 : V) (H : Heap) (τ : Tape) (q : KV) : Ans := binK .neq a0 (.str []) fun v0 => gK v0 true (fun q' => q' a0 H τ) H τ fun v1 H2 τ3 => gK v0 true (fun q' => someK (pStrIndex [v1, (.int .i64 (.ofNat 0))]) fun v => q' v H2 τ3) H2 τ3 fun v4 H5 τ6 => gK v0 true (fun q' => binK .lss v4 (.int .u8 (.ofNat 128)) fun v => q' v H5 τ6) H5 τ6 fun v7 H8 τ9 => someK (pPick [v0, v7, (.bool false)]) fun v10 => condK v10 (someK (pStrIndex [a0, (.int .i64 (.ofNat 0))]) fun v11 => toIntK .i32 v11 fun v12 => q (.tup [v12, (.int .i64 (.ofNat 1))]) H8 τ9) (call f_utf8_decodeRuneInStringSlow [a0] H8 τ9 fun v13 H14 τ15 => someK (pExtract 0 [v13]) fun v16 => someK (pExtract 1 [v13]) fun v17 => q (.tup [v16, v17]) H14 τ15)
theorem s_utf8_DecodeRuneInString_eq (call : CallK) (N : Nat) (a0 : V) (H : Heap) (τ : Tape) (q : KV) : s_utf8_DecodeRuneInString call N a0 H τ q = funK call N fn_utf8_DecodeRuneInString [a0] H τ q := by kernel_rfl
def e_utf8_DecodeRuneInString (call : CallK) (N : Nat) (vs : List V) (H : Heap) (τ : Tape) (q : KV) : Ans := match vs with | [a0] => s_utf8_DecodeRuneInString call N a0 H τ q | _ => none
theorem e_utf8_DecodeRuneInString_ok : EntOk fn_utf8_DecodeRuneInString e_utf8_DecodeRuneInString := by
  intro call N vs H τ q r h
  unfold e_utf8_DecodeRuneInString at h
  split at h
  · rw [s_utf8_DecodeRuneInString_eq] at h; exact h
  · cases h
theorem e_utf8_DecodeRuneInString_nat : EntNat e_utf8_DecodeRuneInString := by
  intro c hn N vs H τ q
  unfold e_utf8_DecodeRuneInString
  split
  · rw [s_utf8_DecodeRuneInString_eq, s_utf8_DecodeRuneInString_eq]; exact funK_ent hn _ _ _ _ _ _
  · rfl
/-- strings.ContainsRune -/
def fn_strings_ContainsRune : Fun := ⟨2, (.seq (.reg [iR 4 (.p .mv) [(.c (.bool false))]]) (.keep [0, 1] (.seq (.reg [iR 5 (.p .mv) [(.t 0)], iR 6 (.p .mv) [(.t 1)], iR 7 (.call 98) [(.t 5), (.t 6)], iR 8 (.p (.bin .geq)) [(.t 7), (.c (.int .i64 (.ofNat 0)))], iR 4 (.p .mv) [(.t 8)]]) (.keep [4] (.keep [4] .ret))))), [(.t 4)]⟩
def s_strings_ContainsRune (call : CallK) (N : Nat) (a0 a1 : V) (H : Heap) (τ : Tape) (q : KV) : Ans := call f_strings_IndexRune [a0, a1] H τ fun v0 H1 τ2 => binK .geq v0 (.int .i64 (.ofNat 0)) fun v3 => q v3 H1 τ2
theorem s_strings_ContainsRune_eq (call : CallK) (N : Nat) (a0 a1 : V) (H : Heap) (τ : Tape) (q : KV) : s_strings_ContainsRune call N a0 a1 H τ q = funK call N fn_strings_ContainsRune [a0, a1] H τ q := by kernel_rfl
def e_strings_ContainsRune (call : CallK) (N : Nat) (vs : List V) (H : Heap) (τ : Tape) (q : KV) : Ans := match vs with | [a0, a1] => s_strings_ContainsRune call N a0 a1 H τ q | _ => none
theorem e_strings_ContainsRune_ok : EntOk fn_strings_ContainsRune e_strings_ContainsRune := by
  intro call N vs H τ q r h
  unfold e_strings_ContainsRune at h
  split at h
  · rw [s_strings_ContainsRune_eq] at h; exact h
  · cases h
theorem e_strings_ContainsRune_nat : EntNat e_strings_ContainsRune := by
  intro c hn N vs H τ q
  unfold e_strings_ContainsRune
  split
  · rw [s_strings_ContainsRune_eq, s_strings_ContainsRune_eq]; exact funK_ent hn _ _ _ _ _ _
  · rfl
/-- unicode/utf8.DecodeLastRuneInString -/
def fn_utf8_DecodeLastRuneInString : Fun := ⟨1, (.seq (.reg [iR 2 (.p .mv) [(.c (.int .i32 (.ofNat 0)))], iR 3 (.p .mv) [(.c (.int .i64 (.ofNat 0)))]]) (.keep [0] (.seq (.reg [iR 7 (.p .mv) [(.t 0)], iR 8 (.p .lenS) [(.t 7)], iR 4 (.p .mv) [(.t 8)]]) (.keep [0, 4] (.seq (.seq (.reg [iR 9 (.p .mv) [(.t 4)], iR 10 (.p (.bin .eql)) [(.t 9), (.c (.int .i64 (.ofNat 0)))]]) (.keep [0, 4, 10] (.cond (.t 10) (.seq (.reg [iR 2 (.p .mv) [(.c (.int .i32 (.ofNat 65533)))], iR 3 (.p .mv) [(.c (.int .i64 (.ofNat 0)))]]) (.keep [2, 3] (.keep [2, 3] .ret))) .skip))) (.keep [0, 4] (.seq (.reg [iR 11 (.p .mv) [(.t 4)], iR 12 (.p (.bin .sub)) [(.t 11), (.c (.int .i64 (.ofNat 1)))], iR 5 (.p .mv) [(.t 12)]]) (.keep [0, 4, 5] (.seq (.reg [iR 13 (.p .mv) [(.t 0)], iR 14 (.p .mv) [(.t 5)], iR 15 (.p .strIndex) [(.t 13), (.t 14)], iR 16 (.p (.toInt .i32)) [(.t 15)], iR 2 (.p .mv) [(.t 16)]])
    (.keep [0, 2, 4, 5] (.seq (.seq (.reg [iR 17 (.p .mv) [(.t 2)], iR 18 (.p (.bin .lss)) [(.t 17), (.c (.int .i32 (.ofNat 128)))]]) (.keep [0, 2, 4, 5, 18] (.cond (.t 18) (.seq (.reg [iR 19 (.p .mv) [(.t 2)], iR 2 (.p .mv) [(.t 19)], iR 3 (.p .mv) [(.c (.int .i64 (.ofNat 1)))]]) (.keep [2, 3] (.keep [2, 3] .ret))) .skip))) (.keep [0, 4, 5] (.seq (.reg [iR 20 (.p .mv) [(.t 4)], iR 21 (.p (.bin .sub)) [(.t 20), (.c (.int .i64 (.ofNat 4)))], iR 22 (.p .max2) [(.t 21), (.c (.int .i64 (.ofNat 0)))], iR 6 (.p .mv) [(.t 22)]]) (.keep [0, 4, 5, 6] (.seq (.seq (.reg [iR 23 (.p .mv) [(.t 5)], iR 24 (.p (.bin .sub)) [(.t 23), (.c (.int .i64 (.ofNat 1)))], iR 5 (.p .mv) [(.t 24)]]) (.keep [0, 4, 5, 6] (.block 0 (.loop (.keep [0, 4, 5, 6] (.seq (.seq (.reg [iR 25 (.p .mv) [(.t 5)], iR 26 (.p .mv) [(.t 6)], iR 27 (.p (.bin .geq)) [(.t 25), (.t 26)]]) (.keep [0, 4, 5, 6, 27] (.cond (.t 27) .skip
    (.keep [0, 4, 5] (.exit 0))))) (.keep [0, 4, 5, 6] (.seq (.block 1 (.seq (.reg [iR 30 (.p .mv) [(.t 0)], iR 31 (.p .mv) [(.t 5)], iR 32 (.p .strIndex) [(.t 30), (.t 31)], iR 33 (.call 116) [(.t 32)]]) (.keep [0, 4, 5, 6, 33] (.cond (.t 33) (.keep [0, 4, 5] (.exit 0)) .skip)))) (.keep [0, 4, 5, 6] (.reg [iR 28 (.p .mv) [(.t 5)], iR 29 (.p (.bin .sub)) [(.t 28), (.c (.int .i64 (.ofNat 1)))], iR 5 (.p .mv) [(.t 29)]])))))))))) (.keep [0, 4, 5] (.seq (.seq (.reg [iR 34 (.p .mv) [(.t 5)], iR 35 (.p (.bin .lss)) [(.t 34), (.c (.int .i64 (.ofNat 0)))]]) (.keep [0, 4, 5, 35] (.cond (.t 35) (.reg [iR 5 (.p .mv) [(.c (.int .i64 (.ofNat 0)))]]) .skip))) (.keep [0, 4, 5] (.seq (.reg [iR 37 (.p .mv) [(.t 0)], iR 38 (.p .mv) [(.t 5)], iR 39 (.p .mv) [(.t 4)], iR 40 (.p (.strSlice true true)) [(.t 37), (.t 38), (.t 39)], iR 41 (.call 95) [(.t 40)], iR 36 (.p .mv) [(.t 41)],
    iR 42 (.p (.extract 0)) [(.t 36)], iR 43 (.p (.extract 1)) [(.t 36)], iR 2 (.p .mv) [(.t 42)], iR 3 (.p .mv) [(.t 43)]]) (.keep [2, 3, 4, 5] (.seq (.seq (.reg [iR 44 (.p .mv) [(.t 5)], iR 45 (.p .mv) [(.t 3)], iR 46 (.p (.bin .add)) [(.t 44), (.t 45)], iR 47 (.p .mv) [(.t 4)], iR 48 (.p (.bin .neq)) [(.t 46), (.t 47)]]) (.keep [2, 3, 48] (.cond (.t 48) (.seq (.reg [iR 2 (.p .mv) [(.c (.int .i32 (.ofNat 65533)))], iR 3 (.p .mv) [(.c (.int .i64 (.ofNat 1)))]]) (.keep [2, 3] (.keep [2, 3] .ret))) .skip))) (.keep [2, 3] (.seq (.reg [iR 49 (.p .mv) [(.t 2)], iR 50 (.p .mv) [(.t 3)], iR 2 (.p .mv) [(.t 49)], iR 3 (.p .mv) [(.t 50)]]) (.keep [2, 3] (.keep [2, 3] .ret))))))))))))))))))))))))), [(.t 2), (.t 3)]⟩
def s_utf8_DecodeLastRuneInString_j1 (call : CallK) (N : Nat) (q : KV) (st : St) (τ : Tape) : Ans := match st with
  | ⟨fr, H⟩ => getK fr 0 fun t0 => getK fr 4 fun t4 => getK fr 5 fun t5 => someK (pStrSlice true true [t0, t5, t4]) fun v10 => call f_utf8_DecodeRuneInString [v10] H τ fun v11 H12 τ13 => someK (pExtract 0 [v11]) fun v14 => someK (pExtract 1 [v11]) fun v15 => binK .add t5 v15 fun v16 => binK .neq v16 t4 fun v17 => condK v17 (q (.tup [(.int .i32 (.ofNat 65533)), (.int .i64 (.ofNat 1))]) H12 τ13) (q (.tup [v14, v15]) H12 τ13)
def s_utf8_DecodeLastRuneInString_j0 (call : CallK) (N : Nat) (q : KV) (st : St) (τ : Tape) : Ans := match st with
  | ⟨fr, H⟩ => getK fr 0 fun t0 => getK fr 4 fun t4 => getK fr 5 fun t5 => binK .lss t5 (.int .i64 (.ofNat 0)) fun v9 => condK v9 (s_utf8_DecodeLastRuneInString_j1 call N q ⟨(T.set (T.set (T.set (T.set (T.set .leaf 0 t0) 4 t4) 5 t5) 35 v9) 5 (.int .i64 (.ofNat 0))), H⟩ τ) (s_utf8_DecodeLastRuneInString_j1 call N q ⟨(T.set (T.set (T.set (T.set .leaf 0 t0) 4 t4) 5 t5) 35 v9), H⟩ τ)
def s_utf8_DecodeLastRuneInString_l2 (call : CallK) (N : Nat) (st : St) (τ : Tape) (k : KC) : Ans := match st with
  | ⟨fr, H⟩ => getK fr 0 fun t0 => getK fr 4 fun t4 => getK fr 5 fun t5 => getK fr 6 fun t6 => binK .geq t5 t6 fun v18 => condK v18 (someK (pStrIndex [t0, t5]) fun v19 => call f_utf8_RuneStart [v19] H τ fun v20 H21 τ22 => condK v20 (k (.exit 0) ⟨(T.set (T.set (T.set .leaf 0 t0) 4 t4) 5 t5), H21⟩ τ22) (binK .sub t5 (.int .i64 (.ofNat 1)) fun v23 => k .normal ⟨(T.set (T.set (T.set (T.set (T.set (T.set (T.set .leaf 0 t0) 4 t4) 5 t5) 6 t6) 28 t5) 29 v23) 5 v23), H21⟩ τ22)) (k (.exit 0) ⟨(T.set (T.set (T.set .leaf 0 t0) 4 t4) 5 t5), H⟩ τ)
def s_utf8_DecodeLastRuneInString (call : CallK) (N : Nat) (a0 : V) (H : Heap) (τ : Tape) (q : KV) : Ans := someK (pLenS [a0]) fun v0 => binK .eql v0 (.int .i64 (.ofNat 0)) fun v1 => condK v1 (q (.tup [(.int .i32 (.ofNat 65533)), (.int .i64 (.ofNat 0))]) H τ) (binK .sub v0 (.int .i64 (.ofNat 1)) fun v2 => someK (pStrIndex [a0, v2]) fun v3 => toIntK .i32 v3 fun v4 => binK .lss v4 (.int .i32 (.ofNat 128)) fun v5 => condK v5 (q (.tup [v4, (.int .i64 (.ofNat 1))]) H τ) (binK .sub v0 (.int .i64 (.ofNat 4)) fun v6 => someK (pMax [v6, (.int .i64 (.ofNat 0))]) fun v7 => binK .sub v2 (.int .i64 (.ofNat 1)) fun v8 => loopK (s_utf8_DecodeLastRuneInString_l2 call N) N ⟨(T.set (T.set (T.set (T.set .leaf 0 a0) 4 v0) 5 v8) 6 v7), H⟩ τ (blockK 0 (seqK (s_utf8_DecodeLastRuneInString_j0 call N q) (endK [(.t 2), (.t 3)] q)))))
theorem s_utf8_DecodeLastRuneInString_eq (call : CallK) (N : Nat) (a0 : V) (H : Heap) (τ : Tape) (q : KV) : s_utf8_DecodeLastRuneInString call N a0 H τ q = funK call N fn_utf8_DecodeLastRuneInString [a0] H τ q := by kernel_rfl
def e_utf8_DecodeLastRuneInString (call : CallK) (N : Nat) (vs : List V) (H : Heap) (τ : Tape) (q : KV) : Ans := match vs with | [a0] => s_utf8_DecodeLastRuneInString call N a0 H τ q | _ => none
theorem e_utf8_DecodeLastRuneInString_ok : EntOk fn_utf8_DecodeLastRuneInString e_utf8_DecodeLastRuneInString := by
  intro call N vs H τ q r h
  unfold e_utf8_DecodeLastRuneInString at h
  split at h
  · rw [s_utf8_DecodeLastRuneInString_eq] at h; exact h
  · cases h
theorem e_utf8_DecodeLastRuneInString_nat : EntNat e_utf8_DecodeLastRuneInString := by
  intro c hn N vs H τ q
  unfold e_utf8_DecodeLastRuneInString
  split
  · rw [s_utf8_DecodeLastRuneInString_eq, s_utf8_DecodeLastRuneInString_eq]; exact funK_ent hn _ _ _ _ _ _
  · rfl
/-- strings.IndexRune -/
def fn_strings_IndexRune : Fun := ⟨2, (.seq (.reg [iR 4 (.p .mv) [(.c (.int .i64 (.ofNat 0)))]]) (.keep [0, 1] (.block 0 (.seq (.reg [iR 161 (.p .mv) [(.t 1)], iR 162 (.p (.bin .leq)) [(.c (.int .i32 (.ofNat 0))), (.t 161)], iR 163 (.p .mv) [(.t 162)], iG 164 163 true (.p .mv) [(.t 1)], iG 165 163 true (.p (.bin .lss)) [(.t 164), (.c (.int .i32 (.ofNat 128)))], iR 166 (.p .pick) [(.t 163), (.t 165), (.c (.bool false))], iR 160 (.p .mv) [(.t 166)]]) (.keep [0, 1, 160] (.cond (.t 160) (.seq (.reg [iR 167 (.p .mv) [(.t 0)], iR 168 (.p .mv) [(.t 1)], iR 169 (.p (.toInt .u8)) [(.t 168)], iR 170 (.call 90) [(.t 167), (.t 169)], iR 4 (.p .mv) [(.t 170)]]) (.keep [4] (.keep [4] .ret))) (.seq (.reg [iR 172 (.p .mv) [(.t 1)], iR 173 (.p (.bin .eql)) [(.t 172), (.c (.int .i32 (.ofNat 65533)))], iR 171 (.p .mv) [(.t 173)]]) (.keep [0, 1, 171] (.cond (.t 171)
    (.seq (.seq (.reg [iR 174 (.p .mv) [(.t 0)], iR 175 (.e .range) [(.t 174)]]) (.keep [175] (.block 9 (.loop (.keep [175] (.seq (.reg [iR 176 (.e .next) [(.t 175)], iR 177 (.p (.extract 0)) [(.t 176)]]) (.keep [175, 176, 177] (.seq (.cond (.t 177) .skip (.keep [] (.exit 9))) (.keep [175, 176] (.block 10 (.seq (.reg [iR 178 (.p (.extract 1)) [(.t 176)], iR 179 (.p (.extract 2)) [(.t 176)], iR 5 (.p .mv) [(.t 178)], iR 6 (.p .mv) [(.t 179)]]) (.keep [5, 6, 175] (.seq (.reg [iR 180 (.p .mv) [(.t 6)], iR 181 (.p (.bin .eql)) [(.t 180), (.c (.int .i32 (.ofNat 65533)))]]) (.keep [5, 175, 181] (.cond (.t 181) (.seq (.reg [iR 182 (.p .mv) [(.t 5)], iR 4 (.p .mv) [(.t 182)]]) (.keep [4] (.keep [4] .ret))) .skip))))))))))))))) (.keep [] (.seq (.reg [iR 4 (.p .mv) [(.c (.int .i64 (.negSucc 0)))]]) (.keep [4] (.keep [4] .ret))))) (.seq (.reg [iR 184 (.p .mv) [(.t 1)],
    iR 185 (.call 117) [(.t 184)], iR 186 (.p (.un .not)) [(.t 185)], iR 183 (.p .mv) [(.t 186)]]) (.keep [0, 1, 183] (.cond (.t 183) (.seq (.reg [iR 4 (.p .mv) [(.c (.int .i64 (.negSucc 0)))]]) (.keep [4] (.keep [4] .ret))) (.scope (.seq (.reg [iR 17 (.p .mv) [(.t 1)], iR 18 (.p .runeStr) [(.t 17)], iR 7 (.p .mv) [(.t 18)]]) (.keep [0, 7] (.seq (.reg [iR 19 (.p .mv) [(.t 7)], iR 20 (.p .lenS) [(.t 19)], iR 21 (.p (.bin .sub)) [(.t 20), (.c (.int .i64 (.ofNat 1)))], iR 8 (.p .mv) [(.t 21)]]) (.keep [0, 7, 8] (.seq (.reg [iR 22 (.p .mv) [(.t 8)], iR 9 (.p .mv) [(.t 22)]]) (.keep [0, 7, 8, 9] (.seq (.reg [iR 10 (.p .mv) [(.c (.int .i64 (.ofNat 0)))]]) (.keep [0, 7, 8, 9] (.seq (.block 1 (.loop (.keep [0, 7, 8, 9] (.seq (.seq (.reg [iR 23 (.p .mv) [(.t 9)], iR 24 (.p .mv) [(.t 0)], iR 25 (.p .lenS) [(.t 24)], iR 26 (.p (.bin .lss)) [(.t 23), (.t 25)]])
    (.keep [0, 7, 8, 9, 26] (.cond (.t 26) .skip (.keep [] (.exit 1))))) (.keep [0, 7, 8, 9] (.block 2 (.scope (.seq (.seq (.draw [iR 27 (.p .mv) [(.t 0)], iR 28 (.p .mv) [(.t 9)], iR 29 (.p .strIndex) [(.t 27), (.t 28)], iR 30 (.p .mv) [(.t 7)], iR 31 (.p .mv) [(.t 8)], iR 32 (.p .strIndex) [(.t 30), (.t 31)], iR 33 (.p (.bin .neq)) [(.t 29), (.t 32)]]) (.keep [0, 7, 8, 9, 33] (.cond (.t 33) (.seq (.draw [iR 34 (.p .mv) [(.t 0)], iR 35 (.p .mv) [(.t 9)], iR 36 (.p (.bin .add)) [(.t 35), (.c (.int .i64 (.ofNat 1)))], iR 37 (.p (.strSlice true false)) [(.t 34), (.t 36)], iR 38 (.p .mv) [(.t 7)], iR 39 (.p .mv) [(.t 8)], iR 40 (.p .strIndex) [(.t 38), (.t 39)], iR 41 (.call 90) [(.t 37), (.t 40)], iR 11 (.p .mv) [(.t 41)]]) (.keep [0, 7, 8, 9, 11] (.seq (.seq (.reg [iR 42 (.p .mv) [(.t 11)], iR 43 (.p (.bin .lss)) [(.t 42), (.c (.int .i64 (.ofNat 0)))]])
    (.keep [0, 7, 8, 9, 11, 43] (.cond (.t 43) (.seq (.reg [iR 4 (.p .mv) [(.c (.int .i64 (.negSucc 0)))]]) (.keep [4] (.keep [4] .ret))) .skip))) (.keep [0, 7, 8, 9, 11] (.reg [iR 44 (.p .mv) [(.t 9)], iR 45 (.p .mv) [(.t 11)], iR 46 (.p (.bin .add)) [(.t 45), (.c (.int .i64 (.ofNat 1)))], iR 47 (.p (.bin .add)) [(.t 44), (.t 46)], iR 9 (.p .mv) [(.t 47)]]))))) .skip))) (.keep [0, 7, 8, 9] (.seq (.seq (.reg [iR 12 (.p .mv) [(.c (.int .i64 (.ofNat 1)))]]) (.keep [0, 7, 8, 9, 12] (.block 3 (.loop (.keep [0, 7, 8, 9, 12] (.seq (.seq (.reg [iR 48 (.p .mv) [(.t 12)], iR 49 (.p .mv) [(.t 7)], iR 50 (.p .lenS) [(.t 49)], iR 51 (.p (.bin .lss)) [(.t 48), (.t 50)]]) (.keep [0, 7, 8, 9, 12, 51] (.cond (.t 51) .skip (.keep [8, 9] (.exit 3))))) (.keep [0, 7, 8, 9, 12] (.seq (.block 4 (.seq (.draw [iR 54 (.p .mv) [(.t 0)], iR 55 (.p .mv) [(.t 9)], iR 56 (.p .mv) [(.t 12)],
    iR 57 (.p (.bin .sub)) [(.t 55), (.t 56)], iR 58 (.p .strIndex) [(.t 54), (.t 57)], iR 59 (.p .mv) [(.t 7)], iR 60 (.p .mv) [(.t 8)], iR 61 (.p .mv) [(.t 12)], iR 62 (.p (.bin .sub)) [(.t 60), (.t 61)], iR 63 (.p .strIndex) [(.t 59), (.t 62)], iR 64 (.p (.bin .neq)) [(.t 58), (.t 63)]]) (.keep [0, 7, 8, 9, 12, 64] (.cond (.t 64) .bad .skip)))) (.keep [0, 7, 8, 9, 12] (.reg [iR 52 (.p .mv) [(.t 12)], iR 53 (.p (.bin .add)) [(.t 52), (.c (.int .i64 (.ofNat 1)))], iR 12 (.p .mv) [(.t 53)]])))))))))) (.keep [8, 9] (.seq (.seq (.reg [iR 65 (.p .mv) [(.t 9)], iR 66 (.p .mv) [(.t 8)], iR 67 (.p (.bin .sub)) [(.t 65), (.t 66)], iR 4 (.p .mv) [(.t 67)]]) (.keep [4] (.keep [4] .ret))) (.keep [0, 7, 8, 9, 10] (.seq .skip (.keep [0, 7, 8, 9, 10] (.seq (.reg [iR 68 (.p .mv) [(.t 10)], iR 69 (.p (.bin .add)) [(.t 68), (.c (.int .i64 (.ofNat 1)))], iR 10 (.p .mv) [(.t 69)]])
    (.keep [0, 7, 8, 9, 10] (.seq (.reg [iR 70 (.p .mv) [(.t 9)], iR 71 (.p (.bin .add)) [(.t 70), (.c (.int .i64 (.ofNat 1)))], iR 9 (.p .mv) [(.t 71)]]) (.keep [0, 7, 8, 9, 10] (.seq (.reg [iR 72 (.p .mv) [(.c (.bool true))], iG 73 72 true (.p .mv) [(.t 10)], iG 74 72 true (.p .mv) [(.t 9)], iG 75 72 true (.call 118) [(.t 74)], iG 76 72 true (.p (.bin .gtr)) [(.t 73), (.t 75)], iR 77 (.p .pick) [(.t 72), (.t 76), (.c (.bool false))], iR 78 (.p .mv) [(.t 77)], iG 79 78 true (.p .mv) [(.t 9)], iG 80 78 true (.p .mv) [(.t 0)], iG 81 78 true (.p .lenS) [(.t 80)], iG 82 78 true (.p (.bin .lss)) [(.t 79), (.t 81)], iR 83 (.p .pick) [(.t 78), (.t 82), (.c (.bool false))], iR 84 (.p .mv) [(.t 83)], iG 85 84 false (.p .mv) [(.c (.bool false))], iG 86 85 true (.p .mv) [(.t 10)], iG 87 85 true (.p .mv) [(.t 9)], iG 88 85 true (.p (.bin .shr)) [(.t 87), (.c (.int .u64 (.ofNat 4)))],
    iG 89 85 true (.p (.bin .add)) [(.c (.int .i64 (.ofNat 4))), (.t 88)], iG 90 85 true (.p (.bin .geq)) [(.t 86), (.t 89)], iG 91 84 false (.p .pick) [(.t 85), (.t 90), (.c (.bool false))], iG 92 84 false (.p .mv) [(.t 91)], iG 93 92 true (.p .mv) [(.t 9)], iG 94 92 true (.p .mv) [(.t 0)], iG 95 92 true (.p .lenS) [(.t 94)], iG 96 92 true (.p (.bin .lss)) [(.t 93), (.t 95)], iG 97 84 false (.p .pick) [(.t 92), (.t 96), (.c (.bool false))], iR 98 (.p .pick) [(.t 84), (.c (.bool true)), (.t 97)]]) (.keep [0, 7, 8, 9, 98] (.cond (.t 98) .bad .skip)))))))))))))))))))))) (.keep [] (.seq (.seq (.reg [iR 4 (.p .mv) [(.c (.int .i64 (.negSucc 0)))]]) (.keep [4] (.keep [4] .ret))) (.keep [0, 7, 8, 9] (.seq .skip (.keep [0, 7, 8, 9] (.seq (.cond (.c (.bool true)) (.seq .bad (.keep [8, 9, 13] (.seq (.reg [iR 107 (.p .mv) [(.t 13)],
    iR 108 (.p (.bin .geq)) [(.t 107), (.c (.int .i64 (.ofNat 0)))]]) (.keep [8, 9, 13, 108] (.cond (.t 108) (.seq (.reg [iR 109 (.p .mv) [(.t 9)], iR 110 (.p .mv) [(.t 13)], iR 111 (.p (.bin .add)) [(.t 109), (.t 110)], iR 112 (.p .mv) [(.t 8)], iR 113 (.p (.bin .sub)) [(.t 111), (.t 112)], iR 4 (.p .mv) [(.t 113)]]) (.keep [4] (.keep [4] .ret))) .skip))))) (.scope (.seq (.reg [iR 114 (.p .mv) [(.t 7)], iR 115 (.p .mv) [(.t 8)], iR 116 (.p .strIndex) [(.t 114), (.t 115)], iR 14 (.p .mv) [(.t 116)]]) (.keep [0, 7, 8, 9, 14] (.seq (.reg [iR 117 (.p .mv) [(.t 7)], iR 118 (.p .mv) [(.t 8)], iR 119 (.p (.bin .sub)) [(.t 118), (.c (.int .i64 (.ofNat 1)))], iR 120 (.p .strIndex) [(.t 117), (.t 119)], iR 15 (.p .mv) [(.t 120)]]) (.keep [0, 7, 8, 9, 14, 15] (.seq .skip (.keep [0, 7, 8, 9, 14, 15] (.block 5 (.loop (.keep [0, 7, 8, 9, 14, 15] (.seq (.seq (.reg [iR 121 (.p .mv) [(.t 9)],
    iR 122 (.p .mv) [(.t 0)], iR 123 (.p .lenS) [(.t 122)], iR 124 (.p (.bin .lss)) [(.t 121), (.t 123)]]) (.keep [0, 7, 8, 9, 14, 15, 124] (.cond (.t 124) .skip (.keep [] (.exit 5))))) (.keep [0, 7, 8, 9, 14, 15] (.seq (.block 6 (.seq (.reg [iR 127 (.p .mv) [(.t 0)], iR 128 (.p .mv) [(.t 9)], iR 129 (.p .strIndex) [(.t 127), (.t 128)], iR 130 (.p .mv) [(.t 14)], iR 131 (.p (.bin .eql)) [(.t 129), (.t 130)], iR 132 (.p .mv) [(.t 131)], iG 133 132 true (.p .mv) [(.t 0)], iG 134 132 true (.p .mv) [(.t 9)], iG 135 132 true (.p (.bin .sub)) [(.t 134), (.c (.int .i64 (.ofNat 1)))], iG 136 132 true (.p .strIndex) [(.t 133), (.t 135)], iG 137 132 true (.p .mv) [(.t 15)], iG 138 132 true (.p (.bin .eql)) [(.t 136), (.t 137)], iR 139 (.p .pick) [(.t 132), (.t 138), (.c (.bool false))]]) (.keep [0, 7, 8, 9, 14, 15, 139] (.cond (.t 139)
    (.seq (.seq (.reg [iR 16 (.p .mv) [(.c (.int .i64 (.ofNat 2)))]]) (.keep [0, 7, 8, 9, 14, 15, 16] (.block 7 (.loop (.keep [0, 7, 8, 9, 14, 15, 16] (.seq (.seq (.reg [iR 140 (.p .mv) [(.t 16)], iR 141 (.p .mv) [(.t 7)], iR 142 (.p .lenS) [(.t 141)], iR 143 (.p (.bin .lss)) [(.t 140), (.t 142)]]) (.keep [0, 7, 8, 9, 14, 15, 16, 143] (.cond (.t 143) .skip (.keep [8, 9] (.exit 7))))) (.keep [0, 7, 8, 9, 14, 15, 16] (.seq (.block 8 (.seq (.draw [iR 146 (.p .mv) [(.t 0)], iR 147 (.p .mv) [(.t 9)], iR 148 (.p .mv) [(.t 16)], iR 149 (.p (.bin .sub)) [(.t 147), (.t 148)], iR 150 (.p .strIndex) [(.t 146), (.t 149)], iR 151 (.p .mv) [(.t 7)], iR 152 (.p .mv) [(.t 8)], iR 153 (.p .mv) [(.t 16)], iR 154 (.p (.bin .sub)) [(.t 152), (.t 153)], iR 155 (.p .strIndex) [(.t 151), (.t 154)], iR 156 (.p (.bin .neq)) [(.t 150), (.t 155)]]) (.keep [0, 7, 8, 9, 14, 15, 16, 156] (.cond (.t 156)
    (.keep [0, 7, 8, 9, 14, 15] (.exit 6)) .skip)))) (.keep [0, 7, 8, 9, 14, 15, 16] (.reg [iR 144 (.p .mv) [(.t 16)], iR 145 (.p (.bin .add)) [(.t 144), (.c (.int .i64 (.ofNat 1)))], iR 16 (.p .mv) [(.t 145)]])))))))))) (.keep [8, 9] (.seq (.reg [iR 157 (.p .mv) [(.t 9)], iR 158 (.p .mv) [(.t 8)], iR 159 (.p (.bin .sub)) [(.t 157), (.t 158)], iR 4 (.p .mv) [(.t 159)]]) (.keep [4] (.keep [4] .ret))))) .skip)))) (.keep [0, 7, 8, 9, 14, 15] (.reg [iR 125 (.p .mv) [(.t 9)], iR 126 (.p (.bin .add)) [(.t 125), (.c (.int .i64 (.ofNat 1)))], iR 9 (.p .mv) [(.t 126)]])))))))))))))))) (.keep [] (.seq (.reg [iR 4 (.p .mv) [(.c (.int .i64 (.negSucc 0)))]]) (.keep [4] (.keep [4] .ret)))))))))))))))))))))))))))))))), [(.t 4)]⟩
def s_strings_IndexRune_j0 (call : CallK) (N : Nat) (q : KV) (st : St) (τ : Tape) : Ans := match st with
  | ⟨fr, H⟩ => q (.int .i64 (.negSucc 0)) H τ
def s_strings_IndexRune_l1 (call : CallK) (N : Nat) (st : St) (τ : Tape) (k : KC) : Ans := match st with
  | ⟨fr, H⟩ => getK fr 175 fun t175 => effK (eNext [t175] H τ) fun v16 H17 τ18 => someK (pExtract 0 [v16]) fun v19 => condK v19 (someK (pExtract 1 [v16]) fun v20 => someK (pExtract 2 [v16]) fun v21 => binK .eql v21 (.int .i32 (.ofNat 65533)) fun v22 => condK v22 (k .ret ⟨(T.set .leaf 4 v20), H17⟩ τ18) (k .normal ⟨(T.set (T.set (T.set .leaf 5 v20) 175 t175) 181 v22), H17⟩ τ18)) (k (.exit 9) ⟨.leaf, H17⟩ τ18)
def s_strings_IndexRune_j2 (call : CallK) (N : Nat) (q : KV) (st : St) (τ : Tape) : Ans := match st with
  | ⟨fr, H⟩ => q (.int .i64 (.negSucc 0)) H τ
def s_strings_IndexRune_j5 (call : CallK) (N : Nat) (k : KC) (st : St) (τ : Tape) : Ans := match st with
  | ⟨fr, H⟩ => getK fr 8 fun t8 => getK fr 9 fun t9 => binK .sub t9 t8 fun v35 => k .ret ⟨(T.set .leaf 4 v35), H⟩ τ
def s_strings_IndexRune_l6 (call : CallK) (N : Nat) (st : St) (τ : Tape) (k : KC) : Ans := match st with
  | ⟨fr, H⟩ => getK fr 0 fun t0 => getK fr 7 fun t7 => getK fr 8 fun t8 => getK fr 9 fun t9 => getK fr 12 fun t12 => someK (pLenS [t7]) fun v36 => binK .lss t12 v36 fun v37 => condK v37 (binK .sub t9 t12 fun v38 => someK (pStrIndex [t0, v38]) fun v39 => binK .sub t8 t12 fun v40 => someK (pStrIndex [t7, v40]) fun v41 => binK .neq v39 v41 fun v42 => condK v42 (none) (binK .add t12 (.int .i64 (.ofNat 1)) fun v43 => k .normal ⟨(T.set (T.set (T.set (T.set (T.set (T.set (T.set (T.set .leaf 0 t0) 7 t7) 8 t8) 9 t9) 12 t12) 52 t12) 53 v43) 12 v43), H⟩ τ)) (k (.exit 3) ⟨(T.set (T.set .leaf 8 t8) 9 t9), H⟩ τ)
def s_strings_IndexRune_j4 (call : CallK) (N : Nat) (k : KC) (st : St) (τ : Tape) : Ans := match st with
  | ⟨fr, H⟩ => getK fr 0 fun t0 => getK fr 7 fun t7 => getK fr 8 fun t8 => getK fr 9 fun t9 => loopK (s_strings_IndexRune_l6 call N) N ⟨(T.set (T.set (T.set (T.set (T.set .leaf 0 t0) 7 t7) 8 t8) 9 t9) 12 (.int .i64 (.ofNat 1))), H⟩ τ (blockK 3 (seqK (s_strings_IndexRune_j5 call N k) (blockK 2 k)))
def s_strings_IndexRune_l3 (call : CallK) (N : Nat) (st : St) (τ : Tape) (k : KC) : Ans := match st with
  | ⟨fr, H⟩ => getK fr 0 fun t0 => getK fr 7 fun t7 => getK fr 8 fun t8 => getK fr 9 fun t9 => someK (pLenS [t0]) fun v30 => binK .lss t9 v30 fun v31 => condK v31 (someK (pStrIndex [t0, t9]) fun v32 => someK (pStrIndex [t7, t8]) fun v33 => binK .neq v32 v33 fun v34 => condK v34 (binK .add t9 (.int .i64 (.ofNat 1)) fun v44 => someK (pStrSlice true false [t0, v44]) fun v45 => someK (pStrIndex [t7, t8]) fun v46 => call f_strings_IndexByte [v45, v46] H τ fun v47 H48 τ49 => binK .lss v47 (.int .i64 (.ofNat 0)) fun v50 => condK v50 (k .ret ⟨(T.set .leaf 4 (.int .i64 (.negSucc 0))), H48⟩ τ49) (binK .add v47 (.int .i64 (.ofNat 1)) fun v51 => binK .add t9 v51 fun v52 => s_strings_IndexRune_j4 call N k ⟨(T.set (T.set (T.set (T.set (T.set (T.set (T.set (T.set (T.set (T.set .leaf 0 t0) 7 t7) 8 t8) 9 t9) 11 v47) 44 t9) 45 v47) 46 v51) 47 v52) 9 v52), H48⟩ τ49))
    (s_strings_IndexRune_j4 call N k ⟨(T.set (T.set (T.set (T.set (T.set .leaf 0 t0) 7 t7) 8 t8) 9 t9) 33 v34), H⟩ τ)) (k (.exit 1) ⟨.leaf, H⟩ τ)
def s_strings_IndexRune (call : CallK) (N : Nat) (a0 a1 : V) (H : Heap) (τ : Tape) (q : KV) : Ans := binK .leq (.int .i32 (.ofNat 0)) a1 fun v0 => gK v0 true (fun q' => q' a1 H τ) H τ fun v1 H2 τ3 => gK v0 true (fun q' => binK .lss v1 (.int .i32 (.ofNat 128)) fun v => q' v H2 τ3) H2 τ3 fun v4 H5 τ6 => someK (pPick [v0, v4, (.bool false)]) fun v7 => condK v7 (toIntK .u8 a1 fun v8 => call f_strings_IndexByte [a0, v8] H5 τ6 fun v9 H10 τ11 => q v9 H10 τ11) (binK .eql a1 (.int .i32 (.ofNat 65533)) fun v12 => condK v12 (effK (eRange [a0] H5 τ6) fun v13 H14 τ15 => loopK (s_strings_IndexRune_l1 call N) N ⟨(T.set .leaf 175 v13), H14⟩ τ15 (blockK 9 (seqK (s_strings_IndexRune_j0 call N q) (blockK 0 (endK [(.t 4)] q))))) (call f_utf8_ValidRune [a1] H5 τ6 fun v23 H24 τ25 => unK .not v23 fun v26 => condK v26 (q (.int .i64 (.negSucc 0)) H24 τ25) (someK (pRuneStr [a1]) fun v27 =>
    someK (pLenS [v27]) fun v28 => binK .sub v28 (.int .i64 (.ofNat 1)) fun v29 => loopK (s_strings_IndexRune_l3 call N) N ⟨(T.set (T.set (T.set (T.set .leaf 0 a0) 7 v27) 8 v29) 9 v29), H24⟩ τ25 (blockK 1 (seqK (s_strings_IndexRune_j2 call N q) (blockK 0 (endK [(.t 4)] q)))))))
theorem s_strings_IndexRune_eq (call : CallK) (N : Nat) (a0 a1 : V) (H : Heap) (τ : Tape) (q : KV) : s_strings_IndexRune call N a0 a1 H τ q = funK call N fn_strings_IndexRune [a0, a1] H τ q := by kernel_rfl
def e_strings_IndexRune (call : CallK) (N : Nat) (vs : List V) (H : Heap) (τ : Tape) (q : KV) : Ans := match vs with | [a0, a1] => s_strings_IndexRune call N a0 a1 H τ q | _ => none
theorem e_strings_IndexRune_ok : EntOk fn_strings_IndexRune e_strings_IndexRune := by
  intro call N vs H τ q r h
  unfold e_strings_IndexRune at h
  split at h
  · rw [s_strings_IndexRune_eq] at h; exact h
  · cases h
theorem e_strings_IndexRune_nat : EntNat e_strings_IndexRune := by
  intro c hn N vs H τ q
  unfold e_strings_IndexRune
  split
  · rw [s_strings_IndexRune_eq, s_strings_IndexRune_eq]; exact funK_ent hn _ _ _ _ _ _
  · rfl
/-- strings.shouldUseASCIISet -/
def fn_strings_shouldUseASCIISet : Fun := ⟨1, (.seq (.reg [iR 2 (.p .mv) [(.c (.bool false))]]) (.keep [0] (.seq (.reg [iR 3 (.p .mv) [(.t 0)], iR 4 (.p (.bin .gtr)) [(.t 3), (.c (.int .i64 (.ofNat 8)))], iR 2 (.p .mv) [(.t 4)]]) (.keep [2] (.keep [2] .ret))))), [(.t 2)]⟩
def s_strings_shouldUseASCIISet (call : CallK) (N : Nat) (a0 : V) (H : Heap) (τ : Tape) (q : KV) : Ans := binK .gtr a0 (.int .i64 (.ofNat 8)) fun v0 => q v0 H τ
theorem s_strings_shouldUseASCIISet_eq (call : CallK) (N : Nat) (a0 : V) (H : Heap) (τ : Tape) (q : KV) : s_strings_shouldUseASCIISet call N a0 H τ q = funK call N fn_strings_shouldUseASCIISet [a0] H τ q := by kernel_rfl
def e_strings_shouldUseASCIISet (call : CallK) (N : Nat) (vs : List V) (H : Heap) (τ : Tape) (q : KV) : Ans := match vs with | [a0] => s_strings_shouldUseASCIISet call N a0 H τ q | _ => none
theorem e_strings_shouldUseASCIISet_ok : EntOk fn_strings_shouldUseASCIISet e_strings_shouldUseASCIISet := by
  intro call N vs H τ q r h
  unfold e_strings_shouldUseASCIISet at h
  split at h
  · rw [s_strings_shouldUseASCIISet_eq] at h; exact h
  · cases h
theorem e_strings_shouldUseASCIISet_nat : EntNat e_strings_shouldUseASCIISet := by
  intro c hn N vs H τ q
  unfold e_strings_shouldUseASCIISet
  split
  · rw [s_strings_shouldUseASCIISet_eq, s_strings_shouldUseASCIISet_eq]; exact funK_ent hn _ _ _ _ _ _
  · rfl
/-- internal/stringslite.Index -/
def fn_stringslite_Index : Fun := ⟨2, (.seq (.reg [iR 4 (.p .mv) [(.c (.int .i64 (.ofNat 0)))]]) (.keep [0, 1] (.seq (.reg [iR 14 (.p .mv) [(.t 1)], iR 15 (.p .lenS) [(.t 14)], iR 5 (.p .mv) [(.t 15)]]) (.keep [0, 1, 5] (.seq (.block 0 (.seq (.reg [iR 17 (.p .mv) [(.t 5)], iR 18 (.p (.bin .eql)) [(.t 17), (.c (.int .i64 (.ofNat 0)))], iR 19 (.p .mv) [(.t 18)], iG 20 19 false (.p .mv) [(.t 1)], iG 21 19 false (.p .mv) [(.t 0)], iG 22 19 false (.p (.bin .eql)) [(.t 20), (.t 21)], iR 23 (.p .pick) [(.t 19), (.c (.bool true)), (.t 22)], iR 16 (.p .mv) [(.t 23)]]) (.keep [0, 1, 5, 16] (.cond (.t 16) (.seq (.reg [iR 4 (.p .mv) [(.c (.int .i64 (.ofNat 0)))]]) (.keep [4] (.keep [4] .ret))) (.seq (.reg [iR 25 (.p .mv) [(.t 5)], iR 26 (.p (.bin .eql)) [(.t 25), (.c (.int .i64 (.ofNat 1)))], iR 24 (.p .mv) [(.t 26)]]) (.keep [0, 1, 5, 24] (.cond (.t 24) (.seq (.reg [iR 27 (.p .mv) [(.t 0)],
    iR 28 (.p .mv) [(.t 1)], iR 29 (.p .strIndex) [(.t 28), (.c (.int .i64 (.ofNat 0)))], iR 30 (.call 114) [(.t 27), (.t 29)], iR 4 (.p .mv) [(.t 30)]]) (.keep [4] (.keep [4] .ret))) (.seq (.reg [iR 32 (.p .mv) [(.t 5)], iR 33 (.p .mv) [(.t 0)], iR 34 (.p .lenS) [(.t 33)], iR 35 (.p (.bin .geq)) [(.t 32), (.t 34)], iR 31 (.p .mv) [(.t 35)]]) (.keep [0, 1, 5, 31] (.cond (.t 31) (.seq (.reg [iR 4 (.p .mv) [(.c (.int .i64 (.negSucc 0)))]]) (.keep [4] (.keep [4] .ret))) (.seq (.reg [iR 37 (.p .mv) [(.t 5)], iR 38 (.l (.load none)) [(.c (.ptr 0 0))], iR 39 (.p (.bin .leq)) [(.t 37), (.t 38)], iR 40 (.p .mv) [(.t 39)], iG 41 40 true (.p .mv) [(.t 0)], iG 42 40 true (.p .lenS) [(.t 41)], iG 43 40 true (.p (.bin .leq)) [(.t 42), (.c (.int .i64 (.ofNat 64)))], iR 44 (.p .pick) [(.t 40), (.t 43), (.c (.bool false))], iR 36 (.p .mv) [(.t 44)]]) (.keep [0, 1, 5, 36] (.cond (.t 36) (.seq .bad
    (.keep [4] (.keep [4] .ret))) .skip))))))))))))) (.keep [0, 1, 5] (.seq (.reg [iR 48 (.p .mv) [(.t 1)], iR 49 (.p .strIndex) [(.t 48), (.c (.int .i64 (.ofNat 0)))], iR 6 (.p .mv) [(.t 49)]]) (.keep [0, 1, 5, 6] (.seq (.reg [iR 50 (.p .mv) [(.t 1)], iR 51 (.p .strIndex) [(.t 50), (.c (.int .i64 (.ofNat 1)))], iR 7 (.p .mv) [(.t 51)]]) (.keep [0, 1, 5, 6, 7] (.seq (.reg [iR 8 (.p .mv) [(.c (.int .i64 (.ofNat 0)))]]) (.keep [0, 1, 5, 6, 7, 8] (.seq (.reg [iR 52 (.p .mv) [(.t 0)], iR 53 (.p .lenS) [(.t 52)], iR 54 (.p .mv) [(.t 5)], iR 55 (.p (.bin .sub)) [(.t 53), (.t 54)], iR 56 (.p (.bin .add)) [(.t 55), (.c (.int .i64 (.ofNat 1)))], iR 9 (.p .mv) [(.t 56)]]) (.keep [0, 1, 5, 6, 7, 8, 9] (.seq (.reg [iR 10 (.p .mv) [(.c (.int .i64 (.ofNat 0)))]]) (.keep [0, 1, 5, 6, 7, 8, 9, 10] (.seq (.block 1 (.loop (.keep [0, 1, 5, 6, 7, 8, 9, 10] (.seq (.seq (.reg [iR 57 (.p .mv) [(.t 8)],
    iR 58 (.p .mv) [(.t 9)], iR 59 (.p (.bin .lss)) [(.t 57), (.t 58)]]) (.keep [0, 1, 5, 6, 7, 8, 9, 10, 59] (.cond (.t 59) .skip (.keep [] (.exit 1))))) (.keep [0, 1, 5, 6, 7, 8, 9, 10] (.block 2 (.seq (.seq (.reg [iR 60 (.p .mv) [(.t 0)], iR 61 (.p .mv) [(.t 8)], iR 62 (.p .strIndex) [(.t 60), (.t 61)], iR 63 (.p .mv) [(.t 6)], iR 64 (.p (.bin .neq)) [(.t 62), (.t 63)]]) (.keep [0, 1, 5, 6, 7, 8, 9, 10, 64] (.cond (.t 64) (.seq (.reg [iR 65 (.p .mv) [(.t 0)], iR 66 (.p .mv) [(.t 8)], iR 67 (.p (.bin .add)) [(.t 66), (.c (.int .i64 (.ofNat 1)))], iR 68 (.p .mv) [(.t 9)], iR 69 (.p (.strSlice true true)) [(.t 65), (.t 67), (.t 68)], iR 70 (.p .mv) [(.t 6)], iR 71 (.call 114) [(.t 69), (.t 70)], iR 11 (.p .mv) [(.t 71)]]) (.keep [0, 1, 5, 6, 7, 8, 9, 10, 11] (.seq (.seq (.reg [iR 72 (.p .mv) [(.t 11)], iR 73 (.p (.bin .lss)) [(.t 72), (.c (.int .i64 (.ofNat 0)))]])
    (.keep [0, 1, 5, 6, 7, 8, 9, 10, 11, 73] (.cond (.t 73) (.seq (.reg [iR 4 (.p .mv) [(.c (.int .i64 (.negSucc 0)))]]) (.keep [4] (.keep [4] .ret))) .skip))) (.keep [0, 1, 5, 6, 7, 8, 9, 10, 11] (.reg [iR 74 (.p .mv) [(.t 8)], iR 75 (.p .mv) [(.t 11)], iR 76 (.p (.bin .add)) [(.t 75), (.c (.int .i64 (.ofNat 1)))], iR 77 (.p (.bin .add)) [(.t 74), (.t 76)], iR 8 (.p .mv) [(.t 77)]]))))) .skip))) (.keep [0, 1, 5, 6, 7, 8, 9, 10] (.seq (.seq (.reg [iR 78 (.p .mv) [(.t 0)], iR 79 (.p .mv) [(.t 8)], iR 80 (.p (.bin .add)) [(.t 79), (.c (.int .i64 (.ofNat 1)))], iR 81 (.p .strIndex) [(.t 78), (.t 80)], iR 82 (.p .mv) [(.t 7)], iR 83 (.p (.bin .eql)) [(.t 81), (.t 82)], iR 84 (.p .mv) [(.t 83)], iG 85 84 true (.p .mv) [(.t 0)], iG 86 84 true (.p .mv) [(.t 8)], iG 87 84 true (.p .mv) [(.t 8)], iG 88 84 true (.p .mv) [(.t 5)], iG 89 84 true (.p (.bin .add)) [(.t 87), (.t 88)],
    iG 90 84 true (.p (.strSlice true true)) [(.t 85), (.t 86), (.t 89)], iG 91 84 true (.p .mv) [(.t 1)], iG 92 84 true (.p (.bin .eql)) [(.t 90), (.t 91)], iR 93 (.p .pick) [(.t 84), (.t 92), (.c (.bool false))]]) (.keep [0, 1, 5, 6, 7, 8, 9, 10, 93] (.cond (.t 93) (.seq (.reg [iR 94 (.p .mv) [(.t 8)], iR 4 (.p .mv) [(.t 94)]]) (.keep [4] (.keep [4] .ret))) .skip))) (.keep [0, 1, 5, 6, 7, 8, 9, 10] (.seq (.reg [iR 95 (.p .mv) [(.t 8)], iR 96 (.p (.bin .add)) [(.t 95), (.c (.int .i64 (.ofNat 1)))], iR 8 (.p .mv) [(.t 96)]]) (.keep [0, 1, 5, 6, 7, 8, 9, 10] (.seq (.reg [iR 97 (.p .mv) [(.t 10)], iR 98 (.p (.bin .add)) [(.t 97), (.c (.int .i64 (.ofNat 1)))], iR 10 (.p .mv) [(.t 98)]]) (.keep [0, 1, 5, 6, 7, 8, 9, 10] (.seq (.reg [iR 99 (.p .mv) [(.t 5)], iR 100 (.l (.load none)) [(.c (.ptr 0 0))], iR 101 (.p (.bin .leq)) [(.t 99), (.t 100)], iR 102 (.p .mv) [(.t 101)],
    iG 103 102 true (.p .mv) [(.t 10)], iG 104 102 true (.p .mv) [(.t 8)], iG 105 102 true (.call 118) [(.t 104)], iG 106 102 true (.p (.bin .gtr)) [(.t 103), (.t 105)], iR 107 (.p .pick) [(.t 102), (.t 106), (.c (.bool false))]]) (.keep [0, 1, 5, 6, 7, 8, 9, 10, 107] (.cond (.t 107) (.seq .bad (.keep [8, 12] (.seq (.seq (.reg [iR 113 (.p .mv) [(.t 12)], iR 114 (.p (.bin .geq)) [(.t 113), (.c (.int .i64 (.ofNat 0)))]]) (.keep [8, 12, 114] (.cond (.t 114) (.seq (.reg [iR 115 (.p .mv) [(.t 12)], iR 116 (.p .mv) [(.t 8)], iR 117 (.p (.bin .add)) [(.t 115), (.t 116)], iR 4 (.p .mv) [(.t 117)]]) (.keep [4] (.keep [4] .ret))) .skip))) (.keep [] (.seq (.reg [iR 4 (.p .mv) [(.c (.int .i64 (.negSucc 0)))]]) (.keep [4] (.keep [4] .ret))))))) (.seq (.reg [iR 118 (.p .mv) [(.t 5)], iR 119 (.l (.load none)) [(.c (.ptr 0 0))], iR 120 (.p (.bin .gtr)) [(.t 118), (.t 119)],
    iR 121 (.p .mv) [(.t 120)], iG 122 121 true (.p .mv) [(.t 10)], iG 123 121 true (.p .mv) [(.t 8)], iG 124 121 true (.p (.bin .shr)) [(.t 123), (.c (.int .u64 (.ofNat 4)))], iG 125 121 true (.p (.bin .add)) [(.c (.int .i64 (.ofNat 4))), (.t 124)], iG 126 121 true (.p (.bin .geq)) [(.t 122), (.t 125)], iR 127 (.p .pick) [(.t 121), (.t 126), (.c (.bool false))], iR 128 (.p .mv) [(.t 127)], iG 129 128 true (.p .mv) [(.t 8)], iG 130 128 true (.p .mv) [(.t 9)], iG 131 128 true (.p (.bin .lss)) [(.t 129), (.t 130)], iR 132 (.p .pick) [(.t 128), (.t 131), (.c (.bool false))]]) (.keep [0, 1, 5, 6, 7, 8, 9, 10, 132] (.cond (.t 132) (.seq (.reg [iR 133 (.p .mv) [(.t 0)], iR 134 (.p .mv) [(.t 8)], iR 135 (.p (.strSlice true false)) [(.t 133), (.t 134)], iR 136 (.p .mv) [(.t 1)], iR 137 (.call 122) [(.t 135), (.t 136)], iR 13 (.p .mv) [(.t 137)]])
    (.keep [8, 13] (.seq (.seq (.reg [iR 138 (.p .mv) [(.t 13)], iR 139 (.p (.bin .lss)) [(.t 138), (.c (.int .i64 (.ofNat 0)))]]) (.keep [8, 13, 139] (.cond (.t 139) (.seq (.reg [iR 4 (.p .mv) [(.c (.int .i64 (.negSucc 0)))]]) (.keep [4] (.keep [4] .ret))) .skip))) (.keep [8, 13] (.seq (.reg [iR 140 (.p .mv) [(.t 8)], iR 141 (.p .mv) [(.t 13)], iR 142 (.p (.bin .add)) [(.t 140), (.t 141)], iR 4 (.p .mv) [(.t 142)]]) (.keep [4] (.keep [4] .ret))))))) .skip)))))))))))))))))))) (.keep [] (.seq (.reg [iR 4 (.p .mv) [(.c (.int .i64 (.negSucc 0)))]]) (.keep [4] (.keep [4] .ret))))))))))))))))))))), [(.t 4)]⟩
def s_stringslite_Index_j0 (call : CallK) (N : Nat) (q : KV) (st : St) (τ : Tape) : Ans := match st with
  | ⟨fr, H⟩ => q (.int .i64 (.negSucc 0)) H τ
def s_stringslite_Index_j2 (call : CallK) (N : Nat) (k : KC) (st : St) (τ : Tape) : Ans := match st with
  | ⟨fr, H⟩ => getK fr 0 fun t0 => getK fr 1 fun t1 => getK fr 5 fun t5 => getK fr 6 fun t6 => getK fr 7 fun t7 => getK fr 8 fun t8 => getK fr 9 fun t9 => getK fr 10 fun t10 => binK .add t8 (.int .i64 (.ofNat 1)) fun v39 => someK (pStrIndex [t0, v39]) fun v40 => binK .eql v40 t7 fun v41 => gK v41 true (fun q' => q' t0 H τ) H τ fun v42 H43 τ44 => gK v41 true (fun q' => q' t8 H43 τ44) H43 τ44 fun v45 H46 τ47 => gK v41 true (fun q' => q' t8 H46 τ47) H46 τ47 fun v48 H49 τ50 => gK v41 true (fun q' => q' t5 H49 τ50) H49 τ50 fun v51 H52 τ53 => gK v41 true (fun q' => binK .add v48 v51 fun v => q' v H52 τ53) H52 τ53 fun v54 H55 τ56 => gK v41 true (fun q' => someK (pStrSlice true true [v42, v45, v54]) fun v => q' v H55 τ56) H55 τ56 fun v57 H58 τ59 => gK v41 true (fun q' => q' t1 H58 τ59) H58 τ59 fun v60 H61 τ62 =>
    gK v41 true (fun q' => binK .eql v57 v60 fun v => q' v H61 τ62) H61 τ62 fun v63 H64 τ65 => someK (pPick [v41, v63, (.bool false)]) fun v66 => condK v66 (k .ret ⟨(T.set .leaf 4 t8), H64⟩ τ65) (binK .add t8 (.int .i64 (.ofNat 1)) fun v67 => binK .add t10 (.int .i64 (.ofNat 1)) fun v68 => someK (lLoad1 [(.ptr 0 0)] H64) fun v69 => binK .leq t5 v69 fun v70 => gK v70 true (fun q' => q' v68 H64 τ65) H64 τ65 fun v71 H72 τ73 => gK v70 true (fun q' => q' v67 H72 τ73) H72 τ73 fun v74 H75 τ76 => gK v70 true (fun q' => call f_bytealg_Cutover [v74] H75 τ76 q') H75 τ76 fun v77 H78 τ79 => gK v70 true (fun q' => binK .gtr v71 v77 fun v => q' v H78 τ79) H78 τ79 fun v80 H81 τ82 => someK (pPick [v70, v80, (.bool false)]) fun v83 => condK v83 (none) (someK (lLoad1 [(.ptr 0 0)] H81) fun v84 => binK .gtr t5 v84 fun v85 => gK v85 true (fun q' => q' v68 H81 τ82) H81 τ82 fun v86 H87 τ88 =>
    gK v85 true (fun q' => q' v67 H87 τ88) H87 τ88 fun v89 H90 τ91 => gK v85 true (fun q' => binK .shr v89 (.int .u64 (.ofNat 4)) fun v => q' v H90 τ91) H90 τ91 fun v92 H93 τ94 => gK v85 true (fun q' => binK .add (.int .i64 (.ofNat 4)) v92 fun v => q' v H93 τ94) H93 τ94 fun v95 H96 τ97 => gK v85 true (fun q' => binK .geq v86 v95 fun v => q' v H96 τ97) H96 τ97 fun v98 H99 τ100 => someK (pPick [v85, v98, (.bool false)]) fun v101 => gK v101 true (fun q' => q' v67 H99 τ100) H99 τ100 fun v102 H103 τ104 => gK v101 true (fun q' => q' t9 H103 τ104) H103 τ104 fun v105 H106 τ107 => gK v101 true (fun q' => binK .lss v102 v105 fun v => q' v H106 τ107) H106 τ107 fun v108 H109 τ110 => someK (pPick [v101, v108, (.bool false)]) fun v111 => condK v111 (someK (pStrSlice true false [t0, v67]) fun v112 => call f_bytealg_IndexRabinKarp_string [v112, t1] H109 τ110 fun v113 H114 τ115 =>
    binK .lss v113 (.int .i64 (.ofNat 0)) fun v116 => condK v116 (k .ret ⟨(T.set .leaf 4 (.int .i64 (.negSucc 0))), H114⟩ τ115) (binK .add v67 v113 fun v117 => k .ret ⟨(T.set .leaf 4 v117), H114⟩ τ115)) (k .normal ⟨(T.set (T.set (T.set (T.set (T.set (T.set (T.set (T.set (T.set .leaf 0 t0) 1 t1) 5 t5) 6 t6) 7 t7) 8 v67) 9 t9) 10 v68) 132 v111), H109⟩ τ110)))
def s_stringslite_Index_l1 (call : CallK) (N : Nat) (st : St) (τ : Tape) (k : KC) : Ans := match st with
  | ⟨fr, H⟩ => getK fr 0 fun t0 => getK fr 1 fun t1 => getK fr 5 fun t5 => getK fr 6 fun t6 => getK fr 7 fun t7 => getK fr 8 fun t8 => getK fr 9 fun t9 => getK fr 10 fun t10 => binK .lss t8 t9 fun v36 => condK v36 (someK (pStrIndex [t0, t8]) fun v37 => binK .neq v37 t6 fun v38 => condK v38 (binK .add t8 (.int .i64 (.ofNat 1)) fun v118 => someK (pStrSlice true true [t0, v118, t9]) fun v119 => call f_stringslite_IndexByte [v119, t6] H τ fun v120 H121 τ122 => binK .lss v120 (.int .i64 (.ofNat 0)) fun v123 => condK v123 (k .ret ⟨(T.set .leaf 4 (.int .i64 (.negSucc 0))), H121⟩ τ122) (binK .add v120 (.int .i64 (.ofNat 1)) fun v124 => binK .add t8 v124 fun v125 =>
    s_stringslite_Index_j2 call N k ⟨(T.set (T.set (T.set (T.set (T.set (T.set (T.set (T.set (T.set (T.set (T.set (T.set (T.set (T.set .leaf 0 t0) 1 t1) 5 t5) 6 t6) 7 t7) 8 t8) 9 t9) 10 t10) 11 v120) 74 t8) 75 v120) 76 v124) 77 v125) 8 v125), H121⟩ τ122)) (s_stringslite_Index_j2 call N k ⟨(T.set (T.set (T.set (T.set (T.set (T.set (T.set (T.set (T.set .leaf 0 t0) 1 t1) 5 t5) 6 t6) 7 t7) 8 t8) 9 t9) 10 t10) 64 v38), H⟩ τ)) (k (.exit 1) ⟨.leaf, H⟩ τ)
def s_stringslite_Index (call : CallK) (N : Nat) (a0 a1 : V) (H : Heap) (τ : Tape) (q : KV) : Ans := someK (pLenS [a1]) fun v0 => binK .eql v0 (.int .i64 (.ofNat 0)) fun v1 => gK v1 false (fun q' => q' a1 H τ) H τ fun v2 H3 τ4 => gK v1 false (fun q' => q' a0 H3 τ4) H3 τ4 fun v5 H6 τ7 => gK v1 false (fun q' => binK .eql v2 v5 fun v => q' v H6 τ7) H6 τ7 fun v8 H9 τ10 => someK (pPick [v1, (.bool true), v8]) fun v11 => condK v11 (q (.int .i64 (.ofNat 0)) H9 τ10) (binK .eql v0 (.int .i64 (.ofNat 1)) fun v12 => condK v12 (someK (pStrIndex [a1, (.int .i64 (.ofNat 0))]) fun v13 => call f_stringslite_IndexByte [a0, v13] H9 τ10 fun v14 H15 τ16 => q v14 H15 τ16) (someK (pLenS [a0]) fun v17 => binK .geq v0 v17 fun v18 => condK v18 (q (.int .i64 (.negSucc 0)) H9 τ10) (someK (lLoad1 [(.ptr 0 0)] H9) fun v19 => binK .leq v0 v19 fun v20 => gK v20 true (fun q' => q' a0 H9 τ10) H9 τ10 fun v21 H22 τ23 =>
    gK v20 true (fun q' => someK (pLenS [v21]) fun v => q' v H22 τ23) H22 τ23 fun v24 H25 τ26 => gK v20 true (fun q' => binK .leq v24 (.int .i64 (.ofNat 64)) fun v => q' v H25 τ26) H25 τ26 fun v27 H28 τ29 => someK (pPick [v20, v27, (.bool false)]) fun v30 => condK v30 (none) (someK (pStrIndex [a1, (.int .i64 (.ofNat 0))]) fun v31 => someK (pStrIndex [a1, (.int .i64 (.ofNat 1))]) fun v32 => someK (pLenS [a0]) fun v33 => binK .sub v33 v0 fun v34 => binK .add v34 (.int .i64 (.ofNat 1)) fun v35 => loopK (s_stringslite_Index_l1 call N) N ⟨(T.set (T.set (T.set (T.set (T.set (T.set (T.set (T.set .leaf 0 a0) 1 a1) 5 v0) 6 v31) 7 v32) 8 (.int .i64 (.ofNat 0))) 9 v35) 10 (.int .i64 (.ofNat 0))), H28⟩ τ29 (blockK 1 (seqK (s_stringslite_Index_j0 call N q) (endK [(.t 4)] q)))))))
theorem s_stringslite_Index_eq (call : CallK) (N : Nat) (a0 a1 : V) (H : Heap) (τ : Tape) (q : KV) : s_stringslite_Index call N a0 a1 H τ q = funK call N fn_stringslite_Index [a0, a1] H τ q := by kernel_rfl
def e_stringslite_Index (call : CallK) (N : Nat) (vs : List V) (H : Heap) (τ : Tape) (q : KV) : Ans := match vs with | [a0, a1] => s_stringslite_Index call N a0 a1 H τ q | _ => none
theorem e_stringslite_Index_ok : EntOk fn_stringslite_Index e_stringslite_Index := by
  intro call N vs H τ q r h
  unfold e_stringslite_Index at h
  split at h
  · rw [s_stringslite_Index_eq] at h; exact h
  · cases h
theorem e_stringslite_Index_nat : EntNat e_stringslite_Index := by
  intro c hn N vs H τ q
  unfold e_stringslite_Index
  split
  · rw [s_stringslite_Index_eq, s_stringslite_Index_eq]; exact funK_ent hn _ _ _ _ _ _
  · rfl
/-- unicode/utf8.decodeRuneInStringSlow -/
def fn_utf8_decodeRuneInStringSlow : Fun := ⟨1, (.seq (.reg [iR 2 (.p .mv) [(.c (.int .i32 (.ofNat 0)))], iR 3 (.p .mv) [(.c (.int .i64 (.ofNat 0)))]]) (.keep [0] (.seq (.reg [iR 13 (.p .mv) [(.t 0)], iR 14 (.p .lenS) [(.t 13)], iR 4 (.p .mv) [(.t 14)]]) (.keep [0, 4] (.seq (.seq (.reg [iR 15 (.p .mv) [(.t 4)], iR 16 (.p (.bin .lss)) [(.t 15), (.c (.int .i64 (.ofNat 1)))]]) (.keep [0, 4, 16] (.cond (.t 16) (.seq (.reg [iR 2 (.p .mv) [(.c (.int .i32 (.ofNat 65533)))], iR 3 (.p .mv) [(.c (.int .i64 (.ofNat 0)))]]) (.keep [2, 3] (.keep [2, 3] .ret))) .skip))) (.keep [0, 4] (.seq (.reg [iR 17 (.p .mv) [(.t 0)], iR 18 (.p .strIndex) [(.t 17), (.c (.int .i64 (.ofNat 0)))], iR 5 (.p .mv) [(.t 18)]]) (.keep [0, 4, 5] (.seq (.reg [iR 19 (.p .mv) [(.t 5)], iR 20 (.p (.arrIdx 256 1)) [(.c (.ptr 1 0)), (.t 19)], iR 21 (.l (.load none)) [(.t 20)], iR 6 (.p .mv) [(.t 21)]])
    (.keep [0, 4, 5, 6] (.seq (.seq (.reg [iR 22 (.p .mv) [(.t 6)], iR 23 (.p (.bin .geq)) [(.t 22), (.c (.int .u8 (.ofNat 240)))]]) (.keep [0, 4, 5, 6, 23] (.cond (.t 23) (.seq (.reg [iR 24 (.p .mv) [(.t 6)], iR 25 (.p (.toInt .i32)) [(.t 24)], iR 26 (.p (.bin .shl)) [(.t 25), (.c (.int .u64 (.ofNat 31)))], iR 27 (.p (.bin .shr)) [(.t 26), (.c (.int .u64 (.ofNat 31)))], iR 7 (.p .mv) [(.t 27)]]) (.keep [0, 7] (.seq (.reg [iR 28 (.p .mv) [(.t 0)], iR 29 (.p .strIndex) [(.t 28), (.c (.int .i64 (.ofNat 0)))], iR 30 (.p (.toInt .i32)) [(.t 29)], iR 31 (.p .mv) [(.t 7)], iR 32 (.p (.bin .andNot)) [(.t 30), (.t 31)], iR 33 (.p .mv) [(.t 7)], iR 34 (.p (.bin .and)) [(.c (.int .i32 (.ofNat 65533))), (.t 33)], iR 35 (.p (.bin .or)) [(.t 32), (.t 34)], iR 2 (.p .mv) [(.t 35)], iR 3 (.p .mv) [(.c (.int .i64 (.ofNat 1)))]]) (.keep [2, 3] (.keep [2, 3] .ret))))) .skip)))
    (.keep [0, 4, 5, 6] (.seq (.reg [iR 36 (.p .mv) [(.t 6)], iR 37 (.p (.bin .and)) [(.t 36), (.c (.int .u8 (.ofNat 7)))], iR 38 (.p (.toInt .i64)) [(.t 37)], iR 8 (.p .mv) [(.t 38)]]) (.keep [0, 4, 5, 6, 8] (.seq (.reg [iR 39 (.p .mv) [(.t 6)], iR 40 (.p (.bin .shr)) [(.t 39), (.c (.int .u64 (.ofNat 4)))], iR 41 (.p (.arrIdx 16 2)) [(.c (.ptr 2 0)), (.t 40)], iR 42 (.l (.load (some 2))) [(.t 41)], iR 9 (.e (.alloc [(.int .u8 (.ofNat 0)), (.int .u8 (.ofNat 0))])) [], ⟨none, none, (.e (.store 2)), [(.t 9), (.t 42)], none⟩]) (.keep [0, 4, 5, 8, 9] (.seq (.seq (.reg [iR 43 (.p .mv) [(.t 4)], iR 44 (.p .mv) [(.t 8)], iR 45 (.p (.bin .lss)) [(.t 43), (.t 44)]]) (.keep [0, 5, 8, 9, 45] (.cond (.t 45) (.seq (.reg [iR 2 (.p .mv) [(.c (.int .i32 (.ofNat 65533)))], iR 3 (.p .mv) [(.c (.int .i64 (.ofNat 1)))]]) (.keep [2, 3] (.keep [2, 3] .ret))) .skip)))
    (.keep [0, 5, 8, 9] (.seq (.reg [iR 46 (.p .mv) [(.t 0)], iR 47 (.p .strIndex) [(.t 46), (.c (.int .i64 (.ofNat 1)))], iR 10 (.p .mv) [(.t 47)]]) (.keep [0, 5, 8, 9, 10] (.seq (.seq (.reg [iR 48 (.p .mv) [(.t 10)], iR 49 (.p (.fieldAddr 0)) [(.t 9)], iR 50 (.l (.load none)) [(.t 49)], iR 51 (.p (.bin .lss)) [(.t 48), (.t 50)], iR 52 (.p .mv) [(.t 51)], iG 53 52 false (.p (.fieldAddr 1)) [(.t 9)], iG 54 52 false (.l (.load none)) [(.t 53)], iG 55 52 false (.p .mv) [(.t 10)], iG 56 52 false (.p (.bin .lss)) [(.t 54), (.t 55)], iR 57 (.p .pick) [(.t 52), (.c (.bool true)), (.t 56)]]) (.keep [0, 5, 8, 10, 57] (.cond (.t 57) (.seq (.reg [iR 2 (.p .mv) [(.c (.int .i32 (.ofNat 65533)))], iR 3 (.p .mv) [(.c (.int .i64 (.ofNat 1)))]]) (.keep [2, 3] (.keep [2, 3] .ret))) .skip))) (.keep [0, 5, 8, 10] (.seq (.seq (.reg [iR 58 (.p .mv) [(.t 8)],
    iR 59 (.p (.bin .leq)) [(.t 58), (.c (.int .i64 (.ofNat 2)))]]) (.keep [0, 5, 8, 10, 59] (.cond (.t 59) (.seq (.reg [iR 60 (.p .mv) [(.t 5)], iR 61 (.p (.bin .and)) [(.t 60), (.c (.int .u8 (.ofNat 31)))], iR 62 (.p (.toInt .i32)) [(.t 61)], iR 63 (.p (.bin .shl)) [(.t 62), (.c (.int .u64 (.ofNat 6)))], iR 64 (.p .mv) [(.t 10)], iR 65 (.p (.bin .and)) [(.t 64), (.c (.int .u8 (.ofNat 63)))], iR 66 (.p (.toInt .i32)) [(.t 65)], iR 67 (.p (.bin .or)) [(.t 63), (.t 66)], iR 2 (.p .mv) [(.t 67)], iR 3 (.p .mv) [(.c (.int .i64 (.ofNat 2)))]]) (.keep [2, 3] (.keep [2, 3] .ret))) .skip))) (.keep [0, 5, 8, 10] (.seq (.reg [iR 68 (.p .mv) [(.t 0)], iR 69 (.p .strIndex) [(.t 68), (.c (.int .i64 (.ofNat 2)))], iR 11 (.p .mv) [(.t 69)]]) (.keep [0, 5, 8, 10, 11] (.seq (.seq (.reg [iR 70 (.p .mv) [(.t 11)], iR 71 (.p (.bin .lss)) [(.t 70), (.c (.int .u8 (.ofNat 128)))],
    iR 72 (.p .mv) [(.t 71)], iG 73 72 false (.p .mv) [(.t 11)], iG 74 72 false (.p (.bin .lss)) [(.c (.int .u8 (.ofNat 191))), (.t 73)], iR 75 (.p .pick) [(.t 72), (.c (.bool true)), (.t 74)]]) (.keep [0, 5, 8, 10, 11, 75] (.cond (.t 75) (.seq (.reg [iR 2 (.p .mv) [(.c (.int .i32 (.ofNat 65533)))], iR 3 (.p .mv) [(.c (.int .i64 (.ofNat 1)))]]) (.keep [2, 3] (.keep [2, 3] .ret))) .skip))) (.keep [0, 5, 8, 10, 11] (.seq (.seq (.reg [iR 76 (.p .mv) [(.t 8)], iR 77 (.p (.bin .leq)) [(.t 76), (.c (.int .i64 (.ofNat 3)))]]) (.keep [0, 5, 10, 11, 77] (.cond (.t 77) (.seq (.reg [iR 78 (.p .mv) [(.t 5)], iR 79 (.p (.bin .and)) [(.t 78), (.c (.int .u8 (.ofNat 15)))], iR 80 (.p (.toInt .i32)) [(.t 79)], iR 81 (.p (.bin .shl)) [(.t 80), (.c (.int .u64 (.ofNat 12)))], iR 82 (.p .mv) [(.t 10)], iR 83 (.p (.bin .and)) [(.t 82), (.c (.int .u8 (.ofNat 63)))], iR 84 (.p (.toInt .i32)) [(.t 83)],
    iR 85 (.p (.bin .shl)) [(.t 84), (.c (.int .u64 (.ofNat 6)))], iR 86 (.p (.bin .or)) [(.t 81), (.t 85)], iR 87 (.p .mv) [(.t 11)], iR 88 (.p (.bin .and)) [(.t 87), (.c (.int .u8 (.ofNat 63)))], iR 89 (.p (.toInt .i32)) [(.t 88)], iR 90 (.p (.bin .or)) [(.t 86), (.t 89)], iR 2 (.p .mv) [(.t 90)], iR 3 (.p .mv) [(.c (.int .i64 (.ofNat 3)))]]) (.keep [2, 3] (.keep [2, 3] .ret))) .skip))) (.keep [0, 5, 10, 11] (.seq (.reg [iR 91 (.p .mv) [(.t 0)], iR 92 (.p .strIndex) [(.t 91), (.c (.int .i64 (.ofNat 3)))], iR 12 (.p .mv) [(.t 92)]]) (.keep [5, 10, 11, 12] (.seq (.seq (.reg [iR 93 (.p .mv) [(.t 12)], iR 94 (.p (.bin .lss)) [(.t 93), (.c (.int .u8 (.ofNat 128)))], iR 95 (.p .mv) [(.t 94)], iG 96 95 false (.p .mv) [(.t 12)], iG 97 95 false (.p (.bin .lss)) [(.c (.int .u8 (.ofNat 191))), (.t 96)], iR 98 (.p .pick) [(.t 95), (.c (.bool true)), (.t 97)]])
    (.keep [5, 10, 11, 12, 98] (.cond (.t 98) (.seq (.reg [iR 2 (.p .mv) [(.c (.int .i32 (.ofNat 65533)))], iR 3 (.p .mv) [(.c (.int .i64 (.ofNat 1)))]]) (.keep [2, 3] (.keep [2, 3] .ret))) .skip))) (.keep [5, 10, 11, 12] (.seq (.reg [iR 99 (.p .mv) [(.t 5)], iR 100 (.p (.bin .and)) [(.t 99), (.c (.int .u8 (.ofNat 7)))], iR 101 (.p (.toInt .i32)) [(.t 100)], iR 102 (.p (.bin .shl)) [(.t 101), (.c (.int .u64 (.ofNat 18)))], iR 103 (.p .mv) [(.t 10)], iR 104 (.p (.bin .and)) [(.t 103), (.c (.int .u8 (.ofNat 63)))], iR 105 (.p (.toInt .i32)) [(.t 104)], iR 106 (.p (.bin .shl)) [(.t 105), (.c (.int .u64 (.ofNat 12)))], iR 107 (.p (.bin .or)) [(.t 102), (.t 106)], iR 108 (.p .mv) [(.t 11)], iR 109 (.p (.bin .and)) [(.t 108), (.c (.int .u8 (.ofNat 63)))], iR 110 (.p (.toInt .i32)) [(.t 109)], iR 111 (.p (.bin .shl)) [(.t 110), (.c (.int .u64 (.ofNat 6)))],
    iR 112 (.p (.bin .or)) [(.t 107), (.t 111)], iR 113 (.p .mv) [(.t 12)], iR 114 (.p (.bin .and)) [(.t 113), (.c (.int .u8 (.ofNat 63)))], iR 115 (.p (.toInt .i32)) [(.t 114)], iR 116 (.p (.bin .or)) [(.t 112), (.t 115)], iR 2 (.p .mv) [(.t 116)], iR 3 (.p .mv) [(.c (.int .i64 (.ofNat 4)))]]) (.keep [2, 3] (.keep [2, 3] .ret))))))))))))))))))))))))))))))))))))), [(.t 2), (.t 3)]⟩
def s_utf8_decodeRuneInStringSlow (call : CallK) (N : Nat) (a0 : V) (H : Heap) (τ : Tape) (q : KV) : Ans := someK (pLenS [a0]) fun v0 => binK .lss v0 (.int .i64 (.ofNat 1)) fun v1 => condK v1 (q (.tup [(.int .i32 (.ofNat 65533)), (.int .i64 (.ofNat 0))]) H τ) (someK (pStrIndex [a0, (.int .i64 (.ofNat 0))]) fun v2 => someK (pArrIdx 256 1 [(.ptr 1 0), v2]) fun v3 => someK (lLoad1 [v3] H) fun v4 => binK .geq v4 (.int .u8 (.ofNat 240)) fun v5 => condK v5 (toIntK .i32 v4 fun v6 => binK .shl v6 (.int .u64 (.ofNat 31)) fun v7 => binK .shr v7 (.int .u64 (.ofNat 31)) fun v8 => someK (pStrIndex [a0, (.int .i64 (.ofNat 0))]) fun v9 => toIntK .i32 v9 fun v10 => binK .andNot v10 v8 fun v11 => binK .and (.int .i32 (.ofNat 65533)) v8 fun v12 => binK .or v11 v12 fun v13 => q (.tup [v13, (.int .i64 (.ofNat 1))]) H τ) (binK .and v4 (.int .u8 (.ofNat 7)) fun v14 => toIntK .i64 v14 fun v15 =>
    binK .shr v4 (.int .u64 (.ofNat 4)) fun v16 => someK (pArrIdx 16 2 [(.ptr 2 0), v16]) fun v17 => someK (lLoadN 2 [v17] H) fun v18 => effK (eAlloc [(.int .u8 (.ofNat 0)), (.int .u8 (.ofNat 0))] [] H τ) fun v19 H20 τ21 => effK (eStore 2 [v19, v18] H20 τ21) fun v22 H23 τ24 => binK .lss v0 v15 fun v25 => condK v25 (q (.tup [(.int .i32 (.ofNat 65533)), (.int .i64 (.ofNat 1))]) H23 τ24) (someK (pStrIndex [a0, (.int .i64 (.ofNat 1))]) fun v26 => someK (pFieldAddr 0 [v19]) fun v27 => someK (lLoad1 [v27] H23) fun v28 => binK .lss v26 v28 fun v29 => gK v29 false (fun q' => someK (pFieldAddr 1 [v19]) fun v => q' v H23 τ24) H23 τ24 fun v30 H31 τ32 => gK v29 false (fun q' => someK (lLoad1 [v30] H31) fun v => q' v H31 τ32) H31 τ32 fun v33 H34 τ35 => gK v29 false (fun q' => q' v26 H34 τ35) H34 τ35 fun v36 H37 τ38 =>
    gK v29 false (fun q' => binK .lss v33 v36 fun v => q' v H37 τ38) H37 τ38 fun v39 H40 τ41 => someK (pPick [v29, (.bool true), v39]) fun v42 => condK v42 (q (.tup [(.int .i32 (.ofNat 65533)), (.int .i64 (.ofNat 1))]) H40 τ41) (binK .leq v15 (.int .i64 (.ofNat 2)) fun v43 => condK v43 (binK .and v2 (.int .u8 (.ofNat 31)) fun v44 => toIntK .i32 v44 fun v45 => binK .shl v45 (.int .u64 (.ofNat 6)) fun v46 => binK .and v26 (.int .u8 (.ofNat 63)) fun v47 => toIntK .i32 v47 fun v48 => binK .or v46 v48 fun v49 => q (.tup [v49, (.int .i64 (.ofNat 2))]) H40 τ41) (someK (pStrIndex [a0, (.int .i64 (.ofNat 2))]) fun v50 => binK .lss v50 (.int .u8 (.ofNat 128)) fun v51 => gK v51 false (fun q' => q' v50 H40 τ41) H40 τ41 fun v52 H53 τ54 => gK v51 false (fun q' => binK .lss (.int .u8 (.ofNat 191)) v52 fun v => q' v H53 τ54) H53 τ54 fun v55 H56 τ57 => someK (pPick [v51, (.bool true), v55]) fun v58 =>
    condK v58 (q (.tup [(.int .i32 (.ofNat 65533)), (.int .i64 (.ofNat 1))]) H56 τ57) (binK .leq v15 (.int .i64 (.ofNat 3)) fun v59 => condK v59 (binK .and v2 (.int .u8 (.ofNat 15)) fun v60 => toIntK .i32 v60 fun v61 => binK .shl v61 (.int .u64 (.ofNat 12)) fun v62 => binK .and v26 (.int .u8 (.ofNat 63)) fun v63 => toIntK .i32 v63 fun v64 => binK .shl v64 (.int .u64 (.ofNat 6)) fun v65 => binK .or v62 v65 fun v66 => binK .and v50 (.int .u8 (.ofNat 63)) fun v67 => toIntK .i32 v67 fun v68 => binK .or v66 v68 fun v69 => q (.tup [v69, (.int .i64 (.ofNat 3))]) H56 τ57) (someK (pStrIndex [a0, (.int .i64 (.ofNat 3))]) fun v70 => binK .lss v70 (.int .u8 (.ofNat 128)) fun v71 => gK v71 false (fun q' => q' v70 H56 τ57) H56 τ57 fun v72 H73 τ74 => gK v71 false (fun q' => binK .lss (.int .u8 (.ofNat 191)) v72 fun v => q' v H73 τ74) H73 τ74 fun v75 H76 τ77 =>
    someK (pPick [v71, (.bool true), v75]) fun v78 => condK v78 (q (.tup [(.int .i32 (.ofNat 65533)), (.int .i64 (.ofNat 1))]) H76 τ77) (binK .and v2 (.int .u8 (.ofNat 7)) fun v79 => toIntK .i32 v79 fun v80 => binK .shl v80 (.int .u64 (.ofNat 18)) fun v81 => binK .and v26 (.int .u8 (.ofNat 63)) fun v82 => toIntK .i32 v82 fun v83 => binK .shl v83 (.int .u64 (.ofNat 12)) fun v84 => binK .or v81 v84 fun v85 => binK .and v50 (.int .u8 (.ofNat 63)) fun v86 => toIntK .i32 v86 fun v87 => binK .shl v87 (.int .u64 (.ofNat 6)) fun v88 => binK .or v85 v88 fun v89 => binK .and v70 (.int .u8 (.ofNat 63)) fun v90 => toIntK .i32 v90 fun v91 => binK .or v89 v91 fun v92 => q (.tup [v92, (.int .i64 (.ofNat 4))]) H76 τ77))))))))
theorem s_utf8_decodeRuneInStringSlow_eq (call : CallK) (N : Nat) (a0 : V) (H : Heap) (τ : Tape) (q : KV) : s_utf8_decodeRuneInStringSlow call N a0 H τ q = funK call N fn_utf8_decodeRuneInStringSlow [a0] H τ q := by kernel_rfl
def e_utf8_decodeRuneInStringSlow (call : CallK) (N : Nat) (vs : List V) (H : Heap) (τ : Tape) (q : KV) : Ans := match vs with | [a0] => s_utf8_decodeRuneInStringSlow call N a0 H τ q | _ => none
theorem e_utf8_decodeRuneInStringSlow_ok : EntOk fn_utf8_decodeRuneInStringSlow e_utf8_decodeRuneInStringSlow := by
  intro call N vs H τ q r h
  unfold e_utf8_decodeRuneInStringSlow at h
  split at h
  · rw [s_utf8_decodeRuneInStringSlow_eq] at h; exact h
  · cases h
theorem e_utf8_decodeRuneInStringSlow_nat : EntNat e_utf8_decodeRuneInStringSlow := by
  intro c hn N vs H τ q
  unfold e_utf8_decodeRuneInStringSlow
  split
  · rw [s_utf8_decodeRuneInStringSlow_eq, s_utf8_decodeRuneInStringSlow_eq]; exact funK_ent hn _ _ _ _ _ _
  · rfl
/-- unicode/utf8.RuneStart -/
def fn_utf8_RuneStart : Fun := ⟨1, (.seq (.reg [iR 2 (.p .mv) [(.c (.bool false))]]) (.keep [0] (.seq (.reg [iR 3 (.p .mv) [(.t 0)], iR 4 (.p (.bin .and)) [(.t 3), (.c (.int .u8 (.ofNat 192)))], iR 5 (.p (.bin .neq)) [(.t 4), (.c (.int .u8 (.ofNat 128)))], iR 2 (.p .mv) [(.t 5)]]) (.keep [2] (.keep [2] .ret))))), [(.t 2)]⟩
def s_utf8_RuneStart (call : CallK) (N : Nat) (a0 : V) (H : Heap) (τ : Tape) (q : KV) : Ans := binK .and a0 (.int .u8 (.ofNat 192)) fun v0 => binK .neq v0 (.int .u8 (.ofNat 128)) fun v1 => q v1 H τ
theorem s_utf8_RuneStart_eq (call : CallK) (N : Nat) (a0 : V) (H : Heap) (τ : Tape) (q : KV) : s_utf8_RuneStart call N a0 H τ q = funK call N fn_utf8_RuneStart [a0] H τ q := by kernel_rfl
def e_utf8_RuneStart (call : CallK) (N : Nat) (vs : List V) (H : Heap) (τ : Tape) (q : KV) : Ans := match vs with | [a0] => s_utf8_RuneStart call N a0 H τ q | _ => none
theorem e_utf8_RuneStart_ok : EntOk fn_utf8_RuneStart e_utf8_RuneStart := by
  intro call N vs H τ q r h
  unfold e_utf8_RuneStart at h
  split at h
  · rw [s_utf8_RuneStart_eq] at h; exact h
  · cases h
theorem e_utf8_RuneStart_nat : EntNat e_utf8_RuneStart := by
  intro c hn N vs H τ q
  unfold e_utf8_RuneStart
  split
  · rw [s_utf8_RuneStart_eq, s_utf8_RuneStart_eq]; exact funK_ent hn _ _ _ _ _ _
  · rfl
/-- unicode/utf8.ValidRune -/
def fn_utf8_ValidRune : Fun := ⟨1, (.seq (.reg [iR 2 (.p .mv) [(.c (.bool false))]]) (.keep [0] (.seq (.block 0 (.seq (.reg [iR 4 (.p .mv) [(.t 0)], iR 5 (.p (.bin .leq)) [(.c (.int .i32 (.ofNat 0))), (.t 4)], iR 6 (.p .mv) [(.t 5)], iG 7 6 true (.p .mv) [(.t 0)], iG 8 6 true (.p (.bin .lss)) [(.t 7), (.c (.int .i32 (.ofNat 55296)))], iR 9 (.p .pick) [(.t 6), (.t 8), (.c (.bool false))], iR 3 (.p .mv) [(.t 9)]]) (.keep [0, 3] (.cond (.t 3) (.seq (.reg [iR 2 (.p .mv) [(.c (.bool true))]]) (.keep [2] (.keep [2] .ret))) (.seq (.reg [iR 11 (.p .mv) [(.t 0)], iR 12 (.p (.bin .lss)) [(.c (.int .i32 (.ofNat 57343))), (.t 11)], iR 13 (.p .mv) [(.t 12)], iG 14 13 true (.p .mv) [(.t 0)], iG 15 13 true (.p (.bin .leq)) [(.t 14), (.c (.int .i32 (.ofNat 1114111)))], iR 16 (.p .pick) [(.t 13), (.t 15), (.c (.bool false))], iR 10 (.p .mv) [(.t 16)]]) (.keep [10] (.cond (.t 10)
    (.seq (.reg [iR 2 (.p .mv) [(.c (.bool true))]]) (.keep [2] (.keep [2] .ret))) .skip))))))) (.keep [] (.seq (.reg [iR 2 (.p .mv) [(.c (.bool false))]]) (.keep [2] (.keep [2] .ret))))))), [(.t 2)]⟩
def s_utf8_ValidRune (call : CallK) (N : Nat) (a0 : V) (H : Heap) (τ : Tape) (q : KV) : Ans := binK .leq (.int .i32 (.ofNat 0)) a0 fun v0 => gK v0 true (fun q' => q' a0 H τ) H τ fun v1 H2 τ3 => gK v0 true (fun q' => binK .lss v1 (.int .i32 (.ofNat 55296)) fun v => q' v H2 τ3) H2 τ3 fun v4 H5 τ6 => someK (pPick [v0, v4, (.bool false)]) fun v7 => condK v7 (q (.bool true) H5 τ6) (binK .lss (.int .i32 (.ofNat 57343)) a0 fun v8 => gK v8 true (fun q' => q' a0 H5 τ6) H5 τ6 fun v9 H10 τ11 => gK v8 true (fun q' => binK .leq v9 (.int .i32 (.ofNat 1114111)) fun v => q' v H10 τ11) H10 τ11 fun v12 H13 τ14 => someK (pPick [v8, v12, (.bool false)]) fun v15 => condK v15 (q (.bool true) H13 τ14) (q (.bool false) H13 τ14))
theorem s_utf8_ValidRune_eq (call : CallK) (N : Nat) (a0 : V) (H : Heap) (τ : Tape) (q : KV) : s_utf8_ValidRune call N a0 H τ q = funK call N fn_utf8_ValidRune [a0] H τ q := by kernel_rfl
def e_utf8_ValidRune (call : CallK) (N : Nat) (vs : List V) (H : Heap) (τ : Tape) (q : KV) : Ans := match vs with | [a0] => s_utf8_ValidRune call N a0 H τ q | _ => none
theorem e_utf8_ValidRune_ok : EntOk fn_utf8_ValidRune e_utf8_ValidRune := by
  intro call N vs H τ q r h
  unfold e_utf8_ValidRune at h
  split at h
  · rw [s_utf8_ValidRune_eq] at h; exact h
  · cases h
theorem e_utf8_ValidRune_nat : EntNat e_utf8_ValidRune := by
  intro c hn N vs H τ q
  unfold e_utf8_ValidRune
  split
  · rw [s_utf8_ValidRune_eq, s_utf8_ValidRune_eq]; exact funK_ent hn _ _ _ _ _ _
  · rfl
/-- internal/bytealg.Cutover -/
def fn_bytealg_Cutover : Fun := ⟨1, (.seq (.reg [iR 2 (.p .mv) [(.c (.int .i64 (.ofNat 0)))]]) (.keep [0] (.seq (.reg [iR 3 (.p .mv) [(.t 0)], iR 4 (.p (.bin .add)) [(.t 3), (.c (.int .i64 (.ofNat 16)))], iR 5 (.p (.bin .quo)) [(.t 4), (.c (.int .i64 (.ofNat 8)))], iR 2 (.p .mv) [(.t 5)]]) (.keep [2] (.keep [2] .ret))))), [(.t 2)]⟩
def s_bytealg_Cutover (call : CallK) (N : Nat) (a0 : V) (H : Heap) (τ : Tape) (q : KV) : Ans := binK .add a0 (.int .i64 (.ofNat 16)) fun v0 => binK .quo v0 (.int .i64 (.ofNat 8)) fun v1 => q v1 H τ
theorem s_bytealg_Cutover_eq (call : CallK) (N : Nat) (a0 : V) (H : Heap) (τ : Tape) (q : KV) : s_bytealg_Cutover call N a0 H τ q = funK call N fn_bytealg_Cutover [a0] H τ q := by kernel_rfl
def e_bytealg_Cutover (call : CallK) (N : Nat) (vs : List V) (H : Heap) (τ : Tape) (q : KV) : Ans := match vs with | [a0] => s_bytealg_Cutover call N a0 H τ q | _ => none
theorem e_bytealg_Cutover_ok : EntOk fn_bytealg_Cutover e_bytealg_Cutover := by
  intro call N vs H τ q r h
  unfold e_bytealg_Cutover at h
  split at h
  · rw [s_bytealg_Cutover_eq] at h; exact h
  · cases h
theorem e_bytealg_Cutover_nat : EntNat e_bytealg_Cutover := by
  intro c hn N vs H τ q
  unfold e_bytealg_Cutover
  split
  · rw [s_bytealg_Cutover_eq, s_bytealg_Cutover_eq]; exact funK_ent hn _ _ _ _ _ _
  · rfl
/-- internal/bytealg.IndexRabinKarp[string] -/
def fn_bytealg_IndexRabinKarp_string : Fun := ⟨2, (.seq (.reg [iR 4 (.p .mv) [(.c (.int .i64 (.ofNat 0)))]]) (.keep [0, 1] (.seq (.reg [iR 12 (.p .mv) [(.t 1)], iR 13 (.call 130) [(.t 12)], iR 11 (.p .mv) [(.t 13)], iR 14 (.p (.extract 0)) [(.t 11)], iR 15 (.p (.extract 1)) [(.t 11)], iR 5 (.p .mv) [(.t 14)], iR 6 (.p .mv) [(.t 15)]]) (.keep [0, 1, 5, 6] (.seq (.reg [iR 16 (.p .mv) [(.t 1)], iR 17 (.p .lenS) [(.t 16)], iR 7 (.p .mv) [(.t 17)]]) (.keep [0, 1, 5, 6, 7] (.seq (.reg [iR 8 (.p .mv) [(.c (.int .u32 (.ofNat 0)))]]) (.keep [0, 1, 5, 6, 7, 8] (.seq (.seq (.reg [iR 9 (.p .mv) [(.c (.int .i64 (.ofNat 0)))]]) (.keep [0, 1, 5, 6, 7, 8, 9] (.block 0 (.loop (.keep [0, 1, 5, 6, 7, 8, 9] (.seq (.seq (.reg [iR 18 (.p .mv) [(.t 9)], iR 19 (.p .mv) [(.t 7)], iR 20 (.p (.bin .lss)) [(.t 18), (.t 19)]]) (.keep [0, 1, 5, 6, 7, 8, 9, 20] (.cond (.t 20) .skip
    (.keep [0, 1, 5, 6, 7, 8] (.exit 0))))) (.keep [0, 1, 5, 6, 7, 8, 9] (.seq (.block 1 (.reg [iR 23 (.p .mv) [(.t 8)], iR 24 (.p (.bin .mul)) [(.t 23), (.c (.int .u32 (.ofNat 16777619)))], iR 25 (.p .mv) [(.t 0)], iR 26 (.p .mv) [(.t 9)], iR 27 (.p .strIndex) [(.t 25), (.t 26)], iR 28 (.p (.toInt .u32)) [(.t 27)], iR 29 (.p (.bin .add)) [(.t 24), (.t 28)], iR 8 (.p .mv) [(.t 29)]])) (.keep [0, 1, 5, 6, 7, 8, 9] (.reg [iR 21 (.p .mv) [(.t 9)], iR 22 (.p (.bin .add)) [(.t 21), (.c (.int .i64 (.ofNat 1)))], iR 9 (.p .mv) [(.t 22)]])))))))))) (.keep [0, 1, 5, 6, 7, 8] (.seq (.seq (.reg [iR 30 (.p .mv) [(.t 8)], iR 31 (.p .mv) [(.t 5)], iR 32 (.p (.bin .eql)) [(.t 30), (.t 31)], iR 33 (.p .mv) [(.t 32)], iG 34 33 true (.p .mv) [(.t 0)], iG 35 33 true (.p .mv) [(.t 7)], iG 36 33 true (.p (.strSlice false true)) [(.t 34), (.t 35)], iG 37 33 true (.p .mv) [(.t 1)],
    iG 38 33 true (.p (.bin .eql)) [(.t 36), (.t 37)], iR 39 (.p .pick) [(.t 33), (.t 38), (.c (.bool false))]]) (.keep [0, 1, 5, 6, 7, 8, 39] (.cond (.t 39) (.seq (.reg [iR 4 (.p .mv) [(.c (.int .i64 (.ofNat 0)))]]) (.keep [4] (.keep [4] .ret))) .skip))) (.keep [0, 1, 5, 6, 7, 8] (.seq (.seq (.reg [iR 40 (.p .mv) [(.t 7)], iR 10 (.p .mv) [(.t 40)]]) (.keep [0, 1, 5, 6, 7, 8, 10] (.block 2 (.loop (.keep [0, 1, 5, 6, 7, 8, 10] (.seq (.seq (.reg [iR 41 (.p .mv) [(.t 10)], iR 42 (.p .mv) [(.t 0)], iR 43 (.p .lenS) [(.t 42)], iR 44 (.p (.bin .lss)) [(.t 41), (.t 43)]]) (.keep [0, 1, 5, 6, 7, 8, 10, 44] (.cond (.t 44) .skip (.keep [] (.exit 2))))) (.keep [0, 1, 5, 6, 7, 8, 10] (.block 3 (.seq (.reg [iR 45 (.p .mv) [(.t 8)], iR 46 (.p (.bin .mul)) [(.t 45), (.c (.int .u32 (.ofNat 16777619)))], iR 8 (.p .mv) [(.t 46)]]) (.keep [0, 1, 5, 6, 7, 8, 10] (.seq (.reg [iR 47 (.p .mv) [(.t 8)],
    iR 48 (.p .mv) [(.t 0)], iR 49 (.p .mv) [(.t 10)], iR 50 (.p .strIndex) [(.t 48), (.t 49)], iR 51 (.p (.toInt .u32)) [(.t 50)], iR 52 (.p (.bin .add)) [(.t 47), (.t 51)], iR 8 (.p .mv) [(.t 52)]]) (.keep [0, 1, 5, 6, 7, 8, 10] (.seq (.reg [iR 53 (.p .mv) [(.t 8)], iR 54 (.p .mv) [(.t 6)], iR 55 (.p .mv) [(.t 0)], iR 56 (.p .mv) [(.t 10)], iR 57 (.p .mv) [(.t 7)], iR 58 (.p (.bin .sub)) [(.t 56), (.t 57)], iR 59 (.p .strIndex) [(.t 55), (.t 58)], iR 60 (.p (.toInt .u32)) [(.t 59)], iR 61 (.p (.bin .mul)) [(.t 54), (.t 60)], iR 62 (.p (.bin .sub)) [(.t 53), (.t 61)], iR 8 (.p .mv) [(.t 62)]]) (.keep [0, 1, 5, 6, 7, 8, 10] (.seq (.reg [iR 63 (.p .mv) [(.t 10)], iR 64 (.p (.bin .add)) [(.t 63), (.c (.int .i64 (.ofNat 1)))], iR 10 (.p .mv) [(.t 64)]]) (.keep [0, 1, 5, 6, 7, 8, 10] (.seq (.reg [iR 65 (.p .mv) [(.t 8)], iR 66 (.p .mv) [(.t 5)],
    iR 67 (.p (.bin .eql)) [(.t 65), (.t 66)], iR 68 (.p .mv) [(.t 67)], iG 69 68 true (.p .mv) [(.t 0)], iG 70 68 true (.p .mv) [(.t 10)], iG 71 68 true (.p .mv) [(.t 7)], iG 72 68 true (.p (.bin .sub)) [(.t 70), (.t 71)], iG 73 68 true (.p .mv) [(.t 10)], iG 74 68 true (.p (.strSlice true true)) [(.t 69), (.t 72), (.t 73)], iG 75 68 true (.p .mv) [(.t 1)], iG 76 68 true (.p (.bin .eql)) [(.t 74), (.t 75)], iR 77 (.p .pick) [(.t 68), (.t 76), (.c (.bool false))]]) (.keep [0, 1, 5, 6, 7, 8, 10, 77] (.cond (.t 77) (.seq (.reg [iR 78 (.p .mv) [(.t 10)], iR 79 (.p .mv) [(.t 7)], iR 80 (.p (.bin .sub)) [(.t 78), (.t 79)], iR 4 (.p .mv) [(.t 80)]]) (.keep [4] (.keep [4] .ret))) .skip))))))))))))))))))) (.keep [] (.seq (.reg [iR 4 (.p .mv) [(.c (.int .i64 (.negSucc 0)))]]) (.keep [4] (.keep [4] .ret))))))))))))))))), [(.t 4)]⟩
def s_bytealg_IndexRabinKarp_string_j1 (call : CallK) (N : Nat) (q : KV) (st : St) (τ : Tape) : Ans := match st with
  | ⟨fr, H⟩ => q (.int .i64 (.negSucc 0)) H τ
def s_bytealg_IndexRabinKarp_string_l2 (call : CallK) (N : Nat) (st : St) (τ : Tape) (k : KC) : Ans := match st with
  | ⟨fr, H⟩ => getK fr 0 fun t0 => getK fr 1 fun t1 => getK fr 5 fun t5 => getK fr 6 fun t6 => getK fr 7 fun t7 => getK fr 8 fun t8 => getK fr 10 fun t10 => someK (pLenS [t0]) fun v23 => binK .lss t10 v23 fun v24 => condK v24 (binK .mul t8 (.int .u32 (.ofNat 16777619)) fun v25 => someK (pStrIndex [t0, t10]) fun v26 => toIntK .u32 v26 fun v27 => binK .add v25 v27 fun v28 => binK .sub t10 t7 fun v29 => someK (pStrIndex [t0, v29]) fun v30 => toIntK .u32 v30 fun v31 => binK .mul t6 v31 fun v32 => binK .sub v28 v32 fun v33 => binK .add t10 (.int .i64 (.ofNat 1)) fun v34 => binK .eql v33 t5 fun v35 => gK v35 true (fun q' => q' t0 H τ) H τ fun v36 H37 τ38 => gK v35 true (fun q' => q' v34 H37 τ38) H37 τ38 fun v39 H40 τ41 => gK v35 true (fun q' => q' t7 H40 τ41) H40 τ41 fun v42 H43 τ44 => gK v35 true (fun q' => binK .sub v39 v42 fun v => q' v H43 τ44) H43 τ44 fun v45 H46 τ47 =>
    gK v35 true (fun q' => q' v34 H46 τ47) H46 τ47 fun v48 H49 τ50 => gK v35 true (fun q' => someK (pStrSlice true true [v36, v45, v48]) fun v => q' v H49 τ50) H49 τ50 fun v51 H52 τ53 => gK v35 true (fun q' => q' t1 H52 τ53) H52 τ53 fun v54 H55 τ56 => gK v35 true (fun q' => binK .eql v51 v54 fun v => q' v H55 τ56) H55 τ56 fun v57 H58 τ59 => someK (pPick [v35, v57, (.bool false)]) fun v60 => condK v60 (binK .sub v34 t7 fun v61 => k .ret ⟨(T.set .leaf 4 v61), H58⟩ τ59) (k .normal ⟨(T.set (T.set (T.set (T.set (T.set (T.set (T.set (T.set .leaf 0 t0) 1 t1) 5 t5) 6 t6) 7 t7) 8 v33) 10 v34) 77 v60), H58⟩ τ59)) (k (.exit 2) ⟨.leaf, H⟩ τ)
def s_bytealg_IndexRabinKarp_string_j0 (call : CallK) (N : Nat) (q : KV) (st : St) (τ : Tape) : Ans := match st with
  | ⟨fr, H⟩ => getK fr 0 fun t0 => getK fr 1 fun t1 => getK fr 5 fun t5 => getK fr 6 fun t6 => getK fr 7 fun t7 => getK fr 8 fun t8 => binK .eql t8 t5 fun v6 => gK v6 true (fun q' => q' t0 H τ) H τ fun v7 H8 τ9 => gK v6 true (fun q' => q' t7 H8 τ9) H8 τ9 fun v10 H11 τ12 => gK v6 true (fun q' => someK (pStrSlice false true [v7, v10]) fun v => q' v H11 τ12) H11 τ12 fun v13 H14 τ15 => gK v6 true (fun q' => q' t1 H14 τ15) H14 τ15 fun v16 H17 τ18 => gK v6 true (fun q' => binK .eql v13 v16 fun v => q' v H17 τ18) H17 τ18 fun v19 H20 τ21 => someK (pPick [v6, v19, (.bool false)]) fun v22 => condK v22 (q (.int .i64 (.ofNat 0)) H20 τ21) (loopK (s_bytealg_IndexRabinKarp_string_l2 call N) N ⟨(T.set (T.set (T.set (T.set (T.set (T.set (T.set .leaf 0 t0) 1 t1) 5 t5) 6 t6) 7 t7) 8 t8) 10 t7), H20⟩ τ21 (blockK 2 (seqK (s_bytealg_IndexRabinKarp_string_j1 call N q) (endK [(.t 4)] q))))
def s_bytealg_IndexRabinKarp_string_l3 (call : CallK) (N : Nat) (st : St) (τ : Tape) (k : KC) : Ans := match st with
  | ⟨fr, H⟩ => getK fr 0 fun t0 => getK fr 1 fun t1 => getK fr 5 fun t5 => getK fr 6 fun t6 => getK fr 7 fun t7 => getK fr 8 fun t8 => getK fr 9 fun t9 => binK .lss t9 t7 fun v62 => condK v62 (binK .mul t8 (.int .u32 (.ofNat 16777619)) fun v63 => someK (pStrIndex [t0, t9]) fun v64 => toIntK .u32 v64 fun v65 => binK .add v63 v65 fun v66 => binK .add t9 (.int .i64 (.ofNat 1)) fun v67 => k .normal ⟨(T.set (T.set (T.set (T.set (T.set (T.set (T.set (T.set (T.set (T.set .leaf 0 t0) 1 t1) 5 t5) 6 t6) 7 t7) 8 v66) 9 t9) 21 t9) 22 v67) 9 v67), H⟩ τ) (k (.exit 0) ⟨(T.set (T.set (T.set (T.set (T.set (T.set .leaf 0 t0) 1 t1) 5 t5) 6 t6) 7 t7) 8 t8), H⟩ τ)
def s_bytealg_IndexRabinKarp_string (call : CallK) (N : Nat) (a0 a1 : V) (H : Heap) (τ : Tape) (q : KV) : Ans := call f_bytealg_hashStr_string [a1] H τ fun v0 H1 τ2 => someK (pExtract 0 [v0]) fun v3 => someK (pExtract 1 [v0]) fun v4 => someK (pLenS [a1]) fun v5 => loopK (s_bytealg_IndexRabinKarp_string_l3 call N) N ⟨(T.set (T.set (T.set (T.set (T.set (T.set (T.set .leaf 0 a0) 1 a1) 5 v3) 6 v4) 7 v5) 8 (.int .u32 (.ofNat 0))) 9 (.int .i64 (.ofNat 0))), H1⟩ τ2 (blockK 0 (seqK (s_bytealg_IndexRabinKarp_string_j0 call N q) (endK [(.t 4)] q)))
theorem s_bytealg_IndexRabinKarp_string_eq (call : CallK) (N : Nat) (a0 a1 : V) (H : Heap) (τ : Tape) (q : KV) : s_bytealg_IndexRabinKarp_string call N a0 a1 H τ q = funK call N fn_bytealg_IndexRabinKarp_string [a0, a1] H τ q := by kernel_rfl
def e_bytealg_IndexRabinKarp_string (call : CallK) (N : Nat) (vs : List V) (H : Heap) (τ : Tape) (q : KV) : Ans := match vs with | [a0, a1] => s_bytealg_IndexRabinKarp_string call N a0 a1 H τ q | _ => none
theorem e_bytealg_IndexRabinKarp_string_ok : EntOk fn_bytealg_IndexRabinKarp_string e_bytealg_IndexRabinKarp_string := by
  intro call N vs H τ q r h
  unfold e_bytealg_IndexRabinKarp_string at h
  split at h
  · rw [s_bytealg_IndexRabinKarp_string_eq] at h; exact h
  · cases h
theorem e_bytealg_IndexRabinKarp_string_nat : EntNat e_bytealg_IndexRabinKarp_string := by
  intro c hn N vs H τ q
  unfold e_bytealg_IndexRabinKarp_string
  split
  · rw [s_bytealg_IndexRabinKarp_string_eq, s_bytealg_IndexRabinKarp_string_eq]; exact funK_ent hn _ _ _ _ _ _
  · rfl
end Go.Am.X
