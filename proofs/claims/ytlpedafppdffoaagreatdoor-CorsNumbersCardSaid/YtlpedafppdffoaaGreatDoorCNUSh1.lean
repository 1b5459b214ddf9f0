/- The abstract machine, printed functions of the program, and what they are shown to be. -/
import Derived.Test.YtlpedafppdffoaaGreatDoorCNUSh0
import Derived.Test.YtlpedafppdffoaaGreatDoorCNUM4
import Derived.KernelRfl
set_option linter.unusedVariables false
namespace Go.Am.X
set_option maxRecDepth 1000000
/-- ostiary/ostiaryref3.clean -/
def fn_ref3_clean : Fun := ⟨1, (.seq (.reg [iR 2 (.p .mv) [(.c (.str []))]]) (.keep [0] (.seq (.block 0 (.loop (.keep [0] (.seq (.seq (.reg [iR 5 (.p .mv) [(.t 0)], iR 6 (.p .lenS) [(.t 5)], iR 7 (.p (.bin .gtr)) [(.t 6), (.c (.int .i64 (.ofNat 0)))], iR 8 (.p .mv) [(.t 7)], iG 9 8 true (.p .mv) [(.t 0)], iG 10 8 true (.p .strIndex) [(.t 9), (.c (.int .i64 (.ofNat 0)))], iG 11 8 true (.p (.bin .leq)) [(.t 10), (.c (.int .u8 (.ofNat 32)))], iR 12 (.p .pick) [(.t 8), (.t 11), (.c (.bool false))]]) (.keep [0, 12] (.cond (.t 12) .skip (.keep [0] (.exit 0))))) (.keep [0] (.block 1 (.reg [iR 13 (.p .mv) [(.t 0)], iR 14 (.p (.strSlice true false)) [(.t 13), (.c (.int .i64 (.ofNat 1)))], iR 0 (.p .mv) [(.t 14)]]))))))) (.keep [0] (.seq (.block 2 (.loop (.keep [0] (.seq (.seq (.reg [iR 15 (.p .mv) [(.t 0)], iR 16 (.p .lenS) [(.t 15)],
    iR 17 (.p (.bin .gtr)) [(.t 16), (.c (.int .i64 (.ofNat 0)))], iR 18 (.p .mv) [(.t 17)], iG 19 18 true (.p .mv) [(.t 0)], iG 20 18 true (.p .mv) [(.t 0)], iG 21 18 true (.p .lenS) [(.t 20)], iG 22 18 true (.p (.bin .sub)) [(.t 21), (.c (.int .i64 (.ofNat 1)))], iG 23 18 true (.p .strIndex) [(.t 19), (.t 22)], iG 24 18 true (.p (.bin .leq)) [(.t 23), (.c (.int .u8 (.ofNat 32)))], iR 25 (.p .pick) [(.t 18), (.t 24), (.c (.bool false))]]) (.keep [0, 25] (.cond (.t 25) .skip (.keep [0] (.exit 2))))) (.keep [0] (.block 3 (.reg [iR 26 (.p .mv) [(.t 0)], iR 27 (.p .mv) [(.t 0)], iR 28 (.p .lenS) [(.t 27)], iR 29 (.p (.bin .sub)) [(.t 28), (.c (.int .i64 (.ofNat 1)))], iR 30 (.p (.strSlice false true)) [(.t 26), (.t 29)], iR 0 (.p .mv) [(.t 30)]]))))))) (.keep [0] (.seq (.reg [iR 3 (.p .mv) [(.c (.str []))]]) (.keep [0, 3] (.seq (.seq (.reg [iR 4 (.p .mv) [(.c (.int .i64 (.ofNat 0)))]])
    (.keep [0, 3, 4] (.block 4 (.loop (.keep [0, 3, 4] (.seq (.seq (.reg [iR 31 (.p .mv) [(.t 4)], iR 32 (.p .mv) [(.t 0)], iR 33 (.p .lenS) [(.t 32)], iR 34 (.p (.bin .lss)) [(.t 31), (.t 33)]]) (.keep [0, 3, 4, 34] (.cond (.t 34) .skip (.keep [3] (.exit 4))))) (.keep [0, 3, 4] (.seq (.block 5 (.seq (.reg [iR 37 (.p .mv) [(.t 0)], iR 38 (.p .mv) [(.t 4)], iR 39 (.p .strIndex) [(.t 37), (.t 38)], iR 40 (.p (.bin .neq)) [(.t 39), (.c (.int .u8 (.ofNat 9)))], iR 41 (.p .mv) [(.t 40)], iG 42 41 true (.p .mv) [(.t 0)], iG 43 41 true (.p .mv) [(.t 4)], iG 44 41 true (.p .strIndex) [(.t 42), (.t 43)], iG 45 41 true (.p (.bin .neq)) [(.t 44), (.c (.int .u8 (.ofNat 10)))], iR 46 (.p .pick) [(.t 41), (.t 45), (.c (.bool false))], iR 47 (.p .mv) [(.t 46)], iG 48 47 true (.p .mv) [(.t 0)], iG 49 47 true (.p .mv) [(.t 4)], iG 50 47 true (.p .strIndex) [(.t 48), (.t 49)],
    iG 51 47 true (.p (.bin .neq)) [(.t 50), (.c (.int .u8 (.ofNat 13)))], iR 52 (.p .pick) [(.t 47), (.t 51), (.c (.bool false))]]) (.keep [0, 3, 4, 52] (.cond (.t 52) (.reg [iR 53 (.p .mv) [(.t 3)], iR 54 (.p .mv) [(.t 0)], iR 55 (.p .mv) [(.t 4)], iR 56 (.p .mv) [(.t 4)], iR 57 (.p (.bin .add)) [(.t 56), (.c (.int .i64 (.ofNat 1)))], iR 58 (.p (.strSlice true true)) [(.t 54), (.t 55), (.t 57)], iR 59 (.p (.bin .add)) [(.t 53), (.t 58)], iR 3 (.p .mv) [(.t 59)]]) .skip)))) (.keep [0, 3, 4] (.reg [iR 35 (.p .mv) [(.t 4)], iR 36 (.p (.bin .add)) [(.t 35), (.c (.int .i64 (.ofNat 1)))], iR 4 (.p .mv) [(.t 36)]])))))))))) (.keep [3] (.seq (.reg [iR 60 (.p .mv) [(.t 3)], iR 2 (.p .mv) [(.t 60)]]) (.keep [2] (.keep [2] .ret))))))))))))), [(.t 2)]⟩
def s_ref3_clean_j2 (call : CallK) (N : Nat) (q : KV) (st : St) (τ : Tape) : Ans := match st with
  | ⟨fr, H⟩ => getK fr 3 fun t3 => q t3 H τ
def s_ref3_clean_j4 (call : CallK) (N : Nat) (k : KC) (st : St) (τ : Tape) : Ans := match st with
  | ⟨fr, H⟩ => getK fr 0 fun t0 => getK fr 3 fun t3 => getK fr 4 fun t4 => binK .add t4 (.int .i64 (.ofNat 1)) fun v2 => k .normal ⟨(T.set (T.set (T.set (T.set (T.set (T.set .leaf 0 t0) 3 t3) 4 t4) 35 t4) 36 v2) 4 v2), H⟩ τ
def s_ref3_clean_l3 (call : CallK) (N : Nat) (st : St) (τ : Tape) (k : KC) : Ans := match st with
  | ⟨fr, H⟩ => getK fr 0 fun t0 => getK fr 3 fun t3 => getK fr 4 fun t4 => someK (pLenS [t0]) fun v0 => binK .lss t4 v0 fun v1 => condK v1 (someK (pStrIndex [t0, t4]) fun v3 => binK .neq v3 (.int .u8 (.ofNat 9)) fun v4 => gK v4 true (fun q' => q' t0 H τ) H τ fun v5 H6 τ7 => gK v4 true (fun q' => q' t4 H6 τ7) H6 τ7 fun v8 H9 τ10 => gK v4 true (fun q' => someK (pStrIndex [v5, v8]) fun v => q' v H9 τ10) H9 τ10 fun v11 H12 τ13 => gK v4 true (fun q' => binK .neq v11 (.int .u8 (.ofNat 10)) fun v => q' v H12 τ13) H12 τ13 fun v14 H15 τ16 => someK (pPick [v4, v14, (.bool false)]) fun v17 => gK v17 true (fun q' => q' t0 H15 τ16) H15 τ16 fun v18 H19 τ20 => gK v17 true (fun q' => q' t4 H19 τ20) H19 τ20 fun v21 H22 τ23 => gK v17 true (fun q' => someK (pStrIndex [v18, v21]) fun v => q' v H22 τ23) H22 τ23 fun v24 H25 τ26 =>
    gK v17 true (fun q' => binK .neq v24 (.int .u8 (.ofNat 13)) fun v => q' v H25 τ26) H25 τ26 fun v27 H28 τ29 => someK (pPick [v17, v27, (.bool false)]) fun v30 => condK v30 (binK .add t4 (.int .i64 (.ofNat 1)) fun v31 => someK (pStrSlice true true [t0, t4, v31]) fun v32 => binK .add t3 v32 fun v33 => s_ref3_clean_j4 call N k ⟨(T.set (T.set (T.set (T.set (T.set (T.set (T.set (T.set (T.set (T.set (T.set (T.set .leaf 0 t0) 3 t3) 4 t4) 52 v30) 53 t3) 54 t0) 55 t4) 56 t4) 57 v31) 58 v32) 59 v33) 3 v33), H28⟩ τ29) (s_ref3_clean_j4 call N k ⟨(T.set (T.set (T.set (T.set .leaf 0 t0) 3 t3) 4 t4) 52 v30), H28⟩ τ29)) (k (.exit 4) ⟨(T.set .leaf 3 t3), H⟩ τ)
def s_ref3_clean_j1 (call : CallK) (N : Nat) (q : KV) (st : St) (τ : Tape) : Ans := match st with
  | ⟨fr, H⟩ => getK fr 0 fun t0 => loopK (s_ref3_clean_l3 call N) N ⟨(T.set (T.set (T.set .leaf 0 t0) 3 (.str [])) 4 (.int .i64 (.ofNat 0))), H⟩ τ (blockK 4 (seqK (s_ref3_clean_j2 call N q) (endK [(.t 2)] q)))
def s_ref3_clean_l5 (call : CallK) (N : Nat) (st : St) (τ : Tape) (k : KC) : Ans := match st with
  | ⟨fr, H⟩ => getK fr 0 fun t0 => someK (pLenS [t0]) fun v34 => binK .gtr v34 (.int .i64 (.ofNat 0)) fun v35 => gK v35 true (fun q' => q' t0 H τ) H τ fun v36 H37 τ38 => gK v35 true (fun q' => q' t0 H37 τ38) H37 τ38 fun v39 H40 τ41 => gK v35 true (fun q' => someK (pLenS [v39]) fun v => q' v H40 τ41) H40 τ41 fun v42 H43 τ44 => gK v35 true (fun q' => binK .sub v42 (.int .i64 (.ofNat 1)) fun v => q' v H43 τ44) H43 τ44 fun v45 H46 τ47 => gK v35 true (fun q' => someK (pStrIndex [v36, v45]) fun v => q' v H46 τ47) H46 τ47 fun v48 H49 τ50 => gK v35 true (fun q' => binK .leq v48 (.int .u8 (.ofNat 32)) fun v => q' v H49 τ50) H49 τ50 fun v51 H52 τ53 => someK (pPick [v35, v51, (.bool false)]) fun v54 => condK v54 (someK (pLenS [t0]) fun v55 => binK .sub v55 (.int .i64 (.ofNat 1)) fun v56 => someK (pStrSlice false true [t0, v56]) fun v57 =>
    k .normal ⟨(T.set (T.set (T.set (T.set (T.set (T.set (T.set .leaf 0 t0) 26 t0) 27 t0) 28 v55) 29 v56) 30 v57) 0 v57), H52⟩ τ53) (k (.exit 2) ⟨(T.set .leaf 0 t0), H52⟩ τ53)
def s_ref3_clean_j0 (call : CallK) (N : Nat) (q : KV) (st : St) (τ : Tape) : Ans := match st with
  | ⟨fr, H⟩ => getK fr 0 fun t0 => loopK (s_ref3_clean_l5 call N) N ⟨(T.set .leaf 0 t0), H⟩ τ (blockK 2 (seqK (s_ref3_clean_j1 call N q) (endK [(.t 2)] q)))
def s_ref3_clean_l6 (call : CallK) (N : Nat) (st : St) (τ : Tape) (k : KC) : Ans := match st with
  | ⟨fr, H⟩ => getK fr 0 fun t0 => someK (pLenS [t0]) fun v58 => binK .gtr v58 (.int .i64 (.ofNat 0)) fun v59 => gK v59 true (fun q' => q' t0 H τ) H τ fun v60 H61 τ62 => gK v59 true (fun q' => someK (pStrIndex [v60, (.int .i64 (.ofNat 0))]) fun v => q' v H61 τ62) H61 τ62 fun v63 H64 τ65 => gK v59 true (fun q' => binK .leq v63 (.int .u8 (.ofNat 32)) fun v => q' v H64 τ65) H64 τ65 fun v66 H67 τ68 => someK (pPick [v59, v66, (.bool false)]) fun v69 => condK v69 (someK (pStrSlice true false [t0, (.int .i64 (.ofNat 1))]) fun v70 => k .normal ⟨(T.set (T.set (T.set (T.set .leaf 0 t0) 13 t0) 14 v70) 0 v70), H67⟩ τ68) (k (.exit 0) ⟨(T.set .leaf 0 t0), H67⟩ τ68)
def s_ref3_clean (call : CallK) (N : Nat) (a0 : V) (H : Heap) (τ : Tape) (q : KV) : Ans := loopK (s_ref3_clean_l6 call N) N ⟨(T.set .leaf 0 a0), H⟩ τ (blockK 0 (seqK (s_ref3_clean_j0 call N q) (endK [(.t 2)] q)))
theorem s_ref3_clean_eq (call : CallK) (N : Nat) (a0 : V) (H : Heap) (τ : Tape) (q : KV) : s_ref3_clean call N a0 H τ q = funK call N fn_ref3_clean [a0] H τ q := by kernel_rfl
def e_ref3_clean (call : CallK) (N : Nat) (vs : List V) (H : Heap) (τ : Tape) (q : KV) : Ans := match vs with | [a0] => s_ref3_clean call N a0 H τ q | _ => none
theorem e_ref3_clean_ok : EntOk fn_ref3_clean e_ref3_clean := by
  intro call N vs H τ q r h
  unfold e_ref3_clean at h
  split at h
  · rw [s_ref3_clean_eq] at h; exact h
  · cases h
theorem e_ref3_clean_nat : EntNat e_ref3_clean := by
  intro c hn N vs H τ q
  unfold e_ref3_clean
  split
  · rw [s_ref3_clean_eq, s_ref3_clean_eq]; exact funK_ent hn _ _ _ _ _ _
  · rfl
/-- ostiary/ostiaryref3.scheme -/
def fn_ref3_scheme : Fun := ⟨1, (.seq (.reg [iR 2 (.p .mv) [(.c (.str []))], iR 3 (.p .mv) [(.c (.str []))], iR 4 (.p .mv) [(.c (.bool false))]]) (.keep [0] (.seq (.seq (.reg [iR 5 (.p .mv) [(.c (.int .i64 (.ofNat 0)))]]) (.keep [0, 5] (.block 0 (.loop (.keep [0, 5] (.seq (.seq (.reg [iR 7 (.p .mv) [(.t 5)], iR 8 (.p .mv) [(.t 0)], iR 9 (.p .lenS) [(.t 8)], iR 10 (.p (.bin .lss)) [(.t 7), (.t 9)]]) (.keep [0, 5, 10] (.cond (.t 10) .skip (.keep [] (.exit 0))))) (.keep [0, 5] (.seq (.block 1 (.seq (.reg [iR 13 (.p .mv) [(.t 0)], iR 14 (.p .mv) [(.t 5)], iR 15 (.p .strIndex) [(.t 13), (.t 14)], iR 6 (.p .mv) [(.t 15)]]) (.keep [0, 5, 6] (.seq (.seq (.reg [iR 16 (.p .mv) [(.t 6)], iR 17 (.p (.bin .eql)) [(.t 16), (.c (.int .u8 (.ofNat 58)))], iR 18 (.p .mv) [(.t 17)], iG 19 18 true (.p .mv) [(.t 5)], iG 20 18 true (.p (.bin .gtr)) [(.t 19), (.c (.int .i64 (.ofNat 0)))],
    iR 21 (.p .pick) [(.t 18), (.t 20), (.c (.bool false))]]) (.keep [0, 5, 6, 21] (.cond (.t 21) (.seq (.draw [iR 22 (.p .mv) [(.t 0)], iR 23 (.p .mv) [(.t 5)], iR 24 (.p (.strSlice false true)) [(.t 22), (.t 23)], iR 25 (.call 55) [(.t 24)], iR 26 (.p .mv) [(.t 0)], iR 27 (.p .mv) [(.t 5)], iR 28 (.p (.bin .add)) [(.t 27), (.c (.int .i64 (.ofNat 1)))], iR 29 (.p (.strSlice true false)) [(.t 26), (.t 28)], iR 2 (.p .mv) [(.t 25)], iR 3 (.p .mv) [(.t 29)], iR 4 (.p .mv) [(.c (.bool true))]]) (.keep [2, 3, 4] (.keep [2, 3, 4] .ret))) .skip))) (.keep [0, 5, 6] (.seq (.reg [iR 30 (.p .mv) [(.t 6)], iR 31 (.call 114) [(.t 30)], iR 32 (.p (.un .not)) [(.t 31)], iR 33 (.p .mv) [(.t 32)], iG 34 33 true (.p .mv) [(.t 5)], iG 35 33 true (.p (.bin .eql)) [(.t 34), (.c (.int .i64 (.ofNat 0)))], iG 36 33 true (.p .mv) [(.t 35)], iG 37 36 false (.p .mv) [(.t 6)],
    iG 38 36 false (.call 115) [(.t 37)], iG 39 36 false (.p (.un .not)) [(.t 38)], iG 40 36 false (.p .mv) [(.t 39)], iG 41 40 true (.p .mv) [(.t 6)], iG 42 40 true (.p (.bin .neq)) [(.t 41), (.c (.int .u8 (.ofNat 43)))], iG 43 36 false (.p .pick) [(.t 40), (.t 42), (.c (.bool false))], iG 44 36 false (.p .mv) [(.t 43)], iG 45 44 true (.p .mv) [(.t 6)], iG 46 44 true (.p (.bin .neq)) [(.t 45), (.c (.int .u8 (.ofNat 45)))], iG 47 36 false (.p .pick) [(.t 44), (.t 46), (.c (.bool false))], iG 48 36 false (.p .mv) [(.t 47)], iG 49 48 true (.p .mv) [(.t 6)], iG 50 48 true (.p (.bin .neq)) [(.t 49), (.c (.int .u8 (.ofNat 46)))], iG 51 36 false (.p .pick) [(.t 48), (.t 50), (.c (.bool false))], iG 52 33 true (.p .pick) [(.t 36), (.c (.bool true)), (.t 51)], iR 53 (.p .pick) [(.t 33), (.t 52), (.c (.bool false))]]) (.keep [0, 5, 53] (.cond (.t 53)
    (.seq (.reg [iR 2 (.p .mv) [(.c (.str []))], iR 3 (.p .mv) [(.c (.str []))], iR 4 (.p .mv) [(.c (.bool false))]]) (.keep [2, 3, 4] (.keep [2, 3, 4] .ret))) .skip)))))))) (.keep [0, 5] (.reg [iR 11 (.p .mv) [(.t 5)], iR 12 (.p (.bin .add)) [(.t 11), (.c (.int .i64 (.ofNat 1)))], iR 5 (.p .mv) [(.t 12)]])))))))))) (.keep [] (.seq (.reg [iR 2 (.p .mv) [(.c (.str []))], iR 3 (.p .mv) [(.c (.str []))], iR 4 (.p .mv) [(.c (.bool false))]]) (.keep [2, 3, 4] (.keep [2, 3, 4] .ret))))))), [(.t 2), (.t 3), (.t 4)]⟩
def s_ref3_scheme_j0 (call : CallK) (N : Nat) (q : KV) (st : St) (τ : Tape) : Ans := match st with
  | ⟨fr, H⟩ => q (.tup [(.str []), (.str []), (.bool false)]) H τ
def s_ref3_scheme_l1 (call : CallK) (N : Nat) (st : St) (τ : Tape) (k : KC) : Ans := match st with
  | ⟨fr, H⟩ => getK fr 0 fun t0 => getK fr 5 fun t5 => someK (pLenS [t0]) fun v0 => binK .lss t5 v0 fun v1 => condK v1 (someK (pStrIndex [t0, t5]) fun v2 => binK .eql v2 (.int .u8 (.ofNat 58)) fun v3 => gK v3 true (fun q' => q' t5 H τ) H τ fun v4 H5 τ6 => gK v3 true (fun q' => binK .gtr v4 (.int .i64 (.ofNat 0)) fun v => q' v H5 τ6) H5 τ6 fun v7 H8 τ9 => someK (pPick [v3, v7, (.bool false)]) fun v10 => condK v10 (someK (pStrSlice false true [t0, t5]) fun v11 => call f_ref1_Lower [v11] H8 τ9 fun v12 H13 τ14 => binK .add t5 (.int .i64 (.ofNat 1)) fun v15 => someK (pStrSlice true false [t0, v15]) fun v16 => k .ret ⟨(T.set (T.set (T.set .leaf 2 v12) 3 v16) 4 (.bool true)), H13⟩ τ14) (call f_ref1_Letter [v2] H8 τ9 fun v17 H18 τ19 => unK .not v17 fun v20 => gK v20 true (fun q' => q' t5 H18 τ19) H18 τ19 fun v21 H22 τ23 =>
    gK v20 true (fun q' => binK .eql v21 (.int .i64 (.ofNat 0)) fun v => q' v H22 τ23) H22 τ23 fun v24 H25 τ26 => gK v20 true (fun q' => q' v24 H25 τ26) H25 τ26 fun v27 H28 τ29 => gK v27 false (fun q' => q' v2 H28 τ29) H28 τ29 fun v30 H31 τ32 => gK v27 false (fun q' => call f_ref1_Digit [v30] H31 τ32 q') H31 τ32 fun v33 H34 τ35 => gK v27 false (fun q' => unK .not v33 fun v => q' v H34 τ35) H34 τ35 fun v36 H37 τ38 => gK v27 false (fun q' => q' v36 H37 τ38) H37 τ38 fun v39 H40 τ41 => gK v39 true (fun q' => q' v2 H40 τ41) H40 τ41 fun v42 H43 τ44 => gK v39 true (fun q' => binK .neq v42 (.int .u8 (.ofNat 43)) fun v => q' v H43 τ44) H43 τ44 fun v45 H46 τ47 => gK v27 false (fun q' => someK (pPick [v39, v45, (.bool false)]) fun v => q' v H46 τ47) H46 τ47 fun v48 H49 τ50 => gK v27 false (fun q' => q' v48 H49 τ50) H49 τ50 fun v51 H52 τ53 =>
    gK v51 true (fun q' => q' v2 H52 τ53) H52 τ53 fun v54 H55 τ56 => gK v51 true (fun q' => binK .neq v54 (.int .u8 (.ofNat 45)) fun v => q' v H55 τ56) H55 τ56 fun v57 H58 τ59 => gK v27 false (fun q' => someK (pPick [v51, v57, (.bool false)]) fun v => q' v H58 τ59) H58 τ59 fun v60 H61 τ62 => gK v27 false (fun q' => q' v60 H61 τ62) H61 τ62 fun v63 H64 τ65 => gK v63 true (fun q' => q' v2 H64 τ65) H64 τ65 fun v66 H67 τ68 => gK v63 true (fun q' => binK .neq v66 (.int .u8 (.ofNat 46)) fun v => q' v H67 τ68) H67 τ68 fun v69 H70 τ71 => gK v27 false (fun q' => someK (pPick [v63, v69, (.bool false)]) fun v => q' v H70 τ71) H70 τ71 fun v72 H73 τ74 => gK v20 true (fun q' => someK (pPick [v27, (.bool true), v72]) fun v => q' v H73 τ74) H73 τ74 fun v75 H76 τ77 => someK (pPick [v20, v75, (.bool false)]) fun v78 => condK v78
    (k .ret ⟨(T.set (T.set (T.set .leaf 2 (.str [])) 3 (.str [])) 4 (.bool false)), H76⟩ τ77) (binK .add t5 (.int .i64 (.ofNat 1)) fun v79 => k .normal ⟨(T.set (T.set (T.set (T.set (T.set .leaf 0 t0) 5 t5) 11 t5) 12 v79) 5 v79), H76⟩ τ77))) (k (.exit 0) ⟨.leaf, H⟩ τ)
def s_ref3_scheme (call : CallK) (N : Nat) (a0 : V) (H : Heap) (τ : Tape) (q : KV) : Ans := loopK (s_ref3_scheme_l1 call N) N ⟨(T.set (T.set .leaf 0 a0) 5 (.int .i64 (.ofNat 0))), H⟩ τ (blockK 0 (seqK (s_ref3_scheme_j0 call N q) (endK [(.t 2), (.t 3), (.t 4)] q)))
theorem s_ref3_scheme_eq (call : CallK) (N : Nat) (a0 : V) (H : Heap) (τ : Tape) (q : KV) : s_ref3_scheme call N a0 H τ q = funK call N fn_ref3_scheme [a0] H τ q := by kernel_rfl
def e_ref3_scheme (call : CallK) (N : Nat) (vs : List V) (H : Heap) (τ : Tape) (q : KV) : Ans := match vs with | [a0] => s_ref3_scheme call N a0 H τ q | _ => none
theorem e_ref3_scheme_ok : EntOk fn_ref3_scheme e_ref3_scheme := by
  intro call N vs H τ q r h
  unfold e_ref3_scheme at h
  split at h
  · rw [s_ref3_scheme_eq] at h; exact h
  · cases h
theorem e_ref3_scheme_nat : EntNat e_ref3_scheme := by
  intro c hn N vs H τ q
  unfold e_ref3_scheme
  split
  · rw [s_ref3_scheme_eq, s_ref3_scheme_eq]; exact funK_ent hn _ _ _ _ _ _
  · rfl
/-- ostiary/ostiaryref3.full -/
def fn_ref3_full : Fun := ⟨2, (.seq (.reg [iR 4 (.p .mv) [(.c (.int .i64 (.ofNat 0)))]]) (.keep [0, 1] (.seq (.reg [iR 7 (.p .mv) [(.t 0)], iR 8 (.p .nilck) [(.t 7)], iR 9 (.p (.fieldAddr 5)) [(.t 8)], ⟨none, none, (.e (.store 1)), [(.t 9), (.c (.int .i64 (.negSucc 0)))], none⟩]) (.keep [0, 1] (.seq (.seq (.reg [iR 10 (.p .mv) [(.t 0)], iR 11 (.p .nilck) [(.t 10)], iR 12 (.p (.fieldAddr 0)) [(.t 11)], iR 13 (.l (.load none)) [(.t 12)], iR 14 (.call 90) [(.t 13)]]) (.keep [0, 1, 14] (.cond (.t 14) (.seq (.reg [iR 15 (.p .mv) [(.t 0)], iR 16 (.p .mv) [(.t 1)], iR 17 (.call 164) [(.t 16)], iR 18 (.call 163) [(.t 17)], iR 19 (.call 162) [(.t 15), (.t 18)], iR 4 (.p .mv) [(.t 19)]]) (.keep [4] (.keep [4] .ret))) .skip))) (.keep [0, 1] (.seq (.seq (.reg [iR 20 (.p .mv) [(.t 1)], iR 21 (.call 136) [(.t 20), (.c (.str (bs [47, 47])))]]) (.keep [0, 1, 21] (.cond (.t 21)
    (.seq (.reg [iR 22 (.p .mv) [(.t 0)], iR 23 (.p .mv) [(.t 1)], iR 24 (.p (.strSlice true false)) [(.t 23), (.c (.int .i64 (.ofNat 2)))], iR 25 (.call 162) [(.t 22), (.t 24)], iR 4 (.p .mv) [(.t 25)]]) (.keep [4] (.keep [4] .ret))) .skip))) (.keep [0, 1] (.seq (.seq (.reg [iR 26 (.p .mv) [(.t 1)], iR 27 (.call 136) [(.t 26), (.c (.str (bs [47])))]]) (.keep [0, 1, 27] (.cond (.t 27) (.seq (.reg [iR 28 (.p .mv) [(.t 0)], iR 29 (.p .mv) [(.t 1)], iR 30 (.call 165) [(.t 28), (.t 29)]]) (.keep [] (.seq (.reg [iR 4 (.p .mv) [(.c (.int .i64 (.ofNat 0)))]]) (.keep [4] (.keep [4] .ret))))) .skip))) (.keep [0, 1] (.seq (.reg [iR 32 (.p .mv) [(.t 1)], iR 33 (.call 166) [(.t 32), (.c (.int .u8 (.ofNat 63))), (.c (.int .u8 (.ofNat 63)))], iR 31 (.p .mv) [(.t 33)], iR 34 (.p (.extract 0)) [(.t 31)], iR 35 (.p (.extract 1)) [(.t 31)], iR 5 (.p .mv) [(.t 34)], iR 6 (.p .mv) [(.t 35)]])
    (.keep [0, 1, 5] (.seq (.reg [iR 36 (.p .mv) [(.t 0)], iR 37 (.p .nilck) [(.t 36)], iR 38 (.p (.fieldAddr 6)) [(.t 37)], ⟨none, none, (.e (.store 1)), [(.t 38), (.c (.bool true))], none⟩]) (.keep [0, 1, 5] (.seq (.reg [iR 39 (.p .mv) [(.t 0)], iR 40 (.p .mv) [(.t 5)], iR 41 (.call 161) [(.t 40), (.c (.int .i64 (.ofNat 1)))], iR 42 (.e (.buildSlice 1 1 [(.str [])] [(0, 1)])) [(.t 41)], iR 43 (.p .nilck) [(.t 39)], iR 44 (.p (.fieldAddr 7)) [(.t 43)], ⟨none, none, (.e (.store 1)), [(.t 44), (.t 42)], none⟩]) (.keep [0, 1] (.seq (.reg [iR 45 (.p .mv) [(.t 0)], iR 46 (.p .mv) [(.t 1)], iR 47 (.call 167) [(.t 45), (.t 46)]]) (.keep [] (.seq (.reg [iR 4 (.p .mv) [(.c (.int .i64 (.ofNat 0)))]]) (.keep [4] (.keep [4] .ret))))))))))))))))))))), [(.t 4)]⟩
def s_ref3_full (call : CallK) (N : Nat) (a0 a1 : V) (H : Heap) (τ : Tape) (q : KV) : Ans := someK (pNilck [a0]) fun v0 => someK (pFieldAddr 5 [v0]) fun v1 => effK (eStore 1 [v1, (.int .i64 (.negSucc 0))] H τ) fun v2 H3 τ4 => someK (pNilck [a0]) fun v5 => someK (pFieldAddr 0 [v5]) fun v6 => someK (lLoad1 [v6] H3) fun v7 => call f_ref3_Special [v7] H3 τ4 fun v8 H9 τ10 => condK v8 (call f_ref3_slashes [a1] H9 τ10 fun v11 H12 τ13 => call f_ref3_over [v11] H12 τ13 fun v14 H15 τ16 => call f_ref3_far [a0, v14] H15 τ16 fun v17 H18 τ19 => q v17 H18 τ19) (call f_ref1_Begins [a1, (.str (bs [47, 47]))] H9 τ10 fun v20 H21 τ22 => condK v20 (someK (pStrSlice true false [a1, (.int .i64 (.ofNat 2))]) fun v23 => call f_ref3_far [a0, v23] H21 τ22 fun v24 H25 τ26 => q v24 H25 τ26) (call f_ref1_Begins [a1, (.str (bs [47]))] H21 τ22 fun v27 H28 τ29 => condK v27
    (call f_ref3_rest [a0, a1] H28 τ29 fun v30 H31 τ32 => q (.int .i64 (.ofNat 0)) H31 τ32) (call f_ref3_ahead [a1, (.int .u8 (.ofNat 63)), (.int .u8 (.ofNat 63))] H28 τ29 fun v33 H34 τ35 => someK (pExtract 0 [v33]) fun v36 => someK (pExtract 1 [v33]) fun v37 => someK (pNilck [a0]) fun v38 => someK (pFieldAddr 6 [v38]) fun v39 => effK (eStore 1 [v39, (.bool true)] H34 τ35) fun v40 H41 τ42 => call f_ref1_Percent [v36, (.int .i64 (.ofNat 1))] H41 τ42 fun v43 H44 τ45 => effK (eBuildSlice 1 1 [(.str [])] [(0, 1)] [v43] H44 τ45) fun v46 H47 τ48 => someK (pNilck [a0]) fun v49 => someK (pFieldAddr 7 [v49]) fun v50 => effK (eStore 1 [v50, v46] H47 τ48) fun v51 H52 τ53 => call f_ref3_query [a0, a1] H52 τ53 fun v54 H55 τ56 => q (.int .i64 (.ofNat 0)) H55 τ56)))
theorem s_ref3_full_eq (call : CallK) (N : Nat) (a0 a1 : V) (H : Heap) (τ : Tape) (q : KV) : s_ref3_full call N a0 a1 H τ q = funK call N fn_ref3_full [a0, a1] H τ q := by kernel_rfl
def e_ref3_full (call : CallK) (N : Nat) (vs : List V) (H : Heap) (τ : Tape) (q : KV) : Ans := match vs with | [a0, a1] => s_ref3_full call N a0 a1 H τ q | _ => none
theorem e_ref3_full_ok : EntOk fn_ref3_full e_ref3_full := by
  intro call N vs H τ q r h
  unfold e_ref3_full at h
  split at h
  · rw [s_ref3_full_eq] at h; exact h
  · cases h
theorem e_ref3_full_nat : EntNat e_ref3_full := by
  intro c hn N vs H τ q
  unfold e_ref3_full
  split
  · rw [s_ref3_full_eq, s_ref3_full_eq]; exact funK_ent hn _ _ _ _ _ _
  · rfl
/-- internal/stringslite.Cut -/
def fn_stringslite_Cut : Fun := ⟨2, (.seq (.reg [iR 4 (.p .mv) [(.c (.str []))], iR 5 (.p .mv) [(.c (.str []))], iR 6 (.p .mv) [(.c (.bool false))]]) (.keep [0, 1] (.seq (.seq (.reg [iR 8 (.p .mv) [(.t 0)], iR 9 (.p .mv) [(.t 1)], iR 10 (.call 168) [(.t 8), (.t 9)], iR 7 (.p .mv) [(.t 10)]]) (.keep [0, 1, 7] (.seq (.reg [iR 11 (.p .mv) [(.t 7)], iR 12 (.p (.bin .geq)) [(.t 11), (.c (.int .i64 (.ofNat 0)))]]) (.keep [0, 1, 7, 12] (.cond (.t 12) (.seq (.draw [iR 13 (.p .mv) [(.t 0)], iR 14 (.p .mv) [(.t 7)], iR 15 (.p (.strSlice false true)) [(.t 13), (.t 14)], iR 16 (.p .mv) [(.t 0)], iR 17 (.p .mv) [(.t 7)], iR 18 (.p .mv) [(.t 1)], iR 19 (.p .lenS) [(.t 18)], iR 20 (.p (.bin .add)) [(.t 17), (.t 19)], iR 21 (.p (.strSlice true false)) [(.t 16), (.t 20)], iR 4 (.p .mv) [(.t 15)], iR 5 (.p .mv) [(.t 21)], iR 6 (.p .mv) [(.c (.bool true))]]) (.keep [4, 5, 6] (.keep [4, 5, 6] .ret)))
    .skip))))) (.keep [0] (.seq (.reg [iR 22 (.p .mv) [(.t 0)], iR 4 (.p .mv) [(.t 22)], iR 5 (.p .mv) [(.c (.str []))], iR 6 (.p .mv) [(.c (.bool false))]]) (.keep [4, 5, 6] (.keep [4, 5, 6] .ret))))))), [(.t 4), (.t 5), (.t 6)]⟩
def s_stringslite_Cut (call : CallK) (N : Nat) (a0 a1 : V) (H : Heap) (τ : Tape) (q : KV) : Ans := call f_stringslite_Index [a0, a1] H τ fun v0 H1 τ2 => binK .geq v0 (.int .i64 (.ofNat 0)) fun v3 => condK v3 (someK (pStrSlice false true [a0, v0]) fun v4 => someK (pLenS [a1]) fun v5 => binK .add v0 v5 fun v6 => someK (pStrSlice true false [a0, v6]) fun v7 => q (.tup [v4, v7, (.bool true)]) H1 τ2) (q (.tup [a0, (.str []), (.bool false)]) H1 τ2)
theorem s_stringslite_Cut_eq (call : CallK) (N : Nat) (a0 a1 : V) (H : Heap) (τ : Tape) (q : KV) : s_stringslite_Cut call N a0 a1 H τ q = funK call N fn_stringslite_Cut [a0, a1] H τ q := by kernel_rfl
def e_stringslite_Cut (call : CallK) (N : Nat) (vs : List V) (H : Heap) (τ : Tape) (q : KV) : Ans := match vs with | [a0, a1] => s_stringslite_Cut call N a0 a1 H τ q | _ => none
theorem e_stringslite_Cut_ok : EntOk fn_stringslite_Cut e_stringslite_Cut := by
  intro call N vs H τ q r h
  unfold e_stringslite_Cut at h
  split at h
  · rw [s_stringslite_Cut_eq] at h; exact h
  · cases h
theorem e_stringslite_Cut_nat : EntNat e_stringslite_Cut := by
  intro c hn N vs H τ q
  unfold e_stringslite_Cut
  split
  · rw [s_stringslite_Cut_eq, s_stringslite_Cut_eq]; exact funK_ent hn _ _ _ _ _ _
  · rfl
/-- strings.CutPrefix -/
def fn_strings_CutPrefix : Fun := ⟨2, (.seq (.reg [iR 4 (.p .mv) [(.c (.str []))], iR 5 (.p .mv) [(.c (.bool false))]]) (.keep [0, 1] (.seq (.reg [iR 6 (.p .mv) [(.t 0)], iR 7 (.p .mv) [(.t 1)], iR 8 (.call 169) [(.t 6), (.t 7)], iR 9 (.p (.extract 0)) [(.t 8)], iR 10 (.p (.extract 1)) [(.t 8)], iR 4 (.p .mv) [(.t 9)], iR 5 (.p .mv) [(.t 10)]]) (.keep [4, 5] (.keep [4, 5] .ret))))), [(.t 4), (.t 5)]⟩
def s_strings_CutPrefix (call : CallK) (N : Nat) (a0 a1 : V) (H : Heap) (τ : Tape) (q : KV) : Ans := call f_stringslite_CutPrefix [a0, a1] H τ fun v0 H1 τ2 => someK (pExtract 0 [v0]) fun v3 => someK (pExtract 1 [v0]) fun v4 => q (.tup [v3, v4]) H1 τ2
theorem s_strings_CutPrefix_eq (call : CallK) (N : Nat) (a0 a1 : V) (H : Heap) (τ : Tape) (q : KV) : s_strings_CutPrefix call N a0 a1 H τ q = funK call N fn_strings_CutPrefix [a0, a1] H τ q := by kernel_rfl
def e_strings_CutPrefix (call : CallK) (N : Nat) (vs : List V) (H : Heap) (τ : Tape) (q : KV) : Ans := match vs with | [a0, a1] => s_strings_CutPrefix call N a0 a1 H τ q | _ => none
theorem e_strings_CutPrefix_ok : EntOk fn_strings_CutPrefix e_strings_CutPrefix := by
  intro call N vs H τ q r h
  unfold e_strings_CutPrefix at h
  split at h
  · rw [s_strings_CutPrefix_eq] at h; exact h
  · cases h
theorem e_strings_CutPrefix_nat : EntNat e_strings_CutPrefix := by
  intro c hn N vs H τ q
  unfold e_strings_CutPrefix
  split
  · rw [s_strings_CutPrefix_eq, s_strings_CutPrefix_eq]; exact funK_ent hn _ _ _ _ _ _
  · rfl
/-- ostiary/headers.told -/
def fn_headers_told : Fun := ⟨1, (.seq (.reg [iR 2 (.p .mv) [(.c (.int .i64 (.ofNat 0)))], iR 3 (.p .mv) [(.c (.bool false))]]) (.keep [0] (.seq (.seq (.reg [iR 4 (.p .mv) [(.t 0)], iR 5 (.p (.bin .eql)) [(.t 4), (.c (.str []))]]) (.keep [0, 5] (.cond (.t 5) (.seq (.reg [iR 2 (.p .mv) [(.c (.int .i64 (.negSucc 0)))], iR 3 (.p .mv) [(.c (.bool true))]]) (.keep [2, 3] (.keep [2, 3] .ret))) .skip))) (.keep [0] (.seq (.reg [iR 6 (.p .mv) [(.t 0)], iR 7 (.call 61) [(.t 6)], iR 8 (.p (.extract 0)) [(.t 7)], iR 9 (.p (.extract 1)) [(.t 7)], iR 2 (.p .mv) [(.t 8)], iR 3 (.p .mv) [(.t 9)]]) (.keep [2, 3] (.keep [2, 3] .ret))))))), [(.t 2), (.t 3)]⟩
def s_headers_told (call : CallK) (N : Nat) (a0 : V) (H : Heap) (τ : Tape) (q : KV) : Ans := binK .eql a0 (.str []) fun v0 => condK v0 (q (.tup [(.int .i64 (.negSucc 0)), (.bool true)]) H τ) (call f_infra_Int [a0] H τ fun v1 H2 τ3 => someK (pExtract 0 [v1]) fun v4 => someK (pExtract 1 [v1]) fun v5 => q (.tup [v4, v5]) H2 τ3)
theorem s_headers_told_eq (call : CallK) (N : Nat) (a0 : V) (H : Heap) (τ : Tape) (q : KV) : s_headers_told call N a0 H τ q = funK call N fn_headers_told [a0] H τ q := by kernel_rfl
def e_headers_told (call : CallK) (N : Nat) (vs : List V) (H : Heap) (τ : Tape) (q : KV) : Ans := match vs with | [a0] => s_headers_told call N a0 H τ q | _ => none
theorem e_headers_told_ok : EntOk fn_headers_told e_headers_told := by
  intro call N vs H τ q r h
  unfold e_headers_told at h
  split at h
  · rw [s_headers_told_eq] at h; exact h
  · cases h
theorem e_headers_told_nat : EntNat e_headers_told := by
  intro c hn N vs H τ q
  unfold e_headers_told
  split
  · rw [s_headers_told_eq, s_headers_told_eq]; exact funK_ent hn _ _ _ _ _ _
  · rfl
/-- ostiary/ostiaryref1.Begins -/
def fn_ref1_Begins : Fun := ⟨2, (.seq (.reg [iR 4 (.p .mv) [(.c (.bool false))]]) (.keep [0, 1] (.seq (.reg [iR 5 (.p .mv) [(.t 0)], iR 6 (.p .lenS) [(.t 5)], iR 7 (.p .mv) [(.t 1)], iR 8 (.p .lenS) [(.t 7)], iR 9 (.p (.bin .geq)) [(.t 6), (.t 8)], iR 10 (.p .mv) [(.t 9)], iG 11 10 true (.p .mv) [(.t 0)], iG 12 10 true (.p .mv) [(.t 1)], iG 13 10 true (.p .lenS) [(.t 12)], iG 14 10 true (.p (.strSlice false true)) [(.t 11), (.t 13)], iG 15 10 true (.p .mv) [(.t 1)], iG 16 10 true (.p (.bin .eql)) [(.t 14), (.t 15)], iR 17 (.p .pick) [(.t 10), (.t 16), (.c (.bool false))], iR 4 (.p .mv) [(.t 17)]]) (.keep [4] (.keep [4] .ret))))), [(.t 4)]⟩
def s_ref1_Begins (call : CallK) (N : Nat) (a0 a1 : V) (H : Heap) (τ : Tape) (q : KV) : Ans := someK (pLenS [a0]) fun v0 => someK (pLenS [a1]) fun v1 => binK .geq v0 v1 fun v2 => gK v2 true (fun q' => q' a0 H τ) H τ fun v3 H4 τ5 => gK v2 true (fun q' => q' a1 H4 τ5) H4 τ5 fun v6 H7 τ8 => gK v2 true (fun q' => someK (pLenS [v6]) fun v => q' v H7 τ8) H7 τ8 fun v9 H10 τ11 => gK v2 true (fun q' => someK (pStrSlice false true [v3, v9]) fun v => q' v H10 τ11) H10 τ11 fun v12 H13 τ14 => gK v2 true (fun q' => q' a1 H13 τ14) H13 τ14 fun v15 H16 τ17 => gK v2 true (fun q' => binK .eql v12 v15 fun v => q' v H16 τ17) H16 τ17 fun v18 H19 τ20 => someK (pPick [v2, v18, (.bool false)]) fun v21 => q v21 H19 τ20
theorem s_ref1_Begins_eq (call : CallK) (N : Nat) (a0 a1 : V) (H : Heap) (τ : Tape) (q : KV) : s_ref1_Begins call N a0 a1 H τ q = funK call N fn_ref1_Begins [a0, a1] H τ q := by kernel_rfl
def e_ref1_Begins (call : CallK) (N : Nat) (vs : List V) (H : Heap) (τ : Tape) (q : KV) : Ans := match vs with | [a0, a1] => s_ref1_Begins call N a0 a1 H τ q | _ => none
theorem e_ref1_Begins_ok : EntOk fn_ref1_Begins e_ref1_Begins := by
  intro call N vs H τ q r h
  unfold e_ref1_Begins at h
  split at h
  · rw [s_ref1_Begins_eq] at h; exact h
  · cases h
theorem e_ref1_Begins_nat : EntNat e_ref1_Begins := by
  intro c hn N vs H τ q
  unfold e_ref1_Begins
  split
  · rw [s_ref1_Begins_eq, s_ref1_Begins_eq]; exact funK_ent hn _ _ _ _ _ _
  · rfl
/-- ostiary/ostiaryref1.Int -/
def fn_ref1_Int : Fun := ⟨1, (.seq (.reg [iR 2 (.p .mv) [(.c (.int .i64 (.ofNat 0)))], iR 3 (.p .mv) [(.c (.bool false))]]) (.keep [0] (.seq (.reg [iR 4 (.p .mv) [(.c (.int .i64 (.ofNat 0)))]]) (.keep [0, 4] (.seq (.seq (.reg [iR 5 (.p .mv) [(.c (.int .i64 (.ofNat 0)))]]) (.keep [0, 4, 5] (.block 0 (.loop (.keep [0, 4, 5] (.seq (.seq (.reg [iR 7 (.p .mv) [(.t 5)], iR 8 (.p .mv) [(.t 0)], iR 9 (.p .lenS) [(.t 8)], iR 10 (.p (.bin .lss)) [(.t 7), (.t 9)]]) (.keep [0, 4, 5, 10] (.cond (.t 10) .skip (.keep [0, 4] (.exit 0))))) (.keep [0, 4, 5] (.seq (.block 1 (.seq (.seq (.reg [iR 13 (.p .mv) [(.t 0)], iR 14 (.p .mv) [(.t 5)], iR 15 (.p .strIndex) [(.t 13), (.t 14)], iR 16 (.call 115) [(.t 15)], iR 17 (.p (.un .not)) [(.t 16)]]) (.keep [0, 4, 5, 17] (.cond (.t 17) (.seq (.reg [iR 2 (.p .mv) [(.c (.int .i64 (.ofNat 0)))], iR 3 (.p .mv) [(.c (.bool false))]])
    (.keep [2, 3] (.keep [2, 3] .ret))) .skip))) (.keep [0, 4, 5] (.seq (.reg [iR 18 (.p .mv) [(.t 0)], iR 19 (.p .mv) [(.t 5)], iR 20 (.p .strIndex) [(.t 18), (.t 19)], iR 21 (.p (.bin .sub)) [(.t 20), (.c (.int .u8 (.ofNat 48)))], iR 22 (.p (.toInt .i64)) [(.t 21)], iR 6 (.p .mv) [(.t 22)]]) (.keep [0, 4, 5, 6] (.seq (.seq (.reg [iR 23 (.p .mv) [(.t 4)], iR 24 (.p .mv) [(.t 6)], iR 25 (.p (.bin .sub)) [(.c (.int .i64 (.ofNat 9223372036854775807))), (.t 24)], iR 26 (.p (.bin .quo)) [(.t 25), (.c (.int .i64 (.ofNat 10)))], iR 27 (.p (.bin .gtr)) [(.t 23), (.t 26)]]) (.keep [0, 4, 5, 6, 27] (.cond (.t 27) (.seq (.reg [iR 4 (.p .mv) [(.c (.int .i64 (.ofNat 9223372036854775807)))]]) (.keep [0, 4, 5] (.keep [0, 4, 5] (.exit 1)))) .skip))) (.keep [0, 4, 5, 6] (.reg [iR 28 (.p .mv) [(.t 4)], iR 29 (.p (.bin .mul)) [(.t 28), (.c (.int .i64 (.ofNat 10)))], iR 30 (.p .mv) [(.t 6)],
    iR 31 (.p (.bin .add)) [(.t 29), (.t 30)], iR 4 (.p .mv) [(.t 31)]])))))))) (.keep [0, 4, 5] (.reg [iR 11 (.p .mv) [(.t 5)], iR 12 (.p (.bin .add)) [(.t 11), (.c (.int .i64 (.ofNat 1)))], iR 5 (.p .mv) [(.t 12)]])))))))))) (.keep [0, 4] (.seq (.reg [iR 32 (.p .mv) [(.t 4)], iR 33 (.p .mv) [(.t 0)], iR 34 (.p .lenS) [(.t 33)], iR 35 (.p (.bin .gtr)) [(.t 34), (.c (.int .i64 (.ofNat 0)))], iR 2 (.p .mv) [(.t 32)], iR 3 (.p .mv) [(.t 35)]]) (.keep [2, 3] (.keep [2, 3] .ret))))))))), [(.t 2), (.t 3)]⟩
def s_ref1_Int_j0 (call : CallK) (N : Nat) (q : KV) (st : St) (τ : Tape) : Ans := match st with
  | ⟨fr, H⟩ => getK fr 0 fun t0 => getK fr 4 fun t4 => someK (pLenS [t0]) fun v0 => binK .gtr v0 (.int .i64 (.ofNat 0)) fun v1 => q (.tup [t4, v1]) H τ
def s_ref1_Int_j2 (call : CallK) (N : Nat) (k : KC) (st : St) (τ : Tape) : Ans := match st with
  | ⟨fr, H⟩ => getK fr 0 fun t0 => getK fr 4 fun t4 => getK fr 5 fun t5 => binK .add t5 (.int .i64 (.ofNat 1)) fun v4 => k .normal ⟨(T.set (T.set (T.set (T.set (T.set (T.set .leaf 0 t0) 4 t4) 5 t5) 11 t5) 12 v4) 5 v4), H⟩ τ
def s_ref1_Int_l1 (call : CallK) (N : Nat) (st : St) (τ : Tape) (k : KC) : Ans := match st with
  | ⟨fr, H⟩ => getK fr 0 fun t0 => getK fr 4 fun t4 => getK fr 5 fun t5 => someK (pLenS [t0]) fun v2 => binK .lss t5 v2 fun v3 => condK v3 (someK (pStrIndex [t0, t5]) fun v5 => call f_ref1_Digit [v5] H τ fun v6 H7 τ8 => unK .not v6 fun v9 => condK v9 (k .ret ⟨(T.set (T.set .leaf 2 (.int .i64 (.ofNat 0))) 3 (.bool false)), H7⟩ τ8) (someK (pStrIndex [t0, t5]) fun v10 => binK .sub v10 (.int .u8 (.ofNat 48)) fun v11 => toIntK .i64 v11 fun v12 => binK .sub (.int .i64 (.ofNat 9223372036854775807)) v12 fun v13 => binK .quo v13 (.int .i64 (.ofNat 10)) fun v14 => binK .gtr t4 v14 fun v15 => condK v15 (s_ref1_Int_j2 call N k ⟨(T.set (T.set (T.set .leaf 0 t0) 4 (.int .i64 (.ofNat 9223372036854775807))) 5 t5), H7⟩ τ8) (binK .mul t4 (.int .i64 (.ofNat 10)) fun v16 => binK .add v16 v12 fun v17 =>
    s_ref1_Int_j2 call N k ⟨(T.set (T.set (T.set (T.set (T.set (T.set (T.set (T.set (T.set .leaf 0 t0) 4 t4) 5 t5) 6 v12) 28 t4) 29 v16) 30 v12) 31 v17) 4 v17), H7⟩ τ8))) (k (.exit 0) ⟨(T.set (T.set .leaf 0 t0) 4 t4), H⟩ τ)
def s_ref1_Int (call : CallK) (N : Nat) (a0 : V) (H : Heap) (τ : Tape) (q : KV) : Ans := loopK (s_ref1_Int_l1 call N) N ⟨(T.set (T.set (T.set .leaf 0 a0) 4 (.int .i64 (.ofNat 0))) 5 (.int .i64 (.ofNat 0))), H⟩ τ (blockK 0 (seqK (s_ref1_Int_j0 call N q) (endK [(.t 2), (.t 3)] q)))
theorem s_ref1_Int_eq (call : CallK) (N : Nat) (a0 : V) (H : Heap) (τ : Tape) (q : KV) : s_ref1_Int call N a0 H τ q = funK call N fn_ref1_Int [a0] H τ q := by kernel_rfl
def e_ref1_Int (call : CallK) (N : Nat) (vs : List V) (H : Heap) (τ : Tape) (q : KV) : Ans := match vs with | [a0] => s_ref1_Int call N a0 H τ q | _ => none
theorem e_ref1_Int_ok : EntOk fn_ref1_Int e_ref1_Int := by
  intro call N vs H τ q r h
  unfold e_ref1_Int at h
  split at h
  · rw [s_ref1_Int_eq] at h; exact h
  · cases h
theorem e_ref1_Int_nat : EntNat e_ref1_Int := by
  intro c hn N vs H τ q
  unfold e_ref1_Int
  split
  · rw [s_ref1_Int_eq, s_ref1_Int_eq]; exact funK_ent hn _ _ _ _ _ _
  · rfl
/-- strings.trimLeftByte -/
def fn_strings_trimLeftByte : Fun := ⟨2, (.seq (.reg [iR 4 (.p .mv) [(.c (.str []))]]) (.keep [0, 1] (.seq (.block 0 (.loop (.keep [0, 1] (.seq (.seq (.reg [iR 5 (.p .mv) [(.t 0)], iR 6 (.p .lenS) [(.t 5)], iR 7 (.p (.bin .gtr)) [(.t 6), (.c (.int .i64 (.ofNat 0)))], iR 8 (.p .mv) [(.t 7)], iG 9 8 true (.p .mv) [(.t 0)], iG 10 8 true (.p .strIndex) [(.t 9), (.c (.int .i64 (.ofNat 0)))], iG 11 8 true (.p .mv) [(.t 1)], iG 12 8 true (.p (.bin .eql)) [(.t 10), (.t 11)], iR 13 (.p .pick) [(.t 8), (.t 12), (.c (.bool false))]]) (.keep [0, 1, 13] (.cond (.t 13) .skip (.keep [0] (.exit 0))))) (.keep [0, 1] (.block 1 (.reg [iR 14 (.p .mv) [(.t 0)], iR 15 (.p (.strSlice true false)) [(.t 14), (.c (.int .i64 (.ofNat 1)))], iR 0 (.p .mv) [(.t 15)]]))))))) (.keep [0] (.seq (.reg [iR 16 (.p .mv) [(.t 0)], iR 4 (.p .mv) [(.t 16)]]) (.keep [4] (.keep [4] .ret))))))), [(.t 4)]⟩
def s_strings_trimLeftByte_j0 (call : CallK) (N : Nat) (q : KV) (st : St) (τ : Tape) : Ans := match st with
  | ⟨fr, H⟩ => getK fr 0 fun t0 => q t0 H τ
def s_strings_trimLeftByte_l1 (call : CallK) (N : Nat) (st : St) (τ : Tape) (k : KC) : Ans := match st with
  | ⟨fr, H⟩ => getK fr 0 fun t0 => getK fr 1 fun t1 => someK (pLenS [t0]) fun v0 => binK .gtr v0 (.int .i64 (.ofNat 0)) fun v1 => gK v1 true (fun q' => q' t0 H τ) H τ fun v2 H3 τ4 => gK v1 true (fun q' => someK (pStrIndex [v2, (.int .i64 (.ofNat 0))]) fun v => q' v H3 τ4) H3 τ4 fun v5 H6 τ7 => gK v1 true (fun q' => q' t1 H6 τ7) H6 τ7 fun v8 H9 τ10 => gK v1 true (fun q' => binK .eql v5 v8 fun v => q' v H9 τ10) H9 τ10 fun v11 H12 τ13 => someK (pPick [v1, v11, (.bool false)]) fun v14 => condK v14 (someK (pStrSlice true false [t0, (.int .i64 (.ofNat 1))]) fun v15 => k .normal ⟨(T.set (T.set (T.set (T.set (T.set .leaf 0 t0) 1 t1) 14 t0) 15 v15) 0 v15), H12⟩ τ13) (k (.exit 0) ⟨(T.set .leaf 0 t0), H12⟩ τ13)
def s_strings_trimLeftByte (call : CallK) (N : Nat) (a0 a1 : V) (H : Heap) (τ : Tape) (q : KV) : Ans := loopK (s_strings_trimLeftByte_l1 call N) N ⟨(T.set (T.set .leaf 0 a0) 1 a1), H⟩ τ (blockK 0 (seqK (s_strings_trimLeftByte_j0 call N q) (endK [(.t 4)] q)))
theorem s_strings_trimLeftByte_eq (call : CallK) (N : Nat) (a0 a1 : V) (H : Heap) (τ : Tape) (q : KV) : s_strings_trimLeftByte call N a0 a1 H τ q = funK call N fn_strings_trimLeftByte [a0, a1] H τ q := by kernel_rfl
def e_strings_trimLeftByte (call : CallK) (N : Nat) (vs : List V) (H : Heap) (τ : Tape) (q : KV) : Ans := match vs with | [a0, a1] => s_strings_trimLeftByte call N a0 a1 H τ q | _ => none
theorem e_strings_trimLeftByte_ok : EntOk fn_strings_trimLeftByte e_strings_trimLeftByte := by
  intro call N vs H τ q r h
  unfold e_strings_trimLeftByte at h
  split at h
  · rw [s_strings_trimLeftByte_eq] at h; exact h
  · cases h
theorem e_strings_trimLeftByte_nat : EntNat e_strings_trimLeftByte := by
  intro c hn N vs H τ q
  unfold e_strings_trimLeftByte
  split
  · rw [s_strings_trimLeftByte_eq, s_strings_trimLeftByte_eq]; exact funK_ent hn _ _ _ _ _ _
  · rfl
/-- strings.trimRightByte -/
def fn_strings_trimRightByte : Fun := ⟨2, (.seq (.reg [iR 4 (.p .mv) [(.c (.str []))]]) (.keep [0, 1] (.seq (.block 0 (.loop (.keep [0, 1] (.seq (.seq (.reg [iR 5 (.p .mv) [(.t 0)], iR 6 (.p .lenS) [(.t 5)], iR 7 (.p (.bin .gtr)) [(.t 6), (.c (.int .i64 (.ofNat 0)))], iR 8 (.p .mv) [(.t 7)], iG 9 8 true (.p .mv) [(.t 0)], iG 10 8 true (.p .mv) [(.t 0)], iG 11 8 true (.p .lenS) [(.t 10)], iG 12 8 true (.p (.bin .sub)) [(.t 11), (.c (.int .i64 (.ofNat 1)))], iG 13 8 true (.p .strIndex) [(.t 9), (.t 12)], iG 14 8 true (.p .mv) [(.t 1)], iG 15 8 true (.p (.bin .eql)) [(.t 13), (.t 14)], iR 16 (.p .pick) [(.t 8), (.t 15), (.c (.bool false))]]) (.keep [0, 1, 16] (.cond (.t 16) .skip (.keep [0] (.exit 0))))) (.keep [0, 1] (.block 1 (.reg [iR 17 (.p .mv) [(.t 0)], iR 18 (.p .mv) [(.t 0)], iR 19 (.p .lenS) [(.t 18)], iR 20 (.p (.bin .sub)) [(.t 19), (.c (.int .i64 (.ofNat 1)))],
    iR 21 (.p (.strSlice false true)) [(.t 17), (.t 20)], iR 0 (.p .mv) [(.t 21)]]))))))) (.keep [0] (.seq (.reg [iR 22 (.p .mv) [(.t 0)], iR 4 (.p .mv) [(.t 22)]]) (.keep [4] (.keep [4] .ret))))))), [(.t 4)]⟩
def s_strings_trimRightByte_j0 (call : CallK) (N : Nat) (q : KV) (st : St) (τ : Tape) : Ans := match st with
  | ⟨fr, H⟩ => getK fr 0 fun t0 => q t0 H τ
def s_strings_trimRightByte_l1 (call : CallK) (N : Nat) (st : St) (τ : Tape) (k : KC) : Ans := match st with
  | ⟨fr, H⟩ => getK fr 0 fun t0 => getK fr 1 fun t1 => someK (pLenS [t0]) fun v0 => binK .gtr v0 (.int .i64 (.ofNat 0)) fun v1 => gK v1 true (fun q' => q' t0 H τ) H τ fun v2 H3 τ4 => gK v1 true (fun q' => q' t0 H3 τ4) H3 τ4 fun v5 H6 τ7 => gK v1 true (fun q' => someK (pLenS [v5]) fun v => q' v H6 τ7) H6 τ7 fun v8 H9 τ10 => gK v1 true (fun q' => binK .sub v8 (.int .i64 (.ofNat 1)) fun v => q' v H9 τ10) H9 τ10 fun v11 H12 τ13 => gK v1 true (fun q' => someK (pStrIndex [v2, v11]) fun v => q' v H12 τ13) H12 τ13 fun v14 H15 τ16 => gK v1 true (fun q' => q' t1 H15 τ16) H15 τ16 fun v17 H18 τ19 => gK v1 true (fun q' => binK .eql v14 v17 fun v => q' v H18 τ19) H18 τ19 fun v20 H21 τ22 => someK (pPick [v1, v20, (.bool false)]) fun v23 => condK v23 (someK (pLenS [t0]) fun v24 => binK .sub v24 (.int .i64 (.ofNat 1)) fun v25 => someK (pStrSlice false true [t0, v25]) fun v26 =>
    k .normal ⟨(T.set (T.set (T.set (T.set (T.set (T.set (T.set (T.set .leaf 0 t0) 1 t1) 17 t0) 18 t0) 19 v24) 20 v25) 21 v26) 0 v26), H21⟩ τ22) (k (.exit 0) ⟨(T.set .leaf 0 t0), H21⟩ τ22)
def s_strings_trimRightByte (call : CallK) (N : Nat) (a0 a1 : V) (H : Heap) (τ : Tape) (q : KV) : Ans := loopK (s_strings_trimRightByte_l1 call N) N ⟨(T.set (T.set .leaf 0 a0) 1 a1), H⟩ τ (blockK 0 (seqK (s_strings_trimRightByte_j0 call N q) (endK [(.t 4)] q)))
theorem s_strings_trimRightByte_eq (call : CallK) (N : Nat) (a0 a1 : V) (H : Heap) (τ : Tape) (q : KV) : s_strings_trimRightByte call N a0 a1 H τ q = funK call N fn_strings_trimRightByte [a0, a1] H τ q := by kernel_rfl
def e_strings_trimRightByte (call : CallK) (N : Nat) (vs : List V) (H : Heap) (τ : Tape) (q : KV) : Ans := match vs with | [a0, a1] => s_strings_trimRightByte call N a0 a1 H τ q | _ => none
theorem e_strings_trimRightByte_ok : EntOk fn_strings_trimRightByte e_strings_trimRightByte := by
  intro call N vs H τ q r h
  unfold e_strings_trimRightByte at h
  split at h
  · rw [s_strings_trimRightByte_eq] at h; exact h
  · cases h
theorem e_strings_trimRightByte_nat : EntNat e_strings_trimRightByte := by
  intro c hn N vs H τ q
  unfold e_strings_trimRightByte
  split
  · rw [s_strings_trimRightByte_eq, s_strings_trimRightByte_eq]; exact funK_ent hn _ _ _ _ _ _
  · rfl
/-- strings.makeASCIISet -/
def fn_strings_makeASCIISet : Fun := ⟨1, (.seq (.reg [iR 2 (.e (.alloc (repl 256 [(.bool false)]))) [], iR 3 (.p .mv) [(.c (.bool false))]]) (.keep [0, 2] (.seq (.seq (.reg [iR 4 (.p .mv) [(.c (.int .i64 (.ofNat 0)))]]) (.keep [0, 2, 4] (.block 0 (.loop (.keep [0, 2, 4] (.seq (.seq (.reg [iR 6 (.p .mv) [(.t 4)], iR 7 (.p .mv) [(.t 0)], iR 8 (.p .lenS) [(.t 7)], iR 9 (.p (.bin .lss)) [(.t 6), (.t 8)]]) (.keep [0, 2, 4, 9] (.cond (.t 9) .skip (.keep [2] (.exit 0))))) (.keep [0, 2, 4] (.seq (.block 1 (.seq (.reg [iR 12 (.p .mv) [(.t 0)], iR 13 (.p .mv) [(.t 4)], iR 14 (.p .strIndex) [(.t 12), (.t 13)], iR 5 (.p .mv) [(.t 14)]]) (.keep [0, 2, 4, 5] (.seq (.seq (.reg [iR 15 (.p .mv) [(.t 5)], iR 16 (.p (.bin .geq)) [(.t 15), (.c (.int .u8 (.ofNat 128)))]]) (.keep [0, 2, 4, 5, 16] (.cond (.t 16) (.seq (.reg [iR 17 (.l (.load (some 256))) [(.t 2)],
    ⟨none, none, (.e (.store 256)), [(.t 2), (.t 17)], none⟩, iR 3 (.p .mv) [(.c (.bool false))]]) (.keep [2, 3] (.keep [2, 3] .ret))) .skip))) (.keep [0, 2, 4, 5] (.reg [iR 18 (.p .mv) [(.t 5)], iR 19 (.p (.arrIdx 256 1)) [(.t 2), (.t 18)], ⟨none, none, (.e (.store 1)), [(.t 19), (.c (.bool true))], none⟩])))))) (.keep [0, 2, 4] (.reg [iR 10 (.p .mv) [(.t 4)], iR 11 (.p (.bin .add)) [(.t 10), (.c (.int .i64 (.ofNat 1)))], iR 4 (.p .mv) [(.t 11)]])))))))))) (.keep [2] (.seq (.reg [iR 20 (.l (.load (some 256))) [(.t 2)], ⟨none, none, (.e (.store 256)), [(.t 2), (.t 20)], none⟩, iR 3 (.p .mv) [(.c (.bool true))]]) (.keep [2, 3] (.keep [2, 3] .ret))))))), [(.cell 2 (some 256)), (.t 3)]⟩
def s_strings_makeASCIISet_j0 (call : CallK) (N : Nat) (q : KV) (st : St) (τ : Tape) : Ans := match st with
  | ⟨fr, H⟩ => getK fr 2 fun t2 => someK (lLoadN 256 [t2] H) fun v3 => effK (eStore 256 [t2, v3] H τ) fun v4 H5 τ6 => someK (results ⟨(T.set (T.set .leaf 2 t2) 3 (.bool true)), H5⟩ [(.cell 2 (some 256)), (.t 3)]) fun v => q v H5 τ6
def s_strings_makeASCIISet_l1 (call : CallK) (N : Nat) (st : St) (τ : Tape) (k : KC) : Ans := match st with
  | ⟨fr, H⟩ => getK fr 0 fun t0 => getK fr 2 fun t2 => getK fr 4 fun t4 => someK (pLenS [t0]) fun v7 => binK .lss t4 v7 fun v8 => condK v8 (someK (pStrIndex [t0, t4]) fun v9 => binK .geq v9 (.int .u8 (.ofNat 128)) fun v10 => condK v10 (someK (lLoadN 256 [t2] H) fun v11 => effK (eStore 256 [t2, v11] H τ) fun v12 H13 τ14 => k .ret ⟨(T.set (T.set .leaf 2 t2) 3 (.bool false)), H13⟩ τ14) (someK (pArrIdx 256 1 [t2, v9]) fun v15 => effK (eStore 1 [v15, (.bool true)] H τ) fun v16 H17 τ18 => binK .add t4 (.int .i64 (.ofNat 1)) fun v19 => k .normal ⟨(T.set (T.set (T.set (T.set (T.set (T.set .leaf 0 t0) 2 t2) 4 t4) 10 t4) 11 v19) 4 v19), H17⟩ τ18)) (k (.exit 0) ⟨(T.set .leaf 2 t2), H⟩ τ)
def s_strings_makeASCIISet (call : CallK) (N : Nat) (a0 : V) (H : Heap) (τ : Tape) (q : KV) : Ans := effK (eAlloc (repl 256 [(.bool false)]) [] H τ) fun v0 H1 τ2 => loopK (s_strings_makeASCIISet_l1 call N) N ⟨(T.set (T.set (T.set .leaf 0 a0) 2 v0) 4 (.int .i64 (.ofNat 0))), H1⟩ τ2 (blockK 0 (seqK (s_strings_makeASCIISet_j0 call N q) (endK [(.cell 2 (some 256)), (.t 3)] q)))
theorem s_strings_makeASCIISet_eq (call : CallK) (N : Nat) (a0 : V) (H : Heap) (τ : Tape) (q : KV) : s_strings_makeASCIISet call N a0 H τ q = funK call N fn_strings_makeASCIISet [a0] H τ q := by kernel_rfl
def e_strings_makeASCIISet (call : CallK) (N : Nat) (vs : List V) (H : Heap) (τ : Tape) (q : KV) : Ans := match vs with | [a0] => s_strings_makeASCIISet call N a0 H τ q | _ => none
theorem e_strings_makeASCIISet_ok : EntOk fn_strings_makeASCIISet e_strings_makeASCIISet := by
  intro call N vs H τ q r h
  unfold e_strings_makeASCIISet at h
  split at h
  · rw [s_strings_makeASCIISet_eq] at h; exact h
  · cases h
theorem e_strings_makeASCIISet_nat : EntNat e_strings_makeASCIISet := by
  intro c hn N vs H τ q
  unfold e_strings_makeASCIISet
  split
  · rw [s_strings_makeASCIISet_eq, s_strings_makeASCIISet_eq]; exact funK_ent hn _ _ _ _ _ _
  · rfl
/-- strings.trimLeftASCII -/
def fn_strings_trimLeftASCII : Fun := ⟨2, (.seq (.reg [iR 4 (.p .mv) [(.c (.str []))]]) (.keep [0, 1] (.seq (.block 0 (.loop (.keep [0, 1] (.seq (.seq (.reg [iR 5 (.p .mv) [(.t 0)], iR 6 (.p .lenS) [(.t 5)], iR 7 (.p (.bin .gtr)) [(.t 6), (.c (.int .i64 (.ofNat 0)))]]) (.keep [0, 1, 7] (.cond (.t 7) .skip (.keep [0] (.exit 0))))) (.keep [0, 1] (.block 1 (.seq (.seq (.reg [iR 8 (.p .mv) [(.t 1)], iR 9 (.p .mv) [(.t 0)], iR 10 (.p .strIndex) [(.t 9), (.c (.int .i64 (.ofNat 0)))], iR 11 (.call 171) [(.t 8), (.t 10)], iR 12 (.p (.un .not)) [(.t 11)]]) (.keep [0, 1, 12] (.cond (.t 12) (.keep [0] (.exit 0)) .skip))) (.keep [0, 1] (.reg [iR 13 (.p .mv) [(.t 0)], iR 14 (.p (.strSlice true false)) [(.t 13), (.c (.int .i64 (.ofNat 1)))], iR 0 (.p .mv) [(.t 14)]]))))))))) (.keep [0] (.seq (.reg [iR 15 (.p .mv) [(.t 0)], iR 4 (.p .mv) [(.t 15)]]) (.keep [4] (.keep [4] .ret))))))), [(.t 4)]⟩
def s_strings_trimLeftASCII_j0 (call : CallK) (N : Nat) (q : KV) (st : St) (τ : Tape) : Ans := match st with
  | ⟨fr, H⟩ => getK fr 0 fun t0 => q t0 H τ
def s_strings_trimLeftASCII_l1 (call : CallK) (N : Nat) (st : St) (τ : Tape) (k : KC) : Ans := match st with
  | ⟨fr, H⟩ => getK fr 0 fun t0 => getK fr 1 fun t1 => someK (pLenS [t0]) fun v0 => binK .gtr v0 (.int .i64 (.ofNat 0)) fun v1 => condK v1 (someK (pStrIndex [t0, (.int .i64 (.ofNat 0))]) fun v2 => call f_asciiSet_contains [t1, v2] H τ fun v3 H4 τ5 => unK .not v3 fun v6 => condK v6 (k (.exit 0) ⟨(T.set .leaf 0 t0), H4⟩ τ5) (someK (pStrSlice true false [t0, (.int .i64 (.ofNat 1))]) fun v7 => k .normal ⟨(T.set (T.set (T.set (T.set (T.set .leaf 0 t0) 1 t1) 13 t0) 14 v7) 0 v7), H4⟩ τ5)) (k (.exit 0) ⟨(T.set .leaf 0 t0), H⟩ τ)
def s_strings_trimLeftASCII (call : CallK) (N : Nat) (a0 a1 : V) (H : Heap) (τ : Tape) (q : KV) : Ans := loopK (s_strings_trimLeftASCII_l1 call N) N ⟨(T.set (T.set .leaf 0 a0) 1 a1), H⟩ τ (blockK 0 (seqK (s_strings_trimLeftASCII_j0 call N q) (endK [(.t 4)] q)))
theorem s_strings_trimLeftASCII_eq (call : CallK) (N : Nat) (a0 a1 : V) (H : Heap) (τ : Tape) (q : KV) : s_strings_trimLeftASCII call N a0 a1 H τ q = funK call N fn_strings_trimLeftASCII [a0, a1] H τ q := by kernel_rfl
def e_strings_trimLeftASCII (call : CallK) (N : Nat) (vs : List V) (H : Heap) (τ : Tape) (q : KV) : Ans := match vs with | [a0, a1] => s_strings_trimLeftASCII call N a0 a1 H τ q | _ => none
theorem e_strings_trimLeftASCII_ok : EntOk fn_strings_trimLeftASCII e_strings_trimLeftASCII := by
  intro call N vs H τ q r h
  unfold e_strings_trimLeftASCII at h
  split at h
  · rw [s_strings_trimLeftASCII_eq] at h; exact h
  · cases h
theorem e_strings_trimLeftASCII_nat : EntNat e_strings_trimLeftASCII := by
  intro c hn N vs H τ q
  unfold e_strings_trimLeftASCII
  split
  · rw [s_strings_trimLeftASCII_eq, s_strings_trimLeftASCII_eq]; exact funK_ent hn _ _ _ _ _ _
  · rfl
/-- strings.trimRightASCII -/
def fn_strings_trimRightASCII : Fun := ⟨2, (.seq (.reg [iR 4 (.p .mv) [(.c (.str []))]]) (.keep [0, 1] (.seq (.block 0 (.loop (.keep [0, 1] (.seq (.seq (.reg [iR 5 (.p .mv) [(.t 0)], iR 6 (.p .lenS) [(.t 5)], iR 7 (.p (.bin .gtr)) [(.t 6), (.c (.int .i64 (.ofNat 0)))]]) (.keep [0, 1, 7] (.cond (.t 7) .skip (.keep [0] (.exit 0))))) (.keep [0, 1] (.block 1 (.seq (.seq (.reg [iR 8 (.p .mv) [(.t 1)], iR 9 (.p .mv) [(.t 0)], iR 10 (.p .mv) [(.t 0)], iR 11 (.p .lenS) [(.t 10)], iR 12 (.p (.bin .sub)) [(.t 11), (.c (.int .i64 (.ofNat 1)))], iR 13 (.p .strIndex) [(.t 9), (.t 12)], iR 14 (.call 171) [(.t 8), (.t 13)], iR 15 (.p (.un .not)) [(.t 14)]]) (.keep [0, 1, 15] (.cond (.t 15) (.keep [0] (.exit 0)) .skip))) (.keep [0, 1] (.reg [iR 16 (.p .mv) [(.t 0)], iR 17 (.p .mv) [(.t 0)], iR 18 (.p .lenS) [(.t 17)], iR 19 (.p (.bin .sub)) [(.t 18), (.c (.int .i64 (.ofNat 1)))],
    iR 20 (.p (.strSlice false true)) [(.t 16), (.t 19)], iR 0 (.p .mv) [(.t 20)]]))))))))) (.keep [0] (.seq (.reg [iR 21 (.p .mv) [(.t 0)], iR 4 (.p .mv) [(.t 21)]]) (.keep [4] (.keep [4] .ret))))))), [(.t 4)]⟩
def s_strings_trimRightASCII_j0 (call : CallK) (N : Nat) (q : KV) (st : St) (τ : Tape) : Ans := match st with
  | ⟨fr, H⟩ => getK fr 0 fun t0 => q t0 H τ
def s_strings_trimRightASCII_l1 (call : CallK) (N : Nat) (st : St) (τ : Tape) (k : KC) : Ans := match st with
  | ⟨fr, H⟩ => getK fr 0 fun t0 => getK fr 1 fun t1 => someK (pLenS [t0]) fun v0 => binK .gtr v0 (.int .i64 (.ofNat 0)) fun v1 => condK v1 (someK (pLenS [t0]) fun v2 => binK .sub v2 (.int .i64 (.ofNat 1)) fun v3 => someK (pStrIndex [t0, v3]) fun v4 => call f_asciiSet_contains [t1, v4] H τ fun v5 H6 τ7 => unK .not v5 fun v8 => condK v8 (k (.exit 0) ⟨(T.set .leaf 0 t0), H6⟩ τ7) (someK (pLenS [t0]) fun v9 => binK .sub v9 (.int .i64 (.ofNat 1)) fun v10 => someK (pStrSlice false true [t0, v10]) fun v11 => k .normal ⟨(T.set (T.set (T.set (T.set (T.set (T.set (T.set (T.set .leaf 0 t0) 1 t1) 16 t0) 17 t0) 18 v9) 19 v10) 20 v11) 0 v11), H6⟩ τ7)) (k (.exit 0) ⟨(T.set .leaf 0 t0), H⟩ τ)
def s_strings_trimRightASCII (call : CallK) (N : Nat) (a0 a1 : V) (H : Heap) (τ : Tape) (q : KV) : Ans := loopK (s_strings_trimRightASCII_l1 call N) N ⟨(T.set (T.set .leaf 0 a0) 1 a1), H⟩ τ (blockK 0 (seqK (s_strings_trimRightASCII_j0 call N q) (endK [(.t 4)] q)))
theorem s_strings_trimRightASCII_eq (call : CallK) (N : Nat) (a0 a1 : V) (H : Heap) (τ : Tape) (q : KV) : s_strings_trimRightASCII call N a0 a1 H τ q = funK call N fn_strings_trimRightASCII [a0, a1] H τ q := by kernel_rfl
def e_strings_trimRightASCII (call : CallK) (N : Nat) (vs : List V) (H : Heap) (τ : Tape) (q : KV) : Ans := match vs with | [a0, a1] => s_strings_trimRightASCII call N a0 a1 H τ q | _ => none
theorem e_strings_trimRightASCII_ok : EntOk fn_strings_trimRightASCII e_strings_trimRightASCII := by
  intro call N vs H τ q r h
  unfold e_strings_trimRightASCII at h
  split at h
  · rw [s_strings_trimRightASCII_eq] at h; exact h
  · cases h
theorem e_strings_trimRightASCII_nat : EntNat e_strings_trimRightASCII := by
  intro c hn N vs H τ q
  unfold e_strings_trimRightASCII
  split
  · rw [s_strings_trimRightASCII_eq, s_strings_trimRightASCII_eq]; exact funK_ent hn _ _ _ _ _ _
  · rfl
/-- strings.trimLeftUnicode -/
def fn_strings_trimLeftUnicode : Fun := ⟨2, (.seq (.reg [iR 4 (.p .mv) [(.c (.str []))]]) (.keep [0, 1] (.seq (.block 0 (.loop (.keep [0, 1] (.seq (.seq (.reg [iR 7 (.p .mv) [(.t 0)], iR 8 (.p .lenS) [(.t 7)], iR 9 (.p (.bin .gtr)) [(.t 8), (.c (.int .i64 (.ofNat 0)))]]) (.keep [0, 1, 9] (.cond (.t 9) .skip (.keep [0] (.exit 0))))) (.keep [0, 1] (.block 1 (.seq (.reg [iR 11 (.p .mv) [(.t 0)], iR 12 (.call 172) [(.t 11)], iR 10 (.p .mv) [(.t 12)], iR 13 (.p (.extract 0)) [(.t 10)], iR 14 (.p (.extract 1)) [(.t 10)], iR 5 (.p .mv) [(.t 13)], iR 6 (.p .mv) [(.t 14)]]) (.keep [0, 1, 5, 6] (.seq (.seq (.reg [iR 15 (.p .mv) [(.t 1)], iR 16 (.p .mv) [(.t 5)], iR 17 (.call 173) [(.t 15), (.t 16)], iR 18 (.p (.un .not)) [(.t 17)]]) (.keep [0, 1, 6, 18] (.cond (.t 18) (.keep [0] (.exit 0)) .skip))) (.keep [0, 1, 6] (.reg [iR 19 (.p .mv) [(.t 0)], iR 20 (.p .mv) [(.t 6)],
    iR 21 (.p (.strSlice true false)) [(.t 19), (.t 20)], iR 0 (.p .mv) [(.t 21)]]))))))))))) (.keep [0] (.seq (.reg [iR 22 (.p .mv) [(.t 0)], iR 4 (.p .mv) [(.t 22)]]) (.keep [4] (.keep [4] .ret))))))), [(.t 4)]⟩
def s_strings_trimLeftUnicode_j0 (call : CallK) (N : Nat) (q : KV) (st : St) (τ : Tape) : Ans := match st with
  | ⟨fr, H⟩ => getK fr 0 fun t0 => q t0 H τ
def s_strings_trimLeftUnicode_l1 (call : CallK) (N : Nat) (st : St) (τ : Tape) (k : KC) : Ans := match st with
  | ⟨fr, H⟩ => getK fr 0 fun t0 => getK fr 1 fun t1 => someK (pLenS [t0]) fun v0 => binK .gtr v0 (.int .i64 (.ofNat 0)) fun v1 => condK v1 (call f_utf8_DecodeRuneInString [t0] H τ fun v2 H3 τ4 => someK (pExtract 0 [v2]) fun v5 => someK (pExtract 1 [v2]) fun v6 => call f_strings_ContainsRune [t1, v5] H3 τ4 fun v7 H8 τ9 => unK .not v7 fun v10 => condK v10 (k (.exit 0) ⟨(T.set .leaf 0 t0), H8⟩ τ9) (someK (pStrSlice true false [t0, v6]) fun v11 => k .normal ⟨(T.set (T.set (T.set (T.set (T.set (T.set (T.set .leaf 0 t0) 1 t1) 6 v6) 19 t0) 20 v6) 21 v11) 0 v11), H8⟩ τ9)) (k (.exit 0) ⟨(T.set .leaf 0 t0), H⟩ τ)
def s_strings_trimLeftUnicode (call : CallK) (N : Nat) (a0 a1 : V) (H : Heap) (τ : Tape) (q : KV) : Ans := loopK (s_strings_trimLeftUnicode_l1 call N) N ⟨(T.set (T.set .leaf 0 a0) 1 a1), H⟩ τ (blockK 0 (seqK (s_strings_trimLeftUnicode_j0 call N q) (endK [(.t 4)] q)))
theorem s_strings_trimLeftUnicode_eq (call : CallK) (N : Nat) (a0 a1 : V) (H : Heap) (τ : Tape) (q : KV) : s_strings_trimLeftUnicode call N a0 a1 H τ q = funK call N fn_strings_trimLeftUnicode [a0, a1] H τ q := by kernel_rfl
def e_strings_trimLeftUnicode (call : CallK) (N : Nat) (vs : List V) (H : Heap) (τ : Tape) (q : KV) : Ans := match vs with | [a0, a1] => s_strings_trimLeftUnicode call N a0 a1 H τ q | _ => none
theorem e_strings_trimLeftUnicode_ok : EntOk fn_strings_trimLeftUnicode e_strings_trimLeftUnicode := by
  intro call N vs H τ q r h
  unfold e_strings_trimLeftUnicode at h
  split at h
  · rw [s_strings_trimLeftUnicode_eq] at h; exact h
  · cases h
theorem e_strings_trimLeftUnicode_nat : EntNat e_strings_trimLeftUnicode := by
  intro c hn N vs H τ q
  unfold e_strings_trimLeftUnicode
  split
  · rw [s_strings_trimLeftUnicode_eq, s_strings_trimLeftUnicode_eq]; exact funK_ent hn _ _ _ _ _ _
  · rfl
/-- strings.trimRightUnicode -/
def fn_strings_trimRightUnicode : Fun := ⟨2, (.seq (.reg [iR 4 (.p .mv) [(.c (.str []))]]) (.keep [0, 1] (.seq (.block 0 (.loop (.keep [0, 1] (.seq (.seq (.reg [iR 7 (.p .mv) [(.t 0)], iR 8 (.p .lenS) [(.t 7)], iR 9 (.p (.bin .gtr)) [(.t 8), (.c (.int .i64 (.ofNat 0)))]]) (.keep [0, 1, 9] (.cond (.t 9) .skip (.keep [0] (.exit 0))))) (.keep [0, 1] (.block 1 (.seq (.reg [iR 10 (.p .mv) [(.t 0)], iR 11 (.p .mv) [(.t 0)], iR 12 (.p .lenS) [(.t 11)], iR 13 (.p (.bin .sub)) [(.t 12), (.c (.int .i64 (.ofNat 1)))], iR 14 (.p .strIndex) [(.t 10), (.t 13)], iR 15 (.p (.toInt .i32)) [(.t 14)], iR 5 (.p .mv) [(.t 15)], iR 6 (.p .mv) [(.c (.int .i64 (.ofNat 1)))]]) (.keep [0, 1, 5, 6] (.seq (.seq (.reg [iR 16 (.p .mv) [(.t 5)], iR 17 (.p (.bin .geq)) [(.t 16), (.c (.int .i32 (.ofNat 128)))]]) (.keep [0, 1, 5, 6, 17] (.cond (.t 17) (.reg [iR 19 (.p .mv) [(.t 0)], iR 20 (.call 174) [(.t 19)],
    iR 18 (.p .mv) [(.t 20)], iR 21 (.p (.extract 0)) [(.t 18)], iR 22 (.p (.extract 1)) [(.t 18)], iR 5 (.p .mv) [(.t 21)], iR 6 (.p .mv) [(.t 22)]]) .skip))) (.keep [0, 1, 5, 6] (.seq (.seq (.reg [iR 23 (.p .mv) [(.t 1)], iR 24 (.p .mv) [(.t 5)], iR 25 (.call 173) [(.t 23), (.t 24)], iR 26 (.p (.un .not)) [(.t 25)]]) (.keep [0, 1, 6, 26] (.cond (.t 26) (.keep [0] (.exit 0)) .skip))) (.keep [0, 1, 6] (.reg [iR 27 (.p .mv) [(.t 0)], iR 28 (.p .mv) [(.t 0)], iR 29 (.p .lenS) [(.t 28)], iR 30 (.p .mv) [(.t 6)], iR 31 (.p (.bin .sub)) [(.t 29), (.t 30)], iR 32 (.p (.strSlice false true)) [(.t 27), (.t 31)], iR 0 (.p .mv) [(.t 32)]]))))))))))))) (.keep [0] (.seq (.reg [iR 33 (.p .mv) [(.t 0)], iR 4 (.p .mv) [(.t 33)]]) (.keep [4] (.keep [4] .ret))))))), [(.t 4)]⟩
def s_strings_trimRightUnicode_j0 (call : CallK) (N : Nat) (q : KV) (st : St) (τ : Tape) : Ans := match st with
  | ⟨fr, H⟩ => getK fr 0 fun t0 => q t0 H τ
def s_strings_trimRightUnicode_j2 (call : CallK) (N : Nat) (k : KC) (st : St) (τ : Tape) : Ans := match st with
  | ⟨fr, H⟩ => getK fr 0 fun t0 => getK fr 1 fun t1 => getK fr 5 fun t5 => getK fr 6 fun t6 => call f_strings_ContainsRune [t1, t5] H τ fun v7 H8 τ9 => unK .not v7 fun v10 => condK v10 (k (.exit 0) ⟨(T.set .leaf 0 t0), H8⟩ τ9) (someK (pLenS [t0]) fun v11 => binK .sub v11 t6 fun v12 => someK (pStrSlice false true [t0, v12]) fun v13 => k .normal ⟨(T.set (T.set (T.set (T.set (T.set (T.set (T.set (T.set (T.set (T.set .leaf 0 t0) 1 t1) 6 t6) 27 t0) 28 t0) 29 v11) 30 t6) 31 v12) 32 v13) 0 v13), H8⟩ τ9)
def s_strings_trimRightUnicode_l1 (call : CallK) (N : Nat) (st : St) (τ : Tape) (k : KC) : Ans := match st with
  | ⟨fr, H⟩ => getK fr 0 fun t0 => getK fr 1 fun t1 => someK (pLenS [t0]) fun v0 => binK .gtr v0 (.int .i64 (.ofNat 0)) fun v1 => condK v1 (someK (pLenS [t0]) fun v2 => binK .sub v2 (.int .i64 (.ofNat 1)) fun v3 => someK (pStrIndex [t0, v3]) fun v4 => toIntK .i32 v4 fun v5 => binK .geq v5 (.int .i32 (.ofNat 128)) fun v6 => condK v6 (call f_utf8_DecodeLastRuneInString [t0] H τ fun v14 H15 τ16 => someK (pExtract 0 [v14]) fun v17 => someK (pExtract 1 [v14]) fun v18 => s_strings_trimRightUnicode_j2 call N k ⟨(T.set (T.set (T.set (T.set (T.set (T.set (T.set (T.set (T.set (T.set (T.set (T.set .leaf 0 t0) 1 t1) 5 v5) 6 (.int .i64 (.ofNat 1))) 17 v6) 19 t0) 20 v14) 18 v14) 21 v17) 22 v18) 5 v17) 6 v18), H15⟩ τ16) (s_strings_trimRightUnicode_j2 call N k ⟨(T.set (T.set (T.set (T.set (T.set .leaf 0 t0) 1 t1) 5 v5) 6 (.int .i64 (.ofNat 1))) 17 v6), H⟩ τ)) (k (.exit 0) ⟨(T.set .leaf 0 t0), H⟩ τ)
def s_strings_trimRightUnicode (call : CallK) (N : Nat) (a0 a1 : V) (H : Heap) (τ : Tape) (q : KV) : Ans := loopK (s_strings_trimRightUnicode_l1 call N) N ⟨(T.set (T.set .leaf 0 a0) 1 a1), H⟩ τ (blockK 0 (seqK (s_strings_trimRightUnicode_j0 call N q) (endK [(.t 4)] q)))
theorem s_strings_trimRightUnicode_eq (call : CallK) (N : Nat) (a0 a1 : V) (H : Heap) (τ : Tape) (q : KV) : s_strings_trimRightUnicode call N a0 a1 H τ q = funK call N fn_strings_trimRightUnicode [a0, a1] H τ q := by kernel_rfl
def e_strings_trimRightUnicode (call : CallK) (N : Nat) (vs : List V) (H : Heap) (τ : Tape) (q : KV) : Ans := match vs with | [a0, a1] => s_strings_trimRightUnicode call N a0 a1 H τ q | _ => none
theorem e_strings_trimRightUnicode_ok : EntOk fn_strings_trimRightUnicode e_strings_trimRightUnicode := by
  intro call N vs H τ q r h
  unfold e_strings_trimRightUnicode at h
  split at h
  · rw [s_strings_trimRightUnicode_eq] at h; exact h
  · cases h
theorem e_strings_trimRightUnicode_nat : EntNat e_strings_trimRightUnicode := by
  intro c hn N vs H τ q
  unfold e_strings_trimRightUnicode
  split
  · rw [s_strings_trimRightUnicode_eq, s_strings_trimRightUnicode_eq]; exact funK_ent hn _ _ _ _ _ _
  · rfl
/-- internal/strconv.Itoa -/
def fn_strconv_Itoa_n146 : Fun := ⟨1, (.seq (.reg [iR 2 (.p .mv) [(.c (.str []))]]) (.keep [0] (.seq (.reg [iR 3 (.p .mv) [(.t 0)], iR 4 (.call 176) [(.t 3), (.c (.int .i64 (.ofNat 10)))], iR 2 (.p .mv) [(.t 4)]]) (.keep [2] (.keep [2] .ret))))), [(.t 2)]⟩
def s_strconv_Itoa_n146 (call : CallK) (N : Nat) (a0 : V) (H : Heap) (τ : Tape) (q : KV) : Ans := call f_strconv_FormatInt [a0, (.int .i64 (.ofNat 10))] H τ fun v0 H1 τ2 => q v0 H1 τ2
theorem s_strconv_Itoa_n146_eq (call : CallK) (N : Nat) (a0 : V) (H : Heap) (τ : Tape) (q : KV) : s_strconv_Itoa_n146 call N a0 H τ q = funK call N fn_strconv_Itoa_n146 [a0] H τ q := by kernel_rfl
def e_strconv_Itoa_n146 (call : CallK) (N : Nat) (vs : List V) (H : Heap) (τ : Tape) (q : KV) : Ans := match vs with | [a0] => s_strconv_Itoa_n146 call N a0 H τ q | _ => none
theorem e_strconv_Itoa_n146_ok : EntOk fn_strconv_Itoa_n146 e_strconv_Itoa_n146 := by
  intro call N vs H τ q r h
  unfold e_strconv_Itoa_n146 at h
  split at h
  · rw [s_strconv_Itoa_n146_eq] at h; exact h
  · cases h
theorem e_strconv_Itoa_n146_nat : EntNat e_strconv_Itoa_n146 := by
  intro c hn N vs H τ q
  unfold e_strconv_Itoa_n146
  split
  · rw [s_strconv_Itoa_n146_eq, s_strconv_Itoa_n146_eq]; exact funK_ent hn _ _ _ _ _ _
  · rfl
/-- math/bits.Len64 -/
def fn_bits_Len64 : Fun := ⟨1, (.seq (.reg [iR 2 (.p .mv) [(.c (.int .i64 (.ofNat 0)))]]) (.keep [0, 2] (.seq (.seq (.reg [iR 3 (.p .mv) [(.t 0)], iR 4 (.p (.bin .geq)) [(.t 3), (.c (.int .u64 (.ofNat 4294967296)))]]) (.keep [0, 2, 4] (.cond (.t 4) (.seq (.reg [iR 5 (.p .mv) [(.t 0)], iR 6 (.p (.bin .shr)) [(.t 5), (.c (.int .u64 (.ofNat 32)))], iR 0 (.p .mv) [(.t 6)]]) (.keep [0] (.reg [iR 2 (.p .mv) [(.c (.int .i64 (.ofNat 32)))]]))) .skip))) (.keep [0, 2] (.seq (.seq (.reg [iR 7 (.p .mv) [(.t 0)], iR 8 (.p (.bin .geq)) [(.t 7), (.c (.int .u64 (.ofNat 65536)))]]) (.keep [0, 2, 8] (.cond (.t 8) (.seq (.reg [iR 9 (.p .mv) [(.t 0)], iR 10 (.p (.bin .shr)) [(.t 9), (.c (.int .u64 (.ofNat 16)))], iR 0 (.p .mv) [(.t 10)]]) (.keep [0, 2] (.reg [iR 11 (.p .mv) [(.t 2)], iR 12 (.p (.bin .add)) [(.t 11), (.c (.int .i64 (.ofNat 16)))], iR 2 (.p .mv) [(.t 12)]]))) .skip)))
    (.keep [0, 2] (.seq (.seq (.reg [iR 13 (.p .mv) [(.t 0)], iR 14 (.p (.bin .geq)) [(.t 13), (.c (.int .u64 (.ofNat 256)))]]) (.keep [0, 2, 14] (.cond (.t 14) (.seq (.reg [iR 15 (.p .mv) [(.t 0)], iR 16 (.p (.bin .shr)) [(.t 15), (.c (.int .u64 (.ofNat 8)))], iR 0 (.p .mv) [(.t 16)]]) (.keep [0, 2] (.reg [iR 17 (.p .mv) [(.t 2)], iR 18 (.p (.bin .add)) [(.t 17), (.c (.int .i64 (.ofNat 8)))], iR 2 (.p .mv) [(.t 18)]]))) .skip))) (.keep [0, 2] (.seq (.reg [iR 19 (.p .mv) [(.t 2)], iR 20 (.p .mv) [(.t 0)], iR 21 (.p (.toInt .u8)) [(.t 20)],
    iR 22 (.p .strIndex) [(.c (.str (bs [0, 1, 2, 2, 3, 3, 3, 3, 4, 4, 4, 4, 4, 4, 4, 4, 5, 5, 5, 5, 5, 5, 5, 5, 5, 5, 5, 5, 5, 5, 5, 5, 6, 6, 6, 6, 6, 6, 6, 6, 6, 6, 6, 6, 6, 6, 6, 6, 6, 6, 6, 6, 6, 6, 6, 6, 6, 6, 6, 6, 6, 6, 6, 6, 7, 7, 7, 7, 7, 7, 7, 7, 7, 7, 7, 7, 7, 7, 7, 7, 7, 7, 7, 7, 7, 7, 7, 7, 7, 7, 7, 7, 7, 7, 7, 7, 7, 7, 7, 7, 7, 7, 7, 7, 7, 7, 7, 7, 7, 7, 7, 7, 7, 7, 7, 7, 7, 7, 7, 7, 7, 7, 7, 7, 7, 7, 7, 7, 8, 8, 8, 8, 8, 8, 8, 8, 8, 8, 8, 8, 8, 8, 8, 8, 8, 8, 8, 8, 8, 8, 8, 8, 8, 8, 8, 8, 8, 8, 8, 8, 8, 8, 8, 8, 8, 8, 8, 8, 8, 8, 8, 8, 8, 8, 8, 8, 8, 8, 8, 8, 8, 8, 8, 8, 8, 8, 8, 8, 8, 8, 8, 8, 8, 8, 8, 8, 8, 8, 8, 8, 8, 8, 8, 8, 8, 8, 8, 8, 8, 8, 8, 8, 8, 8, 8, 8, 8, 8, 8, 8, 8, 8, 8, 8, 8, 8, 8, 8, 8, 8, 8, 8, 8, 8, 8, 8, 8, 8, 8, 8, 8, 8, 8, 8, 8, 8, 8, 8, 8, 8, 8, 8, 8, 8, 8, 8]))), (.t 21)], iR 23 (.p (.toInt .i64)) [(.t 22)],
    iR 24 (.p (.bin .add)) [(.t 19), (.t 23)], iR 2 (.p .mv) [(.t 24)]]) (.keep [2] (.keep [2] .ret))))))))))), [(.t 2)]⟩
def s_bits_Len64_j2 (call : CallK) (N : Nat) (q : KV) (st : St) (τ : Tape) : Ans := match st with
  | ⟨fr, H⟩ => getK fr 0 fun t0 => getK fr 2 fun t2 => toIntK .u8 t0 fun v3 => someK (pStrIndex [(.str (bs [0, 1, 2, 2, 3, 3, 3, 3, 4, 4, 4, 4, 4, 4, 4, 4, 5, 5, 5, 5, 5, 5, 5, 5, 5, 5, 5, 5, 5, 5, 5, 5, 6, 6, 6, 6, 6, 6, 6, 6, 6, 6, 6, 6, 6, 6, 6, 6, 6, 6, 6, 6, 6, 6, 6, 6, 6, 6, 6, 6, 6, 6, 6, 6, 7, 7, 7, 7, 7, 7, 7, 7, 7, 7, 7, 7, 7, 7, 7, 7, 7, 7, 7, 7, 7, 7, 7, 7, 7, 7, 7, 7, 7, 7, 7, 7, 7, 7, 7, 7, 7, 7, 7, 7, 7, 7, 7, 7, 7, 7, 7, 7, 7, 7, 7, 7, 7, 7, 7, 7, 7, 7, 7, 7, 7, 7, 7, 7, 8, 8, 8, 8, 8, 8, 8, 8, 8, 8, 8, 8, 8, 8, 8, 8, 8, 8, 8, 8, 8, 8, 8, 8, 8, 8, 8, 8, 8, 8, 8, 8, 8, 8, 8, 8, 8, 8, 8, 8, 8, 8, 8, 8, 8, 8, 8, 8, 8, 8, 8, 8, 8, 8, 8, 8, 8, 8, 8, 8, 8, 8, 8, 8, 8, 8, 8, 8, 8, 8, 8, 8, 8, 8, 8, 8, 8, 8, 8, 8, 8, 8, 8, 8, 8, 8, 8, 8, 8, 8, 8, 8, 8, 8, 8, 8, 8, 8, 8, 8, 8, 8, 8, 8, 8, 8, 8, 8, 8, 8, 8, 8, 8, 8, 8, 8, 8, 8, 8, 8, 8, 8, 8, 8, 8, 8, 8, 8])), v3]) fun v4 =>
    toIntK .i64 v4 fun v5 => binK .add t2 v5 fun v6 => q v6 H τ
def s_bits_Len64_j1 (call : CallK) (N : Nat) (q : KV) (st : St) (τ : Tape) : Ans := match st with
  | ⟨fr, H⟩ => getK fr 0 fun t0 => getK fr 2 fun t2 => binK .geq t0 (.int .u64 (.ofNat 256)) fun v2 => condK v2 (binK .shr t0 (.int .u64 (.ofNat 8)) fun v7 => binK .add t2 (.int .i64 (.ofNat 8)) fun v8 => s_bits_Len64_j2 call N q ⟨(T.set (T.set (T.set (T.set (T.set .leaf 0 v7) 2 t2) 17 t2) 18 v8) 2 v8), H⟩ τ) (s_bits_Len64_j2 call N q ⟨(T.set (T.set (T.set .leaf 0 t0) 2 t2) 14 v2), H⟩ τ)
def s_bits_Len64_j0 (call : CallK) (N : Nat) (q : KV) (st : St) (τ : Tape) : Ans := match st with
  | ⟨fr, H⟩ => getK fr 0 fun t0 => getK fr 2 fun t2 => binK .geq t0 (.int .u64 (.ofNat 65536)) fun v1 => condK v1 (binK .shr t0 (.int .u64 (.ofNat 16)) fun v9 => binK .add t2 (.int .i64 (.ofNat 16)) fun v10 => s_bits_Len64_j1 call N q ⟨(T.set (T.set (T.set (T.set (T.set .leaf 0 v9) 2 t2) 11 t2) 12 v10) 2 v10), H⟩ τ) (s_bits_Len64_j1 call N q ⟨(T.set (T.set (T.set .leaf 0 t0) 2 t2) 8 v1), H⟩ τ)
def s_bits_Len64 (call : CallK) (N : Nat) (a0 : V) (H : Heap) (τ : Tape) (q : KV) : Ans := binK .geq a0 (.int .u64 (.ofNat 4294967296)) fun v0 => condK v0 (binK .shr a0 (.int .u64 (.ofNat 32)) fun v11 => s_bits_Len64_j0 call N q ⟨(T.set (T.set .leaf 0 v11) 2 (.int .i64 (.ofNat 32))), H⟩ τ) (s_bits_Len64_j0 call N q ⟨(T.set (T.set (T.set .leaf 0 a0) 2 (.int .i64 (.ofNat 0))) 4 v0), H⟩ τ)
theorem s_bits_Len64_eq (call : CallK) (N : Nat) (a0 : V) (H : Heap) (τ : Tape) (q : KV) : s_bits_Len64 call N a0 H τ q = funK call N fn_bits_Len64 [a0] H τ q := by kernel_rfl
def e_bits_Len64 (call : CallK) (N : Nat) (vs : List V) (H : Heap) (τ : Tape) (q : KV) : Ans := match vs with | [a0] => s_bits_Len64 call N a0 H τ q | _ => none
theorem e_bits_Len64_ok : EntOk fn_bits_Len64 e_bits_Len64 := by
  intro call N vs H τ q r h
  unfold e_bits_Len64 at h
  split at h
  · rw [s_bits_Len64_eq] at h; exact h
  · cases h
theorem e_bits_Len64_nat : EntNat e_bits_Len64 := by
  intro c hn N vs H τ q
  unfold e_bits_Len64
  split
  · rw [s_bits_Len64_eq, s_bits_Len64_eq]; exact funK_ent hn _ _ _ _ _ _
  · rfl
/-- ostiary/ostiaryref1.Percent -/
def fn_ref1_Percent : Fun := ⟨2, (.seq (.reg [iR 4 (.p .mv) [(.c (.str []))]]) (.keep [0, 1] (.seq (.reg [iR 5 (.p .mv) [(.c (.str []))]]) (.keep [0, 1, 5] (.seq (.seq (.reg [iR 6 (.p .mv) [(.c (.int .i64 (.ofNat 0)))]]) (.keep [0, 1, 5, 6] (.block 0 (.loop (.keep [0, 1, 5, 6] (.seq (.seq (.reg [iR 7 (.p .mv) [(.t 6)], iR 8 (.p .mv) [(.t 0)], iR 9 (.p .lenS) [(.t 8)], iR 10 (.p (.bin .lss)) [(.t 7), (.t 9)]]) (.keep [0, 1, 5, 6, 10] (.cond (.t 10) .skip (.keep [5] (.exit 0))))) (.keep [0, 1, 5, 6] (.seq (.block 1 (.seq (.reg [iR 13 (.p .mv) [(.t 0)], iR 14 (.p .mv) [(.t 6)], iR 15 (.p .strIndex) [(.t 13), (.t 14)], iR 16 (.p .mv) [(.t 1)], iR 17 (.call 185) [(.t 15), (.t 16)]]) (.keep [0, 1, 5, 6, 17] (.cond (.t 17) (.reg [iR 18 (.p .mv) [(.t 5)], iR 19 (.p .mv) [(.t 0)], iR 20 (.p .mv) [(.t 6)], iR 21 (.p .strIndex) [(.t 19), (.t 20)], iR 22 (.call 186) [(.t 21)],
    iR 23 (.p (.bin .add)) [(.t 18), (.t 22)], iR 5 (.p .mv) [(.t 23)]]) (.reg [iR 24 (.p .mv) [(.t 5)], iR 25 (.p .mv) [(.t 0)], iR 26 (.p .mv) [(.t 6)], iR 27 (.p .mv) [(.t 6)], iR 28 (.p (.bin .add)) [(.t 27), (.c (.int .i64 (.ofNat 1)))], iR 29 (.p (.strSlice true true)) [(.t 25), (.t 26), (.t 28)], iR 30 (.p (.bin .add)) [(.t 24), (.t 29)], iR 5 (.p .mv) [(.t 30)]]))))) (.keep [0, 1, 5, 6] (.reg [iR 11 (.p .mv) [(.t 6)], iR 12 (.p (.bin .add)) [(.t 11), (.c (.int .i64 (.ofNat 1)))], iR 6 (.p .mv) [(.t 12)]])))))))))) (.keep [5] (.seq (.reg [iR 31 (.p .mv) [(.t 5)], iR 4 (.p .mv) [(.t 31)]]) (.keep [4] (.keep [4] .ret))))))))), [(.t 4)]⟩
def s_ref1_Percent_j0 (call : CallK) (N : Nat) (q : KV) (st : St) (τ : Tape) : Ans := match st with
  | ⟨fr, H⟩ => getK fr 5 fun t5 => q t5 H τ
def s_ref1_Percent_j2 (call : CallK) (N : Nat) (k : KC) (st : St) (τ : Tape) : Ans := match st with
  | ⟨fr, H⟩ => getK fr 0 fun t0 => getK fr 1 fun t1 => getK fr 5 fun t5 => getK fr 6 fun t6 => binK .add t6 (.int .i64 (.ofNat 1)) fun v2 => k .normal ⟨(T.set (T.set (T.set (T.set (T.set (T.set (T.set .leaf 0 t0) 1 t1) 5 t5) 6 t6) 11 t6) 12 v2) 6 v2), H⟩ τ
def s_ref1_Percent_l1 (call : CallK) (N : Nat) (st : St) (τ : Tape) (k : KC) : Ans := match st with
  | ⟨fr, H⟩ => getK fr 0 fun t0 => getK fr 1 fun t1 => getK fr 5 fun t5 => getK fr 6 fun t6 => someK (pLenS [t0]) fun v0 => binK .lss t6 v0 fun v1 => condK v1 (someK (pStrIndex [t0, t6]) fun v3 => call f_ref1_In [v3, t1] H τ fun v4 H5 τ6 => condK v4 (someK (pStrIndex [t0, t6]) fun v7 => call f_ref1_Escape [v7] H5 τ6 fun v8 H9 τ10 => binK .add t5 v8 fun v11 => s_ref1_Percent_j2 call N k ⟨(T.set (T.set (T.set (T.set (T.set (T.set (T.set (T.set (T.set (T.set (T.set (T.set .leaf 0 t0) 1 t1) 5 t5) 6 t6) 17 v4) 18 t5) 19 t0) 20 t6) 21 v7) 22 v8) 23 v11) 5 v11), H9⟩ τ10) (binK .add t6 (.int .i64 (.ofNat 1)) fun v12 => someK (pStrSlice true true [t0, t6, v12]) fun v13 => binK .add t5 v13 fun v14 =>
    s_ref1_Percent_j2 call N k ⟨(T.set (T.set (T.set (T.set (T.set (T.set (T.set (T.set (T.set (T.set (T.set (T.set (T.set .leaf 0 t0) 1 t1) 5 t5) 6 t6) 17 v4) 24 t5) 25 t0) 26 t6) 27 t6) 28 v12) 29 v13) 30 v14) 5 v14), H5⟩ τ6)) (k (.exit 0) ⟨(T.set .leaf 5 t5), H⟩ τ)
def s_ref1_Percent (call : CallK) (N : Nat) (a0 a1 : V) (H : Heap) (τ : Tape) (q : KV) : Ans := loopK (s_ref1_Percent_l1 call N) N ⟨(T.set (T.set (T.set (T.set .leaf 0 a0) 1 a1) 5 (.str [])) 6 (.int .i64 (.ofNat 0))), H⟩ τ (blockK 0 (seqK (s_ref1_Percent_j0 call N q) (endK [(.t 4)] q)))
theorem s_ref1_Percent_eq (call : CallK) (N : Nat) (a0 a1 : V) (H : Heap) (τ : Tape) (q : KV) : s_ref1_Percent call N a0 a1 H τ q = funK call N fn_ref1_Percent [a0, a1] H τ q := by kernel_rfl
def e_ref1_Percent (call : CallK) (N : Nat) (vs : List V) (H : Heap) (τ : Tape) (q : KV) : Ans := match vs with | [a0, a1] => s_ref1_Percent call N a0 a1 H τ q | _ => none
theorem e_ref1_Percent_ok : EntOk fn_ref1_Percent e_ref1_Percent := by
  intro call N vs H τ q r h
  unfold e_ref1_Percent at h
  split at h
  · rw [s_ref1_Percent_eq] at h; exact h
  · cases h
theorem e_ref1_Percent_nat : EntNat e_ref1_Percent := by
  intro c hn N vs H τ q
  unfold e_ref1_Percent
  split
  · rw [s_ref1_Percent_eq, s_ref1_Percent_eq]; exact funK_ent hn _ _ _ _ _ _
  · rfl
/-- ostiary/ostiaryref3.far -/
def fn_ref3_far : Fun := ⟨2, (.seq (.reg [iR 4 (.p .mv) [(.c (.int .i64 (.ofNat 0)))]]) (.keep [0, 1] (.seq (.reg [iR 9 (.p .mv) [(.t 1)], iR 10 (.call 166) [(.t 9), (.c (.int .u8 (.ofNat 47))), (.c (.int .u8 (.ofNat 63)))], iR 8 (.p .mv) [(.t 10)], iR 11 (.p (.extract 0)) [(.t 8)], iR 12 (.p (.extract 1)) [(.t 8)], iR 5 (.p .mv) [(.t 11)], iR 6 (.p .mv) [(.t 12)]]) (.keep [0, 5, 6] (.seq (.reg [iR 13 (.p .mv) [(.t 0)], iR 14 (.p .mv) [(.t 5)], iR 15 (.call 187) [(.t 13), (.t 14)], iR 7 (.p .mv) [(.t 15)]]) (.keep [0, 6, 7] (.seq (.seq (.reg [iR 16 (.p .mv) [(.t 7)], iR 17 (.p (.bin .neq)) [(.t 16), (.c (.int .i64 (.ofNat 0)))]]) (.keep [0, 6, 7, 17] (.cond (.t 17) (.seq (.reg [iR 18 (.p .mv) [(.t 7)], iR 4 (.p .mv) [(.t 18)]]) (.keep [4] (.keep [4] .ret))) .skip))) (.keep [0, 6] (.seq (.reg [iR 19 (.p .mv) [(.t 0)], iR 20 (.p .mv) [(.t 6)], iR 21 (.call 165) [(.t 19), (.t 20)]])
    (.keep [] (.seq (.reg [iR 4 (.p .mv) [(.c (.int .i64 (.ofNat 0)))]]) (.keep [4] (.keep [4] .ret))))))))))))), [(.t 4)]⟩
def s_ref3_far (call : CallK) (N : Nat) (a0 a1 : V) (H : Heap) (τ : Tape) (q : KV) : Ans := call f_ref3_ahead [a1, (.int .u8 (.ofNat 47)), (.int .u8 (.ofNat 63))] H τ fun v0 H1 τ2 => someK (pExtract 0 [v0]) fun v3 => someK (pExtract 1 [v0]) fun v4 => call f_ref3_authority [a0, v3] H1 τ2 fun v5 H6 τ7 => binK .neq v5 (.int .i64 (.ofNat 0)) fun v8 => condK v8 (q v5 H6 τ7) (call f_ref3_rest [a0, v4] H6 τ7 fun v9 H10 τ11 => q (.int .i64 (.ofNat 0)) H10 τ11)
theorem s_ref3_far_eq (call : CallK) (N : Nat) (a0 a1 : V) (H : Heap) (τ : Tape) (q : KV) : s_ref3_far call N a0 a1 H τ q = funK call N fn_ref3_far [a0, a1] H τ q := by kernel_rfl
def e_ref3_far (call : CallK) (N : Nat) (vs : List V) (H : Heap) (τ : Tape) (q : KV) : Ans := match vs with | [a0, a1] => s_ref3_far call N a0 a1 H τ q | _ => none
theorem e_ref3_far_ok : EntOk fn_ref3_far e_ref3_far := by
  intro call N vs H τ q r h
  unfold e_ref3_far at h
  split at h
  · rw [s_ref3_far_eq] at h; exact h
  · cases h
theorem e_ref3_far_nat : EntNat e_ref3_far := by
  intro c hn N vs H τ q
  unfold e_ref3_far
  split
  · rw [s_ref3_far_eq, s_ref3_far_eq]; exact funK_ent hn _ _ _ _ _ _
  · rfl
/-- ostiary/ostiaryref3.over -/
def fn_ref3_over : Fun := ⟨1, (.seq (.reg [iR 2 (.p .mv) [(.c (.str []))]]) (.keep [0] (.seq (.block 0 (.loop (.keep [0] (.seq (.seq (.reg [iR 3 (.p .mv) [(.t 0)], iR 4 (.p .lenS) [(.t 3)], iR 5 (.p (.bin .gtr)) [(.t 4), (.c (.int .i64 (.ofNat 0)))], iR 6 (.p .mv) [(.t 5)], iG 7 6 true (.p .mv) [(.t 0)], iG 8 6 true (.p .strIndex) [(.t 7), (.c (.int .i64 (.ofNat 0)))], iG 9 6 true (.p (.bin .eql)) [(.t 8), (.c (.int .u8 (.ofNat 47)))], iR 10 (.p .pick) [(.t 6), (.t 9), (.c (.bool false))]]) (.keep [0, 10] (.cond (.t 10) .skip (.keep [0] (.exit 0))))) (.keep [0] (.block 1 (.reg [iR 11 (.p .mv) [(.t 0)], iR 12 (.p (.strSlice true false)) [(.t 11), (.c (.int .i64 (.ofNat 1)))], iR 0 (.p .mv) [(.t 12)]]))))))) (.keep [0] (.seq (.reg [iR 13 (.p .mv) [(.t 0)], iR 2 (.p .mv) [(.t 13)]]) (.keep [2] (.keep [2] .ret))))))), [(.t 2)]⟩
def s_ref3_over_j0 (call : CallK) (N : Nat) (q : KV) (st : St) (τ : Tape) : Ans := match st with
  | ⟨fr, H⟩ => getK fr 0 fun t0 => q t0 H τ
def s_ref3_over_l1 (call : CallK) (N : Nat) (st : St) (τ : Tape) (k : KC) : Ans := match st with
  | ⟨fr, H⟩ => getK fr 0 fun t0 => someK (pLenS [t0]) fun v0 => binK .gtr v0 (.int .i64 (.ofNat 0)) fun v1 => gK v1 true (fun q' => q' t0 H τ) H τ fun v2 H3 τ4 => gK v1 true (fun q' => someK (pStrIndex [v2, (.int .i64 (.ofNat 0))]) fun v => q' v H3 τ4) H3 τ4 fun v5 H6 τ7 => gK v1 true (fun q' => binK .eql v5 (.int .u8 (.ofNat 47)) fun v => q' v H6 τ7) H6 τ7 fun v8 H9 τ10 => someK (pPick [v1, v8, (.bool false)]) fun v11 => condK v11 (someK (pStrSlice true false [t0, (.int .i64 (.ofNat 1))]) fun v12 => k .normal ⟨(T.set (T.set (T.set (T.set .leaf 0 t0) 11 t0) 12 v12) 0 v12), H9⟩ τ10) (k (.exit 0) ⟨(T.set .leaf 0 t0), H9⟩ τ10)
def s_ref3_over (call : CallK) (N : Nat) (a0 : V) (H : Heap) (τ : Tape) (q : KV) : Ans := loopK (s_ref3_over_l1 call N) N ⟨(T.set .leaf 0 a0), H⟩ τ (blockK 0 (seqK (s_ref3_over_j0 call N q) (endK [(.t 2)] q)))
theorem s_ref3_over_eq (call : CallK) (N : Nat) (a0 : V) (H : Heap) (τ : Tape) (q : KV) : s_ref3_over call N a0 H τ q = funK call N fn_ref3_over [a0] H τ q := by kernel_rfl
def e_ref3_over (call : CallK) (N : Nat) (vs : List V) (H : Heap) (τ : Tape) (q : KV) : Ans := match vs with | [a0] => s_ref3_over call N a0 H τ q | _ => none
theorem e_ref3_over_ok : EntOk fn_ref3_over e_ref3_over := by
  intro call N vs H τ q r h
  unfold e_ref3_over at h
  split at h
  · rw [s_ref3_over_eq] at h; exact h
  · cases h
theorem e_ref3_over_nat : EntNat e_ref3_over := by
  intro c hn N vs H τ q
  unfold e_ref3_over
  split
  · rw [s_ref3_over_eq, s_ref3_over_eq]; exact funK_ent hn _ _ _ _ _ _
  · rfl
/-- ostiary/ostiaryref3.slashes -/
def fn_ref3_slashes : Fun := ⟨1, (.seq (.reg [iR 2 (.p .mv) [(.c (.str []))]]) (.keep [0] (.seq (.reg [iR 5 (.p .mv) [(.t 0)], iR 6 (.e .strBytes) [(.t 5)], iR 3 (.p .mv) [(.t 6)]]) (.keep [3] (.seq (.seq (.reg [iR 4 (.p .mv) [(.c (.int .i64 (.ofNat 0)))]]) (.keep [3, 4] (.block 0 (.loop (.keep [3, 4] (.seq (.seq (.reg [iR 7 (.p .mv) [(.t 4)], iR 8 (.p .mv) [(.t 3)], iR 9 (.p .len) [(.t 8)], iR 10 (.p (.bin .lss)) [(.t 7), (.t 9)], iR 11 (.p .mv) [(.t 10)], iG 12 11 true (.p .mv) [(.t 3)], iG 13 11 true (.p .mv) [(.t 4)], iG 14 11 true (.p (.slIdx 1)) [(.t 12), (.t 13)], iG 15 11 true (.l (.load none)) [(.t 14)], iG 16 11 true (.p (.bin .neq)) [(.t 15), (.c (.int .u8 (.ofNat 63)))], iR 17 (.p .pick) [(.t 11), (.t 16), (.c (.bool false))]]) (.keep [3, 4, 17] (.cond (.t 17) .skip (.keep [3] (.exit 0))))) (.keep [3, 4] (.seq (.block 1 (.seq (.reg [iR 20 (.p .mv) [(.t 3)],
    iR 21 (.p .mv) [(.t 4)], iR 22 (.p (.slIdx 1)) [(.t 20), (.t 21)], iR 23 (.l (.load none)) [(.t 22)], iR 24 (.p (.bin .eql)) [(.t 23), (.c (.int .u8 (.ofNat 92)))]]) (.keep [3, 4, 24] (.cond (.t 24) (.reg [iR 25 (.p .mv) [(.t 3)], iR 26 (.p .mv) [(.t 4)], iR 27 (.p (.slIdx 1)) [(.t 25), (.t 26)], ⟨none, none, (.e (.store 1)), [(.t 27), (.c (.int .u8 (.ofNat 47)))], none⟩]) .skip)))) (.keep [3, 4] (.reg [iR 18 (.p .mv) [(.t 4)], iR 19 (.p (.bin .add)) [(.t 18), (.c (.int .i64 (.ofNat 1)))], iR 4 (.p .mv) [(.t 19)]])))))))))) (.keep [3] (.seq (.reg [iR 28 (.p .mv) [(.t 3)], iR 29 (.l .bytesStr) [(.t 28)], iR 2 (.p .mv) [(.t 29)]]) (.keep [2] (.keep [2] .ret))))))))), [(.t 2)]⟩
def s_ref3_slashes_j0 (call : CallK) (N : Nat) (q : KV) (st : St) (τ : Tape) : Ans := match st with
  | ⟨fr, H⟩ => getK fr 3 fun t3 => someK (lBytesStr [t3] H) fun v3 => q v3 H τ
def s_ref3_slashes_j2 (call : CallK) (N : Nat) (k : KC) (st : St) (τ : Tape) : Ans := match st with
  | ⟨fr, H⟩ => getK fr 3 fun t3 => getK fr 4 fun t4 => binK .add t4 (.int .i64 (.ofNat 1)) fun v22 => k .normal ⟨(T.set (T.set (T.set (T.set (T.set .leaf 3 t3) 4 t4) 18 t4) 19 v22) 4 v22), H⟩ τ
def s_ref3_slashes_l1 (call : CallK) (N : Nat) (st : St) (τ : Tape) (k : KC) : Ans := match st with
  | ⟨fr, H⟩ => getK fr 3 fun t3 => getK fr 4 fun t4 => someK (pLen [t3]) fun v4 => binK .lss t4 v4 fun v5 => gK v5 true (fun q' => q' t3 H τ) H τ fun v6 H7 τ8 => gK v5 true (fun q' => q' t4 H7 τ8) H7 τ8 fun v9 H10 τ11 => gK v5 true (fun q' => someK (pSlIdx 1 [v6, v9]) fun v => q' v H10 τ11) H10 τ11 fun v12 H13 τ14 => gK v5 true (fun q' => someK (lLoad1 [v12] H13) fun v => q' v H13 τ14) H13 τ14 fun v15 H16 τ17 => gK v5 true (fun q' => binK .neq v15 (.int .u8 (.ofNat 63)) fun v => q' v H16 τ17) H16 τ17 fun v18 H19 τ20 => someK (pPick [v5, v18, (.bool false)]) fun v21 => condK v21 (someK (pSlIdx 1 [t3, t4]) fun v23 => someK (lLoad1 [v23] H19) fun v24 => binK .eql v24 (.int .u8 (.ofNat 92)) fun v25 => condK v25 (someK (pSlIdx 1 [t3, t4]) fun v26 => effK (eStore 1 [v26, (.int .u8 (.ofNat 47))] H19 τ20) fun v27 H28 τ29 =>
    s_ref3_slashes_j2 call N k ⟨(T.set (T.set (T.set (T.set (T.set (T.set .leaf 3 t3) 4 t4) 24 v25) 25 t3) 26 t4) 27 v26), H28⟩ τ29) (s_ref3_slashes_j2 call N k ⟨(T.set (T.set (T.set .leaf 3 t3) 4 t4) 24 v25), H19⟩ τ20)) (k (.exit 0) ⟨(T.set .leaf 3 t3), H19⟩ τ20)
def s_ref3_slashes (call : CallK) (N : Nat) (a0 : V) (H : Heap) (τ : Tape) (q : KV) : Ans := effK (eStrBytes [a0] H τ) fun v0 H1 τ2 => loopK (s_ref3_slashes_l1 call N) N ⟨(T.set (T.set .leaf 3 v0) 4 (.int .i64 (.ofNat 0))), H1⟩ τ2 (blockK 0 (seqK (s_ref3_slashes_j0 call N q) (endK [(.t 2)] q)))
theorem s_ref3_slashes_eq (call : CallK) (N : Nat) (a0 : V) (H : Heap) (τ : Tape) (q : KV) : s_ref3_slashes call N a0 H τ q = funK call N fn_ref3_slashes [a0] H τ q := by kernel_rfl
def e_ref3_slashes (call : CallK) (N : Nat) (vs : List V) (H : Heap) (τ : Tape) (q : KV) : Ans := match vs with | [a0] => s_ref3_slashes call N a0 H τ q | _ => none
theorem e_ref3_slashes_ok : EntOk fn_ref3_slashes e_ref3_slashes := by
  intro call N vs H τ q r h
  unfold e_ref3_slashes at h
  split at h
  · rw [s_ref3_slashes_eq] at h; exact h
  · cases h
theorem e_ref3_slashes_nat : EntNat e_ref3_slashes := by
  intro c hn N vs H τ q
  unfold e_ref3_slashes
  split
  · rw [s_ref3_slashes_eq, s_ref3_slashes_eq]; exact funK_ent hn _ _ _ _ _ _
  · rfl
/-- ostiary/ostiaryref3.rest -/
def fn_ref3_rest : Fun := ⟨2, (.seq (.reg [iR 7 (.p .mv) [(.t 1)], iR 8 (.call 166) [(.t 7), (.c (.int .u8 (.ofNat 63))), (.c (.int .u8 (.ofNat 63)))], iR 6 (.p .mv) [(.t 8)], iR 9 (.p (.extract 0)) [(.t 6)], iR 10 (.p (.extract 1)) [(.t 6)], iR 4 (.p .mv) [(.t 9)], iR 5 (.p .mv) [(.t 10)]]) (.keep [0, 1, 4] (.seq (.reg [iR 11 (.p .mv) [(.t 0)], iR 12 (.p .mv) [(.t 1)], iR 13 (.call 167) [(.t 11), (.t 12)]]) (.keep [0, 4] (.block 0 (.seq (.reg [iR 20 (.p .mv) [(.t 4)], iR 21 (.p (.bin .eql)) [(.t 20), (.c (.str []))], iR 22 (.p .mv) [(.t 21)], iG 23 22 true (.p .mv) [(.t 0)], iG 24 22 true (.p .nilck) [(.t 23)], iG 25 22 true (.p (.fieldAddr 0)) [(.t 24)], iG 26 22 true (.l (.load none)) [(.t 25)], iG 27 22 true (.call 90) [(.t 26)], iR 28 (.p .pick) [(.t 22), (.t 27), (.c (.bool false))], iR 19 (.p .mv) [(.t 28)]]) (.keep [0, 4, 19] (.cond (.t 19) (.reg [iR 29 (.p .mv) [(.t 0)],
    iR 30 (.e (.buildSlice 1 1 [(.str [])] [(0, 1)])) [(.c (.str []))], iR 31 (.p .nilck) [(.t 29)], iR 32 (.p (.fieldAddr 7)) [(.t 31)], ⟨none, none, (.e (.store 1)), [(.t 32), (.t 30)], none⟩]) (.seq (.reg [iR 34 (.p .mv) [(.t 4)], iR 35 (.p (.bin .eql)) [(.t 34), (.c (.str []))], iR 33 (.p .mv) [(.t 35)]]) (.keep [0, 4, 33] (.cond (.t 33) (.reg [iR 36 (.p .mv) [(.t 0)], iR 37 (.p .nilck) [(.t 36)], iR 38 (.p (.fieldAddr 7)) [(.t 37)], ⟨none, none, (.e (.store 1)), [(.t 38), (.c .nils)], none⟩]) (.seq (.reg [iR 40 (.p .mv) [(.t 4)], iR 41 (.p .strIndex) [(.t 40), (.c (.int .i64 (.ofNat 0)))], iR 42 (.p (.bin .eql)) [(.t 41), (.c (.int .u8 (.ofNat 47)))], iR 39 (.p .mv) [(.t 42)]]) (.keep [0, 4, 39] (.cond (.t 39) (.reg [iR 43 (.p .mv) [(.t 0)], iR 44 (.p .mv) [(.t 4)], iR 45 (.p (.strSlice true false)) [(.t 44), (.c (.int .i64 (.ofNat 1)))],
    iR 46 (.call 188) [(.c .nils), (.t 45)], iR 47 (.p .nilck) [(.t 43)], iR 48 (.p (.fieldAddr 7)) [(.t 47)], ⟨none, none, (.e (.store 1)), [(.t 48), (.t 46)], none⟩]) (.reg [iR 14 (.p .mv) [(.t 0)], iR 15 (.p .mv) [(.t 4)], iR 16 (.call 188) [(.c .nils), (.t 15)], iR 17 (.p .nilck) [(.t 14)], iR 18 (.p (.fieldAddr 7)) [(.t 17)], ⟨none, none, (.e (.store 1)), [(.t 18), (.t 16)], none⟩]))))))))))))))), []⟩
def s_ref3_rest (call : CallK) (N : Nat) (a0 a1 : V) (H : Heap) (τ : Tape) (q : KV) : Ans := call f_ref3_ahead [a1, (.int .u8 (.ofNat 63)), (.int .u8 (.ofNat 63))] H τ fun v0 H1 τ2 => someK (pExtract 0 [v0]) fun v3 => someK (pExtract 1 [v0]) fun v4 => call f_ref3_query [a0, a1] H1 τ2 fun v5 H6 τ7 => binK .eql v3 (.str []) fun v8 => gK v8 true (fun q' => q' a0 H6 τ7) H6 τ7 fun v9 H10 τ11 => gK v8 true (fun q' => someK (pNilck [v9]) fun v => q' v H10 τ11) H10 τ11 fun v12 H13 τ14 => gK v8 true (fun q' => someK (pFieldAddr 0 [v12]) fun v => q' v H13 τ14) H13 τ14 fun v15 H16 τ17 => gK v8 true (fun q' => someK (lLoad1 [v15] H16) fun v => q' v H16 τ17) H16 τ17 fun v18 H19 τ20 => gK v8 true (fun q' => call f_ref3_Special [v18] H19 τ20 q') H19 τ20 fun v21 H22 τ23 => someK (pPick [v8, v21, (.bool false)]) fun v24 => condK v24
    (effK (eBuildSlice 1 1 [(.str [])] [(0, 1)] [(.str [])] H22 τ23) fun v25 H26 τ27 => someK (pNilck [a0]) fun v28 => someK (pFieldAddr 7 [v28]) fun v29 => effK (eStore 1 [v29, v25] H26 τ27) fun v30 H31 τ32 => q (.tup []) H31 τ32) (binK .eql v3 (.str []) fun v33 => condK v33 (someK (pNilck [a0]) fun v34 => someK (pFieldAddr 7 [v34]) fun v35 => effK (eStore 1 [v35, .nils] H22 τ23) fun v36 H37 τ38 => q (.tup []) H37 τ38) (someK (pStrIndex [v3, (.int .i64 (.ofNat 0))]) fun v39 => binK .eql v39 (.int .u8 (.ofNat 47)) fun v40 => condK v40 (someK (pStrSlice true false [v3, (.int .i64 (.ofNat 1))]) fun v41 => call f_ref3_path [.nils, v41] H22 τ23 fun v42 H43 τ44 => someK (pNilck [a0]) fun v45 => someK (pFieldAddr 7 [v45]) fun v46 => effK (eStore 1 [v46, v42] H43 τ44) fun v47 H48 τ49 => q (.tup []) H48 τ49) (call f_ref3_path [.nils, v3] H22 τ23 fun v50 H51 τ52 =>
    someK (pNilck [a0]) fun v53 => someK (pFieldAddr 7 [v53]) fun v54 => effK (eStore 1 [v54, v50] H51 τ52) fun v55 H56 τ57 => q (.tup []) H56 τ57)))
theorem s_ref3_rest_eq (call : CallK) (N : Nat) (a0 a1 : V) (H : Heap) (τ : Tape) (q : KV) : s_ref3_rest call N a0 a1 H τ q = funK call N fn_ref3_rest [a0, a1] H τ q := by kernel_rfl
def e_ref3_rest (call : CallK) (N : Nat) (vs : List V) (H : Heap) (τ : Tape) (q : KV) : Ans := match vs with | [a0, a1] => s_ref3_rest call N a0 a1 H τ q | _ => none
theorem e_ref3_rest_ok : EntOk fn_ref3_rest e_ref3_rest := by
  intro call N vs H τ q r h
  unfold e_ref3_rest at h
  split at h
  · rw [s_ref3_rest_eq] at h; exact h
  · cases h
theorem e_ref3_rest_nat : EntNat e_ref3_rest := by
  intro c hn N vs H τ q
  unfold e_ref3_rest
  split
  · rw [s_ref3_rest_eq, s_ref3_rest_eq]; exact funK_ent hn _ _ _ _ _ _
  · rfl
/-- ostiary/ostiaryref3.ahead -/
def fn_ref3_ahead : Fun := ⟨3, (.seq (.reg [iR 6 (.p .mv) [(.c (.str []))], iR 7 (.p .mv) [(.c (.str []))]]) (.keep [0, 1, 2] (.seq (.seq (.reg [iR 8 (.p .mv) [(.c (.int .i64 (.ofNat 0)))]]) (.keep [0, 1, 2, 8] (.block 0 (.loop (.keep [0, 1, 2, 8] (.seq (.seq (.reg [iR 9 (.p .mv) [(.t 8)], iR 10 (.p .mv) [(.t 0)], iR 11 (.p .lenS) [(.t 10)], iR 12 (.p (.bin .lss)) [(.t 9), (.t 11)]]) (.keep [0, 1, 2, 8, 12] (.cond (.t 12) .skip (.keep [0] (.exit 0))))) (.keep [0, 1, 2, 8] (.seq (.block 1 (.seq (.reg [iR 15 (.p .mv) [(.t 0)], iR 16 (.p .mv) [(.t 8)], iR 17 (.p .strIndex) [(.t 15), (.t 16)], iR 18 (.p .mv) [(.t 1)], iR 19 (.p (.bin .eql)) [(.t 17), (.t 18)], iR 20 (.p .mv) [(.t 19)], iG 21 20 false (.p .mv) [(.t 0)], iG 22 20 false (.p .mv) [(.t 8)], iG 23 20 false (.p .strIndex) [(.t 21), (.t 22)], iG 24 20 false (.p .mv) [(.t 2)],
    iG 25 20 false (.p (.bin .eql)) [(.t 23), (.t 24)], iR 26 (.p .pick) [(.t 20), (.c (.bool true)), (.t 25)]]) (.keep [0, 1, 2, 8, 26] (.cond (.t 26) (.seq (.draw [iR 27 (.p .mv) [(.t 0)], iR 28 (.p .mv) [(.t 8)], iR 29 (.p (.strSlice false true)) [(.t 27), (.t 28)], iR 30 (.p .mv) [(.t 0)], iR 31 (.p .mv) [(.t 8)], iR 32 (.p (.strSlice true false)) [(.t 30), (.t 31)], iR 6 (.p .mv) [(.t 29)], iR 7 (.p .mv) [(.t 32)]]) (.keep [6, 7] (.keep [6, 7] .ret))) .skip)))) (.keep [0, 1, 2, 8] (.reg [iR 13 (.p .mv) [(.t 8)], iR 14 (.p (.bin .add)) [(.t 13), (.c (.int .i64 (.ofNat 1)))], iR 8 (.p .mv) [(.t 14)]])))))))))) (.keep [0] (.seq (.reg [iR 33 (.p .mv) [(.t 0)], iR 6 (.p .mv) [(.t 33)], iR 7 (.p .mv) [(.c (.str []))]]) (.keep [6, 7] (.keep [6, 7] .ret))))))), [(.t 6), (.t 7)]⟩
def s_ref3_ahead_j0 (call : CallK) (N : Nat) (q : KV) (st : St) (τ : Tape) : Ans := match st with
  | ⟨fr, H⟩ => getK fr 0 fun t0 => q (.tup [t0, (.str [])]) H τ
def s_ref3_ahead_l1 (call : CallK) (N : Nat) (st : St) (τ : Tape) (k : KC) : Ans := match st with
  | ⟨fr, H⟩ => getK fr 0 fun t0 => getK fr 1 fun t1 => getK fr 2 fun t2 => getK fr 8 fun t8 => someK (pLenS [t0]) fun v0 => binK .lss t8 v0 fun v1 => condK v1 (someK (pStrIndex [t0, t8]) fun v2 => binK .eql v2 t1 fun v3 => gK v3 false (fun q' => q' t0 H τ) H τ fun v4 H5 τ6 => gK v3 false (fun q' => q' t8 H5 τ6) H5 τ6 fun v7 H8 τ9 => gK v3 false (fun q' => someK (pStrIndex [v4, v7]) fun v => q' v H8 τ9) H8 τ9 fun v10 H11 τ12 => gK v3 false (fun q' => q' t2 H11 τ12) H11 τ12 fun v13 H14 τ15 => gK v3 false (fun q' => binK .eql v10 v13 fun v => q' v H14 τ15) H14 τ15 fun v16 H17 τ18 => someK (pPick [v3, (.bool true), v16]) fun v19 => condK v19 (someK (pStrSlice false true [t0, t8]) fun v20 => someK (pStrSlice true false [t0, t8]) fun v21 => k .ret ⟨(T.set (T.set .leaf 6 v20) 7 v21), H17⟩ τ18) (binK .add t8 (.int .i64 (.ofNat 1)) fun v22 =>
    k .normal ⟨(T.set (T.set (T.set (T.set (T.set (T.set (T.set .leaf 0 t0) 1 t1) 2 t2) 8 t8) 13 t8) 14 v22) 8 v22), H17⟩ τ18)) (k (.exit 0) ⟨(T.set .leaf 0 t0), H⟩ τ)
def s_ref3_ahead (call : CallK) (N : Nat) (a0 a1 a2 : V) (H : Heap) (τ : Tape) (q : KV) : Ans := loopK (s_ref3_ahead_l1 call N) N ⟨(T.set (T.set (T.set (T.set .leaf 0 a0) 1 a1) 2 a2) 8 (.int .i64 (.ofNat 0))), H⟩ τ (blockK 0 (seqK (s_ref3_ahead_j0 call N q) (endK [(.t 6), (.t 7)] q)))
theorem s_ref3_ahead_eq (call : CallK) (N : Nat) (a0 a1 a2 : V) (H : Heap) (τ : Tape) (q : KV) : s_ref3_ahead call N a0 a1 a2 H τ q = funK call N fn_ref3_ahead [a0, a1, a2] H τ q := by kernel_rfl
def e_ref3_ahead (call : CallK) (N : Nat) (vs : List V) (H : Heap) (τ : Tape) (q : KV) : Ans := match vs with | [a0, a1, a2] => s_ref3_ahead call N a0 a1 a2 H τ q | _ => none
theorem e_ref3_ahead_ok : EntOk fn_ref3_ahead e_ref3_ahead := by
  intro call N vs H τ q r h
  unfold e_ref3_ahead at h
  split at h
  · rw [s_ref3_ahead_eq] at h; exact h
  · cases h
theorem e_ref3_ahead_nat : EntNat e_ref3_ahead := by
  intro c hn N vs H τ q
  unfold e_ref3_ahead
  split
  · rw [s_ref3_ahead_eq, s_ref3_ahead_eq]; exact funK_ent hn _ _ _ _ _ _
  · rfl
/-- ostiary/ostiaryref3.query -/
def fn_ref3_query : Fun := ⟨2, (.seq (.reg [iR 9 (.p .mv) [(.t 1)], iR 10 (.call 107) [(.t 9), (.c (.int .u8 (.ofNat 63)))], iR 8 (.p .mv) [(.t 10)], iR 11 (.p (.extract 0)) [(.t 8)], iR 12 (.p (.extract 1)) [(.t 8)], iR 13 (.p (.extract 2)) [(.t 8)], iR 4 (.p .mv) [(.t 11)], iR 5 (.p .mv) [(.t 12)], iR 6 (.p .mv) [(.t 13)]]) (.keep [0, 5, 6] (.seq (.seq (.reg [iR 14 (.p .mv) [(.t 6)], iR 15 (.p (.un .not)) [(.t 14)]]) (.keep [0, 5, 15] (.cond (.t 15) (.keep [] .ret) .skip))) (.keep [0, 5] (.seq (.reg [iR 16 (.p .mv) [(.t 0)], iR 17 (.p .nilck) [(.t 16)], iR 18 (.p (.fieldAddr 10)) [(.t 17)], ⟨none, none, (.e (.store 1)), [(.t 18), (.c (.bool true))], none⟩]) (.keep [0, 5] (.seq (.reg [iR 7 (.p .mv) [(.c (.int .i64 (.ofNat 3)))]]) (.keep [0, 5, 7] (.seq (.seq (.reg [iR 19 (.p .mv) [(.t 0)], iR 20 (.p .nilck) [(.t 19)], iR 21 (.p (.fieldAddr 0)) [(.t 20)],
    iR 22 (.l (.load none)) [(.t 21)], iR 23 (.call 90) [(.t 22)]]) (.keep [0, 5, 7, 23] (.cond (.t 23) (.reg [iR 7 (.p .mv) [(.c (.int .i64 (.ofNat 4)))]]) .skip))) (.keep [0, 5, 7] (.reg [iR 24 (.p .mv) [(.t 0)], iR 25 (.p .mv) [(.t 5)], iR 26 (.p .mv) [(.t 7)], iR 27 (.call 161) [(.t 25), (.t 26)], iR 28 (.p .nilck) [(.t 24)], iR 29 (.p (.fieldAddr 8)) [(.t 28)], ⟨none, none, (.e (.store 1)), [(.t 29), (.t 27)], none⟩]))))))))))), []⟩
def s_ref3_query_j0 (call : CallK) (N : Nat) (q : KV) (st : St) (τ : Tape) : Ans := match st with
  | ⟨fr, H⟩ => getK fr 0 fun t0 => getK fr 5 fun t5 => getK fr 7 fun t7 => call f_ref1_Percent [t5, t7] H τ fun v18 H19 τ20 => someK (pNilck [t0]) fun v21 => someK (pFieldAddr 8 [v21]) fun v22 => effK (eStore 1 [v22, v18] H19 τ20) fun v23 H24 τ25 => q (.tup []) H24 τ25
def s_ref3_query (call : CallK) (N : Nat) (a0 a1 : V) (H : Heap) (τ : Tape) (q : KV) : Ans := call f_ref1_Part [a1, (.int .u8 (.ofNat 63))] H τ fun v0 H1 τ2 => someK (pExtract 0 [v0]) fun v3 => someK (pExtract 1 [v0]) fun v4 => someK (pExtract 2 [v0]) fun v5 => unK .not v5 fun v6 => condK v6 (q (.tup []) H1 τ2) (someK (pNilck [a0]) fun v7 => someK (pFieldAddr 10 [v7]) fun v8 => effK (eStore 1 [v8, (.bool true)] H1 τ2) fun v9 H10 τ11 => someK (pNilck [a0]) fun v12 => someK (pFieldAddr 0 [v12]) fun v13 => someK (lLoad1 [v13] H10) fun v14 => call f_ref3_Special [v14] H10 τ11 fun v15 H16 τ17 => condK v15 (s_ref3_query_j0 call N q ⟨(T.set (T.set (T.set (T.set (T.set .leaf 0 a0) 5 v4) 7 (.int .i64 (.ofNat 3))) 23 v15) 7 (.int .i64 (.ofNat 4))), H16⟩ τ17) (s_ref3_query_j0 call N q ⟨(T.set (T.set (T.set (T.set .leaf 0 a0) 5 v4) 7 (.int .i64 (.ofNat 3))) 23 v15), H16⟩ τ17))
theorem s_ref3_query_eq (call : CallK) (N : Nat) (a0 a1 : V) (H : Heap) (τ : Tape) (q : KV) : s_ref3_query call N a0 a1 H τ q = funK call N fn_ref3_query [a0, a1] H τ q := by kernel_rfl
def e_ref3_query (call : CallK) (N : Nat) (vs : List V) (H : Heap) (τ : Tape) (q : KV) : Ans := match vs with | [a0, a1] => s_ref3_query call N a0 a1 H τ q | _ => none
theorem e_ref3_query_ok : EntOk fn_ref3_query e_ref3_query := by
  intro call N vs H τ q r h
  unfold e_ref3_query at h
  split at h
  · rw [s_ref3_query_eq] at h; exact h
  · cases h
theorem e_ref3_query_nat : EntNat e_ref3_query := by
  intro c hn N vs H τ q
  unfold e_ref3_query
  split
  · rw [s_ref3_query_eq, s_ref3_query_eq]; exact funK_ent hn _ _ _ _ _ _
  · rfl
/-- internal/stringslite.Index -/
def fn_stringslite_Index : Fun := ⟨2, (.seq (.reg [iR 4 (.p .mv) [(.c (.int .i64 (.ofNat 0)))]]) (.keep [0, 1] (.seq (.reg [iR 14 (.p .mv) [(.t 1)], iR 15 (.p .lenS) [(.t 14)], iR 5 (.p .mv) [(.t 15)]]) (.keep [0, 1, 5] (.seq (.block 0 (.seq (.reg [iR 17 (.p .mv) [(.t 5)], iR 18 (.p (.bin .eql)) [(.t 17), (.c (.int .i64 (.ofNat 0)))], iR 19 (.p .mv) [(.t 18)], iG 20 19 false (.p .mv) [(.t 1)], iG 21 19 false (.p .mv) [(.t 0)], iG 22 19 false (.p (.bin .eql)) [(.t 20), (.t 21)], iR 23 (.p .pick) [(.t 19), (.c (.bool true)), (.t 22)], iR 16 (.p .mv) [(.t 23)]]) (.keep [0, 1, 5, 16] (.cond (.t 16) (.seq (.reg [iR 4 (.p .mv) [(.c (.int .i64 (.ofNat 0)))]]) (.keep [4] (.keep [4] .ret))) (.seq (.reg [iR 25 (.p .mv) [(.t 5)], iR 26 (.p (.bin .eql)) [(.t 25), (.c (.int .i64 (.ofNat 1)))], iR 24 (.p .mv) [(.t 26)]]) (.keep [0, 1, 5, 24] (.cond (.t 24) (.seq (.reg [iR 27 (.p .mv) [(.t 0)],
    iR 28 (.p .mv) [(.t 1)], iR 29 (.p .strIndex) [(.t 28), (.c (.int .i64 (.ofNat 0)))], iR 30 (.call 145) [(.t 27), (.t 29)], iR 4 (.p .mv) [(.t 30)]]) (.keep [4] (.keep [4] .ret))) (.seq (.reg [iR 32 (.p .mv) [(.t 5)], iR 33 (.p .mv) [(.t 0)], iR 34 (.p .lenS) [(.t 33)], iR 35 (.p (.bin .geq)) [(.t 32), (.t 34)], iR 31 (.p .mv) [(.t 35)]]) (.keep [0, 1, 5, 31] (.cond (.t 31) (.seq (.reg [iR 4 (.p .mv) [(.c (.int .i64 (.negSucc 0)))]]) (.keep [4] (.keep [4] .ret))) (.seq (.reg [iR 37 (.p .mv) [(.t 5)], iR 38 (.l (.load none)) [(.c (.ptr 0 0))], iR 39 (.p (.bin .leq)) [(.t 37), (.t 38)], iR 40 (.p .mv) [(.t 39)], iG 41 40 true (.p .mv) [(.t 0)], iG 42 40 true (.p .lenS) [(.t 41)], iG 43 40 true (.p (.bin .leq)) [(.t 42), (.c (.int .i64 (.ofNat 64)))], iR 44 (.p .pick) [(.t 40), (.t 43), (.c (.bool false))], iR 36 (.p .mv) [(.t 44)]]) (.keep [0, 1, 5, 36] (.cond (.t 36) (.seq .bad
    (.keep [4] (.keep [4] .ret))) .skip))))))))))))) (.keep [0, 1, 5] (.seq (.reg [iR 48 (.p .mv) [(.t 1)], iR 49 (.p .strIndex) [(.t 48), (.c (.int .i64 (.ofNat 0)))], iR 6 (.p .mv) [(.t 49)]]) (.keep [0, 1, 5, 6] (.seq (.reg [iR 50 (.p .mv) [(.t 1)], iR 51 (.p .strIndex) [(.t 50), (.c (.int .i64 (.ofNat 1)))], iR 7 (.p .mv) [(.t 51)]]) (.keep [0, 1, 5, 6, 7] (.seq (.reg [iR 8 (.p .mv) [(.c (.int .i64 (.ofNat 0)))]]) (.keep [0, 1, 5, 6, 7, 8] (.seq (.reg [iR 52 (.p .mv) [(.t 0)], iR 53 (.p .lenS) [(.t 52)], iR 54 (.p .mv) [(.t 5)], iR 55 (.p (.bin .sub)) [(.t 53), (.t 54)], iR 56 (.p (.bin .add)) [(.t 55), (.c (.int .i64 (.ofNat 1)))], iR 9 (.p .mv) [(.t 56)]]) (.keep [0, 1, 5, 6, 7, 8, 9] (.seq (.reg [iR 10 (.p .mv) [(.c (.int .i64 (.ofNat 0)))]]) (.keep [0, 1, 5, 6, 7, 8, 9, 10] (.seq (.block 1 (.loop (.keep [0, 1, 5, 6, 7, 8, 9, 10] (.seq (.seq (.reg [iR 57 (.p .mv) [(.t 8)],
    iR 58 (.p .mv) [(.t 9)], iR 59 (.p (.bin .lss)) [(.t 57), (.t 58)]]) (.keep [0, 1, 5, 6, 7, 8, 9, 10, 59] (.cond (.t 59) .skip (.keep [] (.exit 1))))) (.keep [0, 1, 5, 6, 7, 8, 9, 10] (.block 2 (.seq (.seq (.reg [iR 60 (.p .mv) [(.t 0)], iR 61 (.p .mv) [(.t 8)], iR 62 (.p .strIndex) [(.t 60), (.t 61)], iR 63 (.p .mv) [(.t 6)], iR 64 (.p (.bin .neq)) [(.t 62), (.t 63)]]) (.keep [0, 1, 5, 6, 7, 8, 9, 10, 64] (.cond (.t 64) (.seq (.reg [iR 65 (.p .mv) [(.t 0)], iR 66 (.p .mv) [(.t 8)], iR 67 (.p (.bin .add)) [(.t 66), (.c (.int .i64 (.ofNat 1)))], iR 68 (.p .mv) [(.t 9)], iR 69 (.p (.strSlice true true)) [(.t 65), (.t 67), (.t 68)], iR 70 (.p .mv) [(.t 6)], iR 71 (.call 145) [(.t 69), (.t 70)], iR 11 (.p .mv) [(.t 71)]]) (.keep [0, 1, 5, 6, 7, 8, 9, 10, 11] (.seq (.seq (.reg [iR 72 (.p .mv) [(.t 11)], iR 73 (.p (.bin .lss)) [(.t 72), (.c (.int .i64 (.ofNat 0)))]])
    (.keep [0, 1, 5, 6, 7, 8, 9, 10, 11, 73] (.cond (.t 73) (.seq (.reg [iR 4 (.p .mv) [(.c (.int .i64 (.negSucc 0)))]]) (.keep [4] (.keep [4] .ret))) .skip))) (.keep [0, 1, 5, 6, 7, 8, 9, 10, 11] (.reg [iR 74 (.p .mv) [(.t 8)], iR 75 (.p .mv) [(.t 11)], iR 76 (.p (.bin .add)) [(.t 75), (.c (.int .i64 (.ofNat 1)))], iR 77 (.p (.bin .add)) [(.t 74), (.t 76)], iR 8 (.p .mv) [(.t 77)]]))))) .skip))) (.keep [0, 1, 5, 6, 7, 8, 9, 10] (.seq (.seq (.reg [iR 78 (.p .mv) [(.t 0)], iR 79 (.p .mv) [(.t 8)], iR 80 (.p (.bin .add)) [(.t 79), (.c (.int .i64 (.ofNat 1)))], iR 81 (.p .strIndex) [(.t 78), (.t 80)], iR 82 (.p .mv) [(.t 7)], iR 83 (.p (.bin .eql)) [(.t 81), (.t 82)], iR 84 (.p .mv) [(.t 83)], iG 85 84 true (.p .mv) [(.t 0)], iG 86 84 true (.p .mv) [(.t 8)], iG 87 84 true (.p .mv) [(.t 8)], iG 88 84 true (.p .mv) [(.t 5)], iG 89 84 true (.p (.bin .add)) [(.t 87), (.t 88)],
    iG 90 84 true (.p (.strSlice true true)) [(.t 85), (.t 86), (.t 89)], iG 91 84 true (.p .mv) [(.t 1)], iG 92 84 true (.p (.bin .eql)) [(.t 90), (.t 91)], iR 93 (.p .pick) [(.t 84), (.t 92), (.c (.bool false))]]) (.keep [0, 1, 5, 6, 7, 8, 9, 10, 93] (.cond (.t 93) (.seq (.reg [iR 94 (.p .mv) [(.t 8)], iR 4 (.p .mv) [(.t 94)]]) (.keep [4] (.keep [4] .ret))) .skip))) (.keep [0, 1, 5, 6, 7, 8, 9, 10] (.seq (.reg [iR 95 (.p .mv) [(.t 8)], iR 96 (.p (.bin .add)) [(.t 95), (.c (.int .i64 (.ofNat 1)))], iR 8 (.p .mv) [(.t 96)]]) (.keep [0, 1, 5, 6, 7, 8, 9, 10] (.seq (.reg [iR 97 (.p .mv) [(.t 10)], iR 98 (.p (.bin .add)) [(.t 97), (.c (.int .i64 (.ofNat 1)))], iR 10 (.p .mv) [(.t 98)]]) (.keep [0, 1, 5, 6, 7, 8, 9, 10] (.seq (.reg [iR 99 (.p .mv) [(.t 5)], iR 100 (.l (.load none)) [(.c (.ptr 0 0))], iR 101 (.p (.bin .leq)) [(.t 99), (.t 100)], iR 102 (.p .mv) [(.t 101)],
    iG 103 102 true (.p .mv) [(.t 10)], iG 104 102 true (.p .mv) [(.t 8)], iG 105 102 true (.call 190) [(.t 104)], iG 106 102 true (.p (.bin .gtr)) [(.t 103), (.t 105)], iR 107 (.p .pick) [(.t 102), (.t 106), (.c (.bool false))]]) (.keep [0, 1, 5, 6, 7, 8, 9, 10, 107] (.cond (.t 107) (.seq .bad (.keep [8, 12] (.seq (.seq (.reg [iR 113 (.p .mv) [(.t 12)], iR 114 (.p (.bin .geq)) [(.t 113), (.c (.int .i64 (.ofNat 0)))]]) (.keep [8, 12, 114] (.cond (.t 114) (.seq (.reg [iR 115 (.p .mv) [(.t 12)], iR 116 (.p .mv) [(.t 8)], iR 117 (.p (.bin .add)) [(.t 115), (.t 116)], iR 4 (.p .mv) [(.t 117)]]) (.keep [4] (.keep [4] .ret))) .skip))) (.keep [] (.seq (.reg [iR 4 (.p .mv) [(.c (.int .i64 (.negSucc 0)))]]) (.keep [4] (.keep [4] .ret))))))) (.seq (.reg [iR 118 (.p .mv) [(.t 5)], iR 119 (.l (.load none)) [(.c (.ptr 0 0))], iR 120 (.p (.bin .gtr)) [(.t 118), (.t 119)],
    iR 121 (.p .mv) [(.t 120)], iG 122 121 true (.p .mv) [(.t 10)], iG 123 121 true (.p .mv) [(.t 8)], iG 124 121 true (.p (.bin .shr)) [(.t 123), (.c (.int .u64 (.ofNat 4)))], iG 125 121 true (.p (.bin .add)) [(.c (.int .i64 (.ofNat 4))), (.t 124)], iG 126 121 true (.p (.bin .geq)) [(.t 122), (.t 125)], iR 127 (.p .pick) [(.t 121), (.t 126), (.c (.bool false))], iR 128 (.p .mv) [(.t 127)], iG 129 128 true (.p .mv) [(.t 8)], iG 130 128 true (.p .mv) [(.t 9)], iG 131 128 true (.p (.bin .lss)) [(.t 129), (.t 130)], iR 132 (.p .pick) [(.t 128), (.t 131), (.c (.bool false))]]) (.keep [0, 1, 5, 6, 7, 8, 9, 10, 132] (.cond (.t 132) (.seq (.reg [iR 133 (.p .mv) [(.t 0)], iR 134 (.p .mv) [(.t 8)], iR 135 (.p (.strSlice true false)) [(.t 133), (.t 134)], iR 136 (.p .mv) [(.t 1)], iR 137 (.call 191) [(.t 135), (.t 136)], iR 13 (.p .mv) [(.t 137)]])
    (.keep [8, 13] (.seq (.seq (.reg [iR 138 (.p .mv) [(.t 13)], iR 139 (.p (.bin .lss)) [(.t 138), (.c (.int .i64 (.ofNat 0)))]]) (.keep [8, 13, 139] (.cond (.t 139) (.seq (.reg [iR 4 (.p .mv) [(.c (.int .i64 (.negSucc 0)))]]) (.keep [4] (.keep [4] .ret))) .skip))) (.keep [8, 13] (.seq (.reg [iR 140 (.p .mv) [(.t 8)], iR 141 (.p .mv) [(.t 13)], iR 142 (.p (.bin .add)) [(.t 140), (.t 141)], iR 4 (.p .mv) [(.t 142)]]) (.keep [4] (.keep [4] .ret))))))) .skip)))))))))))))))))))) (.keep [] (.seq (.reg [iR 4 (.p .mv) [(.c (.int .i64 (.negSucc 0)))]]) (.keep [4] (.keep [4] .ret))))))))))))))))))))), [(.t 4)]⟩
def s_stringslite_Index_j0 (call : CallK) (N : Nat) (q : KV) (st : St) (τ : Tape) : Ans := match st with
  | ⟨fr, H⟩ => q (.int .i64 (.negSucc 0)) H τ
def s_stringslite_Index_j2 (call : CallK) (N : Nat) (k : KC) (st : St) (τ : Tape) : Ans := match st with
  | ⟨fr, H⟩ => getK fr 0 fun t0 => getK fr 1 fun t1 => getK fr 5 fun t5 => getK fr 6 fun t6 => getK fr 7 fun t7 => getK fr 8 fun t8 => getK fr 9 fun t9 => getK fr 10 fun t10 => binK .add t8 (.int .i64 (.ofNat 1)) fun v39 => someK (pStrIndex [t0, v39]) fun v40 => binK .eql v40 t7 fun v41 => gK v41 true (fun q' => q' t0 H τ) H τ fun v42 H43 τ44 => gK v41 true (fun q' => q' t8 H43 τ44) H43 τ44 fun v45 H46 τ47 => gK v41 true (fun q' => q' t8 H46 τ47) H46 τ47 fun v48 H49 τ50 => gK v41 true (fun q' => q' t5 H49 τ50) H49 τ50 fun v51 H52 τ53 => gK v41 true (fun q' => binK .add v48 v51 fun v => q' v H52 τ53) H52 τ53 fun v54 H55 τ56 => gK v41 true (fun q' => someK (pStrSlice true true [v42, v45, v54]) fun v => q' v H55 τ56) H55 τ56 fun v57 H58 τ59 => gK v41 true (fun q' => q' t1 H58 τ59) H58 τ59 fun v60 H61 τ62 =>
    gK v41 true (fun q' => binK .eql v57 v60 fun v => q' v H61 τ62) H61 τ62 fun v63 H64 τ65 => someK (pPick [v41, v63, (.bool false)]) fun v66 => condK v66 (k .ret ⟨(T.set .leaf 4 t8), H64⟩ τ65) (binK .add t8 (.int .i64 (.ofNat 1)) fun v67 => binK .add t10 (.int .i64 (.ofNat 1)) fun v68 => someK (lLoad1 [(.ptr 0 0)] H64) fun v69 => binK .leq t5 v69 fun v70 => gK v70 true (fun q' => q' v68 H64 τ65) H64 τ65 fun v71 H72 τ73 => gK v70 true (fun q' => q' v67 H72 τ73) H72 τ73 fun v74 H75 τ76 => gK v70 true (fun q' => call f_bytealg_Cutover [v74] H75 τ76 q') H75 τ76 fun v77 H78 τ79 => gK v70 true (fun q' => binK .gtr v71 v77 fun v => q' v H78 τ79) H78 τ79 fun v80 H81 τ82 => someK (pPick [v70, v80, (.bool false)]) fun v83 => condK v83 (none) (someK (lLoad1 [(.ptr 0 0)] H81) fun v84 => binK .gtr t5 v84 fun v85 => gK v85 true (fun q' => q' v68 H81 τ82) H81 τ82 fun v86 H87 τ88 =>
    gK v85 true (fun q' => q' v67 H87 τ88) H87 τ88 fun v89 H90 τ91 => gK v85 true (fun q' => binK .shr v89 (.int .u64 (.ofNat 4)) fun v => q' v H90 τ91) H90 τ91 fun v92 H93 τ94 => gK v85 true (fun q' => binK .add (.int .i64 (.ofNat 4)) v92 fun v => q' v H93 τ94) H93 τ94 fun v95 H96 τ97 => gK v85 true (fun q' => binK .geq v86 v95 fun v => q' v H96 τ97) H96 τ97 fun v98 H99 τ100 => someK (pPick [v85, v98, (.bool false)]) fun v101 => gK v101 true (fun q' => q' v67 H99 τ100) H99 τ100 fun v102 H103 τ104 => gK v101 true (fun q' => q' t9 H103 τ104) H103 τ104 fun v105 H106 τ107 => gK v101 true (fun q' => binK .lss v102 v105 fun v => q' v H106 τ107) H106 τ107 fun v108 H109 τ110 => someK (pPick [v101, v108, (.bool false)]) fun v111 => condK v111 (someK (pStrSlice true false [t0, v67]) fun v112 => call f_bytealg_IndexRabinKarp_string [v112, t1] H109 τ110 fun v113 H114 τ115 =>
    binK .lss v113 (.int .i64 (.ofNat 0)) fun v116 => condK v116 (k .ret ⟨(T.set .leaf 4 (.int .i64 (.negSucc 0))), H114⟩ τ115) (binK .add v67 v113 fun v117 => k .ret ⟨(T.set .leaf 4 v117), H114⟩ τ115)) (k .normal ⟨(T.set (T.set (T.set (T.set (T.set (T.set (T.set (T.set (T.set .leaf 0 t0) 1 t1) 5 t5) 6 t6) 7 t7) 8 v67) 9 t9) 10 v68) 132 v111), H109⟩ τ110)))
def s_stringslite_Index_l1 (call : CallK) (N : Nat) (st : St) (τ : Tape) (k : KC) : Ans := match st with
  | ⟨fr, H⟩ => getK fr 0 fun t0 => getK fr 1 fun t1 => getK fr 5 fun t5 => getK fr 6 fun t6 => getK fr 7 fun t7 => getK fr 8 fun t8 => getK fr 9 fun t9 => getK fr 10 fun t10 => binK .lss t8 t9 fun v36 => condK v36 (someK (pStrIndex [t0, t8]) fun v37 => binK .neq v37 t6 fun v38 => condK v38 (binK .add t8 (.int .i64 (.ofNat 1)) fun v118 => someK (pStrSlice true true [t0, v118, t9]) fun v119 => call f_stringslite_IndexByte [v119, t6] H τ fun v120 H121 τ122 => binK .lss v120 (.int .i64 (.ofNat 0)) fun v123 => condK v123 (k .ret ⟨(T.set .leaf 4 (.int .i64 (.negSucc 0))), H121⟩ τ122) (binK .add v120 (.int .i64 (.ofNat 1)) fun v124 => binK .add t8 v124 fun v125 =>
    s_stringslite_Index_j2 call N k ⟨(T.set (T.set (T.set (T.set (T.set (T.set (T.set (T.set (T.set (T.set (T.set (T.set (T.set (T.set .leaf 0 t0) 1 t1) 5 t5) 6 t6) 7 t7) 8 t8) 9 t9) 10 t10) 11 v120) 74 t8) 75 v120) 76 v124) 77 v125) 8 v125), H121⟩ τ122)) (s_stringslite_Index_j2 call N k ⟨(T.set (T.set (T.set (T.set (T.set (T.set (T.set (T.set (T.set .leaf 0 t0) 1 t1) 5 t5) 6 t6) 7 t7) 8 t8) 9 t9) 10 t10) 64 v38), H⟩ τ)) (k (.exit 1) ⟨.leaf, H⟩ τ)
def s_stringslite_Index (call : CallK) (N : Nat) (a0 a1 : V) (H : Heap) (τ : Tape) (q : KV) : Ans := someK (pLenS [a1]) fun v0 => binK .eql v0 (.int .i64 (.ofNat 0)) fun v1 => gK v1 false (fun q' => q' a1 H τ) H τ fun v2 H3 τ4 => gK v1 false (fun q' => q' a0 H3 τ4) H3 τ4 fun v5 H6 τ7 => gK v1 false (fun q' => binK .eql v2 v5 fun v => q' v H6 τ7) H6 τ7 fun v8 H9 τ10 => someK (pPick [v1, (.bool true), v8]) fun v11 => condK v11 (q (.int .i64 (.ofNat 0)) H9 τ10) (binK .eql v0 (.int .i64 (.ofNat 1)) fun v12 => condK v12 (someK (pStrIndex [a1, (.int .i64 (.ofNat 0))]) fun v13 => call f_stringslite_IndexByte [a0, v13] H9 τ10 fun v14 H15 τ16 => q v14 H15 τ16) (someK (pLenS [a0]) fun v17 => binK .geq v0 v17 fun v18 => condK v18 (q (.int .i64 (.negSucc 0)) H9 τ10) (someK (lLoad1 [(.ptr 0 0)] H9) fun v19 => binK .leq v0 v19 fun v20 => gK v20 true (fun q' => q' a0 H9 τ10) H9 τ10 fun v21 H22 τ23 =>
    gK v20 true (fun q' => someK (pLenS [v21]) fun v => q' v H22 τ23) H22 τ23 fun v24 H25 τ26 => gK v20 true (fun q' => binK .leq v24 (.int .i64 (.ofNat 64)) fun v => q' v H25 τ26) H25 τ26 fun v27 H28 τ29 => someK (pPick [v20, v27, (.bool false)]) fun v30 => condK v30 (none) (someK (pStrIndex [a1, (.int .i64 (.ofNat 0))]) fun v31 => someK (pStrIndex [a1, (.int .i64 (.ofNat 1))]) fun v32 => someK (pLenS [a0]) fun v33 => binK .sub v33 v0 fun v34 => binK .add v34 (.int .i64 (.ofNat 1)) fun v35 => loopK (s_stringslite_Index_l1 call N) N ⟨(T.set (T.set (T.set (T.set (T.set (T.set (T.set (T.set .leaf 0 a0) 1 a1) 5 v0) 6 v31) 7 v32) 8 (.int .i64 (.ofNat 0))) 9 v35) 10 (.int .i64 (.ofNat 0))), H28⟩ τ29 (blockK 1 (seqK (s_stringslite_Index_j0 call N q) (endK [(.t 4)] q)))))))
theorem s_stringslite_Index_eq (call : CallK) (N : Nat) (a0 a1 : V) (H : Heap) (τ : Tape) (q : KV) : s_stringslite_Index call N a0 a1 H τ q = funK call N fn_stringslite_Index [a0, a1] H τ q := by kernel_rfl
def e_stringslite_Index (call : CallK) (N : Nat) (vs : List V) (H : Heap) (τ : Tape) (q : KV) : Ans := match vs with | [a0, a1] => s_stringslite_Index call N a0 a1 H τ q | _ => none
theorem e_stringslite_Index_ok : EntOk fn_stringslite_Index e_stringslite_Index := by
  intro call N vs H τ q r h
  unfold e_stringslite_Index at h
  split at h
  · rw [s_stringslite_Index_eq] at h; exact h
  · cases h
theorem e_stringslite_Index_nat : EntNat e_stringslite_Index := by
  intro c hn N vs H τ q
  unfold e_stringslite_Index
  split
  · rw [s_stringslite_Index_eq, s_stringslite_Index_eq]; exact funK_ent hn _ _ _ _ _ _
  · rfl
/-- internal/stringslite.CutPrefix -/
def fn_stringslite_CutPrefix : Fun := ⟨2, (.seq (.reg [iR 4 (.p .mv) [(.c (.str []))], iR 5 (.p .mv) [(.c (.bool false))]]) (.keep [0, 1] (.seq (.seq (.reg [iR 6 (.p .mv) [(.t 0)], iR 7 (.p .mv) [(.t 1)], iR 8 (.call 192) [(.t 6), (.t 7)], iR 9 (.p (.un .not)) [(.t 8)]]) (.keep [0, 1, 9] (.cond (.t 9) (.seq (.reg [iR 10 (.p .mv) [(.t 0)], iR 4 (.p .mv) [(.t 10)], iR 5 (.p .mv) [(.c (.bool false))]]) (.keep [4, 5] (.keep [4, 5] .ret))) .skip))) (.keep [0, 1] (.seq (.reg [iR 11 (.p .mv) [(.t 0)], iR 12 (.p .mv) [(.t 1)], iR 13 (.p .lenS) [(.t 12)], iR 14 (.p (.strSlice true false)) [(.t 11), (.t 13)], iR 4 (.p .mv) [(.t 14)], iR 5 (.p .mv) [(.c (.bool true))]]) (.keep [4, 5] (.keep [4, 5] .ret))))))), [(.t 4), (.t 5)]⟩
def s_stringslite_CutPrefix (call : CallK) (N : Nat) (a0 a1 : V) (H : Heap) (τ : Tape) (q : KV) : Ans := call f_stringslite_HasPrefix [a0, a1] H τ fun v0 H1 τ2 => unK .not v0 fun v3 => condK v3 (q (.tup [a0, (.bool false)]) H1 τ2) (someK (pLenS [a1]) fun v4 => someK (pStrSlice true false [a0, v4]) fun v5 => q (.tup [v5, (.bool true)]) H1 τ2)
theorem s_stringslite_CutPrefix_eq (call : CallK) (N : Nat) (a0 a1 : V) (H : Heap) (τ : Tape) (q : KV) : s_stringslite_CutPrefix call N a0 a1 H τ q = funK call N fn_stringslite_CutPrefix [a0, a1] H τ q := by kernel_rfl
def e_stringslite_CutPrefix (call : CallK) (N : Nat) (vs : List V) (H : Heap) (τ : Tape) (q : KV) : Ans := match vs with | [a0, a1] => s_stringslite_CutPrefix call N a0 a1 H τ q | _ => none
theorem e_stringslite_CutPrefix_ok : EntOk fn_stringslite_CutPrefix e_stringslite_CutPrefix := by
  intro call N vs H τ q r h
  unfold e_stringslite_CutPrefix at h
  split at h
  · rw [s_stringslite_CutPrefix_eq] at h; exact h
  · cases h
theorem e_stringslite_CutPrefix_nat : EntNat e_stringslite_CutPrefix := by
  intro c hn N vs H τ q
  unfold e_stringslite_CutPrefix
  split
  · rw [s_stringslite_CutPrefix_eq, s_stringslite_CutPrefix_eq]; exact funK_ent hn _ _ _ _ _ _
  · rfl
/-- (*strings.asciiSet).contains -/
def fn_asciiSet_contains : Fun := ⟨2, (.seq (.reg [iR 4 (.p .mv) [(.c (.bool false))]]) (.keep [0, 1] (.seq (.reg [iR 5 (.p .mv) [(.t 0)], iR 6 (.p .mv) [(.t 1)], iR 7 (.p .nilck) [(.t 5)], iR 8 (.p (.arrIdx 256 1)) [(.t 7), (.t 6)], iR 9 (.l (.load none)) [(.t 8)], iR 4 (.p .mv) [(.t 9)]]) (.keep [4] (.keep [4] .ret))))), [(.t 4)]⟩
def s_asciiSet_contains (call : CallK) (N : Nat) (a0 a1 : V) (H : Heap) (τ : Tape) (q : KV) : Ans := someK (pNilck [a0]) fun v0 => someK (pArrIdx 256 1 [v0, a1]) fun v1 => someK (lLoad1 [v1] H) fun v2 => q v2 H τ
theorem s_asciiSet_contains_eq (call : CallK) (N : Nat) (a0 a1 : V) (H : Heap) (τ : Tape) (q : KV) : s_asciiSet_contains call N a0 a1 H τ q = funK call N fn_asciiSet_contains [a0, a1] H τ q := by kernel_rfl
def e_asciiSet_contains (call : CallK) (N : Nat) (vs : List V) (H : Heap) (τ : Tape) (q : KV) : Ans := match vs with | [a0, a1] => s_asciiSet_contains call N a0 a1 H τ q | _ => none
theorem e_asciiSet_contains_ok : EntOk fn_asciiSet_contains e_asciiSet_contains := by
  intro call N vs H τ q r h
  unfold e_asciiSet_contains at h
  split at h
  · rw [s_asciiSet_contains_eq] at h; exact h
  · cases h
theorem e_asciiSet_contains_nat : EntNat e_asciiSet_contains := by
  intro c hn N vs H τ q
  unfold e_asciiSet_contains
  split
  · rw [s_asciiSet_contains_eq, s_asciiSet_contains_eq]; exact funK_ent hn _ _ _ _ _ _
  · rfl
/-- unicode/utf8.DecodeRuneInString -/
def fn_utf8_DecodeRuneInString : Fun := ⟨1, (.seq (.reg [iR 2 (.p .mv) [(.c (.int .i32 (.ofNat 0)))], iR 3 (.p .mv) [(.c (.int .i64 (.ofNat 0)))]]) (.keep [0] (.seq (.seq (.reg [iR 4 (.p .mv) [(.t 0)], iR 5 (.p (.bin .neq)) [(.t 4), (.c (.str []))], iR 6 (.p .mv) [(.t 5)], iG 7 6 true (.p .mv) [(.t 0)], iG 8 6 true (.p .strIndex) [(.t 7), (.c (.int .i64 (.ofNat 0)))], iG 9 6 true (.p (.bin .lss)) [(.t 8), (.c (.int .u8 (.ofNat 128)))], iR 10 (.p .pick) [(.t 6), (.t 9), (.c (.bool false))]]) (.keep [0, 10] (.cond (.t 10) (.seq (.reg [iR 11 (.p .mv) [(.t 0)], iR 12 (.p .strIndex) [(.t 11), (.c (.int .i64 (.ofNat 0)))], iR 13 (.p (.toInt .i32)) [(.t 12)], iR 2 (.p .mv) [(.t 13)], iR 3 (.p .mv) [(.c (.int .i64 (.ofNat 1)))]]) (.keep [2, 3] (.keep [2, 3] .ret))) (.reg [iR 15 (.p .mv) [(.t 0)], iR 16 (.call 193) [(.t 15)], iR 14 (.p .mv) [(.t 16)], iR 17 (.p (.extract 0)) [(.t 14)],
    iR 18 (.p (.extract 1)) [(.t 14)], iR 2 (.p .mv) [(.t 17)], iR 3 (.p .mv) [(.t 18)]])))) (.keep [2, 3] (.keep [2, 3] .ret))))), [(.t 2), (.t 3)]⟩
def s_utf8_DecodeRuneInString (call : CallK) (N : Nat) (a0 : V) (H : Heap) (τ : Tape) (q : KV) : Ans := binK .neq a0 (.str []) fun v0 => gK v0 true (fun q' => q' a0 H τ) H τ fun v1 H2 τ3 => gK v0 true (fun q' => someK (pStrIndex [v1, (.int .i64 (.ofNat 0))]) fun v => q' v H2 τ3) H2 τ3 fun v4 H5 τ6 => gK v0 true (fun q' => binK .lss v4 (.int .u8 (.ofNat 128)) fun v => q' v H5 τ6) H5 τ6 fun v7 H8 τ9 => someK (pPick [v0, v7, (.bool false)]) fun v10 => condK v10 (someK (pStrIndex [a0, (.int .i64 (.ofNat 0))]) fun v11 => toIntK .i32 v11 fun v12 => q (.tup [v12, (.int .i64 (.ofNat 1))]) H8 τ9) (call f_utf8_decodeRuneInStringSlow [a0] H8 τ9 fun v13 H14 τ15 => someK (pExtract 0 [v13]) fun v16 => someK (pExtract 1 [v13]) fun v17 => q (.tup [v16, v17]) H14 τ15)
theorem s_utf8_DecodeRuneInString_eq (call : CallK) (N : Nat) (a0 : V) (H : Heap) (τ : Tape) (q : KV) : s_utf8_DecodeRuneInString call N a0 H τ q = funK call N fn_utf8_DecodeRuneInString [a0] H τ q := by kernel_rfl
def e_utf8_DecodeRuneInString (call : CallK) (N : Nat) (vs : List V) (H : Heap) (τ : Tape) (q : KV) : Ans := match vs with | [a0] => s_utf8_DecodeRuneInString call N a0 H τ q | _ => none
theorem e_utf8_DecodeRuneInString_ok : EntOk fn_utf8_DecodeRuneInString e_utf8_DecodeRuneInString := by
  intro call N vs H τ q r h
  unfold e_utf8_DecodeRuneInString at h
  split at h
  · rw [s_utf8_DecodeRuneInString_eq] at h; exact h
  · cases h
theorem e_utf8_DecodeRuneInString_nat : EntNat e_utf8_DecodeRuneInString := by
  intro c hn N vs H τ q
  unfold e_utf8_DecodeRuneInString
  split
  · rw [s_utf8_DecodeRuneInString_eq, s_utf8_DecodeRuneInString_eq]; exact funK_ent hn _ _ _ _ _ _
  · rfl
/-- strings.ContainsRune -/
def fn_strings_ContainsRune : Fun := ⟨2, (.seq (.reg [iR 4 (.p .mv) [(.c (.bool false))]]) (.keep [0, 1] (.seq (.reg [iR 5 (.p .mv) [(.t 0)], iR 6 (.p .mv) [(.t 1)], iR 7 (.call 194) [(.t 5), (.t 6)], iR 8 (.p (.bin .geq)) [(.t 7), (.c (.int .i64 (.ofNat 0)))], iR 4 (.p .mv) [(.t 8)]]) (.keep [4] (.keep [4] .ret))))), [(.t 4)]⟩
def s_strings_ContainsRune (call : CallK) (N : Nat) (a0 a1 : V) (H : Heap) (τ : Tape) (q : KV) : Ans := call f_strings_IndexRune [a0, a1] H τ fun v0 H1 τ2 => binK .geq v0 (.int .i64 (.ofNat 0)) fun v3 => q v3 H1 τ2
theorem s_strings_ContainsRune_eq (call : CallK) (N : Nat) (a0 a1 : V) (H : Heap) (τ : Tape) (q : KV) : s_strings_ContainsRune call N a0 a1 H τ q = funK call N fn_strings_ContainsRune [a0, a1] H τ q := by kernel_rfl
def e_strings_ContainsRune (call : CallK) (N : Nat) (vs : List V) (H : Heap) (τ : Tape) (q : KV) : Ans := match vs with | [a0, a1] => s_strings_ContainsRune call N a0 a1 H τ q | _ => none
theorem e_strings_ContainsRune_ok : EntOk fn_strings_ContainsRune e_strings_ContainsRune := by
  intro call N vs H τ q r h
  unfold e_strings_ContainsRune at h
  split at h
  · rw [s_strings_ContainsRune_eq] at h; exact h
  · cases h
theorem e_strings_ContainsRune_nat : EntNat e_strings_ContainsRune := by
  intro c hn N vs H τ q
  unfold e_strings_ContainsRune
  split
  · rw [s_strings_ContainsRune_eq, s_strings_ContainsRune_eq]; exact funK_ent hn _ _ _ _ _ _
  · rfl
/-- unicode/utf8.DecodeLastRuneInString -/
def fn_utf8_DecodeLastRuneInString : Fun := ⟨1, (.seq (.reg [iR 2 (.p .mv) [(.c (.int .i32 (.ofNat 0)))], iR 3 (.p .mv) [(.c (.int .i64 (.ofNat 0)))]]) (.keep [0] (.seq (.reg [iR 7 (.p .mv) [(.t 0)], iR 8 (.p .lenS) [(.t 7)], iR 4 (.p .mv) [(.t 8)]]) (.keep [0, 4] (.seq (.seq (.reg [iR 9 (.p .mv) [(.t 4)], iR 10 (.p (.bin .eql)) [(.t 9), (.c (.int .i64 (.ofNat 0)))]]) (.keep [0, 4, 10] (.cond (.t 10) (.seq (.reg [iR 2 (.p .mv) [(.c (.int .i32 (.ofNat 65533)))], iR 3 (.p .mv) [(.c (.int .i64 (.ofNat 0)))]]) (.keep [2, 3] (.keep [2, 3] .ret))) .skip))) (.keep [0, 4] (.seq (.reg [iR 11 (.p .mv) [(.t 4)], iR 12 (.p (.bin .sub)) [(.t 11), (.c (.int .i64 (.ofNat 1)))], iR 5 (.p .mv) [(.t 12)]]) (.keep [0, 4, 5] (.seq (.reg [iR 13 (.p .mv) [(.t 0)], iR 14 (.p .mv) [(.t 5)], iR 15 (.p .strIndex) [(.t 13), (.t 14)], iR 16 (.p (.toInt .i32)) [(.t 15)], iR 2 (.p .mv) [(.t 16)]])
    (.keep [0, 2, 4, 5] (.seq (.seq (.reg [iR 17 (.p .mv) [(.t 2)], iR 18 (.p (.bin .lss)) [(.t 17), (.c (.int .i32 (.ofNat 128)))]]) (.keep [0, 2, 4, 5, 18] (.cond (.t 18) (.seq (.reg [iR 19 (.p .mv) [(.t 2)], iR 2 (.p .mv) [(.t 19)], iR 3 (.p .mv) [(.c (.int .i64 (.ofNat 1)))]]) (.keep [2, 3] (.keep [2, 3] .ret))) .skip))) (.keep [0, 4, 5] (.seq (.reg [iR 20 (.p .mv) [(.t 4)], iR 21 (.p (.bin .sub)) [(.t 20), (.c (.int .i64 (.ofNat 4)))], iR 22 (.p .max2) [(.t 21), (.c (.int .i64 (.ofNat 0)))], iR 6 (.p .mv) [(.t 22)]]) (.keep [0, 4, 5, 6] (.seq (.seq (.reg [iR 23 (.p .mv) [(.t 5)], iR 24 (.p (.bin .sub)) [(.t 23), (.c (.int .i64 (.ofNat 1)))], iR 5 (.p .mv) [(.t 24)]]) (.keep [0, 4, 5, 6] (.block 0 (.loop (.keep [0, 4, 5, 6] (.seq (.seq (.reg [iR 25 (.p .mv) [(.t 5)], iR 26 (.p .mv) [(.t 6)], iR 27 (.p (.bin .geq)) [(.t 25), (.t 26)]]) (.keep [0, 4, 5, 6, 27] (.cond (.t 27) .skip
    (.keep [0, 4, 5] (.exit 0))))) (.keep [0, 4, 5, 6] (.seq (.block 1 (.seq (.reg [iR 30 (.p .mv) [(.t 0)], iR 31 (.p .mv) [(.t 5)], iR 32 (.p .strIndex) [(.t 30), (.t 31)], iR 33 (.call 195) [(.t 32)]]) (.keep [0, 4, 5, 6, 33] (.cond (.t 33) (.keep [0, 4, 5] (.exit 0)) .skip)))) (.keep [0, 4, 5, 6] (.reg [iR 28 (.p .mv) [(.t 5)], iR 29 (.p (.bin .sub)) [(.t 28), (.c (.int .i64 (.ofNat 1)))], iR 5 (.p .mv) [(.t 29)]])))))))))) (.keep [0, 4, 5] (.seq (.seq (.reg [iR 34 (.p .mv) [(.t 5)], iR 35 (.p (.bin .lss)) [(.t 34), (.c (.int .i64 (.ofNat 0)))]]) (.keep [0, 4, 5, 35] (.cond (.t 35) (.reg [iR 5 (.p .mv) [(.c (.int .i64 (.ofNat 0)))]]) .skip))) (.keep [0, 4, 5] (.seq (.reg [iR 37 (.p .mv) [(.t 0)], iR 38 (.p .mv) [(.t 5)], iR 39 (.p .mv) [(.t 4)], iR 40 (.p (.strSlice true true)) [(.t 37), (.t 38), (.t 39)], iR 41 (.call 172) [(.t 40)], iR 36 (.p .mv) [(.t 41)],
    iR 42 (.p (.extract 0)) [(.t 36)], iR 43 (.p (.extract 1)) [(.t 36)], iR 2 (.p .mv) [(.t 42)], iR 3 (.p .mv) [(.t 43)]]) (.keep [2, 3, 4, 5] (.seq (.seq (.reg [iR 44 (.p .mv) [(.t 5)], iR 45 (.p .mv) [(.t 3)], iR 46 (.p (.bin .add)) [(.t 44), (.t 45)], iR 47 (.p .mv) [(.t 4)], iR 48 (.p (.bin .neq)) [(.t 46), (.t 47)]]) (.keep [2, 3, 48] (.cond (.t 48) (.seq (.reg [iR 2 (.p .mv) [(.c (.int .i32 (.ofNat 65533)))], iR 3 (.p .mv) [(.c (.int .i64 (.ofNat 1)))]]) (.keep [2, 3] (.keep [2, 3] .ret))) .skip))) (.keep [2, 3] (.seq (.reg [iR 49 (.p .mv) [(.t 2)], iR 50 (.p .mv) [(.t 3)], iR 2 (.p .mv) [(.t 49)], iR 3 (.p .mv) [(.t 50)]]) (.keep [2, 3] (.keep [2, 3] .ret))))))))))))))))))))))))), [(.t 2), (.t 3)]⟩
def s_utf8_DecodeLastRuneInString_j1 (call : CallK) (N : Nat) (q : KV) (st : St) (τ : Tape) : Ans := match st with
  | ⟨fr, H⟩ => getK fr 0 fun t0 => getK fr 4 fun t4 => getK fr 5 fun t5 => someK (pStrSlice true true [t0, t5, t4]) fun v10 => call f_utf8_DecodeRuneInString [v10] H τ fun v11 H12 τ13 => someK (pExtract 0 [v11]) fun v14 => someK (pExtract 1 [v11]) fun v15 => binK .add t5 v15 fun v16 => binK .neq v16 t4 fun v17 => condK v17 (q (.tup [(.int .i32 (.ofNat 65533)), (.int .i64 (.ofNat 1))]) H12 τ13) (q (.tup [v14, v15]) H12 τ13)
def s_utf8_DecodeLastRuneInString_j0 (call : CallK) (N : Nat) (q : KV) (st : St) (τ : Tape) : Ans := match st with
  | ⟨fr, H⟩ => getK fr 0 fun t0 => getK fr 4 fun t4 => getK fr 5 fun t5 => binK .lss t5 (.int .i64 (.ofNat 0)) fun v9 => condK v9 (s_utf8_DecodeLastRuneInString_j1 call N q ⟨(T.set (T.set (T.set (T.set (T.set .leaf 0 t0) 4 t4) 5 t5) 35 v9) 5 (.int .i64 (.ofNat 0))), H⟩ τ) (s_utf8_DecodeLastRuneInString_j1 call N q ⟨(T.set (T.set (T.set (T.set .leaf 0 t0) 4 t4) 5 t5) 35 v9), H⟩ τ)
def s_utf8_DecodeLastRuneInString_l2 (call : CallK) (N : Nat) (st : St) (τ : Tape) (k : KC) : Ans := match st with
  | ⟨fr, H⟩ => getK fr 0 fun t0 => getK fr 4 fun t4 => getK fr 5 fun t5 => getK fr 6 fun t6 => binK .geq t5 t6 fun v18 => condK v18 (someK (pStrIndex [t0, t5]) fun v19 => call f_utf8_RuneStart [v19] H τ fun v20 H21 τ22 => condK v20 (k (.exit 0) ⟨(T.set (T.set (T.set .leaf 0 t0) 4 t4) 5 t5), H21⟩ τ22) (binK .sub t5 (.int .i64 (.ofNat 1)) fun v23 => k .normal ⟨(T.set (T.set (T.set (T.set (T.set (T.set (T.set .leaf 0 t0) 4 t4) 5 t5) 6 t6) 28 t5) 29 v23) 5 v23), H21⟩ τ22)) (k (.exit 0) ⟨(T.set (T.set (T.set .leaf 0 t0) 4 t4) 5 t5), H⟩ τ)
def s_utf8_DecodeLastRuneInString (call : CallK) (N : Nat) (a0 : V) (H : Heap) (τ : Tape) (q : KV) : Ans := someK (pLenS [a0]) fun v0 => binK .eql v0 (.int .i64 (.ofNat 0)) fun v1 => condK v1 (q (.tup [(.int .i32 (.ofNat 65533)), (.int .i64 (.ofNat 0))]) H τ) (binK .sub v0 (.int .i64 (.ofNat 1)) fun v2 => someK (pStrIndex [a0, v2]) fun v3 => toIntK .i32 v3 fun v4 => binK .lss v4 (.int .i32 (.ofNat 128)) fun v5 => condK v5 (q (.tup [v4, (.int .i64 (.ofNat 1))]) H τ) (binK .sub v0 (.int .i64 (.ofNat 4)) fun v6 => someK (pMax [v6, (.int .i64 (.ofNat 0))]) fun v7 => binK .sub v2 (.int .i64 (.ofNat 1)) fun v8 => loopK (s_utf8_DecodeLastRuneInString_l2 call N) N ⟨(T.set (T.set (T.set (T.set .leaf 0 a0) 4 v0) 5 v8) 6 v7), H⟩ τ (blockK 0 (seqK (s_utf8_DecodeLastRuneInString_j0 call N q) (endK [(.t 2), (.t 3)] q)))))
theorem s_utf8_DecodeLastRuneInString_eq (call : CallK) (N : Nat) (a0 : V) (H : Heap) (τ : Tape) (q : KV) : s_utf8_DecodeLastRuneInString call N a0 H τ q = funK call N fn_utf8_DecodeLastRuneInString [a0] H τ q := by kernel_rfl
def e_utf8_DecodeLastRuneInString (call : CallK) (N : Nat) (vs : List V) (H : Heap) (τ : Tape) (q : KV) : Ans := match vs with | [a0] => s_utf8_DecodeLastRuneInString call N a0 H τ q | _ => none
theorem e_utf8_DecodeLastRuneInString_ok : EntOk fn_utf8_DecodeLastRuneInString e_utf8_DecodeLastRuneInString := by
  intro call N vs H τ q r h
  unfold e_utf8_DecodeLastRuneInString at h
  split at h
  · rw [s_utf8_DecodeLastRuneInString_eq] at h; exact h
  · cases h
theorem e_utf8_DecodeLastRuneInString_nat : EntNat e_utf8_DecodeLastRuneInString := by
  intro c hn N vs H τ q
  unfold e_utf8_DecodeLastRuneInString
  split
  · rw [s_utf8_DecodeLastRuneInString_eq, s_utf8_DecodeLastRuneInString_eq]; exact funK_ent hn _ _ _ _ _ _
  · rfl
/-- internal/strconv.FormatInt -/
def fn_strconv_FormatInt : Fun := ⟨2, (.seq (.reg [iR 4 (.p .mv) [(.c (.str []))]]) (.keep [0, 1] (.seq (.seq (.reg [iR 10 (.p .mv) [(.t 1)], iR 11 (.p (.bin .eql)) [(.t 10), (.c (.int .i64 (.ofNat 10)))]]) (.keep [0, 1, 11] (.cond (.t 11) (.seq (.seq (.reg [iR 12 (.p .mv) [(.t 0)], iR 13 (.p (.bin .leq)) [(.c (.int .i64 (.ofNat 0))), (.t 12)], iR 14 (.p .mv) [(.t 13)], iG 15 14 true (.p .mv) [(.t 0)], iG 16 14 true (.p (.bin .lss)) [(.t 15), (.c (.int .i64 (.ofNat 100)))], iR 17 (.p .pick) [(.t 14), (.t 16), (.c (.bool false))]]) (.keep [0, 17] (.cond (.t 17) (.seq (.reg [iR 18 (.p .mv) [(.t 0)], iR 19 (.call 196) [(.t 18)], iR 4 (.p .mv) [(.t 19)]]) (.keep [4] (.keep [4] .ret))) .skip))) (.keep [0] (.seq (.reg [iR 5 (.e (.alloc (repl 24 [(.int .u8 (.ofNat 0))]))) []]) (.keep [0, 5] (.seq (.reg [iR 20 (.p .mv) [(.t 0)], iR 21 (.p (.toInt .u64)) [(.t 20)], iR 6 (.p .mv) [(.t 21)]])
    (.keep [0, 5, 6] (.seq (.seq (.reg [iR 22 (.p .mv) [(.t 0)], iR 23 (.p (.bin .lss)) [(.t 22), (.c (.int .i64 (.ofNat 0)))]]) (.keep [0, 5, 6, 23] (.cond (.t 23) (.reg [iR 24 (.p .mv) [(.t 6)], iR 25 (.p (.un .neg)) [(.t 24)], iR 6 (.p .mv) [(.t 25)]]) .skip))) (.keep [0, 5, 6] (.seq (.reg [iR 26 (.p .mv) [(.t 6)], iR 27 (.call 197) [(.t 26)], iR 7 (.p .mv) [(.t 27)]]) (.keep [0, 5, 6, 7] (.seq (.reg [iR 28 (.p .mv) [(.t 7)], iR 29 (.p (.bin .add)) [(.c (.int .i64 (.ofNat 1))), (.t 28)], iR 30 (.p (.arrSlice 24 1 true true false)) [(.t 5), (.c (.int .i64 (.ofNat 1))), (.t 29)], iR 31 (.p .mv) [(.t 6)], iR 32 (.call 198) [(.t 30), (.t 31)]]) (.keep [0, 5, 7] (.seq (.seq (.reg [iR 33 (.p .mv) [(.t 0)], iR 34 (.p (.bin .lss)) [(.t 33), (.c (.int .i64 (.ofNat 0)))]]) (.keep [5, 7, 34] (.cond (.t 34) (.seq (.reg [iR 35 (.p (.arrIdx 24 1)) [(.t 5), (.c (.int .i64 (.ofNat 0)))],
    ⟨none, none, (.e (.store 1)), [(.t 35), (.c (.int .u8 (.ofNat 45)))], none⟩]) (.keep [5, 7] (.seq (.reg [iR 36 (.p .mv) [(.t 7)], iR 37 (.p (.bin .add)) [(.c (.int .i64 (.ofNat 1))), (.t 36)], iR 38 (.p (.arrSlice 24 1 false true false)) [(.t 5), (.t 37)], iR 39 (.l .bytesStr) [(.t 38)], iR 4 (.p .mv) [(.t 39)]]) (.keep [4] (.keep [4] .ret))))) .skip))) (.keep [5, 7] (.seq (.reg [iR 40 (.p .mv) [(.t 7)], iR 41 (.p (.bin .add)) [(.c (.int .i64 (.ofNat 1))), (.t 40)], iR 42 (.p (.arrSlice 24 1 true true false)) [(.t 5), (.c (.int .i64 (.ofNat 1))), (.t 41)], iR 43 (.l .bytesStr) [(.t 42)], iR 4 (.p .mv) [(.t 43)]]) (.keep [4] (.keep [4] .ret))))))))))))))))) .skip))) (.keep [0, 1] (.seq (.reg [iR 45 (.p .mv) [(.t 0)], iR 46 (.p (.toInt .u64)) [(.t 45)], iR 47 (.p .mv) [(.t 1)], iR 48 (.p .mv) [(.t 0)], iR 49 (.p (.bin .lss)) [(.t 48), (.c (.int .i64 (.ofNat 0)))],
    iR 50 (.call 199) [(.c .nils), (.t 46), (.t 47), (.t 49), (.c (.bool false))], iR 44 (.p .mv) [(.t 50)], iR 51 (.p (.extract 0)) [(.t 44)], iR 52 (.p (.extract 1)) [(.t 44)], iR 8 (.p .mv) [(.t 51)], iR 9 (.p .mv) [(.t 52)]]) (.keep [9] (.seq (.reg [iR 53 (.p .mv) [(.t 9)], iR 4 (.p .mv) [(.t 53)]]) (.keep [4] (.keep [4] .ret))))))))), [(.t 4)]⟩
def s_strconv_FormatInt_j0 (call : CallK) (N : Nat) (q : KV) (st : St) (τ : Tape) : Ans := match st with
  | ⟨fr, H⟩ => getK fr 0 fun t0 => getK fr 1 fun t1 => toIntK .u64 t0 fun v17 => binK .lss t0 (.int .i64 (.ofNat 0)) fun v18 => call f_strconv_formatBits [.nils, v17, t1, v18, (.bool false)] H τ fun v19 H20 τ21 => someK (pExtract 0 [v19]) fun v22 => someK (pExtract 1 [v19]) fun v23 => q v23 H20 τ21
def s_strconv_FormatInt_j1 (call : CallK) (N : Nat) (q : KV) (st : St) (τ : Tape) : Ans := match st with
  | ⟨fr, H⟩ => getK fr 0 fun t0 => getK fr 5 fun t5 => getK fr 6 fun t6 => call f_strconv_numDigits [t6] H τ fun v24 H25 τ26 => binK .add (.int .i64 (.ofNat 1)) v24 fun v27 => someK (pArrSlice 24 1 true true false [t5, (.int .i64 (.ofNat 1)), v27]) fun v28 => call f_strconv_formatBase10 [v28, t6] H25 τ26 fun v29 H30 τ31 => binK .lss t0 (.int .i64 (.ofNat 0)) fun v32 => condK v32 (someK (pArrIdx 24 1 [t5, (.int .i64 (.ofNat 0))]) fun v33 => effK (eStore 1 [v33, (.int .u8 (.ofNat 45))] H30 τ31) fun v34 H35 τ36 => binK .add (.int .i64 (.ofNat 1)) v24 fun v37 => someK (pArrSlice 24 1 false true false [t5, v37]) fun v38 => someK (lBytesStr [v38] H35) fun v39 => q v39 H35 τ36) (binK .add (.int .i64 (.ofNat 1)) v24 fun v40 => someK (pArrSlice 24 1 true true false [t5, (.int .i64 (.ofNat 1)), v40]) fun v41 => someK (lBytesStr [v41] H30) fun v42 => q v42 H30 τ31)
def s_strconv_FormatInt (call : CallK) (N : Nat) (a0 a1 : V) (H : Heap) (τ : Tape) (q : KV) : Ans := binK .eql a1 (.int .i64 (.ofNat 10)) fun v0 => condK v0 (binK .leq (.int .i64 (.ofNat 0)) a0 fun v1 => gK v1 true (fun q' => q' a0 H τ) H τ fun v2 H3 τ4 => gK v1 true (fun q' => binK .lss v2 (.int .i64 (.ofNat 100)) fun v => q' v H3 τ4) H3 τ4 fun v5 H6 τ7 => someK (pPick [v1, v5, (.bool false)]) fun v8 => condK v8 (call f_strconv_small [a0] H6 τ7 fun v9 H10 τ11 => q v9 H10 τ11) (effK (eAlloc (repl 24 [(.int .u8 (.ofNat 0))]) [] H6 τ7) fun v12 H13 τ14 => toIntK .u64 a0 fun v15 => binK .lss a0 (.int .i64 (.ofNat 0)) fun v16 => condK v16 (unK .neg v15 fun v43 => s_strconv_FormatInt_j1 call N q ⟨(T.set (T.set (T.set (T.set (T.set (T.set (T.set .leaf 0 a0) 5 v12) 6 v15) 23 v16) 24 v15) 25 v43) 6 v43), H13⟩ τ14)
    (s_strconv_FormatInt_j1 call N q ⟨(T.set (T.set (T.set (T.set .leaf 0 a0) 5 v12) 6 v15) 23 v16), H13⟩ τ14))) (toIntK .u64 a0 fun v44 => binK .lss a0 (.int .i64 (.ofNat 0)) fun v45 => call f_strconv_formatBits [.nils, v44, a1, v45, (.bool false)] H τ fun v46 H47 τ48 => someK (pExtract 0 [v46]) fun v49 => someK (pExtract 1 [v46]) fun v50 => q v50 H47 τ48)
theorem s_strconv_FormatInt_eq (call : CallK) (N : Nat) (a0 a1 : V) (H : Heap) (τ : Tape) (q : KV) : s_strconv_FormatInt call N a0 a1 H τ q = funK call N fn_strconv_FormatInt [a0, a1] H τ q := by kernel_rfl
def e_strconv_FormatInt (call : CallK) (N : Nat) (vs : List V) (H : Heap) (τ : Tape) (q : KV) : Ans := match vs with | [a0, a1] => s_strconv_FormatInt call N a0 a1 H τ q | _ => none
theorem e_strconv_FormatInt_ok : EntOk fn_strconv_FormatInt e_strconv_FormatInt := by
  intro call N vs H τ q r h
  unfold e_strconv_FormatInt at h
  split at h
  · rw [s_strconv_FormatInt_eq] at h; exact h
  · cases h
theorem e_strconv_FormatInt_nat : EntNat e_strconv_FormatInt := by
  intro c hn N vs H τ q
  unfold e_strconv_FormatInt
  split
  · rw [s_strconv_FormatInt_eq, s_strconv_FormatInt_eq]; exact funK_ent hn _ _ _ _ _ _
  · rfl
/-- ostiary/ostiaryref1.In -/
def fn_ref1_In : Fun := ⟨2, (.seq (.reg [iR 4 (.p .mv) [(.c (.bool false))]]) (.keep [0, 1] (.seq (.reg [iR 8 (.p .mv) [(.t 0)], iR 9 (.p (.bin .lss)) [(.t 8), (.c (.int .u8 (.ofNat 32)))], iR 10 (.p .mv) [(.t 9)], iG 11 10 false (.p .mv) [(.t 0)], iG 12 10 false (.p (.bin .gtr)) [(.t 11), (.c (.int .u8 (.ofNat 126)))], iR 13 (.p .pick) [(.t 10), (.c (.bool true)), (.t 12)], iR 5 (.p .mv) [(.t 13)]]) (.keep [0, 1, 5] (.seq (.reg [iR 6 (.p .mv) [(.c (.str []))]]) (.keep [0, 1, 5, 6] (.seq (.seq (.reg [iR 14 (.p .mv) [(.t 1)]]) (.keep [0, 5, 6, 14] (.block 0 (.seq (.reg [iR 16 (.p (.bin .eql)) [(.t 14), (.c (.int .i64 (.ofNat 1)))], iR 15 (.p .mv) [(.t 16)]]) (.keep [0, 5, 6, 14, 15] (.cond (.t 15) .skip (.seq (.reg [iR 18 (.p (.bin .eql)) [(.t 14), (.c (.int .i64 (.ofNat 2)))], iR 17 (.p .mv) [(.t 18)]]) (.keep [0, 5, 14, 17] (.cond (.t 17)
    (.reg [iR 6 (.p .mv) [(.c (.str (bs [32, 34, 60, 62, 96])))]]) (.seq (.reg [iR 20 (.p (.bin .eql)) [(.t 14), (.c (.int .i64 (.ofNat 3)))], iR 19 (.p .mv) [(.t 20)]]) (.keep [0, 5, 14, 19] (.cond (.t 19) (.reg [iR 6 (.p .mv) [(.c (.str (bs [32, 34, 35, 60, 62])))]]) (.seq (.reg [iR 22 (.p (.bin .eql)) [(.t 14), (.c (.int .i64 (.ofNat 4)))], iR 21 (.p .mv) [(.t 22)]]) (.keep [0, 5, 14, 21] (.cond (.t 21) (.reg [iR 6 (.p .mv) [(.c (.str (bs [32, 34, 35, 60, 62, 39])))]]) (.seq (.reg [iR 24 (.p (.bin .eql)) [(.t 14), (.c (.int .i64 (.ofNat 5)))], iR 23 (.p .mv) [(.t 24)]]) (.keep [0, 5, 14, 23] (.cond (.t 23) (.reg [iR 6 (.p .mv) [(.c (.str (bs [32, 34, 35, 60, 62, 63, 94, 96, 123, 125])))]]) (.seq (.reg [iR 26 (.p (.bin .eql)) [(.t 14), (.c (.int .i64 (.ofNat 6)))], iR 25 (.p .mv) [(.t 26)]]) (.keep [0, 5, 25] (.cond (.t 25)
    (.reg [iR 6 (.p .mv) [(.c (.str (bs [32, 34, 35, 60, 62, 63, 94, 96, 123, 125, 47, 58, 59, 61, 64, 91, 92, 93, 124])))]]) (.seq (.reg [iR 4 (.p .mv) [(.c (.bool false))]]) (.keep [4] (.keep [4] .ret)))))))))))))))))))))))) (.keep [0, 5, 6] (.seq (.seq (.reg [iR 7 (.p .mv) [(.c (.int .i64 (.ofNat 0)))]]) (.keep [0, 5, 6, 7] (.block 1 (.loop (.keep [0, 5, 6, 7] (.seq (.seq (.reg [iR 27 (.p .mv) [(.t 7)], iR 28 (.p .mv) [(.t 6)], iR 29 (.p .lenS) [(.t 28)], iR 30 (.p (.bin .lss)) [(.t 27), (.t 29)]]) (.keep [0, 5, 6, 7, 30] (.cond (.t 30) .skip (.keep [5] (.exit 1))))) (.keep [0, 5, 6, 7] (.seq (.block 2 (.reg [iR 33 (.p .mv) [(.t 5)], iR 34 (.p .mv) [(.t 33)], iG 35 34 false (.p .mv) [(.t 0)], iG 36 34 false (.p .mv) [(.t 6)], iG 37 34 false (.p .mv) [(.t 7)], iG 38 34 false (.p .strIndex) [(.t 36), (.t 37)], iG 39 34 false (.p (.bin .eql)) [(.t 35), (.t 38)],
    iR 40 (.p .pick) [(.t 34), (.c (.bool true)), (.t 39)], iR 5 (.p .mv) [(.t 40)]])) (.keep [0, 5, 6, 7] (.reg [iR 31 (.p .mv) [(.t 7)], iR 32 (.p (.bin .add)) [(.t 31), (.c (.int .i64 (.ofNat 1)))], iR 7 (.p .mv) [(.t 32)]])))))))))) (.keep [5] (.seq (.reg [iR 41 (.p .mv) [(.t 5)], iR 4 (.p .mv) [(.t 41)]]) (.keep [4] (.keep [4] .ret))))))))))))), [(.t 4)]⟩
def s_ref1_In_j1 (call : CallK) (N : Nat) (q : KV) (st : St) (τ : Tape) : Ans := match st with
  | ⟨fr, H⟩ => getK fr 5 fun t5 => q t5 H τ
def s_ref1_In_l2 (call : CallK) (N : Nat) (st : St) (τ : Tape) (k : KC) : Ans := match st with
  | ⟨fr, H⟩ => getK fr 0 fun t0 => getK fr 5 fun t5 => getK fr 6 fun t6 => getK fr 7 fun t7 => someK (pLenS [t6]) fun v8 => binK .lss t7 v8 fun v9 => condK v9 (gK t5 false (fun q' => q' t0 H τ) H τ fun v10 H11 τ12 => gK t5 false (fun q' => q' t6 H11 τ12) H11 τ12 fun v13 H14 τ15 => gK t5 false (fun q' => q' t7 H14 τ15) H14 τ15 fun v16 H17 τ18 => gK t5 false (fun q' => someK (pStrIndex [v13, v16]) fun v => q' v H17 τ18) H17 τ18 fun v19 H20 τ21 => gK t5 false (fun q' => binK .eql v10 v19 fun v => q' v H20 τ21) H20 τ21 fun v22 H23 τ24 => someK (pPick [t5, (.bool true), v22]) fun v25 => binK .add t7 (.int .i64 (.ofNat 1)) fun v26 => k .normal ⟨(T.set (T.set (T.set (T.set (T.set (T.set (T.set .leaf 0 t0) 5 v25) 6 t6) 7 t7) 31 t7) 32 v26) 7 v26), H23⟩ τ24) (k (.exit 1) ⟨(T.set .leaf 5 t5), H⟩ τ)
def s_ref1_In_j0 (call : CallK) (N : Nat) (q : KV) (st : St) (τ : Tape) : Ans := match st with
  | ⟨fr, H⟩ => getK fr 0 fun t0 => getK fr 5 fun t5 => getK fr 6 fun t6 => loopK (s_ref1_In_l2 call N) N ⟨(T.set (T.set (T.set (T.set .leaf 0 t0) 5 t5) 6 t6) 7 (.int .i64 (.ofNat 0))), H⟩ τ (blockK 1 (seqK (s_ref1_In_j1 call N q) (endK [(.t 4)] q)))
def s_ref1_In (call : CallK) (N : Nat) (a0 a1 : V) (H : Heap) (τ : Tape) (q : KV) : Ans := binK .lss a0 (.int .u8 (.ofNat 32)) fun v0 => gK v0 false (fun q' => q' a0 H τ) H τ fun v1 H2 τ3 => gK v0 false (fun q' => binK .gtr v1 (.int .u8 (.ofNat 126)) fun v => q' v H2 τ3) H2 τ3 fun v4 H5 τ6 => someK (pPick [v0, (.bool true), v4]) fun v7 => binK .eql a1 (.int .i64 (.ofNat 1)) fun v27 => condK v27 (s_ref1_In_j0 call N q ⟨(T.set (T.set (T.set (T.set (T.set .leaf 0 a0) 5 v7) 6 (.str [])) 14 a1) 15 v27), H5⟩ τ6) (binK .eql a1 (.int .i64 (.ofNat 2)) fun v28 => condK v28 (s_ref1_In_j0 call N q ⟨(T.set (T.set (T.set (T.set (T.set .leaf 0 a0) 5 v7) 14 a1) 17 v28) 6 (.str (bs [32, 34, 60, 62, 96]))), H5⟩ τ6) (binK .eql a1 (.int .i64 (.ofNat 3)) fun v29 => condK v29
    (s_ref1_In_j0 call N q ⟨(T.set (T.set (T.set (T.set (T.set .leaf 0 a0) 5 v7) 14 a1) 19 v29) 6 (.str (bs [32, 34, 35, 60, 62]))), H5⟩ τ6) (binK .eql a1 (.int .i64 (.ofNat 4)) fun v30 => condK v30 (s_ref1_In_j0 call N q ⟨(T.set (T.set (T.set (T.set (T.set .leaf 0 a0) 5 v7) 14 a1) 21 v30) 6 (.str (bs [32, 34, 35, 60, 62, 39]))), H5⟩ τ6) (binK .eql a1 (.int .i64 (.ofNat 5)) fun v31 => condK v31 (s_ref1_In_j0 call N q ⟨(T.set (T.set (T.set (T.set (T.set .leaf 0 a0) 5 v7) 14 a1) 23 v31) 6 (.str (bs [32, 34, 35, 60, 62, 63, 94, 96, 123, 125]))), H5⟩ τ6) (binK .eql a1 (.int .i64 (.ofNat 6)) fun v32 => condK v32 (s_ref1_In_j0 call N q ⟨(T.set (T.set (T.set (T.set .leaf 0 a0) 5 v7) 25 v32) 6 (.str (bs [32, 34, 35, 60, 62, 63, 94, 96, 123, 125, 47, 58, 59, 61, 64, 91, 92, 93, 124]))), H5⟩ τ6) (q (.bool false) H5 τ6))))))
theorem s_ref1_In_eq (call : CallK) (N : Nat) (a0 a1 : V) (H : Heap) (τ : Tape) (q : KV) : s_ref1_In call N a0 a1 H τ q = funK call N fn_ref1_In [a0, a1] H τ q := by kernel_rfl
def e_ref1_In (call : CallK) (N : Nat) (vs : List V) (H : Heap) (τ : Tape) (q : KV) : Ans := match vs with | [a0, a1] => s_ref1_In call N a0 a1 H τ q | _ => none
theorem e_ref1_In_ok : EntOk fn_ref1_In e_ref1_In := by
  intro call N vs H τ q r h
  unfold e_ref1_In at h
  split at h
  · rw [s_ref1_In_eq] at h; exact h
  · cases h
theorem e_ref1_In_nat : EntNat e_ref1_In := by
  intro c hn N vs H τ q
  unfold e_ref1_In
  split
  · rw [s_ref1_In_eq, s_ref1_In_eq]; exact funK_ent hn _ _ _ _ _ _
  · rfl
/-- ostiary/ostiaryref1.Escape -/
def fn_ref1_Escape : Fun := ⟨1, (.seq (.reg [iR 2 (.p .mv) [(.c (.str []))]]) (.keep [0] (.seq (.draw [iR 3 (.p .mv) [(.t 0)], iR 4 (.p (.bin .shr)) [(.t 3), (.c (.int .u64 (.ofNat 4)))], iR 5 (.p .mv) [(.t 0)], iR 6 (.p (.bin .shr)) [(.t 5), (.c (.int .u64 (.ofNat 4)))], iR 7 (.p (.bin .add)) [(.t 6), (.c (.int .u8 (.ofNat 1)))], iR 8 (.p (.strSlice true true)) [(.c (.str (bs [48, 49, 50, 51, 52, 53, 54, 55, 56, 57, 65, 66, 67, 68, 69, 70]))), (.t 4), (.t 7)], iR 9 (.p (.bin .add)) [(.c (.str (bs [37]))), (.t 8)], iR 10 (.p .mv) [(.t 0)], iR 11 (.p (.bin .and)) [(.t 10), (.c (.int .u8 (.ofNat 15)))], iR 12 (.p .mv) [(.t 0)], iR 13 (.p (.bin .and)) [(.t 12), (.c (.int .u8 (.ofNat 15)))], iR 14 (.p (.bin .add)) [(.t 13), (.c (.int .u8 (.ofNat 1)))], iR 15 (.p (.strSlice true true)) [(.c (.str (bs [48, 49, 50, 51, 52, 53, 54, 55, 56, 57, 65, 66, 67, 68, 69, 70]))), (.t 11), (.t 14)],
    iR 16 (.p (.bin .add)) [(.t 9), (.t 15)], iR 2 (.p .mv) [(.t 16)]]) (.keep [2] (.keep [2] .ret))))), [(.t 2)]⟩
def s_ref1_Escape (call : CallK) (N : Nat) (a0 : V) (H : Heap) (τ : Tape) (q : KV) : Ans := binK .shr a0 (.int .u64 (.ofNat 4)) fun v0 => binK .shr a0 (.int .u64 (.ofNat 4)) fun v1 => binK .add v1 (.int .u8 (.ofNat 1)) fun v2 => someK (pStrSlice true true [(.str (bs [48, 49, 50, 51, 52, 53, 54, 55, 56, 57, 65, 66, 67, 68, 69, 70])), v0, v2]) fun v3 => binK .add (.str (bs [37])) v3 fun v4 => binK .and a0 (.int .u8 (.ofNat 15)) fun v5 => binK .and a0 (.int .u8 (.ofNat 15)) fun v6 => binK .add v6 (.int .u8 (.ofNat 1)) fun v7 => someK (pStrSlice true true [(.str (bs [48, 49, 50, 51, 52, 53, 54, 55, 56, 57, 65, 66, 67, 68, 69, 70])), v5, v7]) fun v8 => binK .add v4 v8 fun v9 => q v9 H τ
theorem s_ref1_Escape_eq (call : CallK) (N : Nat) (a0 : V) (H : Heap) (τ : Tape) (q : KV) : s_ref1_Escape call N a0 H τ q = funK call N fn_ref1_Escape [a0] H τ q := by kernel_rfl
def e_ref1_Escape (call : CallK) (N : Nat) (vs : List V) (H : Heap) (τ : Tape) (q : KV) : Ans := match vs with | [a0] => s_ref1_Escape call N a0 H τ q | _ => none
theorem e_ref1_Escape_ok : EntOk fn_ref1_Escape e_ref1_Escape := by
  intro call N vs H τ q r h
  unfold e_ref1_Escape at h
  split at h
  · rw [s_ref1_Escape_eq] at h; exact h
  · cases h
theorem e_ref1_Escape_nat : EntNat e_ref1_Escape := by
  intro c hn N vs H τ q
  unfold e_ref1_Escape
  split
  · rw [s_ref1_Escape_eq, s_ref1_Escape_eq]; exact funK_ent hn _ _ _ _ _ _
  · rfl
/-- ostiary/ostiaryref3.authority -/
def fn_ref3_authority : Fun := ⟨2, (.seq (.reg [iR 4 (.p .mv) [(.c (.int .i64 (.ofNat 0)))]]) (.keep [0, 1] (.seq (.reg [iR 5 (.p .mv) [(.c (.int .i64 (.negSucc 0)))]]) (.keep [0, 1, 5] (.seq (.seq (.reg [iR 6 (.p .mv) [(.c (.int .i64 (.ofNat 0)))]]) (.keep [0, 1, 5, 6] (.block 0 (.loop (.keep [0, 1, 5, 6] (.seq (.seq (.reg [iR 19 (.p .mv) [(.t 6)], iR 20 (.p .mv) [(.t 1)], iR 21 (.p .lenS) [(.t 20)], iR 22 (.p (.bin .lss)) [(.t 19), (.t 21)]]) (.keep [0, 1, 5, 6, 22] (.cond (.t 22) .skip (.keep [0, 1, 5] (.exit 0))))) (.keep [0, 1, 5, 6] (.seq (.block 1 (.seq (.reg [iR 25 (.p .mv) [(.t 1)], iR 26 (.p .mv) [(.t 6)], iR 27 (.p .strIndex) [(.t 25), (.t 26)], iR 28 (.p (.bin .eql)) [(.t 27), (.c (.int .u8 (.ofNat 64)))]]) (.keep [0, 1, 5, 6, 28] (.cond (.t 28) (.reg [iR 29 (.p .mv) [(.t 6)], iR 5 (.p .mv) [(.t 29)]]) .skip)))) (.keep [0, 1, 5, 6] (.reg [iR 23 (.p .mv) [(.t 6)],
    iR 24 (.p (.bin .add)) [(.t 23), (.c (.int .i64 (.ofNat 1)))], iR 6 (.p .mv) [(.t 24)]])))))))))) (.keep [0, 1, 5] (.seq (.seq (.reg [iR 30 (.p .mv) [(.t 5)], iR 31 (.p (.bin .geq)) [(.t 30), (.c (.int .i64 (.ofNat 0)))]]) (.keep [0, 1, 5, 31] (.cond (.t 31) (.seq (.reg [iR 33 (.p .mv) [(.t 1)], iR 34 (.p .mv) [(.t 5)], iR 35 (.p (.strSlice false true)) [(.t 33), (.t 34)], iR 36 (.call 107) [(.t 35), (.c (.int .u8 (.ofNat 58)))], iR 32 (.p .mv) [(.t 36)], iR 37 (.p (.extract 0)) [(.t 32)], iR 38 (.p (.extract 1)) [(.t 32)], iR 39 (.p (.extract 2)) [(.t 32)], iR 7 (.p .mv) [(.t 37)], iR 8 (.p .mv) [(.t 38)], iR 9 (.p .mv) [(.t 39)]]) (.keep [0, 1, 5, 7, 8] (.seq (.reg [iR 40 (.p .mv) [(.t 0)], iR 41 (.p .mv) [(.t 7)], iR 42 (.call 161) [(.t 41), (.c (.int .i64 (.ofNat 6)))], iR 43 (.p .nilck) [(.t 40)], iR 44 (.p (.fieldAddr 1)) [(.t 43)],
    ⟨none, none, (.e (.store 1)), [(.t 44), (.t 42)], none⟩]) (.keep [0, 1, 5, 8] (.seq (.reg [iR 45 (.p .mv) [(.t 0)], iR 46 (.p .mv) [(.t 8)], iR 47 (.call 161) [(.t 46), (.c (.int .i64 (.ofNat 6)))], iR 48 (.p .nilck) [(.t 45)], iR 49 (.p (.fieldAddr 2)) [(.t 48)], ⟨none, none, (.e (.store 1)), [(.t 49), (.t 47)], none⟩]) (.keep [0, 1, 5] (.reg [iR 50 (.p .mv) [(.t 1)], iR 51 (.p .mv) [(.t 5)], iR 52 (.p (.bin .add)) [(.t 51), (.c (.int .i64 (.ofNat 1)))], iR 53 (.p (.strSlice true false)) [(.t 50), (.t 52)], iR 1 (.p .mv) [(.t 53)]]))))))) .skip))) (.keep [0, 1] (.seq (.reg [iR 10 (.p .mv) [(.c (.int .i64 (.negSucc 0)))]]) (.keep [0, 1, 10] (.seq (.reg [iR 11 (.p .mv) [(.c (.bool false))]]) (.keep [0, 1, 10, 11] (.seq (.seq (.reg [iR 12 (.p .mv) [(.c (.int .i64 (.ofNat 0)))]]) (.keep [0, 1, 10, 11, 12] (.block 2 (.loop
    (.keep [0, 1, 10, 11, 12] (.seq (.seq (.reg [iR 54 (.p .mv) [(.t 12)], iR 55 (.p .mv) [(.t 1)], iR 56 (.p .lenS) [(.t 55)], iR 57 (.p (.bin .lss)) [(.t 54), (.t 56)]]) (.keep [0, 1, 10, 11, 12, 57] (.cond (.t 57) .skip (.keep [0, 1, 10] (.exit 2))))) (.keep [0, 1, 10, 11, 12] (.seq (.block 3 (.seq (.reg [iR 60 (.p .mv) [(.t 1)], iR 61 (.p .mv) [(.t 12)], iR 62 (.p .strIndex) [(.t 60), (.t 61)]]) (.keep [0, 1, 10, 11, 12, 62] (.block 4 (.seq (.reg [iR 64 (.p (.bin .eql)) [(.t 62), (.c (.int .u8 (.ofNat 91)))], iR 63 (.p .mv) [(.t 64)]]) (.keep [0, 1, 10, 11, 12, 62, 63] (.cond (.t 63) (.reg [iR 11 (.p .mv) [(.c (.bool true))]]) (.seq (.reg [iR 66 (.p (.bin .eql)) [(.t 62), (.c (.int .u8 (.ofNat 93)))], iR 65 (.p .mv) [(.t 66)]]) (.keep [0, 1, 10, 11, 12, 62, 65] (.cond (.t 65) (.reg [iR 11 (.p .mv) [(.c (.bool false))]])
    (.seq (.reg [iR 68 (.p (.bin .eql)) [(.t 62), (.c (.int .u8 (.ofNat 58)))], iR 67 (.p .mv) [(.t 68)]]) (.keep [0, 1, 10, 11, 12, 67] (.cond (.t 67) (.seq (.reg [iR 69 (.p .mv) [(.t 11)], iR 70 (.p (.un .not)) [(.t 69)]]) (.keep [0, 1, 10, 11, 12, 70] (.cond (.t 70) (.reg [iR 71 (.p .mv) [(.t 12)], iR 10 (.p .mv) [(.t 71)]]) .skip))) .skip))))))))))))) (.keep [0, 1, 10, 11, 12] (.reg [iR 58 (.p .mv) [(.t 12)], iR 59 (.p (.bin .add)) [(.t 58), (.c (.int .i64 (.ofNat 1)))], iR 12 (.p .mv) [(.t 59)]])))))))))) (.keep [0, 1, 10] (.seq (.reg [iR 72 (.p .mv) [(.t 0)], iR 73 (.p .nilck) [(.t 72)], iR 74 (.p (.fieldAddr 5)) [(.t 73)], ⟨none, none, (.e (.store 1)), [(.t 74), (.c (.int .i64 (.negSucc 0)))], none⟩]) (.keep [0, 1, 10] (.seq (.reg [iR 13 (.p .mv) [(.c (.bool false))]]) (.keep [0, 1, 10, 13] (.seq (.seq (.reg [iR 75 (.p .mv) [(.t 10)],
    iR 76 (.p (.bin .geq)) [(.t 75), (.c (.int .i64 (.ofNat 0)))]]) (.keep [0, 1, 10, 13, 76] (.cond (.t 76) (.seq (.reg [iR 77 (.p .mv) [(.t 1)], iR 78 (.p .mv) [(.t 10)], iR 79 (.p (.bin .add)) [(.t 78), (.c (.int .i64 (.ofNat 1)))], iR 80 (.p (.strSlice true false)) [(.t 77), (.t 79)], iR 14 (.p .mv) [(.t 80)]]) (.keep [0, 1, 10, 13, 14] (.seq (.reg [iR 81 (.p .mv) [(.t 1)], iR 82 (.p .mv) [(.t 10)], iR 83 (.p (.strSlice false true)) [(.t 81), (.t 82)], iR 1 (.p .mv) [(.t 83)]]) (.keep [0, 1, 13, 14] (.seq (.reg [iR 84 (.p .mv) [(.t 14)], iR 85 (.p (.bin .neq)) [(.t 84), (.c (.str []))]]) (.keep [0, 1, 13, 14, 85] (.cond (.t 85) (.seq (.reg [iR 87 (.p .mv) [(.t 14)], iR 88 (.call 137) [(.t 87)], iR 86 (.p .mv) [(.t 88)], iR 89 (.p (.extract 0)) [(.t 86)], iR 90 (.p (.extract 1)) [(.t 86)], iR 15 (.p .mv) [(.t 89)], iR 16 (.p .mv) [(.t 90)]])
    (.keep [0, 1, 15, 16] (.seq (.seq (.reg [iR 91 (.p .mv) [(.t 16)], iR 92 (.p (.un .not)) [(.t 91)], iR 93 (.p .mv) [(.t 92)], iG 94 93 false (.p .mv) [(.t 15)], iG 95 93 false (.p (.bin .gtr)) [(.t 94), (.c (.int .i64 (.ofNat 65535)))], iR 96 (.p .pick) [(.t 93), (.c (.bool true)), (.t 95)]]) (.keep [0, 1, 15, 96] (.cond (.t 96) (.seq (.reg [iR 4 (.p .mv) [(.c (.int .i64 (.ofNat 11)))]]) (.keep [4] (.keep [4] .ret))) .skip))) (.keep [0, 1, 15] (.seq (.reg [iR 13 (.p .mv) [(.c (.bool true))]]) (.keep [0, 1, 13, 15] (.seq (.reg [iR 97 (.p .mv) [(.t 0)], iR 98 (.p .mv) [(.t 15)], iR 99 (.p .nilck) [(.t 97)], iR 100 (.p (.fieldAddr 5)) [(.t 99)], ⟨none, none, (.e (.store 1)), [(.t 100), (.t 98)], none⟩]) (.keep [0, 1, 13] (.seq (.draw [iR 101 (.p .mv) [(.t 0)], iR 102 (.p .nilck) [(.t 101)], iR 103 (.p (.fieldAddr 5)) [(.t 102)],
    ⟨(some 104), none, (.l (.load none)), [(.t 103)], some (0, 1)⟩, iR 105 (.p .mv) [(.t 0)], iR 106 (.p .nilck) [(.t 105)], iR 107 (.p (.fieldAddr 0)) [(.t 106)], iR 108 (.l (.load none)) [(.t 107)], iR 109 (.call 118) [(.t 108)], iR 110 (.p (.bin .eql)) [(.t 104), (.t 109)]]) (.keep [0, 1, 13, 110] (.cond (.t 110) (.reg [iR 111 (.p .mv) [(.t 0)], iR 112 (.p .nilck) [(.t 111)], iR 113 (.p (.fieldAddr 5)) [(.t 112)], ⟨none, none, (.e (.store 1)), [(.t 113), (.c (.int .i64 (.negSucc 0)))], none⟩]) .skip))))))))))) .skip))))))) .skip))) (.keep [0, 1, 13] (.seq (.reg [iR 115 (.p .mv) [(.t 1)], iR 116 (.p .mv) [(.t 0)], iR 117 (.p .nilck) [(.t 116)], iR 118 (.p (.fieldAddr 0)) [(.t 117)], iR 119 (.l (.load none)) [(.t 118)], iR 120 (.call 90) [(.t 119)], iR 121 (.call 201) [(.t 115), (.t 120)], iR 114 (.p .mv) [(.t 121)], iR 122 (.p (.extract 0)) [(.t 114)],
    iR 123 (.p (.extract 1)) [(.t 114)], iR 17 (.p .mv) [(.t 122)], iR 18 (.p .mv) [(.t 123)]]) (.keep [0, 13, 17, 18] (.seq (.seq (.reg [iR 124 (.p .mv) [(.t 18)], iR 125 (.p (.un .not)) [(.t 124)], iR 126 (.p .mv) [(.t 125)], iG 127 126 false (.p .mv) [(.t 17)], iG 128 126 false (.p (.bin .eql)) [(.t 127), (.c (.str []))], iG 129 126 false (.p .mv) [(.t 128)], iG 130 129 true (.p .mv) [(.t 0)], iG 131 129 true (.p .nilck) [(.t 130)], iG 132 129 true (.p (.fieldAddr 1)) [(.t 131)], iG 133 129 true (.l (.load none)) [(.t 132)], iG 134 129 true (.p (.bin .neq)) [(.t 133), (.c (.str []))], iG 135 129 true (.p .mv) [(.t 134)], iG 136 135 false (.p .mv) [(.t 0)], iG 137 135 false (.p .nilck) [(.t 136)], iG 138 135 false (.p (.fieldAddr 2)) [(.t 137)], iG 139 135 false (.l (.load none)) [(.t 138)], iG 140 135 false (.p (.bin .neq)) [(.t 139), (.c (.str []))],
    iG 141 129 true (.p .pick) [(.t 135), (.c (.bool true)), (.t 140)], iG 142 129 true (.p .mv) [(.t 141)], iG 143 142 false (.p .mv) [(.t 13)], iG 144 129 true (.p .pick) [(.t 142), (.c (.bool true)), (.t 143)], iG 145 126 false (.p .pick) [(.t 129), (.t 144), (.c (.bool false))], iR 146 (.p .pick) [(.t 126), (.c (.bool true)), (.t 145)]]) (.keep [0, 17, 146] (.cond (.t 146) (.seq (.reg [iR 4 (.p .mv) [(.c (.int .i64 (.ofNat 10)))]]) (.keep [4] (.keep [4] .ret))) .skip))) (.keep [0, 17] (.seq (.reg [iR 147 (.p .mv) [(.t 0)], iR 148 (.p .mv) [(.t 17)], iR 149 (.p .nilck) [(.t 147)], iR 150 (.p (.fieldAddr 3)) [(.t 149)], ⟨none, none, (.e (.store 1)), [(.t 150), (.t 148)], none⟩]) (.keep [0] (.seq (.reg [iR 151 (.p .mv) [(.t 0)], iR 152 (.p .nilck) [(.t 151)], iR 153 (.p (.fieldAddr 4)) [(.t 152)], ⟨none, none, (.e (.store 1)), [(.t 153), (.c (.bool true))], none⟩])
    (.keep [] (.seq (.reg [iR 4 (.p .mv) [(.c (.int .i64 (.ofNat 0)))]]) (.keep [4] (.keep [4] .ret))))))))))))))))))))))))))))))), [(.t 4)]⟩
def s_ref3_authority_j3 (call : CallK) (N : Nat) (q : KV) (st : St) (τ : Tape) : Ans := match st with
  | ⟨fr, H⟩ => getK fr 0 fun t0 => getK fr 1 fun t1 => getK fr 13 fun t13 => someK (pNilck [t0]) fun v7 => someK (pFieldAddr 0 [v7]) fun v8 => someK (lLoad1 [v8] H) fun v9 => call f_ref3_Special [v9] H τ fun v10 H11 τ12 => call f_ref2_Parse [t1, v10] H11 τ12 fun v13 H14 τ15 => someK (pExtract 0 [v13]) fun v16 => someK (pExtract 1 [v13]) fun v17 => unK .not v17 fun v18 => gK v18 false (fun q' => q' v16 H14 τ15) H14 τ15 fun v19 H20 τ21 => gK v18 false (fun q' => binK .eql v19 (.str []) fun v => q' v H20 τ21) H20 τ21 fun v22 H23 τ24 => gK v18 false (fun q' => q' v22 H23 τ24) H23 τ24 fun v25 H26 τ27 => gK v25 true (fun q' => q' t0 H26 τ27) H26 τ27 fun v28 H29 τ30 => gK v25 true (fun q' => someK (pNilck [v28]) fun v => q' v H29 τ30) H29 τ30 fun v31 H32 τ33 => gK v25 true (fun q' => someK (pFieldAddr 1 [v31]) fun v => q' v H32 τ33) H32 τ33 fun v34 H35 τ36 =>
    gK v25 true (fun q' => someK (lLoad1 [v34] H35) fun v => q' v H35 τ36) H35 τ36 fun v37 H38 τ39 => gK v25 true (fun q' => binK .neq v37 (.str []) fun v => q' v H38 τ39) H38 τ39 fun v40 H41 τ42 => gK v25 true (fun q' => q' v40 H41 τ42) H41 τ42 fun v43 H44 τ45 => gK v43 false (fun q' => q' t0 H44 τ45) H44 τ45 fun v46 H47 τ48 => gK v43 false (fun q' => someK (pNilck [v46]) fun v => q' v H47 τ48) H47 τ48 fun v49 H50 τ51 => gK v43 false (fun q' => someK (pFieldAddr 2 [v49]) fun v => q' v H50 τ51) H50 τ51 fun v52 H53 τ54 => gK v43 false (fun q' => someK (lLoad1 [v52] H53) fun v => q' v H53 τ54) H53 τ54 fun v55 H56 τ57 => gK v43 false (fun q' => binK .neq v55 (.str []) fun v => q' v H56 τ57) H56 τ57 fun v58 H59 τ60 => gK v25 true (fun q' => someK (pPick [v43, (.bool true), v58]) fun v => q' v H59 τ60) H59 τ60 fun v61 H62 τ63 =>
    gK v25 true (fun q' => q' v61 H62 τ63) H62 τ63 fun v64 H65 τ66 => gK v64 false (fun q' => q' t13 H65 τ66) H65 τ66 fun v67 H68 τ69 => gK v25 true (fun q' => someK (pPick [v64, (.bool true), v67]) fun v => q' v H68 τ69) H68 τ69 fun v70 H71 τ72 => gK v18 false (fun q' => someK (pPick [v25, v70, (.bool false)]) fun v => q' v H71 τ72) H71 τ72 fun v73 H74 τ75 => someK (pPick [v18, (.bool true), v73]) fun v76 => condK v76 (q (.int .i64 (.ofNat 10)) H74 τ75) (someK (pNilck [t0]) fun v77 => someK (pFieldAddr 3 [v77]) fun v78 => effK (eStore 1 [v78, v16] H74 τ75) fun v79 H80 τ81 => someK (pNilck [t0]) fun v82 => someK (pFieldAddr 4 [v82]) fun v83 => effK (eStore 1 [v83, (.bool true)] H80 τ81) fun v84 H85 τ86 => q (.int .i64 (.ofNat 0)) H85 τ86)
def s_ref3_authority_j2 (call : CallK) (N : Nat) (q : KV) (st : St) (τ : Tape) : Ans := match st with
  | ⟨fr, H⟩ => getK fr 0 fun t0 => getK fr 1 fun t1 => getK fr 10 fun t10 => someK (pNilck [t0]) fun v1 => someK (pFieldAddr 5 [v1]) fun v2 => effK (eStore 1 [v2, (.int .i64 (.negSucc 0))] H τ) fun v3 H4 τ5 => binK .geq t10 (.int .i64 (.ofNat 0)) fun v6 => condK v6 (binK .add t10 (.int .i64 (.ofNat 1)) fun v87 => someK (pStrSlice true false [t1, v87]) fun v88 => someK (pStrSlice false true [t1, t10]) fun v89 => binK .neq v88 (.str []) fun v90 => condK v90 (call f_ref1_Int [v88] H4 τ5 fun v91 H92 τ93 => someK (pExtract 0 [v91]) fun v94 => someK (pExtract 1 [v91]) fun v95 => unK .not v95 fun v96 => gK v96 false (fun q' => q' v94 H92 τ93) H92 τ93 fun v97 H98 τ99 => gK v96 false (fun q' => binK .gtr v97 (.int .i64 (.ofNat 65535)) fun v => q' v H98 τ99) H98 τ99 fun v100 H101 τ102 => someK (pPick [v96, (.bool true), v100]) fun v103 => condK v103 (q (.int .i64 (.ofNat 11)) H101 τ102)
    (someK (pNilck [t0]) fun v104 => someK (pFieldAddr 5 [v104]) fun v105 => effK (eStore 1 [v105, v94] H101 τ102) fun v106 H107 τ108 => someK (pNilck [t0]) fun v109 => someK (pFieldAddr 5 [v109]) fun v110 => someK (lLoad1 [v110] H107) fun v111 => someK (pNilck [t0]) fun v112 => someK (pFieldAddr 0 [v112]) fun v113 => someK (lLoad1 [v113] H107) fun v114 => call f_ref3_Own [v114] H107 τ108 fun v115 H116 τ117 => binK .eql v111 v115 fun v118 => bif chkLoads [H107, H116] (((.load none), [v110], 0, 1) :: []) then condK v118 (someK (pNilck [t0]) fun v119 => someK (pFieldAddr 5 [v119]) fun v120 => effK (eStore 1 [v120, (.int .i64 (.negSucc 0))] H116 τ117) fun v121 H122 τ123 => s_ref3_authority_j3 call N q ⟨(T.set (T.set (T.set (T.set (T.set (T.set (T.set .leaf 0 t0) 1 v89) 13 (.bool true)) 110 v118) 111 t0) 112 v119) 113 v120), H122⟩ τ123)
    (s_ref3_authority_j3 call N q ⟨(T.set (T.set (T.set (T.set .leaf 0 t0) 1 v89) 13 (.bool true)) 110 v118), H116⟩ τ117) else none)) (s_ref3_authority_j3 call N q ⟨(T.set (T.set (T.set (T.set (T.set .leaf 0 t0) 1 v89) 13 (.bool false)) 14 v88) 85 v90), H4⟩ τ5)) (s_ref3_authority_j3 call N q ⟨(T.set (T.set (T.set (T.set (T.set .leaf 0 t0) 1 t1) 10 t10) 13 (.bool false)) 76 v6), H4⟩ τ5)
def s_ref3_authority_j5 (call : CallK) (N : Nat) (k : KC) (st : St) (τ : Tape) : Ans := match st with
  | ⟨fr, H⟩ => getK fr 0 fun t0 => getK fr 1 fun t1 => getK fr 10 fun t10 => getK fr 11 fun t11 => getK fr 12 fun t12 => binK .add t12 (.int .i64 (.ofNat 1)) fun v126 => k .normal ⟨(T.set (T.set (T.set (T.set (T.set (T.set (T.set (T.set .leaf 0 t0) 1 t1) 10 t10) 11 t11) 12 t12) 58 t12) 59 v126) 12 v126), H⟩ τ
def s_ref3_authority_l4 (call : CallK) (N : Nat) (st : St) (τ : Tape) (k : KC) : Ans := match st with
  | ⟨fr, H⟩ => getK fr 0 fun t0 => getK fr 1 fun t1 => getK fr 10 fun t10 => getK fr 11 fun t11 => getK fr 12 fun t12 => someK (pLenS [t1]) fun v124 => binK .lss t12 v124 fun v125 => condK v125 (someK (pStrIndex [t1, t12]) fun v127 => binK .eql v127 (.int .u8 (.ofNat 91)) fun v128 => condK v128 (s_ref3_authority_j5 call N k ⟨(T.set (T.set (T.set (T.set (T.set (T.set (T.set (T.set .leaf 0 t0) 1 t1) 10 t10) 11 t11) 12 t12) 62 v127) 63 v128) 11 (.bool true)), H⟩ τ) (binK .eql v127 (.int .u8 (.ofNat 93)) fun v129 => condK v129 (s_ref3_authority_j5 call N k ⟨(T.set (T.set (T.set (T.set (T.set (T.set (T.set (T.set .leaf 0 t0) 1 t1) 10 t10) 11 t11) 12 t12) 62 v127) 65 v129) 11 (.bool false)), H⟩ τ) (binK .eql v127 (.int .u8 (.ofNat 58)) fun v130 => condK v130 (unK .not t11 fun v131 => condK v131
    (s_ref3_authority_j5 call N k ⟨(T.set (T.set (T.set (T.set (T.set (T.set (T.set (T.set .leaf 0 t0) 1 t1) 10 t10) 11 t11) 12 t12) 70 v131) 71 t12) 10 t12), H⟩ τ) (s_ref3_authority_j5 call N k ⟨(T.set (T.set (T.set (T.set (T.set (T.set .leaf 0 t0) 1 t1) 10 t10) 11 t11) 12 t12) 70 v131), H⟩ τ)) (s_ref3_authority_j5 call N k ⟨(T.set (T.set (T.set (T.set (T.set (T.set .leaf 0 t0) 1 t1) 10 t10) 11 t11) 12 t12) 67 v130), H⟩ τ)))) (k (.exit 2) ⟨(T.set (T.set (T.set .leaf 0 t0) 1 t1) 10 t10), H⟩ τ)
def s_ref3_authority_j1 (call : CallK) (N : Nat) (q : KV) (st : St) (τ : Tape) : Ans := match st with
  | ⟨fr, H⟩ => getK fr 0 fun t0 => getK fr 1 fun t1 => loopK (s_ref3_authority_l4 call N) N ⟨(T.set (T.set (T.set (T.set (T.set .leaf 0 t0) 1 t1) 10 (.int .i64 (.negSucc 0))) 11 (.bool false)) 12 (.int .i64 (.ofNat 0))), H⟩ τ (blockK 2 (seqK (s_ref3_authority_j2 call N q) (endK [(.t 4)] q)))
def s_ref3_authority_j0 (call : CallK) (N : Nat) (q : KV) (st : St) (τ : Tape) : Ans := match st with
  | ⟨fr, H⟩ => getK fr 0 fun t0 => getK fr 1 fun t1 => getK fr 5 fun t5 => binK .geq t5 (.int .i64 (.ofNat 0)) fun v0 => condK v0 (someK (pStrSlice false true [t1, t5]) fun v132 => call f_ref1_Part [v132, (.int .u8 (.ofNat 58))] H τ fun v133 H134 τ135 => someK (pExtract 0 [v133]) fun v136 => someK (pExtract 1 [v133]) fun v137 => someK (pExtract 2 [v133]) fun v138 => call f_ref1_Percent [v136, (.int .i64 (.ofNat 6))] H134 τ135 fun v139 H140 τ141 => someK (pNilck [t0]) fun v142 => someK (pFieldAddr 1 [v142]) fun v143 => effK (eStore 1 [v143, v139] H140 τ141) fun v144 H145 τ146 => call f_ref1_Percent [v137, (.int .i64 (.ofNat 6))] H145 τ146 fun v147 H148 τ149 => someK (pNilck [t0]) fun v150 => someK (pFieldAddr 2 [v150]) fun v151 => effK (eStore 1 [v151, v147] H148 τ149) fun v152 H153 τ154 => binK .add t5 (.int .i64 (.ofNat 1)) fun v155 =>
    someK (pStrSlice true false [t1, v155]) fun v156 => s_ref3_authority_j1 call N q ⟨(T.set (T.set (T.set (T.set (T.set (T.set (T.set (T.set .leaf 0 t0) 1 t1) 5 t5) 50 t1) 51 t5) 52 v155) 53 v156) 1 v156), H153⟩ τ154) (s_ref3_authority_j1 call N q ⟨(T.set (T.set (T.set (T.set .leaf 0 t0) 1 t1) 5 t5) 31 v0), H⟩ τ)
def s_ref3_authority_j7 (call : CallK) (N : Nat) (k : KC) (st : St) (τ : Tape) : Ans := match st with
  | ⟨fr, H⟩ => getK fr 0 fun t0 => getK fr 1 fun t1 => getK fr 5 fun t5 => getK fr 6 fun t6 => binK .add t6 (.int .i64 (.ofNat 1)) fun v159 => k .normal ⟨(T.set (T.set (T.set (T.set (T.set (T.set (T.set .leaf 0 t0) 1 t1) 5 t5) 6 t6) 23 t6) 24 v159) 6 v159), H⟩ τ
def s_ref3_authority_l6 (call : CallK) (N : Nat) (st : St) (τ : Tape) (k : KC) : Ans := match st with
  | ⟨fr, H⟩ => getK fr 0 fun t0 => getK fr 1 fun t1 => getK fr 5 fun t5 => getK fr 6 fun t6 => someK (pLenS [t1]) fun v157 => binK .lss t6 v157 fun v158 => condK v158 (someK (pStrIndex [t1, t6]) fun v160 => binK .eql v160 (.int .u8 (.ofNat 64)) fun v161 => condK v161 (s_ref3_authority_j7 call N k ⟨(T.set (T.set (T.set (T.set (T.set (T.set (T.set .leaf 0 t0) 1 t1) 5 t5) 6 t6) 28 v161) 29 t6) 5 t6), H⟩ τ) (s_ref3_authority_j7 call N k ⟨(T.set (T.set (T.set (T.set (T.set .leaf 0 t0) 1 t1) 5 t5) 6 t6) 28 v161), H⟩ τ)) (k (.exit 0) ⟨(T.set (T.set (T.set .leaf 0 t0) 1 t1) 5 t5), H⟩ τ)
def s_ref3_authority (call : CallK) (N : Nat) (a0 a1 : V) (H : Heap) (τ : Tape) (q : KV) : Ans := loopK (s_ref3_authority_l6 call N) N ⟨(T.set (T.set (T.set (T.set .leaf 0 a0) 1 a1) 5 (.int .i64 (.negSucc 0))) 6 (.int .i64 (.ofNat 0))), H⟩ τ (blockK 0 (seqK (s_ref3_authority_j0 call N q) (endK [(.t 4)] q)))
theorem s_ref3_authority_eq (call : CallK) (N : Nat) (a0 a1 : V) (H : Heap) (τ : Tape) (q : KV) : s_ref3_authority call N a0 a1 H τ q = funK call N fn_ref3_authority [a0, a1] H τ q := by kernel_rfl
def e_ref3_authority (call : CallK) (N : Nat) (vs : List V) (H : Heap) (τ : Tape) (q : KV) : Ans := match vs with | [a0, a1] => s_ref3_authority call N a0 a1 H τ q | _ => none
theorem e_ref3_authority_ok : EntOk fn_ref3_authority e_ref3_authority := by
  intro call N vs H τ q r h
  unfold e_ref3_authority at h
  split at h
  · rw [s_ref3_authority_eq] at h; exact h
  · cases h
theorem e_ref3_authority_nat : EntNat e_ref3_authority := by
  intro c hn N vs H τ q
  unfold e_ref3_authority
  split
  · rw [s_ref3_authority_eq, s_ref3_authority_eq]; exact funK_ent hn _ _ _ _ _ _
  · rfl
/-- ostiary/ostiaryref3.path -/
def fn_ref3_path : Fun := ⟨2, (.seq (.reg [iR 4 (.p .mv) [(.c .nils)]]) (.keep [0, 1] (.seq (.reg [iR 9 (.e (.buildSlice 0 1 [] [])) [], iR 10 (.p .mv) [(.t 0)], iR 11 (.e (.append 1 16)) [(.t 9), (.t 10)], iR 5 (.p .mv) [(.t 11)]]) (.keep [1, 5] (.seq (.reg [iR 12 (.p .mv) [(.t 1)], iR 13 (.call 202) [(.t 12), (.c (.int .u8 (.ofNat 47)))], iR 6 (.p .mv) [(.t 13)]]) (.keep [5, 6] (.seq (.seq (.reg [iR 7 (.p .mv) [(.c (.int .i64 (.ofNat 0)))]]) (.keep [5, 6, 7] (.block 0 (.loop (.keep [5, 6, 7] (.seq (.seq (.reg [iR 14 (.p .mv) [(.t 7)], iR 15 (.p .mv) [(.t 6)], iR 16 (.p .len) [(.t 15)], iR 17 (.p (.bin .lss)) [(.t 14), (.t 16)]]) (.keep [5, 6, 7, 17] (.cond (.t 17) .skip (.keep [5] (.exit 0))))) (.keep [5, 6, 7] (.seq (.block 1 (.seq (.reg [iR 20 (.p .mv) [(.t 6)], iR 21 (.p .mv) [(.t 7)], iR 22 (.p (.slIdx 1)) [(.t 20), (.t 21)], iR 23 (.l (.load none)) [(.t 22)],
    iR 24 (.call 203) [(.t 23)], iR 8 (.p .mv) [(.t 24)]]) (.keep [5, 6, 7, 8] (.seq (.seq (.reg [iR 25 (.p .mv) [(.t 8)], iR 26 (.p (.bin .eql)) [(.t 25), (.c (.int .i64 (.ofNat 2)))], iR 27 (.p .mv) [(.t 26)], iG 28 27 true (.p .mv) [(.t 5)], iG 29 27 true (.p .len) [(.t 28)], iG 30 27 true (.p (.bin .gtr)) [(.t 29), (.c (.int .i64 (.ofNat 0)))], iR 31 (.p .pick) [(.t 27), (.t 30), (.c (.bool false))]]) (.keep [5, 6, 7, 8, 31] (.cond (.t 31) (.reg [iR 32 (.p .mv) [(.t 5)], iR 33 (.p .mv) [(.t 5)], iR 34 (.p .len) [(.t 33)], iR 35 (.p (.bin .sub)) [(.t 34), (.c (.int .i64 (.ofNat 1)))], iR 36 (.p (.slSlice 1 false true false)) [(.t 32), (.t 35)], iR 5 (.p .mv) [(.t 36)]]) .skip))) (.keep [5, 6, 7, 8] (.seq (.seq (.reg [iR 37 (.p .mv) [(.t 8)], iR 38 (.p (.bin .eql)) [(.t 37), (.c (.int .i64 (.ofNat 1)))], iR 39 (.p .mv) [(.t 38)], iG 40 39 false (.p .mv) [(.t 8)],
    iG 41 39 false (.p (.bin .eql)) [(.t 40), (.c (.int .i64 (.ofNat 2)))], iR 42 (.p .pick) [(.t 39), (.c (.bool true)), (.t 41)]]) (.keep [5, 6, 7, 42] (.cond (.t 42) (.seq (.seq (.reg [iR 43 (.p .mv) [(.t 7)], iR 44 (.p .mv) [(.t 6)], iR 45 (.p .len) [(.t 44)], iR 46 (.p (.bin .sub)) [(.t 45), (.c (.int .i64 (.ofNat 1)))], iR 47 (.p (.bin .eql)) [(.t 43), (.t 46)]]) (.keep [5, 6, 7, 47] (.cond (.t 47) (.reg [iR 48 (.p .mv) [(.t 5)], iR 49 (.e (.buildSlice 1 1 [(.str [])] [(0, 1)])) [(.c (.str []))], iR 50 (.e (.append 1 16)) [(.t 48), (.t 49)], iR 5 (.p .mv) [(.t 50)]]) .skip))) (.keep [5, 6, 7] (.keep [5, 6, 7] (.exit 1)))) .skip))) (.keep [5, 6, 7] (.reg [iR 51 (.p .mv) [(.t 5)], iR 52 (.p .mv) [(.t 6)], iR 53 (.p .mv) [(.t 7)], iR 54 (.p (.slIdx 1)) [(.t 52), (.t 53)], iR 55 (.l (.load none)) [(.t 54)], iR 56 (.call 161) [(.t 55), (.c (.int .i64 (.ofNat 5)))],
    iR 57 (.e (.buildSlice 1 1 [(.str [])] [(0, 1)])) [(.t 56)], iR 58 (.e (.append 1 16)) [(.t 51), (.t 57)], iR 5 (.p .mv) [(.t 58)]])))))))) (.keep [5, 6, 7] (.reg [iR 18 (.p .mv) [(.t 7)], iR 19 (.p (.bin .add)) [(.t 18), (.c (.int .i64 (.ofNat 1)))], iR 7 (.p .mv) [(.t 19)]])))))))))) (.keep [5] (.seq (.reg [iR 59 (.p .mv) [(.t 5)], iR 4 (.p .mv) [(.t 59)]]) (.keep [4] (.keep [4] .ret))))))))))), [(.t 4)]⟩
def s_ref3_path_j0 (call : CallK) (N : Nat) (q : KV) (st : St) (τ : Tape) : Ans := match st with
  | ⟨fr, H⟩ => getK fr 5 fun t5 => q t5 H τ
def s_ref3_path_j2 (call : CallK) (N : Nat) (k : KC) (st : St) (τ : Tape) : Ans := match st with
  | ⟨fr, H⟩ => getK fr 5 fun t5 => getK fr 6 fun t6 => getK fr 7 fun t7 => binK .add t7 (.int .i64 (.ofNat 1)) fun v11 => k .normal ⟨(T.set (T.set (T.set (T.set (T.set (T.set .leaf 5 t5) 6 t6) 7 t7) 18 t7) 19 v11) 7 v11), H⟩ τ
def s_ref3_path_j4 (call : CallK) (N : Nat) (k : KC) (st : St) (τ : Tape) : Ans := match st with
  | ⟨fr, H⟩ => getK fr 5 fun t5 => getK fr 6 fun t6 => getK fr 7 fun t7 => someK (pSlIdx 1 [t6, t7]) fun v39 => someK (lLoad1 [v39] H) fun v40 => call f_ref1_Percent [v40, (.int .i64 (.ofNat 5))] H τ fun v41 H42 τ43 => effK (eBuildSlice 1 1 [(.str [])] [(0, 1)] [v41] H42 τ43) fun v44 H45 τ46 => effK (eAppend 1 16 [t5, v44] H45 τ46) fun v47 H48 τ49 => s_ref3_path_j2 call N k ⟨(T.set (T.set (T.set (T.set (T.set (T.set (T.set (T.set (T.set (T.set (T.set (T.set .leaf 5 t5) 6 t6) 7 t7) 51 t5) 52 t6) 53 t7) 54 v39) 55 v40) 56 v41) 57 v44) 58 v47) 5 v47), H48⟩ τ49
def s_ref3_path_j5 (call : CallK) (N : Nat) (k : KC) (st : St) (τ : Tape) : Ans := match st with
  | ⟨fr, H⟩ => getK fr 5 fun t5 => getK fr 6 fun t6 => getK fr 7 fun t7 => s_ref3_path_j2 call N k ⟨(T.set (T.set (T.set .leaf 5 t5) 6 t6) 7 t7), H⟩ τ
def s_ref3_path_j3 (call : CallK) (N : Nat) (k : KC) (st : St) (τ : Tape) : Ans := match st with
  | ⟨fr, H⟩ => getK fr 5 fun t5 => getK fr 6 fun t6 => getK fr 7 fun t7 => getK fr 8 fun t8 => binK .eql t8 (.int .i64 (.ofNat 1)) fun v28 => gK v28 false (fun q' => q' t8 H τ) H τ fun v29 H30 τ31 => gK v28 false (fun q' => binK .eql v29 (.int .i64 (.ofNat 2)) fun v => q' v H30 τ31) H30 τ31 fun v32 H33 τ34 => someK (pPick [v28, (.bool true), v32]) fun v35 => condK v35 (someK (pLen [t6]) fun v36 => binK .sub v36 (.int .i64 (.ofNat 1)) fun v37 => binK .eql t7 v37 fun v38 => condK v38 (effK (eBuildSlice 1 1 [(.str [])] [(0, 1)] [(.str [])] H33 τ34) fun v50 H51 τ52 => effK (eAppend 1 16 [t5, v50] H51 τ52) fun v53 H54 τ55 => s_ref3_path_j5 call N k ⟨(T.set (T.set (T.set (T.set (T.set (T.set (T.set (T.set .leaf 5 t5) 6 t6) 7 t7) 47 v38) 48 t5) 49 v50) 50 v53) 5 v53), H54⟩ τ55) (s_ref3_path_j5 call N k ⟨(T.set (T.set (T.set (T.set .leaf 5 t5) 6 t6) 7 t7) 47 v38), H33⟩ τ34))
    (someK (pSlIdx 1 [t6, t7]) fun v56 => someK (lLoad1 [v56] H33) fun v57 => call f_ref1_Percent [v57, (.int .i64 (.ofNat 5))] H33 τ34 fun v58 H59 τ60 => effK (eBuildSlice 1 1 [(.str [])] [(0, 1)] [v58] H59 τ60) fun v61 H62 τ63 => effK (eAppend 1 16 [t5, v61] H62 τ63) fun v64 H65 τ66 => s_ref3_path_j2 call N k ⟨(T.set (T.set (T.set (T.set (T.set (T.set (T.set (T.set (T.set (T.set (T.set (T.set .leaf 5 t5) 6 t6) 7 t7) 51 t5) 52 t6) 53 t7) 54 v56) 55 v57) 56 v58) 57 v61) 58 v64) 5 v64), H65⟩ τ66)
def s_ref3_path_l1 (call : CallK) (N : Nat) (st : St) (τ : Tape) (k : KC) : Ans := match st with
  | ⟨fr, H⟩ => getK fr 5 fun t5 => getK fr 6 fun t6 => getK fr 7 fun t7 => someK (pLen [t6]) fun v9 => binK .lss t7 v9 fun v10 => condK v10 (someK (pSlIdx 1 [t6, t7]) fun v12 => someK (lLoad1 [v12] H) fun v13 => call f_ref3_dots [v13] H τ fun v14 H15 τ16 => binK .eql v14 (.int .i64 (.ofNat 2)) fun v17 => gK v17 true (fun q' => q' t5 H15 τ16) H15 τ16 fun v18 H19 τ20 => gK v17 true (fun q' => someK (pLen [v18]) fun v => q' v H19 τ20) H19 τ20 fun v21 H22 τ23 => gK v17 true (fun q' => binK .gtr v21 (.int .i64 (.ofNat 0)) fun v => q' v H22 τ23) H22 τ23 fun v24 H25 τ26 => someK (pPick [v17, v24, (.bool false)]) fun v27 => condK v27 (someK (pLen [t5]) fun v67 => binK .sub v67 (.int .i64 (.ofNat 1)) fun v68 => someK (pSlSlice 1 false true false [t5, v68]) fun v69 =>
    s_ref3_path_j3 call N k ⟨(T.set (T.set (T.set (T.set (T.set (T.set (T.set (T.set (T.set (T.set (T.set .leaf 5 t5) 6 t6) 7 t7) 8 v14) 31 v27) 32 t5) 33 t5) 34 v67) 35 v68) 36 v69) 5 v69), H25⟩ τ26) (s_ref3_path_j3 call N k ⟨(T.set (T.set (T.set (T.set (T.set .leaf 5 t5) 6 t6) 7 t7) 8 v14) 31 v27), H25⟩ τ26)) (k (.exit 0) ⟨(T.set .leaf 5 t5), H⟩ τ)
def s_ref3_path (call : CallK) (N : Nat) (a0 a1 : V) (H : Heap) (τ : Tape) (q : KV) : Ans := effK (eBuildSlice 0 1 [] [] [] H τ) fun v0 H1 τ2 => effK (eAppend 1 16 [v0, a0] H1 τ2) fun v3 H4 τ5 => call f_ref1_Cut [a1, (.int .u8 (.ofNat 47))] H4 τ5 fun v6 H7 τ8 => loopK (s_ref3_path_l1 call N) N ⟨(T.set (T.set (T.set .leaf 5 v3) 6 v6) 7 (.int .i64 (.ofNat 0))), H7⟩ τ8 (blockK 0 (seqK (s_ref3_path_j0 call N q) (endK [(.t 4)] q)))
theorem s_ref3_path_eq (call : CallK) (N : Nat) (a0 a1 : V) (H : Heap) (τ : Tape) (q : KV) : s_ref3_path call N a0 a1 H τ q = funK call N fn_ref3_path [a0, a1] H τ q := by kernel_rfl
def e_ref3_path (call : CallK) (N : Nat) (vs : List V) (H : Heap) (τ : Tape) (q : KV) : Ans := match vs with | [a0, a1] => s_ref3_path call N a0 a1 H τ q | _ => none
theorem e_ref3_path_ok : EntOk fn_ref3_path e_ref3_path := by
  intro call N vs H τ q r h
  unfold e_ref3_path at h
  split at h
  · rw [s_ref3_path_eq] at h; exact h
  · cases h
theorem e_ref3_path_nat : EntNat e_ref3_path := by
  intro c hn N vs H τ q
  unfold e_ref3_path
  split
  · rw [s_ref3_path_eq, s_ref3_path_eq]; exact funK_ent hn _ _ _ _ _ _
  · rfl
/-- internal/bytealg.Cutover -/
def fn_bytealg_Cutover : Fun := ⟨1, (.seq (.reg [iR 2 (.p .mv) [(.c (.int .i64 (.ofNat 0)))]]) (.keep [0] (.seq (.reg [iR 3 (.p .mv) [(.t 0)], iR 4 (.p (.bin .add)) [(.t 3), (.c (.int .i64 (.ofNat 16)))], iR 5 (.p (.bin .quo)) [(.t 4), (.c (.int .i64 (.ofNat 8)))], iR 2 (.p .mv) [(.t 5)]]) (.keep [2] (.keep [2] .ret))))), [(.t 2)]⟩
def s_bytealg_Cutover (call : CallK) (N : Nat) (a0 : V) (H : Heap) (τ : Tape) (q : KV) : Ans := binK .add a0 (.int .i64 (.ofNat 16)) fun v0 => binK .quo v0 (.int .i64 (.ofNat 8)) fun v1 => q v1 H τ
theorem s_bytealg_Cutover_eq (call : CallK) (N : Nat) (a0 : V) (H : Heap) (τ : Tape) (q : KV) : s_bytealg_Cutover call N a0 H τ q = funK call N fn_bytealg_Cutover [a0] H τ q := by kernel_rfl
def e_bytealg_Cutover (call : CallK) (N : Nat) (vs : List V) (H : Heap) (τ : Tape) (q : KV) : Ans := match vs with | [a0] => s_bytealg_Cutover call N a0 H τ q | _ => none
theorem e_bytealg_Cutover_ok : EntOk fn_bytealg_Cutover e_bytealg_Cutover := by
  intro call N vs H τ q r h
  unfold e_bytealg_Cutover at h
  split at h
  · rw [s_bytealg_Cutover_eq] at h; exact h
  · cases h
theorem e_bytealg_Cutover_nat : EntNat e_bytealg_Cutover := by
  intro c hn N vs H τ q
  unfold e_bytealg_Cutover
  split
  · rw [s_bytealg_Cutover_eq, s_bytealg_Cutover_eq]; exact funK_ent hn _ _ _ _ _ _
  · rfl
/-- internal/bytealg.IndexRabinKarp[string] -/
def fn_bytealg_IndexRabinKarp_string : Fun := ⟨2, (.seq (.reg [iR 4 (.p .mv) [(.c (.int .i64 (.ofNat 0)))]]) (.keep [0, 1] (.seq (.reg [iR 12 (.p .mv) [(.t 1)], iR 13 (.call 204) [(.t 12)], iR 11 (.p .mv) [(.t 13)], iR 14 (.p (.extract 0)) [(.t 11)], iR 15 (.p (.extract 1)) [(.t 11)], iR 5 (.p .mv) [(.t 14)], iR 6 (.p .mv) [(.t 15)]]) (.keep [0, 1, 5, 6] (.seq (.reg [iR 16 (.p .mv) [(.t 1)], iR 17 (.p .lenS) [(.t 16)], iR 7 (.p .mv) [(.t 17)]]) (.keep [0, 1, 5, 6, 7] (.seq (.reg [iR 8 (.p .mv) [(.c (.int .u32 (.ofNat 0)))]]) (.keep [0, 1, 5, 6, 7, 8] (.seq (.seq (.reg [iR 9 (.p .mv) [(.c (.int .i64 (.ofNat 0)))]]) (.keep [0, 1, 5, 6, 7, 8, 9] (.block 0 (.loop (.keep [0, 1, 5, 6, 7, 8, 9] (.seq (.seq (.reg [iR 18 (.p .mv) [(.t 9)], iR 19 (.p .mv) [(.t 7)], iR 20 (.p (.bin .lss)) [(.t 18), (.t 19)]]) (.keep [0, 1, 5, 6, 7, 8, 9, 20] (.cond (.t 20) .skip
    (.keep [0, 1, 5, 6, 7, 8] (.exit 0))))) (.keep [0, 1, 5, 6, 7, 8, 9] (.seq (.block 1 (.reg [iR 23 (.p .mv) [(.t 8)], iR 24 (.p (.bin .mul)) [(.t 23), (.c (.int .u32 (.ofNat 16777619)))], iR 25 (.p .mv) [(.t 0)], iR 26 (.p .mv) [(.t 9)], iR 27 (.p .strIndex) [(.t 25), (.t 26)], iR 28 (.p (.toInt .u32)) [(.t 27)], iR 29 (.p (.bin .add)) [(.t 24), (.t 28)], iR 8 (.p .mv) [(.t 29)]])) (.keep [0, 1, 5, 6, 7, 8, 9] (.reg [iR 21 (.p .mv) [(.t 9)], iR 22 (.p (.bin .add)) [(.t 21), (.c (.int .i64 (.ofNat 1)))], iR 9 (.p .mv) [(.t 22)]])))))))))) (.keep [0, 1, 5, 6, 7, 8] (.seq (.seq (.reg [iR 30 (.p .mv) [(.t 8)], iR 31 (.p .mv) [(.t 5)], iR 32 (.p (.bin .eql)) [(.t 30), (.t 31)], iR 33 (.p .mv) [(.t 32)], iG 34 33 true (.p .mv) [(.t 0)], iG 35 33 true (.p .mv) [(.t 7)], iG 36 33 true (.p (.strSlice false true)) [(.t 34), (.t 35)], iG 37 33 true (.p .mv) [(.t 1)],
    iG 38 33 true (.p (.bin .eql)) [(.t 36), (.t 37)], iR 39 (.p .pick) [(.t 33), (.t 38), (.c (.bool false))]]) (.keep [0, 1, 5, 6, 7, 8, 39] (.cond (.t 39) (.seq (.reg [iR 4 (.p .mv) [(.c (.int .i64 (.ofNat 0)))]]) (.keep [4] (.keep [4] .ret))) .skip))) (.keep [0, 1, 5, 6, 7, 8] (.seq (.seq (.reg [iR 40 (.p .mv) [(.t 7)], iR 10 (.p .mv) [(.t 40)]]) (.keep [0, 1, 5, 6, 7, 8, 10] (.block 2 (.loop (.keep [0, 1, 5, 6, 7, 8, 10] (.seq (.seq (.reg [iR 41 (.p .mv) [(.t 10)], iR 42 (.p .mv) [(.t 0)], iR 43 (.p .lenS) [(.t 42)], iR 44 (.p (.bin .lss)) [(.t 41), (.t 43)]]) (.keep [0, 1, 5, 6, 7, 8, 10, 44] (.cond (.t 44) .skip (.keep [] (.exit 2))))) (.keep [0, 1, 5, 6, 7, 8, 10] (.block 3 (.seq (.reg [iR 45 (.p .mv) [(.t 8)], iR 46 (.p (.bin .mul)) [(.t 45), (.c (.int .u32 (.ofNat 16777619)))], iR 8 (.p .mv) [(.t 46)]]) (.keep [0, 1, 5, 6, 7, 8, 10] (.seq (.reg [iR 47 (.p .mv) [(.t 8)],
    iR 48 (.p .mv) [(.t 0)], iR 49 (.p .mv) [(.t 10)], iR 50 (.p .strIndex) [(.t 48), (.t 49)], iR 51 (.p (.toInt .u32)) [(.t 50)], iR 52 (.p (.bin .add)) [(.t 47), (.t 51)], iR 8 (.p .mv) [(.t 52)]]) (.keep [0, 1, 5, 6, 7, 8, 10] (.seq (.reg [iR 53 (.p .mv) [(.t 8)], iR 54 (.p .mv) [(.t 6)], iR 55 (.p .mv) [(.t 0)], iR 56 (.p .mv) [(.t 10)], iR 57 (.p .mv) [(.t 7)], iR 58 (.p (.bin .sub)) [(.t 56), (.t 57)], iR 59 (.p .strIndex) [(.t 55), (.t 58)], iR 60 (.p (.toInt .u32)) [(.t 59)], iR 61 (.p (.bin .mul)) [(.t 54), (.t 60)], iR 62 (.p (.bin .sub)) [(.t 53), (.t 61)], iR 8 (.p .mv) [(.t 62)]]) (.keep [0, 1, 5, 6, 7, 8, 10] (.seq (.reg [iR 63 (.p .mv) [(.t 10)], iR 64 (.p (.bin .add)) [(.t 63), (.c (.int .i64 (.ofNat 1)))], iR 10 (.p .mv) [(.t 64)]]) (.keep [0, 1, 5, 6, 7, 8, 10] (.seq (.reg [iR 65 (.p .mv) [(.t 8)], iR 66 (.p .mv) [(.t 5)],
    iR 67 (.p (.bin .eql)) [(.t 65), (.t 66)], iR 68 (.p .mv) [(.t 67)], iG 69 68 true (.p .mv) [(.t 0)], iG 70 68 true (.p .mv) [(.t 10)], iG 71 68 true (.p .mv) [(.t 7)], iG 72 68 true (.p (.bin .sub)) [(.t 70), (.t 71)], iG 73 68 true (.p .mv) [(.t 10)], iG 74 68 true (.p (.strSlice true true)) [(.t 69), (.t 72), (.t 73)], iG 75 68 true (.p .mv) [(.t 1)], iG 76 68 true (.p (.bin .eql)) [(.t 74), (.t 75)], iR 77 (.p .pick) [(.t 68), (.t 76), (.c (.bool false))]]) (.keep [0, 1, 5, 6, 7, 8, 10, 77] (.cond (.t 77) (.seq (.reg [iR 78 (.p .mv) [(.t 10)], iR 79 (.p .mv) [(.t 7)], iR 80 (.p (.bin .sub)) [(.t 78), (.t 79)], iR 4 (.p .mv) [(.t 80)]]) (.keep [4] (.keep [4] .ret))) .skip))))))))))))))))))) (.keep [] (.seq (.reg [iR 4 (.p .mv) [(.c (.int .i64 (.negSucc 0)))]]) (.keep [4] (.keep [4] .ret))))))))))))))))), [(.t 4)]⟩
def s_bytealg_IndexRabinKarp_string_j1 (call : CallK) (N : Nat) (q : KV) (st : St) (τ : Tape) : Ans := match st with
  | ⟨fr, H⟩ => q (.int .i64 (.negSucc 0)) H τ
def s_bytealg_IndexRabinKarp_string_l2 (call : CallK) (N : Nat) (st : St) (τ : Tape) (k : KC) : Ans := match st with
  | ⟨fr, H⟩ => getK fr 0 fun t0 => getK fr 1 fun t1 => getK fr 5 fun t5 => getK fr 6 fun t6 => getK fr 7 fun t7 => getK fr 8 fun t8 => getK fr 10 fun t10 => someK (pLenS [t0]) fun v23 => binK .lss t10 v23 fun v24 => condK v24 (binK .mul t8 (.int .u32 (.ofNat 16777619)) fun v25 => someK (pStrIndex [t0, t10]) fun v26 => toIntK .u32 v26 fun v27 => binK .add v25 v27 fun v28 => binK .sub t10 t7 fun v29 => someK (pStrIndex [t0, v29]) fun v30 => toIntK .u32 v30 fun v31 => binK .mul t6 v31 fun v32 => binK .sub v28 v32 fun v33 => binK .add t10 (.int .i64 (.ofNat 1)) fun v34 => binK .eql v33 t5 fun v35 => gK v35 true (fun q' => q' t0 H τ) H τ fun v36 H37 τ38 => gK v35 true (fun q' => q' v34 H37 τ38) H37 τ38 fun v39 H40 τ41 => gK v35 true (fun q' => q' t7 H40 τ41) H40 τ41 fun v42 H43 τ44 => gK v35 true (fun q' => binK .sub v39 v42 fun v => q' v H43 τ44) H43 τ44 fun v45 H46 τ47 =>
    gK v35 true (fun q' => q' v34 H46 τ47) H46 τ47 fun v48 H49 τ50 => gK v35 true (fun q' => someK (pStrSlice true true [v36, v45, v48]) fun v => q' v H49 τ50) H49 τ50 fun v51 H52 τ53 => gK v35 true (fun q' => q' t1 H52 τ53) H52 τ53 fun v54 H55 τ56 => gK v35 true (fun q' => binK .eql v51 v54 fun v => q' v H55 τ56) H55 τ56 fun v57 H58 τ59 => someK (pPick [v35, v57, (.bool false)]) fun v60 => condK v60 (binK .sub v34 t7 fun v61 => k .ret ⟨(T.set .leaf 4 v61), H58⟩ τ59) (k .normal ⟨(T.set (T.set (T.set (T.set (T.set (T.set (T.set (T.set .leaf 0 t0) 1 t1) 5 t5) 6 t6) 7 t7) 8 v33) 10 v34) 77 v60), H58⟩ τ59)) (k (.exit 2) ⟨.leaf, H⟩ τ)
def s_bytealg_IndexRabinKarp_string_j0 (call : CallK) (N : Nat) (q : KV) (st : St) (τ : Tape) : Ans := match st with
  | ⟨fr, H⟩ => getK fr 0 fun t0 => getK fr 1 fun t1 => getK fr 5 fun t5 => getK fr 6 fun t6 => getK fr 7 fun t7 => getK fr 8 fun t8 => binK .eql t8 t5 fun v6 => gK v6 true (fun q' => q' t0 H τ) H τ fun v7 H8 τ9 => gK v6 true (fun q' => q' t7 H8 τ9) H8 τ9 fun v10 H11 τ12 => gK v6 true (fun q' => someK (pStrSlice false true [v7, v10]) fun v => q' v H11 τ12) H11 τ12 fun v13 H14 τ15 => gK v6 true (fun q' => q' t1 H14 τ15) H14 τ15 fun v16 H17 τ18 => gK v6 true (fun q' => binK .eql v13 v16 fun v => q' v H17 τ18) H17 τ18 fun v19 H20 τ21 => someK (pPick [v6, v19, (.bool false)]) fun v22 => condK v22 (q (.int .i64 (.ofNat 0)) H20 τ21) (loopK (s_bytealg_IndexRabinKarp_string_l2 call N) N ⟨(T.set (T.set (T.set (T.set (T.set (T.set (T.set .leaf 0 t0) 1 t1) 5 t5) 6 t6) 7 t7) 8 t8) 10 t7), H20⟩ τ21 (blockK 2 (seqK (s_bytealg_IndexRabinKarp_string_j1 call N q) (endK [(.t 4)] q))))
def s_bytealg_IndexRabinKarp_string_l3 (call : CallK) (N : Nat) (st : St) (τ : Tape) (k : KC) : Ans := match st with
  | ⟨fr, H⟩ => getK fr 0 fun t0 => getK fr 1 fun t1 => getK fr 5 fun t5 => getK fr 6 fun t6 => getK fr 7 fun t7 => getK fr 8 fun t8 => getK fr 9 fun t9 => binK .lss t9 t7 fun v62 => condK v62 (binK .mul t8 (.int .u32 (.ofNat 16777619)) fun v63 => someK (pStrIndex [t0, t9]) fun v64 => toIntK .u32 v64 fun v65 => binK .add v63 v65 fun v66 => binK .add t9 (.int .i64 (.ofNat 1)) fun v67 => k .normal ⟨(T.set (T.set (T.set (T.set (T.set (T.set (T.set (T.set (T.set (T.set .leaf 0 t0) 1 t1) 5 t5) 6 t6) 7 t7) 8 v66) 9 t9) 21 t9) 22 v67) 9 v67), H⟩ τ) (k (.exit 0) ⟨(T.set (T.set (T.set (T.set (T.set (T.set .leaf 0 t0) 1 t1) 5 t5) 6 t6) 7 t7) 8 t8), H⟩ τ)
def s_bytealg_IndexRabinKarp_string (call : CallK) (N : Nat) (a0 a1 : V) (H : Heap) (τ : Tape) (q : KV) : Ans := call f_bytealg_hashStr_string [a1] H τ fun v0 H1 τ2 => someK (pExtract 0 [v0]) fun v3 => someK (pExtract 1 [v0]) fun v4 => someK (pLenS [a1]) fun v5 => loopK (s_bytealg_IndexRabinKarp_string_l3 call N) N ⟨(T.set (T.set (T.set (T.set (T.set (T.set (T.set .leaf 0 a0) 1 a1) 5 v3) 6 v4) 7 v5) 8 (.int .u32 (.ofNat 0))) 9 (.int .i64 (.ofNat 0))), H1⟩ τ2 (blockK 0 (seqK (s_bytealg_IndexRabinKarp_string_j0 call N q) (endK [(.t 4)] q)))
theorem s_bytealg_IndexRabinKarp_string_eq (call : CallK) (N : Nat) (a0 a1 : V) (H : Heap) (τ : Tape) (q : KV) : s_bytealg_IndexRabinKarp_string call N a0 a1 H τ q = funK call N fn_bytealg_IndexRabinKarp_string [a0, a1] H τ q := by kernel_rfl
def e_bytealg_IndexRabinKarp_string (call : CallK) (N : Nat) (vs : List V) (H : Heap) (τ : Tape) (q : KV) : Ans := match vs with | [a0, a1] => s_bytealg_IndexRabinKarp_string call N a0 a1 H τ q | _ => none
theorem e_bytealg_IndexRabinKarp_string_ok : EntOk fn_bytealg_IndexRabinKarp_string e_bytealg_IndexRabinKarp_string := by
  intro call N vs H τ q r h
  unfold e_bytealg_IndexRabinKarp_string at h
  split at h
  · rw [s_bytealg_IndexRabinKarp_string_eq] at h; exact h
  · cases h
theorem e_bytealg_IndexRabinKarp_string_nat : EntNat e_bytealg_IndexRabinKarp_string := by
  intro c hn N vs H τ q
  unfold e_bytealg_IndexRabinKarp_string
  split
  · rw [s_bytealg_IndexRabinKarp_string_eq, s_bytealg_IndexRabinKarp_string_eq]; exact funK_ent hn _ _ _ _ _ _
  · rfl
/-- internal/stringslite.HasPrefix -/
def fn_stringslite_HasPrefix : Fun := ⟨2, (.seq (.reg [iR 4 (.p .mv) [(.c (.bool false))]]) (.keep [0, 1] (.seq (.reg [iR 5 (.p .mv) [(.t 0)], iR 6 (.p .lenS) [(.t 5)], iR 7 (.p .mv) [(.t 1)], iR 8 (.p .lenS) [(.t 7)], iR 9 (.p (.bin .geq)) [(.t 6), (.t 8)], iR 10 (.p .mv) [(.t 9)], iG 11 10 true (.p .mv) [(.t 0)], iG 12 10 true (.p .mv) [(.t 1)], iG 13 10 true (.p .lenS) [(.t 12)], iG 14 10 true (.p (.strSlice false true)) [(.t 11), (.t 13)], iG 15 10 true (.p .mv) [(.t 1)], iG 16 10 true (.p (.bin .eql)) [(.t 14), (.t 15)], iR 17 (.p .pick) [(.t 10), (.t 16), (.c (.bool false))], iR 4 (.p .mv) [(.t 17)]]) (.keep [4] (.keep [4] .ret))))), [(.t 4)]⟩
def s_stringslite_HasPrefix (call : CallK) (N : Nat) (a0 a1 : V) (H : Heap) (τ : Tape) (q : KV) : Ans := someK (pLenS [a0]) fun v0 => someK (pLenS [a1]) fun v1 => binK .geq v0 v1 fun v2 => gK v2 true (fun q' => q' a0 H τ) H τ fun v3 H4 τ5 => gK v2 true (fun q' => q' a1 H4 τ5) H4 τ5 fun v6 H7 τ8 => gK v2 true (fun q' => someK (pLenS [v6]) fun v => q' v H7 τ8) H7 τ8 fun v9 H10 τ11 => gK v2 true (fun q' => someK (pStrSlice false true [v3, v9]) fun v => q' v H10 τ11) H10 τ11 fun v12 H13 τ14 => gK v2 true (fun q' => q' a1 H13 τ14) H13 τ14 fun v15 H16 τ17 => gK v2 true (fun q' => binK .eql v12 v15 fun v => q' v H16 τ17) H16 τ17 fun v18 H19 τ20 => someK (pPick [v2, v18, (.bool false)]) fun v21 => q v21 H19 τ20
theorem s_stringslite_HasPrefix_eq (call : CallK) (N : Nat) (a0 a1 : V) (H : Heap) (τ : Tape) (q : KV) : s_stringslite_HasPrefix call N a0 a1 H τ q = funK call N fn_stringslite_HasPrefix [a0, a1] H τ q := by kernel_rfl
def e_stringslite_HasPrefix (call : CallK) (N : Nat) (vs : List V) (H : Heap) (τ : Tape) (q : KV) : Ans := match vs with | [a0, a1] => s_stringslite_HasPrefix call N a0 a1 H τ q | _ => none
theorem e_stringslite_HasPrefix_ok : EntOk fn_stringslite_HasPrefix e_stringslite_HasPrefix := by
  intro call N vs H τ q r h
  unfold e_stringslite_HasPrefix at h
  split at h
  · rw [s_stringslite_HasPrefix_eq] at h; exact h
  · cases h
theorem e_stringslite_HasPrefix_nat : EntNat e_stringslite_HasPrefix := by
  intro c hn N vs H τ q
  unfold e_stringslite_HasPrefix
  split
  · rw [s_stringslite_HasPrefix_eq, s_stringslite_HasPrefix_eq]; exact funK_ent hn _ _ _ _ _ _
  · rfl
end Go.Am.X
