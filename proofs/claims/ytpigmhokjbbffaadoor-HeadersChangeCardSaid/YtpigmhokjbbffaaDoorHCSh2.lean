/- The abstract machine, printed functions of the program, and what they are shown to be. -/
import Derived.Test.YtpigmhokjbbffaaDoorHCSh1
import Derived.Test.YtpigmhokjbbffaaDoorHCM3
import Derived.KernelRfl
namespace Go.Am.X
set_option maxRecDepth 1000000
set_option linter.unusedVariables false
/-- internal/bytealg.IndexRabinKarp[string] -/
def fn_bytealg_IndexRabinKarp_string : Fun := ⟨2,
  (.seq (.reg [⟨(some 4), none, (.p .mv), [(.c (.int .i64 (.ofNat 0)))], none⟩])
  (.keep [0, 1] (.seq (.reg [⟨(some 12), none, (.p .mv), [(.t 1)], none⟩,
    ⟨(some 13), none, (.call 121), [(.t 12)], none⟩,
    ⟨(some 11), none, (.p .mv), [(.t 13)], none⟩,
    ⟨(some 14), none, (.p (.extract 0)), [(.t 11)], none⟩,
    ⟨(some 15), none, (.p (.extract 1)), [(.t 11)], none⟩,
    ⟨(some 5), none, (.p .mv), [(.t 14)], none⟩,
    ⟨(some 6), none, (.p .mv), [(.t 15)], none⟩])
  (.keep [0, 1, 5, 6] (.seq (.reg [⟨(some 16), none, (.p .mv), [(.t 1)], none⟩,
    ⟨(some 17), none, (.p .lenS), [(.t 16)], none⟩,
    ⟨(some 7), none, (.p .mv), [(.t 17)], none⟩])
  (.keep [0, 1, 5, 6, 7] (.seq (.reg [⟨(some 8), none, (.p .mv), [(.c (.int .u32 (.ofNat 0)))], none⟩])
  (.keep [0, 1, 5, 6, 7, 8] (.seq (.seq (.reg [⟨(some 9), none, (.p .mv), [(.c (.int .i64 (.ofNat 0)))], none⟩])
  (.keep [0, 1, 5, 6, 7, 8, 9] (.block 0
   (.loop
    (.keep [0, 1, 5, 6, 7, 8, 9] (.seq (.seq (.reg [⟨(some 18), none, (.p .mv), [(.t 9)], none⟩,
      ⟨(some 19), none, (.p .mv), [(.t 7)], none⟩,
      ⟨(some 20), none, (.p (.bin .lss)), [(.t 18), (.t 19)], none⟩])
    (.keep [0, 1, 5, 6, 7, 8, 9, 20] (.cond (.t 20)
     .skip
     (.keep [0, 1, 5, 6, 7, 8] (.exit 0)))))
    (.keep [0, 1, 5, 6, 7, 8, 9] (.seq (.block 1
     (.reg [⟨(some 23), none, (.p .mv), [(.t 8)], none⟩,
       ⟨(some 24), none, (.p (.bin .mul)), [(.t 23), (.c (.int .u32 (.ofNat 16777619)))], none⟩,
       ⟨(some 25), none, (.p .mv), [(.t 0)], none⟩,
       ⟨(some 26), none, (.p .mv), [(.t 9)], none⟩,
       ⟨(some 27), none, (.p .strIndex), [(.t 25), (.t 26)], none⟩,
       ⟨(some 28), none, (.p (.toInt .u32)), [(.t 27)], none⟩,
       ⟨(some 29), none, (.p (.bin .add)), [(.t 24), (.t 28)], none⟩,
       ⟨(some 8), none, (.p .mv), [(.t 29)], none⟩]))
    (.keep [0, 1, 5, 6, 7, 8, 9] (.reg [⟨(some 21), none, (.p .mv), [(.t 9)], none⟩,
      ⟨(some 22), none, (.p (.bin .add)), [(.t 21), (.c (.int .i64 (.ofNat 1)))], none⟩,
      ⟨(some 9), none, (.p .mv), [(.t 22)], none⟩]))))))))))
  (.keep [0, 1, 5, 6, 7, 8] (.seq (.seq (.reg [⟨(some 30), none, (.p .mv), [(.t 8)], none⟩,
    ⟨(some 31), none, (.p .mv), [(.t 5)], none⟩,
    ⟨(some 32), none, (.p (.bin .eql)), [(.t 30), (.t 31)], none⟩,
    ⟨(some 33), none, (.p .mv), [(.t 32)], none⟩,
    ⟨(some 34), some (33, true), (.p .mv), [(.t 0)], none⟩,
    ⟨(some 35), some (33, true), (.p .mv), [(.t 7)], none⟩,
    ⟨(some 36), some (33, true), (.p (.strSlice false true)), [(.t 34), (.t 35)], none⟩,
    ⟨(some 37), some (33, true), (.p .mv), [(.t 1)], none⟩,
    ⟨(some 38), some (33, true), (.p (.bin .eql)), [(.t 36), (.t 37)], none⟩,
    ⟨(some 39), none, (.p .pick), [(.t 33), (.t 38), (.c (.bool false))], none⟩])
  (.keep [0, 1, 5, 6, 7, 8, 39] (.cond (.t 39)
   (.seq (.reg [⟨(some 4), none, (.p .mv), [(.c (.int .i64 (.ofNat 0)))], none⟩])
   (.keep [4] (.keep [4] .ret)))
   .skip)))
  (.keep [0, 1, 5, 6, 7, 8] (.seq (.seq (.reg [⟨(some 40), none, (.p .mv), [(.t 7)], none⟩,
    ⟨(some 10), none, (.p .mv), [(.t 40)], none⟩])
  (.keep [0, 1, 5, 6, 7, 8, 10] (.block 2
   (.loop
    (.keep [0, 1, 5, 6, 7, 8, 10] (.seq (.seq (.reg [⟨(some 41), none, (.p .mv), [(.t 10)], none⟩,
      ⟨(some 42), none, (.p .mv), [(.t 0)], none⟩,
      ⟨(some 43), none, (.p .lenS), [(.t 42)], none⟩,
      ⟨(some 44), none, (.p (.bin .lss)), [(.t 41), (.t 43)], none⟩])
    (.keep [0, 1, 5, 6, 7, 8, 10, 44] (.cond (.t 44)
     .skip
     (.keep [] (.exit 2)))))
    (.keep [0, 1, 5, 6, 7, 8, 10] (.block 3
     (.seq (.reg [⟨(some 45), none, (.p .mv), [(.t 8)], none⟩,
       ⟨(some 46), none, (.p (.bin .mul)), [(.t 45), (.c (.int .u32 (.ofNat 16777619)))], none⟩,
       ⟨(some 8), none, (.p .mv), [(.t 46)], none⟩])
     (.keep [0, 1, 5, 6, 7, 8, 10] (.seq (.reg [⟨(some 47), none, (.p .mv), [(.t 8)], none⟩,
       ⟨(some 48), none, (.p .mv), [(.t 0)], none⟩,
       ⟨(some 49), none, (.p .mv), [(.t 10)], none⟩,
       ⟨(some 50), none, (.p .strIndex), [(.t 48), (.t 49)], none⟩,
       ⟨(some 51), none, (.p (.toInt .u32)), [(.t 50)], none⟩,
       ⟨(some 52), none, (.p (.bin .add)), [(.t 47), (.t 51)], none⟩,
       ⟨(some 8), none, (.p .mv), [(.t 52)], none⟩])
     (.keep [0, 1, 5, 6, 7, 8, 10] (.seq (.reg [⟨(some 53), none, (.p .mv), [(.t 8)], none⟩,
       ⟨(some 54), none, (.p .mv), [(.t 6)], none⟩,
       ⟨(some 55), none, (.p .mv), [(.t 0)], none⟩,
       ⟨(some 56), none, (.p .mv), [(.t 10)], none⟩,
       ⟨(some 57), none, (.p .mv), [(.t 7)], none⟩,
       ⟨(some 58), none, (.p (.bin .sub)), [(.t 56), (.t 57)], none⟩,
       ⟨(some 59), none, (.p .strIndex), [(.t 55), (.t 58)], none⟩,
       ⟨(some 60), none, (.p (.toInt .u32)), [(.t 59)], none⟩,
       ⟨(some 61), none, (.p (.bin .mul)), [(.t 54), (.t 60)], none⟩,
       ⟨(some 62), none, (.p (.bin .sub)), [(.t 53), (.t 61)], none⟩,
       ⟨(some 8), none, (.p .mv), [(.t 62)], none⟩])
     (.keep [0, 1, 5, 6, 7, 8, 10] (.seq (.reg [⟨(some 63), none, (.p .mv), [(.t 10)], none⟩,
       ⟨(some 64), none, (.p (.bin .add)), [(.t 63), (.c (.int .i64 (.ofNat 1)))], none⟩,
       ⟨(some 10), none, (.p .mv), [(.t 64)], none⟩])
     (.keep [0, 1, 5, 6, 7, 8, 10] (.seq (.reg [⟨(some 65), none, (.p .mv), [(.t 8)], none⟩,
       ⟨(some 66), none, (.p .mv), [(.t 5)], none⟩,
       ⟨(some 67), none, (.p (.bin .eql)), [(.t 65), (.t 66)], none⟩,
       ⟨(some 68), none, (.p .mv), [(.t 67)], none⟩,
       ⟨(some 69), some (68, true), (.p .mv), [(.t 0)], none⟩,
       ⟨(some 70), some (68, true), (.p .mv), [(.t 10)], none⟩,
       ⟨(some 71), some (68, true), (.p .mv), [(.t 7)], none⟩,
       ⟨(some 72), some (68, true), (.p (.bin .sub)), [(.t 70), (.t 71)], none⟩,
       ⟨(some 73), some (68, true), (.p .mv), [(.t 10)], none⟩,
       ⟨(some 74), some (68, true), (.p (.strSlice true true)), [(.t 69), (.t 72), (.t 73)], none⟩,
       ⟨(some 75), some (68, true), (.p .mv), [(.t 1)], none⟩,
       ⟨(some 76), some (68, true), (.p (.bin .eql)), [(.t 74), (.t 75)], none⟩,
       ⟨(some 77), none, (.p .pick), [(.t 68), (.t 76), (.c (.bool false))], none⟩])
     (.keep [0, 1, 5, 6, 7, 8, 10, 77] (.cond (.t 77)
      (.seq (.reg [⟨(some 78), none, (.p .mv), [(.t 10)], none⟩,
        ⟨(some 79), none, (.p .mv), [(.t 7)], none⟩,
        ⟨(some 80), none, (.p (.bin .sub)), [(.t 78), (.t 79)], none⟩,
        ⟨(some 4), none, (.p .mv), [(.t 80)], none⟩])
      (.keep [4] (.keep [4] .ret)))
      .skip)))))))))))))))))))
  (.keep [] (.seq (.reg [⟨(some 4), none, (.p .mv), [(.c (.int .i64 (.negSucc 0)))], none⟩])
  (.keep [4] (.keep [4] .ret))))))))))))))))),
  [(.t 4)]⟩
def s_bytealg_IndexRabinKarp_string_j1 (call : CallK) (N : Nat) (q : KV) (st : St) (τ : Tape) : Ans :=
  match st with
  | ⟨fr, H⟩ =>
  q (.int .i64 (.negSucc 0)) H τ
def s_bytealg_IndexRabinKarp_string_l2 (call : CallK) (N : Nat) (st : St) (τ : Tape) (k : KC) : Ans :=
  match st with
  | ⟨fr, H⟩ =>
  getK fr 0 fun t0 =>
  getK fr 1 fun t1 =>
  getK fr 5 fun t5 =>
  getK fr 6 fun t6 =>
  getK fr 7 fun t7 =>
  getK fr 8 fun t8 =>
  getK fr 10 fun t10 =>
  someK (pLenS [t0]) fun v23 =>
  binK .lss t10 v23 fun v24 =>
  condK v24
    (binK .mul t8 (.int .u32 (.ofNat 16777619)) fun v25 =>
  someK (pStrIndex [t0, t10]) fun v26 =>
  toIntK .u32 v26 fun v27 =>
  binK .add v25 v27 fun v28 =>
  binK .sub t10 t7 fun v29 =>
  someK (pStrIndex [t0, v29]) fun v30 =>
  toIntK .u32 v30 fun v31 =>
  binK .mul t6 v31 fun v32 =>
  binK .sub v28 v32 fun v33 =>
  binK .add t10 (.int .i64 (.ofNat 1)) fun v34 =>
  binK .eql v33 t5 fun v35 =>
  gK v35 true (fun q' => q' t0 H τ) H τ fun v36 H37 τ38 =>
  gK v35 true (fun q' => q' v34 H37 τ38) H37 τ38 fun v39 H40 τ41 =>
  gK v35 true (fun q' => q' t7 H40 τ41) H40 τ41 fun v42 H43 τ44 =>
  gK v35 true (fun q' => binK .sub v39 v42 fun v => q' v H43 τ44) H43 τ44 fun v45 H46 τ47 =>
  gK v35 true (fun q' => q' v34 H46 τ47) H46 τ47 fun v48 H49 τ50 =>
  gK v35 true (fun q' => someK (pStrSlice true true [v36, v45, v48]) fun v => q' v H49 τ50) H49 τ50 fun v51 H52 τ53 =>
  gK v35 true (fun q' => q' t1 H52 τ53) H52 τ53 fun v54 H55 τ56 =>
  gK v35 true (fun q' => binK .eql v51 v54 fun v => q' v H55 τ56) H55 τ56 fun v57 H58 τ59 =>
  someK (pPick [v35, v57, (.bool false)]) fun v60 =>
  condK v60
    (binK .sub v34 t7 fun v61 =>
  k .ret ⟨(T.set .leaf 4 v61), H58⟩ τ59)
    (k .normal ⟨(T.set (T.set (T.set (T.set (T.set (T.set (T.set (T.set .leaf 0 t0) 1 t1) 5 t5) 6 t6) 7 t7) 8 v33) 10 v34) 77 v60), H58⟩ τ59))
    (k (.exit 2) ⟨.leaf, H⟩ τ)
def s_bytealg_IndexRabinKarp_string_j0 (call : CallK) (N : Nat) (q : KV) (st : St) (τ : Tape) : Ans :=
  match st with
  | ⟨fr, H⟩ =>
  getK fr 0 fun t0 =>
  getK fr 1 fun t1 =>
  getK fr 5 fun t5 =>
  getK fr 6 fun t6 =>
  getK fr 7 fun t7 =>
  getK fr 8 fun t8 =>
  binK .eql t8 t5 fun v6 =>
  gK v6 true (fun q' => q' t0 H τ) H τ fun v7 H8 τ9 =>
  gK v6 true (fun q' => q' t7 H8 τ9) H8 τ9 fun v10 H11 τ12 =>
  gK v6 true (fun q' => someK (pStrSlice false true [v7, v10]) fun v => q' v H11 τ12) H11 τ12 fun v13 H14 τ15 =>
  gK v6 true (fun q' => q' t1 H14 τ15) H14 τ15 fun v16 H17 τ18 =>
  gK v6 true (fun q' => binK .eql v13 v16 fun v => q' v H17 τ18) H17 τ18 fun v19 H20 τ21 =>
  someK (pPick [v6, v19, (.bool false)]) fun v22 =>
  condK v22
    (q (.int .i64 (.ofNat 0)) H20 τ21)
    (loopK (s_bytealg_IndexRabinKarp_string_l2 call N) N ⟨(T.set (T.set (T.set (T.set (T.set (T.set (T.set .leaf 0 t0) 1 t1) 5 t5) 6 t6) 7 t7) 8 t8) 10 t7), H20⟩ τ21 (blockK 2 (seqK (s_bytealg_IndexRabinKarp_string_j1 call N q) (endK [(.t 4)] q))))
def s_bytealg_IndexRabinKarp_string_l3 (call : CallK) (N : Nat) (st : St) (τ : Tape) (k : KC) : Ans :=
  match st with
  | ⟨fr, H⟩ =>
  getK fr 0 fun t0 =>
  getK fr 1 fun t1 =>
  getK fr 5 fun t5 =>
  getK fr 6 fun t6 =>
  getK fr 7 fun t7 =>
  getK fr 8 fun t8 =>
  getK fr 9 fun t9 =>
  binK .lss t9 t7 fun v62 =>
  condK v62
    (binK .mul t8 (.int .u32 (.ofNat 16777619)) fun v63 =>
  someK (pStrIndex [t0, t9]) fun v64 =>
  toIntK .u32 v64 fun v65 =>
  binK .add v63 v65 fun v66 =>
  binK .add t9 (.int .i64 (.ofNat 1)) fun v67 =>
  k .normal ⟨(T.set (T.set (T.set (T.set (T.set (T.set (T.set (T.set (T.set (T.set .leaf 0 t0) 1 t1) 5 t5) 6 t6) 7 t7) 8 v66) 9 t9) 21 t9) 22 v67) 9 v67), H⟩ τ)
    (k (.exit 0) ⟨(T.set (T.set (T.set (T.set (T.set (T.set .leaf 0 t0) 1 t1) 5 t5) 6 t6) 7 t7) 8 t8), H⟩ τ)
def s_bytealg_IndexRabinKarp_string (call : CallK) (N : Nat) (a0 a1 : V) (H : Heap) (τ : Tape) (q : KV) : Ans :=
  call f_bytealg_hashStr_string [a1] H τ fun v0 H1 τ2 =>
  someK (pExtract 0 [v0]) fun v3 =>
  someK (pExtract 1 [v0]) fun v4 =>
  someK (pLenS [a1]) fun v5 =>
  loopK (s_bytealg_IndexRabinKarp_string_l3 call N) N ⟨(T.set (T.set (T.set (T.set (T.set (T.set (T.set .leaf 0 a0) 1 a1) 5 v3) 6 v4) 7 v5) 8 (.int .u32 (.ofNat 0))) 9 (.int .i64 (.ofNat 0))), H1⟩ τ2 (blockK 0 (seqK (s_bytealg_IndexRabinKarp_string_j0 call N q) (endK [(.t 4)] q)))
theorem s_bytealg_IndexRabinKarp_string_eq (call : CallK) (N : Nat) (a0 a1 : V) (H : Heap) (τ : Tape) (q : KV) : s_bytealg_IndexRabinKarp_string call N a0 a1 H τ q = funK call N fn_bytealg_IndexRabinKarp_string [a0, a1] H τ q := by kernel_rfl
def e_bytealg_IndexRabinKarp_string (call : CallK) (N : Nat) (vs : List V) (H : Heap) (τ : Tape) (q : KV) : Ans := match vs with | [a0, a1] => s_bytealg_IndexRabinKarp_string call N a0 a1 H τ q | _ => none
theorem e_bytealg_IndexRabinKarp_string_ok : EntOk fn_bytealg_IndexRabinKarp_string e_bytealg_IndexRabinKarp_string := by
  intro call N vs H τ q r h
  unfold e_bytealg_IndexRabinKarp_string at h
  split at h
  · rw [s_bytealg_IndexRabinKarp_string_eq] at h; exact h
  · cases h
theorem e_bytealg_IndexRabinKarp_string_nat : EntNat e_bytealg_IndexRabinKarp_string := by
  intro c hn N vs H τ q
  unfold e_bytealg_IndexRabinKarp_string
  split
  · rw [s_bytealg_IndexRabinKarp_string_eq, s_bytealg_IndexRabinKarp_string_eq]; exact funK_ent hn _ _ _ _ _ _
  · rfl
/-- ostiary/ostiaryref1.ends -/
def fn_ref1_ends : Fun := ⟨2,
  (.seq (.reg [⟨(some 4), none, (.p .mv), [(.c (.bool false))], none⟩])
  (.keep [0, 1] (.seq (.reg [⟨(some 5), none, (.p .mv), [(.t 0)], none⟩,
    ⟨(some 6), none, (.p (.bin .eql)), [(.t 5), (.c (.int .u8 (.ofNat 9)))], none⟩,
    ⟨(some 7), none, (.p .mv), [(.t 6)], none⟩,
    ⟨(some 8), some (7, false), (.p .mv), [(.t 0)], none⟩,
    ⟨(some 9), some (7, false), (.p (.bin .eql)), [(.t 8), (.c (.int .u8 (.ofNat 32)))], none⟩,
    ⟨(some 10), none, (.p .pick), [(.t 7), (.c (.bool true)), (.t 9)], none⟩,
    ⟨(some 11), none, (.p .mv), [(.t 10)], none⟩,
    ⟨(some 12), some (11, false), (.p .mv), [(.t 1)], none⟩,
    ⟨(some 13), some (11, false), (.p (.un .not)), [(.t 12)], none⟩,
    ⟨(some 14), some (11, false), (.p .mv), [(.t 13)], none⟩,
    ⟨(some 15), some (14, true), (.p .mv), [(.t 0)], none⟩,
    ⟨(some 16), some (14, true), (.p (.bin .eql)), [(.t 15), (.c (.int .u8 (.ofNat 10)))], none⟩,
    ⟨(some 17), some (14, true), (.p .mv), [(.t 16)], none⟩,
    ⟨(some 18), some (17, false), (.p .mv), [(.t 0)], none⟩,
    ⟨(some 19), some (17, false), (.p (.bin .eql)), [(.t 18), (.c (.int .u8 (.ofNat 13)))], none⟩,
    ⟨(some 20), some (14, true), (.p .pick), [(.t 17), (.c (.bool true)), (.t 19)], none⟩,
    ⟨(some 21), some (11, false), (.p .pick), [(.t 14), (.t 20), (.c (.bool false))], none⟩,
    ⟨(some 22), none, (.p .pick), [(.t 11), (.c (.bool true)), (.t 21)], none⟩,
    ⟨(some 4), none, (.p .mv), [(.t 22)], none⟩])
  (.keep [4] (.keep [4] .ret))))),
  [(.t 4)]⟩
def s_ref1_ends (call : CallK) (N : Nat) (a0 a1 : V) (H : Heap) (τ : Tape) (q : KV) : Ans :=
  binK .eql a0 (.int .u8 (.ofNat 9)) fun v0 =>
  gK v0 false (fun q' => q' a0 H τ) H τ fun v1 H2 τ3 =>
  gK v0 false (fun q' => binK .eql v1 (.int .u8 (.ofNat 32)) fun v => q' v H2 τ3) H2 τ3 fun v4 H5 τ6 =>
  someK (pPick [v0, (.bool true), v4]) fun v7 =>
  gK v7 false (fun q' => q' a1 H5 τ6) H5 τ6 fun v8 H9 τ10 =>
  gK v7 false (fun q' => unK .not v8 fun v => q' v H9 τ10) H9 τ10 fun v11 H12 τ13 =>
  gK v7 false (fun q' => q' v11 H12 τ13) H12 τ13 fun v14 H15 τ16 =>
  gK v14 true (fun q' => q' a0 H15 τ16) H15 τ16 fun v17 H18 τ19 =>
  gK v14 true (fun q' => binK .eql v17 (.int .u8 (.ofNat 10)) fun v => q' v H18 τ19) H18 τ19 fun v20 H21 τ22 =>
  gK v14 true (fun q' => q' v20 H21 τ22) H21 τ22 fun v23 H24 τ25 =>
  gK v23 false (fun q' => q' a0 H24 τ25) H24 τ25 fun v26 H27 τ28 =>
  gK v23 false (fun q' => binK .eql v26 (.int .u8 (.ofNat 13)) fun v => q' v H27 τ28) H27 τ28 fun v29 H30 τ31 =>
  gK v14 true (fun q' => someK (pPick [v23, (.bool true), v29]) fun v => q' v H30 τ31) H30 τ31 fun v32 H33 τ34 =>
  gK v7 false (fun q' => someK (pPick [v14, v32, (.bool false)]) fun v => q' v H33 τ34) H33 τ34 fun v35 H36 τ37 =>
  someK (pPick [v7, (.bool true), v35]) fun v38 =>
  q v38 H36 τ37
theorem s_ref1_ends_eq (call : CallK) (N : Nat) (a0 a1 : V) (H : Heap) (τ : Tape) (q : KV) : s_ref1_ends call N a0 a1 H τ q = funK call N fn_ref1_ends [a0, a1] H τ q := by kernel_rfl
def e_ref1_ends (call : CallK) (N : Nat) (vs : List V) (H : Heap) (τ : Tape) (q : KV) : Ans := match vs with | [a0, a1] => s_ref1_ends call N a0 a1 H τ q | _ => none
theorem e_ref1_ends_ok : EntOk fn_ref1_ends e_ref1_ends := by
  intro call N vs H τ q r h
  unfold e_ref1_ends at h
  split at h
  · rw [s_ref1_ends_eq] at h; exact h
  · cases h
theorem e_ref1_ends_nat : EntNat e_ref1_ends := by
  intro c hn N vs H τ q
  unfold e_ref1_ends
  split
  · rw [s_ref1_ends_eq, s_ref1_ends_eq]; exact funK_ent hn _ _ _ _ _ _
  · rfl
/-- unicode/utf8.ValidRune -/
def fn_utf8_ValidRune : Fun := ⟨1,
  (.seq (.reg [⟨(some 2), none, (.p .mv), [(.c (.bool false))], none⟩])
  (.keep [0] (.seq (.block 0
   (.seq (.reg [⟨(some 4), none, (.p .mv), [(.t 0)], none⟩,
     ⟨(some 5), none, (.p (.bin .leq)), [(.c (.int .i32 (.ofNat 0))), (.t 4)], none⟩,
     ⟨(some 6), none, (.p .mv), [(.t 5)], none⟩,
     ⟨(some 7), some (6, true), (.p .mv), [(.t 0)], none⟩,
     ⟨(some 8), some (6, true), (.p (.bin .lss)), [(.t 7), (.c (.int .i32 (.ofNat 55296)))], none⟩,
     ⟨(some 9), none, (.p .pick), [(.t 6), (.t 8), (.c (.bool false))], none⟩,
     ⟨(some 3), none, (.p .mv), [(.t 9)], none⟩])
   (.keep [0, 3] (.cond (.t 3)
    (.seq (.reg [⟨(some 2), none, (.p .mv), [(.c (.bool true))], none⟩])
    (.keep [2] (.keep [2] .ret)))
    (.seq (.reg [⟨(some 11), none, (.p .mv), [(.t 0)], none⟩,
      ⟨(some 12), none, (.p (.bin .lss)), [(.c (.int .i32 (.ofNat 57343))), (.t 11)], none⟩,
      ⟨(some 13), none, (.p .mv), [(.t 12)], none⟩,
      ⟨(some 14), some (13, true), (.p .mv), [(.t 0)], none⟩,
      ⟨(some 15), some (13, true), (.p (.bin .leq)), [(.t 14), (.c (.int .i32 (.ofNat 1114111)))], none⟩,
      ⟨(some 16), none, (.p .pick), [(.t 13), (.t 15), (.c (.bool false))], none⟩,
      ⟨(some 10), none, (.p .mv), [(.t 16)], none⟩])
    (.keep [10] (.cond (.t 10)
     (.seq (.reg [⟨(some 2), none, (.p .mv), [(.c (.bool true))], none⟩])
     (.keep [2] (.keep [2] .ret)))
     .skip)))))))
  (.keep [] (.seq (.reg [⟨(some 2), none, (.p .mv), [(.c (.bool false))], none⟩])
  (.keep [2] (.keep [2] .ret))))))),
  [(.t 2)]⟩
def s_utf8_ValidRune (call : CallK) (N : Nat) (a0 : V) (H : Heap) (τ : Tape) (q : KV) : Ans :=
  binK .leq (.int .i32 (.ofNat 0)) a0 fun v0 =>
  gK v0 true (fun q' => q' a0 H τ) H τ fun v1 H2 τ3 =>
  gK v0 true (fun q' => binK .lss v1 (.int .i32 (.ofNat 55296)) fun v => q' v H2 τ3) H2 τ3 fun v4 H5 τ6 =>
  someK (pPick [v0, v4, (.bool false)]) fun v7 =>
  condK v7
    (q (.bool true) H5 τ6)
    (binK .lss (.int .i32 (.ofNat 57343)) a0 fun v8 =>
  gK v8 true (fun q' => q' a0 H5 τ6) H5 τ6 fun v9 H10 τ11 =>
  gK v8 true (fun q' => binK .leq v9 (.int .i32 (.ofNat 1114111)) fun v => q' v H10 τ11) H10 τ11 fun v12 H13 τ14 =>
  someK (pPick [v8, v12, (.bool false)]) fun v15 =>
  condK v15
    (q (.bool true) H13 τ14)
    (q (.bool false) H13 τ14))
theorem s_utf8_ValidRune_eq (call : CallK) (N : Nat) (a0 : V) (H : Heap) (τ : Tape) (q : KV) : s_utf8_ValidRune call N a0 H τ q = funK call N fn_utf8_ValidRune [a0] H τ q := by kernel_rfl
def e_utf8_ValidRune (call : CallK) (N : Nat) (vs : List V) (H : Heap) (τ : Tape) (q : KV) : Ans := match vs with | [a0] => s_utf8_ValidRune call N a0 H τ q | _ => none
theorem e_utf8_ValidRune_ok : EntOk fn_utf8_ValidRune e_utf8_ValidRune := by
  intro call N vs H τ q r h
  unfold e_utf8_ValidRune at h
  split at h
  · rw [s_utf8_ValidRune_eq] at h; exact h
  · cases h
theorem e_utf8_ValidRune_nat : EntNat e_utf8_ValidRune := by
  intro c hn N vs H τ q
  unfold e_utf8_ValidRune
  split
  · rw [s_utf8_ValidRune_eq, s_utf8_ValidRune_eq]; exact funK_ent hn _ _ _ _ _ _
  · rfl
/-- internal/bytealg.hashStr[string] -/
def fn_bytealg_hashStr_string : Fun := ⟨1,
  (.seq (.reg [⟨(some 2), none, (.p .mv), [(.c (.int .u32 (.ofNat 0)))], none⟩,
    ⟨(some 3), none, (.p .mv), [(.c (.int .u32 (.ofNat 0)))], none⟩])
  (.keep [0] (.seq (.reg [⟨(some 4), none, (.p .mv), [(.c (.int .u32 (.ofNat 0)))], none⟩])
  (.keep [0, 4] (.seq (.seq (.reg [⟨(some 5), none, (.p .mv), [(.c (.int .i64 (.ofNat 0)))], none⟩])
  (.keep [0, 4, 5] (.block 0
   (.loop
    (.keep [0, 4, 5] (.seq (.seq (.reg [⟨(some 9), none, (.p .mv), [(.t 5)], none⟩,
      ⟨(some 10), none, (.p .mv), [(.t 0)], none⟩,
      ⟨(some 11), none, (.p .lenS), [(.t 10)], none⟩,
      ⟨(some 12), none, (.p (.bin .lss)), [(.t 9), (.t 11)], none⟩])
    (.keep [0, 4, 5, 12] (.cond (.t 12)
     .skip
     (.keep [0, 4] (.exit 0)))))
    (.keep [0, 4, 5] (.seq (.block 1
     (.reg [⟨(some 15), none, (.p .mv), [(.t 4)], none⟩,
       ⟨(some 16), none, (.p (.bin .mul)), [(.t 15), (.c (.int .u32 (.ofNat 16777619)))], none⟩,
       ⟨(some 17), none, (.p .mv), [(.t 0)], none⟩,
       ⟨(some 18), none, (.p .mv), [(.t 5)], none⟩,
       ⟨(some 19), none, (.p .strIndex), [(.t 17), (.t 18)], none⟩,
       ⟨(some 20), none, (.p (.toInt .u32)), [(.t 19)], none⟩,
       ⟨(some 21), none, (.p (.bin .add)), [(.t 16), (.t 20)], none⟩,
       ⟨(some 4), none, (.p .mv), [(.t 21)], none⟩]))
    (.keep [0, 4, 5] (.reg [⟨(some 13), none, (.p .mv), [(.t 5)], none⟩,
      ⟨(some 14), none, (.p (.bin .add)), [(.t 13), (.c (.int .i64 (.ofNat 1)))], none⟩,
      ⟨(some 5), none, (.p .mv), [(.t 14)], none⟩]))))))))))
  (.keep [0, 4] (.seq (.reg [⟨(some 6), none, (.p .mv), [(.c (.int .u32 (.ofNat 1)))], none⟩,
    ⟨(some 7), none, (.p .mv), [(.c (.int .u32 (.ofNat 16777619)))], none⟩])
  (.keep [0, 4, 6, 7] (.seq (.seq (.reg [⟨(some 22), none, (.p .mv), [(.t 0)], none⟩,
    ⟨(some 23), none, (.p .lenS), [(.t 22)], none⟩,
    ⟨(some 8), none, (.p .mv), [(.t 23)], none⟩])
  (.keep [4, 6, 7, 8] (.block 2
   (.loop
    (.keep [4, 6, 7, 8] (.seq (.seq (.reg [⟨(some 24), none, (.p .mv), [(.t 8)], none⟩,
      ⟨(some 25), none, (.p (.bin .gtr)), [(.t 24), (.c (.int .i64 (.ofNat 0)))], none⟩])
    (.keep [4, 6, 7, 8, 25] (.cond (.t 25)
     .skip
     (.keep [4, 6] (.exit 2)))))
    (.keep [4, 6, 7, 8] (.seq (.block 3
     (.seq (.seq (.reg [⟨(some 28), none, (.p .mv), [(.t 8)], none⟩,
       ⟨(some 29), none, (.p (.bin .and)), [(.t 28), (.c (.int .i64 (.ofNat 1)))], none⟩,
       ⟨(some 30), none, (.p (.bin .neq)), [(.t 29), (.c (.int .i64 (.ofNat 0)))], none⟩])
     (.keep [4, 6, 7, 8, 30] (.cond (.t 30)
      (.reg [⟨(some 31), none, (.p .mv), [(.t 6)], none⟩,
        ⟨(some 32), none, (.p .mv), [(.t 7)], none⟩,
        ⟨(some 33), none, (.p (.bin .mul)), [(.t 31), (.t 32)], none⟩,
        ⟨(some 6), none, (.p .mv), [(.t 33)], none⟩])
      .skip)))
     (.keep [4, 6, 7, 8] (.reg [⟨(some 34), none, (.p .mv), [(.t 7)], none⟩,
       ⟨(some 35), none, (.p .mv), [(.t 7)], none⟩,
       ⟨(some 36), none, (.p (.bin .mul)), [(.t 34), (.t 35)], none⟩,
       ⟨(some 7), none, (.p .mv), [(.t 36)], none⟩]))))
    (.keep [4, 6, 7, 8] (.reg [⟨(some 26), none, (.p .mv), [(.t 8)], none⟩,
      ⟨(some 27), none, (.p (.bin .shr)), [(.t 26), (.c (.int .u64 (.ofNat 1)))], none⟩,
      ⟨(some 8), none, (.p .mv), [(.t 27)], none⟩]))))))))))
  (.keep [4, 6] (.seq (.reg [⟨(some 37), none, (.p .mv), [(.t 4)], none⟩,
    ⟨(some 38), none, (.p .mv), [(.t 6)], none⟩,
    ⟨(some 2), none, (.p .mv), [(.t 37)], none⟩,
    ⟨(some 3), none, (.p .mv), [(.t 38)], none⟩])
  (.keep [2, 3] (.keep [2, 3] .ret))))))))))))),
  [(.t 2), (.t 3)]⟩
def s_bytealg_hashStr_string_j1 (call : CallK) (N : Nat) (q : KV) (st : St) (τ : Tape) : Ans :=
  match st with
  | ⟨fr, H⟩ =>
  getK fr 4 fun t4 =>
  getK fr 6 fun t6 =>
  q (.tup [t4, t6]) H τ
def s_bytealg_hashStr_string_j3 (call : CallK) (N : Nat) (k : KC) (st : St) (τ : Tape) : Ans :=
  match st with
  | ⟨fr, H⟩ =>
  getK fr 4 fun t4 =>
  getK fr 6 fun t6 =>
  getK fr 7 fun t7 =>
  getK fr 8 fun t8 =>
  binK .shr t8 (.int .u64 (.ofNat 1)) fun v4 =>
  k .normal ⟨(T.set (T.set (T.set (T.set (T.set (T.set (T.set .leaf 4 t4) 6 t6) 7 t7) 8 t8) 26 t8) 27 v4) 8 v4), H⟩ τ
def s_bytealg_hashStr_string_j4 (call : CallK) (N : Nat) (k : KC) (st : St) (τ : Tape) : Ans :=
  match st with
  | ⟨fr, H⟩ =>
  getK fr 4 fun t4 =>
  getK fr 6 fun t6 =>
  getK fr 7 fun t7 =>
  getK fr 8 fun t8 =>
  binK .mul t7 t7 fun v5 =>
  s_bytealg_hashStr_string_j3 call N k ⟨(T.set (T.set (T.set (T.set (T.set (T.set (T.set (T.set .leaf 4 t4) 6 t6) 7 t7) 8 t8) 34 t7) 35 t7) 36 v5) 7 v5), H⟩ τ
def s_bytealg_hashStr_string_l2 (call : CallK) (N : Nat) (st : St) (τ : Tape) (k : KC) : Ans :=
  match st with
  | ⟨fr, H⟩ =>
  getK fr 4 fun t4 =>
  getK fr 6 fun t6 =>
  getK fr 7 fun t7 =>
  getK fr 8 fun t8 =>
  binK .gtr t8 (.int .i64 (.ofNat 0)) fun v1 =>
  condK v1
    (binK .and t8 (.int .i64 (.ofNat 1)) fun v2 =>
  binK .neq v2 (.int .i64 (.ofNat 0)) fun v3 =>
  condK v3
    (binK .mul t6 t7 fun v6 =>
  s_bytealg_hashStr_string_j4 call N k ⟨(T.set (T.set (T.set (T.set (T.set (T.set (T.set (T.set (T.set .leaf 4 t4) 6 t6) 7 t7) 8 t8) 30 v3) 31 t6) 32 t7) 33 v6) 6 v6), H⟩ τ)
    (s_bytealg_hashStr_string_j4 call N k ⟨(T.set (T.set (T.set (T.set (T.set .leaf 4 t4) 6 t6) 7 t7) 8 t8) 30 v3), H⟩ τ))
    (k (.exit 2) ⟨(T.set (T.set .leaf 4 t4) 6 t6), H⟩ τ)
def s_bytealg_hashStr_string_j0 (call : CallK) (N : Nat) (q : KV) (st : St) (τ : Tape) : Ans :=
  match st with
  | ⟨fr, H⟩ =>
  getK fr 0 fun t0 =>
  getK fr 4 fun t4 =>
  someK (pLenS [t0]) fun v0 =>
  loopK (s_bytealg_hashStr_string_l2 call N) N ⟨(T.set (T.set (T.set (T.set .leaf 4 t4) 6 (.int .u32 (.ofNat 1))) 7 (.int .u32 (.ofNat 16777619))) 8 v0), H⟩ τ (blockK 2 (seqK (s_bytealg_hashStr_string_j1 call N q) (endK [(.t 2), (.t 3)] q)))
def s_bytealg_hashStr_string_l5 (call : CallK) (N : Nat) (st : St) (τ : Tape) (k : KC) : Ans :=
  match st with
  | ⟨fr, H⟩ =>
  getK fr 0 fun t0 =>
  getK fr 4 fun t4 =>
  getK fr 5 fun t5 =>
  someK (pLenS [t0]) fun v7 =>
  binK .lss t5 v7 fun v8 =>
  condK v8
    (binK .mul t4 (.int .u32 (.ofNat 16777619)) fun v9 =>
  someK (pStrIndex [t0, t5]) fun v10 =>
  toIntK .u32 v10 fun v11 =>
  binK .add v9 v11 fun v12 =>
  binK .add t5 (.int .i64 (.ofNat 1)) fun v13 =>
  k .normal ⟨(T.set (T.set (T.set (T.set (T.set (T.set .leaf 0 t0) 4 v12) 5 t5) 13 t5) 14 v13) 5 v13), H⟩ τ)
    (k (.exit 0) ⟨(T.set (T.set .leaf 0 t0) 4 t4), H⟩ τ)
def s_bytealg_hashStr_string (call : CallK) (N : Nat) (a0 : V) (H : Heap) (τ : Tape) (q : KV) : Ans :=
  loopK (s_bytealg_hashStr_string_l5 call N) N ⟨(T.set (T.set (T.set .leaf 0 a0) 4 (.int .u32 (.ofNat 0))) 5 (.int .i64 (.ofNat 0))), H⟩ τ (blockK 0 (seqK (s_bytealg_hashStr_string_j0 call N q) (endK [(.t 2), (.t 3)] q)))
theorem s_bytealg_hashStr_string_eq (call : CallK) (N : Nat) (a0 : V) (H : Heap) (τ : Tape) (q : KV) : s_bytealg_hashStr_string call N a0 H τ q = funK call N fn_bytealg_hashStr_string [a0] H τ q := by kernel_rfl
def e_bytealg_hashStr_string (call : CallK) (N : Nat) (vs : List V) (H : Heap) (τ : Tape) (q : KV) : Ans := match vs with | [a0] => s_bytealg_hashStr_string call N a0 H τ q | _ => none
theorem e_bytealg_hashStr_string_ok : EntOk fn_bytealg_hashStr_string e_bytealg_hashStr_string := by
  intro call N vs H τ q r h
  unfold e_bytealg_hashStr_string at h
  split at h
  · rw [s_bytealg_hashStr_string_eq] at h; exact h
  · cases h
theorem e_bytealg_hashStr_string_nat : EntNat e_bytealg_hashStr_string := by
  intro c hn N vs H τ q
  unfold e_bytealg_hashStr_string
  split
  · rw [s_bytealg_hashStr_string_eq, s_bytealg_hashStr_string_eq]; exact funK_ent hn _ _ _ _ _ _
  · rfl
def tabF : T Def := (.node none (.node none (.node none (.node (some (.fn fn_law5_HeadersChange)) (.node none (.node none (.node (some (.fn fn_strings_trimLeftUnicode)) .leaf .leaf) .leaf) (.node (some (.fn fn_slices_DeleteFunc_Header)) .leaf .leaf)) (.node (some (.fn fn_headers_Set)) (.node (some (.fn fn_infra_Lower)) (.node (some (.fn fn_infra_Token)) .leaf .leaf) .leaf) (.node (some (.fn fn_ref1_Lower)) .leaf .leaf))) (.node (some (.prim closedP)) (.node (some (.fn fn_headers_Add)) (.node (some (.fn fn_strings_Trim)) .leaf .leaf) (.node none (.node (some (.fn fn_strings_ContainsRune)) .leaf .leaf) .leaf)) (.node (some (.fn fn_ref5_Add)) (.node (some (.fn fn_headers_may)) .leaf .leaf) (.node (some (.fn fn_strings_trimRightByte)) (.node (some (.fn fn_ref1_Digit)) .leaf .leaf) .leaf)))) (.node none (.node none (.node none (.node (some (.fn fn_ref5_Named)) .leaf .leaf) (.node (some (.fn fn_slices_IndexFunc_Header)) (.node (some (.fn fn_asciiSet_contains)) .leaf .leaf) (.node (some (.fn fn_ref1_ends)) .leaf .leaf))) (.node none (.node none .leaf (.node (some (.fn fn_utf8_decodeRuneInStringSlow)) .leaf .leaf)) (.node none (.node (some (.fn fn_ref1_Trim)) .leaf .leaf) .leaf))) (.node (some (.fn fn_law5_h)) (.node (some (.fn fn_headers_Drop)) (.node none (.node (some (.fn fn_infra_Lower_1)) .leaf .leaf) .leaf) .leaf) (.node (some (.fn fn_ref5_Drop)) (.node (some (.fn fn_headers_is)) (.node (some (.fn fn_ref1_Token)) .leaf .leaf) .leaf) (.node (some (.fn fn_strings_trimLeftASCII)) (.node (some (.fn fn_strings_shouldUseASCIISet)) .leaf .leaf) .leaf))))) (.node none (.node none (.node none (.node none (.node (some (.fn fn_headers_Value)) (.node (some (.fn fn_strings_trimRightUnicode)) .leaf .leaf) .leaf) (.node (some (.fn fn_headers_Drop_1)) .leaf .leaf)) (.node (some (.fn fn_book_Same_Header)) .leaf .leaf)) (.node none (.node none (.node none (.node (some (.fn fn_infra_mapped)) .leaf .leaf) .leaf) (.node (some (.fn fn_ref5_fits)) (.node (some (.fn fn_utf8_DecodeLastRuneInString)) .leaf .leaf) .leaf)) (.node (some (.fn fn_ref5_Set)) (.node (some (.fn fn_slices_Clone_Header)) (.node (some (.fn fn_ref5_Value)) .leaf .leaf) (.node (some (.fn fn_bytealg_Cutover)) .leaf .leaf)) (.node (some (.fn fn_strings_makeASCIISet)) (.node (some (.fn fn_strings_IndexRune)) .leaf .leaf) .leaf)))) (.node none (.node none (.node none .leaf (.node (some (.fn fn_headers_Set_1)) (.node (some (.fn fn_utf8_DecodeRuneInString)) .leaf .leaf) (.node (some (.fn fn_utf8_ValidRune)) .leaf .leaf))) (.node (some (.fn fn_book_Roomy_Header)) (.node none .leaf (.node (some (.fn fn_utf8_RuneStart)) .leaf .leaf)) (.node (some (.fn fn_strings_trimLeftByte)) (.node (some (.fn fn_ref1_Letter)) .leaf .leaf) .leaf))) (.node none (.node none (.node none (.node (some (.fn fn_strings_IndexByte)) .leaf .leaf) .leaf) (.node (some (.fn fn_strings_ContainsAny)) (.node (some (.prim idxP)) .leaf .leaf) .leaf)) (.node (some (.fn fn_book_Intact_Header)) (.node none (.node (some (.fn fn_strings_IndexAny)) .leaf .leaf) .leaf) (.node (some (.fn fn_strings_trimRightASCII)) .leaf .leaf))))))
def tabE : T Ent := (.node none (.node none (.node none (.node (some e_law5_HeadersChange) (.node none (.node none (.node (some e_strings_trimLeftUnicode) .leaf .leaf) .leaf) (.node (some e_slices_DeleteFunc_Header) .leaf .leaf)) (.node (some e_headers_Set) (.node (some e_infra_Lower) (.node (some e_infra_Token) .leaf .leaf) .leaf) (.node (some e_ref1_Lower) .leaf .leaf))) (.node (some (PrimEnt closedP)) (.node (some e_headers_Add) (.node (some e_strings_Trim) .leaf .leaf) (.node none (.node (some e_strings_ContainsRune) .leaf .leaf) .leaf)) (.node (some e_ref5_Add) (.node (some e_headers_may) .leaf .leaf) (.node (some e_strings_trimRightByte) (.node (some e_ref1_Digit) .leaf .leaf) .leaf)))) (.node none (.node none (.node none (.node (some e_ref5_Named) .leaf .leaf) (.node (some e_slices_IndexFunc_Header) (.node (some e_asciiSet_contains) .leaf .leaf) (.node (some e_ref1_ends) .leaf .leaf))) (.node none (.node none .leaf (.node (some e_utf8_decodeRuneInStringSlow) .leaf .leaf)) (.node none (.node (some e_ref1_Trim) .leaf .leaf) .leaf))) (.node (some e_law5_h) (.node (some e_headers_Drop) (.node none (.node (some e_infra_Lower_1) .leaf .leaf) .leaf) .leaf) (.node (some e_ref5_Drop) (.node (some e_headers_is) (.node (some e_ref1_Token) .leaf .leaf) .leaf) (.node (some e_strings_trimLeftASCII) (.node (some e_strings_shouldUseASCIISet) .leaf .leaf) .leaf))))) (.node none (.node none (.node none (.node none (.node (some e_headers_Value) (.node (some e_strings_trimRightUnicode) .leaf .leaf) .leaf) (.node (some e_headers_Drop_1) .leaf .leaf)) (.node (some e_book_Same_Header) .leaf .leaf)) (.node none (.node none (.node none (.node (some e_infra_mapped) .leaf .leaf) .leaf) (.node (some e_ref5_fits) (.node (some e_utf8_DecodeLastRuneInString) .leaf .leaf) .leaf)) (.node (some e_ref5_Set) (.node (some e_slices_Clone_Header) (.node (some e_ref5_Value) .leaf .leaf) (.node (some e_bytealg_Cutover) .leaf .leaf)) (.node (some e_strings_makeASCIISet) (.node (some e_strings_IndexRune) .leaf .leaf) .leaf)))) (.node none (.node none (.node none .leaf (.node (some e_headers_Set_1) (.node (some e_utf8_DecodeRuneInString) .leaf .leaf) (.node (some e_utf8_ValidRune) .leaf .leaf))) (.node (some e_book_Roomy_Header) (.node none .leaf (.node (some e_utf8_RuneStart) .leaf .leaf)) (.node (some e_strings_trimLeftByte) (.node (some e_ref1_Letter) .leaf .leaf) .leaf))) (.node none (.node none (.node none (.node (some e_strings_IndexByte) .leaf .leaf) .leaf) (.node (some e_strings_ContainsAny) (.node (some (PrimEnt idxP)) .leaf .leaf) .leaf)) (.node (some e_book_Intact_Header) (.node none (.node (some e_strings_IndexAny) .leaf .leaf) .leaf) (.node (some e_strings_trimRightASCII) .leaf .leaf))))))
theorem tab_ok (N : Nat) : TabOk tabF.get N (tabOf tabE N) := tabOf_okP (E := tabE) (F := tabF) N fun f e h => T.All_get (t := tabE) (P := fun f e => (∃ fn, tabF.get f = some (.fn fn) ∧ EntOk fn e) ∨ (∃ p, tabF.get f = some (.prim p) ∧ e = PrimEnt p)) (.intro trivial (.intro (.intro trivial (.intro (.intro trivial (.intro (.intro (.inl ⟨fn_law5_HeadersChange, rfl, e_law5_HeadersChange_ok⟩) (.intro (.intro trivial (.intro (.intro trivial (.intro (.intro (.inl ⟨fn_strings_trimLeftUnicode, rfl, e_strings_trimLeftUnicode_ok⟩) (.intro trivial trivial)) trivial)) (.intro (.inl ⟨fn_slices_DeleteFunc_Header, rfl, e_slices_DeleteFunc_Header_ok⟩) (.intro trivial trivial)))) (.intro (.inl ⟨fn_headers_Set, rfl, e_headers_Set_ok⟩) (.intro (.intro (.inl ⟨fn_infra_Lower, rfl, e_infra_Lower_ok⟩) (.intro (.intro (.inl ⟨fn_infra_Token, rfl, e_infra_Token_ok⟩) (.intro trivial trivial)) trivial)) (.intro (.inl ⟨fn_ref1_Lower, rfl, e_ref1_Lower_ok⟩) (.intro trivial trivial)))))) (.intro (.inr ⟨closedP, rfl, rfl⟩) (.intro (.intro (.inl ⟨fn_headers_Add, rfl, e_headers_Add_ok⟩) (.intro (.intro (.inl ⟨fn_strings_Trim, rfl, e_strings_Trim_ok⟩) (.intro trivial trivial)) (.intro trivial (.intro (.intro (.inl ⟨fn_strings_ContainsRune, rfl, e_strings_ContainsRune_ok⟩) (.intro trivial trivial)) trivial)))) (.intro (.inl ⟨fn_ref5_Add, rfl, e_ref5_Add_ok⟩) (.intro (.intro (.inl ⟨fn_headers_may, rfl, e_headers_may_ok⟩) (.intro trivial trivial)) (.intro (.inl ⟨fn_strings_trimRightByte, rfl, e_strings_trimRightByte_ok⟩) (.intro (.intro (.inl ⟨fn_ref1_Digit, rfl, e_ref1_Digit_ok⟩) (.intro trivial trivial)) trivial)))))))) (.intro trivial (.intro (.intro trivial (.intro (.intro trivial (.intro (.intro (.inl ⟨fn_ref5_Named, rfl, e_ref5_Named_ok⟩) (.intro trivial trivial)) (.intro (.inl ⟨fn_slices_IndexFunc_Header, rfl, e_slices_IndexFunc_Header_ok⟩) (.intro (.intro (.inl ⟨fn_asciiSet_contains, rfl, e_asciiSet_contains_ok⟩) (.intro trivial trivial)) (.intro (.inl ⟨fn_ref1_ends, rfl, e_ref1_ends_ok⟩) (.intro trivial trivial)))))) (.intro trivial (.intro (.intro trivial (.intro trivial (.intro (.inl ⟨fn_utf8_decodeRuneInStringSlow, rfl, e_utf8_decodeRuneInStringSlow_ok⟩) (.intro trivial trivial)))) (.intro trivial (.intro (.intro (.inl ⟨fn_ref1_Trim, rfl, e_ref1_Trim_ok⟩) (.intro trivial trivial)) trivial)))))) (.intro (.inl ⟨fn_law5_h, rfl, e_law5_h_ok⟩) (.intro (.intro (.inl ⟨fn_headers_Drop, rfl, e_headers_Drop_ok⟩) (.intro (.intro trivial (.intro (.intro (.inl ⟨fn_infra_Lower_1, rfl, e_infra_Lower_1_ok⟩) (.intro trivial trivial)) trivial)) trivial)) (.intro (.inl ⟨fn_ref5_Drop, rfl, e_ref5_Drop_ok⟩) (.intro (.intro (.inl ⟨fn_headers_is, rfl, e_headers_is_ok⟩) (.intro (.intro (.inl ⟨fn_ref1_Token, rfl, e_ref1_Token_ok⟩) (.intro trivial trivial)) trivial)) (.intro (.inl ⟨fn_strings_trimLeftASCII, rfl, e_strings_trimLeftASCII_ok⟩) (.intro (.intro (.inl ⟨fn_strings_shouldUseASCIISet, rfl, e_strings_shouldUseASCIISet_ok⟩) (.intro trivial trivial)) trivial)))))))))) (.intro trivial (.intro (.intro trivial (.intro (.intro trivial (.intro (.intro trivial (.intro (.intro (.inl ⟨fn_headers_Value, rfl, e_headers_Value_ok⟩) (.intro (.intro (.inl ⟨fn_strings_trimRightUnicode, rfl, e_strings_trimRightUnicode_ok⟩) (.intro trivial trivial)) trivial)) (.intro (.inl ⟨fn_headers_Drop_1, rfl, e_headers_Drop_1_ok⟩) (.intro trivial trivial)))) (.intro (.inl ⟨fn_book_Same_Header, rfl, e_book_Same_Header_ok⟩) (.intro trivial trivial)))) (.intro trivial (.intro (.intro trivial (.intro (.intro trivial (.intro (.intro (.inl ⟨fn_infra_mapped, rfl, e_infra_mapped_ok⟩) (.intro trivial trivial)) trivial)) (.intro (.inl ⟨fn_ref5_fits, rfl, e_ref5_fits_ok⟩) (.intro (.intro (.inl ⟨fn_utf8_DecodeLastRuneInString, rfl, e_utf8_DecodeLastRuneInString_ok⟩) (.intro trivial trivial)) trivial)))) (.intro (.inl ⟨fn_ref5_Set, rfl, e_ref5_Set_ok⟩) (.intro (.intro (.inl ⟨fn_slices_Clone_Header, rfl, e_slices_Clone_Header_ok⟩) (.intro (.intro (.inl ⟨fn_ref5_Value, rfl, e_ref5_Value_ok⟩) (.intro trivial trivial)) (.intro (.inl ⟨fn_bytealg_Cutover, rfl, e_bytealg_Cutover_ok⟩) (.intro trivial trivial)))) (.intro (.inl ⟨fn_strings_makeASCIISet, rfl, e_strings_makeASCIISet_ok⟩) (.intro (.intro (.inl ⟨fn_strings_IndexRune, rfl, e_strings_IndexRune_ok⟩) (.intro trivial trivial)) trivial)))))))) (.intro trivial (.intro (.intro trivial (.intro (.intro trivial (.intro trivial (.intro (.inl ⟨fn_headers_Set_1, rfl, e_headers_Set_1_ok⟩) (.intro (.intro (.inl ⟨fn_utf8_DecodeRuneInString, rfl, e_utf8_DecodeRuneInString_ok⟩) (.intro trivial trivial)) (.intro (.inl ⟨fn_utf8_ValidRune, rfl, e_utf8_ValidRune_ok⟩) (.intro trivial trivial)))))) (.intro (.inl ⟨fn_book_Roomy_Header, rfl, e_book_Roomy_Header_ok⟩) (.intro (.intro trivial (.intro trivial (.intro (.inl ⟨fn_utf8_RuneStart, rfl, e_utf8_RuneStart_ok⟩) (.intro trivial trivial)))) (.intro (.inl ⟨fn_strings_trimLeftByte, rfl, e_strings_trimLeftByte_ok⟩) (.intro (.intro (.inl ⟨fn_ref1_Letter, rfl, e_ref1_Letter_ok⟩) (.intro trivial trivial)) trivial)))))) (.intro trivial (.intro (.intro trivial (.intro (.intro trivial (.intro (.intro (.inl ⟨fn_strings_IndexByte, rfl, e_strings_IndexByte_ok⟩) (.intro trivial trivial)) trivial)) (.intro (.inl ⟨fn_strings_ContainsAny, rfl, e_strings_ContainsAny_ok⟩) (.intro (.intro (.inr ⟨idxP, rfl, rfl⟩) (.intro trivial trivial)) trivial)))) (.intro (.inl ⟨fn_book_Intact_Header, rfl, e_book_Intact_Header_ok⟩) (.intro (.intro trivial (.intro (.intro (.inl ⟨fn_strings_IndexAny, rfl, e_strings_IndexAny_ok⟩) (.intro trivial trivial)) trivial)) (.intro (.inl ⟨fn_strings_trimRightASCII, rfl, e_strings_trimRightASCII_ok⟩) (.intro trivial trivial)))))))))))) h
theorem tab_nat (N d : Nat) : CallNat (callK (tabOf tabE N) d) := callK_nat N (fun f e h => T.All_get (t := tabE) (P := fun _ e => EntNat e) (.intro trivial (.intro (.intro trivial (.intro (.intro trivial (.intro (.intro e_law5_HeadersChange_nat (.intro (.intro trivial (.intro (.intro trivial (.intro (.intro e_strings_trimLeftUnicode_nat (.intro trivial trivial)) trivial)) (.intro e_slices_DeleteFunc_Header_nat (.intro trivial trivial)))) (.intro e_headers_Set_nat (.intro (.intro e_infra_Lower_nat (.intro (.intro e_infra_Token_nat (.intro trivial trivial)) trivial)) (.intro e_ref1_Lower_nat (.intro trivial trivial)))))) (.intro (PrimEnt_nat closedP) (.intro (.intro e_headers_Add_nat (.intro (.intro e_strings_Trim_nat (.intro trivial trivial)) (.intro trivial (.intro (.intro e_strings_ContainsRune_nat (.intro trivial trivial)) trivial)))) (.intro e_ref5_Add_nat (.intro (.intro e_headers_may_nat (.intro trivial trivial)) (.intro e_strings_trimRightByte_nat (.intro (.intro e_ref1_Digit_nat (.intro trivial trivial)) trivial)))))))) (.intro trivial (.intro (.intro trivial (.intro (.intro trivial (.intro (.intro e_ref5_Named_nat (.intro trivial trivial)) (.intro e_slices_IndexFunc_Header_nat (.intro (.intro e_asciiSet_contains_nat (.intro trivial trivial)) (.intro e_ref1_ends_nat (.intro trivial trivial)))))) (.intro trivial (.intro (.intro trivial (.intro trivial (.intro e_utf8_decodeRuneInStringSlow_nat (.intro trivial trivial)))) (.intro trivial (.intro (.intro e_ref1_Trim_nat (.intro trivial trivial)) trivial)))))) (.intro e_law5_h_nat (.intro (.intro e_headers_Drop_nat (.intro (.intro trivial (.intro (.intro e_infra_Lower_1_nat (.intro trivial trivial)) trivial)) trivial)) (.intro e_ref5_Drop_nat (.intro (.intro e_headers_is_nat (.intro (.intro e_ref1_Token_nat (.intro trivial trivial)) trivial)) (.intro e_strings_trimLeftASCII_nat (.intro (.intro e_strings_shouldUseASCIISet_nat (.intro trivial trivial)) trivial)))))))))) (.intro trivial (.intro (.intro trivial (.intro (.intro trivial (.intro (.intro trivial (.intro (.intro e_headers_Value_nat (.intro (.intro e_strings_trimRightUnicode_nat (.intro trivial trivial)) trivial)) (.intro e_headers_Drop_1_nat (.intro trivial trivial)))) (.intro e_book_Same_Header_nat (.intro trivial trivial)))) (.intro trivial (.intro (.intro trivial (.intro (.intro trivial (.intro (.intro e_infra_mapped_nat (.intro trivial trivial)) trivial)) (.intro e_ref5_fits_nat (.intro (.intro e_utf8_DecodeLastRuneInString_nat (.intro trivial trivial)) trivial)))) (.intro e_ref5_Set_nat (.intro (.intro e_slices_Clone_Header_nat (.intro (.intro e_ref5_Value_nat (.intro trivial trivial)) (.intro e_bytealg_Cutover_nat (.intro trivial trivial)))) (.intro e_strings_makeASCIISet_nat (.intro (.intro e_strings_IndexRune_nat (.intro trivial trivial)) trivial)))))))) (.intro trivial (.intro (.intro trivial (.intro (.intro trivial (.intro trivial (.intro e_headers_Set_1_nat (.intro (.intro e_utf8_DecodeRuneInString_nat (.intro trivial trivial)) (.intro e_utf8_ValidRune_nat (.intro trivial trivial)))))) (.intro e_book_Roomy_Header_nat (.intro (.intro trivial (.intro trivial (.intro e_utf8_RuneStart_nat (.intro trivial trivial)))) (.intro e_strings_trimLeftByte_nat (.intro (.intro e_ref1_Letter_nat (.intro trivial trivial)) trivial)))))) (.intro trivial (.intro (.intro trivial (.intro (.intro trivial (.intro (.intro e_strings_IndexByte_nat (.intro trivial trivial)) trivial)) (.intro e_strings_ContainsAny_nat (.intro (.intro (PrimEnt_nat idxP) (.intro trivial trivial)) trivial)))) (.intro e_book_Intact_Header_nat (.intro (.intro trivial (.intro (.intro e_strings_IndexAny_nat (.intro trivial trivial)) trivial)) (.intro e_strings_trimRightASCII_nat (.intro trivial trivial)))))))))))) h) d
def tabFk : T Def := (.node none (.node none (.node none (.node none (.node none (.node none (.node (some (.fn fn_strings_trimLeftUnicode)) .leaf .leaf) .leaf) .leaf) (.node none (.node (some (.fn fn_infra_Lower)) .leaf .leaf) .leaf)) (.node (some (.fn fn_law5_known)) (.node none (.node (some (.fn fn_strings_Trim)) (.node (some (.fn fn_infra_Int)) .leaf .leaf) .leaf) (.node none (.node (some (.fn fn_strings_ContainsRune)) .leaf .leaf) .leaf)) (.node none (.node none (.node (some (.fn fn_stringslite_HasPrefix)) .leaf .leaf) .leaf) (.node (some (.fn fn_strings_trimRightByte)) .leaf .leaf)))) (.node none (.node none (.node (some (.fn fn_headers_Range)) (.node none (.node (some (.fn fn_stringslite_CutPrefix)) .leaf .leaf) .leaf) (.node none (.node (some (.fn fn_asciiSet_contains)) .leaf .leaf) .leaf)) (.node none (.node (some (.fn fn_headers_tongues)) .leaf (.node (some (.fn fn_utf8_decodeRuneInStringSlow)) .leaf .leaf)) (.node none .leaf (.node (some (.fn fn_bytealg_hashStr_string)) .leaf .leaf)))) (.node (some (.fn fn_law5_h)) (.node none (.node (some (.fn fn_strings_Cut)) (.node (some (.fn fn_infra_Lower_1)) .leaf .leaf) .leaf) (.node none (.node (some (.fn fn_stringslite_Index)) .leaf .leaf) .leaf)) (.node none (.node (some (.fn fn_headers_is)) .leaf (.node (some (.fn fn_bytealg_IndexRabinKarp_string)) .leaf .leaf)) (.node (some (.fn fn_strings_trimLeftASCII)) .leaf .leaf))))) (.node none (.node none (.node none (.node none (.node none (.node (some (.fn fn_strings_trimRightUnicode)) .leaf .leaf) .leaf) .leaf) (.node none (.node (some (.fn fn_headers_unsafe)) .leaf .leaf) .leaf)) (.node (some (.fn fn_headers_Split)) (.node (some (.fn fn_headers_Get)) (.node (some (.fn fn_strings_CutPrefix)) (.node (some (.fn fn_infra_mapped)) .leaf .leaf) .leaf) (.node none (.node (some (.fn fn_utf8_DecodeLastRuneInString)) .leaf .leaf) .leaf)) (.node none (.node none .leaf (.node (some (.fn fn_bytealg_Cutover)) .leaf .leaf)) (.node (some (.fn fn_strings_makeASCIISet)) (.node (some (.fn fn_strings_IndexRune)) .leaf .leaf) .leaf)))) (.node none (.node none (.node (some (.fn fn_headers_Safe)) (.node none (.node (some (.fn fn_stringslite_Cut)) .leaf .leaf) .leaf) (.node none (.node (some (.fn fn_utf8_DecodeRuneInString)) .leaf .leaf) (.node (some (.fn fn_utf8_ValidRune)) .leaf .leaf))) (.node none (.node (some (.fn fn_infra_Strip)) .leaf (.node (some (.fn fn_utf8_RuneStart)) .leaf .leaf)) (.node (some (.fn fn_strings_trimLeftByte)) .leaf .leaf))) (.node (some (.fn fn_book_Same_string)) (.node none (.node (some (.fn fn_headers_told)) (.node (some (.fn fn_strings_IndexByte)) .leaf .leaf) .leaf) (.node none (.node (some (.prim idxP)) .leaf .leaf) .leaf)) (.node none (.node (some (.prim joinP)) .leaf .leaf) (.node (some (.fn fn_strings_trimRightASCII)) .leaf .leaf))))))
def tabEk : T Ent := (.node none (.node none (.node none (.node none (.node none (.node none (.node (some e_strings_trimLeftUnicode) .leaf .leaf) .leaf) .leaf) (.node none (.node (some e_infra_Lower) .leaf .leaf) .leaf)) (.node (some e_law5_known) (.node none (.node (some e_strings_Trim) (.node (some e_infra_Int) .leaf .leaf) .leaf) (.node none (.node (some e_strings_ContainsRune) .leaf .leaf) .leaf)) (.node none (.node none (.node (some e_stringslite_HasPrefix) .leaf .leaf) .leaf) (.node (some e_strings_trimRightByte) .leaf .leaf)))) (.node none (.node none (.node (some e_headers_Range) (.node none (.node (some e_stringslite_CutPrefix) .leaf .leaf) .leaf) (.node none (.node (some e_asciiSet_contains) .leaf .leaf) .leaf)) (.node none (.node (some e_headers_tongues) .leaf (.node (some e_utf8_decodeRuneInStringSlow) .leaf .leaf)) (.node none .leaf (.node (some e_bytealg_hashStr_string) .leaf .leaf)))) (.node (some e_law5_h) (.node none (.node (some e_strings_Cut) (.node (some e_infra_Lower_1) .leaf .leaf) .leaf) (.node none (.node (some e_stringslite_Index) .leaf .leaf) .leaf)) (.node none (.node (some e_headers_is) .leaf (.node (some e_bytealg_IndexRabinKarp_string) .leaf .leaf)) (.node (some e_strings_trimLeftASCII) .leaf .leaf))))) (.node none (.node none (.node none (.node none (.node none (.node (some e_strings_trimRightUnicode) .leaf .leaf) .leaf) .leaf) (.node none (.node (some e_headers_unsafe) .leaf .leaf) .leaf)) (.node (some e_headers_Split) (.node (some e_headers_Get) (.node (some e_strings_CutPrefix) (.node (some e_infra_mapped) .leaf .leaf) .leaf) (.node none (.node (some e_utf8_DecodeLastRuneInString) .leaf .leaf) .leaf)) (.node none (.node none .leaf (.node (some e_bytealg_Cutover) .leaf .leaf)) (.node (some e_strings_makeASCIISet) (.node (some e_strings_IndexRune) .leaf .leaf) .leaf)))) (.node none (.node none (.node (some e_headers_Safe) (.node none (.node (some e_stringslite_Cut) .leaf .leaf) .leaf) (.node none (.node (some e_utf8_DecodeRuneInString) .leaf .leaf) (.node (some e_utf8_ValidRune) .leaf .leaf))) (.node none (.node (some e_infra_Strip) .leaf (.node (some e_utf8_RuneStart) .leaf .leaf)) (.node (some e_strings_trimLeftByte) .leaf .leaf))) (.node (some e_book_Same_string) (.node none (.node (some e_headers_told) (.node (some e_strings_IndexByte) .leaf .leaf) .leaf) (.node none (.node (some (PrimEnt idxP)) .leaf .leaf) .leaf)) (.node none (.node (some (PrimEnt joinP)) .leaf .leaf) (.node (some e_strings_trimRightASCII) .leaf .leaf))))))
theorem tabk_ok (N : Nat) : TabOk tabFk.get N (tabOf tabEk N) := tabOf_okP (E := tabEk) (F := tabFk) N fun f e h => T.All_get (t := tabEk) (P := fun f e => (∃ fn, tabFk.get f = some (.fn fn) ∧ EntOk fn e) ∨ (∃ p, tabFk.get f = some (.prim p) ∧ e = PrimEnt p)) (.intro trivial (.intro (.intro trivial (.intro (.intro trivial (.intro (.intro trivial (.intro (.intro trivial (.intro (.intro trivial (.intro (.intro (.inl ⟨fn_strings_trimLeftUnicode, rfl, e_strings_trimLeftUnicode_ok⟩) (.intro trivial trivial)) trivial)) trivial)) (.intro trivial (.intro (.intro (.inl ⟨fn_infra_Lower, rfl, e_infra_Lower_ok⟩) (.intro trivial trivial)) trivial)))) (.intro (.inl ⟨fn_law5_known, rfl, e_law5_known_ok⟩) (.intro (.intro trivial (.intro (.intro (.inl ⟨fn_strings_Trim, rfl, e_strings_Trim_ok⟩) (.intro (.intro (.inl ⟨fn_infra_Int, rfl, e_infra_Int_ok⟩) (.intro trivial trivial)) trivial)) (.intro trivial (.intro (.intro (.inl ⟨fn_strings_ContainsRune, rfl, e_strings_ContainsRune_ok⟩) (.intro trivial trivial)) trivial)))) (.intro trivial (.intro (.intro trivial (.intro (.intro (.inl ⟨fn_stringslite_HasPrefix, rfl, e_stringslite_HasPrefix_ok⟩) (.intro trivial trivial)) trivial)) (.intro (.inl ⟨fn_strings_trimRightByte, rfl, e_strings_trimRightByte_ok⟩) (.intro trivial trivial)))))))) (.intro trivial (.intro (.intro trivial (.intro (.intro (.inl ⟨fn_headers_Range, rfl, e_headers_Range_ok⟩) (.intro (.intro trivial (.intro (.intro (.inl ⟨fn_stringslite_CutPrefix, rfl, e_stringslite_CutPrefix_ok⟩) (.intro trivial trivial)) trivial)) (.intro trivial (.intro (.intro (.inl ⟨fn_asciiSet_contains, rfl, e_asciiSet_contains_ok⟩) (.intro trivial trivial)) trivial)))) (.intro trivial (.intro (.intro (.inl ⟨fn_headers_tongues, rfl, e_headers_tongues_ok⟩) (.intro trivial (.intro (.inl ⟨fn_utf8_decodeRuneInStringSlow, rfl, e_utf8_decodeRuneInStringSlow_ok⟩) (.intro trivial trivial)))) (.intro trivial (.intro trivial (.intro (.inl ⟨fn_bytealg_hashStr_string, rfl, e_bytealg_hashStr_string_ok⟩) (.intro trivial trivial)))))))) (.intro (.inl ⟨fn_law5_h, rfl, e_law5_h_ok⟩) (.intro (.intro trivial (.intro (.intro (.inl ⟨fn_strings_Cut, rfl, e_strings_Cut_ok⟩) (.intro (.intro (.inl ⟨fn_infra_Lower_1, rfl, e_infra_Lower_1_ok⟩) (.intro trivial trivial)) trivial)) (.intro trivial (.intro (.intro (.inl ⟨fn_stringslite_Index, rfl, e_stringslite_Index_ok⟩) (.intro trivial trivial)) trivial)))) (.intro trivial (.intro (.intro (.inl ⟨fn_headers_is, rfl, e_headers_is_ok⟩) (.intro trivial (.intro (.inl ⟨fn_bytealg_IndexRabinKarp_string, rfl, e_bytealg_IndexRabinKarp_string_ok⟩) (.intro trivial trivial)))) (.intro (.inl ⟨fn_strings_trimLeftASCII, rfl, e_strings_trimLeftASCII_ok⟩) (.intro trivial trivial)))))))))) (.intro trivial (.intro (.intro trivial (.intro (.intro trivial (.intro (.intro trivial (.intro (.intro trivial (.intro (.intro (.inl ⟨fn_strings_trimRightUnicode, rfl, e_strings_trimRightUnicode_ok⟩) (.intro trivial trivial)) trivial)) trivial)) (.intro trivial (.intro (.intro (.inl ⟨fn_headers_unsafe, rfl, e_headers_unsafe_ok⟩) (.intro trivial trivial)) trivial)))) (.intro (.inl ⟨fn_headers_Split, rfl, e_headers_Split_ok⟩) (.intro (.intro (.inl ⟨fn_headers_Get, rfl, e_headers_Get_ok⟩) (.intro (.intro (.inl ⟨fn_strings_CutPrefix, rfl, e_strings_CutPrefix_ok⟩) (.intro (.intro (.inl ⟨fn_infra_mapped, rfl, e_infra_mapped_ok⟩) (.intro trivial trivial)) trivial)) (.intro trivial (.intro (.intro (.inl ⟨fn_utf8_DecodeLastRuneInString, rfl, e_utf8_DecodeLastRuneInString_ok⟩) (.intro trivial trivial)) trivial)))) (.intro trivial (.intro (.intro trivial (.intro trivial (.intro (.inl ⟨fn_bytealg_Cutover, rfl, e_bytealg_Cutover_ok⟩) (.intro trivial trivial)))) (.intro (.inl ⟨fn_strings_makeASCIISet, rfl, e_strings_makeASCIISet_ok⟩) (.intro (.intro (.inl ⟨fn_strings_IndexRune, rfl, e_strings_IndexRune_ok⟩) (.intro trivial trivial)) trivial)))))))) (.intro trivial (.intro (.intro trivial (.intro (.intro (.inl ⟨fn_headers_Safe, rfl, e_headers_Safe_ok⟩) (.intro (.intro trivial (.intro (.intro (.inl ⟨fn_stringslite_Cut, rfl, e_stringslite_Cut_ok⟩) (.intro trivial trivial)) trivial)) (.intro trivial (.intro (.intro (.inl ⟨fn_utf8_DecodeRuneInString, rfl, e_utf8_DecodeRuneInString_ok⟩) (.intro trivial trivial)) (.intro (.inl ⟨fn_utf8_ValidRune, rfl, e_utf8_ValidRune_ok⟩) (.intro trivial trivial)))))) (.intro trivial (.intro (.intro (.inl ⟨fn_infra_Strip, rfl, e_infra_Strip_ok⟩) (.intro trivial (.intro (.inl ⟨fn_utf8_RuneStart, rfl, e_utf8_RuneStart_ok⟩) (.intro trivial trivial)))) (.intro (.inl ⟨fn_strings_trimLeftByte, rfl, e_strings_trimLeftByte_ok⟩) (.intro trivial trivial)))))) (.intro (.inl ⟨fn_book_Same_string, rfl, e_book_Same_string_ok⟩) (.intro (.intro trivial (.intro (.intro (.inl ⟨fn_headers_told, rfl, e_headers_told_ok⟩) (.intro (.intro (.inl ⟨fn_strings_IndexByte, rfl, e_strings_IndexByte_ok⟩) (.intro trivial trivial)) trivial)) (.intro trivial (.intro (.intro (.inr ⟨idxP, rfl, rfl⟩) (.intro trivial trivial)) trivial)))) (.intro trivial (.intro (.intro (.inr ⟨joinP, rfl, rfl⟩) (.intro trivial trivial)) (.intro (.inl ⟨fn_strings_trimRightASCII, rfl, e_strings_trimRightASCII_ok⟩) (.intro trivial trivial)))))))))))) h
theorem tabk_nat (N d : Nat) : CallNat (callK (tabOf tabEk N) d) := callK_nat N (fun f e h => T.All_get (t := tabEk) (P := fun _ e => EntNat e) (.intro trivial (.intro (.intro trivial (.intro (.intro trivial (.intro (.intro trivial (.intro (.intro trivial (.intro (.intro trivial (.intro (.intro e_strings_trimLeftUnicode_nat (.intro trivial trivial)) trivial)) trivial)) (.intro trivial (.intro (.intro e_infra_Lower_nat (.intro trivial trivial)) trivial)))) (.intro e_law5_known_nat (.intro (.intro trivial (.intro (.intro e_strings_Trim_nat (.intro (.intro e_infra_Int_nat (.intro trivial trivial)) trivial)) (.intro trivial (.intro (.intro e_strings_ContainsRune_nat (.intro trivial trivial)) trivial)))) (.intro trivial (.intro (.intro trivial (.intro (.intro e_stringslite_HasPrefix_nat (.intro trivial trivial)) trivial)) (.intro e_strings_trimRightByte_nat (.intro trivial trivial)))))))) (.intro trivial (.intro (.intro trivial (.intro (.intro e_headers_Range_nat (.intro (.intro trivial (.intro (.intro e_stringslite_CutPrefix_nat (.intro trivial trivial)) trivial)) (.intro trivial (.intro (.intro e_asciiSet_contains_nat (.intro trivial trivial)) trivial)))) (.intro trivial (.intro (.intro e_headers_tongues_nat (.intro trivial (.intro e_utf8_decodeRuneInStringSlow_nat (.intro trivial trivial)))) (.intro trivial (.intro trivial (.intro e_bytealg_hashStr_string_nat (.intro trivial trivial)))))))) (.intro e_law5_h_nat (.intro (.intro trivial (.intro (.intro e_strings_Cut_nat (.intro (.intro e_infra_Lower_1_nat (.intro trivial trivial)) trivial)) (.intro trivial (.intro (.intro e_stringslite_Index_nat (.intro trivial trivial)) trivial)))) (.intro trivial (.intro (.intro e_headers_is_nat (.intro trivial (.intro e_bytealg_IndexRabinKarp_string_nat (.intro trivial trivial)))) (.intro e_strings_trimLeftASCII_nat (.intro trivial trivial)))))))))) (.intro trivial (.intro (.intro trivial (.intro (.intro trivial (.intro (.intro trivial (.intro (.intro trivial (.intro (.intro e_strings_trimRightUnicode_nat (.intro trivial trivial)) trivial)) trivial)) (.intro trivial (.intro (.intro e_headers_unsafe_nat (.intro trivial trivial)) trivial)))) (.intro e_headers_Split_nat (.intro (.intro e_headers_Get_nat (.intro (.intro e_strings_CutPrefix_nat (.intro (.intro e_infra_mapped_nat (.intro trivial trivial)) trivial)) (.intro trivial (.intro (.intro e_utf8_DecodeLastRuneInString_nat (.intro trivial trivial)) trivial)))) (.intro trivial (.intro (.intro trivial (.intro trivial (.intro e_bytealg_Cutover_nat (.intro trivial trivial)))) (.intro e_strings_makeASCIISet_nat (.intro (.intro e_strings_IndexRune_nat (.intro trivial trivial)) trivial)))))))) (.intro trivial (.intro (.intro trivial (.intro (.intro e_headers_Safe_nat (.intro (.intro trivial (.intro (.intro e_stringslite_Cut_nat (.intro trivial trivial)) trivial)) (.intro trivial (.intro (.intro e_utf8_DecodeRuneInString_nat (.intro trivial trivial)) (.intro e_utf8_ValidRune_nat (.intro trivial trivial)))))) (.intro trivial (.intro (.intro e_infra_Strip_nat (.intro trivial (.intro e_utf8_RuneStart_nat (.intro trivial trivial)))) (.intro e_strings_trimLeftByte_nat (.intro trivial trivial)))))) (.intro e_book_Same_string_nat (.intro (.intro trivial (.intro (.intro e_headers_told_nat (.intro (.intro e_strings_IndexByte_nat (.intro trivial trivial)) trivial)) (.intro trivial (.intro (.intro (PrimEnt_nat idxP) (.intro trivial trivial)) trivial)))) (.intro trivial (.intro (.intro (PrimEnt_nat joinP) (.intro trivial trivial)) (.intro e_strings_trimRightASCII_nat (.intro trivial trivial)))))))))))) h) d
end Go.Am.X
