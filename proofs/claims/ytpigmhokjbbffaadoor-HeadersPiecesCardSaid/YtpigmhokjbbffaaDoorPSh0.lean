/- Texts for the law HeadersPieces: the machine, printed functions of the program, and what they are shown to be. -/
import Derived.Test.YtpigmhokjbbffaaDoorPM3
import Derived.KernelRfl
namespace Go.Am.AmTrydHd
set_option maxRecDepth 1000000
set_option linter.unusedVariables false
/-- ostiary/ostiarylaw5.HeadersPieces -/
def fn3 : Fun := ⟨1,
  (.seq (.reg [⟨(some 2), none, (.p .mv), [(.c (.bool false))], none⟩])
  (.keep [0] (.seq (.reg [⟨(some 3), none, (.p .mv), [(.c (.str []))], none⟩])
  (.keep [0, 3] (.seq (.reg [⟨(some 4), none, (.p .mv), [(.c .nils)], none⟩])
  (.keep [0, 3, 4] (.seq (.seq (.reg [⟨(some 5), none, (.p .mv), [(.c (.int .i64 (.ofNat 0)))], none⟩])
  (.keep [0, 3, 4, 5] (.block 0
   (.loop
    (.keep [0, 3, 4, 5] (.seq (.seq (.reg [⟨(some 9), none, (.p .mv), [(.t 5)], none⟩,
      ⟨(some 10), none, (.p .mv), [(.t 0)], none⟩,
      ⟨(some 11), none, (.p .len), [(.t 10)], none⟩,
      ⟨(some 12), none, (.p (.bin .lss)), [(.t 9), (.t 11)], none⟩,
      ⟨(some 13), none, (.p .mv), [(.t 12)], none⟩,
      ⟨(some 14), some (13, true), (.p .mv), [(.t 5)], none⟩,
      ⟨(some 15), some (13, true), (.p (.bin .lss)), [(.t 14), (.c (.int .i64 (.ofNat 8)))], none⟩,
      ⟨(some 16), none, (.p .pick), [(.t 13), (.t 15), (.c (.bool false))], none⟩])
    (.keep [0, 3, 4, 5, 16] (.cond (.t 16)
     .skip
     (.keep [3, 4] (.exit 0)))))
    (.keep [0, 3, 4, 5] (.seq (.block 1
     (.seq (.reg [⟨(some 19), none, (.p .mv), [(.t 0)], none⟩,
       ⟨(some 20), none, (.p .mv), [(.t 5)], none⟩,
       ⟨(some 21), none, (.p (.slIdx 1)), [(.t 19), (.t 20)], none⟩,
       ⟨(some 22), none, (.l (.load none)), [(.t 21)], none⟩,
       ⟨(some 23), none, (.call 10), [(.t 22)], none⟩,
       ⟨(some 6), none, (.p .mv), [(.t 23)], none⟩])
     (.keep [0, 3, 4, 5, 6] (.seq (.seq (.reg [⟨(some 24), none, (.p .mv), [(.t 5)], none⟩,
       ⟨(some 25), none, (.p (.bin .rem)), [(.t 24), (.c (.int .i64 (.ofNat 3)))], none⟩,
       ⟨(some 26), none, (.p (.bin .eql)), [(.t 25), (.c (.int .i64 (.ofNat 2)))], none⟩])
     (.keep [0, 3, 4, 5, 6, 26] (.cond (.t 26)
      (.reg [⟨(some 27), none, (.p .mv), [(.t 6)], none⟩,
        ⟨(some 28), none, (.p (.bin .add)), [(.c (.str (bs [34]))), (.t 27)], none⟩,
        ⟨(some 29), none, (.p (.bin .add)), [(.t 28), (.c (.str (bs [44, 32])))], none⟩,
        ⟨(some 30), none, (.p .mv), [(.t 6)], none⟩,
        ⟨(some 31), none, (.p (.bin .add)), [(.t 29), (.t 30)], none⟩,
        ⟨(some 32), none, (.p (.bin .add)), [(.t 31), (.c (.str (bs [34])))], none⟩,
        ⟨(some 6), none, (.p .mv), [(.t 32)], none⟩])
      .skip)))
     (.keep [0, 3, 4, 5, 6] (.seq (.seq (.reg [⟨(some 33), none, (.p .mv), [(.t 5)], none⟩,
       ⟨(some 34), none, (.p (.bin .gtr)), [(.t 33), (.c (.int .i64 (.ofNat 0)))], none⟩])
     (.keep [0, 3, 4, 5, 6, 34] (.cond (.t 34)
      (.reg [⟨(some 35), none, (.p .mv), [(.t 3)], none⟩,
        ⟨(some 36), none, (.e (.buildSlice 3 1 [(.str []), (.str []), (.str [])] [(0, 1), (1, 1), (2, 1)])), [(.c (.str (bs [44]))), (.c (.str (bs [44, 32]))), (.c (.str (bs [32, 44, 9])))], none⟩,
        ⟨(some 37), none, (.p .mv), [(.t 5)], none⟩,
        ⟨(some 38), none, (.p (.bin .rem)), [(.t 37), (.c (.int .i64 (.ofNat 3)))], none⟩,
        ⟨(some 39), none, (.p (.slIdx 1)), [(.t 36), (.t 38)], none⟩,
        ⟨(some 40), none, (.l (.load none)), [(.t 39)], none⟩,
        ⟨(some 41), none, (.p (.bin .add)), [(.t 35), (.t 40)], none⟩,
        ⟨(some 3), none, (.p .mv), [(.t 41)], none⟩])
      .skip)))
     (.keep [0, 3, 4, 5, 6] (.seq (.reg [⟨(some 42), none, (.p .mv), [(.t 3)], none⟩,
       ⟨(some 43), none, (.p .mv), [(.t 6)], none⟩,
       ⟨(some 44), none, (.p (.bin .add)), [(.t 42), (.t 43)], none⟩,
       ⟨(some 3), none, (.p .mv), [(.t 44)], none⟩])
     (.keep [0, 3, 4, 5, 6] (.reg [⟨(some 45), none, (.p .mv), [(.t 4)], none⟩,
       ⟨(some 46), none, (.p .mv), [(.t 6)], none⟩,
       ⟨(some 47), none, (.e (.buildSlice 1 1 [(.str [])] [(0, 1)])), [(.t 46)], none⟩,
       ⟨(some 48), none, (.e (.append 1 16)), [(.t 45), (.t 47)], none⟩,
       ⟨(some 4), none, (.p .mv), [(.t 48)], none⟩]))))))))))
    (.keep [0, 3, 4, 5] (.reg [⟨(some 17), none, (.p .mv), [(.t 5)], none⟩,
      ⟨(some 18), none, (.p (.bin .add)), [(.t 17), (.c (.int .i64 (.ofNat 1)))], none⟩,
      ⟨(some 5), none, (.p .mv), [(.t 18)], none⟩]))))))))))
  (.keep [3, 4] (.seq (.seq (.reg [⟨(some 49), none, (.p .mv), [(.t 4)], none⟩,
    ⟨(some 50), none, (.p .len), [(.t 49)], none⟩,
    ⟨(some 51), none, (.p (.bin .eql)), [(.t 50), (.c (.int .i64 (.ofNat 0)))], none⟩])
  (.keep [3, 4, 51] (.cond (.t 51)
   (.seq (.reg [⟨(some 52), none, (.call 11), [], none⟩,
     ⟨(some 2), none, (.p .mv), [(.t 52)], none⟩])
   (.keep [2] (.keep [2] .ret)))
   .skip)))
  (.keep [3, 4] (.seq (.reg [⟨(some 54), none, (.p .mv), [(.t 3)], none⟩,
    ⟨(some 55), none, (.call 13), [(.c (.str (bs [88]))), (.t 54)], none⟩,
    ⟨(some 56), none, (.e (.buildSlice 1 2 [(.str []), (.str [])] [(0, 2)])), [(.t 55)], none⟩,
    ⟨(some 57), none, (.call 12), [(.t 56), (.c (.str (bs [120])))], none⟩,
    ⟨(some 53), none, (.p .mv), [(.t 57)], none⟩,
    ⟨(some 58), none, (.p (.extract 0)), [(.t 53)], none⟩,
    ⟨(some 59), none, (.p (.extract 1)), [(.t 53)], none⟩,
    ⟨(some 7), none, (.p .mv), [(.t 58)], none⟩,
    ⟨(some 8), none, (.p .mv), [(.t 59)], none⟩])
  (.keep [4, 7, 8] (.seq (.reg [⟨(some 60), none, (.p .mv), [(.t 8)], none⟩,
    ⟨(some 61), none, (.p .mv), [(.t 60)], none⟩,
    ⟨(some 62), some (61, true), (.p .mv), [(.t 7)], none⟩,
    ⟨(some 63), some (61, true), (.p .mv), [(.t 4)], none⟩,
    ⟨(some 64), some (61, true), (.call 14), [(.t 62), (.t 63)], none⟩,
    ⟨(some 65), none, (.p .pick), [(.t 61), (.t 64), (.c (.bool false))], none⟩,
    ⟨(some 66), none, (.p .mv), [(.t 65)], none⟩,
    ⟨(some 67), some (66, true), (.call 11), [], none⟩,
    ⟨(some 68), none, (.p .pick), [(.t 66), (.t 67), (.c (.bool false))], none⟩,
    ⟨(some 2), none, (.p .mv), [(.t 68)], none⟩])
  (.keep [2] (.keep [2] .ret))))))))))))))),
  [(.t 2)]⟩
def s3_j0 (call : CallK) (N : Nat) (q : KV) (st : St) (τ : Tape) : Ans :=
  match st with
  | ⟨fr, H⟩ =>
  getK fr 3 fun t3 =>
  getK fr 4 fun t4 =>
  someK (pLen [t4]) fun v0 =>
  binK .eql v0 (.int .i64 (.ofNat 0)) fun v1 =>
  condK v1
    (call 11 [] H τ fun v2 H3 τ4 =>
  q v2 H3 τ4)
    (call 13 [(.str (bs [88])), t3] H τ fun v5 H6 τ7 =>
  effK (eBuildSlice 1 2 [(.str []), (.str [])] [(0, 2)] [v5] H6 τ7) fun v8 H9 τ10 =>
  call 12 [v8, (.str (bs [120]))] H9 τ10 fun v11 H12 τ13 =>
  someK (pExtract 0 [v11]) fun v14 =>
  someK (pExtract 1 [v11]) fun v15 =>
  gK v15 true (fun q' => q' v14 H12 τ13) H12 τ13 fun v16 H17 τ18 =>
  gK v15 true (fun q' => q' t4 H17 τ18) H17 τ18 fun v19 H20 τ21 =>
  gK v15 true (fun q' => call 14 [v16, v19] H20 τ21 q') H20 τ21 fun v22 H23 τ24 =>
  someK (pPick [v15, v22, (.bool false)]) fun v25 =>
  gK v25 true (fun q' => call 11 [] H23 τ24 q') H23 τ24 fun v26 H27 τ28 =>
  someK (pPick [v25, v26, (.bool false)]) fun v29 =>
  q v29 H27 τ28)
def s3_j2 (call : CallK) (N : Nat) (k : KC) (st : St) (τ : Tape) : Ans :=
  match st with
  | ⟨fr, H⟩ =>
  getK fr 0 fun t0 =>
  getK fr 3 fun t3 =>
  getK fr 4 fun t4 =>
  getK fr 5 fun t5 =>
  binK .add t5 (.int .i64 (.ofNat 1)) fun v46 =>
  k .normal ⟨(T.set (T.set (T.set (T.set (T.set (T.set (T.set .leaf 0 t0) 3 t3) 4 t4) 5 t5) 17 t5) 18 v46) 5 v46), H⟩ τ
def s3_j4 (call : CallK) (N : Nat) (k : KC) (st : St) (τ : Tape) : Ans :=
  match st with
  | ⟨fr, H⟩ =>
  getK fr 0 fun t0 =>
  getK fr 3 fun t3 =>
  getK fr 4 fun t4 =>
  getK fr 5 fun t5 =>
  getK fr 6 fun t6 =>
  binK .add t3 t6 fun v48 =>
  effK (eBuildSlice 1 1 [(.str [])] [(0, 1)] [t6] H τ) fun v49 H50 τ51 =>
  effK (eAppend 1 16 [t4, v49] H50 τ51) fun v52 H53 τ54 =>
  s3_j2 call N k ⟨(T.set (T.set (T.set (T.set (T.set (T.set (T.set (T.set (T.set (T.set .leaf 0 t0) 3 v48) 4 t4) 5 t5) 6 t6) 45 t4) 46 t6) 47 v49) 48 v52) 4 v52), H53⟩ τ54
def s3_j3 (call : CallK) (N : Nat) (k : KC) (st : St) (τ : Tape) : Ans :=
  match st with
  | ⟨fr, H⟩ =>
  getK fr 0 fun t0 =>
  getK fr 3 fun t3 =>
  getK fr 4 fun t4 =>
  getK fr 5 fun t5 =>
  getK fr 6 fun t6 =>
  binK .gtr t5 (.int .i64 (.ofNat 0)) fun v47 =>
  condK v47
    (effK (eBuildSlice 3 1 [(.str []), (.str []), (.str [])] [(0, 1), (1, 1), (2, 1)] [(.str (bs [44])), (.str (bs [44, 32])), (.str (bs [32, 44, 9]))] H τ) fun v55 H56 τ57 =>
  binK .rem t5 (.int .i64 (.ofNat 3)) fun v58 =>
  someK (pSlIdx 1 [v55, v58]) fun v59 =>
  someK (lLoad1 [v59] H56) fun v60 =>
  binK .add t3 v60 fun v61 =>
  s3_j4 call N k ⟨(T.set (T.set (T.set (T.set (T.set (T.set (T.set (T.set (T.set (T.set (T.set (T.set (T.set (T.set .leaf 0 t0) 3 t3) 4 t4) 5 t5) 6 t6) 34 v47) 35 t3) 36 v55) 37 t5) 38 v58) 39 v59) 40 v60) 41 v61) 3 v61), H56⟩ τ57)
    (s3_j4 call N k ⟨(T.set (T.set (T.set (T.set (T.set (T.set .leaf 0 t0) 3 t3) 4 t4) 5 t5) 6 t6) 34 v47), H⟩ τ)
def s3_l1 (call : CallK) (N : Nat) (st : St) (τ : Tape) (k : KC) : Ans :=
  match st with
  | ⟨fr, H⟩ =>
  getK fr 0 fun t0 =>
  getK fr 3 fun t3 =>
  getK fr 4 fun t4 =>
  getK fr 5 fun t5 =>
  someK (pLen [t0]) fun v30 =>
  binK .lss t5 v30 fun v31 =>
  gK v31 true (fun q' => q' t5 H τ) H τ fun v32 H33 τ34 =>
  gK v31 true (fun q' => binK .lss v32 (.int .i64 (.ofNat 8)) fun v => q' v H33 τ34) H33 τ34 fun v35 H36 τ37 =>
  someK (pPick [v31, v35, (.bool false)]) fun v38 =>
  condK v38
    (someK (pSlIdx 1 [t0, t5]) fun v39 =>
  someK (lLoad1 [v39] H36) fun v40 =>
  call 10 [v40] H36 τ37 fun v41 H42 τ43 =>
  binK .rem t5 (.int .i64 (.ofNat 3)) fun v44 =>
  binK .eql v44 (.int .i64 (.ofNat 2)) fun v45 =>
  condK v45
    (binK .add (.str (bs [34])) v41 fun v62 =>
  binK .add v62 (.str (bs [44, 32])) fun v63 =>
  binK .add v63 v41 fun v64 =>
  binK .add v64 (.str (bs [34])) fun v65 =>
  s3_j3 call N k ⟨(T.set (T.set (T.set (T.set (T.set (T.set (T.set (T.set (T.set (T.set (T.set (T.set (T.set .leaf 0 t0) 3 t3) 4 t4) 5 t5) 6 v41) 26 v45) 27 v41) 28 v62) 29 v63) 30 v41) 31 v64) 32 v65) 6 v65), H42⟩ τ43)
    (s3_j3 call N k ⟨(T.set (T.set (T.set (T.set (T.set (T.set .leaf 0 t0) 3 t3) 4 t4) 5 t5) 6 v41) 26 v45), H42⟩ τ43))
    (k (.exit 0) ⟨(T.set (T.set .leaf 3 t3) 4 t4), H36⟩ τ37)
def s3 (call : CallK) (N : Nat) (a0 : V) (H : Heap) (τ : Tape) (q : KV) : Ans :=
  loopK (s3_l1 call N) N ⟨(T.set (T.set (T.set (T.set .leaf 0 a0) 3 (.str [])) 4 .nils) 5 (.int .i64 (.ofNat 0))), H⟩ τ (blockK 0 (seqK (s3_j0 call N q) (endK [(.t 2)] q)))
theorem s3_eq (call : CallK) (N : Nat) (a0 : V) (H : Heap) (τ : Tape) (q : KV) : s3 call N a0 H τ q = funK call N fn3 [a0] H τ q := by kernel_rfl
def e3 (call : CallK) (N : Nat) (vs : List V) (H : Heap) (τ : Tape) (q : KV) : Ans := match vs with | [a0] => s3 call N a0 H τ q | _ => none
theorem e3_ok : EntOk fn3 e3 := by
  intro call N vs H τ q r h
  unfold e3 at h
  split at h
  · rw [s3_eq] at h; exact h
  · cases h
theorem e3_nat : EntNat e3 := by
  intro c hn N vs H τ q
  unfold e3
  split
  · rw [s3_eq, s3_eq]; exact funK_ent hn _ _ _ _ _ _
  · rfl
/-- ostiary/ostiarylaw5.HeadersRanges -/
def fn4 : Fun := ⟨4,
  (.seq (.reg [⟨(some 8), none, (.p .mv), [(.c (.bool false))], none⟩])
  (.keep [0, 1, 2, 3] (.seq (.reg [⟨(some 16), none, (.p .mv), [(.t 0)], none⟩,
    ⟨(some 17), none, (.call 15), [(.t 16), (.c (.int .i64 (.ofNat 0))), (.c (.int .i64 (.ofNat 1048576)))], none⟩,
    ⟨(some 0), none, (.p .mv), [(.t 17)], none⟩])
  (.keep [0, 1, 2, 3] (.seq (.reg [⟨(some 18), none, (.p .mv), [(.t 0)], none⟩,
    ⟨(some 19), none, (.p .mv), [(.t 1)], none⟩,
    ⟨(some 20), none, (.call 15), [(.t 19), (.c (.int .i64 (.ofNat 0))), (.c (.int .i64 (.ofNat 1048576)))], none⟩,
    ⟨(some 21), none, (.p (.bin .add)), [(.t 18), (.t 20)], none⟩,
    ⟨(some 1), none, (.p .mv), [(.t 21)], none⟩])
  (.keep [0, 1, 2, 3] (.seq (.reg [⟨(some 9), none, (.p .mv), [(.c (.str (bs [98, 121, 116, 101, 115, 61])))], none⟩])
  (.keep [0, 1, 2, 3, 9] (.seq (.seq (.reg [⟨(some 22), none, (.p .mv), [(.t 2)], none⟩])
  (.keep [0, 1, 2, 3, 9, 22] (.cond (.t 22)
   (.reg [⟨(some 23), none, (.p .mv), [(.t 9)], none⟩,
     ⟨(some 24), none, (.p .mv), [(.t 0)], none⟩,
     ⟨(some 25), none, (.call 16), [(.t 24)], none⟩,
     ⟨(some 26), none, (.p (.bin .add)), [(.t 23), (.t 25)], none⟩,
     ⟨(some 9), none, (.p .mv), [(.t 26)], none⟩])
   .skip)))
  (.keep [0, 1, 2, 3, 9] (.seq (.reg [⟨(some 27), none, (.p .mv), [(.t 9)], none⟩,
    ⟨(some 28), none, (.p (.bin .add)), [(.t 27), (.c (.str (bs [45])))], none⟩,
    ⟨(some 9), none, (.p .mv), [(.t 28)], none⟩])
  (.keep [0, 1, 2, 3, 9] (.seq (.seq (.reg [⟨(some 29), none, (.p .mv), [(.t 3)], none⟩])
  (.keep [0, 1, 2, 3, 9, 29] (.cond (.t 29)
   (.reg [⟨(some 30), none, (.p .mv), [(.t 9)], none⟩,
     ⟨(some 31), none, (.p .mv), [(.t 1)], none⟩,
     ⟨(some 32), none, (.call 16), [(.t 31)], none⟩,
     ⟨(some 33), none, (.p (.bin .add)), [(.t 30), (.t 32)], none⟩,
     ⟨(some 9), none, (.p .mv), [(.t 33)], none⟩])
   .skip)))
  (.keep [0, 1, 2, 3, 9] (.seq (.reg [⟨(some 35), none, (.p .mv), [(.t 9)], none⟩,
    ⟨(some 36), none, (.call 17), [(.t 35)], none⟩,
    ⟨(some 34), none, (.p .mv), [(.t 36)], none⟩,
    ⟨(some 37), none, (.p (.extract 0)), [(.t 34)], none⟩,
    ⟨(some 38), none, (.p (.extract 1)), [(.t 34)], none⟩,
    ⟨(some 39), none, (.p (.extract 2)), [(.t 34)], none⟩,
    ⟨(some 10), none, (.p .mv), [(.t 37)], none⟩,
    ⟨(some 11), none, (.p .mv), [(.t 38)], none⟩,
    ⟨(some 12), none, (.p .mv), [(.t 39)], none⟩])
  (.keep [0, 1, 2, 3, 9, 10, 11, 12] (.seq (.seq (.reg [⟨(some 40), none, (.p .mv), [(.t 2)], none⟩,
    ⟨(some 41), none, (.p (.un .not)), [(.t 40)], none⟩,
    ⟨(some 42), none, (.p .mv), [(.t 41)], none⟩,
    ⟨(some 43), some (42, true), (.p .mv), [(.t 3)], none⟩,
    ⟨(some 44), some (42, true), (.p (.un .not)), [(.t 43)], none⟩,
    ⟨(some 45), none, (.p .pick), [(.t 42), (.t 44), (.c (.bool false))], none⟩])
  (.keep [0, 1, 2, 3, 9, 10, 11, 12, 45] (.cond (.t 45)
   (.seq (.reg [⟨(some 46), none, (.p .mv), [(.t 12)], none⟩,
     ⟨(some 47), none, (.p (.un .not)), [(.t 46)], none⟩,
     ⟨(some 48), none, (.p .mv), [(.t 47)], none⟩,
     ⟨(some 49), some (48, true), (.call 11), [], none⟩,
     ⟨(some 50), none, (.p .pick), [(.t 48), (.t 49), (.c (.bool false))], none⟩,
     ⟨(some 8), none, (.p .mv), [(.t 50)], none⟩])
   (.keep [8] (.keep [8] .ret)))
   .skip)))
  (.keep [0, 1, 2, 3, 9, 10, 11, 12] (.seq (.seq (.reg [⟨(some 51), none, (.p .mv), [(.t 12)], none⟩,
    ⟨(some 52), none, (.p (.un .not)), [(.t 51)], none⟩,
    ⟨(some 53), none, (.p .mv), [(.t 52)], none⟩,
    ⟨(some 54), some (53, false), (.p .mv), [(.t 2)], none⟩,
    ⟨(some 55), some (53, false), (.p .mv), [(.t 54)], none⟩,
    ⟨(some 56), some (55, true), (.p .mv), [(.t 10)], none⟩,
    ⟨(some 57), some (55, true), (.p .mv), [(.t 0)], none⟩,
    ⟨(some 58), some (55, true), (.p (.bin .neq)), [(.t 56), (.t 57)], none⟩,
    ⟨(some 59), some (53, false), (.p .pick), [(.t 55), (.t 58), (.c (.bool false))], none⟩,
    ⟨(some 60), none, (.p .pick), [(.t 53), (.c (.bool true)), (.t 59)], none⟩,
    ⟨(some 61), none, (.p .mv), [(.t 60)], none⟩,
    ⟨(some 62), some (61, false), (.p .mv), [(.t 2)], none⟩,
    ⟨(some 63), some (61, false), (.p (.un .not)), [(.t 62)], none⟩,
    ⟨(some 64), some (61, false), (.p .mv), [(.t 63)], none⟩,
    ⟨(some 65), some (64, true), (.p .mv), [(.t 10)], none⟩,
    ⟨(some 66), some (64, true), (.p (.bin .neq)), [(.t 65), (.c (.int .i64 (.negSucc 0)))], none⟩,
    ⟨(some 67), some (61, false), (.p .pick), [(.t 64), (.t 66), (.c (.bool false))], none⟩,
    ⟨(some 68), none, (.p .pick), [(.t 61), (.c (.bool true)), (.t 67)], none⟩,
    ⟨(some 69), none, (.p .mv), [(.t 68)], none⟩,
    ⟨(some 70), some (69, false), (.p .mv), [(.t 3)], none⟩,
    ⟨(some 71), some (69, false), (.p .mv), [(.t 70)], none⟩,
    ⟨(some 72), some (71, true), (.p .mv), [(.t 11)], none⟩,
    ⟨(some 73), some (71, true), (.p .mv), [(.t 1)], none⟩,
    ⟨(some 74), some (71, true), (.p (.bin .neq)), [(.t 72), (.t 73)], none⟩,
    ⟨(some 75), some (69, false), (.p .pick), [(.t 71), (.t 74), (.c (.bool false))], none⟩,
    ⟨(some 76), none, (.p .pick), [(.t 69), (.c (.bool true)), (.t 75)], none⟩,
    ⟨(some 77), none, (.p .mv), [(.t 76)], none⟩,
    ⟨(some 78), some (77, false), (.p .mv), [(.t 3)], none⟩,
    ⟨(some 79), some (77, false), (.p (.un .not)), [(.t 78)], none⟩,
    ⟨(some 80), some (77, false), (.p .mv), [(.t 79)], none⟩,
    ⟨(some 81), some (80, true), (.p .mv), [(.t 11)], none⟩,
    ⟨(some 82), some (80, true), (.p (.bin .neq)), [(.t 81), (.c (.int .i64 (.negSucc 0)))], none⟩,
    ⟨(some 83), some (77, false), (.p .pick), [(.t 80), (.t 82), (.c (.bool false))], none⟩,
    ⟨(some 84), none, (.p .pick), [(.t 77), (.c (.bool true)), (.t 83)], none⟩])
  (.keep [2, 9, 84] (.cond (.t 84)
   (.seq (.reg [⟨(some 8), none, (.p .mv), [(.c (.bool false))], none⟩])
   (.keep [8] (.keep [8] .ret)))
   .skip)))
  (.keep [2, 9] (.seq (.reg [⟨(some 86), none, (.p .mv), [(.t 9)], none⟩,
    ⟨(some 87), none, (.p (.bin .add)), [(.t 86), (.c (.str (bs [32])))], none⟩,
    ⟨(some 88), none, (.call 17), [(.t 87)], none⟩,
    ⟨(some 85), none, (.p .mv), [(.t 88)], none⟩,
    ⟨(some 89), none, (.p (.extract 0)), [(.t 85)], none⟩,
    ⟨(some 90), none, (.p (.extract 1)), [(.t 85)], none⟩,
    ⟨(some 91), none, (.p (.extract 2)), [(.t 85)], none⟩,
    ⟨(some 13), none, (.p .mv), [(.t 89)], none⟩,
    ⟨(some 14), none, (.p .mv), [(.t 90)], none⟩,
    ⟨(some 15), none, (.p .mv), [(.t 91)], none⟩])
  (.keep [2, 9, 15] (.seq (.reg [⟨(some 92), none, (.p .mv), [(.t 15)], none⟩,
    ⟨(some 93), none, (.p (.un .not)), [(.t 92)], none⟩,
    ⟨(some 94), none, (.p .mv), [(.t 93)], none⟩,
    ⟨(some 95), some (94, true), (.p .mv), [(.t 9)], none⟩,
    ⟨(some 96), some (94, true), (.call 18), [(.c (.str (bs [82, 97, 110, 103, 101]))), (.t 95)], none⟩,
    ⟨(some 97), some (94, true), (.p .mv), [(.t 2)], none⟩,
    ⟨(some 98), some (94, true), (.p (.eq false .bool)), [(.t 96), (.t 97)], none⟩,
    ⟨(some 99), none, (.p .pick), [(.t 94), (.t 98), (.c (.bool false))], none⟩,
    ⟨(some 100), none, (.p .mv), [(.t 99)], none⟩,
    ⟨(some 101), some (100, true), (.call 11), [], none⟩,
    ⟨(some 102), none, (.p .pick), [(.t 100), (.t 101), (.c (.bool false))], none⟩,
    ⟨(some 8), none, (.p .mv), [(.t 102)], none⟩])
  (.keep [8] (.keep [8] .ret))))))))))))))))))))))))),
  [(.t 8)]⟩
def s4_j1 (call : CallK) (N : Nat) (q : KV) (st : St) (τ : Tape) : Ans :=
  match st with
  | ⟨fr, H⟩ =>
  getK fr 0 fun t0 =>
  getK fr 1 fun t1 =>
  getK fr 2 fun t2 =>
  getK fr 3 fun t3 =>
  getK fr 9 fun t9 =>
  call 17 [t9] H τ fun v8 H9 τ10 =>
  someK (pExtract 0 [v8]) fun v11 =>
  someK (pExtract 1 [v8]) fun v12 =>
  someK (pExtract 2 [v8]) fun v13 =>
  unK .not t2 fun v14 =>
  gK v14 true (fun q' => q' t3 H9 τ10) H9 τ10 fun v15 H16 τ17 =>
  gK v14 true (fun q' => unK .not v15 fun v => q' v H16 τ17) H16 τ17 fun v18 H19 τ20 =>
  someK (pPick [v14, v18, (.bool false)]) fun v21 =>
  condK v21
    (unK .not v13 fun v22 =>
  gK v22 true (fun q' => call 11 [] H19 τ20 q') H19 τ20 fun v23 H24 τ25 =>
  someK (pPick [v22, v23, (.bool false)]) fun v26 =>
  q v26 H24 τ25)
    (unK .not v13 fun v27 =>
  gK v27 false (fun q' => q' t2 H19 τ20) H19 τ20 fun v28 H29 τ30 =>
  gK v27 false (fun q' => q' v28 H29 τ30) H29 τ30 fun v31 H32 τ33 =>
  gK v31 true (fun q' => q' v11 H32 τ33) H32 τ33 fun v34 H35 τ36 =>
  gK v31 true (fun q' => q' t0 H35 τ36) H35 τ36 fun v37 H38 τ39 =>
  gK v31 true (fun q' => binK .neq v34 v37 fun v => q' v H38 τ39) H38 τ39 fun v40 H41 τ42 =>
  gK v27 false (fun q' => someK (pPick [v31, v40, (.bool false)]) fun v => q' v H41 τ42) H41 τ42 fun v43 H44 τ45 =>
  someK (pPick [v27, (.bool true), v43]) fun v46 =>
  gK v46 false (fun q' => q' t2 H44 τ45) H44 τ45 fun v47 H48 τ49 =>
  gK v46 false (fun q' => unK .not v47 fun v => q' v H48 τ49) H48 τ49 fun v50 H51 τ52 =>
  gK v46 false (fun q' => q' v50 H51 τ52) H51 τ52 fun v53 H54 τ55 =>
  gK v53 true (fun q' => q' v11 H54 τ55) H54 τ55 fun v56 H57 τ58 =>
  gK v53 true (fun q' => binK .neq v56 (.int .i64 (.negSucc 0)) fun v => q' v H57 τ58) H57 τ58 fun v59 H60 τ61 =>
  gK v46 false (fun q' => someK (pPick [v53, v59, (.bool false)]) fun v => q' v H60 τ61) H60 τ61 fun v62 H63 τ64 =>
  someK (pPick [v46, (.bool true), v62]) fun v65 =>
  gK v65 false (fun q' => q' t3 H63 τ64) H63 τ64 fun v66 H67 τ68 =>
  gK v65 false (fun q' => q' v66 H67 τ68) H67 τ68 fun v69 H70 τ71 =>
  gK v69 true (fun q' => q' v12 H70 τ71) H70 τ71 fun v72 H73 τ74 =>
  gK v69 true (fun q' => q' t1 H73 τ74) H73 τ74 fun v75 H76 τ77 =>
  gK v69 true (fun q' => binK .neq v72 v75 fun v => q' v H76 τ77) H76 τ77 fun v78 H79 τ80 =>
  gK v65 false (fun q' => someK (pPick [v69, v78, (.bool false)]) fun v => q' v H79 τ80) H79 τ80 fun v81 H82 τ83 =>
  someK (pPick [v65, (.bool true), v81]) fun v84 =>
  gK v84 false (fun q' => q' t3 H82 τ83) H82 τ83 fun v85 H86 τ87 =>
  gK v84 false (fun q' => unK .not v85 fun v => q' v H86 τ87) H86 τ87 fun v88 H89 τ90 =>
  gK v84 false (fun q' => q' v88 H89 τ90) H89 τ90 fun v91 H92 τ93 =>
  gK v91 true (fun q' => q' v12 H92 τ93) H92 τ93 fun v94 H95 τ96 =>
  gK v91 true (fun q' => binK .neq v94 (.int .i64 (.negSucc 0)) fun v => q' v H95 τ96) H95 τ96 fun v97 H98 τ99 =>
  gK v84 false (fun q' => someK (pPick [v91, v97, (.bool false)]) fun v => q' v H98 τ99) H98 τ99 fun v100 H101 τ102 =>
  someK (pPick [v84, (.bool true), v100]) fun v103 =>
  condK v103
    (q (.bool false) H101 τ102)
    (binK .add t9 (.str (bs [32])) fun v104 =>
  call 17 [v104] H101 τ102 fun v105 H106 τ107 =>
  someK (pExtract 0 [v105]) fun v108 =>
  someK (pExtract 1 [v105]) fun v109 =>
  someK (pExtract 2 [v105]) fun v110 =>
  unK .not v110 fun v111 =>
  gK v111 true (fun q' => q' t9 H106 τ107) H106 τ107 fun v112 H113 τ114 =>
  gK v111 true (fun q' => call 18 [(.str (bs [82, 97, 110, 103, 101])), v112] H113 τ114 q') H113 τ114 fun v115 H116 τ117 =>
  gK v111 true (fun q' => q' t2 H116 τ117) H116 τ117 fun v118 H119 τ120 =>
  gK v111 true (fun q' => someK (pEq false .bool [v115, v118]) fun v => q' v H119 τ120) H119 τ120 fun v121 H122 τ123 =>
  someK (pPick [v111, v121, (.bool false)]) fun v124 =>
  gK v124 true (fun q' => call 11 [] H122 τ123 q') H122 τ123 fun v125 H126 τ127 =>
  someK (pPick [v124, v125, (.bool false)]) fun v128 =>
  q v128 H126 τ127))
def s4_j0 (call : CallK) (N : Nat) (q : KV) (st : St) (τ : Tape) : Ans :=
  match st with
  | ⟨fr, H⟩ =>
  getK fr 0 fun t0 =>
  getK fr 1 fun t1 =>
  getK fr 2 fun t2 =>
  getK fr 3 fun t3 =>
  getK fr 9 fun t9 =>
  binK .add t9 (.str (bs [45])) fun v7 =>
  condK t3
    (call 16 [t1] H τ fun v129 H130 τ131 =>
  binK .add v7 v129 fun v132 =>
  s4_j1 call N q ⟨(T.set (T.set (T.set (T.set (T.set (T.set (T.set (T.set (T.set (T.set (T.set .leaf 0 t0) 1 t1) 2 t2) 3 t3) 9 v7) 29 t3) 30 v7) 31 t1) 32 v129) 33 v132) 9 v132), H130⟩ τ131)
    (s4_j1 call N q ⟨(T.set (T.set (T.set (T.set (T.set (T.set .leaf 0 t0) 1 t1) 2 t2) 3 t3) 9 v7) 29 t3), H⟩ τ)
def s4 (call : CallK) (N : Nat) (a0 a1 a2 a3 : V) (H : Heap) (τ : Tape) (q : KV) : Ans :=
  call 15 [a0, (.int .i64 (.ofNat 0)), (.int .i64 (.ofNat 1048576))] H τ fun v0 H1 τ2 =>
  call 15 [a1, (.int .i64 (.ofNat 0)), (.int .i64 (.ofNat 1048576))] H1 τ2 fun v3 H4 τ5 =>
  binK .add v0 v3 fun v6 =>
  condK a2
    (call 16 [v0] H4 τ5 fun v133 H134 τ135 =>
  binK .add (.str (bs [98, 121, 116, 101, 115, 61])) v133 fun v136 =>
  s4_j0 call N q ⟨(T.set (T.set (T.set (T.set (T.set (T.set (T.set (T.set (T.set (T.set (T.set .leaf 0 v0) 1 v6) 2 a2) 3 a3) 9 (.str (bs [98, 121, 116, 101, 115, 61]))) 22 a2) 23 (.str (bs [98, 121, 116, 101, 115, 61]))) 24 v0) 25 v133) 26 v136) 9 v136), H134⟩ τ135)
    (s4_j0 call N q ⟨(T.set (T.set (T.set (T.set (T.set (T.set .leaf 0 v0) 1 v6) 2 a2) 3 a3) 9 (.str (bs [98, 121, 116, 101, 115, 61]))) 22 a2), H4⟩ τ5)
theorem s4_eq (call : CallK) (N : Nat) (a0 a1 a2 a3 : V) (H : Heap) (τ : Tape) (q : KV) : s4 call N a0 a1 a2 a3 H τ q = funK call N fn4 [a0, a1, a2, a3] H τ q := by kernel_rfl
def e4 (call : CallK) (N : Nat) (vs : List V) (H : Heap) (τ : Tape) (q : KV) : Ans := match vs with | [a0, a1, a2, a3] => s4 call N a0 a1 a2 a3 H τ q | _ => none
theorem e4_ok : EntOk fn4 e4 := by
  intro call N vs H τ q r h
  unfold e4 at h
  split at h
  · rw [s4_eq] at h; exact h
  · cases h
theorem e4_nat : EntNat e4 := by
  intro c hn N vs H τ q
  unfold e4
  split
  · rw [s4_eq, s4_eq]; exact funK_ent hn _ _ _ _ _ _
  · rfl
/-- ostiary/ostiarylaw5.word -/
def fn10 : Fun := ⟨1,
  (.seq (.reg [⟨(some 2), none, (.p .mv), [(.c (.str []))], none⟩])
  (.keep [0] (.seq (.reg [⟨(some 3), none, (.p .mv), [(.c (.str (bs [113])))], none⟩])
  (.keep [0, 3] (.seq (.seq (.reg [⟨(some 4), none, (.p .mv), [(.c (.int .i64 (.ofNat 0)))], none⟩])
  (.keep [0, 3, 4] (.block 0
   (.loop
    (.keep [0, 3, 4] (.seq (.seq (.reg [⟨(some 5), none, (.p .mv), [(.t 4)], none⟩,
      ⟨(some 6), none, (.p .mv), [(.t 0)], none⟩,
      ⟨(some 7), none, (.p .lenS), [(.t 6)], none⟩,
      ⟨(some 8), none, (.p (.bin .lss)), [(.t 5), (.t 7)], none⟩,
      ⟨(some 9), none, (.p .mv), [(.t 8)], none⟩,
      ⟨(some 10), some (9, true), (.p .mv), [(.t 3)], none⟩,
      ⟨(some 11), some (9, true), (.p .lenS), [(.t 10)], none⟩,
      ⟨(some 12), some (9, true), (.p (.bin .lss)), [(.t 11), (.c (.int .i64 (.ofNat 12)))], none⟩,
      ⟨(some 13), none, (.p .pick), [(.t 9), (.t 12), (.c (.bool false))], none⟩])
    (.keep [0, 3, 4, 13] (.cond (.t 13)
     .skip
     (.keep [3] (.exit 0)))))
    (.keep [0, 3, 4] (.seq (.block 1
     (.seq (.reg [⟨(some 16), none, (.p .mv), [(.t 0)], none⟩,
       ⟨(some 17), none, (.p .mv), [(.t 4)], none⟩,
       ⟨(some 18), none, (.p .strIndex), [(.t 16), (.t 17)], none⟩,
       ⟨(some 19), none, (.p (.bin .geq)), [(.t 18), (.c (.int .u8 (.ofNat 97)))], none⟩,
       ⟨(some 20), none, (.p .mv), [(.t 19)], none⟩,
       ⟨(some 21), some (20, true), (.p .mv), [(.t 0)], none⟩,
       ⟨(some 22), some (20, true), (.p .mv), [(.t 4)], none⟩,
       ⟨(some 23), some (20, true), (.p .strIndex), [(.t 21), (.t 22)], none⟩,
       ⟨(some 24), some (20, true), (.p (.bin .leq)), [(.t 23), (.c (.int .u8 (.ofNat 122)))], none⟩,
       ⟨(some 25), none, (.p .pick), [(.t 20), (.t 24), (.c (.bool false))], none⟩])
     (.keep [0, 3, 4, 25] (.cond (.t 25)
      (.reg [⟨(some 26), none, (.p .mv), [(.t 3)], none⟩,
        ⟨(some 27), none, (.p .mv), [(.t 0)], none⟩,
        ⟨(some 28), none, (.p .mv), [(.t 4)], none⟩,
        ⟨(some 29), none, (.p .mv), [(.t 4)], none⟩,
        ⟨(some 30), none, (.p (.bin .add)), [(.t 29), (.c (.int .i64 (.ofNat 1)))], none⟩,
        ⟨(some 31), none, (.p (.strSlice true true)), [(.t 27), (.t 28), (.t 30)], none⟩,
        ⟨(some 32), none, (.p (.bin .add)), [(.t 26), (.t 31)], none⟩,
        ⟨(some 3), none, (.p .mv), [(.t 32)], none⟩])
      .skip))))
    (.keep [0, 3, 4] (.reg [⟨(some 14), none, (.p .mv), [(.t 4)], none⟩,
      ⟨(some 15), none, (.p (.bin .add)), [(.t 14), (.c (.int .i64 (.ofNat 1)))], none⟩,
      ⟨(some 4), none, (.p .mv), [(.t 15)], none⟩]))))))))))
  (.keep [3] (.seq (.reg [⟨(some 33), none, (.p .mv), [(.t 3)], none⟩,
    ⟨(some 2), none, (.p .mv), [(.t 33)], none⟩])
  (.keep [2] (.keep [2] .ret))))))))),
  [(.t 2)]⟩
def s10_j0 (call : CallK) (N : Nat) (q : KV) (st : St) (τ : Tape) : Ans :=
  match st with
  | ⟨fr, H⟩ =>
  getK fr 3 fun t3 =>
  q t3 H τ
def s10_j2 (call : CallK) (N : Nat) (k : KC) (st : St) (τ : Tape) : Ans :=
  match st with
  | ⟨fr, H⟩ =>
  getK fr 0 fun t0 =>
  getK fr 3 fun t3 =>
  getK fr 4 fun t4 =>
  binK .add t4 (.int .i64 (.ofNat 1)) fun v12 =>
  k .normal ⟨(T.set (T.set (T.set (T.set (T.set (T.set .leaf 0 t0) 3 t3) 4 t4) 14 t4) 15 v12) 4 v12), H⟩ τ
def s10_l1 (call : CallK) (N : Nat) (st : St) (τ : Tape) (k : KC) : Ans :=
  match st with
  | ⟨fr, H⟩ =>
  getK fr 0 fun t0 =>
  getK fr 3 fun t3 =>
  getK fr 4 fun t4 =>
  someK (pLenS [t0]) fun v0 =>
  binK .lss t4 v0 fun v1 =>
  gK v1 true (fun q' => q' t3 H τ) H τ fun v2 H3 τ4 =>
  gK v1 true (fun q' => someK (pLenS [v2]) fun v => q' v H3 τ4) H3 τ4 fun v5 H6 τ7 =>
  gK v1 true (fun q' => binK .lss v5 (.int .i64 (.ofNat 12)) fun v => q' v H6 τ7) H6 τ7 fun v8 H9 τ10 =>
  someK (pPick [v1, v8, (.bool false)]) fun v11 =>
  condK v11
    (someK (pStrIndex [t0, t4]) fun v13 =>
  binK .geq v13 (.int .u8 (.ofNat 97)) fun v14 =>
  gK v14 true (fun q' => q' t0 H9 τ10) H9 τ10 fun v15 H16 τ17 =>
  gK v14 true (fun q' => q' t4 H16 τ17) H16 τ17 fun v18 H19 τ20 =>
  gK v14 true (fun q' => someK (pStrIndex [v15, v18]) fun v => q' v H19 τ20) H19 τ20 fun v21 H22 τ23 =>
  gK v14 true (fun q' => binK .leq v21 (.int .u8 (.ofNat 122)) fun v => q' v H22 τ23) H22 τ23 fun v24 H25 τ26 =>
  someK (pPick [v14, v24, (.bool false)]) fun v27 =>
  condK v27
    (binK .add t4 (.int .i64 (.ofNat 1)) fun v28 =>
  someK (pStrSlice true true [t0, t4, v28]) fun v29 =>
  binK .add t3 v29 fun v30 =>
  s10_j2 call N k ⟨(T.set (T.set (T.set (T.set (T.set (T.set (T.set (T.set (T.set (T.set (T.set (T.set .leaf 0 t0) 3 t3) 4 t4) 25 v27) 26 t3) 27 t0) 28 t4) 29 t4) 30 v28) 31 v29) 32 v30) 3 v30), H25⟩ τ26)
    (s10_j2 call N k ⟨(T.set (T.set (T.set (T.set .leaf 0 t0) 3 t3) 4 t4) 25 v27), H25⟩ τ26))
    (k (.exit 0) ⟨(T.set .leaf 3 t3), H9⟩ τ10)
def s10 (call : CallK) (N : Nat) (a0 : V) (H : Heap) (τ : Tape) (q : KV) : Ans :=
  loopK (s10_l1 call N) N ⟨(T.set (T.set (T.set .leaf 0 a0) 3 (.str (bs [113]))) 4 (.int .i64 (.ofNat 0))), H⟩ τ (blockK 0 (seqK (s10_j0 call N q) (endK [(.t 2)] q)))
theorem s10_eq (call : CallK) (N : Nat) (a0 : V) (H : Heap) (τ : Tape) (q : KV) : s10 call N a0 H τ q = funK call N fn10 [a0] H τ q := by kernel_rfl
def e10 (call : CallK) (N : Nat) (vs : List V) (H : Heap) (τ : Tape) (q : KV) : Ans := match vs with | [a0] => s10 call N a0 H τ q | _ => none
theorem e10_ok : EntOk fn10 e10 := by
  intro call N vs H τ q r h
  unfold e10 at h
  split at h
  · rw [s10_eq] at h; exact h
  · cases h
theorem e10_nat : EntNat e10 := by
  intro c hn N vs H τ q
  unfold e10
  split
  · rw [s10_eq, s10_eq]; exact funK_ent hn _ _ _ _ _ _
  · rfl
/-- ostiary/ostiarylaw5.known -/
def fn11 : Fun := ⟨0,
  (.seq (.reg [⟨(some 0), none, (.p .mv), [(.c (.bool false))], none⟩])
  (.keep [] (.seq (.reg [⟨(some 6), none, (.call 13), [(.c (.str (bs [65]))), (.c (.str (bs [49])))], none⟩,
    ⟨(some 7), none, (.call 13), [(.c (.str (bs [98]))), (.c (.str (bs [50])))], none⟩,
    ⟨(some 8), none, (.call 13), [(.c (.str (bs [97]))), (.c (.str (bs [51])))], none⟩,
    ⟨(some 9), none, (.e (.buildSlice 3 2 (repl 6 [(.str [])]) [(0, 2), (2, 2), (4, 2)])), [(.t 6), (.t 7), (.t 8)], none⟩,
    ⟨(some 10), none, (.call 20), [(.t 9), (.c (.str (bs [97])))], none⟩,
    ⟨(some 5), none, (.p .mv), [(.t 10)], none⟩,
    ⟨(some 11), none, (.p (.extract 0)), [(.t 5)], none⟩,
    ⟨(some 12), none, (.p (.extract 1)), [(.t 5)], none⟩,
    ⟨(some 1), none, (.p .mv), [(.t 11)], none⟩,
    ⟨(some 2), none, (.p .mv), [(.t 12)], none⟩])
  (.keep [1, 2] (.seq (.reg [⟨(some 14), none, (.call 13), [(.c (.str (bs [97]))), (.c (.str (bs [120, 44, 32, 34, 121, 44, 32, 122, 34, 32, 44, 32, 119])))], none⟩,
    ⟨(some 15), none, (.e (.buildSlice 1 2 [(.str []), (.str [])] [(0, 2)])), [(.t 14)], none⟩,
    ⟨(some 16), none, (.call 12), [(.t 15), (.c (.str (bs [65])))], none⟩,
    ⟨(some 13), none, (.p .mv), [(.t 16)], none⟩,
    ⟨(some 17), none, (.p (.extract 0)), [(.t 13)], none⟩,
    ⟨(some 18), none, (.p (.extract 1)), [(.t 13)], none⟩,
    ⟨(some 3), none, (.p .mv), [(.t 17)], none⟩,
    ⟨(some 4), none, (.p .mv), [(.t 18)], none⟩])
  (.keep [1, 2, 3, 4] (.seq (.reg [⟨(some 19), none, (.p .mv), [(.t 2)], none⟩,
    ⟨(some 20), none, (.p .mv), [(.t 19)], none⟩,
    ⟨(some 21), some (20, true), (.p .mv), [(.t 1)], none⟩,
    ⟨(some 22), some (20, true), (.p (.bin .eql)), [(.t 21), (.c (.str (bs [49, 44, 32, 51])))], none⟩,
    ⟨(some 23), none, (.p .pick), [(.t 20), (.t 22), (.c (.bool false))], none⟩,
    ⟨(some 24), none, (.p .mv), [(.t 23)], none⟩,
    ⟨(some 25), some (24, true), (.p .mv), [(.t 4)], none⟩,
    ⟨(some 26), none, (.p .pick), [(.t 24), (.t 25), (.c (.bool false))], none⟩,
    ⟨(some 27), none, (.p .mv), [(.t 26)], none⟩,
    ⟨(some 28), some (27, true), (.p .mv), [(.t 3)], none⟩,
    ⟨(some 29), some (27, true), (.e (.buildSlice 3 1 [(.str []), (.str []), (.str [])] [(0, 1), (1, 1), (2, 1)])), [(.c (.str (bs [120]))), (.c (.str (bs [34, 121, 44, 32, 122, 34]))), (.c (.str (bs [119])))], none⟩,
    ⟨(some 30), some (27, true), (.call 14), [(.t 28), (.t 29)], none⟩,
    ⟨(some 31), none, (.p .pick), [(.t 27), (.t 30), (.c (.bool false))], none⟩,
    ⟨(some 32), none, (.p .mv), [(.t 31)], none⟩,
    ⟨(some 33), some (32, true), (.call 18), [(.c (.str (bs [67, 111, 110, 116, 101, 110, 116, 45, 84, 121, 112, 101]))), (.c (.str (bs [116, 101, 120, 116, 47, 112, 108, 97, 105, 110, 59, 113])))], none⟩,
    ⟨(some 34), none, (.p .pick), [(.t 32), (.t 33), (.c (.bool false))], none⟩,
    ⟨(some 0), none, (.p .mv), [(.t 34)], none⟩])
  (.keep [0] (.keep [0] .ret))))))))),
  [(.t 0)]⟩
def s11 (call : CallK) (N : Nat) (H : Heap) (τ : Tape) (q : KV) : Ans :=
  call 13 [(.str (bs [65])), (.str (bs [49]))] H τ fun v0 H1 τ2 =>
  call 13 [(.str (bs [98])), (.str (bs [50]))] H1 τ2 fun v3 H4 τ5 =>
  call 13 [(.str (bs [97])), (.str (bs [51]))] H4 τ5 fun v6 H7 τ8 =>
  effK (eBuildSlice 3 2 (repl 6 [(.str [])]) [(0, 2), (2, 2), (4, 2)] [v0, v3, v6] H7 τ8) fun v9 H10 τ11 =>
  call 20 [v9, (.str (bs [97]))] H10 τ11 fun v12 H13 τ14 =>
  someK (pExtract 0 [v12]) fun v15 =>
  someK (pExtract 1 [v12]) fun v16 =>
  call 13 [(.str (bs [97])), (.str (bs [120, 44, 32, 34, 121, 44, 32, 122, 34, 32, 44, 32, 119]))] H13 τ14 fun v17 H18 τ19 =>
  effK (eBuildSlice 1 2 [(.str []), (.str [])] [(0, 2)] [v17] H18 τ19) fun v20 H21 τ22 =>
  call 12 [v20, (.str (bs [65]))] H21 τ22 fun v23 H24 τ25 =>
  someK (pExtract 0 [v23]) fun v26 =>
  someK (pExtract 1 [v23]) fun v27 =>
  gK v16 true (fun q' => q' v15 H24 τ25) H24 τ25 fun v28 H29 τ30 =>
  gK v16 true (fun q' => binK .eql v28 (.str (bs [49, 44, 32, 51])) fun v => q' v H29 τ30) H29 τ30 fun v31 H32 τ33 =>
  someK (pPick [v16, v31, (.bool false)]) fun v34 =>
  gK v34 true (fun q' => q' v27 H32 τ33) H32 τ33 fun v35 H36 τ37 =>
  someK (pPick [v34, v35, (.bool false)]) fun v38 =>
  gK v38 true (fun q' => q' v26 H36 τ37) H36 τ37 fun v39 H40 τ41 =>
  gK v38 true (fun q' => effK (eBuildSlice 3 1 [(.str []), (.str []), (.str [])] [(0, 1), (1, 1), (2, 1)] [(.str (bs [120])), (.str (bs [34, 121, 44, 32, 122, 34])), (.str (bs [119]))] H40 τ41) q') H40 τ41 fun v42 H43 τ44 =>
  gK v38 true (fun q' => call 14 [v39, v42] H43 τ44 q') H43 τ44 fun v45 H46 τ47 =>
  someK (pPick [v38, v45, (.bool false)]) fun v48 =>
  gK v48 true (fun q' => call 18 [(.str (bs [67, 111, 110, 116, 101, 110, 116, 45, 84, 121, 112, 101])), (.str (bs [116, 101, 120, 116, 47, 112, 108, 97, 105, 110, 59, 113]))] H46 τ47 q') H46 τ47 fun v49 H50 τ51 =>
  someK (pPick [v48, v49, (.bool false)]) fun v52 =>
  q v52 H50 τ51
theorem s11_eq (call : CallK) (N : Nat) (H : Heap) (τ : Tape) (q : KV) : s11 call N  H τ q = funK call N fn11 [] H τ q := by kernel_rfl
def e11 (call : CallK) (N : Nat) (vs : List V) (H : Heap) (τ : Tape) (q : KV) : Ans := match vs with | [] => s11 call N  H τ q | _ => none
theorem e11_ok : EntOk fn11 e11 := by
  intro call N vs H τ q r h
  unfold e11 at h
  split at h
  · rw [s11_eq] at h; exact h
  · cases h
theorem e11_nat : EntNat e11 := by
  intro c hn N vs H τ q
  unfold e11
  split
  · rw [s11_eq, s11_eq]; exact funK_ent hn _ _ _ _ _ _
  · rfl
/-- ostiary/headers.Split -/
def fn12 : Fun := ⟨2,
  (.seq (.reg [⟨(some 4), none, (.p .mv), [(.c .nils)], none⟩,
    ⟨(some 5), none, (.p .mv), [(.c (.bool false))], none⟩])
  (.keep [0, 1] (.seq (.reg [⟨(some 13), none, (.p .mv), [(.t 0)], none⟩,
    ⟨(some 14), none, (.p .mv), [(.t 1)], none⟩,
    ⟨(some 15), none, (.call 20), [(.t 13), (.t 14)], none⟩,
    ⟨(some 12), none, (.p .mv), [(.t 15)], none⟩,
    ⟨(some 16), none, (.p (.extract 0)), [(.t 12)], none⟩,
    ⟨(some 17), none, (.p (.extract 1)), [(.t 12)], none⟩,
    ⟨(some 6), none, (.p .mv), [(.t 16)], none⟩,
    ⟨(some 7), none, (.p .mv), [(.t 17)], none⟩])
  (.keep [6, 7] (.seq (.seq (.reg [⟨(some 18), none, (.p .mv), [(.t 7)], none⟩,
    ⟨(some 19), none, (.p (.un .not)), [(.t 18)], none⟩])
  (.keep [6, 19] (.cond (.t 19)
   (.seq (.reg [⟨(some 4), none, (.p .mv), [(.c .nils)], none⟩,
     ⟨(some 5), none, (.p .mv), [(.c (.bool false))], none⟩])
   (.keep [4, 5] (.keep [4, 5] .ret)))
   .skip)))
  (.keep [6] (.seq (.reg [⟨(some 8), none, (.p .mv), [(.c .nils)], none⟩])
  (.keep [6, 8] (.seq (.reg [⟨(some 9), none, (.p .mv), [(.c (.bool false))], none⟩,
    ⟨(some 10), none, (.p .mv), [(.c (.int .i64 (.ofNat 0)))], none⟩])
  (.keep [6, 8, 9, 10] (.seq (.seq (.reg [⟨(some 11), none, (.p .mv), [(.c (.int .i64 (.ofNat 0)))], none⟩])
  (.keep [6, 8, 9, 10, 11] (.block 0
   (.loop
    (.keep [6, 8, 9, 10, 11] (.seq (.seq (.reg [⟨(some 20), none, (.p .mv), [(.t 11)], none⟩,
      ⟨(some 21), none, (.p .mv), [(.t 6)], none⟩,
      ⟨(some 22), none, (.p .lenS), [(.t 21)], none⟩,
      ⟨(some 23), none, (.p (.bin .lss)), [(.t 20), (.t 22)], none⟩])
    (.keep [6, 8, 9, 10, 11, 23] (.cond (.t 23)
     .skip
     (.keep [6, 8, 10] (.exit 0)))))
    (.keep [6, 8, 9, 10, 11] (.seq (.block 1
     (.block 2
      (.seq (.reg [⟨(some 27), none, (.p .mv), [(.t 6)], none⟩,
        ⟨(some 28), none, (.p .mv), [(.t 11)], none⟩,
        ⟨(some 29), none, (.p .strIndex), [(.t 27), (.t 28)], none⟩,
        ⟨(some 30), none, (.p (.bin .eql)), [(.t 29), (.c (.int .u8 (.ofNat 34)))], none⟩,
        ⟨(some 26), none, (.p .mv), [(.t 30)], none⟩])
      (.keep [6, 8, 9, 10, 11, 26] (.cond (.t 26)
       (.reg [⟨(some 31), none, (.p .mv), [(.t 9)], none⟩,
         ⟨(some 32), none, (.p (.un .not)), [(.t 31)], none⟩,
         ⟨(some 9), none, (.p .mv), [(.t 32)], none⟩])
       (.seq (.reg [⟨(some 34), none, (.p .mv), [(.t 9)], none⟩,
         ⟨(some 35), none, (.p .mv), [(.t 34)], none⟩,
         ⟨(some 36), some (35, true), (.p .mv), [(.t 6)], none⟩,
         ⟨(some 37), some (35, true), (.p .mv), [(.t 11)], none⟩,
         ⟨(some 38), some (35, true), (.p .strIndex), [(.t 36), (.t 37)], none⟩,
         ⟨(some 39), some (35, true), (.p (.bin .eql)), [(.t 38), (.c (.int .u8 (.ofNat 92)))], none⟩,
         ⟨(some 40), none, (.p .pick), [(.t 35), (.t 39), (.c (.bool false))], none⟩,
         ⟨(some 33), none, (.p .mv), [(.t 40)], none⟩])
       (.keep [6, 8, 9, 10, 11, 33] (.cond (.t 33)
        (.reg [⟨(some 41), none, (.p .mv), [(.t 11)], none⟩,
          ⟨(some 42), none, (.p (.bin .add)), [(.t 41), (.c (.int .i64 (.ofNat 1)))], none⟩,
          ⟨(some 11), none, (.p .mv), [(.t 42)], none⟩])
        (.seq (.reg [⟨(some 44), none, (.p .mv), [(.t 9)], none⟩,
          ⟨(some 45), none, (.p (.un .not)), [(.t 44)], none⟩,
          ⟨(some 46), none, (.p .mv), [(.t 45)], none⟩,
          ⟨(some 47), some (46, true), (.p .mv), [(.t 6)], none⟩,
          ⟨(some 48), some (46, true), (.p .mv), [(.t 11)], none⟩,
          ⟨(some 49), some (46, true), (.p .strIndex), [(.t 47), (.t 48)], none⟩,
          ⟨(some 50), some (46, true), (.p (.bin .eql)), [(.t 49), (.c (.int .u8 (.ofNat 44)))], none⟩,
          ⟨(some 51), none, (.p .pick), [(.t 46), (.t 50), (.c (.bool false))], none⟩,
          ⟨(some 43), none, (.p .mv), [(.t 51)], none⟩])
        (.keep [6, 8, 9, 10, 11, 43] (.cond (.t 43)
         (.seq (.reg [⟨(some 52), none, (.p .mv), [(.t 8)], none⟩,
           ⟨(some 53), none, (.p .mv), [(.t 6)], none⟩,
           ⟨(some 54), none, (.p .mv), [(.t 10)], none⟩,
           ⟨(some 55), none, (.p .mv), [(.t 11)], none⟩,
           ⟨(some 56), none, (.p (.strSlice true true)), [(.t 53), (.t 54), (.t 55)], none⟩,
           ⟨(some 57), none, (.call 35), [(.t 56), (.c (.str (bs [9, 32])))], none⟩,
           ⟨(some 58), none, (.e (.buildSlice 1 1 [(.str [])] [(0, 1)])), [(.t 57)], none⟩,
           ⟨(some 59), none, (.e (.append 1 16)), [(.t 52), (.t 58)], none⟩,
           ⟨(some 8), none, (.p .mv), [(.t 59)], none⟩])
         (.keep [6, 8, 9, 11] (.reg [⟨(some 60), none, (.p .mv), [(.t 11)], none⟩,
           ⟨(some 61), none, (.p (.bin .add)), [(.t 60), (.c (.int .i64 (.ofNat 1)))], none⟩,
           ⟨(some 10), none, (.p .mv), [(.t 61)], none⟩])))
         .skip)))))))))))
    (.keep [6, 8, 9, 10, 11] (.reg [⟨(some 24), none, (.p .mv), [(.t 11)], none⟩,
      ⟨(some 25), none, (.p (.bin .add)), [(.t 24), (.c (.int .i64 (.ofNat 1)))], none⟩,
      ⟨(some 11), none, (.p .mv), [(.t 25)], none⟩]))))))))))
  (.keep [6, 8, 10] (.seq (.reg [⟨(some 62), none, (.p .mv), [(.t 8)], none⟩,
    ⟨(some 63), none, (.p .mv), [(.t 6)], none⟩,
    ⟨(some 64), none, (.p .mv), [(.t 10)], none⟩,
    ⟨(some 65), none, (.p (.strSlice true false)), [(.t 63), (.t 64)], none⟩,
    ⟨(some 66), none, (.call 35), [(.t 65), (.c (.str (bs [9, 32])))], none⟩,
    ⟨(some 67), none, (.e (.buildSlice 1 1 [(.str [])] [(0, 1)])), [(.t 66)], none⟩,
    ⟨(some 68), none, (.e (.append 1 16)), [(.t 62), (.t 67)], none⟩,
    ⟨(some 4), none, (.p .mv), [(.t 68)], none⟩,
    ⟨(some 5), none, (.p .mv), [(.c (.bool true))], none⟩])
  (.keep [4, 5] (.keep [4, 5] .ret))))))))))))))),
  [(.t 4), (.t 5)]⟩
def s12_j0 (call : CallK) (N : Nat) (q : KV) (st : St) (τ : Tape) : Ans :=
  match st with
  | ⟨fr, H⟩ =>
  getK fr 6 fun t6 =>
  getK fr 8 fun t8 =>
  getK fr 10 fun t10 =>
  someK (pStrSlice true false [t6, t10]) fun v6 =>
  call 35 [v6, (.str (bs [9, 32]))] H τ fun v7 H8 τ9 =>
  effK (eBuildSlice 1 1 [(.str [])] [(0, 1)] [v7] H8 τ9) fun v10 H11 τ12 =>
  effK (eAppend 1 16 [t8, v10] H11 τ12) fun v13 H14 τ15 =>
  q (.tup [v13, (.bool true)]) H14 τ15
def s12_j2 (call : CallK) (N : Nat) (k : KC) (st : St) (τ : Tape) : Ans :=
  match st with
  | ⟨fr, H⟩ =>
  getK fr 6 fun t6 =>
  getK fr 8 fun t8 =>
  getK fr 9 fun t9 =>
  getK fr 10 fun t10 =>
  getK fr 11 fun t11 =>
  binK .add t11 (.int .i64 (.ofNat 1)) fun v18 =>
  k .normal ⟨(T.set (T.set (T.set (T.set (T.set (T.set (T.set (T.set .leaf 6 t6) 8 t8) 9 t9) 10 t10) 11 t11) 24 t11) 25 v18) 11 v18), H⟩ τ
def s12_l1 (call : CallK) (N : Nat) (st : St) (τ : Tape) (k : KC) : Ans :=
  match st with
  | ⟨fr, H⟩ =>
  getK fr 6 fun t6 =>
  getK fr 8 fun t8 =>
  getK fr 9 fun t9 =>
  getK fr 10 fun t10 =>
  getK fr 11 fun t11 =>
  someK (pLenS [t6]) fun v16 =>
  binK .lss t11 v16 fun v17 =>
  condK v17
    (someK (pStrIndex [t6, t11]) fun v19 =>
  binK .eql v19 (.int .u8 (.ofNat 34)) fun v20 =>
  condK v20
    (unK .not t9 fun v21 =>
  s12_j2 call N k ⟨(T.set (T.set (T.set (T.set (T.set (T.set (T.set (T.set (T.set .leaf 6 t6) 8 t8) 9 t9) 10 t10) 11 t11) 26 v20) 31 t9) 32 v21) 9 v21), H⟩ τ)
    (gK t9 true (fun q' => q' t6 H τ) H τ fun v22 H23 τ24 =>
  gK t9 true (fun q' => q' t11 H23 τ24) H23 τ24 fun v25 H26 τ27 =>
  gK t9 true (fun q' => someK (pStrIndex [v22, v25]) fun v => q' v H26 τ27) H26 τ27 fun v28 H29 τ30 =>
  gK t9 true (fun q' => binK .eql v28 (.int .u8 (.ofNat 92)) fun v => q' v H29 τ30) H29 τ30 fun v31 H32 τ33 =>
  someK (pPick [t9, v31, (.bool false)]) fun v34 =>
  condK v34
    (binK .add t11 (.int .i64 (.ofNat 1)) fun v35 =>
  s12_j2 call N k ⟨(T.set (T.set (T.set (T.set (T.set (T.set (T.set (T.set (T.set .leaf 6 t6) 8 t8) 9 t9) 10 t10) 11 t11) 33 v34) 41 t11) 42 v35) 11 v35), H32⟩ τ33)
    (unK .not t9 fun v36 =>
  gK v36 true (fun q' => q' t6 H32 τ33) H32 τ33 fun v37 H38 τ39 =>
  gK v36 true (fun q' => q' t11 H38 τ39) H38 τ39 fun v40 H41 τ42 =>
  gK v36 true (fun q' => someK (pStrIndex [v37, v40]) fun v => q' v H41 τ42) H41 τ42 fun v43 H44 τ45 =>
  gK v36 true (fun q' => binK .eql v43 (.int .u8 (.ofNat 44)) fun v => q' v H44 τ45) H44 τ45 fun v46 H47 τ48 =>
  someK (pPick [v36, v46, (.bool false)]) fun v49 =>
  condK v49
    (someK (pStrSlice true true [t6, t10, t11]) fun v50 =>
  call 35 [v50, (.str (bs [9, 32]))] H47 τ48 fun v51 H52 τ53 =>
  effK (eBuildSlice 1 1 [(.str [])] [(0, 1)] [v51] H52 τ53) fun v54 H55 τ56 =>
  effK (eAppend 1 16 [t8, v54] H55 τ56) fun v57 H58 τ59 =>
  binK .add t11 (.int .i64 (.ofNat 1)) fun v60 =>
  s12_j2 call N k ⟨(T.set (T.set (T.set (T.set (T.set (T.set (T.set .leaf 6 t6) 8 v57) 9 t9) 11 t11) 60 t11) 61 v60) 10 v60), H58⟩ τ59)
    (s12_j2 call N k ⟨(T.set (T.set (T.set (T.set (T.set (T.set .leaf 6 t6) 8 t8) 9 t9) 10 t10) 11 t11) 43 v49), H47⟩ τ48))))
    (k (.exit 0) ⟨(T.set (T.set (T.set .leaf 6 t6) 8 t8) 10 t10), H⟩ τ)
def s12 (call : CallK) (N : Nat) (a0 a1 : V) (H : Heap) (τ : Tape) (q : KV) : Ans :=
  call 20 [a0, a1] H τ fun v0 H1 τ2 =>
  someK (pExtract 0 [v0]) fun v3 =>
  someK (pExtract 1 [v0]) fun v4 =>
  unK .not v4 fun v5 =>
  condK v5
    (q (.tup [.nils, (.bool false)]) H1 τ2)
    (loopK (s12_l1 call N) N ⟨(T.set (T.set (T.set (T.set (T.set .leaf 6 v3) 8 .nils) 9 (.bool false)) 10 (.int .i64 (.ofNat 0))) 11 (.int .i64 (.ofNat 0))), H1⟩ τ2 (blockK 0 (seqK (s12_j0 call N q) (endK [(.t 4), (.t 5)] q))))
theorem s12_eq (call : CallK) (N : Nat) (a0 a1 : V) (H : Heap) (τ : Tape) (q : KV) : s12 call N a0 a1 H τ q = funK call N fn12 [a0, a1] H τ q := by kernel_rfl
def e12 (call : CallK) (N : Nat) (vs : List V) (H : Heap) (τ : Tape) (q : KV) : Ans := match vs with | [a0, a1] => s12 call N a0 a1 H τ q | _ => none
theorem e12_ok : EntOk fn12 e12 := by
  intro call N vs H τ q r h
  unfold e12 at h
  split at h
  · rw [s12_eq] at h; exact h
  · cases h
theorem e12_nat : EntNat e12 := by
  intro c hn N vs H τ q
  unfold e12
  split
  · rw [s12_eq, s12_eq]; exact funK_ent hn _ _ _ _ _ _
  · rfl
/-- ostiary/ostiarylaw5.h -/
def fn13 : Fun := ⟨2,
  (.seq (.reg [⟨(some 4), none, (.e (.alloc [(.str []), (.str [])])), [], none⟩])
  (.keep [0, 1, 4] (.seq (.reg [⟨(some 5), none, (.p .mv), [(.t 0)], none⟩,
    ⟨(some 6), none, (.p .mv), [(.t 1)], none⟩,
    ⟨(some 7), none, (.p (.build [(.str []), (.str [])] [(0, 1), (1, 1)])), [(.t 5), (.t 6)], none⟩,
    ⟨none, none, (.e (.store 2)), [(.t 4), (.t 7)], none⟩])
  (.keep [4] (.keep [4] .ret))))),
  [(.cell 4 (some 2))]⟩
def s13 (call : CallK) (N : Nat) (a0 a1 : V) (H : Heap) (τ : Tape) (q : KV) : Ans :=
  effK (eAlloc [(.str []), (.str [])] [] H τ) fun v0 H1 τ2 =>
  someK (pBuild [(.str []), (.str [])] [(0, 1), (1, 1)] [a0, a1]) fun v3 =>
  effK (eStore 2 [v0, v3] H1 τ2) fun v4 H5 τ6 =>
  someK (results ⟨(T.set .leaf 4 v0), H5⟩ [(.cell 4 (some 2))]) fun v => q v H5 τ6
theorem s13_eq (call : CallK) (N : Nat) (a0 a1 : V) (H : Heap) (τ : Tape) (q : KV) : s13 call N a0 a1 H τ q = funK call N fn13 [a0, a1] H τ q := by kernel_rfl
def e13 (call : CallK) (N : Nat) (vs : List V) (H : Heap) (τ : Tape) (q : KV) : Ans := match vs with | [a0, a1] => s13 call N a0 a1 H τ q | _ => none
theorem e13_ok : EntOk fn13 e13 := by
  intro call N vs H τ q r h
  unfold e13 at h
  split at h
  · rw [s13_eq] at h; exact h
  · cases h
theorem e13_nat : EntNat e13 := by
  intro c hn N vs H τ q
  unfold e13
  split
  · rw [s13_eq, s13_eq]; exact funK_ent hn _ _ _ _ _ _
  · rfl
/-- ostiary/ostiarybook.Same[string] -/
def fn14 : Fun := ⟨2,
  (.seq (.reg [⟨(some 4), none, (.p .mv), [(.c (.bool false))], none⟩])
  (.keep [0, 1] (.seq (.seq (.reg [⟨(some 6), none, (.p .mv), [(.t 0)], none⟩,
    ⟨(some 7), none, (.p .len), [(.t 6)], none⟩,
    ⟨(some 8), none, (.p .mv), [(.t 1)], none⟩,
    ⟨(some 9), none, (.p .len), [(.t 8)], none⟩,
    ⟨(some 10), none, (.p (.bin .neq)), [(.t 7), (.t 9)], none⟩])
  (.keep [0, 1, 10] (.cond (.t 10)
   (.seq (.reg [⟨(some 4), none, (.p .mv), [(.c (.bool false))], none⟩])
   (.keep [4] (.keep [4] .ret)))
   .skip)))
  (.keep [0, 1] (.seq (.seq (.reg [⟨(some 5), none, (.p .mv), [(.c (.int .i64 (.ofNat 0)))], none⟩])
  (.keep [0, 1, 5] (.block 0
   (.loop
    (.keep [0, 1, 5] (.seq (.seq (.reg [⟨(some 11), none, (.p .mv), [(.t 5)], none⟩,
      ⟨(some 12), none, (.p .mv), [(.t 0)], none⟩,
      ⟨(some 13), none, (.p .len), [(.t 12)], none⟩,
      ⟨(some 14), none, (.p (.bin .lss)), [(.t 11), (.t 13)], none⟩])
    (.keep [0, 1, 5, 14] (.cond (.t 14)
     .skip
     (.keep [] (.exit 0)))))
    (.keep [0, 1, 5] (.seq (.block 1
     (.seq (.draw [⟨(some 17), none, (.p .mv), [(.t 0)], none⟩,
       ⟨(some 18), none, (.p .mv), [(.t 5)], none⟩,
       ⟨(some 19), none, (.p (.slIdx 1)), [(.t 17), (.t 18)], none⟩,
       ⟨(some 20), none, (.l (.load none)), [(.t 19)], none⟩,
       ⟨(some 21), none, (.p .mv), [(.t 1)], none⟩,
       ⟨(some 22), none, (.p .mv), [(.t 5)], none⟩,
       ⟨(some 23), none, (.p (.slIdx 1)), [(.t 21), (.t 22)], none⟩,
       ⟨(some 24), none, (.l (.load none)), [(.t 23)], none⟩,
       ⟨(some 25), none, (.p (.bin .neq)), [(.t 20), (.t 24)], none⟩])
     (.keep [0, 1, 5, 25] (.cond (.t 25)
      (.seq (.reg [⟨(some 4), none, (.p .mv), [(.c (.bool false))], none⟩])
      (.keep [4] (.keep [4] .ret)))
      .skip))))
    (.keep [0, 1, 5] (.reg [⟨(some 15), none, (.p .mv), [(.t 5)], none⟩,
      ⟨(some 16), none, (.p (.bin .add)), [(.t 15), (.c (.int .i64 (.ofNat 1)))], none⟩,
      ⟨(some 5), none, (.p .mv), [(.t 16)], none⟩]))))))))))
  (.keep [] (.seq (.reg [⟨(some 4), none, (.p .mv), [(.c (.bool true))], none⟩])
  (.keep [4] (.keep [4] .ret))))))))),
  [(.t 4)]⟩
def s14_j0 (call : CallK) (N : Nat) (q : KV) (st : St) (τ : Tape) : Ans :=
  match st with
  | ⟨fr, H⟩ =>
  q (.bool true) H τ
def s14_l1 (call : CallK) (N : Nat) (st : St) (τ : Tape) (k : KC) : Ans :=
  match st with
  | ⟨fr, H⟩ =>
  getK fr 0 fun t0 =>
  getK fr 1 fun t1 =>
  getK fr 5 fun t5 =>
  someK (pLen [t0]) fun v3 =>
  binK .lss t5 v3 fun v4 =>
  condK v4
    (someK (pSlIdx 1 [t0, t5]) fun v5 =>
  someK (lLoad1 [v5] H) fun v6 =>
  someK (pSlIdx 1 [t1, t5]) fun v7 =>
  someK (lLoad1 [v7] H) fun v8 =>
  binK .neq v6 v8 fun v9 =>
  condK v9
    (k .ret ⟨(T.set .leaf 4 (.bool false)), H⟩ τ)
    (binK .add t5 (.int .i64 (.ofNat 1)) fun v10 =>
  k .normal ⟨(T.set (T.set (T.set (T.set (T.set (T.set .leaf 0 t0) 1 t1) 5 t5) 15 t5) 16 v10) 5 v10), H⟩ τ))
    (k (.exit 0) ⟨.leaf, H⟩ τ)
def s14 (call : CallK) (N : Nat) (a0 a1 : V) (H : Heap) (τ : Tape) (q : KV) : Ans :=
  someK (pLen [a0]) fun v0 =>
  someK (pLen [a1]) fun v1 =>
  binK .neq v0 v1 fun v2 =>
  condK v2
    (q (.bool false) H τ)
    (loopK (s14_l1 call N) N ⟨(T.set (T.set (T.set .leaf 0 a0) 1 a1) 5 (.int .i64 (.ofNat 0))), H⟩ τ (blockK 0 (seqK (s14_j0 call N q) (endK [(.t 4)] q))))
theorem s14_eq (call : CallK) (N : Nat) (a0 a1 : V) (H : Heap) (τ : Tape) (q : KV) : s14 call N a0 a1 H τ q = funK call N fn14 [a0, a1] H τ q := by kernel_rfl
def e14 (call : CallK) (N : Nat) (vs : List V) (H : Heap) (τ : Tape) (q : KV) : Ans := match vs with | [a0, a1] => s14 call N a0 a1 H τ q | _ => none
theorem e14_ok : EntOk fn14 e14 := by
  intro call N vs H τ q r h
  unfold e14 at h
  split at h
  · rw [s14_eq] at h; exact h
  · cases h
theorem e14_nat : EntNat e14 := by
  intro c hn N vs H τ q
  unfold e14
  split
  · rw [s14_eq, s14_eq]; exact funK_ent hn _ _ _ _ _ _
  · rfl
/-- ostiary/ostiarybook.Within -/
def fn15 : Fun := ⟨3,
  (.seq (.reg [⟨(some 6), none, (.p .mv), [(.c (.int .i64 (.ofNat 0)))], none⟩])
  (.keep [0, 1, 2] (.seq (.reg [⟨(some 7), none, (.p .mv), [(.t 0)], none⟩,
    ⟨(some 8), none, (.p .mv), [(.t 2)], none⟩,
    ⟨(some 9), none, (.p .mv), [(.t 1)], none⟩,
    ⟨(some 10), none, (.p (.bin .sub)), [(.t 8), (.t 9)], none⟩,
    ⟨(some 11), none, (.p (.bin .add)), [(.t 10), (.c (.int .i64 (.ofNat 1)))], none⟩,
    ⟨(some 12), none, (.p (.bin .rem)), [(.t 7), (.t 11)], none⟩,
    ⟨(some 0), none, (.p .mv), [(.t 12)], none⟩])
  (.keep [0, 1, 2] (.seq (.seq (.reg [⟨(some 13), none, (.p .mv), [(.t 0)], none⟩,
    ⟨(some 14), none, (.p (.bin .lss)), [(.t 13), (.c (.int .i64 (.ofNat 0)))], none⟩])
  (.keep [0, 1, 2, 14] (.cond (.t 14)
   (.reg [⟨(some 15), none, (.p .mv), [(.t 0)], none⟩,
     ⟨(some 16), none, (.p .mv), [(.t 2)], none⟩,
     ⟨(some 17), none, (.p (.bin .add)), [(.t 15), (.t 16)], none⟩,
     ⟨(some 18), none, (.p .mv), [(.t 1)], none⟩,
     ⟨(some 19), none, (.p (.bin .sub)), [(.t 17), (.t 18)], none⟩,
     ⟨(some 20), none, (.p (.bin .add)), [(.t 19), (.c (.int .i64 (.ofNat 1)))], none⟩,
     ⟨(some 0), none, (.p .mv), [(.t 20)], none⟩])
   .skip)))
  (.keep [0, 1] (.seq (.reg [⟨(some 21), none, (.p .mv), [(.t 1)], none⟩,
    ⟨(some 22), none, (.p .mv), [(.t 0)], none⟩,
    ⟨(some 23), none, (.p (.bin .add)), [(.t 21), (.t 22)], none⟩,
    ⟨(some 6), none, (.p .mv), [(.t 23)], none⟩])
  (.keep [6] (.keep [6] .ret))))))))),
  [(.t 6)]⟩
def s15_j0 (call : CallK) (N : Nat) (q : KV) (st : St) (τ : Tape) : Ans :=
  match st with
  | ⟨fr, H⟩ =>
  getK fr 0 fun t0 =>
  getK fr 1 fun t1 =>
  binK .add t1 t0 fun v4 =>
  q v4 H τ
def s15 (call : CallK) (N : Nat) (a0 a1 a2 : V) (H : Heap) (τ : Tape) (q : KV) : Ans :=
  binK .sub a2 a1 fun v0 =>
  binK .add v0 (.int .i64 (.ofNat 1)) fun v1 =>
  binK .rem a0 v1 fun v2 =>
  binK .lss v2 (.int .i64 (.ofNat 0)) fun v3 =>
  condK v3
    (binK .add v2 a2 fun v5 =>
  binK .sub v5 a1 fun v6 =>
  binK .add v6 (.int .i64 (.ofNat 1)) fun v7 =>
  s15_j0 call N q ⟨(T.set (T.set (T.set (T.set (T.set (T.set (T.set (T.set (T.set (T.set (T.set .leaf 0 v2) 1 a1) 2 a2) 14 v3) 15 v2) 16 a2) 17 v5) 18 a1) 19 v6) 20 v7) 0 v7), H⟩ τ)
    (s15_j0 call N q ⟨(T.set (T.set (T.set (T.set .leaf 0 v2) 1 a1) 2 a2) 14 v3), H⟩ τ)
theorem s15_eq (call : CallK) (N : Nat) (a0 a1 a2 : V) (H : Heap) (τ : Tape) (q : KV) : s15 call N a0 a1 a2 H τ q = funK call N fn15 [a0, a1, a2] H τ q := by kernel_rfl
def e15 (call : CallK) (N : Nat) (vs : List V) (H : Heap) (τ : Tape) (q : KV) : Ans := match vs with | [a0, a1, a2] => s15 call N a0 a1 a2 H τ q | _ => none
theorem e15_ok : EntOk fn15 e15 := by
  intro call N vs H τ q r h
  unfold e15 at h
  split at h
  · rw [s15_eq] at h; exact h
  · cases h
theorem e15_nat : EntNat e15 := by
  intro c hn N vs H τ q
  unfold e15
  split
  · rw [s15_eq, s15_eq]; exact funK_ent hn _ _ _ _ _ _
  · rfl
/-- ostiary/ostiarylaw5.digits -/
def fn16 : Fun := ⟨1,
  (.seq (.reg [⟨(some 2), none, (.p .mv), [(.c (.str []))], none⟩])
  (.keep [0] (.seq (.reg [⟨(some 3), none, (.p .mv), [(.c (.str []))], none⟩])
  (.keep [0, 3] (.seq (.block 0
   (.loop
    (.keep [0, 3] (.seq (.seq (.reg [⟨(some 5), none, (.p .mv), [(.t 0)], none⟩,
      ⟨(some 6), none, (.p (.bin .gtr)), [(.t 5), (.c (.int .i64 (.ofNat 0)))], none⟩,
      ⟨(some 7), none, (.p .mv), [(.t 6)], none⟩,
      ⟨(some 8), some (7, false), (.p .mv), [(.t 3)], none⟩,
      ⟨(some 9), some (7, false), (.p (.bin .eql)), [(.t 8), (.c (.str []))], none⟩,
      ⟨(some 10), none, (.p .pick), [(.t 7), (.c (.bool true)), (.t 9)], none⟩])
    (.keep [0, 3, 10] (.cond (.t 10)
     .skip
     (.keep [3] (.exit 0)))))
    (.keep [0, 3] (.block 1
     (.seq (.reg [⟨(some 11), none, (.p .mv), [(.t 0)], none⟩,
       ⟨(some 12), none, (.p (.bin .rem)), [(.t 11), (.c (.int .i64 (.ofNat 10)))], none⟩,
       ⟨(some 4), none, (.p .mv), [(.t 12)], none⟩])
     (.keep [0, 3, 4] (.seq (.reg [⟨(some 13), none, (.p .mv), [(.t 4)], none⟩,
       ⟨(some 14), none, (.p .mv), [(.t 4)], none⟩,
       ⟨(some 15), none, (.p (.bin .add)), [(.t 14), (.c (.int .i64 (.ofNat 1)))], none⟩,
       ⟨(some 16), none, (.p (.strSlice true true)), [(.c (.str (bs [48, 49, 50, 51, 52, 53, 54, 55, 56, 57]))), (.t 13), (.t 15)], none⟩,
       ⟨(some 17), none, (.p .mv), [(.t 3)], none⟩,
       ⟨(some 18), none, (.p (.bin .add)), [(.t 16), (.t 17)], none⟩,
       ⟨(some 3), none, (.p .mv), [(.t 18)], none⟩])
     (.keep [0, 3] (.reg [⟨(some 19), none, (.p .mv), [(.t 0)], none⟩,
       ⟨(some 20), none, (.p (.bin .quo)), [(.t 19), (.c (.int .i64 (.ofNat 10)))], none⟩,
       ⟨(some 0), none, (.p .mv), [(.t 20)], none⟩])))))))))))
  (.keep [3] (.seq (.reg [⟨(some 21), none, (.p .mv), [(.t 3)], none⟩,
    ⟨(some 2), none, (.p .mv), [(.t 21)], none⟩])
  (.keep [2] (.keep [2] .ret))))))))),
  [(.t 2)]⟩
def s16_j0 (call : CallK) (N : Nat) (q : KV) (st : St) (τ : Tape) : Ans :=
  match st with
  | ⟨fr, H⟩ =>
  getK fr 3 fun t3 =>
  q t3 H τ
def s16_l1 (call : CallK) (N : Nat) (st : St) (τ : Tape) (k : KC) : Ans :=
  match st with
  | ⟨fr, H⟩ =>
  getK fr 0 fun t0 =>
  getK fr 3 fun t3 =>
  binK .gtr t0 (.int .i64 (.ofNat 0)) fun v0 =>
  gK v0 false (fun q' => q' t3 H τ) H τ fun v1 H2 τ3 =>
  gK v0 false (fun q' => binK .eql v1 (.str []) fun v => q' v H2 τ3) H2 τ3 fun v4 H5 τ6 =>
  someK (pPick [v0, (.bool true), v4]) fun v7 =>
  condK v7
    (binK .rem t0 (.int .i64 (.ofNat 10)) fun v8 =>
  binK .add v8 (.int .i64 (.ofNat 1)) fun v9 =>
  someK (pStrSlice true true [(.str (bs [48, 49, 50, 51, 52, 53, 54, 55, 56, 57])), v8, v9]) fun v10 =>
  binK .add v10 t3 fun v11 =>
  binK .quo t0 (.int .i64 (.ofNat 10)) fun v12 =>
  k .normal ⟨(T.set (T.set (T.set (T.set (T.set .leaf 0 t0) 3 v11) 19 t0) 20 v12) 0 v12), H5⟩ τ6)
    (k (.exit 0) ⟨(T.set .leaf 3 t3), H5⟩ τ6)
def s16 (call : CallK) (N : Nat) (a0 : V) (H : Heap) (τ : Tape) (q : KV) : Ans :=
  loopK (s16_l1 call N) N ⟨(T.set (T.set .leaf 0 a0) 3 (.str [])), H⟩ τ (blockK 0 (seqK (s16_j0 call N q) (endK [(.t 2)] q)))
theorem s16_eq (call : CallK) (N : Nat) (a0 : V) (H : Heap) (τ : Tape) (q : KV) : s16 call N a0 H τ q = funK call N fn16 [a0] H τ q := by kernel_rfl
def e16 (call : CallK) (N : Nat) (vs : List V) (H : Heap) (τ : Tape) (q : KV) : Ans := match vs with | [a0] => s16 call N a0 H τ q | _ => none
theorem e16_ok : EntOk fn16 e16 := by
  intro call N vs H τ q r h
  unfold e16 at h
  split at h
  · rw [s16_eq] at h; exact h
  · cases h
theorem e16_nat : EntNat e16 := by
  intro c hn N vs H τ q
  unfold e16
  split
  · rw [s16_eq, s16_eq]; exact funK_ent hn _ _ _ _ _ _
  · rfl
/-- ostiary/headers.Range -/
def fn17 : Fun := ⟨1,
  (.seq (.reg [⟨(some 2), none, (.p .mv), [(.c (.int .i64 (.ofNat 0)))], none⟩,
    ⟨(some 3), none, (.p .mv), [(.c (.int .i64 (.ofNat 0)))], none⟩,
    ⟨(some 4), none, (.p .mv), [(.c (.bool false))], none⟩])
  (.keep [0] (.seq (.reg [⟨(some 15), none, (.p .mv), [(.t 0)], none⟩,
    ⟨(some 16), none, (.call 36), [(.t 15), (.c (.str (bs [98, 121, 116, 101, 115, 61])))], none⟩,
    ⟨(some 14), none, (.p .mv), [(.t 16)], none⟩,
    ⟨(some 17), none, (.p (.extract 0)), [(.t 14)], none⟩,
    ⟨(some 18), none, (.p (.extract 1)), [(.t 14)], none⟩,
    ⟨(some 5), none, (.p .mv), [(.t 17)], none⟩,
    ⟨(some 6), none, (.p .mv), [(.t 18)], none⟩])
  (.keep [5, 6] (.seq (.reg [⟨(some 20), none, (.p .mv), [(.t 5)], none⟩,
    ⟨(some 21), none, (.call 37), [(.t 20), (.c (.str (bs [45])))], none⟩,
    ⟨(some 19), none, (.p .mv), [(.t 21)], none⟩,
    ⟨(some 22), none, (.p (.extract 0)), [(.t 19)], none⟩,
    ⟨(some 23), none, (.p (.extract 1)), [(.t 19)], none⟩,
    ⟨(some 24), none, (.p (.extract 2)), [(.t 19)], none⟩,
    ⟨(some 7), none, (.p .mv), [(.t 22)], none⟩,
    ⟨(some 8), none, (.p .mv), [(.t 23)], none⟩,
    ⟨(some 9), none, (.p .mv), [(.t 24)], none⟩])
  (.keep [6, 7, 8, 9] (.seq (.reg [⟨(some 26), none, (.p .mv), [(.t 7)], none⟩,
    ⟨(some 27), none, (.call 38), [(.t 26)], none⟩,
    ⟨(some 25), none, (.p .mv), [(.t 27)], none⟩,
    ⟨(some 28), none, (.p (.extract 0)), [(.t 25)], none⟩,
    ⟨(some 29), none, (.p (.extract 1)), [(.t 25)], none⟩,
    ⟨(some 10), none, (.p .mv), [(.t 28)], none⟩,
    ⟨(some 11), none, (.p .mv), [(.t 29)], none⟩])
  (.keep [6, 8, 9, 10, 11] (.seq (.reg [⟨(some 31), none, (.p .mv), [(.t 8)], none⟩,
    ⟨(some 32), none, (.call 38), [(.t 31)], none⟩,
    ⟨(some 30), none, (.p .mv), [(.t 32)], none⟩,
    ⟨(some 33), none, (.p (.extract 0)), [(.t 30)], none⟩,
    ⟨(some 34), none, (.p (.extract 1)), [(.t 30)], none⟩,
    ⟨(some 12), none, (.p .mv), [(.t 33)], none⟩,
    ⟨(some 13), none, (.p .mv), [(.t 34)], none⟩])
  (.keep [6, 9, 10, 11, 12, 13] (.seq (.seq (.reg [⟨(some 35), none, (.p .mv), [(.t 6)], none⟩,
    ⟨(some 36), none, (.p (.un .not)), [(.t 35)], none⟩,
    ⟨(some 37), none, (.p .mv), [(.t 36)], none⟩,
    ⟨(some 38), some (37, false), (.p .mv), [(.t 9)], none⟩,
    ⟨(some 39), some (37, false), (.p (.un .not)), [(.t 38)], none⟩,
    ⟨(some 40), none, (.p .pick), [(.t 37), (.c (.bool true)), (.t 39)], none⟩,
    ⟨(some 41), none, (.p .mv), [(.t 40)], none⟩,
    ⟨(some 42), some (41, false), (.p .mv), [(.t 11)], none⟩,
    ⟨(some 43), some (41, false), (.p (.un .not)), [(.t 42)], none⟩,
    ⟨(some 44), none, (.p .pick), [(.t 41), (.c (.bool true)), (.t 43)], none⟩,
    ⟨(some 45), none, (.p .mv), [(.t 44)], none⟩,
    ⟨(some 46), some (45, false), (.p .mv), [(.t 13)], none⟩,
    ⟨(some 47), some (45, false), (.p (.un .not)), [(.t 46)], none⟩,
    ⟨(some 48), none, (.p .pick), [(.t 45), (.c (.bool true)), (.t 47)], none⟩,
    ⟨(some 49), none, (.p .mv), [(.t 48)], none⟩,
    ⟨(some 50), some (49, false), (.p .mv), [(.t 10)], none⟩,
    ⟨(some 51), some (49, false), (.p (.bin .lss)), [(.t 50), (.c (.int .i64 (.ofNat 0)))], none⟩,
    ⟨(some 52), some (49, false), (.p .mv), [(.t 51)], none⟩,
    ⟨(some 53), some (52, true), (.p .mv), [(.t 12)], none⟩,
    ⟨(some 54), some (52, true), (.p (.bin .lss)), [(.t 53), (.c (.int .i64 (.ofNat 0)))], none⟩,
    ⟨(some 55), some (49, false), (.p .pick), [(.t 52), (.t 54), (.c (.bool false))], none⟩,
    ⟨(some 56), none, (.p .pick), [(.t 49), (.c (.bool true)), (.t 55)], none⟩,
    ⟨(some 57), none, (.p .mv), [(.t 56)], none⟩,
    ⟨(some 58), some (57, false), (.p .mv), [(.t 10)], none⟩,
    ⟨(some 59), some (57, false), (.p (.bin .geq)), [(.t 58), (.c (.int .i64 (.ofNat 0)))], none⟩,
    ⟨(some 60), some (57, false), (.p .mv), [(.t 59)], none⟩,
    ⟨(some 61), some (60, true), (.p .mv), [(.t 12)], none⟩,
    ⟨(some 62), some (60, true), (.p (.bin .geq)), [(.t 61), (.c (.int .i64 (.ofNat 0)))], none⟩,
    ⟨(some 63), some (57, false), (.p .pick), [(.t 60), (.t 62), (.c (.bool false))], none⟩,
    ⟨(some 64), some (57, false), (.p .mv), [(.t 63)], none⟩,
    ⟨(some 65), some (64, true), (.p .mv), [(.t 10)], none⟩,
    ⟨(some 66), some (64, true), (.p .mv), [(.t 12)], none⟩,
    ⟨(some 67), some (64, true), (.p (.bin .gtr)), [(.t 65), (.t 66)], none⟩,
    ⟨(some 68), some (57, false), (.p .pick), [(.t 64), (.t 67), (.c (.bool false))], none⟩,
    ⟨(some 69), none, (.p .pick), [(.t 57), (.c (.bool true)), (.t 68)], none⟩])
  (.keep [10, 12, 69] (.cond (.t 69)
   (.seq (.reg [⟨(some 2), none, (.p .mv), [(.c (.int .i64 (.ofNat 0)))], none⟩,
     ⟨(some 3), none, (.p .mv), [(.c (.int .i64 (.ofNat 0)))], none⟩,
     ⟨(some 4), none, (.p .mv), [(.c (.bool false))], none⟩])
   (.keep [2, 3, 4] (.keep [2, 3, 4] .ret)))
   .skip)))
  (.keep [10, 12] (.seq (.reg [⟨(some 70), none, (.p .mv), [(.t 10)], none⟩,
    ⟨(some 71), none, (.p .mv), [(.t 12)], none⟩,
    ⟨(some 2), none, (.p .mv), [(.t 70)], none⟩,
    ⟨(some 3), none, (.p .mv), [(.t 71)], none⟩,
    ⟨(some 4), none, (.p .mv), [(.c (.bool true))], none⟩])
  (.keep [2, 3, 4] (.keep [2, 3, 4] .ret))))))))))))))),
  [(.t 2), (.t 3), (.t 4)]⟩
def s17 (call : CallK) (N : Nat) (a0 : V) (H : Heap) (τ : Tape) (q : KV) : Ans :=
  call 36 [a0, (.str (bs [98, 121, 116, 101, 115, 61]))] H τ fun v0 H1 τ2 =>
  someK (pExtract 0 [v0]) fun v3 =>
  someK (pExtract 1 [v0]) fun v4 =>
  call 37 [v3, (.str (bs [45]))] H1 τ2 fun v5 H6 τ7 =>
  someK (pExtract 0 [v5]) fun v8 =>
  someK (pExtract 1 [v5]) fun v9 =>
  someK (pExtract 2 [v5]) fun v10 =>
  call 38 [v8] H6 τ7 fun v11 H12 τ13 =>
  someK (pExtract 0 [v11]) fun v14 =>
  someK (pExtract 1 [v11]) fun v15 =>
  call 38 [v9] H12 τ13 fun v16 H17 τ18 =>
  someK (pExtract 0 [v16]) fun v19 =>
  someK (pExtract 1 [v16]) fun v20 =>
  unK .not v4 fun v21 =>
  gK v21 false (fun q' => q' v10 H17 τ18) H17 τ18 fun v22 H23 τ24 =>
  gK v21 false (fun q' => unK .not v22 fun v => q' v H23 τ24) H23 τ24 fun v25 H26 τ27 =>
  someK (pPick [v21, (.bool true), v25]) fun v28 =>
  gK v28 false (fun q' => q' v15 H26 τ27) H26 τ27 fun v29 H30 τ31 =>
  gK v28 false (fun q' => unK .not v29 fun v => q' v H30 τ31) H30 τ31 fun v32 H33 τ34 =>
  someK (pPick [v28, (.bool true), v32]) fun v35 =>
  gK v35 false (fun q' => q' v20 H33 τ34) H33 τ34 fun v36 H37 τ38 =>
  gK v35 false (fun q' => unK .not v36 fun v => q' v H37 τ38) H37 τ38 fun v39 H40 τ41 =>
  someK (pPick [v35, (.bool true), v39]) fun v42 =>
  gK v42 false (fun q' => q' v14 H40 τ41) H40 τ41 fun v43 H44 τ45 =>
  gK v42 false (fun q' => binK .lss v43 (.int .i64 (.ofNat 0)) fun v => q' v H44 τ45) H44 τ45 fun v46 H47 τ48 =>
  gK v42 false (fun q' => q' v46 H47 τ48) H47 τ48 fun v49 H50 τ51 =>
  gK v49 true (fun q' => q' v19 H50 τ51) H50 τ51 fun v52 H53 τ54 =>
  gK v49 true (fun q' => binK .lss v52 (.int .i64 (.ofNat 0)) fun v => q' v H53 τ54) H53 τ54 fun v55 H56 τ57 =>
  gK v42 false (fun q' => someK (pPick [v49, v55, (.bool false)]) fun v => q' v H56 τ57) H56 τ57 fun v58 H59 τ60 =>
  someK (pPick [v42, (.bool true), v58]) fun v61 =>
  gK v61 false (fun q' => q' v14 H59 τ60) H59 τ60 fun v62 H63 τ64 =>
  gK v61 false (fun q' => binK .geq v62 (.int .i64 (.ofNat 0)) fun v => q' v H63 τ64) H63 τ64 fun v65 H66 τ67 =>
  gK v61 false (fun q' => q' v65 H66 τ67) H66 τ67 fun v68 H69 τ70 =>
  gK v68 true (fun q' => q' v19 H69 τ70) H69 τ70 fun v71 H72 τ73 =>
  gK v68 true (fun q' => binK .geq v71 (.int .i64 (.ofNat 0)) fun v => q' v H72 τ73) H72 τ73 fun v74 H75 τ76 =>
  gK v61 false (fun q' => someK (pPick [v68, v74, (.bool false)]) fun v => q' v H75 τ76) H75 τ76 fun v77 H78 τ79 =>
  gK v61 false (fun q' => q' v77 H78 τ79) H78 τ79 fun v80 H81 τ82 =>
  gK v80 true (fun q' => q' v14 H81 τ82) H81 τ82 fun v83 H84 τ85 =>
  gK v80 true (fun q' => q' v19 H84 τ85) H84 τ85 fun v86 H87 τ88 =>
  gK v80 true (fun q' => binK .gtr v83 v86 fun v => q' v H87 τ88) H87 τ88 fun v89 H90 τ91 =>
  gK v61 false (fun q' => someK (pPick [v80, v89, (.bool false)]) fun v => q' v H90 τ91) H90 τ91 fun v92 H93 τ94 =>
  someK (pPick [v61, (.bool true), v92]) fun v95 =>
  condK v95
    (q (.tup [(.int .i64 (.ofNat 0)), (.int .i64 (.ofNat 0)), (.bool false)]) H93 τ94)
    (q (.tup [v14, v19, (.bool true)]) H93 τ94)
theorem s17_eq (call : CallK) (N : Nat) (a0 : V) (H : Heap) (τ : Tape) (q : KV) : s17 call N a0 H τ q = funK call N fn17 [a0] H τ q := by kernel_rfl
def e17 (call : CallK) (N : Nat) (vs : List V) (H : Heap) (τ : Tape) (q : KV) : Ans := match vs with | [a0] => s17 call N a0 H τ q | _ => none
theorem e17_ok : EntOk fn17 e17 := by
  intro call N vs H τ q r h
  unfold e17 at h
  split at h
  · rw [s17_eq] at h; exact h
  · cases h
theorem e17_nat : EntNat e17 := by
  intro c hn N vs H τ q
  unfold e17
  split
  · rw [s17_eq, s17_eq]; exact funK_ent hn _ _ _ _ _ _
  · rfl
/-- ostiary/headers.Safe -/
def fn18 : Fun := ⟨2,
  (.seq (.reg [⟨(some 4), none, (.p .mv), [(.c (.bool false))], none⟩])
  (.keep [0, 1] (.seq (.seq (.reg [⟨(some 11), none, (.p .mv), [(.t 1)], none⟩,
    ⟨(some 12), none, (.p .lenS), [(.t 11)], none⟩,
    ⟨(some 13), none, (.p (.bin .gtr)), [(.t 12), (.c (.int .i64 (.ofNat 128)))], none⟩])
  (.keep [0, 1, 13] (.cond (.t 13)
   (.seq (.reg [⟨(some 4), none, (.p .mv), [(.c (.bool false))], none⟩])
   (.keep [4] (.keep [4] .ret)))
   .skip)))
  (.keep [0, 1] (.seq (.seq (.reg [⟨(some 14), none, (.p .mv), [(.t 0)], none⟩,
    ⟨(some 15), none, (.call 39), [(.t 14)], none⟩])
  (.keep [1, 15] (.block 0
   (.seq (.reg [⟨(some 17), none, (.p (.bin .eql)), [(.t 15), (.c (.str (bs [97, 99, 99, 101, 112, 116])))], none⟩,
     ⟨(some 16), none, (.p .mv), [(.t 17)], none⟩])
   (.keep [1, 15, 16] (.cond (.t 16)
    (.seq (.reg [⟨(some 18), none, (.p .mv), [(.t 1)], none⟩,
      ⟨(some 19), none, (.call 40), [(.t 18)], none⟩,
      ⟨(some 20), none, (.p (.un .not)), [(.t 19)], none⟩,
      ⟨(some 4), none, (.p .mv), [(.t 20)], none⟩])
    (.keep [4] (.keep [4] .ret)))
    (.seq (.seq (.reg [⟨(some 22), none, (.p (.bin .eql)), [(.t 15), (.c (.str (bs [97, 99, 99, 101, 112, 116, 45, 108, 97, 110, 103, 117, 97, 103, 101])))], none⟩,
      ⟨(some 21), none, (.p .mv), [(.t 22)], none⟩])
    (.keep [1, 15, 21] (.cond (.t 21)
     .skip
     (.reg [⟨(some 23), none, (.p (.bin .eql)), [(.t 15), (.c (.str (bs [99, 111, 110, 116, 101, 110, 116, 45, 108, 97, 110, 103, 117, 97, 103, 101])))], none⟩,
       ⟨(some 21), none, (.p .mv), [(.t 23)], none⟩]))))
    (.keep [1, 15, 21] (.cond (.t 21)
     (.seq (.reg [⟨(some 24), none, (.p .mv), [(.t 1)], none⟩,
       ⟨(some 25), none, (.call 41), [(.t 24)], none⟩,
       ⟨(some 4), none, (.p .mv), [(.t 25)], none⟩])
     (.keep [4] (.keep [4] .ret)))
     (.seq (.reg [⟨(some 27), none, (.p (.bin .eql)), [(.t 15), (.c (.str (bs [99, 111, 110, 116, 101, 110, 116, 45, 116, 121, 112, 101])))], none⟩,
       ⟨(some 26), none, (.p .mv), [(.t 27)], none⟩])
     (.keep [1, 15, 26] (.cond (.t 26)
      (.seq (.reg [⟨(some 29), none, (.p .mv), [(.t 1)], none⟩,
        ⟨(some 30), none, (.call 37), [(.t 29), (.c (.str (bs [59])))], none⟩,
        ⟨(some 28), none, (.p .mv), [(.t 30)], none⟩,
        ⟨(some 31), none, (.p (.extract 0)), [(.t 28)], none⟩,
        ⟨(some 32), none, (.p (.extract 1)), [(.t 28)], none⟩,
        ⟨(some 33), none, (.p (.extract 2)), [(.t 28)], none⟩,
        ⟨(some 5), none, (.p .mv), [(.t 31)], none⟩,
        ⟨(some 6), none, (.p .mv), [(.t 32)], none⟩,
        ⟨(some 7), none, (.p .mv), [(.t 33)], none⟩])
      (.keep [1, 5] (.seq (.reg [⟨(some 34), none, (.p .mv), [(.t 5)], none⟩,
        ⟨(some 35), none, (.call 42), [(.t 34)], none⟩,
        ⟨(some 36), none, (.call 39), [(.t 35)], none⟩])
      (.keep [1, 36] (.block 1
       (.seq (.seq (.reg [⟨(some 38), none, (.p (.bin .eql)), [(.t 36), (.c (.str (bs [97, 112, 112, 108, 105, 99, 97, 116, 105, 111, 110, 47, 120, 45, 119, 119, 119, 45, 102, 111, 114, 109, 45, 117, 114, 108, 101, 110, 99, 111, 100, 101, 100])))], none⟩,
         ⟨(some 37), none, (.p .mv), [(.t 38)], none⟩])
       (.keep [1, 36, 37] (.cond (.t 37)
        .skip
        (.seq (.reg [⟨(some 39), none, (.p (.bin .eql)), [(.t 36), (.c (.str (bs [109, 117, 108, 116, 105, 112, 97, 114, 116, 47, 102, 111, 114, 109, 45, 100, 97, 116, 97])))], none⟩,
          ⟨(some 37), none, (.p .mv), [(.t 39)], none⟩])
        (.keep [1, 36, 37] (.cond (.t 37)
         .skip
         (.reg [⟨(some 40), none, (.p (.bin .eql)), [(.t 36), (.c (.str (bs [116, 101, 120, 116, 47, 112, 108, 97, 105, 110])))], none⟩,
           ⟨(some 37), none, (.p .mv), [(.t 40)], none⟩])))))))
       (.keep [1, 37] (.cond (.t 37)
        (.seq (.reg [⟨(some 41), none, (.p .mv), [(.t 1)], none⟩,
          ⟨(some 42), none, (.call 40), [(.t 41)], none⟩,
          ⟨(some 43), none, (.p (.un .not)), [(.t 42)], none⟩,
          ⟨(some 4), none, (.p .mv), [(.t 43)], none⟩])
        (.keep [4] (.keep [4] .ret)))
        .skip))))))))
      (.seq (.reg [⟨(some 45), none, (.p (.bin .eql)), [(.t 15), (.c (.str (bs [114, 97, 110, 103, 101])))], none⟩,
        ⟨(some 44), none, (.p .mv), [(.t 45)], none⟩])
      (.keep [1, 44] (.cond (.t 44)
       (.seq (.reg [⟨(some 47), none, (.p .mv), [(.t 1)], none⟩,
         ⟨(some 48), none, (.call 17), [(.t 47)], none⟩,
         ⟨(some 46), none, (.p .mv), [(.t 48)], none⟩,
         ⟨(some 49), none, (.p (.extract 0)), [(.t 46)], none⟩,
         ⟨(some 50), none, (.p (.extract 1)), [(.t 46)], none⟩,
         ⟨(some 51), none, (.p (.extract 2)), [(.t 46)], none⟩,
         ⟨(some 8), none, (.p .mv), [(.t 49)], none⟩,
         ⟨(some 9), none, (.p .mv), [(.t 50)], none⟩,
         ⟨(some 10), none, (.p .mv), [(.t 51)], none⟩])
       (.keep [8, 10] (.seq (.reg [⟨(some 52), none, (.p .mv), [(.t 10)], none⟩,
         ⟨(some 53), none, (.p .mv), [(.t 52)], none⟩,
         ⟨(some 54), some (53, true), (.p .mv), [(.t 8)], none⟩,
         ⟨(some 55), some (53, true), (.p (.bin .geq)), [(.t 54), (.c (.int .i64 (.ofNat 0)))], none⟩,
         ⟨(some 56), none, (.p .pick), [(.t 53), (.t 55), (.c (.bool false))], none⟩,
         ⟨(some 4), none, (.p .mv), [(.t 56)], none⟩])
       (.keep [4] (.keep [4] .ret)))))
       .skip)))))))))))))))
  (.keep [] (.seq (.reg [⟨(some 4), none, (.p .mv), [(.c (.bool false))], none⟩])
  (.keep [4] (.keep [4] .ret))))))))),
  [(.t 4)]⟩
def s18_j0 (call : CallK) (N : Nat) (q : KV) (st : St) (τ : Tape) : Ans :=
  match st with
  | ⟨fr, H⟩ =>
  q (.bool false) H τ
def s18_j2 (call : CallK) (N : Nat) (q : KV) (st : St) (τ : Tape) : Ans :=
  match st with
  | ⟨fr, H⟩ =>
  getK fr 1 fun t1 =>
  getK fr 37 fun t37 =>
  condK t37
    (call 40 [t1] H τ fun v28 H29 τ30 =>
  unK .not v28 fun v31 =>
  q v31 H29 τ30)
    (s18_j0 call N q ⟨(T.set (T.set .leaf 1 t1) 37 t37), H⟩ τ)
def s18_j1 (call : CallK) (N : Nat) (q : KV) (st : St) (τ : Tape) : Ans :=
  match st with
  | ⟨fr, H⟩ =>
  getK fr 1 fun t1 =>
  getK fr 15 fun t15 =>
  getK fr 21 fun t21 =>
  condK t21
    (call 41 [t1] H τ fun v11 H12 τ13 =>
  q v11 H12 τ13)
    (binK .eql t15 (.str (bs [99, 111, 110, 116, 101, 110, 116, 45, 116, 121, 112, 101])) fun v14 =>
  condK v14
    (call 37 [t1, (.str (bs [59]))] H τ fun v15 H16 τ17 =>
  someK (pExtract 0 [v15]) fun v18 =>
  someK (pExtract 1 [v15]) fun v19 =>
  someK (pExtract 2 [v15]) fun v20 =>
  call 42 [v18] H16 τ17 fun v21 H22 τ23 =>
  call 39 [v21] H22 τ23 fun v24 H25 τ26 =>
  binK .eql v24 (.str (bs [97, 112, 112, 108, 105, 99, 97, 116, 105, 111, 110, 47, 120, 45, 119, 119, 119, 45, 102, 111, 114, 109, 45, 117, 114, 108, 101, 110, 99, 111, 100, 101, 100])) fun v27 =>
  condK v27
    (s18_j2 call N q ⟨(T.set (T.set (T.set .leaf 1 t1) 36 v24) 37 v27), H25⟩ τ26)
    (binK .eql v24 (.str (bs [109, 117, 108, 116, 105, 112, 97, 114, 116, 47, 102, 111, 114, 109, 45, 100, 97, 116, 97])) fun v32 =>
  condK v32
    (s18_j2 call N q ⟨(T.set (T.set (T.set .leaf 1 t1) 36 v24) 37 v32), H25⟩ τ26)
    (binK .eql v24 (.str (bs [116, 101, 120, 116, 47, 112, 108, 97, 105, 110])) fun v33 =>
  s18_j2 call N q ⟨(T.set (T.set (T.set (T.set (T.set .leaf 1 t1) 36 v24) 37 v32) 40 v33) 37 v33), H25⟩ τ26)))
    (binK .eql t15 (.str (bs [114, 97, 110, 103, 101])) fun v34 =>
  condK v34
    (call 17 [t1] H τ fun v35 H36 τ37 =>
  someK (pExtract 0 [v35]) fun v38 =>
  someK (pExtract 1 [v35]) fun v39 =>
  someK (pExtract 2 [v35]) fun v40 =>
  gK v40 true (fun q' => q' v38 H36 τ37) H36 τ37 fun v41 H42 τ43 =>
  gK v40 true (fun q' => binK .geq v41 (.int .i64 (.ofNat 0)) fun v => q' v H42 τ43) H42 τ43 fun v44 H45 τ46 =>
  someK (pPick [v40, v44, (.bool false)]) fun v47 =>
  q v47 H45 τ46)
    (s18_j0 call N q ⟨(T.set (T.set .leaf 1 t1) 44 v34), H⟩ τ)))
def s18 (call : CallK) (N : Nat) (a0 a1 : V) (H : Heap) (τ : Tape) (q : KV) : Ans :=
  someK (pLenS [a1]) fun v0 =>
  binK .gtr v0 (.int .i64 (.ofNat 128)) fun v1 =>
  condK v1
    (q (.bool false) H τ)
    (call 39 [a0] H τ fun v2 H3 τ4 =>
  binK .eql v2 (.str (bs [97, 99, 99, 101, 112, 116])) fun v5 =>
  condK v5
    (call 40 [a1] H3 τ4 fun v6 H7 τ8 =>
  unK .not v6 fun v9 =>
  q v9 H7 τ8)
    (binK .eql v2 (.str (bs [97, 99, 99, 101, 112, 116, 45, 108, 97, 110, 103, 117, 97, 103, 101])) fun v10 =>
  condK v10
    (s18_j1 call N q ⟨(T.set (T.set (T.set .leaf 1 a1) 15 v2) 21 v10), H3⟩ τ4)
    (binK .eql v2 (.str (bs [99, 111, 110, 116, 101, 110, 116, 45, 108, 97, 110, 103, 117, 97, 103, 101])) fun v48 =>
  s18_j1 call N q ⟨(T.set (T.set (T.set (T.set (T.set .leaf 1 a1) 15 v2) 21 v10) 23 v48) 21 v48), H3⟩ τ4)))
theorem s18_eq (call : CallK) (N : Nat) (a0 a1 : V) (H : Heap) (τ : Tape) (q : KV) : s18 call N a0 a1 H τ q = funK call N fn18 [a0, a1] H τ q := by kernel_rfl
def e18 (call : CallK) (N : Nat) (vs : List V) (H : Heap) (τ : Tape) (q : KV) : Ans := match vs with | [a0, a1] => s18 call N a0 a1 H τ q | _ => none
theorem e18_ok : EntOk fn18 e18 := by
  intro call N vs H τ q r h
  unfold e18 at h
  split at h
  · rw [s18_eq] at h; exact h
  · cases h
theorem e18_nat : EntNat e18 := by
  intro c hn N vs H τ q
  unfold e18
  split
  · rw [s18_eq, s18_eq]; exact funK_ent hn _ _ _ _ _ _
  · rfl
/-- ostiary/headers.Get -/
def fn20 : Fun := ⟨2,
  (.seq (.reg [⟨(some 4), none, (.p .mv), [(.c (.str []))], none⟩,
    ⟨(some 5), none, (.p .mv), [(.c (.bool false))], none⟩])
  (.keep [0, 1] (.seq (.reg [⟨(some 6), none, (.p .mv), [(.c .nils)], none⟩])
  (.keep [0, 1, 6] (.seq (.seq (.reg [⟨(some 9), none, (.p .mv), [(.t 0)], none⟩,
    ⟨(some 10), none, (.p .len), [(.t 9)], none⟩,
    ⟨(some 11), none, (.p .mv), [(.c (.int .i64 (.ofNat 0)))], none⟩])
  (.keep [1, 6, 9, 10, 11] (.block 0
   (.loop
    (.keep [1, 6, 9, 10, 11] (.seq (.reg [⟨(some 12), none, (.p (.bin .lss)), [(.t 11), (.t 10)], none⟩])
    (.keep [1, 6, 9, 10, 11, 12] (.seq (.cond (.t 12)
     .skip
     (.keep [6] (.exit 0)))
    (.keep [1, 6, 9, 10, 11] (.seq (.block 1
     (.seq (.reg [⟨(some 13), none, (.p (.slIdx 2)), [(.t 9), (.t 11)], none⟩,
       ⟨(some 14), none, (.l (.load (some 2))), [(.t 13)], none⟩,
       ⟨(some 8), none, (.e (.alloc [(.str []), (.str [])])), [], none⟩,
       ⟨none, none, (.e (.store 2)), [(.t 8), (.t 14)], none⟩])
     (.keep [1, 6, 8, 9, 10, 11] (.seq (.reg [⟨(some 15), none, (.l (.load (some 2))), [(.t 8)], none⟩,
       ⟨(some 16), none, (.p .mv), [(.t 1)], none⟩,
       ⟨(some 17), none, (.call 45), [(.t 15), (.t 16)], none⟩])
     (.keep [1, 6, 8, 9, 10, 11, 17] (.cond (.t 17)
      (.reg [⟨(some 18), none, (.p .mv), [(.t 6)], none⟩,
        ⟨(some 19), none, (.p (.fieldAddr 1)), [(.t 8)], none⟩,
        ⟨(some 20), none, (.l (.load none)), [(.t 19)], none⟩,
        ⟨(some 21), none, (.e (.buildSlice 1 1 [(.str [])] [(0, 1)])), [(.t 20)], none⟩,
        ⟨(some 22), none, (.e (.append 1 16)), [(.t 18), (.t 21)], none⟩,
        ⟨(some 6), none, (.p .mv), [(.t 22)], none⟩])
      .skip))))))
    (.keep [1, 6, 9, 10, 11] (.reg [⟨(some 23), none, (.p (.bin .add)), [(.t 11), (.c (.int .i64 (.ofNat 1)))], none⟩,
      ⟨(some 11), none, (.p .mv), [(.t 23)], none⟩]))))))))))))
  (.keep [6] (.seq (.reg [⟨(some 24), none, (.p .mv), [(.t 6)], none⟩,
    ⟨(some 25), none, (.call 46), [(.t 24), (.c (.str (bs [44, 32])))], none⟩,
    ⟨(some 26), none, (.p .mv), [(.t 6)], none⟩,
    ⟨(some 27), none, (.p .len), [(.t 26)], none⟩,
    ⟨(some 28), none, (.p (.bin .gtr)), [(.t 27), (.c (.int .i64 (.ofNat 0)))], none⟩,
    ⟨(some 4), none, (.p .mv), [(.t 25)], none⟩,
    ⟨(some 5), none, (.p .mv), [(.t 28)], none⟩])
  (.keep [4, 5] (.keep [4, 5] .ret))))))))),
  [(.t 4), (.t 5)]⟩
def s20_j0 (call : CallK) (N : Nat) (q : KV) (st : St) (τ : Tape) : Ans :=
  match st with
  | ⟨fr, H⟩ =>
  getK fr 6 fun t6 =>
  call 46 [t6, (.str (bs [44, 32]))] H τ fun v1 H2 τ3 =>
  someK (pLen [t6]) fun v4 =>
  binK .gtr v4 (.int .i64 (.ofNat 0)) fun v5 =>
  q (.tup [v1, v5]) H2 τ3
def s20_j2 (call : CallK) (N : Nat) (k : KC) (st : St) (τ : Tape) : Ans :=
  match st with
  | ⟨fr, H⟩ =>
  getK fr 1 fun t1 =>
  getK fr 6 fun t6 =>
  getK fr 9 fun t9 =>
  getK fr 10 fun t10 =>
  getK fr 11 fun t11 =>
  binK .add t11 (.int .i64 (.ofNat 1)) fun v7 =>
  k .normal ⟨(T.set (T.set (T.set (T.set (T.set (T.set (T.set .leaf 1 t1) 6 t6) 9 t9) 10 t10) 11 t11) 23 v7) 11 v7), H⟩ τ
def s20_l1 (call : CallK) (N : Nat) (st : St) (τ : Tape) (k : KC) : Ans :=
  match st with
  | ⟨fr, H⟩ =>
  getK fr 1 fun t1 =>
  getK fr 6 fun t6 =>
  getK fr 9 fun t9 =>
  getK fr 10 fun t10 =>
  getK fr 11 fun t11 =>
  binK .lss t11 t10 fun v6 =>
  condK v6
    (someK (pSlIdx 2 [t9, t11]) fun v8 =>
  someK (lLoadN 2 [v8] H) fun v9 =>
  effK (eAlloc [(.str []), (.str [])] [] H τ) fun v10 H11 τ12 =>
  effK (eStore 2 [v10, v9] H11 τ12) fun v13 H14 τ15 =>
  someK (lLoadN 2 [v10] H14) fun v16 =>
  call 45 [v16, t1] H14 τ15 fun v17 H18 τ19 =>
  condK v17
    (someK (pFieldAddr 1 [v10]) fun v20 =>
  someK (lLoad1 [v20] H18) fun v21 =>
  effK (eBuildSlice 1 1 [(.str [])] [(0, 1)] [v21] H18 τ19) fun v22 H23 τ24 =>
  effK (eAppend 1 16 [t6, v22] H23 τ24) fun v25 H26 τ27 =>
  s20_j2 call N k ⟨(T.set (T.set (T.set (T.set (T.set (T.set (T.set (T.set (T.set (T.set (T.set (T.set (T.set .leaf 1 t1) 6 t6) 8 v10) 9 t9) 10 t10) 11 t11) 17 v17) 18 t6) 19 v20) 20 v21) 21 v22) 22 v25) 6 v25), H26⟩ τ27)
    (s20_j2 call N k ⟨(T.set (T.set (T.set (T.set (T.set (T.set (T.set .leaf 1 t1) 6 t6) 8 v10) 9 t9) 10 t10) 11 t11) 17 v17), H18⟩ τ19))
    (k (.exit 0) ⟨(T.set .leaf 6 t6), H⟩ τ)
def s20 (call : CallK) (N : Nat) (a0 a1 : V) (H : Heap) (τ : Tape) (q : KV) : Ans :=
  someK (pLen [a0]) fun v0 =>
  loopK (s20_l1 call N) N ⟨(T.set (T.set (T.set (T.set (T.set .leaf 1 a1) 6 .nils) 9 a0) 10 v0) 11 (.int .i64 (.ofNat 0))), H⟩ τ (blockK 0 (seqK (s20_j0 call N q) (endK [(.t 4), (.t 5)] q)))
theorem s20_eq (call : CallK) (N : Nat) (a0 a1 : V) (H : Heap) (τ : Tape) (q : KV) : s20 call N a0 a1 H τ q = funK call N fn20 [a0, a1] H τ q := by kernel_rfl
def e20 (call : CallK) (N : Nat) (vs : List V) (H : Heap) (τ : Tape) (q : KV) : Ans := match vs with | [a0, a1] => s20 call N a0 a1 H τ q | _ => none
theorem e20_ok : EntOk fn20 e20 := by
  intro call N vs H τ q r h
  unfold e20 at h
  split at h
  · rw [s20_eq] at h; exact h
  · cases h
theorem e20_nat : EntNat e20 := by
  intro c hn N vs H τ q
  unfold e20
  split
  · rw [s20_eq, s20_eq]; exact funK_ent hn _ _ _ _ _ _
  · rfl
/-- strings.Trim -/
def fn35 : Fun := ⟨2,
  (.seq (.reg [⟨(some 4), none, (.p .mv), [(.c (.str []))], none⟩])
  (.keep [0, 1] (.seq (.seq (.reg [⟨(some 7), none, (.p .mv), [(.t 0)], none⟩,
    ⟨(some 8), none, (.p (.bin .eql)), [(.t 7), (.c (.str []))], none⟩,
    ⟨(some 9), none, (.p .mv), [(.t 8)], none⟩,
    ⟨(some 10), some (9, false), (.p .mv), [(.t 1)], none⟩,
    ⟨(some 11), some (9, false), (.p (.bin .eql)), [(.t 10), (.c (.str []))], none⟩,
    ⟨(some 12), none, (.p .pick), [(.t 9), (.c (.bool true)), (.t 11)], none⟩])
  (.keep [0, 1, 12] (.cond (.t 12)
   (.seq (.reg [⟨(some 13), none, (.p .mv), [(.t 0)], none⟩,
     ⟨(some 4), none, (.p .mv), [(.t 13)], none⟩])
   (.keep [4] (.keep [4] .ret)))
   .skip)))
  (.keep [0, 1] (.seq (.seq (.reg [⟨(some 14), none, (.p .mv), [(.t 1)], none⟩,
    ⟨(some 15), none, (.p .lenS), [(.t 14)], none⟩,
    ⟨(some 16), none, (.p (.bin .eql)), [(.t 15), (.c (.int .i64 (.ofNat 1)))], none⟩,
    ⟨(some 17), none, (.p .mv), [(.t 16)], none⟩,
    ⟨(some 18), some (17, true), (.p .mv), [(.t 1)], none⟩,
    ⟨(some 19), some (17, true), (.p .strIndex), [(.t 18), (.c (.int .i64 (.ofNat 0)))], none⟩,
    ⟨(some 20), some (17, true), (.p (.bin .lss)), [(.t 19), (.c (.int .u8 (.ofNat 128)))], none⟩,
    ⟨(some 21), none, (.p .pick), [(.t 17), (.t 20), (.c (.bool false))], none⟩])
  (.keep [0, 1, 21] (.cond (.t 21)
   (.seq (.draw [⟨(some 22), none, (.p .mv), [(.t 0)], none⟩,
     ⟨(some 23), none, (.p .mv), [(.t 1)], none⟩,
     ⟨(some 24), none, (.p .strIndex), [(.t 23), (.c (.int .i64 (.ofNat 0)))], none⟩,
     ⟨(some 25), none, (.call 59), [(.t 22), (.t 24)], none⟩,
     ⟨(some 26), none, (.p .mv), [(.t 1)], none⟩,
     ⟨(some 27), none, (.p .strIndex), [(.t 26), (.c (.int .i64 (.ofNat 0)))], none⟩,
     ⟨(some 28), none, (.call 58), [(.t 25), (.t 27)], none⟩,
     ⟨(some 4), none, (.p .mv), [(.t 28)], none⟩])
   (.keep [4] (.keep [4] .ret)))
   .skip)))
  (.keep [0, 1] (.seq (.seq (.reg [⟨(some 30), none, (.p .mv), [(.t 1)], none⟩,
    ⟨(some 31), none, (.call 60), [(.t 30)], none⟩,
    ⟨(some 29), none, (.p .mv), [(.t 31)], none⟩,
    ⟨(some 32), none, (.p (.extract 0)), [(.t 29)], none⟩,
    ⟨(some 33), none, (.p (.extract 1)), [(.t 29)], none⟩,
    ⟨(some 5), none, (.e (.alloc (repl 256 [(.bool false)]))), [], none⟩,
    ⟨none, none, (.e (.store 256)), [(.t 5), (.t 32)], none⟩,
    ⟨(some 6), none, (.p .mv), [(.t 33)], none⟩])
  (.keep [0, 1, 5, 6] (.seq (.reg [⟨(some 34), none, (.p .mv), [(.t 6)], none⟩])
  (.keep [0, 1, 5, 34] (.cond (.t 34)
   (.seq (.reg [⟨(some 35), none, (.p .mv), [(.t 0)], none⟩,
     ⟨(some 36), none, (.call 62), [(.t 35), (.t 5)], none⟩,
     ⟨(some 37), none, (.call 61), [(.t 36), (.t 5)], none⟩,
     ⟨(some 4), none, (.p .mv), [(.t 37)], none⟩])
   (.keep [4] (.keep [4] .ret)))
   .skip)))))
  (.keep [0, 1] (.seq (.reg [⟨(some 38), none, (.p .mv), [(.t 0)], none⟩,
    ⟨(some 39), none, (.p .mv), [(.t 1)], none⟩,
    ⟨(some 40), none, (.call 64), [(.t 38), (.t 39)], none⟩,
    ⟨(some 41), none, (.p .mv), [(.t 1)], none⟩,
    ⟨(some 42), none, (.call 63), [(.t 40), (.t 41)], none⟩,
    ⟨(some 4), none, (.p .mv), [(.t 42)], none⟩])
  (.keep [4] (.keep [4] .ret))))))))))),
  [(.t 4)]⟩
def s35 (call : CallK) (N : Nat) (a0 a1 : V) (H : Heap) (τ : Tape) (q : KV) : Ans :=
  binK .eql a0 (.str []) fun v0 =>
  gK v0 false (fun q' => q' a1 H τ) H τ fun v1 H2 τ3 =>
  gK v0 false (fun q' => binK .eql v1 (.str []) fun v => q' v H2 τ3) H2 τ3 fun v4 H5 τ6 =>
  someK (pPick [v0, (.bool true), v4]) fun v7 =>
  condK v7
    (q a0 H5 τ6)
    (someK (pLenS [a1]) fun v8 =>
  binK .eql v8 (.int .i64 (.ofNat 1)) fun v9 =>
  gK v9 true (fun q' => q' a1 H5 τ6) H5 τ6 fun v10 H11 τ12 =>
  gK v9 true (fun q' => someK (pStrIndex [v10, (.int .i64 (.ofNat 0))]) fun v => q' v H11 τ12) H11 τ12 fun v13 H14 τ15 =>
  gK v9 true (fun q' => binK .lss v13 (.int .u8 (.ofNat 128)) fun v => q' v H14 τ15) H14 τ15 fun v16 H17 τ18 =>
  someK (pPick [v9, v16, (.bool false)]) fun v19 =>
  condK v19
    (someK (pStrIndex [a1, (.int .i64 (.ofNat 0))]) fun v20 =>
  call 59 [a0, v20] H17 τ18 fun v21 H22 τ23 =>
  someK (pStrIndex [a1, (.int .i64 (.ofNat 0))]) fun v24 =>
  call 58 [v21, v24] H22 τ23 fun v25 H26 τ27 =>
  q v25 H26 τ27)
    (call 60 [a1] H17 τ18 fun v28 H29 τ30 =>
  someK (pExtract 0 [v28]) fun v31 =>
  someK (pExtract 1 [v28]) fun v32 =>
  effK (eAlloc (repl 256 [(.bool false)]) [] H29 τ30) fun v33 H34 τ35 =>
  effK (eStore 256 [v33, v31] H34 τ35) fun v36 H37 τ38 =>
  condK v32
    (call 62 [a0, v33] H37 τ38 fun v39 H40 τ41 =>
  call 61 [v39, v33] H40 τ41 fun v42 H43 τ44 =>
  q v42 H43 τ44)
    (call 64 [a0, a1] H37 τ38 fun v45 H46 τ47 =>
  call 63 [v45, a1] H46 τ47 fun v48 H49 τ50 =>
  q v48 H49 τ50)))
theorem s35_eq (call : CallK) (N : Nat) (a0 a1 : V) (H : Heap) (τ : Tape) (q : KV) : s35 call N a0 a1 H τ q = funK call N fn35 [a0, a1] H τ q := by kernel_rfl
def e35 (call : CallK) (N : Nat) (vs : List V) (H : Heap) (τ : Tape) (q : KV) : Ans := match vs with | [a0, a1] => s35 call N a0 a1 H τ q | _ => none
theorem e35_ok : EntOk fn35 e35 := by
  intro call N vs H τ q r h
  unfold e35 at h
  split at h
  · rw [s35_eq] at h; exact h
  · cases h
theorem e35_nat : EntNat e35 := by
  intro c hn N vs H τ q
  unfold e35
  split
  · rw [s35_eq, s35_eq]; exact funK_ent hn _ _ _ _ _ _
  · rfl
/-- strings.CutPrefix -/
def fn36 : Fun := ⟨2,
  (.seq (.reg [⟨(some 4), none, (.p .mv), [(.c (.str []))], none⟩,
    ⟨(some 5), none, (.p .mv), [(.c (.bool false))], none⟩])
  (.keep [0, 1] (.seq (.reg [⟨(some 6), none, (.p .mv), [(.t 0)], none⟩,
    ⟨(some 7), none, (.p .mv), [(.t 1)], none⟩,
    ⟨(some 8), none, (.call 65), [(.t 6), (.t 7)], none⟩,
    ⟨(some 9), none, (.p (.extract 0)), [(.t 8)], none⟩,
    ⟨(some 10), none, (.p (.extract 1)), [(.t 8)], none⟩,
    ⟨(some 4), none, (.p .mv), [(.t 9)], none⟩,
    ⟨(some 5), none, (.p .mv), [(.t 10)], none⟩])
  (.keep [4, 5] (.keep [4, 5] .ret))))),
  [(.t 4), (.t 5)]⟩
def s36 (call : CallK) (N : Nat) (a0 a1 : V) (H : Heap) (τ : Tape) (q : KV) : Ans :=
  call 65 [a0, a1] H τ fun v0 H1 τ2 =>
  someK (pExtract 0 [v0]) fun v3 =>
  someK (pExtract 1 [v0]) fun v4 =>
  q (.tup [v3, v4]) H1 τ2
theorem s36_eq (call : CallK) (N : Nat) (a0 a1 : V) (H : Heap) (τ : Tape) (q : KV) : s36 call N a0 a1 H τ q = funK call N fn36 [a0, a1] H τ q := by kernel_rfl
def e36 (call : CallK) (N : Nat) (vs : List V) (H : Heap) (τ : Tape) (q : KV) : Ans := match vs with | [a0, a1] => s36 call N a0 a1 H τ q | _ => none
theorem e36_ok : EntOk fn36 e36 := by
  intro call N vs H τ q r h
  unfold e36 at h
  split at h
  · rw [s36_eq] at h; exact h
  · cases h
theorem e36_nat : EntNat e36 := by
  intro c hn N vs H τ q
  unfold e36
  split
  · rw [s36_eq, s36_eq]; exact funK_ent hn _ _ _ _ _ _
  · rfl
/-- strings.Cut -/
def fn37 : Fun := ⟨2,
  (.seq (.reg [⟨(some 4), none, (.p .mv), [(.c (.str []))], none⟩,
    ⟨(some 5), none, (.p .mv), [(.c (.str []))], none⟩,
    ⟨(some 6), none, (.p .mv), [(.c (.bool false))], none⟩])
  (.keep [0, 1] (.seq (.reg [⟨(some 7), none, (.p .mv), [(.t 0)], none⟩,
    ⟨(some 8), none, (.p .mv), [(.t 1)], none⟩,
    ⟨(some 9), none, (.call 66), [(.t 7), (.t 8)], none⟩,
    ⟨(some 10), none, (.p (.extract 0)), [(.t 9)], none⟩,
    ⟨(some 11), none, (.p (.extract 1)), [(.t 9)], none⟩,
    ⟨(some 12), none, (.p (.extract 2)), [(.t 9)], none⟩,
    ⟨(some 4), none, (.p .mv), [(.t 10)], none⟩,
    ⟨(some 5), none, (.p .mv), [(.t 11)], none⟩,
    ⟨(some 6), none, (.p .mv), [(.t 12)], none⟩])
  (.keep [4, 5, 6] (.keep [4, 5, 6] .ret))))),
  [(.t 4), (.t 5), (.t 6)]⟩
def s37 (call : CallK) (N : Nat) (a0 a1 : V) (H : Heap) (τ : Tape) (q : KV) : Ans :=
  call 66 [a0, a1] H τ fun v0 H1 τ2 =>
  someK (pExtract 0 [v0]) fun v3 =>
  someK (pExtract 1 [v0]) fun v4 =>
  someK (pExtract 2 [v0]) fun v5 =>
  q (.tup [v3, v4, v5]) H1 τ2
theorem s37_eq (call : CallK) (N : Nat) (a0 a1 : V) (H : Heap) (τ : Tape) (q : KV) : s37 call N a0 a1 H τ q = funK call N fn37 [a0, a1] H τ q := by kernel_rfl
def e37 (call : CallK) (N : Nat) (vs : List V) (H : Heap) (τ : Tape) (q : KV) : Ans := match vs with | [a0, a1] => s37 call N a0 a1 H τ q | _ => none
theorem e37_ok : EntOk fn37 e37 := by
  intro call N vs H τ q r h
  unfold e37 at h
  split at h
  · rw [s37_eq] at h; exact h
  · cases h
theorem e37_nat : EntNat e37 := by
  intro c hn N vs H τ q
  unfold e37
  split
  · rw [s37_eq, s37_eq]; exact funK_ent hn _ _ _ _ _ _
  · rfl
/-- ostiary/headers.told -/
def fn38 : Fun := ⟨1,
  (.seq (.reg [⟨(some 2), none, (.p .mv), [(.c (.int .i64 (.ofNat 0)))], none⟩,
    ⟨(some 3), none, (.p .mv), [(.c (.bool false))], none⟩])
  (.keep [0] (.seq (.seq (.reg [⟨(some 4), none, (.p .mv), [(.t 0)], none⟩,
    ⟨(some 5), none, (.p (.bin .eql)), [(.t 4), (.c (.str []))], none⟩])
  (.keep [0, 5] (.cond (.t 5)
   (.seq (.reg [⟨(some 2), none, (.p .mv), [(.c (.int .i64 (.negSucc 0)))], none⟩,
     ⟨(some 3), none, (.p .mv), [(.c (.bool true))], none⟩])
   (.keep [2, 3] (.keep [2, 3] .ret)))
   .skip)))
  (.keep [0] (.seq (.reg [⟨(some 6), none, (.p .mv), [(.t 0)], none⟩,
    ⟨(some 7), none, (.call 67), [(.t 6)], none⟩,
    ⟨(some 8), none, (.p (.extract 0)), [(.t 7)], none⟩,
    ⟨(some 9), none, (.p (.extract 1)), [(.t 7)], none⟩,
    ⟨(some 2), none, (.p .mv), [(.t 8)], none⟩,
    ⟨(some 3), none, (.p .mv), [(.t 9)], none⟩])
  (.keep [2, 3] (.keep [2, 3] .ret))))))),
  [(.t 2), (.t 3)]⟩
def s38 (call : CallK) (N : Nat) (a0 : V) (H : Heap) (τ : Tape) (q : KV) : Ans :=
  binK .eql a0 (.str []) fun v0 =>
  condK v0
    (q (.tup [(.int .i64 (.negSucc 0)), (.bool true)]) H τ)
    (call 67 [a0] H τ fun v1 H2 τ3 =>
  someK (pExtract 0 [v1]) fun v4 =>
  someK (pExtract 1 [v1]) fun v5 =>
  q (.tup [v4, v5]) H2 τ3)
theorem s38_eq (call : CallK) (N : Nat) (a0 : V) (H : Heap) (τ : Tape) (q : KV) : s38 call N a0 H τ q = funK call N fn38 [a0] H τ q := by kernel_rfl
def e38 (call : CallK) (N : Nat) (vs : List V) (H : Heap) (τ : Tape) (q : KV) : Ans := match vs with | [a0] => s38 call N a0 H τ q | _ => none
theorem e38_ok : EntOk fn38 e38 := by
  intro call N vs H τ q r h
  unfold e38 at h
  split at h
  · rw [s38_eq] at h; exact h
  · cases h
theorem e38_nat : EntNat e38 := by
  intro c hn N vs H τ q
  unfold e38
  split
  · rw [s38_eq, s38_eq]; exact funK_ent hn _ _ _ _ _ _
  · rfl
/-- ostiary/infra.Lower -/
def fn39 : Fun := ⟨1,
  (.seq (.reg [⟨(some 2), none, (.p .mv), [(.c (.str []))], none⟩])
  (.keep [0] (.seq (.reg [⟨(some 3), none, (.p .mv), [(.t 0)], none⟩,
    ⟨(some 4), none, (.call 68), [(.t 3), (.c (.func 69 [] []))], none⟩,
    ⟨(some 2), none, (.p .mv), [(.t 4)], none⟩])
  (.keep [2] (.keep [2] .ret))))),
  [(.t 2)]⟩
def s39 (call : CallK) (N : Nat) (a0 : V) (H : Heap) (τ : Tape) (q : KV) : Ans :=
  call 68 [a0, (.func 69 [] [])] H τ fun v0 H1 τ2 =>
  q v0 H1 τ2
theorem s39_eq (call : CallK) (N : Nat) (a0 : V) (H : Heap) (τ : Tape) (q : KV) : s39 call N a0 H τ q = funK call N fn39 [a0] H τ q := by kernel_rfl
def e39 (call : CallK) (N : Nat) (vs : List V) (H : Heap) (τ : Tape) (q : KV) : Ans := match vs with | [a0] => s39 call N a0 H τ q | _ => none
theorem e39_ok : EntOk fn39 e39 := by
  intro call N vs H τ q r h
  unfold e39 at h
  split at h
  · rw [s39_eq] at h; exact h
  · cases h
theorem e39_nat : EntNat e39 := by
  intro c hn N vs H τ q
  unfold e39
  split
  · rw [s39_eq, s39_eq]; exact funK_ent hn _ _ _ _ _ _
  · rfl
/-- ostiary/headers.un-safe -/
def fn40 : Fun := ⟨1,
  (.seq (.reg [⟨(some 2), none, (.p .mv), [(.c (.bool false))], none⟩])
  (.keep [0] (.seq (.seq (.reg [⟨(some 5), none, (.p .mv), [(.t 0)], none⟩,
    ⟨(some 6), none, (.p .lenS), [(.t 5)], none⟩,
    ⟨(some 7), none, (.p .mv), [(.c (.int .i64 (.ofNat 0)))], none⟩])
  (.keep [0, 6, 7] (.block 0
   (.loop
    (.keep [0, 6, 7] (.seq (.reg [⟨(some 8), none, (.p (.bin .lss)), [(.t 7), (.t 6)], none⟩])
    (.keep [0, 6, 7, 8] (.seq (.cond (.t 8)
     .skip
     (.keep [] (.exit 0)))
    (.keep [0, 6, 7] (.seq (.block 1
     (.seq (.reg [⟨(some 9), none, (.p .mv), [(.t 7)], none⟩,
       ⟨(some 3), none, (.p .mv), [(.t 9)], none⟩])
     (.keep [0, 3, 6, 7] (.seq (.reg [⟨(some 10), none, (.p .mv), [(.t 0)], none⟩,
       ⟨(some 11), none, (.p .mv), [(.t 3)], none⟩,
       ⟨(some 12), none, (.p .strIndex), [(.t 10), (.t 11)], none⟩,
       ⟨(some 4), none, (.p .mv), [(.t 12)], none⟩])
     (.keep [0, 4, 6, 7] (.seq (.reg [⟨(some 13), none, (.p .mv), [(.t 4)], none⟩,
       ⟨(some 14), none, (.p (.bin .lss)), [(.t 13), (.c (.int .u8 (.ofNat 32)))], none⟩,
       ⟨(some 15), none, (.p .mv), [(.t 14)], none⟩,
       ⟨(some 16), some (15, true), (.p .mv), [(.t 4)], none⟩,
       ⟨(some 17), some (15, true), (.p (.bin .neq)), [(.t 16), (.c (.int .u8 (.ofNat 9)))], none⟩,
       ⟨(some 18), none, (.p .pick), [(.t 15), (.t 17), (.c (.bool false))], none⟩,
       ⟨(some 19), none, (.p .mv), [(.t 18)], none⟩,
       ⟨(some 20), some (19, false), (.p .mv), [(.t 4)], none⟩,
       ⟨(some 21), some (19, false), (.p (.bin .eql)), [(.t 20), (.c (.int .u8 (.ofNat 127)))], none⟩,
       ⟨(some 22), none, (.p .pick), [(.t 19), (.c (.bool true)), (.t 21)], none⟩,
       ⟨(some 23), none, (.p .mv), [(.t 22)], none⟩,
       ⟨(some 24), some (23, false), (.p .mv), [(.t 4)], none⟩,
       ⟨(some 25), some (23, false), (.call 70), [(.c (.str (bs [34, 40, 41, 58, 60, 62, 63, 64, 91, 92, 93, 123, 125]))), (.t 24)], none⟩,
       ⟨(some 26), some (23, false), (.p (.bin .geq)), [(.t 25), (.c (.int .i64 (.ofNat 0)))], none⟩,
       ⟨(some 27), none, (.p .pick), [(.t 23), (.c (.bool true)), (.t 26)], none⟩])
     (.keep [0, 6, 7, 27] (.cond (.t 27)
      (.seq (.reg [⟨(some 2), none, (.p .mv), [(.c (.bool true))], none⟩])
      (.keep [2] (.keep [2] .ret)))
      .skip))))))))
    (.keep [0, 6, 7] (.reg [⟨(some 28), none, (.p (.bin .add)), [(.t 7), (.c (.int .i64 (.ofNat 1)))], none⟩,
      ⟨(some 7), none, (.p .mv), [(.t 28)], none⟩]))))))))))))
  (.keep [] (.seq (.reg [⟨(some 2), none, (.p .mv), [(.c (.bool false))], none⟩])
  (.keep [2] (.keep [2] .ret))))))),
  [(.t 2)]⟩
def s40_j0 (call : CallK) (N : Nat) (q : KV) (st : St) (τ : Tape) : Ans :=
  match st with
  | ⟨fr, H⟩ =>
  q (.bool false) H τ
def s40_l1 (call : CallK) (N : Nat) (st : St) (τ : Tape) (k : KC) : Ans :=
  match st with
  | ⟨fr, H⟩ =>
  getK fr 0 fun t0 =>
  getK fr 6 fun t6 =>
  getK fr 7 fun t7 =>
  binK .lss t7 t6 fun v1 =>
  condK v1
    (someK (pStrIndex [t0, t7]) fun v2 =>
  binK .lss v2 (.int .u8 (.ofNat 32)) fun v3 =>
  gK v3 true (fun q' => q' v2 H τ) H τ fun v4 H5 τ6 =>
  gK v3 true (fun q' => binK .neq v4 (.int .u8 (.ofNat 9)) fun v => q' v H5 τ6) H5 τ6 fun v7 H8 τ9 =>
  someK (pPick [v3, v7, (.bool false)]) fun v10 =>
  gK v10 false (fun q' => q' v2 H8 τ9) H8 τ9 fun v11 H12 τ13 =>
  gK v10 false (fun q' => binK .eql v11 (.int .u8 (.ofNat 127)) fun v => q' v H12 τ13) H12 τ13 fun v14 H15 τ16 =>
  someK (pPick [v10, (.bool true), v14]) fun v17 =>
  gK v17 false (fun q' => q' v2 H15 τ16) H15 τ16 fun v18 H19 τ20 =>
  gK v17 false (fun q' => call 70 [(.str (bs [34, 40, 41, 58, 60, 62, 63, 64, 91, 92, 93, 123, 125])), v18] H19 τ20 q') H19 τ20 fun v21 H22 τ23 =>
  gK v17 false (fun q' => binK .geq v21 (.int .i64 (.ofNat 0)) fun v => q' v H22 τ23) H22 τ23 fun v24 H25 τ26 =>
  someK (pPick [v17, (.bool true), v24]) fun v27 =>
  condK v27
    (k .ret ⟨(T.set .leaf 2 (.bool true)), H25⟩ τ26)
    (binK .add t7 (.int .i64 (.ofNat 1)) fun v28 =>
  k .normal ⟨(T.set (T.set (T.set (T.set (T.set .leaf 0 t0) 6 t6) 7 t7) 28 v28) 7 v28), H25⟩ τ26))
    (k (.exit 0) ⟨.leaf, H⟩ τ)
def s40 (call : CallK) (N : Nat) (a0 : V) (H : Heap) (τ : Tape) (q : KV) : Ans :=
  someK (pLenS [a0]) fun v0 =>
  loopK (s40_l1 call N) N ⟨(T.set (T.set (T.set .leaf 0 a0) 6 v0) 7 (.int .i64 (.ofNat 0))), H⟩ τ (blockK 0 (seqK (s40_j0 call N q) (endK [(.t 2)] q)))
theorem s40_eq (call : CallK) (N : Nat) (a0 : V) (H : Heap) (τ : Tape) (q : KV) : s40 call N a0 H τ q = funK call N fn40 [a0] H τ q := by kernel_rfl
def e40 (call : CallK) (N : Nat) (vs : List V) (H : Heap) (τ : Tape) (q : KV) : Ans := match vs with | [a0] => s40 call N a0 H τ q | _ => none
theorem e40_ok : EntOk fn40 e40 := by
  intro call N vs H τ q r h
  unfold e40 at h
  split at h
  · rw [s40_eq] at h; exact h
  · cases h
theorem e40_nat : EntNat e40 := by
  intro c hn N vs H τ q
  unfold e40
  split
  · rw [s40_eq, s40_eq]; exact funK_ent hn _ _ _ _ _ _
  · rfl
/-- ostiary/headers.tongues -/
def fn41 : Fun := ⟨1,
  (.seq (.reg [⟨(some 2), none, (.p .mv), [(.c (.bool false))], none⟩])
  (.keep [0] (.seq (.seq (.reg [⟨(some 5), none, (.p .mv), [(.t 0)], none⟩,
    ⟨(some 6), none, (.p .lenS), [(.t 5)], none⟩,
    ⟨(some 7), none, (.p .mv), [(.c (.int .i64 (.ofNat 0)))], none⟩])
  (.keep [0, 6, 7] (.block 0
   (.loop
    (.keep [0, 6, 7] (.seq (.reg [⟨(some 8), none, (.p (.bin .lss)), [(.t 7), (.t 6)], none⟩])
    (.keep [0, 6, 7, 8] (.seq (.cond (.t 8)
     .skip
     (.keep [] (.exit 0)))
    (.keep [0, 6, 7] (.seq (.block 1
     (.seq (.reg [⟨(some 9), none, (.p .mv), [(.t 7)], none⟩,
       ⟨(some 3), none, (.p .mv), [(.t 9)], none⟩])
     (.keep [0, 3, 6, 7] (.seq (.reg [⟨(some 10), none, (.p .mv), [(.t 0)], none⟩,
       ⟨(some 11), none, (.p .mv), [(.t 3)], none⟩,
       ⟨(some 12), none, (.p .strIndex), [(.t 10), (.t 11)], none⟩,
       ⟨(some 4), none, (.p .mv), [(.t 12)], none⟩])
     (.keep [0, 4, 6, 7] (.seq (.reg [⟨(some 13), none, (.p .mv), [(.t 4)], none⟩,
       ⟨(some 14), none, (.p (.bin .geq)), [(.t 13), (.c (.int .u8 (.ofNat 97)))], none⟩,
       ⟨(some 15), none, (.p .mv), [(.t 14)], none⟩,
       ⟨(some 16), some (15, true), (.p .mv), [(.t 4)], none⟩,
       ⟨(some 17), some (15, true), (.p (.bin .leq)), [(.t 16), (.c (.int .u8 (.ofNat 122)))], none⟩,
       ⟨(some 18), none, (.p .pick), [(.t 15), (.t 17), (.c (.bool false))], none⟩,
       ⟨(some 19), none, (.p .mv), [(.t 18)], none⟩,
       ⟨(some 20), some (19, false), (.p .mv), [(.t 4)], none⟩,
       ⟨(some 21), some (19, false), (.p (.bin .geq)), [(.t 20), (.c (.int .u8 (.ofNat 65)))], none⟩,
       ⟨(some 22), some (19, false), (.p .mv), [(.t 21)], none⟩,
       ⟨(some 23), some (22, true), (.p .mv), [(.t 4)], none⟩,
       ⟨(some 24), some (22, true), (.p (.bin .leq)), [(.t 23), (.c (.int .u8 (.ofNat 90)))], none⟩,
       ⟨(some 25), some (19, false), (.p .pick), [(.t 22), (.t 24), (.c (.bool false))], none⟩,
       ⟨(some 26), none, (.p .pick), [(.t 19), (.c (.bool true)), (.t 25)], none⟩,
       ⟨(some 27), none, (.p .mv), [(.t 26)], none⟩,
       ⟨(some 28), some (27, false), (.p .mv), [(.t 4)], none⟩,
       ⟨(some 29), some (27, false), (.p (.bin .geq)), [(.t 28), (.c (.int .u8 (.ofNat 48)))], none⟩,
       ⟨(some 30), some (27, false), (.p .mv), [(.t 29)], none⟩,
       ⟨(some 31), some (30, true), (.p .mv), [(.t 4)], none⟩,
       ⟨(some 32), some (30, true), (.p (.bin .leq)), [(.t 31), (.c (.int .u8 (.ofNat 57)))], none⟩,
       ⟨(some 33), some (27, false), (.p .pick), [(.t 30), (.t 32), (.c (.bool false))], none⟩,
       ⟨(some 34), none, (.p .pick), [(.t 27), (.c (.bool true)), (.t 33)], none⟩,
       ⟨(some 35), none, (.p (.un .not)), [(.t 34)], none⟩,
       ⟨(some 36), none, (.p .mv), [(.t 35)], none⟩,
       ⟨(some 37), some (36, true), (.p .mv), [(.t 4)], none⟩,
       ⟨(some 38), some (36, true), (.call 70), [(.c (.str (bs [32, 42, 44, 45, 46, 59, 61]))), (.t 37)], none⟩,
       ⟨(some 39), some (36, true), (.p (.bin .lss)), [(.t 38), (.c (.int .i64 (.ofNat 0)))], none⟩,
       ⟨(some 40), none, (.p .pick), [(.t 36), (.t 39), (.c (.bool false))], none⟩])
     (.keep [0, 6, 7, 40] (.cond (.t 40)
      (.seq (.reg [⟨(some 2), none, (.p .mv), [(.c (.bool false))], none⟩])
      (.keep [2] (.keep [2] .ret)))
      .skip))))))))
    (.keep [0, 6, 7] (.reg [⟨(some 41), none, (.p (.bin .add)), [(.t 7), (.c (.int .i64 (.ofNat 1)))], none⟩,
      ⟨(some 7), none, (.p .mv), [(.t 41)], none⟩]))))))))))))
  (.keep [] (.seq (.reg [⟨(some 2), none, (.p .mv), [(.c (.bool true))], none⟩])
  (.keep [2] (.keep [2] .ret))))))),
  [(.t 2)]⟩
def s41_j0 (call : CallK) (N : Nat) (q : KV) (st : St) (τ : Tape) : Ans :=
  match st with
  | ⟨fr, H⟩ =>
  q (.bool true) H τ
def s41_l1 (call : CallK) (N : Nat) (st : St) (τ : Tape) (k : KC) : Ans :=
  match st with
  | ⟨fr, H⟩ =>
  getK fr 0 fun t0 =>
  getK fr 6 fun t6 =>
  getK fr 7 fun t7 =>
  binK .lss t7 t6 fun v1 =>
  condK v1
    (someK (pStrIndex [t0, t7]) fun v2 =>
  binK .geq v2 (.int .u8 (.ofNat 97)) fun v3 =>
  gK v3 true (fun q' => q' v2 H τ) H τ fun v4 H5 τ6 =>
  gK v3 true (fun q' => binK .leq v4 (.int .u8 (.ofNat 122)) fun v => q' v H5 τ6) H5 τ6 fun v7 H8 τ9 =>
  someK (pPick [v3, v7, (.bool false)]) fun v10 =>
  gK v10 false (fun q' => q' v2 H8 τ9) H8 τ9 fun v11 H12 τ13 =>
  gK v10 false (fun q' => binK .geq v11 (.int .u8 (.ofNat 65)) fun v => q' v H12 τ13) H12 τ13 fun v14 H15 τ16 =>
  gK v10 false (fun q' => q' v14 H15 τ16) H15 τ16 fun v17 H18 τ19 =>
  gK v17 true (fun q' => q' v2 H18 τ19) H18 τ19 fun v20 H21 τ22 =>
  gK v17 true (fun q' => binK .leq v20 (.int .u8 (.ofNat 90)) fun v => q' v H21 τ22) H21 τ22 fun v23 H24 τ25 =>
  gK v10 false (fun q' => someK (pPick [v17, v23, (.bool false)]) fun v => q' v H24 τ25) H24 τ25 fun v26 H27 τ28 =>
  someK (pPick [v10, (.bool true), v26]) fun v29 =>
  gK v29 false (fun q' => q' v2 H27 τ28) H27 τ28 fun v30 H31 τ32 =>
  gK v29 false (fun q' => binK .geq v30 (.int .u8 (.ofNat 48)) fun v => q' v H31 τ32) H31 τ32 fun v33 H34 τ35 =>
  gK v29 false (fun q' => q' v33 H34 τ35) H34 τ35 fun v36 H37 τ38 =>
  gK v36 true (fun q' => q' v2 H37 τ38) H37 τ38 fun v39 H40 τ41 =>
  gK v36 true (fun q' => binK .leq v39 (.int .u8 (.ofNat 57)) fun v => q' v H40 τ41) H40 τ41 fun v42 H43 τ44 =>
  gK v29 false (fun q' => someK (pPick [v36, v42, (.bool false)]) fun v => q' v H43 τ44) H43 τ44 fun v45 H46 τ47 =>
  someK (pPick [v29, (.bool true), v45]) fun v48 =>
  unK .not v48 fun v49 =>
  gK v49 true (fun q' => q' v2 H46 τ47) H46 τ47 fun v50 H51 τ52 =>
  gK v49 true (fun q' => call 70 [(.str (bs [32, 42, 44, 45, 46, 59, 61])), v50] H51 τ52 q') H51 τ52 fun v53 H54 τ55 =>
  gK v49 true (fun q' => binK .lss v53 (.int .i64 (.ofNat 0)) fun v => q' v H54 τ55) H54 τ55 fun v56 H57 τ58 =>
  someK (pPick [v49, v56, (.bool false)]) fun v59 =>
  condK v59
    (k .ret ⟨(T.set .leaf 2 (.bool false)), H57⟩ τ58)
    (binK .add t7 (.int .i64 (.ofNat 1)) fun v60 =>
  k .normal ⟨(T.set (T.set (T.set (T.set (T.set .leaf 0 t0) 6 t6) 7 t7) 41 v60) 7 v60), H57⟩ τ58))
    (k (.exit 0) ⟨.leaf, H⟩ τ)
def s41 (call : CallK) (N : Nat) (a0 : V) (H : Heap) (τ : Tape) (q : KV) : Ans :=
  someK (pLenS [a0]) fun v0 =>
  loopK (s41_l1 call N) N ⟨(T.set (T.set (T.set .leaf 0 a0) 6 v0) 7 (.int .i64 (.ofNat 0))), H⟩ τ (blockK 0 (seqK (s41_j0 call N q) (endK [(.t 2)] q)))
theorem s41_eq (call : CallK) (N : Nat) (a0 : V) (H : Heap) (τ : Tape) (q : KV) : s41 call N a0 H τ q = funK call N fn41 [a0] H τ q := by kernel_rfl
def e41 (call : CallK) (N : Nat) (vs : List V) (H : Heap) (τ : Tape) (q : KV) : Ans := match vs with | [a0] => s41 call N a0 H τ q | _ => none
theorem e41_ok : EntOk fn41 e41 := by
  intro call N vs H τ q r h
  unfold e41 at h
  split at h
  · rw [s41_eq] at h; exact h
  · cases h
theorem e41_nat : EntNat e41 := by
  intro c hn N vs H τ q
  unfold e41
  split
  · rw [s41_eq, s41_eq]; exact funK_ent hn _ _ _ _ _ _
  · rfl
/-- ostiary/infra.Strip -/
def fn42 : Fun := ⟨1,
  (.seq (.reg [⟨(some 2), none, (.p .mv), [(.c (.str []))], none⟩])
  (.keep [0] (.seq (.reg [⟨(some 3), none, (.p .mv), [(.t 0)], none⟩,
    ⟨(some 4), none, (.call 35), [(.t 3), (.c (.str (bs [9, 10, 12, 13, 32])))], none⟩,
    ⟨(some 2), none, (.p .mv), [(.t 4)], none⟩])
  (.keep [2] (.keep [2] .ret))))),
  [(.t 2)]⟩
def s42 (call : CallK) (N : Nat) (a0 : V) (H : Heap) (τ : Tape) (q : KV) : Ans :=
  call 35 [a0, (.str (bs [9, 10, 12, 13, 32]))] H τ fun v0 H1 τ2 =>
  q v0 H1 τ2
theorem s42_eq (call : CallK) (N : Nat) (a0 : V) (H : Heap) (τ : Tape) (q : KV) : s42 call N a0 H τ q = funK call N fn42 [a0] H τ q := by kernel_rfl
def e42 (call : CallK) (N : Nat) (vs : List V) (H : Heap) (τ : Tape) (q : KV) : Ans := match vs with | [a0] => s42 call N a0 H τ q | _ => none
theorem e42_ok : EntOk fn42 e42 := by
  intro call N vs H τ q r h
  unfold e42 at h
  split at h
  · rw [s42_eq] at h; exact h
  · cases h
theorem e42_nat : EntNat e42 := by
  intro c hn N vs H τ q
  unfold e42
  split
  · rw [s42_eq, s42_eq]; exact funK_ent hn _ _ _ _ _ _
  · rfl
/-- ostiary/headers.is -/
def fn45 : Fun := ⟨2,
  (.seq (.reg [⟨(some 2), none, (.e .box), [(.t 0)], none⟩,
    ⟨(some 4), none, (.p .mv), [(.c (.bool false))], none⟩])
  (.keep [1, 2] (.seq (.reg [⟨(some 5), none, (.p (.fieldAddr 0)), [(.t 2)], none⟩,
    ⟨(some 6), none, (.l (.load none)), [(.t 5)], none⟩,
    ⟨(some 7), none, (.call 39), [(.t 6)], none⟩,
    ⟨(some 8), none, (.p .mv), [(.t 1)], none⟩,
    ⟨(some 9), none, (.call 39), [(.t 8)], none⟩,
    ⟨(some 10), none, (.p (.bin .eql)), [(.t 7), (.t 9)], none⟩,
    ⟨(some 4), none, (.p .mv), [(.t 10)], none⟩])
  (.keep [4] (.keep [4] .ret))))),
  [(.t 4)]⟩
def s45 (call : CallK) (N : Nat) (a0 a1 : V) (H : Heap) (τ : Tape) (q : KV) : Ans :=
  effK (eBox [a0] H τ) fun v0 H1 τ2 =>
  someK (pFieldAddr 0 [v0]) fun v3 =>
  someK (lLoad1 [v3] H1) fun v4 =>
  call 39 [v4] H1 τ2 fun v5 H6 τ7 =>
  call 39 [a1] H6 τ7 fun v8 H9 τ10 =>
  binK .eql v5 v8 fun v11 =>
  q v11 H9 τ10
theorem s45_eq (call : CallK) (N : Nat) (a0 a1 : V) (H : Heap) (τ : Tape) (q : KV) : s45 call N a0 a1 H τ q = funK call N fn45 [a0, a1] H τ q := by kernel_rfl
def e45 (call : CallK) (N : Nat) (vs : List V) (H : Heap) (τ : Tape) (q : KV) : Ans := match vs with | [a0, a1] => s45 call N a0 a1 H τ q | _ => none
theorem e45_ok : EntOk fn45 e45 := by
  intro call N vs H τ q r h
  unfold e45 at h
  split at h
  · rw [s45_eq] at h; exact h
  · cases h
theorem e45_nat : EntNat e45 := by
  intro c hn N vs H τ q
  unfold e45
  split
  · rw [s45_eq, s45_eq]; exact funK_ent hn _ _ _ _ _ _
  · rfl
/-- strings.trimLeftByte -/
def fn58 : Fun := ⟨2,
  (.seq (.reg [⟨(some 4), none, (.p .mv), [(.c (.str []))], none⟩])
  (.keep [0, 1] (.seq (.block 0
   (.loop
    (.keep [0, 1] (.seq (.seq (.reg [⟨(some 5), none, (.p .mv), [(.t 0)], none⟩,
      ⟨(some 6), none, (.p .lenS), [(.t 5)], none⟩,
      ⟨(some 7), none, (.p (.bin .gtr)), [(.t 6), (.c (.int .i64 (.ofNat 0)))], none⟩,
      ⟨(some 8), none, (.p .mv), [(.t 7)], none⟩,
      ⟨(some 9), some (8, true), (.p .mv), [(.t 0)], none⟩,
      ⟨(some 10), some (8, true), (.p .strIndex), [(.t 9), (.c (.int .i64 (.ofNat 0)))], none⟩,
      ⟨(some 11), some (8, true), (.p .mv), [(.t 1)], none⟩,
      ⟨(some 12), some (8, true), (.p (.bin .eql)), [(.t 10), (.t 11)], none⟩,
      ⟨(some 13), none, (.p .pick), [(.t 8), (.t 12), (.c (.bool false))], none⟩])
    (.keep [0, 1, 13] (.cond (.t 13)
     .skip
     (.keep [0] (.exit 0)))))
    (.keep [0, 1] (.block 1
     (.reg [⟨(some 14), none, (.p .mv), [(.t 0)], none⟩,
       ⟨(some 15), none, (.p (.strSlice true false)), [(.t 14), (.c (.int .i64 (.ofNat 1)))], none⟩,
       ⟨(some 0), none, (.p .mv), [(.t 15)], none⟩])))))))
  (.keep [0] (.seq (.reg [⟨(some 16), none, (.p .mv), [(.t 0)], none⟩,
    ⟨(some 4), none, (.p .mv), [(.t 16)], none⟩])
  (.keep [4] (.keep [4] .ret))))))),
  [(.t 4)]⟩
def s58_j0 (call : CallK) (N : Nat) (q : KV) (st : St) (τ : Tape) : Ans :=
  match st with
  | ⟨fr, H⟩ =>
  getK fr 0 fun t0 =>
  q t0 H τ
def s58_l1 (call : CallK) (N : Nat) (st : St) (τ : Tape) (k : KC) : Ans :=
  match st with
  | ⟨fr, H⟩ =>
  getK fr 0 fun t0 =>
  getK fr 1 fun t1 =>
  someK (pLenS [t0]) fun v0 =>
  binK .gtr v0 (.int .i64 (.ofNat 0)) fun v1 =>
  gK v1 true (fun q' => q' t0 H τ) H τ fun v2 H3 τ4 =>
  gK v1 true (fun q' => someK (pStrIndex [v2, (.int .i64 (.ofNat 0))]) fun v => q' v H3 τ4) H3 τ4 fun v5 H6 τ7 =>
  gK v1 true (fun q' => q' t1 H6 τ7) H6 τ7 fun v8 H9 τ10 =>
  gK v1 true (fun q' => binK .eql v5 v8 fun v => q' v H9 τ10) H9 τ10 fun v11 H12 τ13 =>
  someK (pPick [v1, v11, (.bool false)]) fun v14 =>
  condK v14
    (someK (pStrSlice true false [t0, (.int .i64 (.ofNat 1))]) fun v15 =>
  k .normal ⟨(T.set (T.set (T.set (T.set (T.set .leaf 0 t0) 1 t1) 14 t0) 15 v15) 0 v15), H12⟩ τ13)
    (k (.exit 0) ⟨(T.set .leaf 0 t0), H12⟩ τ13)
def s58 (call : CallK) (N : Nat) (a0 a1 : V) (H : Heap) (τ : Tape) (q : KV) : Ans :=
  loopK (s58_l1 call N) N ⟨(T.set (T.set .leaf 0 a0) 1 a1), H⟩ τ (blockK 0 (seqK (s58_j0 call N q) (endK [(.t 4)] q)))
theorem s58_eq (call : CallK) (N : Nat) (a0 a1 : V) (H : Heap) (τ : Tape) (q : KV) : s58 call N a0 a1 H τ q = funK call N fn58 [a0, a1] H τ q := by kernel_rfl
def e58 (call : CallK) (N : Nat) (vs : List V) (H : Heap) (τ : Tape) (q : KV) : Ans := match vs with | [a0, a1] => s58 call N a0 a1 H τ q | _ => none
theorem e58_ok : EntOk fn58 e58 := by
  intro call N vs H τ q r h
  unfold e58 at h
  split at h
  · rw [s58_eq] at h; exact h
  · cases h
theorem e58_nat : EntNat e58 := by
  intro c hn N vs H τ q
  unfold e58
  split
  · rw [s58_eq, s58_eq]; exact funK_ent hn _ _ _ _ _ _
  · rfl
/-- strings.trimRightByte -/
def fn59 : Fun := ⟨2,
  (.seq (.reg [⟨(some 4), none, (.p .mv), [(.c (.str []))], none⟩])
  (.keep [0, 1] (.seq (.block 0
   (.loop
    (.keep [0, 1] (.seq (.seq (.reg [⟨(some 5), none, (.p .mv), [(.t 0)], none⟩,
      ⟨(some 6), none, (.p .lenS), [(.t 5)], none⟩,
      ⟨(some 7), none, (.p (.bin .gtr)), [(.t 6), (.c (.int .i64 (.ofNat 0)))], none⟩,
      ⟨(some 8), none, (.p .mv), [(.t 7)], none⟩,
      ⟨(some 9), some (8, true), (.p .mv), [(.t 0)], none⟩,
      ⟨(some 10), some (8, true), (.p .mv), [(.t 0)], none⟩,
      ⟨(some 11), some (8, true), (.p .lenS), [(.t 10)], none⟩,
      ⟨(some 12), some (8, true), (.p (.bin .sub)), [(.t 11), (.c (.int .i64 (.ofNat 1)))], none⟩,
      ⟨(some 13), some (8, true), (.p .strIndex), [(.t 9), (.t 12)], none⟩,
      ⟨(some 14), some (8, true), (.p .mv), [(.t 1)], none⟩,
      ⟨(some 15), some (8, true), (.p (.bin .eql)), [(.t 13), (.t 14)], none⟩,
      ⟨(some 16), none, (.p .pick), [(.t 8), (.t 15), (.c (.bool false))], none⟩])
    (.keep [0, 1, 16] (.cond (.t 16)
     .skip
     (.keep [0] (.exit 0)))))
    (.keep [0, 1] (.block 1
     (.reg [⟨(some 17), none, (.p .mv), [(.t 0)], none⟩,
       ⟨(some 18), none, (.p .mv), [(.t 0)], none⟩,
       ⟨(some 19), none, (.p .lenS), [(.t 18)], none⟩,
       ⟨(some 20), none, (.p (.bin .sub)), [(.t 19), (.c (.int .i64 (.ofNat 1)))], none⟩,
       ⟨(some 21), none, (.p (.strSlice false true)), [(.t 17), (.t 20)], none⟩,
       ⟨(some 0), none, (.p .mv), [(.t 21)], none⟩])))))))
  (.keep [0] (.seq (.reg [⟨(some 22), none, (.p .mv), [(.t 0)], none⟩,
    ⟨(some 4), none, (.p .mv), [(.t 22)], none⟩])
  (.keep [4] (.keep [4] .ret))))))),
  [(.t 4)]⟩
def s59_j0 (call : CallK) (N : Nat) (q : KV) (st : St) (τ : Tape) : Ans :=
  match st with
  | ⟨fr, H⟩ =>
  getK fr 0 fun t0 =>
  q t0 H τ
def s59_l1 (call : CallK) (N : Nat) (st : St) (τ : Tape) (k : KC) : Ans :=
  match st with
  | ⟨fr, H⟩ =>
  getK fr 0 fun t0 =>
  getK fr 1 fun t1 =>
  someK (pLenS [t0]) fun v0 =>
  binK .gtr v0 (.int .i64 (.ofNat 0)) fun v1 =>
  gK v1 true (fun q' => q' t0 H τ) H τ fun v2 H3 τ4 =>
  gK v1 true (fun q' => q' t0 H3 τ4) H3 τ4 fun v5 H6 τ7 =>
  gK v1 true (fun q' => someK (pLenS [v5]) fun v => q' v H6 τ7) H6 τ7 fun v8 H9 τ10 =>
  gK v1 true (fun q' => binK .sub v8 (.int .i64 (.ofNat 1)) fun v => q' v H9 τ10) H9 τ10 fun v11 H12 τ13 =>
  gK v1 true (fun q' => someK (pStrIndex [v2, v11]) fun v => q' v H12 τ13) H12 τ13 fun v14 H15 τ16 =>
  gK v1 true (fun q' => q' t1 H15 τ16) H15 τ16 fun v17 H18 τ19 =>
  gK v1 true (fun q' => binK .eql v14 v17 fun v => q' v H18 τ19) H18 τ19 fun v20 H21 τ22 =>
  someK (pPick [v1, v20, (.bool false)]) fun v23 =>
  condK v23
    (someK (pLenS [t0]) fun v24 =>
  binK .sub v24 (.int .i64 (.ofNat 1)) fun v25 =>
  someK (pStrSlice false true [t0, v25]) fun v26 =>
  k .normal ⟨(T.set (T.set (T.set (T.set (T.set (T.set (T.set (T.set .leaf 0 t0) 1 t1) 17 t0) 18 t0) 19 v24) 20 v25) 21 v26) 0 v26), H21⟩ τ22)
    (k (.exit 0) ⟨(T.set .leaf 0 t0), H21⟩ τ22)
def s59 (call : CallK) (N : Nat) (a0 a1 : V) (H : Heap) (τ : Tape) (q : KV) : Ans :=
  loopK (s59_l1 call N) N ⟨(T.set (T.set .leaf 0 a0) 1 a1), H⟩ τ (blockK 0 (seqK (s59_j0 call N q) (endK [(.t 4)] q)))
theorem s59_eq (call : CallK) (N : Nat) (a0 a1 : V) (H : Heap) (τ : Tape) (q : KV) : s59 call N a0 a1 H τ q = funK call N fn59 [a0, a1] H τ q := by kernel_rfl
def e59 (call : CallK) (N : Nat) (vs : List V) (H : Heap) (τ : Tape) (q : KV) : Ans := match vs with | [a0, a1] => s59 call N a0 a1 H τ q | _ => none
theorem e59_ok : EntOk fn59 e59 := by
  intro call N vs H τ q r h
  unfold e59 at h
  split at h
  · rw [s59_eq] at h; exact h
  · cases h
theorem e59_nat : EntNat e59 := by
  intro c hn N vs H τ q
  unfold e59
  split
  · rw [s59_eq, s59_eq]; exact funK_ent hn _ _ _ _ _ _
  · rfl
/-- strings.makeASCIISet -/
def fn60 : Fun := ⟨1,
  (.seq (.reg [⟨(some 2), none, (.e (.alloc (repl 256 [(.bool false)]))), [], none⟩,
    ⟨(some 3), none, (.p .mv), [(.c (.bool false))], none⟩])
  (.keep [0, 2] (.seq (.seq (.reg [⟨(some 4), none, (.p .mv), [(.c (.int .i64 (.ofNat 0)))], none⟩])
  (.keep [0, 2, 4] (.block 0
   (.loop
    (.keep [0, 2, 4] (.seq (.seq (.reg [⟨(some 6), none, (.p .mv), [(.t 4)], none⟩,
      ⟨(some 7), none, (.p .mv), [(.t 0)], none⟩,
      ⟨(some 8), none, (.p .lenS), [(.t 7)], none⟩,
      ⟨(some 9), none, (.p (.bin .lss)), [(.t 6), (.t 8)], none⟩])
    (.keep [0, 2, 4, 9] (.cond (.t 9)
     .skip
     (.keep [2] (.exit 0)))))
    (.keep [0, 2, 4] (.seq (.block 1
     (.seq (.reg [⟨(some 12), none, (.p .mv), [(.t 0)], none⟩,
       ⟨(some 13), none, (.p .mv), [(.t 4)], none⟩,
       ⟨(some 14), none, (.p .strIndex), [(.t 12), (.t 13)], none⟩,
       ⟨(some 5), none, (.p .mv), [(.t 14)], none⟩])
     (.keep [0, 2, 4, 5] (.seq (.seq (.reg [⟨(some 15), none, (.p .mv), [(.t 5)], none⟩,
       ⟨(some 16), none, (.p (.bin .geq)), [(.t 15), (.c (.int .u8 (.ofNat 128)))], none⟩])
     (.keep [0, 2, 4, 5, 16] (.cond (.t 16)
      (.seq (.reg [⟨(some 17), none, (.l (.load (some 256))), [(.t 2)], none⟩,
        ⟨none, none, (.e (.store 256)), [(.t 2), (.t 17)], none⟩,
        ⟨(some 3), none, (.p .mv), [(.c (.bool false))], none⟩])
      (.keep [2, 3] (.keep [2, 3] .ret)))
      .skip)))
     (.keep [0, 2, 4, 5] (.reg [⟨(some 18), none, (.p .mv), [(.t 5)], none⟩,
       ⟨(some 19), none, (.p (.arrIdx 256 1)), [(.t 2), (.t 18)], none⟩,
       ⟨none, none, (.e (.store 1)), [(.t 19), (.c (.bool true))], none⟩]))))))
    (.keep [0, 2, 4] (.reg [⟨(some 10), none, (.p .mv), [(.t 4)], none⟩,
      ⟨(some 11), none, (.p (.bin .add)), [(.t 10), (.c (.int .i64 (.ofNat 1)))], none⟩,
      ⟨(some 4), none, (.p .mv), [(.t 11)], none⟩]))))))))))
  (.keep [2] (.seq (.reg [⟨(some 20), none, (.l (.load (some 256))), [(.t 2)], none⟩,
    ⟨none, none, (.e (.store 256)), [(.t 2), (.t 20)], none⟩,
    ⟨(some 3), none, (.p .mv), [(.c (.bool true))], none⟩])
  (.keep [2, 3] (.keep [2, 3] .ret))))))),
  [(.cell 2 (some 256)), (.t 3)]⟩
def s60_j0 (call : CallK) (N : Nat) (q : KV) (st : St) (τ : Tape) : Ans :=
  match st with
  | ⟨fr, H⟩ =>
  getK fr 2 fun t2 =>
  someK (lLoadN 256 [t2] H) fun v3 =>
  effK (eStore 256 [t2, v3] H τ) fun v4 H5 τ6 =>
  someK (results ⟨(T.set (T.set .leaf 2 t2) 3 (.bool true)), H5⟩ [(.cell 2 (some 256)), (.t 3)]) fun v => q v H5 τ6
def s60_l1 (call : CallK) (N : Nat) (st : St) (τ : Tape) (k : KC) : Ans :=
  match st with
  | ⟨fr, H⟩ =>
  getK fr 0 fun t0 =>
  getK fr 2 fun t2 =>
  getK fr 4 fun t4 =>
  someK (pLenS [t0]) fun v7 =>
  binK .lss t4 v7 fun v8 =>
  condK v8
    (someK (pStrIndex [t0, t4]) fun v9 =>
  binK .geq v9 (.int .u8 (.ofNat 128)) fun v10 =>
  condK v10
    (someK (lLoadN 256 [t2] H) fun v11 =>
  effK (eStore 256 [t2, v11] H τ) fun v12 H13 τ14 =>
  k .ret ⟨(T.set (T.set .leaf 2 t2) 3 (.bool false)), H13⟩ τ14)
    (someK (pArrIdx 256 1 [t2, v9]) fun v15 =>
  effK (eStore 1 [v15, (.bool true)] H τ) fun v16 H17 τ18 =>
  binK .add t4 (.int .i64 (.ofNat 1)) fun v19 =>
  k .normal ⟨(T.set (T.set (T.set (T.set (T.set (T.set .leaf 0 t0) 2 t2) 4 t4) 10 t4) 11 v19) 4 v19), H17⟩ τ18))
    (k (.exit 0) ⟨(T.set .leaf 2 t2), H⟩ τ)
def s60 (call : CallK) (N : Nat) (a0 : V) (H : Heap) (τ : Tape) (q : KV) : Ans :=
  effK (eAlloc (repl 256 [(.bool false)]) [] H τ) fun v0 H1 τ2 =>
  loopK (s60_l1 call N) N ⟨(T.set (T.set (T.set .leaf 0 a0) 2 v0) 4 (.int .i64 (.ofNat 0))), H1⟩ τ2 (blockK 0 (seqK (s60_j0 call N q) (endK [(.cell 2 (some 256)), (.t 3)] q)))
theorem s60_eq (call : CallK) (N : Nat) (a0 : V) (H : Heap) (τ : Tape) (q : KV) : s60 call N a0 H τ q = funK call N fn60 [a0] H τ q := by kernel_rfl
def e60 (call : CallK) (N : Nat) (vs : List V) (H : Heap) (τ : Tape) (q : KV) : Ans := match vs with | [a0] => s60 call N a0 H τ q | _ => none
theorem e60_ok : EntOk fn60 e60 := by
  intro call N vs H τ q r h
  unfold e60 at h
  split at h
  · rw [s60_eq] at h; exact h
  · cases h
theorem e60_nat : EntNat e60 := by
  intro c hn N vs H τ q
  unfold e60
  split
  · rw [s60_eq, s60_eq]; exact funK_ent hn _ _ _ _ _ _
  · rfl
/-- strings.trimLeftASCII -/
def fn61 : Fun := ⟨2,
  (.seq (.reg [⟨(some 4), none, (.p .mv), [(.c (.str []))], none⟩])
  (.keep [0, 1] (.seq (.block 0
   (.loop
    (.keep [0, 1] (.seq (.seq (.reg [⟨(some 5), none, (.p .mv), [(.t 0)], none⟩,
      ⟨(some 6), none, (.p .lenS), [(.t 5)], none⟩,
      ⟨(some 7), none, (.p (.bin .gtr)), [(.t 6), (.c (.int .i64 (.ofNat 0)))], none⟩])
    (.keep [0, 1, 7] (.cond (.t 7)
     .skip
     (.keep [0] (.exit 0)))))
    (.keep [0, 1] (.block 1
     (.seq (.seq (.reg [⟨(some 8), none, (.p .mv), [(.t 1)], none⟩,
       ⟨(some 9), none, (.p .mv), [(.t 0)], none⟩,
       ⟨(some 10), none, (.p .strIndex), [(.t 9), (.c (.int .i64 (.ofNat 0)))], none⟩,
       ⟨(some 11), none, (.call 81), [(.t 8), (.t 10)], none⟩,
       ⟨(some 12), none, (.p (.un .not)), [(.t 11)], none⟩])
     (.keep [0, 1, 12] (.cond (.t 12)
      (.keep [0] (.exit 0))
      .skip)))
     (.keep [0, 1] (.reg [⟨(some 13), none, (.p .mv), [(.t 0)], none⟩,
       ⟨(some 14), none, (.p (.strSlice true false)), [(.t 13), (.c (.int .i64 (.ofNat 1)))], none⟩,
       ⟨(some 0), none, (.p .mv), [(.t 14)], none⟩])))))))))
  (.keep [0] (.seq (.reg [⟨(some 15), none, (.p .mv), [(.t 0)], none⟩,
    ⟨(some 4), none, (.p .mv), [(.t 15)], none⟩])
  (.keep [4] (.keep [4] .ret))))))),
  [(.t 4)]⟩
def s61_j0 (call : CallK) (N : Nat) (q : KV) (st : St) (τ : Tape) : Ans :=
  match st with
  | ⟨fr, H⟩ =>
  getK fr 0 fun t0 =>
  q t0 H τ
def s61_l1 (call : CallK) (N : Nat) (st : St) (τ : Tape) (k : KC) : Ans :=
  match st with
  | ⟨fr, H⟩ =>
  getK fr 0 fun t0 =>
  getK fr 1 fun t1 =>
  someK (pLenS [t0]) fun v0 =>
  binK .gtr v0 (.int .i64 (.ofNat 0)) fun v1 =>
  condK v1
    (someK (pStrIndex [t0, (.int .i64 (.ofNat 0))]) fun v2 =>
  call 81 [t1, v2] H τ fun v3 H4 τ5 =>
  unK .not v3 fun v6 =>
  condK v6
    (k (.exit 0) ⟨(T.set .leaf 0 t0), H4⟩ τ5)
    (someK (pStrSlice true false [t0, (.int .i64 (.ofNat 1))]) fun v7 =>
  k .normal ⟨(T.set (T.set (T.set (T.set (T.set .leaf 0 t0) 1 t1) 13 t0) 14 v7) 0 v7), H4⟩ τ5))
    (k (.exit 0) ⟨(T.set .leaf 0 t0), H⟩ τ)
def s61 (call : CallK) (N : Nat) (a0 a1 : V) (H : Heap) (τ : Tape) (q : KV) : Ans :=
  loopK (s61_l1 call N) N ⟨(T.set (T.set .leaf 0 a0) 1 a1), H⟩ τ (blockK 0 (seqK (s61_j0 call N q) (endK [(.t 4)] q)))
theorem s61_eq (call : CallK) (N : Nat) (a0 a1 : V) (H : Heap) (τ : Tape) (q : KV) : s61 call N a0 a1 H τ q = funK call N fn61 [a0, a1] H τ q := by kernel_rfl
def e61 (call : CallK) (N : Nat) (vs : List V) (H : Heap) (τ : Tape) (q : KV) : Ans := match vs with | [a0, a1] => s61 call N a0 a1 H τ q | _ => none
theorem e61_ok : EntOk fn61 e61 := by
  intro call N vs H τ q r h
  unfold e61 at h
  split at h
  · rw [s61_eq] at h; exact h
  · cases h
theorem e61_nat : EntNat e61 := by
  intro c hn N vs H τ q
  unfold e61
  split
  · rw [s61_eq, s61_eq]; exact funK_ent hn _ _ _ _ _ _
  · rfl
/-- strings.trimRightASCII -/
def fn62 : Fun := ⟨2,
  (.seq (.reg [⟨(some 4), none, (.p .mv), [(.c (.str []))], none⟩])
  (.keep [0, 1] (.seq (.block 0
   (.loop
    (.keep [0, 1] (.seq (.seq (.reg [⟨(some 5), none, (.p .mv), [(.t 0)], none⟩,
      ⟨(some 6), none, (.p .lenS), [(.t 5)], none⟩,
      ⟨(some 7), none, (.p (.bin .gtr)), [(.t 6), (.c (.int .i64 (.ofNat 0)))], none⟩])
    (.keep [0, 1, 7] (.cond (.t 7)
     .skip
     (.keep [0] (.exit 0)))))
    (.keep [0, 1] (.block 1
     (.seq (.seq (.reg [⟨(some 8), none, (.p .mv), [(.t 1)], none⟩,
       ⟨(some 9), none, (.p .mv), [(.t 0)], none⟩,
       ⟨(some 10), none, (.p .mv), [(.t 0)], none⟩,
       ⟨(some 11), none, (.p .lenS), [(.t 10)], none⟩,
       ⟨(some 12), none, (.p (.bin .sub)), [(.t 11), (.c (.int .i64 (.ofNat 1)))], none⟩,
       ⟨(some 13), none, (.p .strIndex), [(.t 9), (.t 12)], none⟩,
       ⟨(some 14), none, (.call 81), [(.t 8), (.t 13)], none⟩,
       ⟨(some 15), none, (.p (.un .not)), [(.t 14)], none⟩])
     (.keep [0, 1, 15] (.cond (.t 15)
      (.keep [0] (.exit 0))
      .skip)))
     (.keep [0, 1] (.reg [⟨(some 16), none, (.p .mv), [(.t 0)], none⟩,
       ⟨(some 17), none, (.p .mv), [(.t 0)], none⟩,
       ⟨(some 18), none, (.p .lenS), [(.t 17)], none⟩,
       ⟨(some 19), none, (.p (.bin .sub)), [(.t 18), (.c (.int .i64 (.ofNat 1)))], none⟩,
       ⟨(some 20), none, (.p (.strSlice false true)), [(.t 16), (.t 19)], none⟩,
       ⟨(some 0), none, (.p .mv), [(.t 20)], none⟩])))))))))
  (.keep [0] (.seq (.reg [⟨(some 21), none, (.p .mv), [(.t 0)], none⟩,
    ⟨(some 4), none, (.p .mv), [(.t 21)], none⟩])
  (.keep [4] (.keep [4] .ret))))))),
  [(.t 4)]⟩
def s62_j0 (call : CallK) (N : Nat) (q : KV) (st : St) (τ : Tape) : Ans :=
  match st with
  | ⟨fr, H⟩ =>
  getK fr 0 fun t0 =>
  q t0 H τ
def s62_l1 (call : CallK) (N : Nat) (st : St) (τ : Tape) (k : KC) : Ans :=
  match st with
  | ⟨fr, H⟩ =>
  getK fr 0 fun t0 =>
  getK fr 1 fun t1 =>
  someK (pLenS [t0]) fun v0 =>
  binK .gtr v0 (.int .i64 (.ofNat 0)) fun v1 =>
  condK v1
    (someK (pLenS [t0]) fun v2 =>
  binK .sub v2 (.int .i64 (.ofNat 1)) fun v3 =>
  someK (pStrIndex [t0, v3]) fun v4 =>
  call 81 [t1, v4] H τ fun v5 H6 τ7 =>
  unK .not v5 fun v8 =>
  condK v8
    (k (.exit 0) ⟨(T.set .leaf 0 t0), H6⟩ τ7)
    (someK (pLenS [t0]) fun v9 =>
  binK .sub v9 (.int .i64 (.ofNat 1)) fun v10 =>
  someK (pStrSlice false true [t0, v10]) fun v11 =>
  k .normal ⟨(T.set (T.set (T.set (T.set (T.set (T.set (T.set (T.set .leaf 0 t0) 1 t1) 16 t0) 17 t0) 18 v9) 19 v10) 20 v11) 0 v11), H6⟩ τ7))
    (k (.exit 0) ⟨(T.set .leaf 0 t0), H⟩ τ)
def s62 (call : CallK) (N : Nat) (a0 a1 : V) (H : Heap) (τ : Tape) (q : KV) : Ans :=
  loopK (s62_l1 call N) N ⟨(T.set (T.set .leaf 0 a0) 1 a1), H⟩ τ (blockK 0 (seqK (s62_j0 call N q) (endK [(.t 4)] q)))
theorem s62_eq (call : CallK) (N : Nat) (a0 a1 : V) (H : Heap) (τ : Tape) (q : KV) : s62 call N a0 a1 H τ q = funK call N fn62 [a0, a1] H τ q := by kernel_rfl
def e62 (call : CallK) (N : Nat) (vs : List V) (H : Heap) (τ : Tape) (q : KV) : Ans := match vs with | [a0, a1] => s62 call N a0 a1 H τ q | _ => none
theorem e62_ok : EntOk fn62 e62 := by
  intro call N vs H τ q r h
  unfold e62 at h
  split at h
  · rw [s62_eq] at h; exact h
  · cases h
theorem e62_nat : EntNat e62 := by
  intro c hn N vs H τ q
  unfold e62
  split
  · rw [s62_eq, s62_eq]; exact funK_ent hn _ _ _ _ _ _
  · rfl
/-- strings.trimLeftUnicode -/
def fn63 : Fun := ⟨2,
  (.seq (.reg [⟨(some 4), none, (.p .mv), [(.c (.str []))], none⟩])
  (.keep [0, 1] (.seq (.block 0
   (.loop
    (.keep [0, 1] (.seq (.seq (.reg [⟨(some 7), none, (.p .mv), [(.t 0)], none⟩,
      ⟨(some 8), none, (.p .lenS), [(.t 7)], none⟩,
      ⟨(some 9), none, (.p (.bin .gtr)), [(.t 8), (.c (.int .i64 (.ofNat 0)))], none⟩])
    (.keep [0, 1, 9] (.cond (.t 9)
     .skip
     (.keep [0] (.exit 0)))))
    (.keep [0, 1] (.block 1
     (.seq (.reg [⟨(some 11), none, (.p .mv), [(.t 0)], none⟩,
       ⟨(some 12), none, (.call 82), [(.t 11)], none⟩,
       ⟨(some 10), none, (.p .mv), [(.t 12)], none⟩,
       ⟨(some 13), none, (.p (.extract 0)), [(.t 10)], none⟩,
       ⟨(some 14), none, (.p (.extract 1)), [(.t 10)], none⟩,
       ⟨(some 5), none, (.p .mv), [(.t 13)], none⟩,
       ⟨(some 6), none, (.p .mv), [(.t 14)], none⟩])
     (.keep [0, 1, 5, 6] (.seq (.seq (.reg [⟨(some 15), none, (.p .mv), [(.t 1)], none⟩,
       ⟨(some 16), none, (.p .mv), [(.t 5)], none⟩,
       ⟨(some 17), none, (.call 83), [(.t 15), (.t 16)], none⟩,
       ⟨(some 18), none, (.p (.un .not)), [(.t 17)], none⟩])
     (.keep [0, 1, 6, 18] (.cond (.t 18)
      (.keep [0] (.exit 0))
      .skip)))
     (.keep [0, 1, 6] (.reg [⟨(some 19), none, (.p .mv), [(.t 0)], none⟩,
       ⟨(some 20), none, (.p .mv), [(.t 6)], none⟩,
       ⟨(some 21), none, (.p (.strSlice true false)), [(.t 19), (.t 20)], none⟩,
       ⟨(some 0), none, (.p .mv), [(.t 21)], none⟩])))))))))))
  (.keep [0] (.seq (.reg [⟨(some 22), none, (.p .mv), [(.t 0)], none⟩,
    ⟨(some 4), none, (.p .mv), [(.t 22)], none⟩])
  (.keep [4] (.keep [4] .ret))))))),
  [(.t 4)]⟩
def s63_j0 (call : CallK) (N : Nat) (q : KV) (st : St) (τ : Tape) : Ans :=
  match st with
  | ⟨fr, H⟩ =>
  getK fr 0 fun t0 =>
  q t0 H τ
def s63_l1 (call : CallK) (N : Nat) (st : St) (τ : Tape) (k : KC) : Ans :=
  match st with
  | ⟨fr, H⟩ =>
  getK fr 0 fun t0 =>
  getK fr 1 fun t1 =>
  someK (pLenS [t0]) fun v0 =>
  binK .gtr v0 (.int .i64 (.ofNat 0)) fun v1 =>
  condK v1
    (call 82 [t0] H τ fun v2 H3 τ4 =>
  someK (pExtract 0 [v2]) fun v5 =>
  someK (pExtract 1 [v2]) fun v6 =>
  call 83 [t1, v5] H3 τ4 fun v7 H8 τ9 =>
  unK .not v7 fun v10 =>
  condK v10
    (k (.exit 0) ⟨(T.set .leaf 0 t0), H8⟩ τ9)
    (someK (pStrSlice true false [t0, v6]) fun v11 =>
  k .normal ⟨(T.set (T.set (T.set (T.set (T.set (T.set (T.set .leaf 0 t0) 1 t1) 6 v6) 19 t0) 20 v6) 21 v11) 0 v11), H8⟩ τ9))
    (k (.exit 0) ⟨(T.set .leaf 0 t0), H⟩ τ)
def s63 (call : CallK) (N : Nat) (a0 a1 : V) (H : Heap) (τ : Tape) (q : KV) : Ans :=
  loopK (s63_l1 call N) N ⟨(T.set (T.set .leaf 0 a0) 1 a1), H⟩ τ (blockK 0 (seqK (s63_j0 call N q) (endK [(.t 4)] q)))
theorem s63_eq (call : CallK) (N : Nat) (a0 a1 : V) (H : Heap) (τ : Tape) (q : KV) : s63 call N a0 a1 H τ q = funK call N fn63 [a0, a1] H τ q := by kernel_rfl
def e63 (call : CallK) (N : Nat) (vs : List V) (H : Heap) (τ : Tape) (q : KV) : Ans := match vs with | [a0, a1] => s63 call N a0 a1 H τ q | _ => none
theorem e63_ok : EntOk fn63 e63 := by
  intro call N vs H τ q r h
  unfold e63 at h
  split at h
  · rw [s63_eq] at h; exact h
  · cases h
theorem e63_nat : EntNat e63 := by
  intro c hn N vs H τ q
  unfold e63
  split
  · rw [s63_eq, s63_eq]; exact funK_ent hn _ _ _ _ _ _
  · rfl
/-- strings.trimRightUnicode -/
def fn64 : Fun := ⟨2,
  (.seq (.reg [⟨(some 4), none, (.p .mv), [(.c (.str []))], none⟩])
  (.keep [0, 1] (.seq (.block 0
   (.loop
    (.keep [0, 1] (.seq (.seq (.reg [⟨(some 7), none, (.p .mv), [(.t 0)], none⟩,
      ⟨(some 8), none, (.p .lenS), [(.t 7)], none⟩,
      ⟨(some 9), none, (.p (.bin .gtr)), [(.t 8), (.c (.int .i64 (.ofNat 0)))], none⟩])
    (.keep [0, 1, 9] (.cond (.t 9)
     .skip
     (.keep [0] (.exit 0)))))
    (.keep [0, 1] (.block 1
     (.seq (.reg [⟨(some 10), none, (.p .mv), [(.t 0)], none⟩,
       ⟨(some 11), none, (.p .mv), [(.t 0)], none⟩,
       ⟨(some 12), none, (.p .lenS), [(.t 11)], none⟩,
       ⟨(some 13), none, (.p (.bin .sub)), [(.t 12), (.c (.int .i64 (.ofNat 1)))], none⟩,
       ⟨(some 14), none, (.p .strIndex), [(.t 10), (.t 13)], none⟩,
       ⟨(some 15), none, (.p (.toInt .i32)), [(.t 14)], none⟩,
       ⟨(some 5), none, (.p .mv), [(.t 15)], none⟩,
       ⟨(some 6), none, (.p .mv), [(.c (.int .i64 (.ofNat 1)))], none⟩])
     (.keep [0, 1, 5, 6] (.seq (.seq (.reg [⟨(some 16), none, (.p .mv), [(.t 5)], none⟩,
       ⟨(some 17), none, (.p (.bin .geq)), [(.t 16), (.c (.int .i32 (.ofNat 128)))], none⟩])
     (.keep [0, 1, 5, 6, 17] (.cond (.t 17)
      (.reg [⟨(some 19), none, (.p .mv), [(.t 0)], none⟩,
        ⟨(some 20), none, (.call 84), [(.t 19)], none⟩,
        ⟨(some 18), none, (.p .mv), [(.t 20)], none⟩,
        ⟨(some 21), none, (.p (.extract 0)), [(.t 18)], none⟩,
        ⟨(some 22), none, (.p (.extract 1)), [(.t 18)], none⟩,
        ⟨(some 5), none, (.p .mv), [(.t 21)], none⟩,
        ⟨(some 6), none, (.p .mv), [(.t 22)], none⟩])
      .skip)))
     (.keep [0, 1, 5, 6] (.seq (.seq (.reg [⟨(some 23), none, (.p .mv), [(.t 1)], none⟩,
       ⟨(some 24), none, (.p .mv), [(.t 5)], none⟩,
       ⟨(some 25), none, (.call 83), [(.t 23), (.t 24)], none⟩,
       ⟨(some 26), none, (.p (.un .not)), [(.t 25)], none⟩])
     (.keep [0, 1, 6, 26] (.cond (.t 26)
      (.keep [0] (.exit 0))
      .skip)))
     (.keep [0, 1, 6] (.reg [⟨(some 27), none, (.p .mv), [(.t 0)], none⟩,
       ⟨(some 28), none, (.p .mv), [(.t 0)], none⟩,
       ⟨(some 29), none, (.p .lenS), [(.t 28)], none⟩,
       ⟨(some 30), none, (.p .mv), [(.t 6)], none⟩,
       ⟨(some 31), none, (.p (.bin .sub)), [(.t 29), (.t 30)], none⟩,
       ⟨(some 32), none, (.p (.strSlice false true)), [(.t 27), (.t 31)], none⟩,
       ⟨(some 0), none, (.p .mv), [(.t 32)], none⟩])))))))))))))
  (.keep [0] (.seq (.reg [⟨(some 33), none, (.p .mv), [(.t 0)], none⟩,
    ⟨(some 4), none, (.p .mv), [(.t 33)], none⟩])
  (.keep [4] (.keep [4] .ret))))))),
  [(.t 4)]⟩
def s64_j0 (call : CallK) (N : Nat) (q : KV) (st : St) (τ : Tape) : Ans :=
  match st with
  | ⟨fr, H⟩ =>
  getK fr 0 fun t0 =>
  q t0 H τ
def s64_j2 (call : CallK) (N : Nat) (k : KC) (st : St) (τ : Tape) : Ans :=
  match st with
  | ⟨fr, H⟩ =>
  getK fr 0 fun t0 =>
  getK fr 1 fun t1 =>
  getK fr 5 fun t5 =>
  getK fr 6 fun t6 =>
  call 83 [t1, t5] H τ fun v7 H8 τ9 =>
  unK .not v7 fun v10 =>
  condK v10
    (k (.exit 0) ⟨(T.set .leaf 0 t0), H8⟩ τ9)
    (someK (pLenS [t0]) fun v11 =>
  binK .sub v11 t6 fun v12 =>
  someK (pStrSlice false true [t0, v12]) fun v13 =>
  k .normal ⟨(T.set (T.set (T.set (T.set (T.set (T.set (T.set (T.set (T.set (T.set .leaf 0 t0) 1 t1) 6 t6) 27 t0) 28 t0) 29 v11) 30 t6) 31 v12) 32 v13) 0 v13), H8⟩ τ9)
def s64_l1 (call : CallK) (N : Nat) (st : St) (τ : Tape) (k : KC) : Ans :=
  match st with
  | ⟨fr, H⟩ =>
  getK fr 0 fun t0 =>
  getK fr 1 fun t1 =>
  someK (pLenS [t0]) fun v0 =>
  binK .gtr v0 (.int .i64 (.ofNat 0)) fun v1 =>
  condK v1
    (someK (pLenS [t0]) fun v2 =>
  binK .sub v2 (.int .i64 (.ofNat 1)) fun v3 =>
  someK (pStrIndex [t0, v3]) fun v4 =>
  toIntK .i32 v4 fun v5 =>
  binK .geq v5 (.int .i32 (.ofNat 128)) fun v6 =>
  condK v6
    (call 84 [t0] H τ fun v14 H15 τ16 =>
  someK (pExtract 0 [v14]) fun v17 =>
  someK (pExtract 1 [v14]) fun v18 =>
  s64_j2 call N k ⟨(T.set (T.set (T.set (T.set (T.set (T.set (T.set (T.set (T.set (T.set (T.set (T.set .leaf 0 t0) 1 t1) 5 v5) 6 (.int .i64 (.ofNat 1))) 17 v6) 19 t0) 20 v14) 18 v14) 21 v17) 22 v18) 5 v17) 6 v18), H15⟩ τ16)
    (s64_j2 call N k ⟨(T.set (T.set (T.set (T.set (T.set .leaf 0 t0) 1 t1) 5 v5) 6 (.int .i64 (.ofNat 1))) 17 v6), H⟩ τ))
    (k (.exit 0) ⟨(T.set .leaf 0 t0), H⟩ τ)
def s64 (call : CallK) (N : Nat) (a0 a1 : V) (H : Heap) (τ : Tape) (q : KV) : Ans :=
  loopK (s64_l1 call N) N ⟨(T.set (T.set .leaf 0 a0) 1 a1), H⟩ τ (blockK 0 (seqK (s64_j0 call N q) (endK [(.t 4)] q)))
theorem s64_eq (call : CallK) (N : Nat) (a0 a1 : V) (H : Heap) (τ : Tape) (q : KV) : s64 call N a0 a1 H τ q = funK call N fn64 [a0, a1] H τ q := by kernel_rfl
def e64 (call : CallK) (N : Nat) (vs : List V) (H : Heap) (τ : Tape) (q : KV) : Ans := match vs with | [a0, a1] => s64 call N a0 a1 H τ q | _ => none
theorem e64_ok : EntOk fn64 e64 := by
  intro call N vs H τ q r h
  unfold e64 at h
  split at h
  · rw [s64_eq] at h; exact h
  · cases h
theorem e64_nat : EntNat e64 := by
  intro c hn N vs H τ q
  unfold e64
  split
  · rw [s64_eq, s64_eq]; exact funK_ent hn _ _ _ _ _ _
  · rfl
/-- internal/stringslite.CutPrefix -/
def fn65 : Fun := ⟨2,
  (.seq (.reg [⟨(some 4), none, (.p .mv), [(.c (.str []))], none⟩,
    ⟨(some 5), none, (.p .mv), [(.c (.bool false))], none⟩])
  (.keep [0, 1] (.seq (.seq (.reg [⟨(some 6), none, (.p .mv), [(.t 0)], none⟩,
    ⟨(some 7), none, (.p .mv), [(.t 1)], none⟩,
    ⟨(some 8), none, (.call 75), [(.t 6), (.t 7)], none⟩,
    ⟨(some 9), none, (.p (.un .not)), [(.t 8)], none⟩])
  (.keep [0, 1, 9] (.cond (.t 9)
   (.seq (.reg [⟨(some 10), none, (.p .mv), [(.t 0)], none⟩,
     ⟨(some 4), none, (.p .mv), [(.t 10)], none⟩,
     ⟨(some 5), none, (.p .mv), [(.c (.bool false))], none⟩])
   (.keep [4, 5] (.keep [4, 5] .ret)))
   .skip)))
  (.keep [0, 1] (.seq (.reg [⟨(some 11), none, (.p .mv), [(.t 0)], none⟩,
    ⟨(some 12), none, (.p .mv), [(.t 1)], none⟩,
    ⟨(some 13), none, (.p .lenS), [(.t 12)], none⟩,
    ⟨(some 14), none, (.p (.strSlice true false)), [(.t 11), (.t 13)], none⟩,
    ⟨(some 4), none, (.p .mv), [(.t 14)], none⟩,
    ⟨(some 5), none, (.p .mv), [(.c (.bool true))], none⟩])
  (.keep [4, 5] (.keep [4, 5] .ret))))))),
  [(.t 4), (.t 5)]⟩
def s65 (call : CallK) (N : Nat) (a0 a1 : V) (H : Heap) (τ : Tape) (q : KV) : Ans :=
  call 75 [a0, a1] H τ fun v0 H1 τ2 =>
  unK .not v0 fun v3 =>
  condK v3
    (q (.tup [a0, (.bool false)]) H1 τ2)
    (someK (pLenS [a1]) fun v4 =>
  someK (pStrSlice true false [a0, v4]) fun v5 =>
  q (.tup [v5, (.bool true)]) H1 τ2)
theorem s65_eq (call : CallK) (N : Nat) (a0 a1 : V) (H : Heap) (τ : Tape) (q : KV) : s65 call N a0 a1 H τ q = funK call N fn65 [a0, a1] H τ q := by kernel_rfl
def e65 (call : CallK) (N : Nat) (vs : List V) (H : Heap) (τ : Tape) (q : KV) : Ans := match vs with | [a0, a1] => s65 call N a0 a1 H τ q | _ => none
theorem e65_ok : EntOk fn65 e65 := by
  intro call N vs H τ q r h
  unfold e65 at h
  split at h
  · rw [s65_eq] at h; exact h
  · cases h
theorem e65_nat : EntNat e65 := by
  intro c hn N vs H τ q
  unfold e65
  split
  · rw [s65_eq, s65_eq]; exact funK_ent hn _ _ _ _ _ _
  · rfl
/-- internal/stringslite.Cut -/
def fn66 : Fun := ⟨2,
  (.seq (.reg [⟨(some 4), none, (.p .mv), [(.c (.str []))], none⟩,
    ⟨(some 5), none, (.p .mv), [(.c (.str []))], none⟩,
    ⟨(some 6), none, (.p .mv), [(.c (.bool false))], none⟩])
  (.keep [0, 1] (.seq (.seq (.reg [⟨(some 8), none, (.p .mv), [(.t 0)], none⟩,
    ⟨(some 9), none, (.p .mv), [(.t 1)], none⟩,
    ⟨(some 10), none, (.call 85), [(.t 8), (.t 9)], none⟩,
    ⟨(some 7), none, (.p .mv), [(.t 10)], none⟩])
  (.keep [0, 1, 7] (.seq (.reg [⟨(some 11), none, (.p .mv), [(.t 7)], none⟩,
    ⟨(some 12), none, (.p (.bin .geq)), [(.t 11), (.c (.int .i64 (.ofNat 0)))], none⟩])
  (.keep [0, 1, 7, 12] (.cond (.t 12)
   (.seq (.draw [⟨(some 13), none, (.p .mv), [(.t 0)], none⟩,
     ⟨(some 14), none, (.p .mv), [(.t 7)], none⟩,
     ⟨(some 15), none, (.p (.strSlice false true)), [(.t 13), (.t 14)], none⟩,
     ⟨(some 16), none, (.p .mv), [(.t 0)], none⟩,
     ⟨(some 17), none, (.p .mv), [(.t 7)], none⟩,
     ⟨(some 18), none, (.p .mv), [(.t 1)], none⟩,
     ⟨(some 19), none, (.p .lenS), [(.t 18)], none⟩,
     ⟨(some 20), none, (.p (.bin .add)), [(.t 17), (.t 19)], none⟩,
     ⟨(some 21), none, (.p (.strSlice true false)), [(.t 16), (.t 20)], none⟩,
     ⟨(some 4), none, (.p .mv), [(.t 15)], none⟩,
     ⟨(some 5), none, (.p .mv), [(.t 21)], none⟩,
     ⟨(some 6), none, (.p .mv), [(.c (.bool true))], none⟩])
   (.keep [4, 5, 6] (.keep [4, 5, 6] .ret)))
   .skip)))))
  (.keep [0] (.seq (.reg [⟨(some 22), none, (.p .mv), [(.t 0)], none⟩,
    ⟨(some 4), none, (.p .mv), [(.t 22)], none⟩,
    ⟨(some 5), none, (.p .mv), [(.c (.str []))], none⟩,
    ⟨(some 6), none, (.p .mv), [(.c (.bool false))], none⟩])
  (.keep [4, 5, 6] (.keep [4, 5, 6] .ret))))))),
  [(.t 4), (.t 5), (.t 6)]⟩
def s66 (call : CallK) (N : Nat) (a0 a1 : V) (H : Heap) (τ : Tape) (q : KV) : Ans :=
  call 85 [a0, a1] H τ fun v0 H1 τ2 =>
  binK .geq v0 (.int .i64 (.ofNat 0)) fun v3 =>
  condK v3
    (someK (pStrSlice false true [a0, v0]) fun v4 =>
  someK (pLenS [a1]) fun v5 =>
  binK .add v0 v5 fun v6 =>
  someK (pStrSlice true false [a0, v6]) fun v7 =>
  q (.tup [v4, v7, (.bool true)]) H1 τ2)
    (q (.tup [a0, (.str []), (.bool false)]) H1 τ2)
theorem s66_eq (call : CallK) (N : Nat) (a0 a1 : V) (H : Heap) (τ : Tape) (q : KV) : s66 call N a0 a1 H τ q = funK call N fn66 [a0, a1] H τ q := by kernel_rfl
def e66 (call : CallK) (N : Nat) (vs : List V) (H : Heap) (τ : Tape) (q : KV) : Ans := match vs with | [a0, a1] => s66 call N a0 a1 H τ q | _ => none
theorem e66_ok : EntOk fn66 e66 := by
  intro call N vs H τ q r h
  unfold e66 at h
  split at h
  · rw [s66_eq] at h; exact h
  · cases h
theorem e66_nat : EntNat e66 := by
  intro c hn N vs H τ q
  unfold e66
  split
  · rw [s66_eq, s66_eq]; exact funK_ent hn _ _ _ _ _ _
  · rfl
/-- ostiary/infra.Int -/
def fn67 : Fun := ⟨1,
  (.seq (.reg [⟨(some 2), none, (.p .mv), [(.c (.int .i64 (.ofNat 0)))], none⟩,
    ⟨(some 3), none, (.p .mv), [(.c (.bool false))], none⟩])
  (.keep [0] (.seq (.reg [⟨(some 4), none, (.p .mv), [(.c (.int .i64 (.ofNat 0)))], none⟩])
  (.keep [0, 4] (.seq (.seq (.reg [⟨(some 8), none, (.p .mv), [(.t 0)], none⟩,
    ⟨(some 9), none, (.p .lenS), [(.t 8)], none⟩,
    ⟨(some 10), none, (.p .mv), [(.c (.int .i64 (.ofNat 0)))], none⟩])
  (.keep [0, 4, 9, 10] (.block 0
   (.loop
    (.keep [0, 4, 9, 10] (.seq (.reg [⟨(some 11), none, (.p (.bin .lss)), [(.t 10), (.t 9)], none⟩])
    (.keep [0, 4, 9, 10, 11] (.seq (.cond (.t 11)
     .skip
     (.keep [0, 4] (.exit 0)))
    (.keep [0, 4, 9, 10] (.seq (.block 1
     (.seq (.reg [⟨(some 12), none, (.p .mv), [(.t 10)], none⟩,
       ⟨(some 5), none, (.p .mv), [(.t 12)], none⟩])
     (.keep [0, 4, 5, 9, 10] (.seq (.reg [⟨(some 13), none, (.p .mv), [(.t 0)], none⟩,
       ⟨(some 14), none, (.p .mv), [(.t 5)], none⟩,
       ⟨(some 15), none, (.p .strIndex), [(.t 13), (.t 14)], none⟩,
       ⟨(some 6), none, (.p .mv), [(.t 15)], none⟩])
     (.keep [0, 4, 6, 9, 10] (.seq (.seq (.reg [⟨(some 16), none, (.p .mv), [(.t 6)], none⟩,
       ⟨(some 17), none, (.p (.bin .lss)), [(.t 16), (.c (.int .u8 (.ofNat 48)))], none⟩,
       ⟨(some 18), none, (.p .mv), [(.t 17)], none⟩,
       ⟨(some 19), some (18, false), (.p .mv), [(.t 6)], none⟩,
       ⟨(some 20), some (18, false), (.p (.bin .gtr)), [(.t 19), (.c (.int .u8 (.ofNat 57)))], none⟩,
       ⟨(some 21), none, (.p .pick), [(.t 18), (.c (.bool true)), (.t 20)], none⟩])
     (.keep [0, 4, 6, 9, 10, 21] (.cond (.t 21)
      (.seq (.reg [⟨(some 2), none, (.p .mv), [(.c (.int .i64 (.ofNat 0)))], none⟩,
        ⟨(some 3), none, (.p .mv), [(.c (.bool false))], none⟩])
      (.keep [2, 3] (.keep [2, 3] .ret)))
      .skip)))
     (.keep [0, 4, 6, 9, 10] (.seq (.reg [⟨(some 22), none, (.p .mv), [(.t 6)], none⟩,
       ⟨(some 23), none, (.p (.bin .sub)), [(.t 22), (.c (.int .u8 (.ofNat 48)))], none⟩,
       ⟨(some 24), none, (.p (.toInt .i64)), [(.t 23)], none⟩,
       ⟨(some 7), none, (.p .mv), [(.t 24)], none⟩])
     (.keep [0, 4, 7, 9, 10] (.seq (.seq (.reg [⟨(some 25), none, (.p .mv), [(.t 4)], none⟩,
       ⟨(some 26), none, (.p .mv), [(.t 7)], none⟩,
       ⟨(some 27), none, (.p (.bin .sub)), [(.c (.int .i64 (.ofNat 9223372036854775807))), (.t 26)], none⟩,
       ⟨(some 28), none, (.p (.bin .quo)), [(.t 27), (.c (.int .i64 (.ofNat 10)))], none⟩,
       ⟨(some 29), none, (.p (.bin .gtr)), [(.t 25), (.t 28)], none⟩])
     (.keep [0, 4, 7, 9, 10, 29] (.cond (.t 29)
      (.seq (.reg [⟨(some 4), none, (.p .mv), [(.c (.int .i64 (.ofNat 9223372036854775807)))], none⟩])
      (.keep [0, 4, 9, 10] (.keep [0, 4, 9, 10] (.exit 1))))
      .skip)))
     (.keep [0, 4, 7, 9, 10] (.reg [⟨(some 30), none, (.p .mv), [(.t 4)], none⟩,
       ⟨(some 31), none, (.p (.bin .mul)), [(.t 30), (.c (.int .i64 (.ofNat 10)))], none⟩,
       ⟨(some 32), none, (.p .mv), [(.t 7)], none⟩,
       ⟨(some 33), none, (.p (.bin .add)), [(.t 31), (.t 32)], none⟩,
       ⟨(some 4), none, (.p .mv), [(.t 33)], none⟩]))))))))))))
    (.keep [0, 4, 9, 10] (.reg [⟨(some 34), none, (.p (.bin .add)), [(.t 10), (.c (.int .i64 (.ofNat 1)))], none⟩,
      ⟨(some 10), none, (.p .mv), [(.t 34)], none⟩]))))))))))))
  (.keep [0, 4] (.seq (.reg [⟨(some 35), none, (.p .mv), [(.t 4)], none⟩,
    ⟨(some 36), none, (.p .mv), [(.t 0)], none⟩,
    ⟨(some 37), none, (.p .lenS), [(.t 36)], none⟩,
    ⟨(some 38), none, (.p (.bin .gtr)), [(.t 37), (.c (.int .i64 (.ofNat 0)))], none⟩,
    ⟨(some 2), none, (.p .mv), [(.t 35)], none⟩,
    ⟨(some 3), none, (.p .mv), [(.t 38)], none⟩])
  (.keep [2, 3] (.keep [2, 3] .ret))))))))),
  [(.t 2), (.t 3)]⟩
def s67_j0 (call : CallK) (N : Nat) (q : KV) (st : St) (τ : Tape) : Ans :=
  match st with
  | ⟨fr, H⟩ =>
  getK fr 0 fun t0 =>
  getK fr 4 fun t4 =>
  someK (pLenS [t0]) fun v1 =>
  binK .gtr v1 (.int .i64 (.ofNat 0)) fun v2 =>
  q (.tup [t4, v2]) H τ
def s67_j2 (call : CallK) (N : Nat) (k : KC) (st : St) (τ : Tape) : Ans :=
  match st with
  | ⟨fr, H⟩ =>
  getK fr 0 fun t0 =>
  getK fr 4 fun t4 =>
  getK fr 9 fun t9 =>
  getK fr 10 fun t10 =>
  binK .add t10 (.int .i64 (.ofNat 1)) fun v4 =>
  k .normal ⟨(T.set (T.set (T.set (T.set (T.set (T.set .leaf 0 t0) 4 t4) 9 t9) 10 t10) 34 v4) 10 v4), H⟩ τ
def s67_l1 (call : CallK) (N : Nat) (st : St) (τ : Tape) (k : KC) : Ans :=
  match st with
  | ⟨fr, H⟩ =>
  getK fr 0 fun t0 =>
  getK fr 4 fun t4 =>
  getK fr 9 fun t9 =>
  getK fr 10 fun t10 =>
  binK .lss t10 t9 fun v3 =>
  condK v3
    (someK (pStrIndex [t0, t10]) fun v5 =>
  binK .lss v5 (.int .u8 (.ofNat 48)) fun v6 =>
  gK v6 false (fun q' => q' v5 H τ) H τ fun v7 H8 τ9 =>
  gK v6 false (fun q' => binK .gtr v7 (.int .u8 (.ofNat 57)) fun v => q' v H8 τ9) H8 τ9 fun v10 H11 τ12 =>
  someK (pPick [v6, (.bool true), v10]) fun v13 =>
  condK v13
    (k .ret ⟨(T.set (T.set .leaf 2 (.int .i64 (.ofNat 0))) 3 (.bool false)), H11⟩ τ12)
    (binK .sub v5 (.int .u8 (.ofNat 48)) fun v14 =>
  toIntK .i64 v14 fun v15 =>
  binK .sub (.int .i64 (.ofNat 9223372036854775807)) v15 fun v16 =>
  binK .quo v16 (.int .i64 (.ofNat 10)) fun v17 =>
  binK .gtr t4 v17 fun v18 =>
  condK v18
    (s67_j2 call N k ⟨(T.set (T.set (T.set (T.set .leaf 0 t0) 4 (.int .i64 (.ofNat 9223372036854775807))) 9 t9) 10 t10), H11⟩ τ12)
    (binK .mul t4 (.int .i64 (.ofNat 10)) fun v19 =>
  binK .add v19 v15 fun v20 =>
  s67_j2 call N k ⟨(T.set (T.set (T.set (T.set (T.set (T.set (T.set (T.set (T.set (T.set .leaf 0 t0) 4 t4) 7 v15) 9 t9) 10 t10) 30 t4) 31 v19) 32 v15) 33 v20) 4 v20), H11⟩ τ12)))
    (k (.exit 0) ⟨(T.set (T.set .leaf 0 t0) 4 t4), H⟩ τ)
def s67 (call : CallK) (N : Nat) (a0 : V) (H : Heap) (τ : Tape) (q : KV) : Ans :=
  someK (pLenS [a0]) fun v0 =>
  loopK (s67_l1 call N) N ⟨(T.set (T.set (T.set (T.set .leaf 0 a0) 4 (.int .i64 (.ofNat 0))) 9 v0) 10 (.int .i64 (.ofNat 0))), H⟩ τ (blockK 0 (seqK (s67_j0 call N q) (endK [(.t 2), (.t 3)] q)))
theorem s67_eq (call : CallK) (N : Nat) (a0 : V) (H : Heap) (τ : Tape) (q : KV) : s67 call N a0 H τ q = funK call N fn67 [a0] H τ q := by kernel_rfl
def e67 (call : CallK) (N : Nat) (vs : List V) (H : Heap) (τ : Tape) (q : KV) : Ans := match vs with | [a0] => s67 call N a0 H τ q | _ => none
theorem e67_ok : EntOk fn67 e67 := by
  intro call N vs H τ q r h
  unfold e67 at h
  split at h
  · rw [s67_eq] at h; exact h
  · cases h
theorem e67_nat : EntNat e67 := by
  intro c hn N vs H τ q
  unfold e67
  split
  · rw [s67_eq, s67_eq]; exact funK_ent hn _ _ _ _ _ _
  · rfl
/-- ostiary/infra.mapped -/
def fn68 : Fun := ⟨2,
  (.seq (.reg [⟨(some 4), none, (.p .mv), [(.c (.str []))], none⟩])
  (.keep [0, 1] (.seq (.reg [⟨(some 8), none, (.p .mv), [(.t 0)], none⟩,
    ⟨(some 9), none, (.e .strBytes), [(.t 8)], none⟩,
    ⟨(some 5), none, (.p .mv), [(.t 9)], none⟩])
  (.keep [1, 5] (.seq (.seq (.reg [⟨(some 10), none, (.p .mv), [(.t 5)], none⟩,
    ⟨(some 11), none, (.p .len), [(.t 10)], none⟩,
    ⟨(some 12), none, (.p .mv), [(.c (.int .i64 (.ofNat 0)))], none⟩])
  (.keep [1, 5, 10, 11, 12] (.block 0
   (.loop
    (.keep [1, 5, 10, 11, 12] (.seq (.reg [⟨(some 13), none, (.p (.bin .lss)), [(.t 12), (.t 11)], none⟩])
    (.keep [1, 5, 10, 11, 12, 13] (.seq (.cond (.t 13)
     .skip
     (.keep [5] (.exit 0)))
    (.keep [1, 5, 10, 11, 12] (.seq (.block 1
     (.seq (.reg [⟨(some 14), none, (.p .mv), [(.t 12)], none⟩,
       ⟨(some 15), none, (.p (.slIdx 1)), [(.t 10), (.t 12)], none⟩,
       ⟨(some 16), none, (.l (.load none)), [(.t 15)], none⟩,
       ⟨(some 6), none, (.p .mv), [(.t 14)], none⟩,
       ⟨(some 7), none, (.p .mv), [(.t 16)], none⟩])
     (.keep [1, 5, 6, 7, 10, 11, 12] (.reg [⟨(some 17), none, (.p .mv), [(.t 5)], none⟩,
       ⟨(some 18), none, (.p .mv), [(.t 6)], none⟩,
       ⟨(some 19), none, (.p .mv), [(.t 1)], none⟩,
       ⟨(some 20), none, (.p .mv), [(.t 7)], none⟩,
       ⟨(some 21), none, .callv, [(.t 19), (.t 20)], none⟩,
       ⟨(some 22), none, (.p (.slIdx 1)), [(.t 17), (.t 18)], none⟩,
       ⟨none, none, (.e (.store 1)), [(.t 22), (.t 21)], none⟩]))))
    (.keep [1, 5, 10, 11, 12] (.reg [⟨(some 23), none, (.p (.bin .add)), [(.t 12), (.c (.int .i64 (.ofNat 1)))], none⟩,
      ⟨(some 12), none, (.p .mv), [(.t 23)], none⟩]))))))))))))
  (.keep [5] (.seq (.reg [⟨(some 24), none, (.p .mv), [(.t 5)], none⟩,
    ⟨(some 25), none, (.l .bytesStr), [(.t 24)], none⟩,
    ⟨(some 4), none, (.p .mv), [(.t 25)], none⟩])
  (.keep [4] (.keep [4] .ret))))))))),
  [(.t 4)]⟩
def s68_j0 (call : CallK) (N : Nat) (q : KV) (st : St) (τ : Tape) : Ans :=
  match st with
  | ⟨fr, H⟩ =>
  getK fr 5 fun t5 =>
  someK (lBytesStr [t5] H) fun v4 =>
  q v4 H τ
def s68_l1 (call : CallK) (N : Nat) (st : St) (τ : Tape) (k : KC) : Ans :=
  match st with
  | ⟨fr, H⟩ =>
  getK fr 1 fun t1 =>
  getK fr 5 fun t5 =>
  getK fr 10 fun t10 =>
  getK fr 11 fun t11 =>
  getK fr 12 fun t12 =>
  binK .lss t12 t11 fun v5 =>
  condK v5
    (someK (pSlIdx 1 [t10, t12]) fun v6 =>
  someK (lLoad1 [v6] H) fun v7 =>
  opK call .callv [t1, v7] H τ fun v8 H9 τ10 =>
  someK (pSlIdx 1 [t5, t12]) fun v11 =>
  effK (eStore 1 [v11, v8] H9 τ10) fun v12 H13 τ14 =>
  binK .add t12 (.int .i64 (.ofNat 1)) fun v15 =>
  k .normal ⟨(T.set (T.set (T.set (T.set (T.set (T.set (T.set .leaf 1 t1) 5 t5) 10 t10) 11 t11) 12 t12) 23 v15) 12 v15), H13⟩ τ14)
    (k (.exit 0) ⟨(T.set .leaf 5 t5), H⟩ τ)
def s68 (call : CallK) (N : Nat) (a0 a1 : V) (H : Heap) (τ : Tape) (q : KV) : Ans :=
  effK (eStrBytes [a0] H τ) fun v0 H1 τ2 =>
  someK (pLen [v0]) fun v3 =>
  loopK (s68_l1 call N) N ⟨(T.set (T.set (T.set (T.set (T.set .leaf 1 a1) 5 v0) 10 v0) 11 v3) 12 (.int .i64 (.ofNat 0))), H1⟩ τ2 (blockK 0 (seqK (s68_j0 call N q) (endK [(.t 4)] q)))
theorem s68_eq (call : CallK) (N : Nat) (a0 a1 : V) (H : Heap) (τ : Tape) (q : KV) : s68 call N a0 a1 H τ q = funK call N fn68 [a0, a1] H τ q := by kernel_rfl
def e68 (call : CallK) (N : Nat) (vs : List V) (H : Heap) (τ : Tape) (q : KV) : Ans := match vs with | [a0, a1] => s68 call N a0 a1 H τ q | _ => none
theorem e68_ok : EntOk fn68 e68 := by
  intro call N vs H τ q r h
  unfold e68 at h
  split at h
  · rw [s68_eq] at h; exact h
  · cases h
theorem e68_nat : EntNat e68 := by
  intro c hn N vs H τ q
  unfold e68
  split
  · rw [s68_eq, s68_eq]; exact funK_ent hn _ _ _ _ _ _
  · rfl
/-- ostiary/infra.Lower$1 -/
def fn69 : Fun := ⟨1,
  (.seq (.reg [⟨(some 2), none, (.p .mv), [(.c (.int .u8 (.ofNat 0)))], none⟩])
  (.keep [0] (.seq (.seq (.reg [⟨(some 3), none, (.p .mv), [(.t 0)], none⟩,
    ⟨(some 4), none, (.p (.bin .geq)), [(.t 3), (.c (.int .u8 (.ofNat 65)))], none⟩,
    ⟨(some 5), none, (.p .mv), [(.t 4)], none⟩,
    ⟨(some 6), some (5, true), (.p .mv), [(.t 0)], none⟩,
    ⟨(some 7), some (5, true), (.p (.bin .leq)), [(.t 6), (.c (.int .u8 (.ofNat 90)))], none⟩,
    ⟨(some 8), none, (.p .pick), [(.t 5), (.t 7), (.c (.bool false))], none⟩])
  (.keep [0, 8] (.cond (.t 8)
   (.reg [⟨(some 9), none, (.p .mv), [(.t 0)], none⟩,
     ⟨(some 10), none, (.p (.bin .add)), [(.t 9), (.c (.int .u8 (.ofNat 32)))], none⟩,
     ⟨(some 0), none, (.p .mv), [(.t 10)], none⟩])
   .skip)))
  (.keep [0] (.seq (.reg [⟨(some 11), none, (.p .mv), [(.t 0)], none⟩,
    ⟨(some 2), none, (.p .mv), [(.t 11)], none⟩])
  (.keep [2] (.keep [2] .ret))))))),
  [(.t 2)]⟩
def s69_j0 (call : CallK) (N : Nat) (q : KV) (st : St) (τ : Tape) : Ans :=
  match st with
  | ⟨fr, H⟩ =>
  getK fr 0 fun t0 =>
  q t0 H τ
def s69 (call : CallK) (N : Nat) (a0 : V) (H : Heap) (τ : Tape) (q : KV) : Ans :=
  binK .geq a0 (.int .u8 (.ofNat 65)) fun v0 =>
  gK v0 true (fun q' => q' a0 H τ) H τ fun v1 H2 τ3 =>
  gK v0 true (fun q' => binK .leq v1 (.int .u8 (.ofNat 90)) fun v => q' v H2 τ3) H2 τ3 fun v4 H5 τ6 =>
  someK (pPick [v0, v4, (.bool false)]) fun v7 =>
  condK v7
    (binK .add a0 (.int .u8 (.ofNat 32)) fun v8 =>
  s69_j0 call N q ⟨(T.set (T.set (T.set (T.set (T.set .leaf 0 a0) 8 v7) 9 a0) 10 v8) 0 v8), H5⟩ τ6)
    (s69_j0 call N q ⟨(T.set (T.set .leaf 0 a0) 8 v7), H5⟩ τ6)
theorem s69_eq (call : CallK) (N : Nat) (a0 : V) (H : Heap) (τ : Tape) (q : KV) : s69 call N a0 H τ q = funK call N fn69 [a0] H τ q := by kernel_rfl
def e69 (call : CallK) (N : Nat) (vs : List V) (H : Heap) (τ : Tape) (q : KV) : Ans := match vs with | [a0] => s69 call N a0 H τ q | _ => none
theorem e69_ok : EntOk fn69 e69 := by
  intro call N vs H τ q r h
  unfold e69 at h
  split at h
  · rw [s69_eq] at h; exact h
  · cases h
theorem e69_nat : EntNat e69 := by
  intro c hn N vs H τ q
  unfold e69
  split
  · rw [s69_eq, s69_eq]; exact funK_ent hn _ _ _ _ _ _
  · rfl
/-- strings.IndexByte -/
def fn70 : Fun := ⟨2,
  (.seq (.reg [⟨(some 4), none, (.p .mv), [(.c (.int .i64 (.ofNat 0)))], none⟩])
  (.keep [0, 1] (.seq (.reg [⟨(some 5), none, (.p .mv), [(.t 0)], none⟩,
    ⟨(some 6), none, (.p .mv), [(.t 1)], none⟩,
    ⟨(some 7), none, (.call 86), [(.t 5), (.t 6)], none⟩,
    ⟨(some 4), none, (.p .mv), [(.t 7)], none⟩])
  (.keep [4] (.keep [4] .ret))))),
  [(.t 4)]⟩
def s70 (call : CallK) (N : Nat) (a0 a1 : V) (H : Heap) (τ : Tape) (q : KV) : Ans :=
  call 86 [a0, a1] H τ fun v0 H1 τ2 =>
  q v0 H1 τ2
theorem s70_eq (call : CallK) (N : Nat) (a0 a1 : V) (H : Heap) (τ : Tape) (q : KV) : s70 call N a0 a1 H τ q = funK call N fn70 [a0, a1] H τ q := by kernel_rfl
def e70 (call : CallK) (N : Nat) (vs : List V) (H : Heap) (τ : Tape) (q : KV) : Ans := match vs with | [a0, a1] => s70 call N a0 a1 H τ q | _ => none
theorem e70_ok : EntOk fn70 e70 := by
  intro call N vs H τ q r h
  unfold e70 at h
  split at h
  · rw [s70_eq] at h; exact h
  · cases h
theorem e70_nat : EntNat e70 := by
  intro c hn N vs H τ q
  unfold e70
  split
  · rw [s70_eq, s70_eq]; exact funK_ent hn _ _ _ _ _ _
  · rfl
/-- internal/stringslite.HasPrefix -/
def fn75 : Fun := ⟨2,
  (.seq (.reg [⟨(some 4), none, (.p .mv), [(.c (.bool false))], none⟩])
  (.keep [0, 1] (.seq (.reg [⟨(some 5), none, (.p .mv), [(.t 0)], none⟩,
    ⟨(some 6), none, (.p .lenS), [(.t 5)], none⟩,
    ⟨(some 7), none, (.p .mv), [(.t 1)], none⟩,
    ⟨(some 8), none, (.p .lenS), [(.t 7)], none⟩,
    ⟨(some 9), none, (.p (.bin .geq)), [(.t 6), (.t 8)], none⟩,
    ⟨(some 10), none, (.p .mv), [(.t 9)], none⟩,
    ⟨(some 11), some (10, true), (.p .mv), [(.t 0)], none⟩,
    ⟨(some 12), some (10, true), (.p .mv), [(.t 1)], none⟩,
    ⟨(some 13), some (10, true), (.p .lenS), [(.t 12)], none⟩,
    ⟨(some 14), some (10, true), (.p (.strSlice false true)), [(.t 11), (.t 13)], none⟩,
    ⟨(some 15), some (10, true), (.p .mv), [(.t 1)], none⟩,
    ⟨(some 16), some (10, true), (.p (.bin .eql)), [(.t 14), (.t 15)], none⟩,
    ⟨(some 17), none, (.p .pick), [(.t 10), (.t 16), (.c (.bool false))], none⟩,
    ⟨(some 4), none, (.p .mv), [(.t 17)], none⟩])
  (.keep [4] (.keep [4] .ret))))),
  [(.t 4)]⟩
def s75 (call : CallK) (N : Nat) (a0 a1 : V) (H : Heap) (τ : Tape) (q : KV) : Ans :=
  someK (pLenS [a0]) fun v0 =>
  someK (pLenS [a1]) fun v1 =>
  binK .geq v0 v1 fun v2 =>
  gK v2 true (fun q' => q' a0 H τ) H τ fun v3 H4 τ5 =>
  gK v2 true (fun q' => q' a1 H4 τ5) H4 τ5 fun v6 H7 τ8 =>
  gK v2 true (fun q' => someK (pLenS [v6]) fun v => q' v H7 τ8) H7 τ8 fun v9 H10 τ11 =>
  gK v2 true (fun q' => someK (pStrSlice false true [v3, v9]) fun v => q' v H10 τ11) H10 τ11 fun v12 H13 τ14 =>
  gK v2 true (fun q' => q' a1 H13 τ14) H13 τ14 fun v15 H16 τ17 =>
  gK v2 true (fun q' => binK .eql v12 v15 fun v => q' v H16 τ17) H16 τ17 fun v18 H19 τ20 =>
  someK (pPick [v2, v18, (.bool false)]) fun v21 =>
  q v21 H19 τ20
theorem s75_eq (call : CallK) (N : Nat) (a0 a1 : V) (H : Heap) (τ : Tape) (q : KV) : s75 call N a0 a1 H τ q = funK call N fn75 [a0, a1] H τ q := by kernel_rfl
def e75 (call : CallK) (N : Nat) (vs : List V) (H : Heap) (τ : Tape) (q : KV) : Ans := match vs with | [a0, a1] => s75 call N a0 a1 H τ q | _ => none
theorem e75_ok : EntOk fn75 e75 := by
  intro call N vs H τ q r h
  unfold e75 at h
  split at h
  · rw [s75_eq] at h; exact h
  · cases h
theorem e75_nat : EntNat e75 := by
  intro c hn N vs H τ q
  unfold e75
  split
  · rw [s75_eq, s75_eq]; exact funK_ent hn _ _ _ _ _ _
  · rfl
/-- (*strings.asciiSet).contains -/
def fn81 : Fun := ⟨2,
  (.seq (.reg [⟨(some 4), none, (.p .mv), [(.c (.bool false))], none⟩])
  (.keep [0, 1] (.seq (.reg [⟨(some 5), none, (.p .mv), [(.t 0)], none⟩,
    ⟨(some 6), none, (.p .mv), [(.t 1)], none⟩,
    ⟨(some 7), none, (.p .nilck), [(.t 5)], none⟩,
    ⟨(some 8), none, (.p (.arrIdx 256 1)), [(.t 7), (.t 6)], none⟩,
    ⟨(some 9), none, (.l (.load none)), [(.t 8)], none⟩,
    ⟨(some 4), none, (.p .mv), [(.t 9)], none⟩])
  (.keep [4] (.keep [4] .ret))))),
  [(.t 4)]⟩
def s81 (call : CallK) (N : Nat) (a0 a1 : V) (H : Heap) (τ : Tape) (q : KV) : Ans :=
  someK (pNilck [a0]) fun v0 =>
  someK (pArrIdx 256 1 [v0, a1]) fun v1 =>
  someK (lLoad1 [v1] H) fun v2 =>
  q v2 H τ
theorem s81_eq (call : CallK) (N : Nat) (a0 a1 : V) (H : Heap) (τ : Tape) (q : KV) : s81 call N a0 a1 H τ q = funK call N fn81 [a0, a1] H τ q := by kernel_rfl
def e81 (call : CallK) (N : Nat) (vs : List V) (H : Heap) (τ : Tape) (q : KV) : Ans := match vs with | [a0, a1] => s81 call N a0 a1 H τ q | _ => none
theorem e81_ok : EntOk fn81 e81 := by
  intro call N vs H τ q r h
  unfold e81 at h
  split at h
  · rw [s81_eq] at h; exact h
  · cases h
theorem e81_nat : EntNat e81 := by
  intro c hn N vs H τ q
  unfold e81
  split
  · rw [s81_eq, s81_eq]; exact funK_ent hn _ _ _ _ _ _
  · rfl
/-- unicode/utf8.DecodeRuneInString -/
def fn82 : Fun := ⟨1,
  (.seq (.reg [⟨(some 2), none, (.p .mv), [(.c (.int .i32 (.ofNat 0)))], none⟩,
    ⟨(some 3), none, (.p .mv), [(.c (.int .i64 (.ofNat 0)))], none⟩])
  (.keep [0] (.seq (.seq (.reg [⟨(some 4), none, (.p .mv), [(.t 0)], none⟩,
    ⟨(some 5), none, (.p (.bin .neq)), [(.t 4), (.c (.str []))], none⟩,
    ⟨(some 6), none, (.p .mv), [(.t 5)], none⟩,
    ⟨(some 7), some (6, true), (.p .mv), [(.t 0)], none⟩,
    ⟨(some 8), some (6, true), (.p .strIndex), [(.t 7), (.c (.int .i64 (.ofNat 0)))], none⟩,
    ⟨(some 9), some (6, true), (.p (.bin .lss)), [(.t 8), (.c (.int .u8 (.ofNat 128)))], none⟩,
    ⟨(some 10), none, (.p .pick), [(.t 6), (.t 9), (.c (.bool false))], none⟩])
  (.keep [0, 10] (.cond (.t 10)
   (.seq (.reg [⟨(some 11), none, (.p .mv), [(.t 0)], none⟩,
     ⟨(some 12), none, (.p .strIndex), [(.t 11), (.c (.int .i64 (.ofNat 0)))], none⟩,
     ⟨(some 13), none, (.p (.toInt .i32)), [(.t 12)], none⟩,
     ⟨(some 2), none, (.p .mv), [(.t 13)], none⟩,
     ⟨(some 3), none, (.p .mv), [(.c (.int .i64 (.ofNat 1)))], none⟩])
   (.keep [2, 3] (.keep [2, 3] .ret)))
   (.reg [⟨(some 15), none, (.p .mv), [(.t 0)], none⟩,
     ⟨(some 16), none, (.call 105), [(.t 15)], none⟩,
     ⟨(some 14), none, (.p .mv), [(.t 16)], none⟩,
     ⟨(some 17), none, (.p (.extract 0)), [(.t 14)], none⟩,
     ⟨(some 18), none, (.p (.extract 1)), [(.t 14)], none⟩,
     ⟨(some 2), none, (.p .mv), [(.t 17)], none⟩,
     ⟨(some 3), none, (.p .mv), [(.t 18)], none⟩]))))
  (.keep [2, 3] (.keep [2, 3] .ret))))),
  [(.t 2), (.t 3)]⟩
def s82 (call : CallK) (N : Nat) (a0 : V) (H : Heap) (τ : Tape) (q : KV) : Ans :=
  binK .neq a0 (.str []) fun v0 =>
  gK v0 true (fun q' => q' a0 H τ) H τ fun v1 H2 τ3 =>
  gK v0 true (fun q' => someK (pStrIndex [v1, (.int .i64 (.ofNat 0))]) fun v => q' v H2 τ3) H2 τ3 fun v4 H5 τ6 =>
  gK v0 true (fun q' => binK .lss v4 (.int .u8 (.ofNat 128)) fun v => q' v H5 τ6) H5 τ6 fun v7 H8 τ9 =>
  someK (pPick [v0, v7, (.bool false)]) fun v10 =>
  condK v10
    (someK (pStrIndex [a0, (.int .i64 (.ofNat 0))]) fun v11 =>
  toIntK .i32 v11 fun v12 =>
  q (.tup [v12, (.int .i64 (.ofNat 1))]) H8 τ9)
    (call 105 [a0] H8 τ9 fun v13 H14 τ15 =>
  someK (pExtract 0 [v13]) fun v16 =>
  someK (pExtract 1 [v13]) fun v17 =>
  q (.tup [v16, v17]) H14 τ15)
theorem s82_eq (call : CallK) (N : Nat) (a0 : V) (H : Heap) (τ : Tape) (q : KV) : s82 call N a0 H τ q = funK call N fn82 [a0] H τ q := by kernel_rfl
def e82 (call : CallK) (N : Nat) (vs : List V) (H : Heap) (τ : Tape) (q : KV) : Ans := match vs with | [a0] => s82 call N a0 H τ q | _ => none
theorem e82_ok : EntOk fn82 e82 := by
  intro call N vs H τ q r h
  unfold e82 at h
  split at h
  · rw [s82_eq] at h; exact h
  · cases h
theorem e82_nat : EntNat e82 := by
  intro c hn N vs H τ q
  unfold e82
  split
  · rw [s82_eq, s82_eq]; exact funK_ent hn _ _ _ _ _ _
  · rfl
/-- strings.ContainsRune -/
def fn83 : Fun := ⟨2,
  (.seq (.reg [⟨(some 4), none, (.p .mv), [(.c (.bool false))], none⟩])
  (.keep [0, 1] (.seq (.reg [⟨(some 5), none, (.p .mv), [(.t 0)], none⟩,
    ⟨(some 6), none, (.p .mv), [(.t 1)], none⟩,
    ⟨(some 7), none, (.call 92), [(.t 5), (.t 6)], none⟩,
    ⟨(some 8), none, (.p (.bin .geq)), [(.t 7), (.c (.int .i64 (.ofNat 0)))], none⟩,
    ⟨(some 4), none, (.p .mv), [(.t 8)], none⟩])
  (.keep [4] (.keep [4] .ret))))),
  [(.t 4)]⟩
def s83 (call : CallK) (N : Nat) (a0 a1 : V) (H : Heap) (τ : Tape) (q : KV) : Ans :=
  call 92 [a0, a1] H τ fun v0 H1 τ2 =>
  binK .geq v0 (.int .i64 (.ofNat 0)) fun v3 =>
  q v3 H1 τ2
theorem s83_eq (call : CallK) (N : Nat) (a0 a1 : V) (H : Heap) (τ : Tape) (q : KV) : s83 call N a0 a1 H τ q = funK call N fn83 [a0, a1] H τ q := by kernel_rfl
def e83 (call : CallK) (N : Nat) (vs : List V) (H : Heap) (τ : Tape) (q : KV) : Ans := match vs with | [a0, a1] => s83 call N a0 a1 H τ q | _ => none
theorem e83_ok : EntOk fn83 e83 := by
  intro call N vs H τ q r h
  unfold e83 at h
  split at h
  · rw [s83_eq] at h; exact h
  · cases h
theorem e83_nat : EntNat e83 := by
  intro c hn N vs H τ q
  unfold e83
  split
  · rw [s83_eq, s83_eq]; exact funK_ent hn _ _ _ _ _ _
  · rfl
/-- unicode/utf8.DecodeLastRuneInString -/
def fn84 : Fun := ⟨1,
  (.seq (.reg [⟨(some 2), none, (.p .mv), [(.c (.int .i32 (.ofNat 0)))], none⟩,
    ⟨(some 3), none, (.p .mv), [(.c (.int .i64 (.ofNat 0)))], none⟩])
  (.keep [0] (.seq (.reg [⟨(some 7), none, (.p .mv), [(.t 0)], none⟩,
    ⟨(some 8), none, (.p .lenS), [(.t 7)], none⟩,
    ⟨(some 4), none, (.p .mv), [(.t 8)], none⟩])
  (.keep [0, 4] (.seq (.seq (.reg [⟨(some 9), none, (.p .mv), [(.t 4)], none⟩,
    ⟨(some 10), none, (.p (.bin .eql)), [(.t 9), (.c (.int .i64 (.ofNat 0)))], none⟩])
  (.keep [0, 4, 10] (.cond (.t 10)
   (.seq (.reg [⟨(some 2), none, (.p .mv), [(.c (.int .i32 (.ofNat 65533)))], none⟩,
     ⟨(some 3), none, (.p .mv), [(.c (.int .i64 (.ofNat 0)))], none⟩])
   (.keep [2, 3] (.keep [2, 3] .ret)))
   .skip)))
  (.keep [0, 4] (.seq (.reg [⟨(some 11), none, (.p .mv), [(.t 4)], none⟩,
    ⟨(some 12), none, (.p (.bin .sub)), [(.t 11), (.c (.int .i64 (.ofNat 1)))], none⟩,
    ⟨(some 5), none, (.p .mv), [(.t 12)], none⟩])
  (.keep [0, 4, 5] (.seq (.reg [⟨(some 13), none, (.p .mv), [(.t 0)], none⟩,
    ⟨(some 14), none, (.p .mv), [(.t 5)], none⟩,
    ⟨(some 15), none, (.p .strIndex), [(.t 13), (.t 14)], none⟩,
    ⟨(some 16), none, (.p (.toInt .i32)), [(.t 15)], none⟩,
    ⟨(some 2), none, (.p .mv), [(.t 16)], none⟩])
  (.keep [0, 2, 4, 5] (.seq (.seq (.reg [⟨(some 17), none, (.p .mv), [(.t 2)], none⟩,
    ⟨(some 18), none, (.p (.bin .lss)), [(.t 17), (.c (.int .i32 (.ofNat 128)))], none⟩])
  (.keep [0, 2, 4, 5, 18] (.cond (.t 18)
   (.seq (.reg [⟨(some 19), none, (.p .mv), [(.t 2)], none⟩,
     ⟨(some 2), none, (.p .mv), [(.t 19)], none⟩,
     ⟨(some 3), none, (.p .mv), [(.c (.int .i64 (.ofNat 1)))], none⟩])
   (.keep [2, 3] (.keep [2, 3] .ret)))
   .skip)))
  (.keep [0, 4, 5] (.seq (.reg [⟨(some 20), none, (.p .mv), [(.t 4)], none⟩,
    ⟨(some 21), none, (.p (.bin .sub)), [(.t 20), (.c (.int .i64 (.ofNat 4)))], none⟩,
    ⟨(some 22), none, (.p .max2), [(.t 21), (.c (.int .i64 (.ofNat 0)))], none⟩,
    ⟨(some 6), none, (.p .mv), [(.t 22)], none⟩])
  (.keep [0, 4, 5, 6] (.seq (.seq (.reg [⟨(some 23), none, (.p .mv), [(.t 5)], none⟩,
    ⟨(some 24), none, (.p (.bin .sub)), [(.t 23), (.c (.int .i64 (.ofNat 1)))], none⟩,
    ⟨(some 5), none, (.p .mv), [(.t 24)], none⟩])
  (.keep [0, 4, 5, 6] (.block 0
   (.loop
    (.keep [0, 4, 5, 6] (.seq (.seq (.reg [⟨(some 25), none, (.p .mv), [(.t 5)], none⟩,
      ⟨(some 26), none, (.p .mv), [(.t 6)], none⟩,
      ⟨(some 27), none, (.p (.bin .geq)), [(.t 25), (.t 26)], none⟩])
    (.keep [0, 4, 5, 6, 27] (.cond (.t 27)
     .skip
     (.keep [0, 4, 5] (.exit 0)))))
    (.keep [0, 4, 5, 6] (.seq (.block 1
     (.seq (.reg [⟨(some 30), none, (.p .mv), [(.t 0)], none⟩,
       ⟨(some 31), none, (.p .mv), [(.t 5)], none⟩,
       ⟨(some 32), none, (.p .strIndex), [(.t 30), (.t 31)], none⟩,
       ⟨(some 33), none, (.call 106), [(.t 32)], none⟩])
     (.keep [0, 4, 5, 6, 33] (.cond (.t 33)
      (.keep [0, 4, 5] (.exit 0))
      .skip))))
    (.keep [0, 4, 5, 6] (.reg [⟨(some 28), none, (.p .mv), [(.t 5)], none⟩,
      ⟨(some 29), none, (.p (.bin .sub)), [(.t 28), (.c (.int .i64 (.ofNat 1)))], none⟩,
      ⟨(some 5), none, (.p .mv), [(.t 29)], none⟩]))))))))))
  (.keep [0, 4, 5] (.seq (.seq (.reg [⟨(some 34), none, (.p .mv), [(.t 5)], none⟩,
    ⟨(some 35), none, (.p (.bin .lss)), [(.t 34), (.c (.int .i64 (.ofNat 0)))], none⟩])
  (.keep [0, 4, 5, 35] (.cond (.t 35)
   (.reg [⟨(some 5), none, (.p .mv), [(.c (.int .i64 (.ofNat 0)))], none⟩])
   .skip)))
  (.keep [0, 4, 5] (.seq (.reg [⟨(some 37), none, (.p .mv), [(.t 0)], none⟩,
    ⟨(some 38), none, (.p .mv), [(.t 5)], none⟩,
    ⟨(some 39), none, (.p .mv), [(.t 4)], none⟩,
    ⟨(some 40), none, (.p (.strSlice true true)), [(.t 37), (.t 38), (.t 39)], none⟩,
    ⟨(some 41), none, (.call 82), [(.t 40)], none⟩,
    ⟨(some 36), none, (.p .mv), [(.t 41)], none⟩,
    ⟨(some 42), none, (.p (.extract 0)), [(.t 36)], none⟩,
    ⟨(some 43), none, (.p (.extract 1)), [(.t 36)], none⟩,
    ⟨(some 2), none, (.p .mv), [(.t 42)], none⟩,
    ⟨(some 3), none, (.p .mv), [(.t 43)], none⟩])
  (.keep [2, 3, 4, 5] (.seq (.seq (.reg [⟨(some 44), none, (.p .mv), [(.t 5)], none⟩,
    ⟨(some 45), none, (.p .mv), [(.t 3)], none⟩,
    ⟨(some 46), none, (.p (.bin .add)), [(.t 44), (.t 45)], none⟩,
    ⟨(some 47), none, (.p .mv), [(.t 4)], none⟩,
    ⟨(some 48), none, (.p (.bin .neq)), [(.t 46), (.t 47)], none⟩])
  (.keep [2, 3, 48] (.cond (.t 48)
   (.seq (.reg [⟨(some 2), none, (.p .mv), [(.c (.int .i32 (.ofNat 65533)))], none⟩,
     ⟨(some 3), none, (.p .mv), [(.c (.int .i64 (.ofNat 1)))], none⟩])
   (.keep [2, 3] (.keep [2, 3] .ret)))
   .skip)))
  (.keep [2, 3] (.seq (.reg [⟨(some 49), none, (.p .mv), [(.t 2)], none⟩,
    ⟨(some 50), none, (.p .mv), [(.t 3)], none⟩,
    ⟨(some 2), none, (.p .mv), [(.t 49)], none⟩,
    ⟨(some 3), none, (.p .mv), [(.t 50)], none⟩])
  (.keep [2, 3] (.keep [2, 3] .ret))))))))))))))))))))))))),
  [(.t 2), (.t 3)]⟩
def s84_j1 (call : CallK) (N : Nat) (q : KV) (st : St) (τ : Tape) : Ans :=
  match st with
  | ⟨fr, H⟩ =>
  getK fr 0 fun t0 =>
  getK fr 4 fun t4 =>
  getK fr 5 fun t5 =>
  someK (pStrSlice true true [t0, t5, t4]) fun v10 =>
  call 82 [v10] H τ fun v11 H12 τ13 =>
  someK (pExtract 0 [v11]) fun v14 =>
  someK (pExtract 1 [v11]) fun v15 =>
  binK .add t5 v15 fun v16 =>
  binK .neq v16 t4 fun v17 =>
  condK v17
    (q (.tup [(.int .i32 (.ofNat 65533)), (.int .i64 (.ofNat 1))]) H12 τ13)
    (q (.tup [v14, v15]) H12 τ13)
def s84_j0 (call : CallK) (N : Nat) (q : KV) (st : St) (τ : Tape) : Ans :=
  match st with
  | ⟨fr, H⟩ =>
  getK fr 0 fun t0 =>
  getK fr 4 fun t4 =>
  getK fr 5 fun t5 =>
  binK .lss t5 (.int .i64 (.ofNat 0)) fun v9 =>
  condK v9
    (s84_j1 call N q ⟨(T.set (T.set (T.set (T.set (T.set .leaf 0 t0) 4 t4) 5 t5) 35 v9) 5 (.int .i64 (.ofNat 0))), H⟩ τ)
    (s84_j1 call N q ⟨(T.set (T.set (T.set (T.set .leaf 0 t0) 4 t4) 5 t5) 35 v9), H⟩ τ)
def s84_l2 (call : CallK) (N : Nat) (st : St) (τ : Tape) (k : KC) : Ans :=
  match st with
  | ⟨fr, H⟩ =>
  getK fr 0 fun t0 =>
  getK fr 4 fun t4 =>
  getK fr 5 fun t5 =>
  getK fr 6 fun t6 =>
  binK .geq t5 t6 fun v18 =>
  condK v18
    (someK (pStrIndex [t0, t5]) fun v19 =>
  call 106 [v19] H τ fun v20 H21 τ22 =>
  condK v20
    (k (.exit 0) ⟨(T.set (T.set (T.set .leaf 0 t0) 4 t4) 5 t5), H21⟩ τ22)
    (binK .sub t5 (.int .i64 (.ofNat 1)) fun v23 =>
  k .normal ⟨(T.set (T.set (T.set (T.set (T.set (T.set (T.set .leaf 0 t0) 4 t4) 5 t5) 6 t6) 28 t5) 29 v23) 5 v23), H21⟩ τ22))
    (k (.exit 0) ⟨(T.set (T.set (T.set .leaf 0 t0) 4 t4) 5 t5), H⟩ τ)
def s84 (call : CallK) (N : Nat) (a0 : V) (H : Heap) (τ : Tape) (q : KV) : Ans :=
  someK (pLenS [a0]) fun v0 =>
  binK .eql v0 (.int .i64 (.ofNat 0)) fun v1 =>
  condK v1
    (q (.tup [(.int .i32 (.ofNat 65533)), (.int .i64 (.ofNat 0))]) H τ)
    (binK .sub v0 (.int .i64 (.ofNat 1)) fun v2 =>
  someK (pStrIndex [a0, v2]) fun v3 =>
  toIntK .i32 v3 fun v4 =>
  binK .lss v4 (.int .i32 (.ofNat 128)) fun v5 =>
  condK v5
    (q (.tup [v4, (.int .i64 (.ofNat 1))]) H τ)
    (binK .sub v0 (.int .i64 (.ofNat 4)) fun v6 =>
  someK (pMax [v6, (.int .i64 (.ofNat 0))]) fun v7 =>
  binK .sub v2 (.int .i64 (.ofNat 1)) fun v8 =>
  loopK (s84_l2 call N) N ⟨(T.set (T.set (T.set (T.set .leaf 0 a0) 4 v0) 5 v8) 6 v7), H⟩ τ (blockK 0 (seqK (s84_j0 call N q) (endK [(.t 2), (.t 3)] q)))))
theorem s84_eq (call : CallK) (N : Nat) (a0 : V) (H : Heap) (τ : Tape) (q : KV) : s84 call N a0 H τ q = funK call N fn84 [a0] H τ q := by kernel_rfl
def e84 (call : CallK) (N : Nat) (vs : List V) (H : Heap) (τ : Tape) (q : KV) : Ans := match vs with | [a0] => s84 call N a0 H τ q | _ => none
theorem e84_ok : EntOk fn84 e84 := by
  intro call N vs H τ q r h
  unfold e84 at h
  split at h
  · rw [s84_eq] at h; exact h
  · cases h
theorem e84_nat : EntNat e84 := by
  intro c hn N vs H τ q
  unfold e84
  split
  · rw [s84_eq, s84_eq]; exact funK_ent hn _ _ _ _ _ _
  · rfl
end Go.Am.AmTrydHd
