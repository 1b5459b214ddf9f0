/- The abstract machine's texts for the law AgeNumbers: printed functions of the program, and what they are shown to be. -/
import Derived.Test.YtpfaceclaigpgaaDoorBSh0
import Derived.KernelRfl
namespace Go.Am.AmTrydAgeNumbers
set_option maxRecDepth 1000000
set_option linter.unusedVariables false
/-- strings.trimLeftByte -/
def fn140 : Fun := ⟨2,
  (.seq (.reg [⟨(some 4), none, (.p .mv), [(.c (.str []))], none⟩])
  (.keep [0, 1] (.seq (.block 0
   (.loop
    (.keep [0, 1] (.seq (.seq (.reg [⟨(some 5), none, (.p .mv), [(.t 0)], none⟩,
      ⟨(some 6), none, (.p .lenS), [(.t 5)], none⟩,
      ⟨(some 7), none, (.p (.bin .gtr)), [(.t 6), (.c (.int .i64 (.ofNat 0)))], none⟩,
      ⟨(some 8), none, (.p .mv), [(.t 7)], none⟩,
      ⟨(some 9), some (8, true), (.p .mv), [(.t 0)], none⟩,
      ⟨(some 10), some (8, true), (.p .strIndex), [(.t 9), (.c (.int .i64 (.ofNat 0)))], none⟩,
      ⟨(some 11), some (8, true), (.p .mv), [(.t 1)], none⟩,
      ⟨(some 12), some (8, true), (.p (.bin .eql)), [(.t 10), (.t 11)], none⟩,
      ⟨(some 13), none, (.p .pick), [(.t 8), (.t 12), (.c (.bool false))], none⟩])
    (.keep [0, 1, 13] (.cond (.t 13)
     .skip
     (.keep [0] (.exit 0)))))
    (.keep [0, 1] (.block 1
     (.reg [⟨(some 14), none, (.p .mv), [(.t 0)], none⟩,
       ⟨(some 15), none, (.p (.strSlice true false)), [(.t 14), (.c (.int .i64 (.ofNat 1)))], none⟩,
       ⟨(some 0), none, (.p .mv), [(.t 15)], none⟩])))))))
  (.keep [0] (.seq (.reg [⟨(some 16), none, (.p .mv), [(.t 0)], none⟩,
    ⟨(some 4), none, (.p .mv), [(.t 16)], none⟩])
  (.keep [4] (.keep [4] .ret))))))),
  [(.t 4)]⟩
def s140_j0 (call : CallK) (N : Nat) (q : KV) (st : St) (τ : Tape) : Ans :=
  match st with
  | ⟨fr, H⟩ =>
  getK fr 0 fun t0 =>
  q t0 H τ
def s140_l1 (call : CallK) (N : Nat) (st : St) (τ : Tape) (k : KC) : Ans :=
  match st with
  | ⟨fr, H⟩ =>
  getK fr 0 fun t0 =>
  getK fr 1 fun t1 =>
  someK (pLenS [t0]) fun v0 =>
  binK .gtr v0 (.int .i64 (.ofNat 0)) fun v1 =>
  gK v1 true (fun q' => q' t0 H τ) H τ fun v2 H3 τ4 =>
  gK v1 true (fun q' => someK (pStrIndex [v2, (.int .i64 (.ofNat 0))]) fun v => q' v H3 τ4) H3 τ4 fun v5 H6 τ7 =>
  gK v1 true (fun q' => q' t1 H6 τ7) H6 τ7 fun v8 H9 τ10 =>
  gK v1 true (fun q' => binK .eql v5 v8 fun v => q' v H9 τ10) H9 τ10 fun v11 H12 τ13 =>
  someK (pPick [v1, v11, (.bool false)]) fun v14 =>
  condK v14
    (someK (pStrSlice true false [t0, (.int .i64 (.ofNat 1))]) fun v15 =>
  k .normal ⟨(T.set (T.set (T.set (T.set (T.set .leaf 0 t0) 1 t1) 14 t0) 15 v15) 0 v15), H12⟩ τ13)
    (k (.exit 0) ⟨(T.set .leaf 0 t0), H12⟩ τ13)
def s140 (call : CallK) (N : Nat) (a0 a1 : V) (H : Heap) (τ : Tape) (q : KV) : Ans :=
  loopK (s140_l1 call N) N ⟨(T.set (T.set .leaf 0 a0) 1 a1), H⟩ τ (blockK 0 (seqK (s140_j0 call N q) (endK [(.t 4)] q)))
theorem s140_eq (call : CallK) (N : Nat) (a0 a1 : V) (H : Heap) (τ : Tape) (q : KV) : s140 call N a0 a1 H τ q = funK call N fn140 [a0, a1] H τ q := by kernel_rfl
def e140 (call : CallK) (N : Nat) (vs : List V) (H : Heap) (τ : Tape) (q : KV) : Ans := match vs with | [a0, a1] => s140 call N a0 a1 H τ q | _ => none
theorem e140_ok : EntOk fn140 e140 := by
  intro call N vs H τ q r h
  unfold e140 at h
  split at h
  · rw [s140_eq] at h; exact h
  · cases h
/-- strings.trimRightByte -/
def fn141 : Fun := ⟨2,
  (.seq (.reg [⟨(some 4), none, (.p .mv), [(.c (.str []))], none⟩])
  (.keep [0, 1] (.seq (.block 0
   (.loop
    (.keep [0, 1] (.seq (.seq (.reg [⟨(some 5), none, (.p .mv), [(.t 0)], none⟩,
      ⟨(some 6), none, (.p .lenS), [(.t 5)], none⟩,
      ⟨(some 7), none, (.p (.bin .gtr)), [(.t 6), (.c (.int .i64 (.ofNat 0)))], none⟩,
      ⟨(some 8), none, (.p .mv), [(.t 7)], none⟩,
      ⟨(some 9), some (8, true), (.p .mv), [(.t 0)], none⟩,
      ⟨(some 10), some (8, true), (.p .mv), [(.t 0)], none⟩,
      ⟨(some 11), some (8, true), (.p .lenS), [(.t 10)], none⟩,
      ⟨(some 12), some (8, true), (.p (.bin .sub)), [(.t 11), (.c (.int .i64 (.ofNat 1)))], none⟩,
      ⟨(some 13), some (8, true), (.p .strIndex), [(.t 9), (.t 12)], none⟩,
      ⟨(some 14), some (8, true), (.p .mv), [(.t 1)], none⟩,
      ⟨(some 15), some (8, true), (.p (.bin .eql)), [(.t 13), (.t 14)], none⟩,
      ⟨(some 16), none, (.p .pick), [(.t 8), (.t 15), (.c (.bool false))], none⟩])
    (.keep [0, 1, 16] (.cond (.t 16)
     .skip
     (.keep [0] (.exit 0)))))
    (.keep [0, 1] (.block 1
     (.reg [⟨(some 17), none, (.p .mv), [(.t 0)], none⟩,
       ⟨(some 18), none, (.p .mv), [(.t 0)], none⟩,
       ⟨(some 19), none, (.p .lenS), [(.t 18)], none⟩,
       ⟨(some 20), none, (.p (.bin .sub)), [(.t 19), (.c (.int .i64 (.ofNat 1)))], none⟩,
       ⟨(some 21), none, (.p (.strSlice false true)), [(.t 17), (.t 20)], none⟩,
       ⟨(some 0), none, (.p .mv), [(.t 21)], none⟩])))))))
  (.keep [0] (.seq (.reg [⟨(some 22), none, (.p .mv), [(.t 0)], none⟩,
    ⟨(some 4), none, (.p .mv), [(.t 22)], none⟩])
  (.keep [4] (.keep [4] .ret))))))),
  [(.t 4)]⟩
def s141_j0 (call : CallK) (N : Nat) (q : KV) (st : St) (τ : Tape) : Ans :=
  match st with
  | ⟨fr, H⟩ =>
  getK fr 0 fun t0 =>
  q t0 H τ
def s141_l1 (call : CallK) (N : Nat) (st : St) (τ : Tape) (k : KC) : Ans :=
  match st with
  | ⟨fr, H⟩ =>
  getK fr 0 fun t0 =>
  getK fr 1 fun t1 =>
  someK (pLenS [t0]) fun v0 =>
  binK .gtr v0 (.int .i64 (.ofNat 0)) fun v1 =>
  gK v1 true (fun q' => q' t0 H τ) H τ fun v2 H3 τ4 =>
  gK v1 true (fun q' => q' t0 H3 τ4) H3 τ4 fun v5 H6 τ7 =>
  gK v1 true (fun q' => someK (pLenS [v5]) fun v => q' v H6 τ7) H6 τ7 fun v8 H9 τ10 =>
  gK v1 true (fun q' => binK .sub v8 (.int .i64 (.ofNat 1)) fun v => q' v H9 τ10) H9 τ10 fun v11 H12 τ13 =>
  gK v1 true (fun q' => someK (pStrIndex [v2, v11]) fun v => q' v H12 τ13) H12 τ13 fun v14 H15 τ16 =>
  gK v1 true (fun q' => q' t1 H15 τ16) H15 τ16 fun v17 H18 τ19 =>
  gK v1 true (fun q' => binK .eql v14 v17 fun v => q' v H18 τ19) H18 τ19 fun v20 H21 τ22 =>
  someK (pPick [v1, v20, (.bool false)]) fun v23 =>
  condK v23
    (someK (pLenS [t0]) fun v24 =>
  binK .sub v24 (.int .i64 (.ofNat 1)) fun v25 =>
  someK (pStrSlice false true [t0, v25]) fun v26 =>
  k .normal ⟨(T.set (T.set (T.set (T.set (T.set (T.set (T.set (T.set .leaf 0 t0) 1 t1) 17 t0) 18 t0) 19 v24) 20 v25) 21 v26) 0 v26), H21⟩ τ22)
    (k (.exit 0) ⟨(T.set .leaf 0 t0), H21⟩ τ22)
def s141 (call : CallK) (N : Nat) (a0 a1 : V) (H : Heap) (τ : Tape) (q : KV) : Ans :=
  loopK (s141_l1 call N) N ⟨(T.set (T.set .leaf 0 a0) 1 a1), H⟩ τ (blockK 0 (seqK (s141_j0 call N q) (endK [(.t 4)] q)))
theorem s141_eq (call : CallK) (N : Nat) (a0 a1 : V) (H : Heap) (τ : Tape) (q : KV) : s141 call N a0 a1 H τ q = funK call N fn141 [a0, a1] H τ q := by kernel_rfl
def e141 (call : CallK) (N : Nat) (vs : List V) (H : Heap) (τ : Tape) (q : KV) : Ans := match vs with | [a0, a1] => s141 call N a0 a1 H τ q | _ => none
theorem e141_ok : EntOk fn141 e141 := by
  intro call N vs H τ q r h
  unfold e141 at h
  split at h
  · rw [s141_eq] at h; exact h
  · cases h
/-- strings.makeASCIISet -/
def fn142 : Fun := ⟨1,
  (.seq (.reg [⟨(some 2), none, (.e (.alloc (repl 256 [(.bool false)]))), [], none⟩,
    ⟨(some 3), none, (.p .mv), [(.c (.bool false))], none⟩])
  (.keep [0, 2] (.seq (.seq (.reg [⟨(some 4), none, (.p .mv), [(.c (.int .i64 (.ofNat 0)))], none⟩])
  (.keep [0, 2, 4] (.block 0
   (.loop
    (.keep [0, 2, 4] (.seq (.seq (.reg [⟨(some 6), none, (.p .mv), [(.t 4)], none⟩,
      ⟨(some 7), none, (.p .mv), [(.t 0)], none⟩,
      ⟨(some 8), none, (.p .lenS), [(.t 7)], none⟩,
      ⟨(some 9), none, (.p (.bin .lss)), [(.t 6), (.t 8)], none⟩])
    (.keep [0, 2, 4, 9] (.cond (.t 9)
     .skip
     (.keep [2] (.exit 0)))))
    (.keep [0, 2, 4] (.seq (.block 1
     (.seq (.reg [⟨(some 12), none, (.p .mv), [(.t 0)], none⟩,
       ⟨(some 13), none, (.p .mv), [(.t 4)], none⟩,
       ⟨(some 14), none, (.p .strIndex), [(.t 12), (.t 13)], none⟩,
       ⟨(some 5), none, (.p .mv), [(.t 14)], none⟩])
     (.keep [0, 2, 4, 5] (.seq (.seq (.reg [⟨(some 15), none, (.p .mv), [(.t 5)], none⟩,
       ⟨(some 16), none, (.p (.bin .geq)), [(.t 15), (.c (.int .u8 (.ofNat 128)))], none⟩])
     (.keep [0, 2, 4, 5, 16] (.cond (.t 16)
      (.seq (.reg [⟨(some 17), none, (.l (.load (some 256))), [(.t 2)], none⟩,
        ⟨none, none, (.e (.store 256)), [(.t 2), (.t 17)], none⟩,
        ⟨(some 3), none, (.p .mv), [(.c (.bool false))], none⟩])
      (.keep [2, 3] (.keep [2, 3] .ret)))
      .skip)))
     (.keep [0, 2, 4, 5] (.reg [⟨(some 18), none, (.p .mv), [(.t 5)], none⟩,
       ⟨(some 19), none, (.p (.arrIdx 256 1)), [(.t 2), (.t 18)], none⟩,
       ⟨none, none, (.e (.store 1)), [(.t 19), (.c (.bool true))], none⟩]))))))
    (.keep [0, 2, 4] (.reg [⟨(some 10), none, (.p .mv), [(.t 4)], none⟩,
      ⟨(some 11), none, (.p (.bin .add)), [(.t 10), (.c (.int .i64 (.ofNat 1)))], none⟩,
      ⟨(some 4), none, (.p .mv), [(.t 11)], none⟩]))))))))))
  (.keep [2] (.seq (.reg [⟨(some 20), none, (.l (.load (some 256))), [(.t 2)], none⟩,
    ⟨none, none, (.e (.store 256)), [(.t 2), (.t 20)], none⟩,
    ⟨(some 3), none, (.p .mv), [(.c (.bool true))], none⟩])
  (.keep [2, 3] (.keep [2, 3] .ret))))))),
  [(.cell 2 (some 256)), (.t 3)]⟩
def s142_j0 (call : CallK) (N : Nat) (q : KV) (st : St) (τ : Tape) : Ans :=
  match st with
  | ⟨fr, H⟩ =>
  getK fr 2 fun t2 =>
  someK (lLoadN 256 [t2] H) fun v3 =>
  effK (eStore 256 [t2, v3] H τ) fun v4 H5 τ6 =>
  someK (results ⟨(T.set (T.set .leaf 2 t2) 3 (.bool true)), H5⟩ [(.cell 2 (some 256)), (.t 3)]) fun v => q v H5 τ6
def s142_l1 (call : CallK) (N : Nat) (st : St) (τ : Tape) (k : KC) : Ans :=
  match st with
  | ⟨fr, H⟩ =>
  getK fr 0 fun t0 =>
  getK fr 2 fun t2 =>
  getK fr 4 fun t4 =>
  someK (pLenS [t0]) fun v7 =>
  binK .lss t4 v7 fun v8 =>
  condK v8
    (someK (pStrIndex [t0, t4]) fun v9 =>
  binK .geq v9 (.int .u8 (.ofNat 128)) fun v10 =>
  condK v10
    (someK (lLoadN 256 [t2] H) fun v11 =>
  effK (eStore 256 [t2, v11] H τ) fun v12 H13 τ14 =>
  k .ret ⟨(T.set (T.set .leaf 2 t2) 3 (.bool false)), H13⟩ τ14)
    (someK (pArrIdx 256 1 [t2, v9]) fun v15 =>
  effK (eStore 1 [v15, (.bool true)] H τ) fun v16 H17 τ18 =>
  binK .add t4 (.int .i64 (.ofNat 1)) fun v19 =>
  k .normal ⟨(T.set (T.set (T.set (T.set (T.set (T.set .leaf 0 t0) 2 t2) 4 t4) 10 t4) 11 v19) 4 v19), H17⟩ τ18))
    (k (.exit 0) ⟨(T.set .leaf 2 t2), H⟩ τ)
def s142 (call : CallK) (N : Nat) (a0 : V) (H : Heap) (τ : Tape) (q : KV) : Ans :=
  effK (eAlloc (repl 256 [(.bool false)]) [] H τ) fun v0 H1 τ2 =>
  loopK (s142_l1 call N) N ⟨(T.set (T.set (T.set .leaf 0 a0) 2 v0) 4 (.int .i64 (.ofNat 0))), H1⟩ τ2 (blockK 0 (seqK (s142_j0 call N q) (endK [(.cell 2 (some 256)), (.t 3)] q)))
theorem s142_eq (call : CallK) (N : Nat) (a0 : V) (H : Heap) (τ : Tape) (q : KV) : s142 call N a0 H τ q = funK call N fn142 [a0] H τ q := by kernel_rfl
def e142 (call : CallK) (N : Nat) (vs : List V) (H : Heap) (τ : Tape) (q : KV) : Ans := match vs with | [a0] => s142 call N a0 H τ q | _ => none
theorem e142_ok : EntOk fn142 e142 := by
  intro call N vs H τ q r h
  unfold e142 at h
  split at h
  · rw [s142_eq] at h; exact h
  · cases h
/-- strings.trimLeftASCII -/
def fn143 : Fun := ⟨2,
  (.seq (.reg [⟨(some 4), none, (.p .mv), [(.c (.str []))], none⟩])
  (.keep [0, 1] (.seq (.block 0
   (.loop
    (.keep [0, 1] (.seq (.seq (.reg [⟨(some 5), none, (.p .mv), [(.t 0)], none⟩,
      ⟨(some 6), none, (.p .lenS), [(.t 5)], none⟩,
      ⟨(some 7), none, (.p (.bin .gtr)), [(.t 6), (.c (.int .i64 (.ofNat 0)))], none⟩])
    (.keep [0, 1, 7] (.cond (.t 7)
     .skip
     (.keep [0] (.exit 0)))))
    (.keep [0, 1] (.block 1
     (.seq (.seq (.reg [⟨(some 8), none, (.p .mv), [(.t 1)], none⟩,
       ⟨(some 9), none, (.p .mv), [(.t 0)], none⟩,
       ⟨(some 10), none, (.p .strIndex), [(.t 9), (.c (.int .i64 (.ofNat 0)))], none⟩,
       ⟨(some 11), none, (.call 171), [(.t 8), (.t 10)], none⟩,
       ⟨(some 12), none, (.p (.un .not)), [(.t 11)], none⟩])
     (.keep [0, 1, 12] (.cond (.t 12)
      (.keep [0] (.exit 0))
      .skip)))
     (.keep [0, 1] (.reg [⟨(some 13), none, (.p .mv), [(.t 0)], none⟩,
       ⟨(some 14), none, (.p (.strSlice true false)), [(.t 13), (.c (.int .i64 (.ofNat 1)))], none⟩,
       ⟨(some 0), none, (.p .mv), [(.t 14)], none⟩])))))))))
  (.keep [0] (.seq (.reg [⟨(some 15), none, (.p .mv), [(.t 0)], none⟩,
    ⟨(some 4), none, (.p .mv), [(.t 15)], none⟩])
  (.keep [4] (.keep [4] .ret))))))),
  [(.t 4)]⟩
def s143_j0 (call : CallK) (N : Nat) (q : KV) (st : St) (τ : Tape) : Ans :=
  match st with
  | ⟨fr, H⟩ =>
  getK fr 0 fun t0 =>
  q t0 H τ
def s143_l1 (call : CallK) (N : Nat) (st : St) (τ : Tape) (k : KC) : Ans :=
  match st with
  | ⟨fr, H⟩ =>
  getK fr 0 fun t0 =>
  getK fr 1 fun t1 =>
  someK (pLenS [t0]) fun v0 =>
  binK .gtr v0 (.int .i64 (.ofNat 0)) fun v1 =>
  condK v1
    (someK (pStrIndex [t0, (.int .i64 (.ofNat 0))]) fun v2 =>
  call 171 [t1, v2] H τ fun v3 H4 τ5 =>
  unK .not v3 fun v6 =>
  condK v6
    (k (.exit 0) ⟨(T.set .leaf 0 t0), H4⟩ τ5)
    (someK (pStrSlice true false [t0, (.int .i64 (.ofNat 1))]) fun v7 =>
  k .normal ⟨(T.set (T.set (T.set (T.set (T.set .leaf 0 t0) 1 t1) 13 t0) 14 v7) 0 v7), H4⟩ τ5))
    (k (.exit 0) ⟨(T.set .leaf 0 t0), H⟩ τ)
def s143 (call : CallK) (N : Nat) (a0 a1 : V) (H : Heap) (τ : Tape) (q : KV) : Ans :=
  loopK (s143_l1 call N) N ⟨(T.set (T.set .leaf 0 a0) 1 a1), H⟩ τ (blockK 0 (seqK (s143_j0 call N q) (endK [(.t 4)] q)))
theorem s143_eq (call : CallK) (N : Nat) (a0 a1 : V) (H : Heap) (τ : Tape) (q : KV) : s143 call N a0 a1 H τ q = funK call N fn143 [a0, a1] H τ q := by kernel_rfl
def e143 (call : CallK) (N : Nat) (vs : List V) (H : Heap) (τ : Tape) (q : KV) : Ans := match vs with | [a0, a1] => s143 call N a0 a1 H τ q | _ => none
theorem e143_ok : EntOk fn143 e143 := by
  intro call N vs H τ q r h
  unfold e143 at h
  split at h
  · rw [s143_eq] at h; exact h
  · cases h
/-- strings.trimRightASCII -/
def fn144 : Fun := ⟨2,
  (.seq (.reg [⟨(some 4), none, (.p .mv), [(.c (.str []))], none⟩])
  (.keep [0, 1] (.seq (.block 0
   (.loop
    (.keep [0, 1] (.seq (.seq (.reg [⟨(some 5), none, (.p .mv), [(.t 0)], none⟩,
      ⟨(some 6), none, (.p .lenS), [(.t 5)], none⟩,
      ⟨(some 7), none, (.p (.bin .gtr)), [(.t 6), (.c (.int .i64 (.ofNat 0)))], none⟩])
    (.keep [0, 1, 7] (.cond (.t 7)
     .skip
     (.keep [0] (.exit 0)))))
    (.keep [0, 1] (.block 1
     (.seq (.seq (.reg [⟨(some 8), none, (.p .mv), [(.t 1)], none⟩,
       ⟨(some 9), none, (.p .mv), [(.t 0)], none⟩,
       ⟨(some 10), none, (.p .mv), [(.t 0)], none⟩,
       ⟨(some 11), none, (.p .lenS), [(.t 10)], none⟩,
       ⟨(some 12), none, (.p (.bin .sub)), [(.t 11), (.c (.int .i64 (.ofNat 1)))], none⟩,
       ⟨(some 13), none, (.p .strIndex), [(.t 9), (.t 12)], none⟩,
       ⟨(some 14), none, (.call 171), [(.t 8), (.t 13)], none⟩,
       ⟨(some 15), none, (.p (.un .not)), [(.t 14)], none⟩])
     (.keep [0, 1, 15] (.cond (.t 15)
      (.keep [0] (.exit 0))
      .skip)))
     (.keep [0, 1] (.reg [⟨(some 16), none, (.p .mv), [(.t 0)], none⟩,
       ⟨(some 17), none, (.p .mv), [(.t 0)], none⟩,
       ⟨(some 18), none, (.p .lenS), [(.t 17)], none⟩,
       ⟨(some 19), none, (.p (.bin .sub)), [(.t 18), (.c (.int .i64 (.ofNat 1)))], none⟩,
       ⟨(some 20), none, (.p (.strSlice false true)), [(.t 16), (.t 19)], none⟩,
       ⟨(some 0), none, (.p .mv), [(.t 20)], none⟩])))))))))
  (.keep [0] (.seq (.reg [⟨(some 21), none, (.p .mv), [(.t 0)], none⟩,
    ⟨(some 4), none, (.p .mv), [(.t 21)], none⟩])
  (.keep [4] (.keep [4] .ret))))))),
  [(.t 4)]⟩
def s144_j0 (call : CallK) (N : Nat) (q : KV) (st : St) (τ : Tape) : Ans :=
  match st with
  | ⟨fr, H⟩ =>
  getK fr 0 fun t0 =>
  q t0 H τ
def s144_l1 (call : CallK) (N : Nat) (st : St) (τ : Tape) (k : KC) : Ans :=
  match st with
  | ⟨fr, H⟩ =>
  getK fr 0 fun t0 =>
  getK fr 1 fun t1 =>
  someK (pLenS [t0]) fun v0 =>
  binK .gtr v0 (.int .i64 (.ofNat 0)) fun v1 =>
  condK v1
    (someK (pLenS [t0]) fun v2 =>
  binK .sub v2 (.int .i64 (.ofNat 1)) fun v3 =>
  someK (pStrIndex [t0, v3]) fun v4 =>
  call 171 [t1, v4] H τ fun v5 H6 τ7 =>
  unK .not v5 fun v8 =>
  condK v8
    (k (.exit 0) ⟨(T.set .leaf 0 t0), H6⟩ τ7)
    (someK (pLenS [t0]) fun v9 =>
  binK .sub v9 (.int .i64 (.ofNat 1)) fun v10 =>
  someK (pStrSlice false true [t0, v10]) fun v11 =>
  k .normal ⟨(T.set (T.set (T.set (T.set (T.set (T.set (T.set (T.set .leaf 0 t0) 1 t1) 16 t0) 17 t0) 18 v9) 19 v10) 20 v11) 0 v11), H6⟩ τ7))
    (k (.exit 0) ⟨(T.set .leaf 0 t0), H⟩ τ)
def s144 (call : CallK) (N : Nat) (a0 a1 : V) (H : Heap) (τ : Tape) (q : KV) : Ans :=
  loopK (s144_l1 call N) N ⟨(T.set (T.set .leaf 0 a0) 1 a1), H⟩ τ (blockK 0 (seqK (s144_j0 call N q) (endK [(.t 4)] q)))
theorem s144_eq (call : CallK) (N : Nat) (a0 a1 : V) (H : Heap) (τ : Tape) (q : KV) : s144 call N a0 a1 H τ q = funK call N fn144 [a0, a1] H τ q := by kernel_rfl
def e144 (call : CallK) (N : Nat) (vs : List V) (H : Heap) (τ : Tape) (q : KV) : Ans := match vs with | [a0, a1] => s144 call N a0 a1 H τ q | _ => none
theorem e144_ok : EntOk fn144 e144 := by
  intro call N vs H τ q r h
  unfold e144 at h
  split at h
  · rw [s144_eq] at h; exact h
  · cases h
/-- strings.trimLeftUnicode -/
def fn145 : Fun := ⟨2,
  (.seq (.reg [⟨(some 4), none, (.p .mv), [(.c (.str []))], none⟩])
  (.keep [0, 1] (.seq (.block 0
   (.loop
    (.keep [0, 1] (.seq (.seq (.reg [⟨(some 7), none, (.p .mv), [(.t 0)], none⟩,
      ⟨(some 8), none, (.p .lenS), [(.t 7)], none⟩,
      ⟨(some 9), none, (.p (.bin .gtr)), [(.t 8), (.c (.int .i64 (.ofNat 0)))], none⟩])
    (.keep [0, 1, 9] (.cond (.t 9)
     .skip
     (.keep [0] (.exit 0)))))
    (.keep [0, 1] (.block 1
     (.seq (.reg [⟨(some 11), none, (.p .mv), [(.t 0)], none⟩,
       ⟨(some 12), none, (.call 172), [(.t 11)], none⟩,
       ⟨(some 10), none, (.p .mv), [(.t 12)], none⟩,
       ⟨(some 13), none, (.p (.extract 0)), [(.t 10)], none⟩,
       ⟨(some 14), none, (.p (.extract 1)), [(.t 10)], none⟩,
       ⟨(some 5), none, (.p .mv), [(.t 13)], none⟩,
       ⟨(some 6), none, (.p .mv), [(.t 14)], none⟩])
     (.keep [0, 1, 5, 6] (.seq (.seq (.reg [⟨(some 15), none, (.p .mv), [(.t 1)], none⟩,
       ⟨(some 16), none, (.p .mv), [(.t 5)], none⟩,
       ⟨(some 17), none, (.call 61), [(.t 15), (.t 16)], none⟩,
       ⟨(some 18), none, (.p (.un .not)), [(.t 17)], none⟩])
     (.keep [0, 1, 6, 18] (.cond (.t 18)
      (.keep [0] (.exit 0))
      .skip)))
     (.keep [0, 1, 6] (.reg [⟨(some 19), none, (.p .mv), [(.t 0)], none⟩,
       ⟨(some 20), none, (.p .mv), [(.t 6)], none⟩,
       ⟨(some 21), none, (.p (.strSlice true false)), [(.t 19), (.t 20)], none⟩,
       ⟨(some 0), none, (.p .mv), [(.t 21)], none⟩])))))))))))
  (.keep [0] (.seq (.reg [⟨(some 22), none, (.p .mv), [(.t 0)], none⟩,
    ⟨(some 4), none, (.p .mv), [(.t 22)], none⟩])
  (.keep [4] (.keep [4] .ret))))))),
  [(.t 4)]⟩
def s145_j0 (call : CallK) (N : Nat) (q : KV) (st : St) (τ : Tape) : Ans :=
  match st with
  | ⟨fr, H⟩ =>
  getK fr 0 fun t0 =>
  q t0 H τ
def s145_l1 (call : CallK) (N : Nat) (st : St) (τ : Tape) (k : KC) : Ans :=
  match st with
  | ⟨fr, H⟩ =>
  getK fr 0 fun t0 =>
  getK fr 1 fun t1 =>
  someK (pLenS [t0]) fun v0 =>
  binK .gtr v0 (.int .i64 (.ofNat 0)) fun v1 =>
  condK v1
    (call 172 [t0] H τ fun v2 H3 τ4 =>
  someK (pExtract 0 [v2]) fun v5 =>
  someK (pExtract 1 [v2]) fun v6 =>
  call 61 [t1, v5] H3 τ4 fun v7 H8 τ9 =>
  unK .not v7 fun v10 =>
  condK v10
    (k (.exit 0) ⟨(T.set .leaf 0 t0), H8⟩ τ9)
    (someK (pStrSlice true false [t0, v6]) fun v11 =>
  k .normal ⟨(T.set (T.set (T.set (T.set (T.set (T.set (T.set .leaf 0 t0) 1 t1) 6 v6) 19 t0) 20 v6) 21 v11) 0 v11), H8⟩ τ9))
    (k (.exit 0) ⟨(T.set .leaf 0 t0), H⟩ τ)
def s145 (call : CallK) (N : Nat) (a0 a1 : V) (H : Heap) (τ : Tape) (q : KV) : Ans :=
  loopK (s145_l1 call N) N ⟨(T.set (T.set .leaf 0 a0) 1 a1), H⟩ τ (blockK 0 (seqK (s145_j0 call N q) (endK [(.t 4)] q)))
theorem s145_eq (call : CallK) (N : Nat) (a0 a1 : V) (H : Heap) (τ : Tape) (q : KV) : s145 call N a0 a1 H τ q = funK call N fn145 [a0, a1] H τ q := by kernel_rfl
def e145 (call : CallK) (N : Nat) (vs : List V) (H : Heap) (τ : Tape) (q : KV) : Ans := match vs with | [a0, a1] => s145 call N a0 a1 H τ q | _ => none
theorem e145_ok : EntOk fn145 e145 := by
  intro call N vs H τ q r h
  unfold e145 at h
  split at h
  · rw [s145_eq] at h; exact h
  · cases h
/-- strings.trimRightUnicode -/
def fn146 : Fun := ⟨2,
  (.seq (.reg [⟨(some 4), none, (.p .mv), [(.c (.str []))], none⟩])
  (.keep [0, 1] (.seq (.block 0
   (.loop
    (.keep [0, 1] (.seq (.seq (.reg [⟨(some 7), none, (.p .mv), [(.t 0)], none⟩,
      ⟨(some 8), none, (.p .lenS), [(.t 7)], none⟩,
      ⟨(some 9), none, (.p (.bin .gtr)), [(.t 8), (.c (.int .i64 (.ofNat 0)))], none⟩])
    (.keep [0, 1, 9] (.cond (.t 9)
     .skip
     (.keep [0] (.exit 0)))))
    (.keep [0, 1] (.block 1
     (.seq (.reg [⟨(some 10), none, (.p .mv), [(.t 0)], none⟩,
       ⟨(some 11), none, (.p .mv), [(.t 0)], none⟩,
       ⟨(some 12), none, (.p .lenS), [(.t 11)], none⟩,
       ⟨(some 13), none, (.p (.bin .sub)), [(.t 12), (.c (.int .i64 (.ofNat 1)))], none⟩,
       ⟨(some 14), none, (.p .strIndex), [(.t 10), (.t 13)], none⟩,
       ⟨(some 15), none, (.p (.toInt .i32)), [(.t 14)], none⟩,
       ⟨(some 5), none, (.p .mv), [(.t 15)], none⟩,
       ⟨(some 6), none, (.p .mv), [(.c (.int .i64 (.ofNat 1)))], none⟩])
     (.keep [0, 1, 5, 6] (.seq (.seq (.reg [⟨(some 16), none, (.p .mv), [(.t 5)], none⟩,
       ⟨(some 17), none, (.p (.bin .geq)), [(.t 16), (.c (.int .i32 (.ofNat 128)))], none⟩])
     (.keep [0, 1, 5, 6, 17] (.cond (.t 17)
      (.reg [⟨(some 19), none, (.p .mv), [(.t 0)], none⟩,
        ⟨(some 20), none, (.call 173), [(.t 19)], none⟩,
        ⟨(some 18), none, (.p .mv), [(.t 20)], none⟩,
        ⟨(some 21), none, (.p (.extract 0)), [(.t 18)], none⟩,
        ⟨(some 22), none, (.p (.extract 1)), [(.t 18)], none⟩,
        ⟨(some 5), none, (.p .mv), [(.t 21)], none⟩,
        ⟨(some 6), none, (.p .mv), [(.t 22)], none⟩])
      .skip)))
     (.keep [0, 1, 5, 6] (.seq (.seq (.reg [⟨(some 23), none, (.p .mv), [(.t 1)], none⟩,
       ⟨(some 24), none, (.p .mv), [(.t 5)], none⟩,
       ⟨(some 25), none, (.call 61), [(.t 23), (.t 24)], none⟩,
       ⟨(some 26), none, (.p (.un .not)), [(.t 25)], none⟩])
     (.keep [0, 1, 6, 26] (.cond (.t 26)
      (.keep [0] (.exit 0))
      .skip)))
     (.keep [0, 1, 6] (.reg [⟨(some 27), none, (.p .mv), [(.t 0)], none⟩,
       ⟨(some 28), none, (.p .mv), [(.t 0)], none⟩,
       ⟨(some 29), none, (.p .lenS), [(.t 28)], none⟩,
       ⟨(some 30), none, (.p .mv), [(.t 6)], none⟩,
       ⟨(some 31), none, (.p (.bin .sub)), [(.t 29), (.t 30)], none⟩,
       ⟨(some 32), none, (.p (.strSlice false true)), [(.t 27), (.t 31)], none⟩,
       ⟨(some 0), none, (.p .mv), [(.t 32)], none⟩])))))))))))))
  (.keep [0] (.seq (.reg [⟨(some 33), none, (.p .mv), [(.t 0)], none⟩,
    ⟨(some 4), none, (.p .mv), [(.t 33)], none⟩])
  (.keep [4] (.keep [4] .ret))))))),
  [(.t 4)]⟩
def s146_j0 (call : CallK) (N : Nat) (q : KV) (st : St) (τ : Tape) : Ans :=
  match st with
  | ⟨fr, H⟩ =>
  getK fr 0 fun t0 =>
  q t0 H τ
def s146_j2 (call : CallK) (N : Nat) (k : KC) (st : St) (τ : Tape) : Ans :=
  match st with
  | ⟨fr, H⟩ =>
  getK fr 0 fun t0 =>
  getK fr 1 fun t1 =>
  getK fr 5 fun t5 =>
  getK fr 6 fun t6 =>
  call 61 [t1, t5] H τ fun v7 H8 τ9 =>
  unK .not v7 fun v10 =>
  condK v10
    (k (.exit 0) ⟨(T.set .leaf 0 t0), H8⟩ τ9)
    (someK (pLenS [t0]) fun v11 =>
  binK .sub v11 t6 fun v12 =>
  someK (pStrSlice false true [t0, v12]) fun v13 =>
  k .normal ⟨(T.set (T.set (T.set (T.set (T.set (T.set (T.set (T.set (T.set (T.set .leaf 0 t0) 1 t1) 6 t6) 27 t0) 28 t0) 29 v11) 30 t6) 31 v12) 32 v13) 0 v13), H8⟩ τ9)
def s146_l1 (call : CallK) (N : Nat) (st : St) (τ : Tape) (k : KC) : Ans :=
  match st with
  | ⟨fr, H⟩ =>
  getK fr 0 fun t0 =>
  getK fr 1 fun t1 =>
  someK (pLenS [t0]) fun v0 =>
  binK .gtr v0 (.int .i64 (.ofNat 0)) fun v1 =>
  condK v1
    (someK (pLenS [t0]) fun v2 =>
  binK .sub v2 (.int .i64 (.ofNat 1)) fun v3 =>
  someK (pStrIndex [t0, v3]) fun v4 =>
  toIntK .i32 v4 fun v5 =>
  binK .geq v5 (.int .i32 (.ofNat 128)) fun v6 =>
  condK v6
    (call 173 [t0] H τ fun v14 H15 τ16 =>
  someK (pExtract 0 [v14]) fun v17 =>
  someK (pExtract 1 [v14]) fun v18 =>
  s146_j2 call N k ⟨(T.set (T.set (T.set (T.set (T.set (T.set (T.set (T.set (T.set (T.set (T.set (T.set .leaf 0 t0) 1 t1) 5 v5) 6 (.int .i64 (.ofNat 1))) 17 v6) 19 t0) 20 v14) 18 v14) 21 v17) 22 v18) 5 v17) 6 v18), H15⟩ τ16)
    (s146_j2 call N k ⟨(T.set (T.set (T.set (T.set (T.set .leaf 0 t0) 1 t1) 5 v5) 6 (.int .i64 (.ofNat 1))) 17 v6), H⟩ τ))
    (k (.exit 0) ⟨(T.set .leaf 0 t0), H⟩ τ)
def s146 (call : CallK) (N : Nat) (a0 a1 : V) (H : Heap) (τ : Tape) (q : KV) : Ans :=
  loopK (s146_l1 call N) N ⟨(T.set (T.set .leaf 0 a0) 1 a1), H⟩ τ (blockK 0 (seqK (s146_j0 call N q) (endK [(.t 4)] q)))
theorem s146_eq (call : CallK) (N : Nat) (a0 a1 : V) (H : Heap) (τ : Tape) (q : KV) : s146 call N a0 a1 H τ q = funK call N fn146 [a0, a1] H τ q := by kernel_rfl
def e146 (call : CallK) (N : Nat) (vs : List V) (H : Heap) (τ : Tape) (q : KV) : Ans := match vs with | [a0, a1] => s146 call N a0 a1 H τ q | _ => none
theorem e146_ok : EntOk fn146 e146 := by
  intro call N vs H τ q r h
  unfold e146 at h
  split at h
  · rw [s146_eq] at h; exact h
  · cases h
/-- slices.insertionSortOrdered[string] -/
def fn150 : Fun := ⟨3,
  (.seq (.reg [⟨(some 8), none, (.p .mv), [(.t 1)], none⟩,
    ⟨(some 9), none, (.p (.bin .add)), [(.t 8), (.c (.int .i64 (.ofNat 1)))], none⟩,
    ⟨(some 6), none, (.p .mv), [(.t 9)], none⟩])
  (.keep [0, 1, 2, 6] (.block 0
   (.loop
    (.keep [0, 1, 2, 6] (.seq (.seq (.reg [⟨(some 10), none, (.p .mv), [(.t 6)], none⟩,
      ⟨(some 11), none, (.p .mv), [(.t 2)], none⟩,
      ⟨(some 12), none, (.p (.bin .lss)), [(.t 10), (.t 11)], none⟩])
    (.keep [0, 1, 2, 6, 12] (.cond (.t 12)
     .skip
     (.keep [] (.exit 0)))))
    (.keep [0, 1, 2, 6] (.seq (.block 1
     (.seq (.reg [⟨(some 15), none, (.p .mv), [(.t 6)], none⟩,
       ⟨(some 7), none, (.p .mv), [(.t 15)], none⟩])
     (.keep [0, 1, 2, 6, 7] (.block 2
      (.loop
       (.keep [0, 1, 2, 6, 7] (.seq (.seq (.draw [⟨(some 16), none, (.p .mv), [(.t 7)], none⟩,
         ⟨(some 17), none, (.p .mv), [(.t 1)], none⟩,
         ⟨(some 18), none, (.p (.bin .gtr)), [(.t 16), (.t 17)], none⟩,
         ⟨(some 19), none, (.p .mv), [(.t 18)], none⟩,
         ⟨(some 20), some (19, true), (.p .mv), [(.t 0)], none⟩,
         ⟨(some 21), some (19, true), (.p .mv), [(.t 7)], none⟩,
         ⟨(some 22), some (19, true), (.p (.slIdx 1)), [(.t 20), (.t 21)], none⟩,
         ⟨(some 23), some (19, true), (.l (.load none)), [(.t 22)], none⟩,
         ⟨(some 24), some (19, true), (.p .mv), [(.t 0)], none⟩,
         ⟨(some 25), some (19, true), (.p .mv), [(.t 7)], none⟩,
         ⟨(some 26), some (19, true), (.p (.bin .sub)), [(.t 25), (.c (.int .i64 (.ofNat 1)))], none⟩,
         ⟨(some 27), some (19, true), (.p (.slIdx 1)), [(.t 24), (.t 26)], none⟩,
         ⟨(some 28), some (19, true), (.l (.load none)), [(.t 27)], none⟩,
         ⟨(some 29), some (19, true), (.call 156), [(.t 23), (.t 28)], none⟩,
         ⟨(some 30), none, (.p .pick), [(.t 19), (.t 29), (.c (.bool false))], none⟩])
       (.keep [0, 1, 2, 6, 7, 30] (.cond (.t 30)
        .skip
        (.keep [0, 1, 2, 6] (.exit 2)))))
       (.keep [0, 1, 2, 6, 7] (.seq (.block 3
        (.draw [⟨(some 33), none, (.p .mv), [(.t 0)], none⟩,
          ⟨(some 34), none, (.p .mv), [(.t 7)], none⟩,
          ⟨(some 35), none, (.p .mv), [(.t 0)], none⟩,
          ⟨(some 36), none, (.p .mv), [(.t 7)], none⟩,
          ⟨(some 37), none, (.p (.bin .sub)), [(.t 36), (.c (.int .i64 (.ofNat 1)))], none⟩,
          ⟨(some 38), none, (.p .mv), [(.t 0)], none⟩,
          ⟨(some 39), none, (.p .mv), [(.t 7)], none⟩,
          ⟨(some 40), none, (.p (.bin .sub)), [(.t 39), (.c (.int .i64 (.ofNat 1)))], none⟩,
          ⟨(some 41), none, (.p (.slIdx 1)), [(.t 38), (.t 40)], none⟩,
          ⟨(some 42), none, (.l (.load none)), [(.t 41)], none⟩,
          ⟨(some 43), none, (.p .mv), [(.t 0)], none⟩,
          ⟨(some 44), none, (.p .mv), [(.t 7)], none⟩,
          ⟨(some 45), none, (.p (.slIdx 1)), [(.t 43), (.t 44)], none⟩,
          ⟨(some 46), none, (.l (.load none)), [(.t 45)], none⟩,
          ⟨(some 47), none, (.p (.slIdx 1)), [(.t 33), (.t 34)], none⟩,
          ⟨none, none, (.e (.store 1)), [(.t 47), (.t 42)], none⟩,
          ⟨(some 48), none, (.p (.slIdx 1)), [(.t 35), (.t 37)], none⟩,
          ⟨none, none, (.e (.store 1)), [(.t 48), (.t 46)], none⟩]))
       (.keep [0, 1, 2, 6, 7] (.reg [⟨(some 31), none, (.p .mv), [(.t 7)], none⟩,
         ⟨(some 32), none, (.p (.bin .sub)), [(.t 31), (.c (.int .i64 (.ofNat 1)))], none⟩,
         ⟨(some 7), none, (.p .mv), [(.t 32)], none⟩])))))))))))
    (.keep [0, 1, 2, 6] (.reg [⟨(some 13), none, (.p .mv), [(.t 6)], none⟩,
      ⟨(some 14), none, (.p (.bin .add)), [(.t 13), (.c (.int .i64 (.ofNat 1)))], none⟩,
      ⟨(some 6), none, (.p .mv), [(.t 14)], none⟩])))))))))),
  []⟩
def s150_j1 (call : CallK) (N : Nat) (k : KC) (st : St) (τ : Tape) : Ans :=
  match st with
  | ⟨fr, H⟩ =>
  getK fr 0 fun t0 =>
  getK fr 1 fun t1 =>
  getK fr 2 fun t2 =>
  getK fr 6 fun t6 =>
  binK .add t6 (.int .i64 (.ofNat 1)) fun v2 =>
  k .normal ⟨(T.set (T.set (T.set (T.set (T.set (T.set (T.set .leaf 0 t0) 1 t1) 2 t2) 6 t6) 13 t6) 14 v2) 6 v2), H⟩ τ
def s150_l2 (call : CallK) (N : Nat) (st : St) (τ : Tape) (k : KC) : Ans :=
  match st with
  | ⟨fr, H⟩ =>
  getK fr 0 fun t0 =>
  getK fr 1 fun t1 =>
  getK fr 2 fun t2 =>
  getK fr 6 fun t6 =>
  getK fr 7 fun t7 =>
  binK .gtr t7 t1 fun v3 =>
  gK v3 true (fun q' => q' t0 H τ) H τ fun v4 H5 τ6 =>
  gK v3 true (fun q' => q' t7 H5 τ6) H5 τ6 fun v7 H8 τ9 =>
  gK v3 true (fun q' => someK (pSlIdx 1 [v4, v7]) fun v => q' v H8 τ9) H8 τ9 fun v10 H11 τ12 =>
  gK v3 true (fun q' => someK (lLoad1 [v10] H11) fun v => q' v H11 τ12) H11 τ12 fun v13 H14 τ15 =>
  gK v3 true (fun q' => q' t0 H14 τ15) H14 τ15 fun v16 H17 τ18 =>
  gK v3 true (fun q' => q' t7 H17 τ18) H17 τ18 fun v19 H20 τ21 =>
  gK v3 true (fun q' => binK .sub v19 (.int .i64 (.ofNat 1)) fun v => q' v H20 τ21) H20 τ21 fun v22 H23 τ24 =>
  gK v3 true (fun q' => someK (pSlIdx 1 [v16, v22]) fun v => q' v H23 τ24) H23 τ24 fun v25 H26 τ27 =>
  gK v3 true (fun q' => someK (lLoad1 [v25] H26) fun v => q' v H26 τ27) H26 τ27 fun v28 H29 τ30 =>
  gK v3 true (fun q' => call 156 [v13, v28] H29 τ30 q') H29 τ30 fun v31 H32 τ33 =>
  someK (pPick [v3, v31, (.bool false)]) fun v34 =>
  condK v34
    (binK .sub t7 (.int .i64 (.ofNat 1)) fun v35 =>
  binK .sub t7 (.int .i64 (.ofNat 1)) fun v36 =>
  someK (pSlIdx 1 [t0, v36]) fun v37 =>
  someK (lLoad1 [v37] H32) fun v38 =>
  someK (pSlIdx 1 [t0, t7]) fun v39 =>
  someK (lLoad1 [v39] H32) fun v40 =>
  someK (pSlIdx 1 [t0, t7]) fun v41 =>
  effK (eStore 1 [v41, v38] H32 τ33) fun v42 H43 τ44 =>
  someK (pSlIdx 1 [t0, v35]) fun v45 =>
  effK (eStore 1 [v45, v40] H43 τ44) fun v46 H47 τ48 =>
  binK .sub t7 (.int .i64 (.ofNat 1)) fun v49 =>
  k .normal ⟨(T.set (T.set (T.set (T.set (T.set (T.set (T.set (T.set .leaf 0 t0) 1 t1) 2 t2) 6 t6) 7 t7) 31 t7) 32 v49) 7 v49), H47⟩ τ48)
    (k (.exit 2) ⟨(T.set (T.set (T.set (T.set .leaf 0 t0) 1 t1) 2 t2) 6 t6), H32⟩ τ33)
def s150_l0 (call : CallK) (N : Nat) (st : St) (τ : Tape) (k : KC) : Ans :=
  match st with
  | ⟨fr, H⟩ =>
  getK fr 0 fun t0 =>
  getK fr 1 fun t1 =>
  getK fr 2 fun t2 =>
  getK fr 6 fun t6 =>
  binK .lss t6 t2 fun v1 =>
  condK v1
    (loopK (s150_l2 call N) N ⟨(T.set (T.set (T.set (T.set (T.set .leaf 0 t0) 1 t1) 2 t2) 6 t6) 7 t6), H⟩ τ (blockK 2 (blockK 1 (seqK (s150_j1 call N k) k))))
    (k (.exit 0) ⟨.leaf, H⟩ τ)
def s150 (call : CallK) (N : Nat) (a0 a1 a2 : V) (H : Heap) (τ : Tape) (q : KV) : Ans :=
  binK .add a1 (.int .i64 (.ofNat 1)) fun v0 =>
  loopK (s150_l0 call N) N ⟨(T.set (T.set (T.set (T.set .leaf 0 a0) 1 a1) 2 a2) 6 v0), H⟩ τ (blockK 0 (endK [] q))
theorem s150_eq (call : CallK) (N : Nat) (a0 a1 a2 : V) (H : Heap) (τ : Tape) (q : KV) : s150 call N a0 a1 a2 H τ q = funK call N fn150 [a0, a1, a2] H τ q := by kernel_rfl
def e150 (call : CallK) (N : Nat) (vs : List V) (H : Heap) (τ : Tape) (q : KV) : Ans := match vs with | [a0, a1, a2] => s150 call N a0 a1 a2 H τ q | _ => none
theorem e150_ok : EntOk fn150 e150 := by
  intro call N vs H τ q r h
  unfold e150 at h
  split at h
  · rw [s150_eq] at h; exact h
  · cases h
/-- slices.heapSortOrdered[string] -/
def fn151 : Fun := ⟨3,
  (.seq (.reg [⟨(some 11), none, (.p .mv), [(.t 1)], none⟩,
    ⟨(some 6), none, (.p .mv), [(.t 11)], none⟩])
  (.keep [0, 1, 2, 6] (.seq (.reg [⟨(some 7), none, (.p .mv), [(.c (.int .i64 (.ofNat 0)))], none⟩])
  (.keep [0, 1, 2, 6, 7] (.seq (.reg [⟨(some 12), none, (.p .mv), [(.t 2)], none⟩,
    ⟨(some 13), none, (.p .mv), [(.t 1)], none⟩,
    ⟨(some 14), none, (.p (.bin .sub)), [(.t 12), (.t 13)], none⟩,
    ⟨(some 8), none, (.p .mv), [(.t 14)], none⟩])
  (.keep [0, 6, 7, 8] (.seq (.seq (.reg [⟨(some 15), none, (.p .mv), [(.t 8)], none⟩,
    ⟨(some 16), none, (.p (.bin .sub)), [(.t 15), (.c (.int .i64 (.ofNat 1)))], none⟩,
    ⟨(some 17), none, (.p (.bin .quo)), [(.t 16), (.c (.int .i64 (.ofNat 2)))], none⟩,
    ⟨(some 9), none, (.p .mv), [(.t 17)], none⟩])
  (.keep [0, 6, 7, 8, 9] (.block 0
   (.loop
    (.keep [0, 6, 7, 8, 9] (.seq (.seq (.reg [⟨(some 18), none, (.p .mv), [(.t 9)], none⟩,
      ⟨(some 19), none, (.p (.bin .geq)), [(.t 18), (.c (.int .i64 (.ofNat 0)))], none⟩])
    (.keep [0, 6, 7, 8, 9, 19] (.cond (.t 19)
     .skip
     (.keep [0, 6, 7, 8] (.exit 0)))))
    (.keep [0, 6, 7, 8, 9] (.seq (.block 1
     (.reg [⟨(some 22), none, (.p .mv), [(.t 0)], none⟩,
       ⟨(some 23), none, (.p .mv), [(.t 9)], none⟩,
       ⟨(some 24), none, (.p .mv), [(.t 8)], none⟩,
       ⟨(some 25), none, (.p .mv), [(.t 6)], none⟩,
       ⟨(some 26), none, (.call 180), [(.t 22), (.t 23), (.t 24), (.t 25)], none⟩]))
    (.keep [0, 6, 7, 8, 9] (.reg [⟨(some 20), none, (.p .mv), [(.t 9)], none⟩,
      ⟨(some 21), none, (.p (.bin .sub)), [(.t 20), (.c (.int .i64 (.ofNat 1)))], none⟩,
      ⟨(some 9), none, (.p .mv), [(.t 21)], none⟩]))))))))))
  (.keep [0, 6, 7, 8] (.seq (.reg [⟨(some 27), none, (.p .mv), [(.t 8)], none⟩,
    ⟨(some 28), none, (.p (.bin .sub)), [(.t 27), (.c (.int .i64 (.ofNat 1)))], none⟩,
    ⟨(some 10), none, (.p .mv), [(.t 28)], none⟩])
  (.keep [0, 6, 7, 10] (.block 2
   (.loop
    (.keep [0, 6, 7, 10] (.seq (.seq (.reg [⟨(some 29), none, (.p .mv), [(.t 10)], none⟩,
      ⟨(some 30), none, (.p (.bin .geq)), [(.t 29), (.c (.int .i64 (.ofNat 0)))], none⟩])
    (.keep [0, 6, 7, 10, 30] (.cond (.t 30)
     .skip
     (.keep [] (.exit 2)))))
    (.keep [0, 6, 7, 10] (.seq (.block 3
     (.seq (.draw [⟨(some 33), none, (.p .mv), [(.t 0)], none⟩,
       ⟨(some 34), none, (.p .mv), [(.t 6)], none⟩,
       ⟨(some 35), none, (.p .mv), [(.t 0)], none⟩,
       ⟨(some 36), none, (.p .mv), [(.t 6)], none⟩,
       ⟨(some 37), none, (.p .mv), [(.t 10)], none⟩,
       ⟨(some 38), none, (.p (.bin .add)), [(.t 36), (.t 37)], none⟩,
       ⟨(some 39), none, (.p .mv), [(.t 0)], none⟩,
       ⟨(some 40), none, (.p .mv), [(.t 6)], none⟩,
       ⟨(some 41), none, (.p .mv), [(.t 10)], none⟩,
       ⟨(some 42), none, (.p (.bin .add)), [(.t 40), (.t 41)], none⟩,
       ⟨(some 43), none, (.p (.slIdx 1)), [(.t 39), (.t 42)], none⟩,
       ⟨(some 44), none, (.l (.load none)), [(.t 43)], none⟩,
       ⟨(some 45), none, (.p .mv), [(.t 0)], none⟩,
       ⟨(some 46), none, (.p .mv), [(.t 6)], none⟩,
       ⟨(some 47), none, (.p (.slIdx 1)), [(.t 45), (.t 46)], none⟩,
       ⟨(some 48), none, (.l (.load none)), [(.t 47)], none⟩,
       ⟨(some 49), none, (.p (.slIdx 1)), [(.t 33), (.t 34)], none⟩,
       ⟨none, none, (.e (.store 1)), [(.t 49), (.t 44)], none⟩,
       ⟨(some 50), none, (.p (.slIdx 1)), [(.t 35), (.t 38)], none⟩,
       ⟨none, none, (.e (.store 1)), [(.t 50), (.t 48)], none⟩])
     (.keep [0, 6, 7, 10] (.reg [⟨(some 51), none, (.p .mv), [(.t 0)], none⟩,
       ⟨(some 52), none, (.p .mv), [(.t 7)], none⟩,
       ⟨(some 53), none, (.p .mv), [(.t 10)], none⟩,
       ⟨(some 54), none, (.p .mv), [(.t 6)], none⟩,
       ⟨(some 55), none, (.call 180), [(.t 51), (.t 52), (.t 53), (.t 54)], none⟩]))))
    (.keep [0, 6, 7, 10] (.reg [⟨(some 31), none, (.p .mv), [(.t 10)], none⟩,
      ⟨(some 32), none, (.p (.bin .sub)), [(.t 31), (.c (.int .i64 (.ofNat 1)))], none⟩,
      ⟨(some 10), none, (.p .mv), [(.t 32)], none⟩])))))))))))))))))),
  []⟩
def s151_l1 (call : CallK) (N : Nat) (st : St) (τ : Tape) (k : KC) : Ans :=
  match st with
  | ⟨fr, H⟩ =>
  getK fr 0 fun t0 =>
  getK fr 6 fun t6 =>
  getK fr 7 fun t7 =>
  getK fr 10 fun t10 =>
  binK .geq t10 (.int .i64 (.ofNat 0)) fun v4 =>
  condK v4
    (binK .add t6 t10 fun v5 =>
  binK .add t6 t10 fun v6 =>
  someK (pSlIdx 1 [t0, v6]) fun v7 =>
  someK (lLoad1 [v7] H) fun v8 =>
  someK (pSlIdx 1 [t0, t6]) fun v9 =>
  someK (lLoad1 [v9] H) fun v10 =>
  someK (pSlIdx 1 [t0, t6]) fun v11 =>
  effK (eStore 1 [v11, v8] H τ) fun v12 H13 τ14 =>
  someK (pSlIdx 1 [t0, v5]) fun v15 =>
  effK (eStore 1 [v15, v10] H13 τ14) fun v16 H17 τ18 =>
  call 180 [t0, t7, t10, t6] H17 τ18 fun v19 H20 τ21 =>
  binK .sub t10 (.int .i64 (.ofNat 1)) fun v22 =>
  k .normal ⟨(T.set (T.set (T.set (T.set (T.set (T.set (T.set .leaf 0 t0) 6 t6) 7 t7) 10 t10) 31 t10) 32 v22) 10 v22), H20⟩ τ21)
    (k (.exit 2) ⟨.leaf, H⟩ τ)
def s151_j0 (call : CallK) (N : Nat) (q : KV) (st : St) (τ : Tape) : Ans :=
  match st with
  | ⟨fr, H⟩ =>
  getK fr 0 fun t0 =>
  getK fr 6 fun t6 =>
  getK fr 7 fun t7 =>
  getK fr 8 fun t8 =>
  binK .sub t8 (.int .i64 (.ofNat 1)) fun v3 =>
  loopK (s151_l1 call N) N ⟨(T.set (T.set (T.set (T.set .leaf 0 t0) 6 t6) 7 t7) 10 v3), H⟩ τ (blockK 2 (endK [] q))
def s151_l2 (call : CallK) (N : Nat) (st : St) (τ : Tape) (k : KC) : Ans :=
  match st with
  | ⟨fr, H⟩ =>
  getK fr 0 fun t0 =>
  getK fr 6 fun t6 =>
  getK fr 7 fun t7 =>
  getK fr 8 fun t8 =>
  getK fr 9 fun t9 =>
  binK .geq t9 (.int .i64 (.ofNat 0)) fun v23 =>
  condK v23
    (call 180 [t0, t9, t8, t6] H τ fun v24 H25 τ26 =>
  binK .sub t9 (.int .i64 (.ofNat 1)) fun v27 =>
  k .normal ⟨(T.set (T.set (T.set (T.set (T.set (T.set (T.set (T.set .leaf 0 t0) 6 t6) 7 t7) 8 t8) 9 t9) 20 t9) 21 v27) 9 v27), H25⟩ τ26)
    (k (.exit 0) ⟨(T.set (T.set (T.set (T.set .leaf 0 t0) 6 t6) 7 t7) 8 t8), H⟩ τ)
def s151 (call : CallK) (N : Nat) (a0 a1 a2 : V) (H : Heap) (τ : Tape) (q : KV) : Ans :=
  binK .sub a2 a1 fun v0 =>
  binK .sub v0 (.int .i64 (.ofNat 1)) fun v1 =>
  binK .quo v1 (.int .i64 (.ofNat 2)) fun v2 =>
  loopK (s151_l2 call N) N ⟨(T.set (T.set (T.set (T.set (T.set .leaf 0 a0) 6 a1) 7 (.int .i64 (.ofNat 0))) 8 v0) 9 v2), H⟩ τ (blockK 0 (seqK (s151_j0 call N q) (endK [] q)))
theorem s151_eq (call : CallK) (N : Nat) (a0 a1 a2 : V) (H : Heap) (τ : Tape) (q : KV) : s151 call N a0 a1 a2 H τ q = funK call N fn151 [a0, a1, a2] H τ q := by kernel_rfl
def e151 (call : CallK) (N : Nat) (vs : List V) (H : Heap) (τ : Tape) (q : KV) : Ans := match vs with | [a0, a1, a2] => s151 call N a0 a1 a2 H τ q | _ => none
theorem e151_ok : EntOk fn151 e151 := by
  intro call N vs H τ q r h
  unfold e151 at h
  split at h
  · rw [s151_eq] at h; exact h
  · cases h
/-- slices.breakPatternsOrdered[string] -/
def fn152 : Fun := ⟨3,
  (.seq (.reg [⟨(some 11), none, (.p .mv), [(.t 2)], none⟩,
    ⟨(some 12), none, (.p .mv), [(.t 1)], none⟩,
    ⟨(some 13), none, (.p (.bin .sub)), [(.t 11), (.t 12)], none⟩,
    ⟨(some 6), none, (.p .mv), [(.t 13)], none⟩])
  (.keep [0, 1, 6] (.seq (.reg [⟨(some 14), none, (.p .mv), [(.t 6)], none⟩,
    ⟨(some 15), none, (.p (.bin .geq)), [(.t 14), (.c (.int .i64 (.ofNat 8)))], none⟩])
  (.keep [0, 1, 6, 15] (.cond (.t 15)
   (.seq (.reg [⟨(some 16), none, (.p .mv), [(.t 6)], none⟩,
     ⟨(some 17), none, (.p (.toInt .u64)), [(.t 16)], none⟩,
     ⟨(some 7), none, (.e (.alloc [(.int .u64 (.ofNat 0))])), [], none⟩,
     ⟨none, none, (.e (.store 1)), [(.t 7), (.t 17)], none⟩])
   (.keep [0, 1, 6, 7] (.seq (.reg [⟨(some 18), none, (.p .mv), [(.t 6)], none⟩,
     ⟨(some 19), none, (.call 181), [(.t 18)], none⟩,
     ⟨(some 8), none, (.p .mv), [(.t 19)], none⟩])
   (.keep [0, 1, 6, 7, 8] (.seq (.reg [⟨(some 20), none, (.p .mv), [(.t 1)], none⟩,
     ⟨(some 21), none, (.p .mv), [(.t 6)], none⟩,
     ⟨(some 22), none, (.p (.bin .quo)), [(.t 21), (.c (.int .i64 (.ofNat 4)))], none⟩,
     ⟨(some 23), none, (.p (.bin .mul)), [(.t 22), (.c (.int .i64 (.ofNat 2)))], none⟩,
     ⟨(some 24), none, (.p (.bin .add)), [(.t 20), (.t 23)], none⟩,
     ⟨(some 25), none, (.p (.bin .sub)), [(.t 24), (.c (.int .i64 (.ofNat 1)))], none⟩,
     ⟨(some 9), none, (.p .mv), [(.t 25)], none⟩])
   (.keep [0, 1, 6, 7, 8, 9] (.block 0
    (.loop
     (.keep [0, 1, 6, 7, 8, 9] (.seq (.seq (.reg [⟨(some 26), none, (.p .mv), [(.t 9)], none⟩,
       ⟨(some 27), none, (.p .mv), [(.t 1)], none⟩,
       ⟨(some 28), none, (.p .mv), [(.t 6)], none⟩,
       ⟨(some 29), none, (.p (.bin .quo)), [(.t 28), (.c (.int .i64 (.ofNat 4)))], none⟩,
       ⟨(some 30), none, (.p (.bin .mul)), [(.t 29), (.c (.int .i64 (.ofNat 2)))], none⟩,
       ⟨(some 31), none, (.p (.bin .add)), [(.t 27), (.t 30)], none⟩,
       ⟨(some 32), none, (.p (.bin .add)), [(.t 31), (.c (.int .i64 (.ofNat 1)))], none⟩,
       ⟨(some 33), none, (.p (.bin .leq)), [(.t 26), (.t 32)], none⟩])
     (.keep [0, 1, 6, 7, 8, 9, 33] (.cond (.t 33)
      .skip
      (.keep [] (.exit 0)))))
     (.keep [0, 1, 6, 7, 8, 9] (.seq (.block 1
      (.seq (.reg [⟨(some 36), none, (.call 182), [(.t 7)], none⟩,
        ⟨(some 37), none, (.p .mv), [(.t 8)], none⟩,
        ⟨(some 38), none, (.p (.bin .sub)), [(.t 37), (.c (.int .u64 (.ofNat 1)))], none⟩,
        ⟨(some 39), none, (.p (.bin .and)), [(.t 36), (.t 38)], none⟩,
        ⟨(some 40), none, (.p (.toInt .i64)), [(.t 39)], none⟩,
        ⟨(some 10), none, (.p .mv), [(.t 40)], none⟩])
      (.keep [0, 1, 6, 7, 8, 9, 10] (.seq (.seq (.reg [⟨(some 41), none, (.p .mv), [(.t 10)], none⟩,
        ⟨(some 42), none, (.p .mv), [(.t 6)], none⟩,
        ⟨(some 43), none, (.p (.bin .geq)), [(.t 41), (.t 42)], none⟩])
      (.keep [0, 1, 6, 7, 8, 9, 10, 43] (.cond (.t 43)
       (.reg [⟨(some 44), none, (.p .mv), [(.t 10)], none⟩,
         ⟨(some 45), none, (.p .mv), [(.t 6)], none⟩,
         ⟨(some 46), none, (.p (.bin .sub)), [(.t 44), (.t 45)], none⟩,
         ⟨(some 10), none, (.p .mv), [(.t 46)], none⟩])
       .skip)))
      (.keep [0, 1, 6, 7, 8, 9, 10] (.draw [⟨(some 47), none, (.p .mv), [(.t 0)], none⟩,
        ⟨(some 48), none, (.p .mv), [(.t 9)], none⟩,
        ⟨(some 49), none, (.p .mv), [(.t 0)], none⟩,
        ⟨(some 50), none, (.p .mv), [(.t 1)], none⟩,
        ⟨(some 51), none, (.p .mv), [(.t 10)], none⟩,
        ⟨(some 52), none, (.p (.bin .add)), [(.t 50), (.t 51)], none⟩,
        ⟨(some 53), none, (.p .mv), [(.t 0)], none⟩,
        ⟨(some 54), none, (.p .mv), [(.t 1)], none⟩,
        ⟨(some 55), none, (.p .mv), [(.t 10)], none⟩,
        ⟨(some 56), none, (.p (.bin .add)), [(.t 54), (.t 55)], none⟩,
        ⟨(some 57), none, (.p (.slIdx 1)), [(.t 53), (.t 56)], none⟩,
        ⟨(some 58), none, (.l (.load none)), [(.t 57)], none⟩,
        ⟨(some 59), none, (.p .mv), [(.t 0)], none⟩,
        ⟨(some 60), none, (.p .mv), [(.t 9)], none⟩,
        ⟨(some 61), none, (.p (.slIdx 1)), [(.t 59), (.t 60)], none⟩,
        ⟨(some 62), none, (.l (.load none)), [(.t 61)], none⟩,
        ⟨(some 63), none, (.p (.slIdx 1)), [(.t 47), (.t 48)], none⟩,
        ⟨none, none, (.e (.store 1)), [(.t 63), (.t 58)], none⟩,
        ⟨(some 64), none, (.p (.slIdx 1)), [(.t 49), (.t 52)], none⟩,
        ⟨none, none, (.e (.store 1)), [(.t 64), (.t 62)], none⟩]))))))
     (.keep [0, 1, 6, 7, 8, 9] (.reg [⟨(some 34), none, (.p .mv), [(.t 9)], none⟩,
       ⟨(some 35), none, (.p (.bin .add)), [(.t 34), (.c (.int .i64 (.ofNat 1)))], none⟩,
       ⟨(some 9), none, (.p .mv), [(.t 35)], none⟩]))))))))))))))
   .skip))))),
  []⟩
def s152_j1 (call : CallK) (N : Nat) (k : KC) (st : St) (τ : Tape) : Ans :=
  match st with
  | ⟨fr, H⟩ =>
  getK fr 0 fun t0 =>
  getK fr 1 fun t1 =>
  getK fr 6 fun t6 =>
  getK fr 7 fun t7 =>
  getK fr 8 fun t8 =>
  getK fr 9 fun t9 =>
  binK .add t9 (.int .i64 (.ofNat 1)) fun v28 =>
  k .normal ⟨(T.set (T.set (T.set (T.set (T.set (T.set (T.set (T.set (T.set .leaf 0 t0) 1 t1) 6 t6) 7 t7) 8 t8) 9 t9) 34 t9) 35 v28) 9 v28), H⟩ τ
def s152_j2 (call : CallK) (N : Nat) (k : KC) (st : St) (τ : Tape) : Ans :=
  match st with
  | ⟨fr, H⟩ =>
  getK fr 0 fun t0 =>
  getK fr 1 fun t1 =>
  getK fr 6 fun t6 =>
  getK fr 7 fun t7 =>
  getK fr 8 fun t8 =>
  getK fr 9 fun t9 =>
  getK fr 10 fun t10 =>
  binK .add t1 t10 fun v29 =>
  binK .add t1 t10 fun v30 =>
  someK (pSlIdx 1 [t0, v30]) fun v31 =>
  someK (lLoad1 [v31] H) fun v32 =>
  someK (pSlIdx 1 [t0, t9]) fun v33 =>
  someK (lLoad1 [v33] H) fun v34 =>
  someK (pSlIdx 1 [t0, t9]) fun v35 =>
  effK (eStore 1 [v35, v32] H τ) fun v36 H37 τ38 =>
  someK (pSlIdx 1 [t0, v29]) fun v39 =>
  effK (eStore 1 [v39, v34] H37 τ38) fun v40 H41 τ42 =>
  s152_j1 call N k ⟨(T.set (T.set (T.set (T.set (T.set (T.set (T.set (T.set (T.set (T.set (T.set (T.set (T.set (T.set (T.set (T.set (T.set (T.set (T.set (T.set (T.set (T.set (T.set (T.set (T.set .leaf 0 t0) 1 t1) 6 t6) 7 t7) 8 t8) 9 t9) 10 t10) 47 t0) 48 t9) 49 t0) 50 t1) 51 t10) 52 v29) 53 t0) 54 t1) 55 t10) 56 v30) 57 v31) 58 v32) 59 t0) 60 t9) 61 v33) 62 v34) 63 v35) 64 v39), H41⟩ τ42
def s152_l0 (call : CallK) (N : Nat) (st : St) (τ : Tape) (k : KC) : Ans :=
  match st with
  | ⟨fr, H⟩ =>
  getK fr 0 fun t0 =>
  getK fr 1 fun t1 =>
  getK fr 6 fun t6 =>
  getK fr 7 fun t7 =>
  getK fr 8 fun t8 =>
  getK fr 9 fun t9 =>
  binK .quo t6 (.int .i64 (.ofNat 4)) fun v16 =>
  binK .mul v16 (.int .i64 (.ofNat 2)) fun v17 =>
  binK .add t1 v17 fun v18 =>
  binK .add v18 (.int .i64 (.ofNat 1)) fun v19 =>
  binK .leq t9 v19 fun v20 =>
  condK v20
    (call 182 [t7] H τ fun v21 H22 τ23 =>
  binK .sub t8 (.int .u64 (.ofNat 1)) fun v24 =>
  binK .and v21 v24 fun v25 =>
  toIntK .i64 v25 fun v26 =>
  binK .geq v26 t6 fun v27 =>
  condK v27
    (binK .sub v26 t6 fun v43 =>
  s152_j2 call N k ⟨(T.set (T.set (T.set (T.set (T.set (T.set (T.set (T.set (T.set (T.set (T.set (T.set .leaf 0 t0) 1 t1) 6 t6) 7 t7) 8 t8) 9 t9) 10 v26) 43 v27) 44 v26) 45 t6) 46 v43) 10 v43), H22⟩ τ23)
    (s152_j2 call N k ⟨(T.set (T.set (T.set (T.set (T.set (T.set (T.set (T.set .leaf 0 t0) 1 t1) 6 t6) 7 t7) 8 t8) 9 t9) 10 v26) 43 v27), H22⟩ τ23))
    (k (.exit 0) ⟨.leaf, H⟩ τ)
def s152 (call : CallK) (N : Nat) (a0 a1 a2 : V) (H : Heap) (τ : Tape) (q : KV) : Ans :=
  binK .sub a2 a1 fun v0 =>
  binK .geq v0 (.int .i64 (.ofNat 8)) fun v1 =>
  condK v1
    (toIntK .u64 v0 fun v2 =>
  effK (eAlloc [(.int .u64 (.ofNat 0))] [] H τ) fun v3 H4 τ5 =>
  effK (eStore 1 [v3, v2] H4 τ5) fun v6 H7 τ8 =>
  call 181 [v0] H7 τ8 fun v9 H10 τ11 =>
  binK .quo v0 (.int .i64 (.ofNat 4)) fun v12 =>
  binK .mul v12 (.int .i64 (.ofNat 2)) fun v13 =>
  binK .add a1 v13 fun v14 =>
  binK .sub v14 (.int .i64 (.ofNat 1)) fun v15 =>
  loopK (s152_l0 call N) N ⟨(T.set (T.set (T.set (T.set (T.set (T.set .leaf 0 a0) 1 a1) 6 v0) 7 v3) 8 v9) 9 v15), H10⟩ τ11 (blockK 0 (endK [] q)))
    (q (.tup []) H τ)
theorem s152_eq (call : CallK) (N : Nat) (a0 a1 a2 : V) (H : Heap) (τ : Tape) (q : KV) : s152 call N a0 a1 a2 H τ q = funK call N fn152 [a0, a1, a2] H τ q := by kernel_rfl
def e152 (call : CallK) (N : Nat) (vs : List V) (H : Heap) (τ : Tape) (q : KV) : Ans := match vs with | [a0, a1, a2] => s152 call N a0 a1 a2 H τ q | _ => none
theorem e152_ok : EntOk fn152 e152 := by
  intro call N vs H τ q r h
  unfold e152 at h
  split at h
  · rw [s152_eq] at h; exact h
  · cases h
/-- slices.choosePivotOrdered[string] -/
def fn153 : Fun := ⟨3,
  (.seq (.reg [⟨(some 6), none, (.p .mv), [(.c (.int .i64 (.ofNat 0)))], none⟩,
    ⟨(some 7), none, (.p .mv), [(.c (.int .i64 (.ofNat 0)))], none⟩])
  (.keep [0, 1, 2] (.seq (.reg [⟨(some 13), none, (.p .mv), [(.t 2)], none⟩,
    ⟨(some 14), none, (.p .mv), [(.t 1)], none⟩,
    ⟨(some 15), none, (.p (.bin .sub)), [(.t 13), (.t 14)], none⟩,
    ⟨(some 8), none, (.p .mv), [(.t 15)], none⟩])
  (.keep [0, 1, 8] (.seq (.reg [⟨(some 9), none, (.e (.alloc [(.int .i64 (.ofNat 0))])), [], none⟩])
  (.keep [0, 1, 8, 9] (.seq (.reg [⟨(some 16), none, (.p .mv), [(.t 1)], none⟩,
    ⟨(some 17), none, (.p .mv), [(.t 8)], none⟩,
    ⟨(some 18), none, (.p (.bin .quo)), [(.t 17), (.c (.int .i64 (.ofNat 4)))], none⟩,
    ⟨(some 19), none, (.p (.bin .mul)), [(.t 18), (.c (.int .i64 (.ofNat 1)))], none⟩,
    ⟨(some 20), none, (.p (.bin .add)), [(.t 16), (.t 19)], none⟩,
    ⟨(some 10), none, (.p .mv), [(.t 20)], none⟩])
  (.keep [0, 1, 8, 9, 10] (.seq (.reg [⟨(some 21), none, (.p .mv), [(.t 1)], none⟩,
    ⟨(some 22), none, (.p .mv), [(.t 8)], none⟩,
    ⟨(some 23), none, (.p (.bin .quo)), [(.t 22), (.c (.int .i64 (.ofNat 4)))], none⟩,
    ⟨(some 24), none, (.p (.bin .mul)), [(.t 23), (.c (.int .i64 (.ofNat 2)))], none⟩,
    ⟨(some 25), none, (.p (.bin .add)), [(.t 21), (.t 24)], none⟩,
    ⟨(some 11), none, (.p .mv), [(.t 25)], none⟩])
  (.keep [0, 1, 8, 9, 10, 11] (.seq (.reg [⟨(some 26), none, (.p .mv), [(.t 1)], none⟩,
    ⟨(some 27), none, (.p .mv), [(.t 8)], none⟩,
    ⟨(some 28), none, (.p (.bin .quo)), [(.t 27), (.c (.int .i64 (.ofNat 4)))], none⟩,
    ⟨(some 29), none, (.p (.bin .mul)), [(.t 28), (.c (.int .i64 (.ofNat 3)))], none⟩,
    ⟨(some 30), none, (.p (.bin .add)), [(.t 26), (.t 29)], none⟩,
    ⟨(some 12), none, (.p .mv), [(.t 30)], none⟩])
  (.keep [0, 8, 9, 10, 11, 12] (.seq (.seq (.reg [⟨(some 31), none, (.p .mv), [(.t 8)], none⟩,
    ⟨(some 32), none, (.p (.bin .geq)), [(.t 31), (.c (.int .i64 (.ofNat 8)))], none⟩])
  (.keep [0, 8, 9, 10, 11, 12, 32] (.cond (.t 32)
   (.seq (.seq (.reg [⟨(some 33), none, (.p .mv), [(.t 8)], none⟩,
     ⟨(some 34), none, (.p (.bin .geq)), [(.t 33), (.c (.int .i64 (.ofNat 50)))], none⟩])
   (.keep [0, 9, 10, 11, 12, 34] (.cond (.t 34)
    (.seq (.reg [⟨(some 35), none, (.p .mv), [(.t 0)], none⟩,
      ⟨(some 36), none, (.p .mv), [(.t 10)], none⟩,
      ⟨(some 37), none, (.call 183), [(.t 35), (.t 36), (.t 9)], none⟩,
      ⟨(some 10), none, (.p .mv), [(.t 37)], none⟩])
    (.keep [0, 9, 10, 11, 12] (.seq (.reg [⟨(some 38), none, (.p .mv), [(.t 0)], none⟩,
      ⟨(some 39), none, (.p .mv), [(.t 11)], none⟩,
      ⟨(some 40), none, (.call 183), [(.t 38), (.t 39), (.t 9)], none⟩,
      ⟨(some 11), none, (.p .mv), [(.t 40)], none⟩])
    (.keep [0, 9, 10, 11, 12] (.reg [⟨(some 41), none, (.p .mv), [(.t 0)], none⟩,
      ⟨(some 42), none, (.p .mv), [(.t 12)], none⟩,
      ⟨(some 43), none, (.call 183), [(.t 41), (.t 42), (.t 9)], none⟩,
      ⟨(some 12), none, (.p .mv), [(.t 43)], none⟩])))))
    .skip)))
   (.keep [0, 9, 10, 11, 12] (.reg [⟨(some 44), none, (.p .mv), [(.t 0)], none⟩,
     ⟨(some 45), none, (.p .mv), [(.t 10)], none⟩,
     ⟨(some 46), none, (.p .mv), [(.t 11)], none⟩,
     ⟨(some 47), none, (.p .mv), [(.t 12)], none⟩,
     ⟨(some 48), none, (.call 184), [(.t 44), (.t 45), (.t 46), (.t 47), (.t 9)], none⟩,
     ⟨(some 11), none, (.p .mv), [(.t 48)], none⟩])))
   .skip)))
  (.keep [9, 11] (.seq (.reg [⟨(some 49), none, (.l (.load none)), [(.t 9)], none⟩])
  (.keep [11, 49] (.block 0
   (.seq (.reg [⟨(some 52), none, (.p (.bin .eql)), [(.t 49), (.c (.int .i64 (.ofNat 0)))], none⟩,
     ⟨(some 51), none, (.p .mv), [(.t 52)], none⟩])
   (.keep [11, 49, 51] (.cond (.t 51)
    (.seq (.reg [⟨(some 53), none, (.p .mv), [(.t 11)], none⟩,
      ⟨(some 6), none, (.p .mv), [(.t 53)], none⟩,
      ⟨(some 7), none, (.p .mv), [(.c (.int .i64 (.ofNat 1)))], none⟩])
    (.keep [6, 7] (.keep [6, 7] .ret)))
    (.seq (.reg [⟨(some 55), none, (.p (.bin .eql)), [(.t 49), (.c (.int .i64 (.ofNat 12)))], none⟩,
      ⟨(some 54), none, (.p .mv), [(.t 55)], none⟩])
    (.keep [11, 54] (.cond (.t 54)
     (.seq (.reg [⟨(some 56), none, (.p .mv), [(.t 11)], none⟩,
       ⟨(some 6), none, (.p .mv), [(.t 56)], none⟩,
       ⟨(some 7), none, (.p .mv), [(.c (.int .i64 (.ofNat 2)))], none⟩])
     (.keep [6, 7] (.keep [6, 7] .ret)))
     (.seq (.reg [⟨(some 50), none, (.p .mv), [(.t 11)], none⟩,
       ⟨(some 6), none, (.p .mv), [(.t 50)], none⟩,
       ⟨(some 7), none, (.p .mv), [(.c (.int .i64 (.ofNat 0)))], none⟩])
     (.keep [6, 7] (.keep [6, 7] .ret)))))))))))))))))))))))))),
  [(.t 6), (.t 7)]⟩
def s153_j0 (call : CallK) (N : Nat) (q : KV) (st : St) (τ : Tape) : Ans :=
  match st with
  | ⟨fr, H⟩ =>
  getK fr 9 fun t9 =>
  getK fr 11 fun t11 =>
  someK (lLoad1 [t9] H) fun v14 =>
  binK .eql v14 (.int .i64 (.ofNat 0)) fun v15 =>
  condK v15
    (q (.tup [t11, (.int .i64 (.ofNat 1))]) H τ)
    (binK .eql v14 (.int .i64 (.ofNat 12)) fun v16 =>
  condK v16
    (q (.tup [t11, (.int .i64 (.ofNat 2))]) H τ)
    (q (.tup [t11, (.int .i64 (.ofNat 0))]) H τ))
def s153_j1 (call : CallK) (N : Nat) (q : KV) (st : St) (τ : Tape) : Ans :=
  match st with
  | ⟨fr, H⟩ =>
  getK fr 0 fun t0 =>
  getK fr 9 fun t9 =>
  getK fr 10 fun t10 =>
  getK fr 11 fun t11 =>
  getK fr 12 fun t12 =>
  call 184 [t0, t10, t11, t12, t9] H τ fun v18 H19 τ20 =>
  s153_j0 call N q ⟨(T.set (T.set (T.set (T.set (T.set (T.set (T.set (T.set (T.set (T.set (T.set .leaf 0 t0) 9 t9) 10 t10) 11 t11) 12 t12) 44 t0) 45 t10) 46 t11) 47 t12) 48 v18) 11 v18), H19⟩ τ20
def s153 (call : CallK) (N : Nat) (a0 a1 a2 : V) (H : Heap) (τ : Tape) (q : KV) : Ans :=
  binK .sub a2 a1 fun v0 =>
  effK (eAlloc [(.int .i64 (.ofNat 0))] [] H τ) fun v1 H2 τ3 =>
  binK .quo v0 (.int .i64 (.ofNat 4)) fun v4 =>
  binK .mul v4 (.int .i64 (.ofNat 1)) fun v5 =>
  binK .add a1 v5 fun v6 =>
  binK .quo v0 (.int .i64 (.ofNat 4)) fun v7 =>
  binK .mul v7 (.int .i64 (.ofNat 2)) fun v8 =>
  binK .add a1 v8 fun v9 =>
  binK .quo v0 (.int .i64 (.ofNat 4)) fun v10 =>
  binK .mul v10 (.int .i64 (.ofNat 3)) fun v11 =>
  binK .add a1 v11 fun v12 =>
  binK .geq v0 (.int .i64 (.ofNat 8)) fun v13 =>
  condK v13
    (binK .geq v0 (.int .i64 (.ofNat 50)) fun v17 =>
  condK v17
    (call 183 [a0, v6, v1] H2 τ3 fun v21 H22 τ23 =>
  call 183 [a0, v9, v1] H22 τ23 fun v24 H25 τ26 =>
  call 183 [a0, v12, v1] H25 τ26 fun v27 H28 τ29 =>
  s153_j1 call N q ⟨(T.set (T.set (T.set (T.set (T.set (T.set (T.set (T.set (T.set .leaf 0 a0) 9 v1) 10 v21) 11 v24) 12 v12) 41 a0) 42 v12) 43 v27) 12 v27), H28⟩ τ29)
    (s153_j1 call N q ⟨(T.set (T.set (T.set (T.set (T.set (T.set .leaf 0 a0) 9 v1) 10 v6) 11 v9) 12 v12) 34 v17), H2⟩ τ3))
    (s153_j0 call N q ⟨(T.set (T.set (T.set (T.set (T.set (T.set (T.set .leaf 0 a0) 8 v0) 9 v1) 10 v6) 11 v9) 12 v12) 32 v13), H2⟩ τ3)
theorem s153_eq (call : CallK) (N : Nat) (a0 a1 a2 : V) (H : Heap) (τ : Tape) (q : KV) : s153 call N a0 a1 a2 H τ q = funK call N fn153 [a0, a1, a2] H τ q := by kernel_rfl
def e153 (call : CallK) (N : Nat) (vs : List V) (H : Heap) (τ : Tape) (q : KV) : Ans := match vs with | [a0, a1, a2] => s153 call N a0 a1 a2 H τ q | _ => none
theorem e153_ok : EntOk fn153 e153 := by
  intro call N vs H τ q r h
  unfold e153 at h
  split at h
  · rw [s153_eq] at h; exact h
  · cases h
/-- slices.reverseRangeOrdered[string] -/
def fn154 : Fun := ⟨3,
  (.seq (.reg [⟨(some 8), none, (.p .mv), [(.t 1)], none⟩,
    ⟨(some 6), none, (.p .mv), [(.t 8)], none⟩])
  (.keep [0, 2, 6] (.seq (.reg [⟨(some 9), none, (.p .mv), [(.t 2)], none⟩,
    ⟨(some 10), none, (.p (.bin .sub)), [(.t 9), (.c (.int .i64 (.ofNat 1)))], none⟩,
    ⟨(some 7), none, (.p .mv), [(.t 10)], none⟩])
  (.keep [0, 6, 7] (.block 0
   (.loop
    (.keep [0, 6, 7] (.seq (.seq (.reg [⟨(some 11), none, (.p .mv), [(.t 6)], none⟩,
      ⟨(some 12), none, (.p .mv), [(.t 7)], none⟩,
      ⟨(some 13), none, (.p (.bin .lss)), [(.t 11), (.t 12)], none⟩])
    (.keep [0, 6, 7, 13] (.cond (.t 13)
     .skip
     (.keep [] (.exit 0)))))
    (.keep [0, 6, 7] (.block 1
     (.seq (.draw [⟨(some 14), none, (.p .mv), [(.t 0)], none⟩,
       ⟨(some 15), none, (.p .mv), [(.t 6)], none⟩,
       ⟨(some 16), none, (.p .mv), [(.t 0)], none⟩,
       ⟨(some 17), none, (.p .mv), [(.t 7)], none⟩,
       ⟨(some 18), none, (.p .mv), [(.t 0)], none⟩,
       ⟨(some 19), none, (.p .mv), [(.t 7)], none⟩,
       ⟨(some 20), none, (.p (.slIdx 1)), [(.t 18), (.t 19)], none⟩,
       ⟨(some 21), none, (.l (.load none)), [(.t 20)], none⟩,
       ⟨(some 22), none, (.p .mv), [(.t 0)], none⟩,
       ⟨(some 23), none, (.p .mv), [(.t 6)], none⟩,
       ⟨(some 24), none, (.p (.slIdx 1)), [(.t 22), (.t 23)], none⟩,
       ⟨(some 25), none, (.l (.load none)), [(.t 24)], none⟩,
       ⟨(some 26), none, (.p (.slIdx 1)), [(.t 14), (.t 15)], none⟩,
       ⟨none, none, (.e (.store 1)), [(.t 26), (.t 21)], none⟩,
       ⟨(some 27), none, (.p (.slIdx 1)), [(.t 16), (.t 17)], none⟩,
       ⟨none, none, (.e (.store 1)), [(.t 27), (.t 25)], none⟩])
     (.keep [0, 6, 7] (.seq (.reg [⟨(some 28), none, (.p .mv), [(.t 6)], none⟩,
       ⟨(some 29), none, (.p (.bin .add)), [(.t 28), (.c (.int .i64 (.ofNat 1)))], none⟩,
       ⟨(some 6), none, (.p .mv), [(.t 29)], none⟩])
     (.keep [0, 6, 7] (.reg [⟨(some 30), none, (.p .mv), [(.t 7)], none⟩,
       ⟨(some 31), none, (.p (.bin .sub)), [(.t 30), (.c (.int .i64 (.ofNat 1)))], none⟩,
       ⟨(some 7), none, (.p .mv), [(.t 31)], none⟩]))))))))))))))),
  []⟩
def s154_l0 (call : CallK) (N : Nat) (st : St) (τ : Tape) (k : KC) : Ans :=
  match st with
  | ⟨fr, H⟩ =>
  getK fr 0 fun t0 =>
  getK fr 6 fun t6 =>
  getK fr 7 fun t7 =>
  binK .lss t6 t7 fun v1 =>
  condK v1
    (someK (pSlIdx 1 [t0, t7]) fun v2 =>
  someK (lLoad1 [v2] H) fun v3 =>
  someK (pSlIdx 1 [t0, t6]) fun v4 =>
  someK (lLoad1 [v4] H) fun v5 =>
  someK (pSlIdx 1 [t0, t6]) fun v6 =>
  effK (eStore 1 [v6, v3] H τ) fun v7 H8 τ9 =>
  someK (pSlIdx 1 [t0, t7]) fun v10 =>
  effK (eStore 1 [v10, v5] H8 τ9) fun v11 H12 τ13 =>
  binK .add t6 (.int .i64 (.ofNat 1)) fun v14 =>
  binK .sub t7 (.int .i64 (.ofNat 1)) fun v15 =>
  k .normal ⟨(T.set (T.set (T.set (T.set (T.set (T.set .leaf 0 t0) 6 v14) 7 t7) 30 t7) 31 v15) 7 v15), H12⟩ τ13)
    (k (.exit 0) ⟨.leaf, H⟩ τ)
def s154 (call : CallK) (N : Nat) (a0 a1 a2 : V) (H : Heap) (τ : Tape) (q : KV) : Ans :=
  binK .sub a2 (.int .i64 (.ofNat 1)) fun v0 =>
  loopK (s154_l0 call N) N ⟨(T.set (T.set (T.set .leaf 0 a0) 6 a1) 7 v0), H⟩ τ (blockK 0 (endK [] q))
theorem s154_eq (call : CallK) (N : Nat) (a0 a1 a2 : V) (H : Heap) (τ : Tape) (q : KV) : s154 call N a0 a1 a2 H τ q = funK call N fn154 [a0, a1, a2] H τ q := by kernel_rfl
def e154 (call : CallK) (N : Nat) (vs : List V) (H : Heap) (τ : Tape) (q : KV) : Ans := match vs with | [a0, a1, a2] => s154 call N a0 a1 a2 H τ q | _ => none
theorem e154_ok : EntOk fn154 e154 := by
  intro call N vs H τ q r h
  unfold e154 at h
  split at h
  · rw [s154_eq] at h; exact h
  · cases h
/-- slices.partialInsertionSortOrdered[string] -/
def fn155 : Fun := ⟨3,
  (.seq (.reg [⟨(some 6), none, (.p .mv), [(.c (.bool false))], none⟩])
  (.keep [0, 1, 2] (.seq (.reg [⟨(some 11), none, (.p .mv), [(.t 1)], none⟩,
    ⟨(some 12), none, (.p (.bin .add)), [(.t 11), (.c (.int .i64 (.ofNat 1)))], none⟩,
    ⟨(some 7), none, (.p .mv), [(.t 12)], none⟩])
  (.keep [0, 1, 2, 7] (.seq (.seq (.reg [⟨(some 8), none, (.p .mv), [(.c (.int .i64 (.ofNat 0)))], none⟩])
  (.keep [0, 1, 2, 7, 8] (.block 0
   (.loop
    (.keep [0, 1, 2, 7, 8] (.seq (.seq (.reg [⟨(some 13), none, (.p .mv), [(.t 8)], none⟩,
      ⟨(some 14), none, (.p (.bin .lss)), [(.t 13), (.c (.int .i64 (.ofNat 5)))], none⟩])
    (.keep [0, 1, 2, 7, 8, 14] (.cond (.t 14)
     .skip
     (.keep [] (.exit 0)))))
    (.keep [0, 1, 2, 7, 8] (.seq (.block 1
     (.seq (.block 2
      (.loop
       (.keep [0, 1, 2, 7, 8] (.seq (.seq (.draw [⟨(some 17), none, (.p .mv), [(.t 7)], none⟩,
         ⟨(some 18), none, (.p .mv), [(.t 2)], none⟩,
         ⟨(some 19), none, (.p (.bin .lss)), [(.t 17), (.t 18)], none⟩,
         ⟨(some 20), none, (.p .mv), [(.t 19)], none⟩,
         ⟨(some 21), some (20, true), (.p .mv), [(.t 0)], none⟩,
         ⟨(some 22), some (20, true), (.p .mv), [(.t 7)], none⟩,
         ⟨(some 23), some (20, true), (.p (.slIdx 1)), [(.t 21), (.t 22)], none⟩,
         ⟨(some 24), some (20, true), (.l (.load none)), [(.t 23)], none⟩,
         ⟨(some 25), some (20, true), (.p .mv), [(.t 0)], none⟩,
         ⟨(some 26), some (20, true), (.p .mv), [(.t 7)], none⟩,
         ⟨(some 27), some (20, true), (.p (.bin .sub)), [(.t 26), (.c (.int .i64 (.ofNat 1)))], none⟩,
         ⟨(some 28), some (20, true), (.p (.slIdx 1)), [(.t 25), (.t 27)], none⟩,
         ⟨(some 29), some (20, true), (.l (.load none)), [(.t 28)], none⟩,
         ⟨(some 30), some (20, true), (.call 156), [(.t 24), (.t 29)], none⟩,
         ⟨(some 31), some (20, true), (.p (.un .not)), [(.t 30)], none⟩,
         ⟨(some 32), none, (.p .pick), [(.t 20), (.t 31), (.c (.bool false))], none⟩])
       (.keep [0, 1, 2, 7, 8, 32] (.cond (.t 32)
        .skip
        (.keep [0, 1, 2, 7, 8] (.exit 2)))))
       (.keep [0, 1, 2, 7, 8] (.block 3
        (.reg [⟨(some 33), none, (.p .mv), [(.t 7)], none⟩,
          ⟨(some 34), none, (.p (.bin .add)), [(.t 33), (.c (.int .i64 (.ofNat 1)))], none⟩,
          ⟨(some 7), none, (.p .mv), [(.t 34)], none⟩])))))))
     (.keep [0, 1, 2, 7, 8] (.seq (.seq (.reg [⟨(some 35), none, (.p .mv), [(.t 7)], none⟩,
       ⟨(some 36), none, (.p .mv), [(.t 2)], none⟩,
       ⟨(some 37), none, (.p (.bin .eql)), [(.t 35), (.t 36)], none⟩])
     (.keep [0, 1, 2, 7, 8, 37] (.cond (.t 37)
      (.seq (.reg [⟨(some 6), none, (.p .mv), [(.c (.bool true))], none⟩])
      (.keep [6] (.keep [6] .ret)))
      .skip)))
     (.keep [0, 1, 2, 7, 8] (.seq (.seq (.reg [⟨(some 38), none, (.p .mv), [(.t 2)], none⟩,
       ⟨(some 39), none, (.p .mv), [(.t 1)], none⟩,
       ⟨(some 40), none, (.p (.bin .sub)), [(.t 38), (.t 39)], none⟩,
       ⟨(some 41), none, (.p (.bin .lss)), [(.t 40), (.c (.int .i64 (.ofNat 50)))], none⟩])
     (.keep [0, 1, 2, 7, 8, 41] (.cond (.t 41)
      (.seq (.reg [⟨(some 6), none, (.p .mv), [(.c (.bool false))], none⟩])
      (.keep [6] (.keep [6] .ret)))
      .skip)))
     (.keep [0, 1, 2, 7, 8] (.seq (.draw [⟨(some 42), none, (.p .mv), [(.t 0)], none⟩,
       ⟨(some 43), none, (.p .mv), [(.t 7)], none⟩,
       ⟨(some 44), none, (.p .mv), [(.t 0)], none⟩,
       ⟨(some 45), none, (.p .mv), [(.t 7)], none⟩,
       ⟨(some 46), none, (.p (.bin .sub)), [(.t 45), (.c (.int .i64 (.ofNat 1)))], none⟩,
       ⟨(some 47), none, (.p .mv), [(.t 0)], none⟩,
       ⟨(some 48), none, (.p .mv), [(.t 7)], none⟩,
       ⟨(some 49), none, (.p (.bin .sub)), [(.t 48), (.c (.int .i64 (.ofNat 1)))], none⟩,
       ⟨(some 50), none, (.p (.slIdx 1)), [(.t 47), (.t 49)], none⟩,
       ⟨(some 51), none, (.l (.load none)), [(.t 50)], none⟩,
       ⟨(some 52), none, (.p .mv), [(.t 0)], none⟩,
       ⟨(some 53), none, (.p .mv), [(.t 7)], none⟩,
       ⟨(some 54), none, (.p (.slIdx 1)), [(.t 52), (.t 53)], none⟩,
       ⟨(some 55), none, (.l (.load none)), [(.t 54)], none⟩,
       ⟨(some 56), none, (.p (.slIdx 1)), [(.t 42), (.t 43)], none⟩,
       ⟨none, none, (.e (.store 1)), [(.t 56), (.t 51)], none⟩,
       ⟨(some 57), none, (.p (.slIdx 1)), [(.t 44), (.t 46)], none⟩,
       ⟨none, none, (.e (.store 1)), [(.t 57), (.t 55)], none⟩])
     (.keep [0, 1, 2, 7, 8] (.seq (.seq (.reg [⟨(some 58), none, (.p .mv), [(.t 7)], none⟩,
       ⟨(some 59), none, (.p .mv), [(.t 1)], none⟩,
       ⟨(some 60), none, (.p (.bin .sub)), [(.t 58), (.t 59)], none⟩,
       ⟨(some 61), none, (.p (.bin .geq)), [(.t 60), (.c (.int .i64 (.ofNat 2)))], none⟩])
     (.keep [0, 1, 2, 7, 8, 61] (.cond (.t 61)
      (.seq (.reg [⟨(some 62), none, (.p .mv), [(.t 7)], none⟩,
        ⟨(some 63), none, (.p (.bin .sub)), [(.t 62), (.c (.int .i64 (.ofNat 1)))], none⟩,
        ⟨(some 9), none, (.p .mv), [(.t 63)], none⟩])
      (.keep [0, 1, 2, 7, 8, 9] (.block 4
       (.loop
        (.keep [0, 1, 2, 7, 8, 9] (.seq (.seq (.reg [⟨(some 64), none, (.p .mv), [(.t 9)], none⟩,
          ⟨(some 65), none, (.p (.bin .geq)), [(.t 64), (.c (.int .i64 (.ofNat 1)))], none⟩])
        (.keep [0, 1, 2, 7, 8, 9, 65] (.cond (.t 65)
         .skip
         (.keep [0, 1, 2, 7, 8] (.exit 4)))))
        (.keep [0, 1, 2, 7, 8, 9] (.seq (.block 5
         (.seq (.seq (.draw [⟨(some 68), none, (.p .mv), [(.t 0)], none⟩,
           ⟨(some 69), none, (.p .mv), [(.t 9)], none⟩,
           ⟨(some 70), none, (.p (.slIdx 1)), [(.t 68), (.t 69)], none⟩,
           ⟨(some 71), none, (.l (.load none)), [(.t 70)], none⟩,
           ⟨(some 72), none, (.p .mv), [(.t 0)], none⟩,
           ⟨(some 73), none, (.p .mv), [(.t 9)], none⟩,
           ⟨(some 74), none, (.p (.bin .sub)), [(.t 73), (.c (.int .i64 (.ofNat 1)))], none⟩,
           ⟨(some 75), none, (.p (.slIdx 1)), [(.t 72), (.t 74)], none⟩,
           ⟨(some 76), none, (.l (.load none)), [(.t 75)], none⟩,
           ⟨(some 77), none, (.call 156), [(.t 71), (.t 76)], none⟩,
           ⟨(some 78), none, (.p (.un .not)), [(.t 77)], none⟩])
         (.keep [0, 1, 2, 7, 8, 9, 78] (.cond (.t 78)
          (.keep [0, 1, 2, 7, 8] (.exit 4))
          .skip)))
         (.keep [0, 1, 2, 7, 8, 9] (.draw [⟨(some 79), none, (.p .mv), [(.t 0)], none⟩,
           ⟨(some 80), none, (.p .mv), [(.t 9)], none⟩,
           ⟨(some 81), none, (.p .mv), [(.t 0)], none⟩,
           ⟨(some 82), none, (.p .mv), [(.t 9)], none⟩,
           ⟨(some 83), none, (.p (.bin .sub)), [(.t 82), (.c (.int .i64 (.ofNat 1)))], none⟩,
           ⟨(some 84), none, (.p .mv), [(.t 0)], none⟩,
           ⟨(some 85), none, (.p .mv), [(.t 9)], none⟩,
           ⟨(some 86), none, (.p (.bin .sub)), [(.t 85), (.c (.int .i64 (.ofNat 1)))], none⟩,
           ⟨(some 87), none, (.p (.slIdx 1)), [(.t 84), (.t 86)], none⟩,
           ⟨(some 88), none, (.l (.load none)), [(.t 87)], none⟩,
           ⟨(some 89), none, (.p .mv), [(.t 0)], none⟩,
           ⟨(some 90), none, (.p .mv), [(.t 9)], none⟩,
           ⟨(some 91), none, (.p (.slIdx 1)), [(.t 89), (.t 90)], none⟩,
           ⟨(some 92), none, (.l (.load none)), [(.t 91)], none⟩,
           ⟨(some 93), none, (.p (.slIdx 1)), [(.t 79), (.t 80)], none⟩,
           ⟨none, none, (.e (.store 1)), [(.t 93), (.t 88)], none⟩,
           ⟨(some 94), none, (.p (.slIdx 1)), [(.t 81), (.t 83)], none⟩,
           ⟨none, none, (.e (.store 1)), [(.t 94), (.t 92)], none⟩]))))
        (.keep [0, 1, 2, 7, 8, 9] (.reg [⟨(some 66), none, (.p .mv), [(.t 9)], none⟩,
          ⟨(some 67), none, (.p (.bin .sub)), [(.t 66), (.c (.int .i64 (.ofNat 1)))], none⟩,
          ⟨(some 9), none, (.p .mv), [(.t 67)], none⟩]))))))))))
      .skip)))
     (.keep [0, 1, 2, 7, 8] (.seq (.reg [⟨(some 95), none, (.p .mv), [(.t 2)], none⟩,
       ⟨(some 96), none, (.p .mv), [(.t 7)], none⟩,
       ⟨(some 97), none, (.p (.bin .sub)), [(.t 95), (.t 96)], none⟩,
       ⟨(some 98), none, (.p (.bin .geq)), [(.t 97), (.c (.int .i64 (.ofNat 2)))], none⟩])
     (.keep [0, 1, 2, 7, 8, 98] (.cond (.t 98)
      (.seq (.reg [⟨(some 99), none, (.p .mv), [(.t 7)], none⟩,
        ⟨(some 100), none, (.p (.bin .add)), [(.t 99), (.c (.int .i64 (.ofNat 1)))], none⟩,
        ⟨(some 10), none, (.p .mv), [(.t 100)], none⟩])
      (.keep [0, 1, 2, 7, 8, 10] (.block 6
       (.loop
        (.keep [0, 1, 2, 7, 8, 10] (.seq (.seq (.reg [⟨(some 101), none, (.p .mv), [(.t 10)], none⟩,
          ⟨(some 102), none, (.p .mv), [(.t 2)], none⟩,
          ⟨(some 103), none, (.p (.bin .lss)), [(.t 101), (.t 102)], none⟩])
        (.keep [0, 1, 2, 7, 8, 10, 103] (.cond (.t 103)
         .skip
         (.keep [0, 1, 2, 7, 8] (.exit 6)))))
        (.keep [0, 1, 2, 7, 8, 10] (.seq (.block 7
         (.seq (.seq (.draw [⟨(some 106), none, (.p .mv), [(.t 0)], none⟩,
           ⟨(some 107), none, (.p .mv), [(.t 10)], none⟩,
           ⟨(some 108), none, (.p (.slIdx 1)), [(.t 106), (.t 107)], none⟩,
           ⟨(some 109), none, (.l (.load none)), [(.t 108)], none⟩,
           ⟨(some 110), none, (.p .mv), [(.t 0)], none⟩,
           ⟨(some 111), none, (.p .mv), [(.t 10)], none⟩,
           ⟨(some 112), none, (.p (.bin .sub)), [(.t 111), (.c (.int .i64 (.ofNat 1)))], none⟩,
           ⟨(some 113), none, (.p (.slIdx 1)), [(.t 110), (.t 112)], none⟩,
           ⟨(some 114), none, (.l (.load none)), [(.t 113)], none⟩,
           ⟨(some 115), none, (.call 156), [(.t 109), (.t 114)], none⟩,
           ⟨(some 116), none, (.p (.un .not)), [(.t 115)], none⟩])
         (.keep [0, 1, 2, 7, 8, 10, 116] (.cond (.t 116)
          (.keep [0, 1, 2, 7, 8] (.exit 6))
          .skip)))
         (.keep [0, 1, 2, 7, 8, 10] (.draw [⟨(some 117), none, (.p .mv), [(.t 0)], none⟩,
           ⟨(some 118), none, (.p .mv), [(.t 10)], none⟩,
           ⟨(some 119), none, (.p .mv), [(.t 0)], none⟩,
           ⟨(some 120), none, (.p .mv), [(.t 10)], none⟩,
           ⟨(some 121), none, (.p (.bin .sub)), [(.t 120), (.c (.int .i64 (.ofNat 1)))], none⟩,
           ⟨(some 122), none, (.p .mv), [(.t 0)], none⟩,
           ⟨(some 123), none, (.p .mv), [(.t 10)], none⟩,
           ⟨(some 124), none, (.p (.bin .sub)), [(.t 123), (.c (.int .i64 (.ofNat 1)))], none⟩,
           ⟨(some 125), none, (.p (.slIdx 1)), [(.t 122), (.t 124)], none⟩,
           ⟨(some 126), none, (.l (.load none)), [(.t 125)], none⟩,
           ⟨(some 127), none, (.p .mv), [(.t 0)], none⟩,
           ⟨(some 128), none, (.p .mv), [(.t 10)], none⟩,
           ⟨(some 129), none, (.p (.slIdx 1)), [(.t 127), (.t 128)], none⟩,
           ⟨(some 130), none, (.l (.load none)), [(.t 129)], none⟩,
           ⟨(some 131), none, (.p (.slIdx 1)), [(.t 117), (.t 118)], none⟩,
           ⟨none, none, (.e (.store 1)), [(.t 131), (.t 126)], none⟩,
           ⟨(some 132), none, (.p (.slIdx 1)), [(.t 119), (.t 121)], none⟩,
           ⟨none, none, (.e (.store 1)), [(.t 132), (.t 130)], none⟩]))))
        (.keep [0, 1, 2, 7, 8, 10] (.reg [⟨(some 104), none, (.p .mv), [(.t 10)], none⟩,
          ⟨(some 105), none, (.p (.bin .add)), [(.t 104), (.c (.int .i64 (.ofNat 1)))], none⟩,
          ⟨(some 10), none, (.p .mv), [(.t 105)], none⟩]))))))))))
      .skip))))))))))))))
    (.keep [0, 1, 2, 7, 8] (.reg [⟨(some 15), none, (.p .mv), [(.t 8)], none⟩,
      ⟨(some 16), none, (.p (.bin .add)), [(.t 15), (.c (.int .i64 (.ofNat 1)))], none⟩,
      ⟨(some 8), none, (.p .mv), [(.t 16)], none⟩]))))))))))
  (.keep [] (.seq (.reg [⟨(some 6), none, (.p .mv), [(.c (.bool false))], none⟩])
  (.keep [6] (.keep [6] .ret))))))))),
  [(.t 6)]⟩
def s155_j0 (call : CallK) (N : Nat) (q : KV) (st : St) (τ : Tape) : Ans :=
  match st with
  | ⟨fr, H⟩ =>
  q (.bool false) H τ
def s155_j2 (call : CallK) (N : Nat) (k : KC) (st : St) (τ : Tape) : Ans :=
  match st with
  | ⟨fr, H⟩ =>
  getK fr 0 fun t0 =>
  getK fr 1 fun t1 =>
  getK fr 2 fun t2 =>
  getK fr 7 fun t7 =>
  getK fr 8 fun t8 =>
  binK .add t8 (.int .i64 (.ofNat 1)) fun v2 =>
  k .normal ⟨(T.set (T.set (T.set (T.set (T.set (T.set (T.set (T.set .leaf 0 t0) 1 t1) 2 t2) 7 t7) 8 t8) 15 t8) 16 v2) 8 v2), H⟩ τ
def s155_l5 (call : CallK) (N : Nat) (st : St) (τ : Tape) (k : KC) : Ans :=
  match st with
  | ⟨fr, H⟩ =>
  getK fr 0 fun t0 =>
  getK fr 1 fun t1 =>
  getK fr 2 fun t2 =>
  getK fr 7 fun t7 =>
  getK fr 8 fun t8 =>
  getK fr 10 fun t10 =>
  binK .lss t10 t2 fun v25 =>
  condK v25
    (someK (pSlIdx 1 [t0, t10]) fun v26 =>
  someK (lLoad1 [v26] H) fun v27 =>
  binK .sub t10 (.int .i64 (.ofNat 1)) fun v28 =>
  someK (pSlIdx 1 [t0, v28]) fun v29 =>
  someK (lLoad1 [v29] H) fun v30 =>
  call 156 [v27, v30] H τ fun v31 H32 τ33 =>
  unK .not v31 fun v34 =>
  condK v34
    (k (.exit 6) ⟨(T.set (T.set (T.set (T.set (T.set .leaf 0 t0) 1 t1) 2 t2) 7 t7) 8 t8), H32⟩ τ33)
    (binK .sub t10 (.int .i64 (.ofNat 1)) fun v35 =>
  binK .sub t10 (.int .i64 (.ofNat 1)) fun v36 =>
  someK (pSlIdx 1 [t0, v36]) fun v37 =>
  someK (lLoad1 [v37] H32) fun v38 =>
  someK (pSlIdx 1 [t0, t10]) fun v39 =>
  someK (lLoad1 [v39] H32) fun v40 =>
  someK (pSlIdx 1 [t0, t10]) fun v41 =>
  effK (eStore 1 [v41, v38] H32 τ33) fun v42 H43 τ44 =>
  someK (pSlIdx 1 [t0, v35]) fun v45 =>
  effK (eStore 1 [v45, v40] H43 τ44) fun v46 H47 τ48 =>
  binK .add t10 (.int .i64 (.ofNat 1)) fun v49 =>
  k .normal ⟨(T.set (T.set (T.set (T.set (T.set (T.set (T.set (T.set (T.set .leaf 0 t0) 1 t1) 2 t2) 7 t7) 8 t8) 10 t10) 104 t10) 105 v49) 10 v49), H47⟩ τ48))
    (k (.exit 6) ⟨(T.set (T.set (T.set (T.set (T.set .leaf 0 t0) 1 t1) 2 t2) 7 t7) 8 t8), H⟩ τ)
def s155_j4 (call : CallK) (N : Nat) (k : KC) (st : St) (τ : Tape) : Ans :=
  match st with
  | ⟨fr, H⟩ =>
  getK fr 0 fun t0 =>
  getK fr 1 fun t1 =>
  getK fr 2 fun t2 =>
  getK fr 7 fun t7 =>
  getK fr 8 fun t8 =>
  binK .sub t2 t7 fun v22 =>
  binK .geq v22 (.int .i64 (.ofNat 2)) fun v23 =>
  condK v23
    (binK .add t7 (.int .i64 (.ofNat 1)) fun v24 =>
  loopK (s155_l5 call N) N ⟨(T.set (T.set (T.set (T.set (T.set (T.set .leaf 0 t0) 1 t1) 2 t2) 7 t7) 8 t8) 10 v24), H⟩ τ (blockK 6 (blockK 1 (seqK (s155_j2 call N k) k))))
    (s155_j2 call N k ⟨(T.set (T.set (T.set (T.set (T.set (T.set .leaf 0 t0) 1 t1) 2 t2) 7 t7) 8 t8) 98 v23), H⟩ τ)
def s155_l6 (call : CallK) (N : Nat) (st : St) (τ : Tape) (k : KC) : Ans :=
  match st with
  | ⟨fr, H⟩ =>
  getK fr 0 fun t0 =>
  getK fr 1 fun t1 =>
  getK fr 2 fun t2 =>
  getK fr 7 fun t7 =>
  getK fr 8 fun t8 =>
  getK fr 9 fun t9 =>
  binK .geq t9 (.int .i64 (.ofNat 1)) fun v51 =>
  condK v51
    (someK (pSlIdx 1 [t0, t9]) fun v52 =>
  someK (lLoad1 [v52] H) fun v53 =>
  binK .sub t9 (.int .i64 (.ofNat 1)) fun v54 =>
  someK (pSlIdx 1 [t0, v54]) fun v55 =>
  someK (lLoad1 [v55] H) fun v56 =>
  call 156 [v53, v56] H τ fun v57 H58 τ59 =>
  unK .not v57 fun v60 =>
  condK v60
    (k (.exit 4) ⟨(T.set (T.set (T.set (T.set (T.set .leaf 0 t0) 1 t1) 2 t2) 7 t7) 8 t8), H58⟩ τ59)
    (binK .sub t9 (.int .i64 (.ofNat 1)) fun v61 =>
  binK .sub t9 (.int .i64 (.ofNat 1)) fun v62 =>
  someK (pSlIdx 1 [t0, v62]) fun v63 =>
  someK (lLoad1 [v63] H58) fun v64 =>
  someK (pSlIdx 1 [t0, t9]) fun v65 =>
  someK (lLoad1 [v65] H58) fun v66 =>
  someK (pSlIdx 1 [t0, t9]) fun v67 =>
  effK (eStore 1 [v67, v64] H58 τ59) fun v68 H69 τ70 =>
  someK (pSlIdx 1 [t0, v61]) fun v71 =>
  effK (eStore 1 [v71, v66] H69 τ70) fun v72 H73 τ74 =>
  binK .sub t9 (.int .i64 (.ofNat 1)) fun v75 =>
  k .normal ⟨(T.set (T.set (T.set (T.set (T.set (T.set (T.set (T.set (T.set .leaf 0 t0) 1 t1) 2 t2) 7 t7) 8 t8) 9 t9) 66 t9) 67 v75) 9 v75), H73⟩ τ74))
    (k (.exit 4) ⟨(T.set (T.set (T.set (T.set (T.set .leaf 0 t0) 1 t1) 2 t2) 7 t7) 8 t8), H⟩ τ)
def s155_j3 (call : CallK) (N : Nat) (k : KC) (st : St) (τ : Tape) : Ans :=
  match st with
  | ⟨fr, H⟩ =>
  getK fr 0 fun t0 =>
  getK fr 1 fun t1 =>
  getK fr 2 fun t2 =>
  getK fr 7 fun t7 =>
  getK fr 8 fun t8 =>
  binK .eql t7 t2 fun v3 =>
  condK v3
    (k .ret ⟨(T.set .leaf 6 (.bool true)), H⟩ τ)
    (binK .sub t2 t1 fun v4 =>
  binK .lss v4 (.int .i64 (.ofNat 50)) fun v5 =>
  condK v5
    (k .ret ⟨(T.set .leaf 6 (.bool false)), H⟩ τ)
    (binK .sub t7 (.int .i64 (.ofNat 1)) fun v6 =>
  binK .sub t7 (.int .i64 (.ofNat 1)) fun v7 =>
  someK (pSlIdx 1 [t0, v7]) fun v8 =>
  someK (lLoad1 [v8] H) fun v9 =>
  someK (pSlIdx 1 [t0, t7]) fun v10 =>
  someK (lLoad1 [v10] H) fun v11 =>
  someK (pSlIdx 1 [t0, t7]) fun v12 =>
  effK (eStore 1 [v12, v9] H τ) fun v13 H14 τ15 =>
  someK (pSlIdx 1 [t0, v6]) fun v16 =>
  effK (eStore 1 [v16, v11] H14 τ15) fun v17 H18 τ19 =>
  binK .sub t7 t1 fun v20 =>
  binK .geq v20 (.int .i64 (.ofNat 2)) fun v21 =>
  condK v21
    (binK .sub t7 (.int .i64 (.ofNat 1)) fun v50 =>
  loopK (s155_l6 call N) N ⟨(T.set (T.set (T.set (T.set (T.set (T.set .leaf 0 t0) 1 t1) 2 t2) 7 t7) 8 t8) 9 v50), H18⟩ τ19 (blockK 4 (seqK (s155_j4 call N k) (blockK 1 (seqK (s155_j2 call N k) k)))))
    (s155_j4 call N k ⟨(T.set (T.set (T.set (T.set (T.set (T.set .leaf 0 t0) 1 t1) 2 t2) 7 t7) 8 t8) 61 v21), H18⟩ τ19)))
def s155_l7 (call : CallK) (N : Nat) (st : St) (τ : Tape) (k : KC) : Ans :=
  match st with
  | ⟨fr, H⟩ =>
  getK fr 0 fun t0 =>
  getK fr 1 fun t1 =>
  getK fr 2 fun t2 =>
  getK fr 7 fun t7 =>
  getK fr 8 fun t8 =>
  binK .lss t7 t2 fun v76 =>
  gK v76 true (fun q' => q' t0 H τ) H τ fun v77 H78 τ79 =>
  gK v76 true (fun q' => q' t7 H78 τ79) H78 τ79 fun v80 H81 τ82 =>
  gK v76 true (fun q' => someK (pSlIdx 1 [v77, v80]) fun v => q' v H81 τ82) H81 τ82 fun v83 H84 τ85 =>
  gK v76 true (fun q' => someK (lLoad1 [v83] H84) fun v => q' v H84 τ85) H84 τ85 fun v86 H87 τ88 =>
  gK v76 true (fun q' => q' t0 H87 τ88) H87 τ88 fun v89 H90 τ91 =>
  gK v76 true (fun q' => q' t7 H90 τ91) H90 τ91 fun v92 H93 τ94 =>
  gK v76 true (fun q' => binK .sub v92 (.int .i64 (.ofNat 1)) fun v => q' v H93 τ94) H93 τ94 fun v95 H96 τ97 =>
  gK v76 true (fun q' => someK (pSlIdx 1 [v89, v95]) fun v => q' v H96 τ97) H96 τ97 fun v98 H99 τ100 =>
  gK v76 true (fun q' => someK (lLoad1 [v98] H99) fun v => q' v H99 τ100) H99 τ100 fun v101 H102 τ103 =>
  gK v76 true (fun q' => call 156 [v86, v101] H102 τ103 q') H102 τ103 fun v104 H105 τ106 =>
  gK v76 true (fun q' => unK .not v104 fun v => q' v H105 τ106) H105 τ106 fun v107 H108 τ109 =>
  someK (pPick [v76, v107, (.bool false)]) fun v110 =>
  condK v110
    (binK .add t7 (.int .i64 (.ofNat 1)) fun v111 =>
  k .normal ⟨(T.set (T.set (T.set (T.set (T.set (T.set (T.set (T.set .leaf 0 t0) 1 t1) 2 t2) 7 t7) 8 t8) 33 t7) 34 v111) 7 v111), H108⟩ τ109)
    (k (.exit 2) ⟨(T.set (T.set (T.set (T.set (T.set .leaf 0 t0) 1 t1) 2 t2) 7 t7) 8 t8), H108⟩ τ109)
def s155_l1 (call : CallK) (N : Nat) (st : St) (τ : Tape) (k : KC) : Ans :=
  match st with
  | ⟨fr, H⟩ =>
  getK fr 0 fun t0 =>
  getK fr 1 fun t1 =>
  getK fr 2 fun t2 =>
  getK fr 7 fun t7 =>
  getK fr 8 fun t8 =>
  binK .lss t8 (.int .i64 (.ofNat 5)) fun v1 =>
  condK v1
    (loopK (s155_l7 call N) N ⟨(T.set (T.set (T.set (T.set (T.set .leaf 0 t0) 1 t1) 2 t2) 7 t7) 8 t8), H⟩ τ (blockK 2 (seqK (s155_j3 call N k) (blockK 1 (seqK (s155_j2 call N k) k)))))
    (k (.exit 0) ⟨.leaf, H⟩ τ)
def s155 (call : CallK) (N : Nat) (a0 a1 a2 : V) (H : Heap) (τ : Tape) (q : KV) : Ans :=
  binK .add a1 (.int .i64 (.ofNat 1)) fun v0 =>
  loopK (s155_l1 call N) N ⟨(T.set (T.set (T.set (T.set (T.set .leaf 0 a0) 1 a1) 2 a2) 7 v0) 8 (.int .i64 (.ofNat 0))), H⟩ τ (blockK 0 (seqK (s155_j0 call N q) (endK [(.t 6)] q)))
theorem s155_eq (call : CallK) (N : Nat) (a0 a1 a2 : V) (H : Heap) (τ : Tape) (q : KV) : s155 call N a0 a1 a2 H τ q = funK call N fn155 [a0, a1, a2] H τ q := by kernel_rfl
def e155 (call : CallK) (N : Nat) (vs : List V) (H : Heap) (τ : Tape) (q : KV) : Ans := match vs with | [a0, a1, a2] => s155 call N a0 a1 a2 H τ q | _ => none
theorem e155_ok : EntOk fn155 e155 := by
  intro call N vs H τ q r h
  unfold e155 at h
  split at h
  · rw [s155_eq] at h; exact h
  · cases h
/-- cmp.Less[string] -/
def fn156 : Fun := ⟨2,
  (.seq (.reg [⟨(some 4), none, (.p .mv), [(.c (.bool false))], none⟩])
  (.keep [0, 1] (.seq (.reg [⟨(some 5), none, (.p .mv), [(.t 0)], none⟩,
    ⟨(some 6), none, (.call 185), [(.t 5)], none⟩,
    ⟨(some 7), none, (.p .mv), [(.t 6)], none⟩,
    ⟨(some 8), some (7, true), (.p .mv), [(.t 1)], none⟩,
    ⟨(some 9), some (7, true), (.call 185), [(.t 8)], none⟩,
    ⟨(some 10), some (7, true), (.p (.un .not)), [(.t 9)], none⟩,
    ⟨(some 11), none, (.p .pick), [(.t 7), (.t 10), (.c (.bool false))], none⟩,
    ⟨(some 12), none, (.p .mv), [(.t 11)], none⟩,
    ⟨(some 13), some (12, false), (.p .mv), [(.t 0)], none⟩,
    ⟨(some 14), some (12, false), (.p .mv), [(.t 1)], none⟩,
    ⟨(some 15), some (12, false), (.p (.bin .lss)), [(.t 13), (.t 14)], none⟩,
    ⟨(some 16), none, (.p .pick), [(.t 12), (.c (.bool true)), (.t 15)], none⟩,
    ⟨(some 4), none, (.p .mv), [(.t 16)], none⟩])
  (.keep [4] (.keep [4] .ret))))),
  [(.t 4)]⟩
def s156 (call : CallK) (N : Nat) (a0 a1 : V) (H : Heap) (τ : Tape) (q : KV) : Ans :=
  call 185 [a0] H τ fun v0 H1 τ2 =>
  gK v0 true (fun q' => q' a1 H1 τ2) H1 τ2 fun v3 H4 τ5 =>
  gK v0 true (fun q' => call 185 [v3] H4 τ5 q') H4 τ5 fun v6 H7 τ8 =>
  gK v0 true (fun q' => unK .not v6 fun v => q' v H7 τ8) H7 τ8 fun v9 H10 τ11 =>
  someK (pPick [v0, v9, (.bool false)]) fun v12 =>
  gK v12 false (fun q' => q' a0 H10 τ11) H10 τ11 fun v13 H14 τ15 =>
  gK v12 false (fun q' => q' a1 H14 τ15) H14 τ15 fun v16 H17 τ18 =>
  gK v12 false (fun q' => binK .lss v13 v16 fun v => q' v H17 τ18) H17 τ18 fun v19 H20 τ21 =>
  someK (pPick [v12, (.bool true), v19]) fun v22 =>
  q v22 H20 τ21
theorem s156_eq (call : CallK) (N : Nat) (a0 a1 : V) (H : Heap) (τ : Tape) (q : KV) : s156 call N a0 a1 H τ q = funK call N fn156 [a0, a1] H τ q := by kernel_rfl
def e156 (call : CallK) (N : Nat) (vs : List V) (H : Heap) (τ : Tape) (q : KV) : Ans := match vs with | [a0, a1] => s156 call N a0 a1 H τ q | _ => none
theorem e156_ok : EntOk fn156 e156 := by
  intro call N vs H τ q r h
  unfold e156 at h
  split at h
  · rw [s156_eq] at h; exact h
  · cases h
/-- slices.partitionEqualOrdered[string] -/
def fn157 : Fun := ⟨4,
  (.seq (.reg [⟨(some 8), none, (.p .mv), [(.c (.int .i64 (.ofNat 0)))], none⟩])
  (.keep [0, 1, 2, 3] (.seq (.draw [⟨(some 11), none, (.p .mv), [(.t 0)], none⟩,
    ⟨(some 12), none, (.p .mv), [(.t 1)], none⟩,
    ⟨(some 13), none, (.p .mv), [(.t 0)], none⟩,
    ⟨(some 14), none, (.p .mv), [(.t 3)], none⟩,
    ⟨(some 15), none, (.p .mv), [(.t 0)], none⟩,
    ⟨(some 16), none, (.p .mv), [(.t 3)], none⟩,
    ⟨(some 17), none, (.p (.slIdx 1)), [(.t 15), (.t 16)], none⟩,
    ⟨(some 18), none, (.l (.load none)), [(.t 17)], none⟩,
    ⟨(some 19), none, (.p .mv), [(.t 0)], none⟩,
    ⟨(some 20), none, (.p .mv), [(.t 1)], none⟩,
    ⟨(some 21), none, (.p (.slIdx 1)), [(.t 19), (.t 20)], none⟩,
    ⟨(some 22), none, (.l (.load none)), [(.t 21)], none⟩,
    ⟨(some 23), none, (.p (.slIdx 1)), [(.t 11), (.t 12)], none⟩,
    ⟨none, none, (.e (.store 1)), [(.t 23), (.t 18)], none⟩,
    ⟨(some 24), none, (.p (.slIdx 1)), [(.t 13), (.t 14)], none⟩,
    ⟨none, none, (.e (.store 1)), [(.t 24), (.t 22)], none⟩])
  (.keep [0, 1, 2] (.seq (.reg [⟨(some 25), none, (.p .mv), [(.t 1)], none⟩,
    ⟨(some 26), none, (.p (.bin .add)), [(.t 25), (.c (.int .i64 (.ofNat 1)))], none⟩,
    ⟨(some 27), none, (.p .mv), [(.t 2)], none⟩,
    ⟨(some 28), none, (.p (.bin .sub)), [(.t 27), (.c (.int .i64 (.ofNat 1)))], none⟩,
    ⟨(some 9), none, (.p .mv), [(.t 26)], none⟩,
    ⟨(some 10), none, (.p .mv), [(.t 28)], none⟩])
  (.keep [0, 1, 9, 10] (.seq (.block 0
   (.loop
    (.keep [0, 1, 9, 10] (.block 1
     (.seq (.block 2
      (.loop
       (.keep [0, 1, 9, 10] (.seq (.seq (.draw [⟨(some 29), none, (.p .mv), [(.t 9)], none⟩,
         ⟨(some 30), none, (.p .mv), [(.t 10)], none⟩,
         ⟨(some 31), none, (.p (.bin .leq)), [(.t 29), (.t 30)], none⟩,
         ⟨(some 32), none, (.p .mv), [(.t 31)], none⟩,
         ⟨(some 33), some (32, true), (.p .mv), [(.t 0)], none⟩,
         ⟨(some 34), some (32, true), (.p .mv), [(.t 1)], none⟩,
         ⟨(some 35), some (32, true), (.p (.slIdx 1)), [(.t 33), (.t 34)], none⟩,
         ⟨(some 36), some (32, true), (.l (.load none)), [(.t 35)], none⟩,
         ⟨(some 37), some (32, true), (.p .mv), [(.t 0)], none⟩,
         ⟨(some 38), some (32, true), (.p .mv), [(.t 9)], none⟩,
         ⟨(some 39), some (32, true), (.p (.slIdx 1)), [(.t 37), (.t 38)], none⟩,
         ⟨(some 40), some (32, true), (.l (.load none)), [(.t 39)], none⟩,
         ⟨(some 41), some (32, true), (.call 156), [(.t 36), (.t 40)], none⟩,
         ⟨(some 42), some (32, true), (.p (.un .not)), [(.t 41)], none⟩,
         ⟨(some 43), none, (.p .pick), [(.t 32), (.t 42), (.c (.bool false))], none⟩])
       (.keep [0, 1, 9, 10, 43] (.cond (.t 43)
        .skip
        (.keep [0, 1, 9, 10] (.exit 2)))))
       (.keep [0, 1, 9, 10] (.block 3
        (.reg [⟨(some 44), none, (.p .mv), [(.t 9)], none⟩,
          ⟨(some 45), none, (.p (.bin .add)), [(.t 44), (.c (.int .i64 (.ofNat 1)))], none⟩,
          ⟨(some 9), none, (.p .mv), [(.t 45)], none⟩])))))))
     (.keep [0, 1, 9, 10] (.seq (.block 4
      (.loop
       (.keep [0, 1, 9, 10] (.seq (.seq (.draw [⟨(some 46), none, (.p .mv), [(.t 9)], none⟩,
         ⟨(some 47), none, (.p .mv), [(.t 10)], none⟩,
         ⟨(some 48), none, (.p (.bin .leq)), [(.t 46), (.t 47)], none⟩,
         ⟨(some 49), none, (.p .mv), [(.t 48)], none⟩,
         ⟨(some 50), some (49, true), (.p .mv), [(.t 0)], none⟩,
         ⟨(some 51), some (49, true), (.p .mv), [(.t 1)], none⟩,
         ⟨(some 52), some (49, true), (.p (.slIdx 1)), [(.t 50), (.t 51)], none⟩,
         ⟨(some 53), some (49, true), (.l (.load none)), [(.t 52)], none⟩,
         ⟨(some 54), some (49, true), (.p .mv), [(.t 0)], none⟩,
         ⟨(some 55), some (49, true), (.p .mv), [(.t 10)], none⟩,
         ⟨(some 56), some (49, true), (.p (.slIdx 1)), [(.t 54), (.t 55)], none⟩,
         ⟨(some 57), some (49, true), (.l (.load none)), [(.t 56)], none⟩,
         ⟨(some 58), some (49, true), (.call 156), [(.t 53), (.t 57)], none⟩,
         ⟨(some 59), none, (.p .pick), [(.t 49), (.t 58), (.c (.bool false))], none⟩])
       (.keep [0, 1, 9, 10, 59] (.cond (.t 59)
        .skip
        (.keep [0, 1, 9, 10] (.exit 4)))))
       (.keep [0, 1, 9, 10] (.block 5
        (.reg [⟨(some 60), none, (.p .mv), [(.t 10)], none⟩,
          ⟨(some 61), none, (.p (.bin .sub)), [(.t 60), (.c (.int .i64 (.ofNat 1)))], none⟩,
          ⟨(some 10), none, (.p .mv), [(.t 61)], none⟩])))))))
     (.keep [0, 1, 9, 10] (.seq (.seq (.reg [⟨(some 62), none, (.p .mv), [(.t 9)], none⟩,
       ⟨(some 63), none, (.p .mv), [(.t 10)], none⟩,
       ⟨(some 64), none, (.p (.bin .gtr)), [(.t 62), (.t 63)], none⟩])
     (.keep [0, 1, 9, 10, 64] (.cond (.t 64)
      (.keep [9] (.exit 0))
      .skip)))
     (.keep [0, 1, 9, 10] (.seq (.draw [⟨(some 65), none, (.p .mv), [(.t 0)], none⟩,
       ⟨(some 66), none, (.p .mv), [(.t 9)], none⟩,
       ⟨(some 67), none, (.p .mv), [(.t 0)], none⟩,
       ⟨(some 68), none, (.p .mv), [(.t 10)], none⟩,
       ⟨(some 69), none, (.p .mv), [(.t 0)], none⟩,
       ⟨(some 70), none, (.p .mv), [(.t 10)], none⟩,
       ⟨(some 71), none, (.p (.slIdx 1)), [(.t 69), (.t 70)], none⟩,
       ⟨(some 72), none, (.l (.load none)), [(.t 71)], none⟩,
       ⟨(some 73), none, (.p .mv), [(.t 0)], none⟩,
       ⟨(some 74), none, (.p .mv), [(.t 9)], none⟩,
       ⟨(some 75), none, (.p (.slIdx 1)), [(.t 73), (.t 74)], none⟩,
       ⟨(some 76), none, (.l (.load none)), [(.t 75)], none⟩,
       ⟨(some 77), none, (.p (.slIdx 1)), [(.t 65), (.t 66)], none⟩,
       ⟨none, none, (.e (.store 1)), [(.t 77), (.t 72)], none⟩,
       ⟨(some 78), none, (.p (.slIdx 1)), [(.t 67), (.t 68)], none⟩,
       ⟨none, none, (.e (.store 1)), [(.t 78), (.t 76)], none⟩])
     (.keep [0, 1, 9, 10] (.seq (.reg [⟨(some 79), none, (.p .mv), [(.t 9)], none⟩,
       ⟨(some 80), none, (.p (.bin .add)), [(.t 79), (.c (.int .i64 (.ofNat 1)))], none⟩,
       ⟨(some 9), none, (.p .mv), [(.t 80)], none⟩])
     (.keep [0, 1, 9, 10] (.reg [⟨(some 81), none, (.p .mv), [(.t 10)], none⟩,
       ⟨(some 82), none, (.p (.bin .sub)), [(.t 81), (.c (.int .i64 (.ofNat 1)))], none⟩,
       ⟨(some 10), none, (.p .mv), [(.t 82)], none⟩])))))))))))))))
  (.keep [9] (.seq (.reg [⟨(some 83), none, (.p .mv), [(.t 9)], none⟩,
    ⟨(some 8), none, (.p .mv), [(.t 83)], none⟩])
  (.keep [8] (.keep [8] .ret))))))))))),
  [(.t 8)]⟩
def s157_j0 (call : CallK) (N : Nat) (q : KV) (st : St) (τ : Tape) : Ans :=
  match st with
  | ⟨fr, H⟩ =>
  getK fr 9 fun t9 =>
  q t9 H τ
def s157_j3 (call : CallK) (N : Nat) (k : KC) (st : St) (τ : Tape) : Ans :=
  match st with
  | ⟨fr, H⟩ =>
  getK fr 0 fun t0 =>
  getK fr 1 fun t1 =>
  getK fr 9 fun t9 =>
  getK fr 10 fun t10 =>
  binK .gtr t9 t10 fun v14 =>
  condK v14
    (k (.exit 0) ⟨(T.set .leaf 9 t9), H⟩ τ)
    (someK (pSlIdx 1 [t0, t10]) fun v15 =>
  someK (lLoad1 [v15] H) fun v16 =>
  someK (pSlIdx 1 [t0, t9]) fun v17 =>
  someK (lLoad1 [v17] H) fun v18 =>
  someK (pSlIdx 1 [t0, t9]) fun v19 =>
  effK (eStore 1 [v19, v16] H τ) fun v20 H21 τ22 =>
  someK (pSlIdx 1 [t0, t10]) fun v23 =>
  effK (eStore 1 [v23, v18] H21 τ22) fun v24 H25 τ26 =>
  binK .add t9 (.int .i64 (.ofNat 1)) fun v27 =>
  binK .sub t10 (.int .i64 (.ofNat 1)) fun v28 =>
  k .normal ⟨(T.set (T.set (T.set (T.set (T.set (T.set (T.set .leaf 0 t0) 1 t1) 9 v27) 10 t10) 81 t10) 82 v28) 10 v28), H25⟩ τ26)
def s157_l4 (call : CallK) (N : Nat) (st : St) (τ : Tape) (k : KC) : Ans :=
  match st with
  | ⟨fr, H⟩ =>
  getK fr 0 fun t0 =>
  getK fr 1 fun t1 =>
  getK fr 9 fun t9 =>
  getK fr 10 fun t10 =>
  binK .leq t9 t10 fun v29 =>
  gK v29 true (fun q' => q' t0 H τ) H τ fun v30 H31 τ32 =>
  gK v29 true (fun q' => q' t1 H31 τ32) H31 τ32 fun v33 H34 τ35 =>
  gK v29 true (fun q' => someK (pSlIdx 1 [v30, v33]) fun v => q' v H34 τ35) H34 τ35 fun v36 H37 τ38 =>
  gK v29 true (fun q' => someK (lLoad1 [v36] H37) fun v => q' v H37 τ38) H37 τ38 fun v39 H40 τ41 =>
  gK v29 true (fun q' => q' t0 H40 τ41) H40 τ41 fun v42 H43 τ44 =>
  gK v29 true (fun q' => q' t10 H43 τ44) H43 τ44 fun v45 H46 τ47 =>
  gK v29 true (fun q' => someK (pSlIdx 1 [v42, v45]) fun v => q' v H46 τ47) H46 τ47 fun v48 H49 τ50 =>
  gK v29 true (fun q' => someK (lLoad1 [v48] H49) fun v => q' v H49 τ50) H49 τ50 fun v51 H52 τ53 =>
  gK v29 true (fun q' => call 156 [v39, v51] H52 τ53 q') H52 τ53 fun v54 H55 τ56 =>
  someK (pPick [v29, v54, (.bool false)]) fun v57 =>
  condK v57
    (binK .sub t10 (.int .i64 (.ofNat 1)) fun v58 =>
  k .normal ⟨(T.set (T.set (T.set (T.set (T.set (T.set (T.set .leaf 0 t0) 1 t1) 9 t9) 10 t10) 60 t10) 61 v58) 10 v58), H55⟩ τ56)
    (k (.exit 4) ⟨(T.set (T.set (T.set (T.set .leaf 0 t0) 1 t1) 9 t9) 10 t10), H55⟩ τ56)
def s157_j2 (call : CallK) (N : Nat) (k : KC) (st : St) (τ : Tape) : Ans :=
  match st with
  | ⟨fr, H⟩ =>
  getK fr 0 fun t0 =>
  getK fr 1 fun t1 =>
  getK fr 9 fun t9 =>
  getK fr 10 fun t10 =>
  loopK (s157_l4 call N) N ⟨(T.set (T.set (T.set (T.set .leaf 0 t0) 1 t1) 9 t9) 10 t10), H⟩ τ (blockK 4 (seqK (s157_j3 call N k) (blockK 1 k)))
def s157_l5 (call : CallK) (N : Nat) (st : St) (τ : Tape) (k : KC) : Ans :=
  match st with
  | ⟨fr, H⟩ =>
  getK fr 0 fun t0 =>
  getK fr 1 fun t1 =>
  getK fr 9 fun t9 =>
  getK fr 10 fun t10 =>
  binK .leq t9 t10 fun v59 =>
  gK v59 true (fun q' => q' t0 H τ) H τ fun v60 H61 τ62 =>
  gK v59 true (fun q' => q' t1 H61 τ62) H61 τ62 fun v63 H64 τ65 =>
  gK v59 true (fun q' => someK (pSlIdx 1 [v60, v63]) fun v => q' v H64 τ65) H64 τ65 fun v66 H67 τ68 =>
  gK v59 true (fun q' => someK (lLoad1 [v66] H67) fun v => q' v H67 τ68) H67 τ68 fun v69 H70 τ71 =>
  gK v59 true (fun q' => q' t0 H70 τ71) H70 τ71 fun v72 H73 τ74 =>
  gK v59 true (fun q' => q' t9 H73 τ74) H73 τ74 fun v75 H76 τ77 =>
  gK v59 true (fun q' => someK (pSlIdx 1 [v72, v75]) fun v => q' v H76 τ77) H76 τ77 fun v78 H79 τ80 =>
  gK v59 true (fun q' => someK (lLoad1 [v78] H79) fun v => q' v H79 τ80) H79 τ80 fun v81 H82 τ83 =>
  gK v59 true (fun q' => call 156 [v69, v81] H82 τ83 q') H82 τ83 fun v84 H85 τ86 =>
  gK v59 true (fun q' => unK .not v84 fun v => q' v H85 τ86) H85 τ86 fun v87 H88 τ89 =>
  someK (pPick [v59, v87, (.bool false)]) fun v90 =>
  condK v90
    (binK .add t9 (.int .i64 (.ofNat 1)) fun v91 =>
  k .normal ⟨(T.set (T.set (T.set (T.set (T.set (T.set (T.set .leaf 0 t0) 1 t1) 9 t9) 10 t10) 44 t9) 45 v91) 9 v91), H88⟩ τ89)
    (k (.exit 2) ⟨(T.set (T.set (T.set (T.set .leaf 0 t0) 1 t1) 9 t9) 10 t10), H88⟩ τ89)
def s157_l1 (call : CallK) (N : Nat) (st : St) (τ : Tape) (k : KC) : Ans :=
  match st with
  | ⟨fr, H⟩ =>
  getK fr 0 fun t0 =>
  getK fr 1 fun t1 =>
  getK fr 9 fun t9 =>
  getK fr 10 fun t10 =>
  loopK (s157_l5 call N) N ⟨(T.set (T.set (T.set (T.set .leaf 0 t0) 1 t1) 9 t9) 10 t10), H⟩ τ (blockK 2 (seqK (s157_j2 call N k) (blockK 1 k)))
def s157 (call : CallK) (N : Nat) (a0 a1 a2 a3 : V) (H : Heap) (τ : Tape) (q : KV) : Ans :=
  someK (pSlIdx 1 [a0, a3]) fun v0 =>
  someK (lLoad1 [v0] H) fun v1 =>
  someK (pSlIdx 1 [a0, a1]) fun v2 =>
  someK (lLoad1 [v2] H) fun v3 =>
  someK (pSlIdx 1 [a0, a1]) fun v4 =>
  effK (eStore 1 [v4, v1] H τ) fun v5 H6 τ7 =>
  someK (pSlIdx 1 [a0, a3]) fun v8 =>
  effK (eStore 1 [v8, v3] H6 τ7) fun v9 H10 τ11 =>
  binK .add a1 (.int .i64 (.ofNat 1)) fun v12 =>
  binK .sub a2 (.int .i64 (.ofNat 1)) fun v13 =>
  loopK (s157_l1 call N) N ⟨(T.set (T.set (T.set (T.set .leaf 0 a0) 1 a1) 9 v12) 10 v13), H10⟩ τ11 (blockK 0 (seqK (s157_j0 call N q) (endK [(.t 8)] q)))
theorem s157_eq (call : CallK) (N : Nat) (a0 a1 a2 a3 : V) (H : Heap) (τ : Tape) (q : KV) : s157 call N a0 a1 a2 a3 H τ q = funK call N fn157 [a0, a1, a2, a3] H τ q := by kernel_rfl
def e157 (call : CallK) (N : Nat) (vs : List V) (H : Heap) (τ : Tape) (q : KV) : Ans := match vs with | [a0, a1, a2, a3] => s157 call N a0 a1 a2 a3 H τ q | _ => none
theorem e157_ok : EntOk fn157 e157 := by
  intro call N vs H τ q r h
  unfold e157 at h
  split at h
  · rw [s157_eq] at h; exact h
  · cases h
/-- slices.partitionOrdered[string] -/
def fn158 : Fun := ⟨4,
  (.seq (.reg [⟨(some 8), none, (.p .mv), [(.c (.int .i64 (.ofNat 0)))], none⟩,
    ⟨(some 9), none, (.p .mv), [(.c (.bool false))], none⟩])
  (.keep [0, 1, 2, 3] (.seq (.draw [⟨(some 12), none, (.p .mv), [(.t 0)], none⟩,
    ⟨(some 13), none, (.p .mv), [(.t 1)], none⟩,
    ⟨(some 14), none, (.p .mv), [(.t 0)], none⟩,
    ⟨(some 15), none, (.p .mv), [(.t 3)], none⟩,
    ⟨(some 16), none, (.p .mv), [(.t 0)], none⟩,
    ⟨(some 17), none, (.p .mv), [(.t 3)], none⟩,
    ⟨(some 18), none, (.p (.slIdx 1)), [(.t 16), (.t 17)], none⟩,
    ⟨(some 19), none, (.l (.load none)), [(.t 18)], none⟩,
    ⟨(some 20), none, (.p .mv), [(.t 0)], none⟩,
    ⟨(some 21), none, (.p .mv), [(.t 1)], none⟩,
    ⟨(some 22), none, (.p (.slIdx 1)), [(.t 20), (.t 21)], none⟩,
    ⟨(some 23), none, (.l (.load none)), [(.t 22)], none⟩,
    ⟨(some 24), none, (.p (.slIdx 1)), [(.t 12), (.t 13)], none⟩,
    ⟨none, none, (.e (.store 1)), [(.t 24), (.t 19)], none⟩,
    ⟨(some 25), none, (.p (.slIdx 1)), [(.t 14), (.t 15)], none⟩,
    ⟨none, none, (.e (.store 1)), [(.t 25), (.t 23)], none⟩])
  (.keep [0, 1, 2] (.seq (.reg [⟨(some 26), none, (.p .mv), [(.t 1)], none⟩,
    ⟨(some 27), none, (.p (.bin .add)), [(.t 26), (.c (.int .i64 (.ofNat 1)))], none⟩,
    ⟨(some 28), none, (.p .mv), [(.t 2)], none⟩,
    ⟨(some 29), none, (.p (.bin .sub)), [(.t 28), (.c (.int .i64 (.ofNat 1)))], none⟩,
    ⟨(some 10), none, (.p .mv), [(.t 27)], none⟩,
    ⟨(some 11), none, (.p .mv), [(.t 29)], none⟩])
  (.keep [0, 1, 10, 11] (.seq (.block 0
   (.loop
    (.keep [0, 1, 10, 11] (.seq (.seq (.draw [⟨(some 30), none, (.p .mv), [(.t 10)], none⟩,
      ⟨(some 31), none, (.p .mv), [(.t 11)], none⟩,
      ⟨(some 32), none, (.p (.bin .leq)), [(.t 30), (.t 31)], none⟩,
      ⟨(some 33), none, (.p .mv), [(.t 32)], none⟩,
      ⟨(some 34), some (33, true), (.p .mv), [(.t 0)], none⟩,
      ⟨(some 35), some (33, true), (.p .mv), [(.t 10)], none⟩,
      ⟨(some 36), some (33, true), (.p (.slIdx 1)), [(.t 34), (.t 35)], none⟩,
      ⟨(some 37), some (33, true), (.l (.load none)), [(.t 36)], none⟩,
      ⟨(some 38), some (33, true), (.p .mv), [(.t 0)], none⟩,
      ⟨(some 39), some (33, true), (.p .mv), [(.t 1)], none⟩,
      ⟨(some 40), some (33, true), (.p (.slIdx 1)), [(.t 38), (.t 39)], none⟩,
      ⟨(some 41), some (33, true), (.l (.load none)), [(.t 40)], none⟩,
      ⟨(some 42), some (33, true), (.call 156), [(.t 37), (.t 41)], none⟩,
      ⟨(some 43), none, (.p .pick), [(.t 33), (.t 42), (.c (.bool false))], none⟩])
    (.keep [0, 1, 10, 11, 43] (.cond (.t 43)
     .skip
     (.keep [0, 1, 10, 11] (.exit 0)))))
    (.keep [0, 1, 10, 11] (.block 1
     (.reg [⟨(some 44), none, (.p .mv), [(.t 10)], none⟩,
       ⟨(some 45), none, (.p (.bin .add)), [(.t 44), (.c (.int .i64 (.ofNat 1)))], none⟩,
       ⟨(some 10), none, (.p .mv), [(.t 45)], none⟩])))))))
  (.keep [0, 1, 10, 11] (.seq (.block 2
   (.loop
    (.keep [0, 1, 10, 11] (.seq (.seq (.draw [⟨(some 46), none, (.p .mv), [(.t 10)], none⟩,
      ⟨(some 47), none, (.p .mv), [(.t 11)], none⟩,
      ⟨(some 48), none, (.p (.bin .leq)), [(.t 46), (.t 47)], none⟩,
      ⟨(some 49), none, (.p .mv), [(.t 48)], none⟩,
      ⟨(some 50), some (49, true), (.p .mv), [(.t 0)], none⟩,
      ⟨(some 51), some (49, true), (.p .mv), [(.t 11)], none⟩,
      ⟨(some 52), some (49, true), (.p (.slIdx 1)), [(.t 50), (.t 51)], none⟩,
      ⟨(some 53), some (49, true), (.l (.load none)), [(.t 52)], none⟩,
      ⟨(some 54), some (49, true), (.p .mv), [(.t 0)], none⟩,
      ⟨(some 55), some (49, true), (.p .mv), [(.t 1)], none⟩,
      ⟨(some 56), some (49, true), (.p (.slIdx 1)), [(.t 54), (.t 55)], none⟩,
      ⟨(some 57), some (49, true), (.l (.load none)), [(.t 56)], none⟩,
      ⟨(some 58), some (49, true), (.call 156), [(.t 53), (.t 57)], none⟩,
      ⟨(some 59), some (49, true), (.p (.un .not)), [(.t 58)], none⟩,
      ⟨(some 60), none, (.p .pick), [(.t 49), (.t 59), (.c (.bool false))], none⟩])
    (.keep [0, 1, 10, 11, 60] (.cond (.t 60)
     .skip
     (.keep [0, 1, 10, 11] (.exit 2)))))
    (.keep [0, 1, 10, 11] (.block 3
     (.reg [⟨(some 61), none, (.p .mv), [(.t 11)], none⟩,
       ⟨(some 62), none, (.p (.bin .sub)), [(.t 61), (.c (.int .i64 (.ofNat 1)))], none⟩,
       ⟨(some 11), none, (.p .mv), [(.t 62)], none⟩])))))))
  (.keep [0, 1, 10, 11] (.seq (.seq (.reg [⟨(some 63), none, (.p .mv), [(.t 10)], none⟩,
    ⟨(some 64), none, (.p .mv), [(.t 11)], none⟩,
    ⟨(some 65), none, (.p (.bin .gtr)), [(.t 63), (.t 64)], none⟩])
  (.keep [0, 1, 10, 11, 65] (.cond (.t 65)
   (.seq (.draw [⟨(some 66), none, (.p .mv), [(.t 0)], none⟩,
     ⟨(some 67), none, (.p .mv), [(.t 11)], none⟩,
     ⟨(some 68), none, (.p .mv), [(.t 0)], none⟩,
     ⟨(some 69), none, (.p .mv), [(.t 1)], none⟩,
     ⟨(some 70), none, (.p .mv), [(.t 0)], none⟩,
     ⟨(some 71), none, (.p .mv), [(.t 1)], none⟩,
     ⟨(some 72), none, (.p (.slIdx 1)), [(.t 70), (.t 71)], none⟩,
     ⟨(some 73), none, (.l (.load none)), [(.t 72)], none⟩,
     ⟨(some 74), none, (.p .mv), [(.t 0)], none⟩,
     ⟨(some 75), none, (.p .mv), [(.t 11)], none⟩,
     ⟨(some 76), none, (.p (.slIdx 1)), [(.t 74), (.t 75)], none⟩,
     ⟨(some 77), none, (.l (.load none)), [(.t 76)], none⟩,
     ⟨(some 78), none, (.p (.slIdx 1)), [(.t 66), (.t 67)], none⟩,
     ⟨none, none, (.e (.store 1)), [(.t 78), (.t 73)], none⟩,
     ⟨(some 79), none, (.p (.slIdx 1)), [(.t 68), (.t 69)], none⟩,
     ⟨none, none, (.e (.store 1)), [(.t 79), (.t 77)], none⟩])
   (.keep [11] (.seq (.reg [⟨(some 80), none, (.p .mv), [(.t 11)], none⟩,
     ⟨(some 8), none, (.p .mv), [(.t 80)], none⟩,
     ⟨(some 9), none, (.p .mv), [(.c (.bool true))], none⟩])
   (.keep [8, 9] (.keep [8, 9] .ret)))))
   .skip)))
  (.keep [0, 1, 10, 11] (.seq (.draw [⟨(some 81), none, (.p .mv), [(.t 0)], none⟩,
    ⟨(some 82), none, (.p .mv), [(.t 10)], none⟩,
    ⟨(some 83), none, (.p .mv), [(.t 0)], none⟩,
    ⟨(some 84), none, (.p .mv), [(.t 11)], none⟩,
    ⟨(some 85), none, (.p .mv), [(.t 0)], none⟩,
    ⟨(some 86), none, (.p .mv), [(.t 11)], none⟩,
    ⟨(some 87), none, (.p (.slIdx 1)), [(.t 85), (.t 86)], none⟩,
    ⟨(some 88), none, (.l (.load none)), [(.t 87)], none⟩,
    ⟨(some 89), none, (.p .mv), [(.t 0)], none⟩,
    ⟨(some 90), none, (.p .mv), [(.t 10)], none⟩,
    ⟨(some 91), none, (.p (.slIdx 1)), [(.t 89), (.t 90)], none⟩,
    ⟨(some 92), none, (.l (.load none)), [(.t 91)], none⟩,
    ⟨(some 93), none, (.p (.slIdx 1)), [(.t 81), (.t 82)], none⟩,
    ⟨none, none, (.e (.store 1)), [(.t 93), (.t 88)], none⟩,
    ⟨(some 94), none, (.p (.slIdx 1)), [(.t 83), (.t 84)], none⟩,
    ⟨none, none, (.e (.store 1)), [(.t 94), (.t 92)], none⟩])
  (.keep [0, 1, 10, 11] (.seq (.reg [⟨(some 95), none, (.p .mv), [(.t 10)], none⟩,
    ⟨(some 96), none, (.p (.bin .add)), [(.t 95), (.c (.int .i64 (.ofNat 1)))], none⟩,
    ⟨(some 10), none, (.p .mv), [(.t 96)], none⟩])
  (.keep [0, 1, 10, 11] (.seq (.reg [⟨(some 97), none, (.p .mv), [(.t 11)], none⟩,
    ⟨(some 98), none, (.p (.bin .sub)), [(.t 97), (.c (.int .i64 (.ofNat 1)))], none⟩,
    ⟨(some 11), none, (.p .mv), [(.t 98)], none⟩])
  (.keep [0, 1, 10, 11] (.seq (.block 4
   (.loop
    (.keep [0, 1, 10, 11] (.block 5
     (.seq (.block 6
      (.loop
       (.keep [0, 1, 10, 11] (.seq (.seq (.draw [⟨(some 99), none, (.p .mv), [(.t 10)], none⟩,
         ⟨(some 100), none, (.p .mv), [(.t 11)], none⟩,
         ⟨(some 101), none, (.p (.bin .leq)), [(.t 99), (.t 100)], none⟩,
         ⟨(some 102), none, (.p .mv), [(.t 101)], none⟩,
         ⟨(some 103), some (102, true), (.p .mv), [(.t 0)], none⟩,
         ⟨(some 104), some (102, true), (.p .mv), [(.t 10)], none⟩,
         ⟨(some 105), some (102, true), (.p (.slIdx 1)), [(.t 103), (.t 104)], none⟩,
         ⟨(some 106), some (102, true), (.l (.load none)), [(.t 105)], none⟩,
         ⟨(some 107), some (102, true), (.p .mv), [(.t 0)], none⟩,
         ⟨(some 108), some (102, true), (.p .mv), [(.t 1)], none⟩,
         ⟨(some 109), some (102, true), (.p (.slIdx 1)), [(.t 107), (.t 108)], none⟩,
         ⟨(some 110), some (102, true), (.l (.load none)), [(.t 109)], none⟩,
         ⟨(some 111), some (102, true), (.call 156), [(.t 106), (.t 110)], none⟩,
         ⟨(some 112), none, (.p .pick), [(.t 102), (.t 111), (.c (.bool false))], none⟩])
       (.keep [0, 1, 10, 11, 112] (.cond (.t 112)
        .skip
        (.keep [0, 1, 10, 11] (.exit 6)))))
       (.keep [0, 1, 10, 11] (.block 7
        (.reg [⟨(some 113), none, (.p .mv), [(.t 10)], none⟩,
          ⟨(some 114), none, (.p (.bin .add)), [(.t 113), (.c (.int .i64 (.ofNat 1)))], none⟩,
          ⟨(some 10), none, (.p .mv), [(.t 114)], none⟩])))))))
     (.keep [0, 1, 10, 11] (.seq (.block 8
      (.loop
       (.keep [0, 1, 10, 11] (.seq (.seq (.draw [⟨(some 115), none, (.p .mv), [(.t 10)], none⟩,
         ⟨(some 116), none, (.p .mv), [(.t 11)], none⟩,
         ⟨(some 117), none, (.p (.bin .leq)), [(.t 115), (.t 116)], none⟩,
         ⟨(some 118), none, (.p .mv), [(.t 117)], none⟩,
         ⟨(some 119), some (118, true), (.p .mv), [(.t 0)], none⟩,
         ⟨(some 120), some (118, true), (.p .mv), [(.t 11)], none⟩,
         ⟨(some 121), some (118, true), (.p (.slIdx 1)), [(.t 119), (.t 120)], none⟩,
         ⟨(some 122), some (118, true), (.l (.load none)), [(.t 121)], none⟩,
         ⟨(some 123), some (118, true), (.p .mv), [(.t 0)], none⟩,
         ⟨(some 124), some (118, true), (.p .mv), [(.t 1)], none⟩,
         ⟨(some 125), some (118, true), (.p (.slIdx 1)), [(.t 123), (.t 124)], none⟩,
         ⟨(some 126), some (118, true), (.l (.load none)), [(.t 125)], none⟩,
         ⟨(some 127), some (118, true), (.call 156), [(.t 122), (.t 126)], none⟩,
         ⟨(some 128), some (118, true), (.p (.un .not)), [(.t 127)], none⟩,
         ⟨(some 129), none, (.p .pick), [(.t 118), (.t 128), (.c (.bool false))], none⟩])
       (.keep [0, 1, 10, 11, 129] (.cond (.t 129)
        .skip
        (.keep [0, 1, 10, 11] (.exit 8)))))
       (.keep [0, 1, 10, 11] (.block 9
        (.reg [⟨(some 130), none, (.p .mv), [(.t 11)], none⟩,
          ⟨(some 131), none, (.p (.bin .sub)), [(.t 130), (.c (.int .i64 (.ofNat 1)))], none⟩,
          ⟨(some 11), none, (.p .mv), [(.t 131)], none⟩])))))))
     (.keep [0, 1, 10, 11] (.seq (.seq (.reg [⟨(some 132), none, (.p .mv), [(.t 10)], none⟩,
       ⟨(some 133), none, (.p .mv), [(.t 11)], none⟩,
       ⟨(some 134), none, (.p (.bin .gtr)), [(.t 132), (.t 133)], none⟩])
     (.keep [0, 1, 10, 11, 134] (.cond (.t 134)
      (.keep [0, 1, 11] (.exit 4))
      .skip)))
     (.keep [0, 1, 10, 11] (.seq (.draw [⟨(some 135), none, (.p .mv), [(.t 0)], none⟩,
       ⟨(some 136), none, (.p .mv), [(.t 10)], none⟩,
       ⟨(some 137), none, (.p .mv), [(.t 0)], none⟩,
       ⟨(some 138), none, (.p .mv), [(.t 11)], none⟩,
       ⟨(some 139), none, (.p .mv), [(.t 0)], none⟩,
       ⟨(some 140), none, (.p .mv), [(.t 11)], none⟩,
       ⟨(some 141), none, (.p (.slIdx 1)), [(.t 139), (.t 140)], none⟩,
       ⟨(some 142), none, (.l (.load none)), [(.t 141)], none⟩,
       ⟨(some 143), none, (.p .mv), [(.t 0)], none⟩,
       ⟨(some 144), none, (.p .mv), [(.t 10)], none⟩,
       ⟨(some 145), none, (.p (.slIdx 1)), [(.t 143), (.t 144)], none⟩,
       ⟨(some 146), none, (.l (.load none)), [(.t 145)], none⟩,
       ⟨(some 147), none, (.p (.slIdx 1)), [(.t 135), (.t 136)], none⟩,
       ⟨none, none, (.e (.store 1)), [(.t 147), (.t 142)], none⟩,
       ⟨(some 148), none, (.p (.slIdx 1)), [(.t 137), (.t 138)], none⟩,
       ⟨none, none, (.e (.store 1)), [(.t 148), (.t 146)], none⟩])
     (.keep [0, 1, 10, 11] (.seq (.reg [⟨(some 149), none, (.p .mv), [(.t 10)], none⟩,
       ⟨(some 150), none, (.p (.bin .add)), [(.t 149), (.c (.int .i64 (.ofNat 1)))], none⟩,
       ⟨(some 10), none, (.p .mv), [(.t 150)], none⟩])
     (.keep [0, 1, 10, 11] (.reg [⟨(some 151), none, (.p .mv), [(.t 11)], none⟩,
       ⟨(some 152), none, (.p (.bin .sub)), [(.t 151), (.c (.int .i64 (.ofNat 1)))], none⟩,
       ⟨(some 11), none, (.p .mv), [(.t 152)], none⟩])))))))))))))))
  (.keep [0, 1, 11] (.seq (.draw [⟨(some 153), none, (.p .mv), [(.t 0)], none⟩,
    ⟨(some 154), none, (.p .mv), [(.t 11)], none⟩,
    ⟨(some 155), none, (.p .mv), [(.t 0)], none⟩,
    ⟨(some 156), none, (.p .mv), [(.t 1)], none⟩,
    ⟨(some 157), none, (.p .mv), [(.t 0)], none⟩,
    ⟨(some 158), none, (.p .mv), [(.t 1)], none⟩,
    ⟨(some 159), none, (.p (.slIdx 1)), [(.t 157), (.t 158)], none⟩,
    ⟨(some 160), none, (.l (.load none)), [(.t 159)], none⟩,
    ⟨(some 161), none, (.p .mv), [(.t 0)], none⟩,
    ⟨(some 162), none, (.p .mv), [(.t 11)], none⟩,
    ⟨(some 163), none, (.p (.slIdx 1)), [(.t 161), (.t 162)], none⟩,
    ⟨(some 164), none, (.l (.load none)), [(.t 163)], none⟩,
    ⟨(some 165), none, (.p (.slIdx 1)), [(.t 153), (.t 154)], none⟩,
    ⟨none, none, (.e (.store 1)), [(.t 165), (.t 160)], none⟩,
    ⟨(some 166), none, (.p (.slIdx 1)), [(.t 155), (.t 156)], none⟩,
    ⟨none, none, (.e (.store 1)), [(.t 166), (.t 164)], none⟩])
  (.keep [11] (.seq (.reg [⟨(some 167), none, (.p .mv), [(.t 11)], none⟩,
    ⟨(some 8), none, (.p .mv), [(.t 167)], none⟩,
    ⟨(some 9), none, (.p .mv), [(.c (.bool false))], none⟩])
  (.keep [8, 9] (.keep [8, 9] .ret))))))))))))))))))))))))),
  [(.t 8), (.t 9)]⟩
def s158_j2 (call : CallK) (N : Nat) (q : KV) (st : St) (τ : Tape) : Ans :=
  match st with
  | ⟨fr, H⟩ =>
  getK fr 0 fun t0 =>
  getK fr 1 fun t1 =>
  getK fr 11 fun t11 =>
  someK (pSlIdx 1 [t0, t1]) fun v41 =>
  someK (lLoad1 [v41] H) fun v42 =>
  someK (pSlIdx 1 [t0, t11]) fun v43 =>
  someK (lLoad1 [v43] H) fun v44 =>
  someK (pSlIdx 1 [t0, t11]) fun v45 =>
  effK (eStore 1 [v45, v42] H τ) fun v46 H47 τ48 =>
  someK (pSlIdx 1 [t0, t1]) fun v49 =>
  effK (eStore 1 [v49, v44] H47 τ48) fun v50 H51 τ52 =>
  q (.tup [t11, (.bool false)]) H51 τ52
def s158_j5 (call : CallK) (N : Nat) (k : KC) (st : St) (τ : Tape) : Ans :=
  match st with
  | ⟨fr, H⟩ =>
  getK fr 0 fun t0 =>
  getK fr 1 fun t1 =>
  getK fr 10 fun t10 =>
  getK fr 11 fun t11 =>
  binK .gtr t10 t11 fun v53 =>
  condK v53
    (k (.exit 4) ⟨(T.set (T.set (T.set .leaf 0 t0) 1 t1) 11 t11), H⟩ τ)
    (someK (pSlIdx 1 [t0, t11]) fun v54 =>
  someK (lLoad1 [v54] H) fun v55 =>
  someK (pSlIdx 1 [t0, t10]) fun v56 =>
  someK (lLoad1 [v56] H) fun v57 =>
  someK (pSlIdx 1 [t0, t10]) fun v58 =>
  effK (eStore 1 [v58, v55] H τ) fun v59 H60 τ61 =>
  someK (pSlIdx 1 [t0, t11]) fun v62 =>
  effK (eStore 1 [v62, v57] H60 τ61) fun v63 H64 τ65 =>
  binK .add t10 (.int .i64 (.ofNat 1)) fun v66 =>
  binK .sub t11 (.int .i64 (.ofNat 1)) fun v67 =>
  k .normal ⟨(T.set (T.set (T.set (T.set (T.set (T.set (T.set .leaf 0 t0) 1 t1) 10 v66) 11 t11) 151 t11) 152 v67) 11 v67), H64⟩ τ65)
def s158_l6 (call : CallK) (N : Nat) (st : St) (τ : Tape) (k : KC) : Ans :=
  match st with
  | ⟨fr, H⟩ =>
  getK fr 0 fun t0 =>
  getK fr 1 fun t1 =>
  getK fr 10 fun t10 =>
  getK fr 11 fun t11 =>
  binK .leq t10 t11 fun v68 =>
  gK v68 true (fun q' => q' t0 H τ) H τ fun v69 H70 τ71 =>
  gK v68 true (fun q' => q' t11 H70 τ71) H70 τ71 fun v72 H73 τ74 =>
  gK v68 true (fun q' => someK (pSlIdx 1 [v69, v72]) fun v => q' v H73 τ74) H73 τ74 fun v75 H76 τ77 =>
  gK v68 true (fun q' => someK (lLoad1 [v75] H76) fun v => q' v H76 τ77) H76 τ77 fun v78 H79 τ80 =>
  gK v68 true (fun q' => q' t0 H79 τ80) H79 τ80 fun v81 H82 τ83 =>
  gK v68 true (fun q' => q' t1 H82 τ83) H82 τ83 fun v84 H85 τ86 =>
  gK v68 true (fun q' => someK (pSlIdx 1 [v81, v84]) fun v => q' v H85 τ86) H85 τ86 fun v87 H88 τ89 =>
  gK v68 true (fun q' => someK (lLoad1 [v87] H88) fun v => q' v H88 τ89) H88 τ89 fun v90 H91 τ92 =>
  gK v68 true (fun q' => call 156 [v78, v90] H91 τ92 q') H91 τ92 fun v93 H94 τ95 =>
  gK v68 true (fun q' => unK .not v93 fun v => q' v H94 τ95) H94 τ95 fun v96 H97 τ98 =>
  someK (pPick [v68, v96, (.bool false)]) fun v99 =>
  condK v99
    (binK .sub t11 (.int .i64 (.ofNat 1)) fun v100 =>
  k .normal ⟨(T.set (T.set (T.set (T.set (T.set (T.set (T.set .leaf 0 t0) 1 t1) 10 t10) 11 t11) 130 t11) 131 v100) 11 v100), H97⟩ τ98)
    (k (.exit 8) ⟨(T.set (T.set (T.set (T.set .leaf 0 t0) 1 t1) 10 t10) 11 t11), H97⟩ τ98)
def s158_j4 (call : CallK) (N : Nat) (k : KC) (st : St) (τ : Tape) : Ans :=
  match st with
  | ⟨fr, H⟩ =>
  getK fr 0 fun t0 =>
  getK fr 1 fun t1 =>
  getK fr 10 fun t10 =>
  getK fr 11 fun t11 =>
  loopK (s158_l6 call N) N ⟨(T.set (T.set (T.set (T.set .leaf 0 t0) 1 t1) 10 t10) 11 t11), H⟩ τ (blockK 8 (seqK (s158_j5 call N k) (blockK 5 k)))
def s158_l7 (call : CallK) (N : Nat) (st : St) (τ : Tape) (k : KC) : Ans :=
  match st with
  | ⟨fr, H⟩ =>
  getK fr 0 fun t0 =>
  getK fr 1 fun t1 =>
  getK fr 10 fun t10 =>
  getK fr 11 fun t11 =>
  binK .leq t10 t11 fun v101 =>
  gK v101 true (fun q' => q' t0 H τ) H τ fun v102 H103 τ104 =>
  gK v101 true (fun q' => q' t10 H103 τ104) H103 τ104 fun v105 H106 τ107 =>
  gK v101 true (fun q' => someK (pSlIdx 1 [v102, v105]) fun v => q' v H106 τ107) H106 τ107 fun v108 H109 τ110 =>
  gK v101 true (fun q' => someK (lLoad1 [v108] H109) fun v => q' v H109 τ110) H109 τ110 fun v111 H112 τ113 =>
  gK v101 true (fun q' => q' t0 H112 τ113) H112 τ113 fun v114 H115 τ116 =>
  gK v101 true (fun q' => q' t1 H115 τ116) H115 τ116 fun v117 H118 τ119 =>
  gK v101 true (fun q' => someK (pSlIdx 1 [v114, v117]) fun v => q' v H118 τ119) H118 τ119 fun v120 H121 τ122 =>
  gK v101 true (fun q' => someK (lLoad1 [v120] H121) fun v => q' v H121 τ122) H121 τ122 fun v123 H124 τ125 =>
  gK v101 true (fun q' => call 156 [v111, v123] H124 τ125 q') H124 τ125 fun v126 H127 τ128 =>
  someK (pPick [v101, v126, (.bool false)]) fun v129 =>
  condK v129
    (binK .add t10 (.int .i64 (.ofNat 1)) fun v130 =>
  k .normal ⟨(T.set (T.set (T.set (T.set (T.set (T.set (T.set .leaf 0 t0) 1 t1) 10 t10) 11 t11) 113 t10) 114 v130) 10 v130), H127⟩ τ128)
    (k (.exit 6) ⟨(T.set (T.set (T.set (T.set .leaf 0 t0) 1 t1) 10 t10) 11 t11), H127⟩ τ128)
def s158_l3 (call : CallK) (N : Nat) (st : St) (τ : Tape) (k : KC) : Ans :=
  match st with
  | ⟨fr, H⟩ =>
  getK fr 0 fun t0 =>
  getK fr 1 fun t1 =>
  getK fr 10 fun t10 =>
  getK fr 11 fun t11 =>
  loopK (s158_l7 call N) N ⟨(T.set (T.set (T.set (T.set .leaf 0 t0) 1 t1) 10 t10) 11 t11), H⟩ τ (blockK 6 (seqK (s158_j4 call N k) (blockK 5 k)))
def s158_j1 (call : CallK) (N : Nat) (q : KV) (st : St) (τ : Tape) : Ans :=
  match st with
  | ⟨fr, H⟩ =>
  getK fr 0 fun t0 =>
  getK fr 1 fun t1 =>
  getK fr 10 fun t10 =>
  getK fr 11 fun t11 =>
  binK .gtr t10 t11 fun v14 =>
  condK v14
    (someK (pSlIdx 1 [t0, t1]) fun v15 =>
  someK (lLoad1 [v15] H) fun v16 =>
  someK (pSlIdx 1 [t0, t11]) fun v17 =>
  someK (lLoad1 [v17] H) fun v18 =>
  someK (pSlIdx 1 [t0, t11]) fun v19 =>
  effK (eStore 1 [v19, v16] H τ) fun v20 H21 τ22 =>
  someK (pSlIdx 1 [t0, t1]) fun v23 =>
  effK (eStore 1 [v23, v18] H21 τ22) fun v24 H25 τ26 =>
  q (.tup [t11, (.bool true)]) H25 τ26)
    (someK (pSlIdx 1 [t0, t11]) fun v27 =>
  someK (lLoad1 [v27] H) fun v28 =>
  someK (pSlIdx 1 [t0, t10]) fun v29 =>
  someK (lLoad1 [v29] H) fun v30 =>
  someK (pSlIdx 1 [t0, t10]) fun v31 =>
  effK (eStore 1 [v31, v28] H τ) fun v32 H33 τ34 =>
  someK (pSlIdx 1 [t0, t11]) fun v35 =>
  effK (eStore 1 [v35, v30] H33 τ34) fun v36 H37 τ38 =>
  binK .add t10 (.int .i64 (.ofNat 1)) fun v39 =>
  binK .sub t11 (.int .i64 (.ofNat 1)) fun v40 =>
  loopK (s158_l3 call N) N ⟨(T.set (T.set (T.set (T.set .leaf 0 t0) 1 t1) 10 v39) 11 v40), H37⟩ τ38 (blockK 4 (seqK (s158_j2 call N q) (endK [(.t 8), (.t 9)] q))))
def s158_l8 (call : CallK) (N : Nat) (st : St) (τ : Tape) (k : KC) : Ans :=
  match st with
  | ⟨fr, H⟩ =>
  getK fr 0 fun t0 =>
  getK fr 1 fun t1 =>
  getK fr 10 fun t10 =>
  getK fr 11 fun t11 =>
  binK .leq t10 t11 fun v131 =>
  gK v131 true (fun q' => q' t0 H τ) H τ fun v132 H133 τ134 =>
  gK v131 true (fun q' => q' t11 H133 τ134) H133 τ134 fun v135 H136 τ137 =>
  gK v131 true (fun q' => someK (pSlIdx 1 [v132, v135]) fun v => q' v H136 τ137) H136 τ137 fun v138 H139 τ140 =>
  gK v131 true (fun q' => someK (lLoad1 [v138] H139) fun v => q' v H139 τ140) H139 τ140 fun v141 H142 τ143 =>
  gK v131 true (fun q' => q' t0 H142 τ143) H142 τ143 fun v144 H145 τ146 =>
  gK v131 true (fun q' => q' t1 H145 τ146) H145 τ146 fun v147 H148 τ149 =>
  gK v131 true (fun q' => someK (pSlIdx 1 [v144, v147]) fun v => q' v H148 τ149) H148 τ149 fun v150 H151 τ152 =>
  gK v131 true (fun q' => someK (lLoad1 [v150] H151) fun v => q' v H151 τ152) H151 τ152 fun v153 H154 τ155 =>
  gK v131 true (fun q' => call 156 [v141, v153] H154 τ155 q') H154 τ155 fun v156 H157 τ158 =>
  gK v131 true (fun q' => unK .not v156 fun v => q' v H157 τ158) H157 τ158 fun v159 H160 τ161 =>
  someK (pPick [v131, v159, (.bool false)]) fun v162 =>
  condK v162
    (binK .sub t11 (.int .i64 (.ofNat 1)) fun v163 =>
  k .normal ⟨(T.set (T.set (T.set (T.set (T.set (T.set (T.set .leaf 0 t0) 1 t1) 10 t10) 11 t11) 61 t11) 62 v163) 11 v163), H160⟩ τ161)
    (k (.exit 2) ⟨(T.set (T.set (T.set (T.set .leaf 0 t0) 1 t1) 10 t10) 11 t11), H160⟩ τ161)
def s158_j0 (call : CallK) (N : Nat) (q : KV) (st : St) (τ : Tape) : Ans :=
  match st with
  | ⟨fr, H⟩ =>
  getK fr 0 fun t0 =>
  getK fr 1 fun t1 =>
  getK fr 10 fun t10 =>
  getK fr 11 fun t11 =>
  loopK (s158_l8 call N) N ⟨(T.set (T.set (T.set (T.set .leaf 0 t0) 1 t1) 10 t10) 11 t11), H⟩ τ (blockK 2 (seqK (s158_j1 call N q) (endK [(.t 8), (.t 9)] q)))
def s158_l9 (call : CallK) (N : Nat) (st : St) (τ : Tape) (k : KC) : Ans :=
  match st with
  | ⟨fr, H⟩ =>
  getK fr 0 fun t0 =>
  getK fr 1 fun t1 =>
  getK fr 10 fun t10 =>
  getK fr 11 fun t11 =>
  binK .leq t10 t11 fun v164 =>
  gK v164 true (fun q' => q' t0 H τ) H τ fun v165 H166 τ167 =>
  gK v164 true (fun q' => q' t10 H166 τ167) H166 τ167 fun v168 H169 τ170 =>
  gK v164 true (fun q' => someK (pSlIdx 1 [v165, v168]) fun v => q' v H169 τ170) H169 τ170 fun v171 H172 τ173 =>
  gK v164 true (fun q' => someK (lLoad1 [v171] H172) fun v => q' v H172 τ173) H172 τ173 fun v174 H175 τ176 =>
  gK v164 true (fun q' => q' t0 H175 τ176) H175 τ176 fun v177 H178 τ179 =>
  gK v164 true (fun q' => q' t1 H178 τ179) H178 τ179 fun v180 H181 τ182 =>
  gK v164 true (fun q' => someK (pSlIdx 1 [v177, v180]) fun v => q' v H181 τ182) H181 τ182 fun v183 H184 τ185 =>
  gK v164 true (fun q' => someK (lLoad1 [v183] H184) fun v => q' v H184 τ185) H184 τ185 fun v186 H187 τ188 =>
  gK v164 true (fun q' => call 156 [v174, v186] H187 τ188 q') H187 τ188 fun v189 H190 τ191 =>
  someK (pPick [v164, v189, (.bool false)]) fun v192 =>
  condK v192
    (binK .add t10 (.int .i64 (.ofNat 1)) fun v193 =>
  k .normal ⟨(T.set (T.set (T.set (T.set (T.set (T.set (T.set .leaf 0 t0) 1 t1) 10 t10) 11 t11) 44 t10) 45 v193) 10 v193), H190⟩ τ191)
    (k (.exit 0) ⟨(T.set (T.set (T.set (T.set .leaf 0 t0) 1 t1) 10 t10) 11 t11), H190⟩ τ191)
def s158 (call : CallK) (N : Nat) (a0 a1 a2 a3 : V) (H : Heap) (τ : Tape) (q : KV) : Ans :=
  someK (pSlIdx 1 [a0, a3]) fun v0 =>
  someK (lLoad1 [v0] H) fun v1 =>
  someK (pSlIdx 1 [a0, a1]) fun v2 =>
  someK (lLoad1 [v2] H) fun v3 =>
  someK (pSlIdx 1 [a0, a1]) fun v4 =>
  effK (eStore 1 [v4, v1] H τ) fun v5 H6 τ7 =>
  someK (pSlIdx 1 [a0, a3]) fun v8 =>
  effK (eStore 1 [v8, v3] H6 τ7) fun v9 H10 τ11 =>
  binK .add a1 (.int .i64 (.ofNat 1)) fun v12 =>
  binK .sub a2 (.int .i64 (.ofNat 1)) fun v13 =>
  loopK (s158_l9 call N) N ⟨(T.set (T.set (T.set (T.set .leaf 0 a0) 1 a1) 10 v12) 11 v13), H10⟩ τ11 (blockK 0 (seqK (s158_j0 call N q) (endK [(.t 8), (.t 9)] q)))
theorem s158_eq (call : CallK) (N : Nat) (a0 a1 a2 a3 : V) (H : Heap) (τ : Tape) (q : KV) : s158 call N a0 a1 a2 a3 H τ q = funK call N fn158 [a0, a1, a2, a3] H τ q := by kernel_rfl
def e158 (call : CallK) (N : Nat) (vs : List V) (H : Heap) (τ : Tape) (q : KV) : Ans := match vs with | [a0, a1, a2, a3] => s158 call N a0 a1 a2 a3 H τ q | _ => none
theorem e158_ok : EntOk fn158 e158 := by
  intro call N vs H τ q r h
  unfold e158 at h
  split at h
  · rw [s158_eq] at h; exact h
  · cases h
/-- math/bits.Len32 -/
def fn159 : Fun := ⟨1,
  (.seq (.reg [⟨(some 2), none, (.p .mv), [(.c (.int .i64 (.ofNat 0)))], none⟩])
  (.keep [0, 2] (.seq (.seq (.reg [⟨(some 3), none, (.p .mv), [(.t 0)], none⟩,
    ⟨(some 4), none, (.p (.bin .geq)), [(.t 3), (.c (.int .u32 (.ofNat 65536)))], none⟩])
  (.keep [0, 2, 4] (.cond (.t 4)
   (.seq (.reg [⟨(some 5), none, (.p .mv), [(.t 0)], none⟩,
     ⟨(some 6), none, (.p (.bin .shr)), [(.t 5), (.c (.int .u64 (.ofNat 16)))], none⟩,
     ⟨(some 0), none, (.p .mv), [(.t 6)], none⟩])
   (.keep [0] (.reg [⟨(some 2), none, (.p .mv), [(.c (.int .i64 (.ofNat 16)))], none⟩])))
   .skip)))
  (.keep [0, 2] (.seq (.seq (.reg [⟨(some 7), none, (.p .mv), [(.t 0)], none⟩,
    ⟨(some 8), none, (.p (.bin .geq)), [(.t 7), (.c (.int .u32 (.ofNat 256)))], none⟩])
  (.keep [0, 2, 8] (.cond (.t 8)
   (.seq (.reg [⟨(some 9), none, (.p .mv), [(.t 0)], none⟩,
     ⟨(some 10), none, (.p (.bin .shr)), [(.t 9), (.c (.int .u64 (.ofNat 8)))], none⟩,
     ⟨(some 0), none, (.p .mv), [(.t 10)], none⟩])
   (.keep [0, 2] (.reg [⟨(some 11), none, (.p .mv), [(.t 2)], none⟩,
     ⟨(some 12), none, (.p (.bin .add)), [(.t 11), (.c (.int .i64 (.ofNat 8)))], none⟩,
     ⟨(some 2), none, (.p .mv), [(.t 12)], none⟩])))
   .skip)))
  (.keep [0, 2] (.seq (.reg [⟨(some 13), none, (.p .mv), [(.t 2)], none⟩,
    ⟨(some 14), none, (.p .mv), [(.t 0)], none⟩,
    ⟨(some 15), none, (.p (.toInt .u8)), [(.t 14)], none⟩,
    ⟨(some 16), none, (.p .strIndex), [(.c (.str (bs [0, 1, 2, 2, 3, 3, 3, 3, 4, 4, 4, 4, 4, 4, 4, 4, 5, 5, 5, 5, 5, 5, 5, 5, 5, 5, 5, 5, 5, 5, 5, 5, 6, 6, 6, 6, 6, 6, 6, 6, 6, 6, 6, 6, 6, 6, 6, 6, 6, 6, 6, 6, 6, 6, 6, 6, 6, 6, 6, 6, 6, 6, 6, 6, 7, 7, 7, 7, 7, 7, 7, 7, 7, 7, 7, 7, 7, 7, 7, 7, 7, 7, 7, 7, 7, 7, 7, 7, 7, 7, 7, 7, 7, 7, 7, 7, 7, 7, 7, 7, 7, 7, 7, 7, 7, 7, 7, 7, 7, 7, 7, 7, 7, 7, 7, 7, 7, 7, 7, 7, 7, 7, 7, 7, 7, 7, 7, 7, 8, 8, 8, 8, 8, 8, 8, 8, 8, 8, 8, 8, 8, 8, 8, 8, 8, 8, 8, 8, 8, 8, 8, 8, 8, 8, 8, 8, 8, 8, 8, 8, 8, 8, 8, 8, 8, 8, 8, 8, 8, 8, 8, 8, 8, 8, 8, 8, 8, 8, 8, 8, 8, 8, 8, 8, 8, 8, 8, 8, 8, 8, 8, 8, 8, 8, 8, 8, 8, 8, 8, 8, 8, 8, 8, 8, 8, 8, 8, 8, 8, 8, 8, 8, 8, 8, 8, 8, 8, 8, 8, 8, 8, 8, 8, 8, 8, 8, 8, 8, 8, 8, 8, 8, 8, 8, 8, 8, 8, 8, 8, 8, 8, 8, 8, 8, 8, 8, 8, 8, 8, 8, 8, 8, 8, 8, 8, 8]))), (.t 15)], none⟩,
    ⟨(some 17), none, (.p (.toInt .i64)), [(.t 16)], none⟩,
    ⟨(some 18), none, (.p (.bin .add)), [(.t 13), (.t 17)], none⟩,
    ⟨(some 2), none, (.p .mv), [(.t 18)], none⟩])
  (.keep [2] (.keep [2] .ret))))))))),
  [(.t 2)]⟩
def s159_j1 (call : CallK) (N : Nat) (q : KV) (st : St) (τ : Tape) : Ans :=
  match st with
  | ⟨fr, H⟩ =>
  getK fr 0 fun t0 =>
  getK fr 2 fun t2 =>
  toIntK .u8 t0 fun v2 =>
  someK (pStrIndex [(.str (bs [0, 1, 2, 2, 3, 3, 3, 3, 4, 4, 4, 4, 4, 4, 4, 4, 5, 5, 5, 5, 5, 5, 5, 5, 5, 5, 5, 5, 5, 5, 5, 5, 6, 6, 6, 6, 6, 6, 6, 6, 6, 6, 6, 6, 6, 6, 6, 6, 6, 6, 6, 6, 6, 6, 6, 6, 6, 6, 6, 6, 6, 6, 6, 6, 7, 7, 7, 7, 7, 7, 7, 7, 7, 7, 7, 7, 7, 7, 7, 7, 7, 7, 7, 7, 7, 7, 7, 7, 7, 7, 7, 7, 7, 7, 7, 7, 7, 7, 7, 7, 7, 7, 7, 7, 7, 7, 7, 7, 7, 7, 7, 7, 7, 7, 7, 7, 7, 7, 7, 7, 7, 7, 7, 7, 7, 7, 7, 7, 8, 8, 8, 8, 8, 8, 8, 8, 8, 8, 8, 8, 8, 8, 8, 8, 8, 8, 8, 8, 8, 8, 8, 8, 8, 8, 8, 8, 8, 8, 8, 8, 8, 8, 8, 8, 8, 8, 8, 8, 8, 8, 8, 8, 8, 8, 8, 8, 8, 8, 8, 8, 8, 8, 8, 8, 8, 8, 8, 8, 8, 8, 8, 8, 8, 8, 8, 8, 8, 8, 8, 8, 8, 8, 8, 8, 8, 8, 8, 8, 8, 8, 8, 8, 8, 8, 8, 8, 8, 8, 8, 8, 8, 8, 8, 8, 8, 8, 8, 8, 8, 8, 8, 8, 8, 8, 8, 8, 8, 8, 8, 8, 8, 8, 8, 8, 8, 8, 8, 8, 8, 8, 8, 8, 8, 8, 8, 8])), v2]) fun v3 =>
  toIntK .i64 v3 fun v4 =>
  binK .add t2 v4 fun v5 =>
  q v5 H τ
def s159_j0 (call : CallK) (N : Nat) (q : KV) (st : St) (τ : Tape) : Ans :=
  match st with
  | ⟨fr, H⟩ =>
  getK fr 0 fun t0 =>
  getK fr 2 fun t2 =>
  binK .geq t0 (.int .u32 (.ofNat 256)) fun v1 =>
  condK v1
    (binK .shr t0 (.int .u64 (.ofNat 8)) fun v6 =>
  binK .add t2 (.int .i64 (.ofNat 8)) fun v7 =>
  s159_j1 call N q ⟨(T.set (T.set (T.set (T.set (T.set .leaf 0 v6) 2 t2) 11 t2) 12 v7) 2 v7), H⟩ τ)
    (s159_j1 call N q ⟨(T.set (T.set (T.set .leaf 0 t0) 2 t2) 8 v1), H⟩ τ)
def s159 (call : CallK) (N : Nat) (a0 : V) (H : Heap) (τ : Tape) (q : KV) : Ans :=
  binK .geq a0 (.int .u32 (.ofNat 65536)) fun v0 =>
  condK v0
    (binK .shr a0 (.int .u64 (.ofNat 16)) fun v8 =>
  s159_j0 call N q ⟨(T.set (T.set .leaf 0 v8) 2 (.int .i64 (.ofNat 16))), H⟩ τ)
    (s159_j0 call N q ⟨(T.set (T.set (T.set .leaf 0 a0) 2 (.int .i64 (.ofNat 0))) 4 v0), H⟩ τ)
theorem s159_eq (call : CallK) (N : Nat) (a0 : V) (H : Heap) (τ : Tape) (q : KV) : s159 call N a0 H τ q = funK call N fn159 [a0] H τ q := by kernel_rfl
def e159 (call : CallK) (N : Nat) (vs : List V) (H : Heap) (τ : Tape) (q : KV) : Ans := match vs with | [a0] => s159 call N a0 H τ q | _ => none
theorem e159_ok : EntOk fn159 e159 := by
  intro call N vs H τ q r h
  unfold e159 at h
  split at h
  · rw [s159_eq] at h; exact h
  · cases h
/-- math/bits.Len64 -/
def fn160 : Fun := ⟨1,
  (.seq (.reg [⟨(some 2), none, (.p .mv), [(.c (.int .i64 (.ofNat 0)))], none⟩])
  (.keep [0, 2] (.seq (.seq (.reg [⟨(some 3), none, (.p .mv), [(.t 0)], none⟩,
    ⟨(some 4), none, (.p (.bin .geq)), [(.t 3), (.c (.int .u64 (.ofNat 4294967296)))], none⟩])
  (.keep [0, 2, 4] (.cond (.t 4)
   (.seq (.reg [⟨(some 5), none, (.p .mv), [(.t 0)], none⟩,
     ⟨(some 6), none, (.p (.bin .shr)), [(.t 5), (.c (.int .u64 (.ofNat 32)))], none⟩,
     ⟨(some 0), none, (.p .mv), [(.t 6)], none⟩])
   (.keep [0] (.reg [⟨(some 2), none, (.p .mv), [(.c (.int .i64 (.ofNat 32)))], none⟩])))
   .skip)))
  (.keep [0, 2] (.seq (.seq (.reg [⟨(some 7), none, (.p .mv), [(.t 0)], none⟩,
    ⟨(some 8), none, (.p (.bin .geq)), [(.t 7), (.c (.int .u64 (.ofNat 65536)))], none⟩])
  (.keep [0, 2, 8] (.cond (.t 8)
   (.seq (.reg [⟨(some 9), none, (.p .mv), [(.t 0)], none⟩,
     ⟨(some 10), none, (.p (.bin .shr)), [(.t 9), (.c (.int .u64 (.ofNat 16)))], none⟩,
     ⟨(some 0), none, (.p .mv), [(.t 10)], none⟩])
   (.keep [0, 2] (.reg [⟨(some 11), none, (.p .mv), [(.t 2)], none⟩,
     ⟨(some 12), none, (.p (.bin .add)), [(.t 11), (.c (.int .i64 (.ofNat 16)))], none⟩,
     ⟨(some 2), none, (.p .mv), [(.t 12)], none⟩])))
   .skip)))
  (.keep [0, 2] (.seq (.seq (.reg [⟨(some 13), none, (.p .mv), [(.t 0)], none⟩,
    ⟨(some 14), none, (.p (.bin .geq)), [(.t 13), (.c (.int .u64 (.ofNat 256)))], none⟩])
  (.keep [0, 2, 14] (.cond (.t 14)
   (.seq (.reg [⟨(some 15), none, (.p .mv), [(.t 0)], none⟩,
     ⟨(some 16), none, (.p (.bin .shr)), [(.t 15), (.c (.int .u64 (.ofNat 8)))], none⟩,
     ⟨(some 0), none, (.p .mv), [(.t 16)], none⟩])
   (.keep [0, 2] (.reg [⟨(some 17), none, (.p .mv), [(.t 2)], none⟩,
     ⟨(some 18), none, (.p (.bin .add)), [(.t 17), (.c (.int .i64 (.ofNat 8)))], none⟩,
     ⟨(some 2), none, (.p .mv), [(.t 18)], none⟩])))
   .skip)))
  (.keep [0, 2] (.seq (.reg [⟨(some 19), none, (.p .mv), [(.t 2)], none⟩,
    ⟨(some 20), none, (.p .mv), [(.t 0)], none⟩,
    ⟨(some 21), none, (.p (.toInt .u8)), [(.t 20)], none⟩,
    ⟨(some 22), none, (.p .strIndex), [(.c (.str (bs [0, 1, 2, 2, 3, 3, 3, 3, 4, 4, 4, 4, 4, 4, 4, 4, 5, 5, 5, 5, 5, 5, 5, 5, 5, 5, 5, 5, 5, 5, 5, 5, 6, 6, 6, 6, 6, 6, 6, 6, 6, 6, 6, 6, 6, 6, 6, 6, 6, 6, 6, 6, 6, 6, 6, 6, 6, 6, 6, 6, 6, 6, 6, 6, 7, 7, 7, 7, 7, 7, 7, 7, 7, 7, 7, 7, 7, 7, 7, 7, 7, 7, 7, 7, 7, 7, 7, 7, 7, 7, 7, 7, 7, 7, 7, 7, 7, 7, 7, 7, 7, 7, 7, 7, 7, 7, 7, 7, 7, 7, 7, 7, 7, 7, 7, 7, 7, 7, 7, 7, 7, 7, 7, 7, 7, 7, 7, 7, 8, 8, 8, 8, 8, 8, 8, 8, 8, 8, 8, 8, 8, 8, 8, 8, 8, 8, 8, 8, 8, 8, 8, 8, 8, 8, 8, 8, 8, 8, 8, 8, 8, 8, 8, 8, 8, 8, 8, 8, 8, 8, 8, 8, 8, 8, 8, 8, 8, 8, 8, 8, 8, 8, 8, 8, 8, 8, 8, 8, 8, 8, 8, 8, 8, 8, 8, 8, 8, 8, 8, 8, 8, 8, 8, 8, 8, 8, 8, 8, 8, 8, 8, 8, 8, 8, 8, 8, 8, 8, 8, 8, 8, 8, 8, 8, 8, 8, 8, 8, 8, 8, 8, 8, 8, 8, 8, 8, 8, 8, 8, 8, 8, 8, 8, 8, 8, 8, 8, 8, 8, 8, 8, 8, 8, 8, 8, 8]))), (.t 21)], none⟩,
    ⟨(some 23), none, (.p (.toInt .i64)), [(.t 22)], none⟩,
    ⟨(some 24), none, (.p (.bin .add)), [(.t 19), (.t 23)], none⟩,
    ⟨(some 2), none, (.p .mv), [(.t 24)], none⟩])
  (.keep [2] (.keep [2] .ret))))))))))),
  [(.t 2)]⟩
def s160_j2 (call : CallK) (N : Nat) (q : KV) (st : St) (τ : Tape) : Ans :=
  match st with
  | ⟨fr, H⟩ =>
  getK fr 0 fun t0 =>
  getK fr 2 fun t2 =>
  toIntK .u8 t0 fun v3 =>
  someK (pStrIndex [(.str (bs [0, 1, 2, 2, 3, 3, 3, 3, 4, 4, 4, 4, 4, 4, 4, 4, 5, 5, 5, 5, 5, 5, 5, 5, 5, 5, 5, 5, 5, 5, 5, 5, 6, 6, 6, 6, 6, 6, 6, 6, 6, 6, 6, 6, 6, 6, 6, 6, 6, 6, 6, 6, 6, 6, 6, 6, 6, 6, 6, 6, 6, 6, 6, 6, 7, 7, 7, 7, 7, 7, 7, 7, 7, 7, 7, 7, 7, 7, 7, 7, 7, 7, 7, 7, 7, 7, 7, 7, 7, 7, 7, 7, 7, 7, 7, 7, 7, 7, 7, 7, 7, 7, 7, 7, 7, 7, 7, 7, 7, 7, 7, 7, 7, 7, 7, 7, 7, 7, 7, 7, 7, 7, 7, 7, 7, 7, 7, 7, 8, 8, 8, 8, 8, 8, 8, 8, 8, 8, 8, 8, 8, 8, 8, 8, 8, 8, 8, 8, 8, 8, 8, 8, 8, 8, 8, 8, 8, 8, 8, 8, 8, 8, 8, 8, 8, 8, 8, 8, 8, 8, 8, 8, 8, 8, 8, 8, 8, 8, 8, 8, 8, 8, 8, 8, 8, 8, 8, 8, 8, 8, 8, 8, 8, 8, 8, 8, 8, 8, 8, 8, 8, 8, 8, 8, 8, 8, 8, 8, 8, 8, 8, 8, 8, 8, 8, 8, 8, 8, 8, 8, 8, 8, 8, 8, 8, 8, 8, 8, 8, 8, 8, 8, 8, 8, 8, 8, 8, 8, 8, 8, 8, 8, 8, 8, 8, 8, 8, 8, 8, 8, 8, 8, 8, 8, 8, 8])), v3]) fun v4 =>
  toIntK .i64 v4 fun v5 =>
  binK .add t2 v5 fun v6 =>
  q v6 H τ
def s160_j1 (call : CallK) (N : Nat) (q : KV) (st : St) (τ : Tape) : Ans :=
  match st with
  | ⟨fr, H⟩ =>
  getK fr 0 fun t0 =>
  getK fr 2 fun t2 =>
  binK .geq t0 (.int .u64 (.ofNat 256)) fun v2 =>
  condK v2
    (binK .shr t0 (.int .u64 (.ofNat 8)) fun v7 =>
  binK .add t2 (.int .i64 (.ofNat 8)) fun v8 =>
  s160_j2 call N q ⟨(T.set (T.set (T.set (T.set (T.set .leaf 0 v7) 2 t2) 17 t2) 18 v8) 2 v8), H⟩ τ)
    (s160_j2 call N q ⟨(T.set (T.set (T.set .leaf 0 t0) 2 t2) 14 v2), H⟩ τ)
def s160_j0 (call : CallK) (N : Nat) (q : KV) (st : St) (τ : Tape) : Ans :=
  match st with
  | ⟨fr, H⟩ =>
  getK fr 0 fun t0 =>
  getK fr 2 fun t2 =>
  binK .geq t0 (.int .u64 (.ofNat 65536)) fun v1 =>
  condK v1
    (binK .shr t0 (.int .u64 (.ofNat 16)) fun v9 =>
  binK .add t2 (.int .i64 (.ofNat 16)) fun v10 =>
  s160_j1 call N q ⟨(T.set (T.set (T.set (T.set (T.set .leaf 0 v9) 2 t2) 11 t2) 12 v10) 2 v10), H⟩ τ)
    (s160_j1 call N q ⟨(T.set (T.set (T.set .leaf 0 t0) 2 t2) 8 v1), H⟩ τ)
def s160 (call : CallK) (N : Nat) (a0 : V) (H : Heap) (τ : Tape) (q : KV) : Ans :=
  binK .geq a0 (.int .u64 (.ofNat 4294967296)) fun v0 =>
  condK v0
    (binK .shr a0 (.int .u64 (.ofNat 32)) fun v11 =>
  s160_j0 call N q ⟨(T.set (T.set .leaf 0 v11) 2 (.int .i64 (.ofNat 32))), H⟩ τ)
    (s160_j0 call N q ⟨(T.set (T.set (T.set .leaf 0 a0) 2 (.int .i64 (.ofNat 0))) 4 v0), H⟩ τ)
theorem s160_eq (call : CallK) (N : Nat) (a0 : V) (H : Heap) (τ : Tape) (q : KV) : s160 call N a0 H τ q = funK call N fn160 [a0] H τ q := by kernel_rfl
def e160 (call : CallK) (N : Nat) (vs : List V) (H : Heap) (τ : Tape) (q : KV) : Ans := match vs with | [a0] => s160 call N a0 H τ q | _ => none
theorem e160_ok : EntOk fn160 e160 := by
  intro call N vs H τ q r h
  unfold e160 at h
  split at h
  · rw [s160_eq] at h; exact h
  · cases h
/-- internal/bytealg.IndexRabinKarp[string] -/
def fn162 : Fun := ⟨2,
  (.seq (.reg [⟨(some 4), none, (.p .mv), [(.c (.int .i64 (.ofNat 0)))], none⟩])
  (.keep [0, 1] (.seq (.reg [⟨(some 12), none, (.p .mv), [(.t 1)], none⟩,
    ⟨(some 13), none, (.call 186), [(.t 12)], none⟩,
    ⟨(some 11), none, (.p .mv), [(.t 13)], none⟩,
    ⟨(some 14), none, (.p (.extract 0)), [(.t 11)], none⟩,
    ⟨(some 15), none, (.p (.extract 1)), [(.t 11)], none⟩,
    ⟨(some 5), none, (.p .mv), [(.t 14)], none⟩,
    ⟨(some 6), none, (.p .mv), [(.t 15)], none⟩])
  (.keep [0, 1, 5, 6] (.seq (.reg [⟨(some 16), none, (.p .mv), [(.t 1)], none⟩,
    ⟨(some 17), none, (.p .lenS), [(.t 16)], none⟩,
    ⟨(some 7), none, (.p .mv), [(.t 17)], none⟩])
  (.keep [0, 1, 5, 6, 7] (.seq (.reg [⟨(some 8), none, (.p .mv), [(.c (.int .u32 (.ofNat 0)))], none⟩])
  (.keep [0, 1, 5, 6, 7, 8] (.seq (.seq (.reg [⟨(some 9), none, (.p .mv), [(.c (.int .i64 (.ofNat 0)))], none⟩])
  (.keep [0, 1, 5, 6, 7, 8, 9] (.block 0
   (.loop
    (.keep [0, 1, 5, 6, 7, 8, 9] (.seq (.seq (.reg [⟨(some 18), none, (.p .mv), [(.t 9)], none⟩,
      ⟨(some 19), none, (.p .mv), [(.t 7)], none⟩,
      ⟨(some 20), none, (.p (.bin .lss)), [(.t 18), (.t 19)], none⟩])
    (.keep [0, 1, 5, 6, 7, 8, 9, 20] (.cond (.t 20)
     .skip
     (.keep [0, 1, 5, 6, 7, 8] (.exit 0)))))
    (.keep [0, 1, 5, 6, 7, 8, 9] (.seq (.block 1
     (.reg [⟨(some 23), none, (.p .mv), [(.t 8)], none⟩,
       ⟨(some 24), none, (.p (.bin .mul)), [(.t 23), (.c (.int .u32 (.ofNat 16777619)))], none⟩,
       ⟨(some 25), none, (.p .mv), [(.t 0)], none⟩,
       ⟨(some 26), none, (.p .mv), [(.t 9)], none⟩,
       ⟨(some 27), none, (.p .strIndex), [(.t 25), (.t 26)], none⟩,
       ⟨(some 28), none, (.p (.toInt .u32)), [(.t 27)], none⟩,
       ⟨(some 29), none, (.p (.bin .add)), [(.t 24), (.t 28)], none⟩,
       ⟨(some 8), none, (.p .mv), [(.t 29)], none⟩]))
    (.keep [0, 1, 5, 6, 7, 8, 9] (.reg [⟨(some 21), none, (.p .mv), [(.t 9)], none⟩,
      ⟨(some 22), none, (.p (.bin .add)), [(.t 21), (.c (.int .i64 (.ofNat 1)))], none⟩,
      ⟨(some 9), none, (.p .mv), [(.t 22)], none⟩]))))))))))
  (.keep [0, 1, 5, 6, 7, 8] (.seq (.seq (.reg [⟨(some 30), none, (.p .mv), [(.t 8)], none⟩,
    ⟨(some 31), none, (.p .mv), [(.t 5)], none⟩,
    ⟨(some 32), none, (.p (.bin .eql)), [(.t 30), (.t 31)], none⟩,
    ⟨(some 33), none, (.p .mv), [(.t 32)], none⟩,
    ⟨(some 34), some (33, true), (.p .mv), [(.t 0)], none⟩,
    ⟨(some 35), some (33, true), (.p .mv), [(.t 7)], none⟩,
    ⟨(some 36), some (33, true), (.p (.strSlice false true)), [(.t 34), (.t 35)], none⟩,
    ⟨(some 37), some (33, true), (.p .mv), [(.t 1)], none⟩,
    ⟨(some 38), some (33, true), (.p (.bin .eql)), [(.t 36), (.t 37)], none⟩,
    ⟨(some 39), none, (.p .pick), [(.t 33), (.t 38), (.c (.bool false))], none⟩])
  (.keep [0, 1, 5, 6, 7, 8, 39] (.cond (.t 39)
   (.seq (.reg [⟨(some 4), none, (.p .mv), [(.c (.int .i64 (.ofNat 0)))], none⟩])
   (.keep [4] (.keep [4] .ret)))
   .skip)))
  (.keep [0, 1, 5, 6, 7, 8] (.seq (.seq (.reg [⟨(some 40), none, (.p .mv), [(.t 7)], none⟩,
    ⟨(some 10), none, (.p .mv), [(.t 40)], none⟩])
  (.keep [0, 1, 5, 6, 7, 8, 10] (.block 2
   (.loop
    (.keep [0, 1, 5, 6, 7, 8, 10] (.seq (.seq (.reg [⟨(some 41), none, (.p .mv), [(.t 10)], none⟩,
      ⟨(some 42), none, (.p .mv), [(.t 0)], none⟩,
      ⟨(some 43), none, (.p .lenS), [(.t 42)], none⟩,
      ⟨(some 44), none, (.p (.bin .lss)), [(.t 41), (.t 43)], none⟩])
    (.keep [0, 1, 5, 6, 7, 8, 10, 44] (.cond (.t 44)
     .skip
     (.keep [] (.exit 2)))))
    (.keep [0, 1, 5, 6, 7, 8, 10] (.block 3
     (.seq (.reg [⟨(some 45), none, (.p .mv), [(.t 8)], none⟩,
       ⟨(some 46), none, (.p (.bin .mul)), [(.t 45), (.c (.int .u32 (.ofNat 16777619)))], none⟩,
       ⟨(some 8), none, (.p .mv), [(.t 46)], none⟩])
     (.keep [0, 1, 5, 6, 7, 8, 10] (.seq (.reg [⟨(some 47), none, (.p .mv), [(.t 8)], none⟩,
       ⟨(some 48), none, (.p .mv), [(.t 0)], none⟩,
       ⟨(some 49), none, (.p .mv), [(.t 10)], none⟩,
       ⟨(some 50), none, (.p .strIndex), [(.t 48), (.t 49)], none⟩,
       ⟨(some 51), none, (.p (.toInt .u32)), [(.t 50)], none⟩,
       ⟨(some 52), none, (.p (.bin .add)), [(.t 47), (.t 51)], none⟩,
       ⟨(some 8), none, (.p .mv), [(.t 52)], none⟩])
     (.keep [0, 1, 5, 6, 7, 8, 10] (.seq (.reg [⟨(some 53), none, (.p .mv), [(.t 8)], none⟩,
       ⟨(some 54), none, (.p .mv), [(.t 6)], none⟩,
       ⟨(some 55), none, (.p .mv), [(.t 0)], none⟩,
       ⟨(some 56), none, (.p .mv), [(.t 10)], none⟩,
       ⟨(some 57), none, (.p .mv), [(.t 7)], none⟩,
       ⟨(some 58), none, (.p (.bin .sub)), [(.t 56), (.t 57)], none⟩,
       ⟨(some 59), none, (.p .strIndex), [(.t 55), (.t 58)], none⟩,
       ⟨(some 60), none, (.p (.toInt .u32)), [(.t 59)], none⟩,
       ⟨(some 61), none, (.p (.bin .mul)), [(.t 54), (.t 60)], none⟩,
       ⟨(some 62), none, (.p (.bin .sub)), [(.t 53), (.t 61)], none⟩,
       ⟨(some 8), none, (.p .mv), [(.t 62)], none⟩])
     (.keep [0, 1, 5, 6, 7, 8, 10] (.seq (.reg [⟨(some 63), none, (.p .mv), [(.t 10)], none⟩,
       ⟨(some 64), none, (.p (.bin .add)), [(.t 63), (.c (.int .i64 (.ofNat 1)))], none⟩,
       ⟨(some 10), none, (.p .mv), [(.t 64)], none⟩])
     (.keep [0, 1, 5, 6, 7, 8, 10] (.seq (.reg [⟨(some 65), none, (.p .mv), [(.t 8)], none⟩,
       ⟨(some 66), none, (.p .mv), [(.t 5)], none⟩,
       ⟨(some 67), none, (.p (.bin .eql)), [(.t 65), (.t 66)], none⟩,
       ⟨(some 68), none, (.p .mv), [(.t 67)], none⟩,
       ⟨(some 69), some (68, true), (.p .mv), [(.t 0)], none⟩,
       ⟨(some 70), some (68, true), (.p .mv), [(.t 10)], none⟩,
       ⟨(some 71), some (68, true), (.p .mv), [(.t 7)], none⟩,
       ⟨(some 72), some (68, true), (.p (.bin .sub)), [(.t 70), (.t 71)], none⟩,
       ⟨(some 73), some (68, true), (.p .mv), [(.t 10)], none⟩,
       ⟨(some 74), some (68, true), (.p (.strSlice true true)), [(.t 69), (.t 72), (.t 73)], none⟩,
       ⟨(some 75), some (68, true), (.p .mv), [(.t 1)], none⟩,
       ⟨(some 76), some (68, true), (.p (.bin .eql)), [(.t 74), (.t 75)], none⟩,
       ⟨(some 77), none, (.p .pick), [(.t 68), (.t 76), (.c (.bool false))], none⟩])
     (.keep [0, 1, 5, 6, 7, 8, 10, 77] (.cond (.t 77)
      (.seq (.reg [⟨(some 78), none, (.p .mv), [(.t 10)], none⟩,
        ⟨(some 79), none, (.p .mv), [(.t 7)], none⟩,
        ⟨(some 80), none, (.p (.bin .sub)), [(.t 78), (.t 79)], none⟩,
        ⟨(some 4), none, (.p .mv), [(.t 80)], none⟩])
      (.keep [4] (.keep [4] .ret)))
      .skip)))))))))))))))))))
  (.keep [] (.seq (.reg [⟨(some 4), none, (.p .mv), [(.c (.int .i64 (.negSucc 0)))], none⟩])
  (.keep [4] (.keep [4] .ret))))))))))))))))),
  [(.t 4)]⟩
def s162_j1 (call : CallK) (N : Nat) (q : KV) (st : St) (τ : Tape) : Ans :=
  match st with
  | ⟨fr, H⟩ =>
  q (.int .i64 (.negSucc 0)) H τ
def s162_l2 (call : CallK) (N : Nat) (st : St) (τ : Tape) (k : KC) : Ans :=
  match st with
  | ⟨fr, H⟩ =>
  getK fr 0 fun t0 =>
  getK fr 1 fun t1 =>
  getK fr 5 fun t5 =>
  getK fr 6 fun t6 =>
  getK fr 7 fun t7 =>
  getK fr 8 fun t8 =>
  getK fr 10 fun t10 =>
  someK (pLenS [t0]) fun v23 =>
  binK .lss t10 v23 fun v24 =>
  condK v24
    (binK .mul t8 (.int .u32 (.ofNat 16777619)) fun v25 =>
  someK (pStrIndex [t0, t10]) fun v26 =>
  toIntK .u32 v26 fun v27 =>
  binK .add v25 v27 fun v28 =>
  binK .sub t10 t7 fun v29 =>
  someK (pStrIndex [t0, v29]) fun v30 =>
  toIntK .u32 v30 fun v31 =>
  binK .mul t6 v31 fun v32 =>
  binK .sub v28 v32 fun v33 =>
  binK .add t10 (.int .i64 (.ofNat 1)) fun v34 =>
  binK .eql v33 t5 fun v35 =>
  gK v35 true (fun q' => q' t0 H τ) H τ fun v36 H37 τ38 =>
  gK v35 true (fun q' => q' v34 H37 τ38) H37 τ38 fun v39 H40 τ41 =>
  gK v35 true (fun q' => q' t7 H40 τ41) H40 τ41 fun v42 H43 τ44 =>
  gK v35 true (fun q' => binK .sub v39 v42 fun v => q' v H43 τ44) H43 τ44 fun v45 H46 τ47 =>
  gK v35 true (fun q' => q' v34 H46 τ47) H46 τ47 fun v48 H49 τ50 =>
  gK v35 true (fun q' => someK (pStrSlice true true [v36, v45, v48]) fun v => q' v H49 τ50) H49 τ50 fun v51 H52 τ53 =>
  gK v35 true (fun q' => q' t1 H52 τ53) H52 τ53 fun v54 H55 τ56 =>
  gK v35 true (fun q' => binK .eql v51 v54 fun v => q' v H55 τ56) H55 τ56 fun v57 H58 τ59 =>
  someK (pPick [v35, v57, (.bool false)]) fun v60 =>
  condK v60
    (binK .sub v34 t7 fun v61 =>
  k .ret ⟨(T.set .leaf 4 v61), H58⟩ τ59)
    (k .normal ⟨(T.set (T.set (T.set (T.set (T.set (T.set (T.set (T.set .leaf 0 t0) 1 t1) 5 t5) 6 t6) 7 t7) 8 v33) 10 v34) 77 v60), H58⟩ τ59))
    (k (.exit 2) ⟨.leaf, H⟩ τ)
def s162_j0 (call : CallK) (N : Nat) (q : KV) (st : St) (τ : Tape) : Ans :=
  match st with
  | ⟨fr, H⟩ =>
  getK fr 0 fun t0 =>
  getK fr 1 fun t1 =>
  getK fr 5 fun t5 =>
  getK fr 6 fun t6 =>
  getK fr 7 fun t7 =>
  getK fr 8 fun t8 =>
  binK .eql t8 t5 fun v6 =>
  gK v6 true (fun q' => q' t0 H τ) H τ fun v7 H8 τ9 =>
  gK v6 true (fun q' => q' t7 H8 τ9) H8 τ9 fun v10 H11 τ12 =>
  gK v6 true (fun q' => someK (pStrSlice false true [v7, v10]) fun v => q' v H11 τ12) H11 τ12 fun v13 H14 τ15 =>
  gK v6 true (fun q' => q' t1 H14 τ15) H14 τ15 fun v16 H17 τ18 =>
  gK v6 true (fun q' => binK .eql v13 v16 fun v => q' v H17 τ18) H17 τ18 fun v19 H20 τ21 =>
  someK (pPick [v6, v19, (.bool false)]) fun v22 =>
  condK v22
    (q (.int .i64 (.ofNat 0)) H20 τ21)
    (loopK (s162_l2 call N) N ⟨(T.set (T.set (T.set (T.set (T.set (T.set (T.set .leaf 0 t0) 1 t1) 5 t5) 6 t6) 7 t7) 8 t8) 10 t7), H20⟩ τ21 (blockK 2 (seqK (s162_j1 call N q) (endK [(.t 4)] q))))
def s162_l3 (call : CallK) (N : Nat) (st : St) (τ : Tape) (k : KC) : Ans :=
  match st with
  | ⟨fr, H⟩ =>
  getK fr 0 fun t0 =>
  getK fr 1 fun t1 =>
  getK fr 5 fun t5 =>
  getK fr 6 fun t6 =>
  getK fr 7 fun t7 =>
  getK fr 8 fun t8 =>
  getK fr 9 fun t9 =>
  binK .lss t9 t7 fun v62 =>
  condK v62
    (binK .mul t8 (.int .u32 (.ofNat 16777619)) fun v63 =>
  someK (pStrIndex [t0, t9]) fun v64 =>
  toIntK .u32 v64 fun v65 =>
  binK .add v63 v65 fun v66 =>
  binK .add t9 (.int .i64 (.ofNat 1)) fun v67 =>
  k .normal ⟨(T.set (T.set (T.set (T.set (T.set (T.set (T.set (T.set (T.set (T.set .leaf 0 t0) 1 t1) 5 t5) 6 t6) 7 t7) 8 v66) 9 t9) 21 t9) 22 v67) 9 v67), H⟩ τ)
    (k (.exit 0) ⟨(T.set (T.set (T.set (T.set (T.set (T.set .leaf 0 t0) 1 t1) 5 t5) 6 t6) 7 t7) 8 t8), H⟩ τ)
def s162 (call : CallK) (N : Nat) (a0 a1 : V) (H : Heap) (τ : Tape) (q : KV) : Ans :=
  call 186 [a1] H τ fun v0 H1 τ2 =>
  someK (pExtract 0 [v0]) fun v3 =>
  someK (pExtract 1 [v0]) fun v4 =>
  someK (pLenS [a1]) fun v5 =>
  loopK (s162_l3 call N) N ⟨(T.set (T.set (T.set (T.set (T.set (T.set (T.set .leaf 0 a0) 1 a1) 5 v3) 6 v4) 7 v5) 8 (.int .u32 (.ofNat 0))) 9 (.int .i64 (.ofNat 0))), H1⟩ τ2 (blockK 0 (seqK (s162_j0 call N q) (endK [(.t 4)] q)))
theorem s162_eq (call : CallK) (N : Nat) (a0 a1 : V) (H : Heap) (τ : Tape) (q : KV) : s162 call N a0 a1 H τ q = funK call N fn162 [a0, a1] H τ q := by kernel_rfl
def e162 (call : CallK) (N : Nat) (vs : List V) (H : Heap) (τ : Tape) (q : KV) : Ans := match vs with | [a0, a1] => s162 call N a0 a1 H τ q | _ => none
theorem e162_ok : EntOk fn162 e162 := by
  intro call N vs H τ q r h
  unfold e162 at h
  split at h
  · rw [s162_eq] at h; exact h
  · cases h
/-- (*strings.asciiSet).contains -/
def fn171 : Fun := ⟨2,
  (.seq (.reg [⟨(some 4), none, (.p .mv), [(.c (.bool false))], none⟩])
  (.keep [0, 1] (.seq (.reg [⟨(some 5), none, (.p .mv), [(.t 0)], none⟩,
    ⟨(some 6), none, (.p .mv), [(.t 1)], none⟩,
    ⟨(some 7), none, (.p .nilck), [(.t 5)], none⟩,
    ⟨(some 8), none, (.p (.arrIdx 256 1)), [(.t 7), (.t 6)], none⟩,
    ⟨(some 9), none, (.l (.load none)), [(.t 8)], none⟩,
    ⟨(some 4), none, (.p .mv), [(.t 9)], none⟩])
  (.keep [4] (.keep [4] .ret))))),
  [(.t 4)]⟩
def s171 (call : CallK) (N : Nat) (a0 a1 : V) (H : Heap) (τ : Tape) (q : KV) : Ans :=
  someK (pNilck [a0]) fun v0 =>
  someK (pArrIdx 256 1 [v0, a1]) fun v1 =>
  someK (lLoad1 [v1] H) fun v2 =>
  q v2 H τ
theorem s171_eq (call : CallK) (N : Nat) (a0 a1 : V) (H : Heap) (τ : Tape) (q : KV) : s171 call N a0 a1 H τ q = funK call N fn171 [a0, a1] H τ q := by kernel_rfl
def e171 (call : CallK) (N : Nat) (vs : List V) (H : Heap) (τ : Tape) (q : KV) : Ans := match vs with | [a0, a1] => s171 call N a0 a1 H τ q | _ => none
theorem e171_ok : EntOk fn171 e171 := by
  intro call N vs H τ q r h
  unfold e171 at h
  split at h
  · rw [s171_eq] at h; exact h
  · cases h
/-- unicode/utf8.DecodeRuneInString -/
def fn172 : Fun := ⟨1,
  (.seq (.reg [⟨(some 2), none, (.p .mv), [(.c (.int .i32 (.ofNat 0)))], none⟩,
    ⟨(some 3), none, (.p .mv), [(.c (.int .i64 (.ofNat 0)))], none⟩])
  (.keep [0] (.seq (.seq (.reg [⟨(some 4), none, (.p .mv), [(.t 0)], none⟩,
    ⟨(some 5), none, (.p (.bin .neq)), [(.t 4), (.c (.str []))], none⟩,
    ⟨(some 6), none, (.p .mv), [(.t 5)], none⟩,
    ⟨(some 7), some (6, true), (.p .mv), [(.t 0)], none⟩,
    ⟨(some 8), some (6, true), (.p .strIndex), [(.t 7), (.c (.int .i64 (.ofNat 0)))], none⟩,
    ⟨(some 9), some (6, true), (.p (.bin .lss)), [(.t 8), (.c (.int .u8 (.ofNat 128)))], none⟩,
    ⟨(some 10), none, (.p .pick), [(.t 6), (.t 9), (.c (.bool false))], none⟩])
  (.keep [0, 10] (.cond (.t 10)
   (.seq (.reg [⟨(some 11), none, (.p .mv), [(.t 0)], none⟩,
     ⟨(some 12), none, (.p .strIndex), [(.t 11), (.c (.int .i64 (.ofNat 0)))], none⟩,
     ⟨(some 13), none, (.p (.toInt .i32)), [(.t 12)], none⟩,
     ⟨(some 2), none, (.p .mv), [(.t 13)], none⟩,
     ⟨(some 3), none, (.p .mv), [(.c (.int .i64 (.ofNat 1)))], none⟩])
   (.keep [2, 3] (.keep [2, 3] .ret)))
   (.reg [⟨(some 15), none, (.p .mv), [(.t 0)], none⟩,
     ⟨(some 16), none, (.call 191), [(.t 15)], none⟩,
     ⟨(some 14), none, (.p .mv), [(.t 16)], none⟩,
     ⟨(some 17), none, (.p (.extract 0)), [(.t 14)], none⟩,
     ⟨(some 18), none, (.p (.extract 1)), [(.t 14)], none⟩,
     ⟨(some 2), none, (.p .mv), [(.t 17)], none⟩,
     ⟨(some 3), none, (.p .mv), [(.t 18)], none⟩]))))
  (.keep [2, 3] (.keep [2, 3] .ret))))),
  [(.t 2), (.t 3)]⟩
def s172 (call : CallK) (N : Nat) (a0 : V) (H : Heap) (τ : Tape) (q : KV) : Ans :=
  binK .neq a0 (.str []) fun v0 =>
  gK v0 true (fun q' => q' a0 H τ) H τ fun v1 H2 τ3 =>
  gK v0 true (fun q' => someK (pStrIndex [v1, (.int .i64 (.ofNat 0))]) fun v => q' v H2 τ3) H2 τ3 fun v4 H5 τ6 =>
  gK v0 true (fun q' => binK .lss v4 (.int .u8 (.ofNat 128)) fun v => q' v H5 τ6) H5 τ6 fun v7 H8 τ9 =>
  someK (pPick [v0, v7, (.bool false)]) fun v10 =>
  condK v10
    (someK (pStrIndex [a0, (.int .i64 (.ofNat 0))]) fun v11 =>
  toIntK .i32 v11 fun v12 =>
  q (.tup [v12, (.int .i64 (.ofNat 1))]) H8 τ9)
    (call 191 [a0] H8 τ9 fun v13 H14 τ15 =>
  someK (pExtract 0 [v13]) fun v16 =>
  someK (pExtract 1 [v13]) fun v17 =>
  q (.tup [v16, v17]) H14 τ15)
theorem s172_eq (call : CallK) (N : Nat) (a0 : V) (H : Heap) (τ : Tape) (q : KV) : s172 call N a0 H τ q = funK call N fn172 [a0] H τ q := by kernel_rfl
def e172 (call : CallK) (N : Nat) (vs : List V) (H : Heap) (τ : Tape) (q : KV) : Ans := match vs with | [a0] => s172 call N a0 H τ q | _ => none
theorem e172_ok : EntOk fn172 e172 := by
  intro call N vs H τ q r h
  unfold e172 at h
  split at h
  · rw [s172_eq] at h; exact h
  · cases h
/-- unicode/utf8.DecodeLastRuneInString -/
def fn173 : Fun := ⟨1,
  (.seq (.reg [⟨(some 2), none, (.p .mv), [(.c (.int .i32 (.ofNat 0)))], none⟩,
    ⟨(some 3), none, (.p .mv), [(.c (.int .i64 (.ofNat 0)))], none⟩])
  (.keep [0] (.seq (.reg [⟨(some 7), none, (.p .mv), [(.t 0)], none⟩,
    ⟨(some 8), none, (.p .lenS), [(.t 7)], none⟩,
    ⟨(some 4), none, (.p .mv), [(.t 8)], none⟩])
  (.keep [0, 4] (.seq (.seq (.reg [⟨(some 9), none, (.p .mv), [(.t 4)], none⟩,
    ⟨(some 10), none, (.p (.bin .eql)), [(.t 9), (.c (.int .i64 (.ofNat 0)))], none⟩])
  (.keep [0, 4, 10] (.cond (.t 10)
   (.seq (.reg [⟨(some 2), none, (.p .mv), [(.c (.int .i32 (.ofNat 65533)))], none⟩,
     ⟨(some 3), none, (.p .mv), [(.c (.int .i64 (.ofNat 0)))], none⟩])
   (.keep [2, 3] (.keep [2, 3] .ret)))
   .skip)))
  (.keep [0, 4] (.seq (.reg [⟨(some 11), none, (.p .mv), [(.t 4)], none⟩,
    ⟨(some 12), none, (.p (.bin .sub)), [(.t 11), (.c (.int .i64 (.ofNat 1)))], none⟩,
    ⟨(some 5), none, (.p .mv), [(.t 12)], none⟩])
  (.keep [0, 4, 5] (.seq (.reg [⟨(some 13), none, (.p .mv), [(.t 0)], none⟩,
    ⟨(some 14), none, (.p .mv), [(.t 5)], none⟩,
    ⟨(some 15), none, (.p .strIndex), [(.t 13), (.t 14)], none⟩,
    ⟨(some 16), none, (.p (.toInt .i32)), [(.t 15)], none⟩,
    ⟨(some 2), none, (.p .mv), [(.t 16)], none⟩])
  (.keep [0, 2, 4, 5] (.seq (.seq (.reg [⟨(some 17), none, (.p .mv), [(.t 2)], none⟩,
    ⟨(some 18), none, (.p (.bin .lss)), [(.t 17), (.c (.int .i32 (.ofNat 128)))], none⟩])
  (.keep [0, 2, 4, 5, 18] (.cond (.t 18)
   (.seq (.reg [⟨(some 19), none, (.p .mv), [(.t 2)], none⟩,
     ⟨(some 2), none, (.p .mv), [(.t 19)], none⟩,
     ⟨(some 3), none, (.p .mv), [(.c (.int .i64 (.ofNat 1)))], none⟩])
   (.keep [2, 3] (.keep [2, 3] .ret)))
   .skip)))
  (.keep [0, 4, 5] (.seq (.reg [⟨(some 20), none, (.p .mv), [(.t 4)], none⟩,
    ⟨(some 21), none, (.p (.bin .sub)), [(.t 20), (.c (.int .i64 (.ofNat 4)))], none⟩,
    ⟨(some 22), none, (.p .max2), [(.t 21), (.c (.int .i64 (.ofNat 0)))], none⟩,
    ⟨(some 6), none, (.p .mv), [(.t 22)], none⟩])
  (.keep [0, 4, 5, 6] (.seq (.seq (.reg [⟨(some 23), none, (.p .mv), [(.t 5)], none⟩,
    ⟨(some 24), none, (.p (.bin .sub)), [(.t 23), (.c (.int .i64 (.ofNat 1)))], none⟩,
    ⟨(some 5), none, (.p .mv), [(.t 24)], none⟩])
  (.keep [0, 4, 5, 6] (.block 0
   (.loop
    (.keep [0, 4, 5, 6] (.seq (.seq (.reg [⟨(some 25), none, (.p .mv), [(.t 5)], none⟩,
      ⟨(some 26), none, (.p .mv), [(.t 6)], none⟩,
      ⟨(some 27), none, (.p (.bin .geq)), [(.t 25), (.t 26)], none⟩])
    (.keep [0, 4, 5, 6, 27] (.cond (.t 27)
     .skip
     (.keep [0, 4, 5] (.exit 0)))))
    (.keep [0, 4, 5, 6] (.seq (.block 1
     (.seq (.reg [⟨(some 30), none, (.p .mv), [(.t 0)], none⟩,
       ⟨(some 31), none, (.p .mv), [(.t 5)], none⟩,
       ⟨(some 32), none, (.p .strIndex), [(.t 30), (.t 31)], none⟩,
       ⟨(some 33), none, (.call 192), [(.t 32)], none⟩])
     (.keep [0, 4, 5, 6, 33] (.cond (.t 33)
      (.keep [0, 4, 5] (.exit 0))
      .skip))))
    (.keep [0, 4, 5, 6] (.reg [⟨(some 28), none, (.p .mv), [(.t 5)], none⟩,
      ⟨(some 29), none, (.p (.bin .sub)), [(.t 28), (.c (.int .i64 (.ofNat 1)))], none⟩,
      ⟨(some 5), none, (.p .mv), [(.t 29)], none⟩]))))))))))
  (.keep [0, 4, 5] (.seq (.seq (.reg [⟨(some 34), none, (.p .mv), [(.t 5)], none⟩,
    ⟨(some 35), none, (.p (.bin .lss)), [(.t 34), (.c (.int .i64 (.ofNat 0)))], none⟩])
  (.keep [0, 4, 5, 35] (.cond (.t 35)
   (.reg [⟨(some 5), none, (.p .mv), [(.c (.int .i64 (.ofNat 0)))], none⟩])
   .skip)))
  (.keep [0, 4, 5] (.seq (.reg [⟨(some 37), none, (.p .mv), [(.t 0)], none⟩,
    ⟨(some 38), none, (.p .mv), [(.t 5)], none⟩,
    ⟨(some 39), none, (.p .mv), [(.t 4)], none⟩,
    ⟨(some 40), none, (.p (.strSlice true true)), [(.t 37), (.t 38), (.t 39)], none⟩,
    ⟨(some 41), none, (.call 172), [(.t 40)], none⟩,
    ⟨(some 36), none, (.p .mv), [(.t 41)], none⟩,
    ⟨(some 42), none, (.p (.extract 0)), [(.t 36)], none⟩,
    ⟨(some 43), none, (.p (.extract 1)), [(.t 36)], none⟩,
    ⟨(some 2), none, (.p .mv), [(.t 42)], none⟩,
    ⟨(some 3), none, (.p .mv), [(.t 43)], none⟩])
  (.keep [2, 3, 4, 5] (.seq (.seq (.reg [⟨(some 44), none, (.p .mv), [(.t 5)], none⟩,
    ⟨(some 45), none, (.p .mv), [(.t 3)], none⟩,
    ⟨(some 46), none, (.p (.bin .add)), [(.t 44), (.t 45)], none⟩,
    ⟨(some 47), none, (.p .mv), [(.t 4)], none⟩,
    ⟨(some 48), none, (.p (.bin .neq)), [(.t 46), (.t 47)], none⟩])
  (.keep [2, 3, 48] (.cond (.t 48)
   (.seq (.reg [⟨(some 2), none, (.p .mv), [(.c (.int .i32 (.ofNat 65533)))], none⟩,
     ⟨(some 3), none, (.p .mv), [(.c (.int .i64 (.ofNat 1)))], none⟩])
   (.keep [2, 3] (.keep [2, 3] .ret)))
   .skip)))
  (.keep [2, 3] (.seq (.reg [⟨(some 49), none, (.p .mv), [(.t 2)], none⟩,
    ⟨(some 50), none, (.p .mv), [(.t 3)], none⟩,
    ⟨(some 2), none, (.p .mv), [(.t 49)], none⟩,
    ⟨(some 3), none, (.p .mv), [(.t 50)], none⟩])
  (.keep [2, 3] (.keep [2, 3] .ret))))))))))))))))))))))))),
  [(.t 2), (.t 3)]⟩
def s173_j1 (call : CallK) (N : Nat) (q : KV) (st : St) (τ : Tape) : Ans :=
  match st with
  | ⟨fr, H⟩ =>
  getK fr 0 fun t0 =>
  getK fr 4 fun t4 =>
  getK fr 5 fun t5 =>
  someK (pStrSlice true true [t0, t5, t4]) fun v10 =>
  call 172 [v10] H τ fun v11 H12 τ13 =>
  someK (pExtract 0 [v11]) fun v14 =>
  someK (pExtract 1 [v11]) fun v15 =>
  binK .add t5 v15 fun v16 =>
  binK .neq v16 t4 fun v17 =>
  condK v17
    (q (.tup [(.int .i32 (.ofNat 65533)), (.int .i64 (.ofNat 1))]) H12 τ13)
    (q (.tup [v14, v15]) H12 τ13)
def s173_j0 (call : CallK) (N : Nat) (q : KV) (st : St) (τ : Tape) : Ans :=
  match st with
  | ⟨fr, H⟩ =>
  getK fr 0 fun t0 =>
  getK fr 4 fun t4 =>
  getK fr 5 fun t5 =>
  binK .lss t5 (.int .i64 (.ofNat 0)) fun v9 =>
  condK v9
    (s173_j1 call N q ⟨(T.set (T.set (T.set (T.set (T.set .leaf 0 t0) 4 t4) 5 t5) 35 v9) 5 (.int .i64 (.ofNat 0))), H⟩ τ)
    (s173_j1 call N q ⟨(T.set (T.set (T.set (T.set .leaf 0 t0) 4 t4) 5 t5) 35 v9), H⟩ τ)
def s173_l2 (call : CallK) (N : Nat) (st : St) (τ : Tape) (k : KC) : Ans :=
  match st with
  | ⟨fr, H⟩ =>
  getK fr 0 fun t0 =>
  getK fr 4 fun t4 =>
  getK fr 5 fun t5 =>
  getK fr 6 fun t6 =>
  binK .geq t5 t6 fun v18 =>
  condK v18
    (someK (pStrIndex [t0, t5]) fun v19 =>
  call 192 [v19] H τ fun v20 H21 τ22 =>
  condK v20
    (k (.exit 0) ⟨(T.set (T.set (T.set .leaf 0 t0) 4 t4) 5 t5), H21⟩ τ22)
    (binK .sub t5 (.int .i64 (.ofNat 1)) fun v23 =>
  k .normal ⟨(T.set (T.set (T.set (T.set (T.set (T.set (T.set .leaf 0 t0) 4 t4) 5 t5) 6 t6) 28 t5) 29 v23) 5 v23), H21⟩ τ22))
    (k (.exit 0) ⟨(T.set (T.set (T.set .leaf 0 t0) 4 t4) 5 t5), H⟩ τ)
def s173 (call : CallK) (N : Nat) (a0 : V) (H : Heap) (τ : Tape) (q : KV) : Ans :=
  someK (pLenS [a0]) fun v0 =>
  binK .eql v0 (.int .i64 (.ofNat 0)) fun v1 =>
  condK v1
    (q (.tup [(.int .i32 (.ofNat 65533)), (.int .i64 (.ofNat 0))]) H τ)
    (binK .sub v0 (.int .i64 (.ofNat 1)) fun v2 =>
  someK (pStrIndex [a0, v2]) fun v3 =>
  toIntK .i32 v3 fun v4 =>
  binK .lss v4 (.int .i32 (.ofNat 128)) fun v5 =>
  condK v5
    (q (.tup [v4, (.int .i64 (.ofNat 1))]) H τ)
    (binK .sub v0 (.int .i64 (.ofNat 4)) fun v6 =>
  someK (pMax [v6, (.int .i64 (.ofNat 0))]) fun v7 =>
  binK .sub v2 (.int .i64 (.ofNat 1)) fun v8 =>
  loopK (s173_l2 call N) N ⟨(T.set (T.set (T.set (T.set .leaf 0 a0) 4 v0) 5 v8) 6 v7), H⟩ τ (blockK 0 (seqK (s173_j0 call N q) (endK [(.t 2), (.t 3)] q)))))
theorem s173_eq (call : CallK) (N : Nat) (a0 : V) (H : Heap) (τ : Tape) (q : KV) : s173 call N a0 H τ q = funK call N fn173 [a0] H τ q := by kernel_rfl
def e173 (call : CallK) (N : Nat) (vs : List V) (H : Heap) (τ : Tape) (q : KV) : Ans := match vs with | [a0] => s173 call N a0 H τ q | _ => none
theorem e173_ok : EntOk fn173 e173 := by
  intro call N vs H τ q r h
  unfold e173 at h
  split at h
  · rw [s173_eq] at h; exact h
  · cases h
/-- slices.siftDownOrdered[string] -/
def fn180 : Fun := ⟨4,
  (.seq (.reg [⟨(some 10), none, (.p .mv), [(.t 1)], none⟩,
    ⟨(some 8), none, (.p .mv), [(.t 10)], none⟩])
  (.keep [0, 2, 3, 8] (.block 0
   (.loop
    (.keep [0, 2, 3, 8] (.block 1
     (.seq (.reg [⟨(some 11), none, (.p .mv), [(.t 8)], none⟩,
       ⟨(some 12), none, (.p (.bin .mul)), [(.c (.int .i64 (.ofNat 2))), (.t 11)], none⟩,
       ⟨(some 13), none, (.p (.bin .add)), [(.t 12), (.c (.int .i64 (.ofNat 1)))], none⟩,
       ⟨(some 9), none, (.p .mv), [(.t 13)], none⟩])
     (.keep [0, 2, 3, 8, 9] (.seq (.seq (.reg [⟨(some 14), none, (.p .mv), [(.t 9)], none⟩,
       ⟨(some 15), none, (.p .mv), [(.t 2)], none⟩,
       ⟨(some 16), none, (.p (.bin .geq)), [(.t 14), (.t 15)], none⟩])
     (.keep [0, 2, 3, 8, 9, 16] (.cond (.t 16)
      (.keep [] (.exit 0))
      .skip)))
     (.keep [0, 2, 3, 8, 9] (.seq (.seq (.draw [⟨(some 17), none, (.p .mv), [(.t 9)], none⟩,
       ⟨(some 18), none, (.p (.bin .add)), [(.t 17), (.c (.int .i64 (.ofNat 1)))], none⟩,
       ⟨(some 19), none, (.p .mv), [(.t 2)], none⟩,
       ⟨(some 20), none, (.p (.bin .lss)), [(.t 18), (.t 19)], none⟩,
       ⟨(some 21), none, (.p .mv), [(.t 20)], none⟩,
       ⟨(some 22), some (21, true), (.p .mv), [(.t 0)], none⟩,
       ⟨(some 23), some (21, true), (.p .mv), [(.t 3)], none⟩,
       ⟨(some 24), some (21, true), (.p .mv), [(.t 9)], none⟩,
       ⟨(some 25), some (21, true), (.p (.bin .add)), [(.t 23), (.t 24)], none⟩,
       ⟨(some 26), some (21, true), (.p (.slIdx 1)), [(.t 22), (.t 25)], none⟩,
       ⟨(some 27), some (21, true), (.l (.load none)), [(.t 26)], none⟩,
       ⟨(some 28), some (21, true), (.p .mv), [(.t 0)], none⟩,
       ⟨(some 29), some (21, true), (.p .mv), [(.t 3)], none⟩,
       ⟨(some 30), some (21, true), (.p .mv), [(.t 9)], none⟩,
       ⟨(some 31), some (21, true), (.p (.bin .add)), [(.t 29), (.t 30)], none⟩,
       ⟨(some 32), some (21, true), (.p (.bin .add)), [(.t 31), (.c (.int .i64 (.ofNat 1)))], none⟩,
       ⟨(some 33), some (21, true), (.p (.slIdx 1)), [(.t 28), (.t 32)], none⟩,
       ⟨(some 34), some (21, true), (.l (.load none)), [(.t 33)], none⟩,
       ⟨(some 35), some (21, true), (.call 156), [(.t 27), (.t 34)], none⟩,
       ⟨(some 36), none, (.p .pick), [(.t 21), (.t 35), (.c (.bool false))], none⟩])
     (.keep [0, 2, 3, 8, 9, 36] (.cond (.t 36)
      (.reg [⟨(some 37), none, (.p .mv), [(.t 9)], none⟩,
        ⟨(some 38), none, (.p (.bin .add)), [(.t 37), (.c (.int .i64 (.ofNat 1)))], none⟩,
        ⟨(some 9), none, (.p .mv), [(.t 38)], none⟩])
      .skip)))
     (.keep [0, 2, 3, 8, 9] (.seq (.seq (.draw [⟨(some 39), none, (.p .mv), [(.t 0)], none⟩,
       ⟨(some 40), none, (.p .mv), [(.t 3)], none⟩,
       ⟨(some 41), none, (.p .mv), [(.t 8)], none⟩,
       ⟨(some 42), none, (.p (.bin .add)), [(.t 40), (.t 41)], none⟩,
       ⟨(some 43), none, (.p (.slIdx 1)), [(.t 39), (.t 42)], none⟩,
       ⟨(some 44), none, (.l (.load none)), [(.t 43)], none⟩,
       ⟨(some 45), none, (.p .mv), [(.t 0)], none⟩,
       ⟨(some 46), none, (.p .mv), [(.t 3)], none⟩,
       ⟨(some 47), none, (.p .mv), [(.t 9)], none⟩,
       ⟨(some 48), none, (.p (.bin .add)), [(.t 46), (.t 47)], none⟩,
       ⟨(some 49), none, (.p (.slIdx 1)), [(.t 45), (.t 48)], none⟩,
       ⟨(some 50), none, (.l (.load none)), [(.t 49)], none⟩,
       ⟨(some 51), none, (.call 156), [(.t 44), (.t 50)], none⟩,
       ⟨(some 52), none, (.p (.un .not)), [(.t 51)], none⟩])
     (.keep [0, 2, 3, 8, 9, 52] (.cond (.t 52)
      (.keep [] .ret)
      .skip)))
     (.keep [0, 2, 3, 8, 9] (.seq (.draw [⟨(some 53), none, (.p .mv), [(.t 0)], none⟩,
       ⟨(some 54), none, (.p .mv), [(.t 3)], none⟩,
       ⟨(some 55), none, (.p .mv), [(.t 8)], none⟩,
       ⟨(some 56), none, (.p (.bin .add)), [(.t 54), (.t 55)], none⟩,
       ⟨(some 57), none, (.p .mv), [(.t 0)], none⟩,
       ⟨(some 58), none, (.p .mv), [(.t 3)], none⟩,
       ⟨(some 59), none, (.p .mv), [(.t 9)], none⟩,
       ⟨(some 60), none, (.p (.bin .add)), [(.t 58), (.t 59)], none⟩,
       ⟨(some 61), none, (.p .mv), [(.t 0)], none⟩,
       ⟨(some 62), none, (.p .mv), [(.t 3)], none⟩,
       ⟨(some 63), none, (.p .mv), [(.t 9)], none⟩,
       ⟨(some 64), none, (.p (.bin .add)), [(.t 62), (.t 63)], none⟩,
       ⟨(some 65), none, (.p (.slIdx 1)), [(.t 61), (.t 64)], none⟩,
       ⟨(some 66), none, (.l (.load none)), [(.t 65)], none⟩,
       ⟨(some 67), none, (.p .mv), [(.t 0)], none⟩,
       ⟨(some 68), none, (.p .mv), [(.t 3)], none⟩,
       ⟨(some 69), none, (.p .mv), [(.t 8)], none⟩,
       ⟨(some 70), none, (.p (.bin .add)), [(.t 68), (.t 69)], none⟩,
       ⟨(some 71), none, (.p (.slIdx 1)), [(.t 67), (.t 70)], none⟩,
       ⟨(some 72), none, (.l (.load none)), [(.t 71)], none⟩,
       ⟨(some 73), none, (.p (.slIdx 1)), [(.t 53), (.t 56)], none⟩,
       ⟨none, none, (.e (.store 1)), [(.t 73), (.t 66)], none⟩,
       ⟨(some 74), none, (.p (.slIdx 1)), [(.t 57), (.t 60)], none⟩,
       ⟨none, none, (.e (.store 1)), [(.t 74), (.t 72)], none⟩])
     (.keep [0, 2, 3, 9] (.reg [⟨(some 75), none, (.p .mv), [(.t 9)], none⟩,
       ⟨(some 8), none, (.p .mv), [(.t 75)], none⟩]))))))))))))))))),
  []⟩
def s180_j1 (call : CallK) (N : Nat) (k : KC) (st : St) (τ : Tape) : Ans :=
  match st with
  | ⟨fr, H⟩ =>
  getK fr 0 fun t0 =>
  getK fr 2 fun t2 =>
  getK fr 3 fun t3 =>
  getK fr 8 fun t8 =>
  getK fr 9 fun t9 =>
  binK .add t3 t8 fun v48 =>
  someK (pSlIdx 1 [t0, v48]) fun v49 =>
  someK (lLoad1 [v49] H) fun v50 =>
  binK .add t3 t9 fun v51 =>
  someK (pSlIdx 1 [t0, v51]) fun v52 =>
  someK (lLoad1 [v52] H) fun v53 =>
  call 156 [v50, v53] H τ fun v54 H55 τ56 =>
  unK .not v54 fun v57 =>
  condK v57
    (k .ret ⟨.leaf, H55⟩ τ56)
    (binK .add t3 t8 fun v58 =>
  binK .add t3 t9 fun v59 =>
  binK .add t3 t9 fun v60 =>
  someK (pSlIdx 1 [t0, v60]) fun v61 =>
  someK (lLoad1 [v61] H55) fun v62 =>
  binK .add t3 t8 fun v63 =>
  someK (pSlIdx 1 [t0, v63]) fun v64 =>
  someK (lLoad1 [v64] H55) fun v65 =>
  someK (pSlIdx 1 [t0, v58]) fun v66 =>
  effK (eStore 1 [v66, v62] H55 τ56) fun v67 H68 τ69 =>
  someK (pSlIdx 1 [t0, v59]) fun v70 =>
  effK (eStore 1 [v70, v65] H68 τ69) fun v71 H72 τ73 =>
  k .normal ⟨(T.set (T.set (T.set (T.set (T.set (T.set .leaf 0 t0) 2 t2) 3 t3) 9 t9) 75 t9) 8 t9), H72⟩ τ73)
def s180_l0 (call : CallK) (N : Nat) (st : St) (τ : Tape) (k : KC) : Ans :=
  match st with
  | ⟨fr, H⟩ =>
  getK fr 0 fun t0 =>
  getK fr 2 fun t2 =>
  getK fr 3 fun t3 =>
  getK fr 8 fun t8 =>
  binK .mul (.int .i64 (.ofNat 2)) t8 fun v0 =>
  binK .add v0 (.int .i64 (.ofNat 1)) fun v1 =>
  binK .geq v1 t2 fun v2 =>
  condK v2
    (k (.exit 0) ⟨.leaf, H⟩ τ)
    (binK .add v1 (.int .i64 (.ofNat 1)) fun v3 =>
  binK .lss v3 t2 fun v4 =>
  gK v4 true (fun q' => q' t0 H τ) H τ fun v5 H6 τ7 =>
  gK v4 true (fun q' => q' t3 H6 τ7) H6 τ7 fun v8 H9 τ10 =>
  gK v4 true (fun q' => q' v1 H9 τ10) H9 τ10 fun v11 H12 τ13 =>
  gK v4 true (fun q' => binK .add v8 v11 fun v => q' v H12 τ13) H12 τ13 fun v14 H15 τ16 =>
  gK v4 true (fun q' => someK (pSlIdx 1 [v5, v14]) fun v => q' v H15 τ16) H15 τ16 fun v17 H18 τ19 =>
  gK v4 true (fun q' => someK (lLoad1 [v17] H18) fun v => q' v H18 τ19) H18 τ19 fun v20 H21 τ22 =>
  gK v4 true (fun q' => q' t0 H21 τ22) H21 τ22 fun v23 H24 τ25 =>
  gK v4 true (fun q' => q' t3 H24 τ25) H24 τ25 fun v26 H27 τ28 =>
  gK v4 true (fun q' => q' v1 H27 τ28) H27 τ28 fun v29 H30 τ31 =>
  gK v4 true (fun q' => binK .add v26 v29 fun v => q' v H30 τ31) H30 τ31 fun v32 H33 τ34 =>
  gK v4 true (fun q' => binK .add v32 (.int .i64 (.ofNat 1)) fun v => q' v H33 τ34) H33 τ34 fun v35 H36 τ37 =>
  gK v4 true (fun q' => someK (pSlIdx 1 [v23, v35]) fun v => q' v H36 τ37) H36 τ37 fun v38 H39 τ40 =>
  gK v4 true (fun q' => someK (lLoad1 [v38] H39) fun v => q' v H39 τ40) H39 τ40 fun v41 H42 τ43 =>
  gK v4 true (fun q' => call 156 [v20, v41] H42 τ43 q') H42 τ43 fun v44 H45 τ46 =>
  someK (pPick [v4, v44, (.bool false)]) fun v47 =>
  condK v47
    (binK .add v1 (.int .i64 (.ofNat 1)) fun v74 =>
  s180_j1 call N k ⟨(T.set (T.set (T.set (T.set (T.set (T.set (T.set (T.set (T.set .leaf 0 t0) 2 t2) 3 t3) 8 t8) 9 v1) 36 v47) 37 v1) 38 v74) 9 v74), H45⟩ τ46)
    (s180_j1 call N k ⟨(T.set (T.set (T.set (T.set (T.set (T.set .leaf 0 t0) 2 t2) 3 t3) 8 t8) 9 v1) 36 v47), H45⟩ τ46))
def s180 (call : CallK) (N : Nat) (a0 a1 a2 a3 : V) (H : Heap) (τ : Tape) (q : KV) : Ans :=
  loopK (s180_l0 call N) N ⟨(T.set (T.set (T.set (T.set .leaf 0 a0) 2 a2) 3 a3) 8 a1), H⟩ τ (blockK 0 (endK [] q))
theorem s180_eq (call : CallK) (N : Nat) (a0 a1 a2 a3 : V) (H : Heap) (τ : Tape) (q : KV) : s180 call N a0 a1 a2 a3 H τ q = funK call N fn180 [a0, a1, a2, a3] H τ q := by kernel_rfl
def e180 (call : CallK) (N : Nat) (vs : List V) (H : Heap) (τ : Tape) (q : KV) : Ans := match vs with | [a0, a1, a2, a3] => s180 call N a0 a1 a2 a3 H τ q | _ => none
theorem e180_ok : EntOk fn180 e180 := by
  intro call N vs H τ q r h
  unfold e180 at h
  split at h
  · rw [s180_eq] at h; exact h
  · cases h
/-- slices.nextPowerOfTwo -/
def fn181 : Fun := ⟨1,
  (.seq (.reg [⟨(some 2), none, (.p .mv), [(.c (.int .u64 (.ofNat 0)))], none⟩])
  (.keep [0] (.seq (.reg [⟨(some 3), none, (.p .mv), [(.t 0)], none⟩,
    ⟨(some 4), none, (.p (.toInt .u64)), [(.t 3)], none⟩,
    ⟨(some 5), none, (.call 123), [(.t 4)], none⟩,
    ⟨(some 6), none, (.p (.bin .shl)), [(.c (.int .u64 (.ofNat 1))), (.t 5)], none⟩,
    ⟨(some 2), none, (.p .mv), [(.t 6)], none⟩])
  (.keep [2] (.keep [2] .ret))))),
  [(.t 2)]⟩
def s181 (call : CallK) (N : Nat) (a0 : V) (H : Heap) (τ : Tape) (q : KV) : Ans :=
  toIntK .u64 a0 fun v0 =>
  call 123 [v0] H τ fun v1 H2 τ3 =>
  binK .shl (.int .u64 (.ofNat 1)) v1 fun v4 =>
  q v4 H2 τ3
theorem s181_eq (call : CallK) (N : Nat) (a0 : V) (H : Heap) (τ : Tape) (q : KV) : s181 call N a0 H τ q = funK call N fn181 [a0] H τ q := by kernel_rfl
def e181 (call : CallK) (N : Nat) (vs : List V) (H : Heap) (τ : Tape) (q : KV) : Ans := match vs with | [a0] => s181 call N a0 H τ q | _ => none
theorem e181_ok : EntOk fn181 e181 := by
  intro call N vs H τ q r h
  unfold e181 at h
  split at h
  · rw [s181_eq] at h; exact h
  · cases h
/-- (*slices.xorshift).Next -/
def fn182 : Fun := ⟨1,
  (.seq (.reg [⟨(some 2), none, (.p .mv), [(.c (.int .u64 (.ofNat 0)))], none⟩])
  (.keep [0] (.seq (.draw [⟨(some 3), none, (.p .mv), [(.t 0)], none⟩,
    ⟨(some 4), none, (.p .nilck), [(.t 3)], none⟩,
    ⟨(some 5), none, (.l (.load none)), [(.t 4)], none⟩,
    ⟨(some 6), none, (.p .mv), [(.t 0)], none⟩,
    ⟨(some 7), none, (.p .nilck), [(.t 6)], none⟩,
    ⟨(some 8), none, (.l (.load none)), [(.t 7)], none⟩,
    ⟨(some 9), none, (.p (.bin .shl)), [(.t 8), (.c (.int .u64 (.ofNat 13)))], none⟩,
    ⟨(some 10), none, (.p (.bin .xor)), [(.t 5), (.t 9)], none⟩,
    ⟨(some 11), none, (.p .nilck), [(.t 3)], none⟩,
    ⟨none, none, (.e (.store 1)), [(.t 11), (.t 10)], none⟩])
  (.keep [0] (.seq (.draw [⟨(some 12), none, (.p .mv), [(.t 0)], none⟩,
    ⟨(some 13), none, (.p .nilck), [(.t 12)], none⟩,
    ⟨(some 14), none, (.l (.load none)), [(.t 13)], none⟩,
    ⟨(some 15), none, (.p .mv), [(.t 0)], none⟩,
    ⟨(some 16), none, (.p .nilck), [(.t 15)], none⟩,
    ⟨(some 17), none, (.l (.load none)), [(.t 16)], none⟩,
    ⟨(some 18), none, (.p (.bin .shr)), [(.t 17), (.c (.int .u64 (.ofNat 7)))], none⟩,
    ⟨(some 19), none, (.p (.bin .xor)), [(.t 14), (.t 18)], none⟩,
    ⟨(some 20), none, (.p .nilck), [(.t 12)], none⟩,
    ⟨none, none, (.e (.store 1)), [(.t 20), (.t 19)], none⟩])
  (.keep [0] (.seq (.draw [⟨(some 21), none, (.p .mv), [(.t 0)], none⟩,
    ⟨(some 22), none, (.p .nilck), [(.t 21)], none⟩,
    ⟨(some 23), none, (.l (.load none)), [(.t 22)], none⟩,
    ⟨(some 24), none, (.p .mv), [(.t 0)], none⟩,
    ⟨(some 25), none, (.p .nilck), [(.t 24)], none⟩,
    ⟨(some 26), none, (.l (.load none)), [(.t 25)], none⟩,
    ⟨(some 27), none, (.p (.bin .shl)), [(.t 26), (.c (.int .u64 (.ofNat 17)))], none⟩,
    ⟨(some 28), none, (.p (.bin .xor)), [(.t 23), (.t 27)], none⟩,
    ⟨(some 29), none, (.p .nilck), [(.t 21)], none⟩,
    ⟨none, none, (.e (.store 1)), [(.t 29), (.t 28)], none⟩])
  (.keep [0] (.seq (.reg [⟨(some 30), none, (.p .mv), [(.t 0)], none⟩,
    ⟨(some 31), none, (.p .nilck), [(.t 30)], none⟩,
    ⟨(some 32), none, (.l (.load none)), [(.t 31)], none⟩,
    ⟨(some 2), none, (.p .mv), [(.t 32)], none⟩])
  (.keep [2] (.keep [2] .ret))))))))))),
  [(.t 2)]⟩
def s182 (call : CallK) (N : Nat) (a0 : V) (H : Heap) (τ : Tape) (q : KV) : Ans :=
  someK (pNilck [a0]) fun v0 =>
  someK (lLoad1 [v0] H) fun v1 =>
  someK (pNilck [a0]) fun v2 =>
  someK (lLoad1 [v2] H) fun v3 =>
  binK .shl v3 (.int .u64 (.ofNat 13)) fun v4 =>
  binK .xor v1 v4 fun v5 =>
  someK (pNilck [a0]) fun v6 =>
  effK (eStore 1 [v6, v5] H τ) fun v7 H8 τ9 =>
  someK (pNilck [a0]) fun v10 =>
  someK (lLoad1 [v10] H8) fun v11 =>
  someK (pNilck [a0]) fun v12 =>
  someK (lLoad1 [v12] H8) fun v13 =>
  binK .shr v13 (.int .u64 (.ofNat 7)) fun v14 =>
  binK .xor v11 v14 fun v15 =>
  someK (pNilck [a0]) fun v16 =>
  effK (eStore 1 [v16, v15] H8 τ9) fun v17 H18 τ19 =>
  someK (pNilck [a0]) fun v20 =>
  someK (lLoad1 [v20] H18) fun v21 =>
  someK (pNilck [a0]) fun v22 =>
  someK (lLoad1 [v22] H18) fun v23 =>
  binK .shl v23 (.int .u64 (.ofNat 17)) fun v24 =>
  binK .xor v21 v24 fun v25 =>
  someK (pNilck [a0]) fun v26 =>
  effK (eStore 1 [v26, v25] H18 τ19) fun v27 H28 τ29 =>
  someK (pNilck [a0]) fun v30 =>
  someK (lLoad1 [v30] H28) fun v31 =>
  q v31 H28 τ29
theorem s182_eq (call : CallK) (N : Nat) (a0 : V) (H : Heap) (τ : Tape) (q : KV) : s182 call N a0 H τ q = funK call N fn182 [a0] H τ q := by kernel_rfl
def e182 (call : CallK) (N : Nat) (vs : List V) (H : Heap) (τ : Tape) (q : KV) : Ans := match vs with | [a0] => s182 call N a0 H τ q | _ => none
theorem e182_ok : EntOk fn182 e182 := by
  intro call N vs H τ q r h
  unfold e182 at h
  split at h
  · rw [s182_eq] at h; exact h
  · cases h
/-- slices.medianAdjacentOrdered[string] -/
def fn183 : Fun := ⟨3,
  (.seq (.reg [⟨(some 6), none, (.p .mv), [(.c (.int .i64 (.ofNat 0)))], none⟩])
  (.keep [0, 1, 2] (.seq (.reg [⟨(some 7), none, (.p .mv), [(.t 0)], none⟩,
    ⟨(some 8), none, (.p .mv), [(.t 1)], none⟩,
    ⟨(some 9), none, (.p (.bin .sub)), [(.t 8), (.c (.int .i64 (.ofNat 1)))], none⟩,
    ⟨(some 10), none, (.p .mv), [(.t 1)], none⟩,
    ⟨(some 11), none, (.p .mv), [(.t 1)], none⟩,
    ⟨(some 12), none, (.p (.bin .add)), [(.t 11), (.c (.int .i64 (.ofNat 1)))], none⟩,
    ⟨(some 13), none, (.p .mv), [(.t 2)], none⟩,
    ⟨(some 14), none, (.call 184), [(.t 7), (.t 9), (.t 10), (.t 12), (.t 13)], none⟩,
    ⟨(some 6), none, (.p .mv), [(.t 14)], none⟩])
  (.keep [6] (.keep [6] .ret))))),
  [(.t 6)]⟩
def s183 (call : CallK) (N : Nat) (a0 a1 a2 : V) (H : Heap) (τ : Tape) (q : KV) : Ans :=
  binK .sub a1 (.int .i64 (.ofNat 1)) fun v0 =>
  binK .add a1 (.int .i64 (.ofNat 1)) fun v1 =>
  call 184 [a0, v0, a1, v1, a2] H τ fun v2 H3 τ4 =>
  q v2 H3 τ4
theorem s183_eq (call : CallK) (N : Nat) (a0 a1 a2 : V) (H : Heap) (τ : Tape) (q : KV) : s183 call N a0 a1 a2 H τ q = funK call N fn183 [a0, a1, a2] H τ q := by kernel_rfl
def e183 (call : CallK) (N : Nat) (vs : List V) (H : Heap) (τ : Tape) (q : KV) : Ans := match vs with | [a0, a1, a2] => s183 call N a0 a1 a2 H τ q | _ => none
theorem e183_ok : EntOk fn183 e183 := by
  intro call N vs H τ q r h
  unfold e183 at h
  split at h
  · rw [s183_eq] at h; exact h
  · cases h
/-- slices.medianOrdered[string] -/
def fn184 : Fun := ⟨5,
  (.seq (.reg [⟨(some 10), none, (.p .mv), [(.c (.int .i64 (.ofNat 0)))], none⟩])
  (.keep [0, 1, 2, 3, 4] (.seq (.reg [⟨(some 12), none, (.p .mv), [(.t 0)], none⟩,
    ⟨(some 13), none, (.p .mv), [(.t 1)], none⟩,
    ⟨(some 14), none, (.p .mv), [(.t 2)], none⟩,
    ⟨(some 15), none, (.p .mv), [(.t 4)], none⟩,
    ⟨(some 16), none, (.call 198), [(.t 12), (.t 13), (.t 14), (.t 15)], none⟩,
    ⟨(some 11), none, (.p .mv), [(.t 16)], none⟩,
    ⟨(some 17), none, (.p (.extract 0)), [(.t 11)], none⟩,
    ⟨(some 18), none, (.p (.extract 1)), [(.t 11)], none⟩,
    ⟨(some 1), none, (.p .mv), [(.t 17)], none⟩,
    ⟨(some 2), none, (.p .mv), [(.t 18)], none⟩])
  (.keep [0, 1, 2, 3, 4] (.seq (.reg [⟨(some 20), none, (.p .mv), [(.t 0)], none⟩,
    ⟨(some 21), none, (.p .mv), [(.t 2)], none⟩,
    ⟨(some 22), none, (.p .mv), [(.t 3)], none⟩,
    ⟨(some 23), none, (.p .mv), [(.t 4)], none⟩,
    ⟨(some 24), none, (.call 198), [(.t 20), (.t 21), (.t 22), (.t 23)], none⟩,
    ⟨(some 19), none, (.p .mv), [(.t 24)], none⟩,
    ⟨(some 25), none, (.p (.extract 0)), [(.t 19)], none⟩,
    ⟨(some 26), none, (.p (.extract 1)), [(.t 19)], none⟩,
    ⟨(some 2), none, (.p .mv), [(.t 25)], none⟩,
    ⟨(some 3), none, (.p .mv), [(.t 26)], none⟩])
  (.keep [0, 1, 2, 4] (.seq (.reg [⟨(some 28), none, (.p .mv), [(.t 0)], none⟩,
    ⟨(some 29), none, (.p .mv), [(.t 1)], none⟩,
    ⟨(some 30), none, (.p .mv), [(.t 2)], none⟩,
    ⟨(some 31), none, (.p .mv), [(.t 4)], none⟩,
    ⟨(some 32), none, (.call 198), [(.t 28), (.t 29), (.t 30), (.t 31)], none⟩,
    ⟨(some 27), none, (.p .mv), [(.t 32)], none⟩,
    ⟨(some 33), none, (.p (.extract 0)), [(.t 27)], none⟩,
    ⟨(some 34), none, (.p (.extract 1)), [(.t 27)], none⟩,
    ⟨(some 1), none, (.p .mv), [(.t 33)], none⟩,
    ⟨(some 2), none, (.p .mv), [(.t 34)], none⟩])
  (.keep [2] (.seq (.reg [⟨(some 35), none, (.p .mv), [(.t 2)], none⟩,
    ⟨(some 10), none, (.p .mv), [(.t 35)], none⟩])
  (.keep [10] (.keep [10] .ret))))))))))),
  [(.t 10)]⟩
def s184 (call : CallK) (N : Nat) (a0 a1 a2 a3 a4 : V) (H : Heap) (τ : Tape) (q : KV) : Ans :=
  call 198 [a0, a1, a2, a4] H τ fun v0 H1 τ2 =>
  someK (pExtract 0 [v0]) fun v3 =>
  someK (pExtract 1 [v0]) fun v4 =>
  call 198 [a0, v4, a3, a4] H1 τ2 fun v5 H6 τ7 =>
  someK (pExtract 0 [v5]) fun v8 =>
  someK (pExtract 1 [v5]) fun v9 =>
  call 198 [a0, v3, v8, a4] H6 τ7 fun v10 H11 τ12 =>
  someK (pExtract 0 [v10]) fun v13 =>
  someK (pExtract 1 [v10]) fun v14 =>
  q v14 H11 τ12
theorem s184_eq (call : CallK) (N : Nat) (a0 a1 a2 a3 a4 : V) (H : Heap) (τ : Tape) (q : KV) : s184 call N a0 a1 a2 a3 a4 H τ q = funK call N fn184 [a0, a1, a2, a3, a4] H τ q := by kernel_rfl
def e184 (call : CallK) (N : Nat) (vs : List V) (H : Heap) (τ : Tape) (q : KV) : Ans := match vs with | [a0, a1, a2, a3, a4] => s184 call N a0 a1 a2 a3 a4 H τ q | _ => none
theorem e184_ok : EntOk fn184 e184 := by
  intro call N vs H τ q r h
  unfold e184 at h
  split at h
  · rw [s184_eq] at h; exact h
  · cases h
/-- cmp.isNaN[string] -/
def fn185 : Fun := ⟨1,
  (.seq (.reg [⟨(some 2), none, (.p .mv), [(.c (.bool false))], none⟩])
  (.keep [0] (.seq (.reg [⟨(some 3), none, (.p .mv), [(.t 0)], none⟩,
    ⟨(some 4), none, (.p .mv), [(.t 0)], none⟩,
    ⟨(some 5), none, (.p (.bin .neq)), [(.t 3), (.t 4)], none⟩,
    ⟨(some 2), none, (.p .mv), [(.t 5)], none⟩])
  (.keep [2] (.keep [2] .ret))))),
  [(.t 2)]⟩
def s185 (call : CallK) (N : Nat) (a0 : V) (H : Heap) (τ : Tape) (q : KV) : Ans :=
  binK .neq a0 a0 fun v0 =>
  q v0 H τ
theorem s185_eq (call : CallK) (N : Nat) (a0 : V) (H : Heap) (τ : Tape) (q : KV) : s185 call N a0 H τ q = funK call N fn185 [a0] H τ q := by kernel_rfl
def e185 (call : CallK) (N : Nat) (vs : List V) (H : Heap) (τ : Tape) (q : KV) : Ans := match vs with | [a0] => s185 call N a0 H τ q | _ => none
theorem e185_ok : EntOk fn185 e185 := by
  intro call N vs H τ q r h
  unfold e185 at h
  split at h
  · rw [s185_eq] at h; exact h
  · cases h
end Go.Am.AmTrydAgeNumbers
