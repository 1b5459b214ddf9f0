/- The abstract machine, printed functions of the program, and what they are shown to be. -/
import Derived.Test.YtpigmhokjbbffaaDoorHCSh0
import Derived.Test.YtpigmhokjbbffaaDoorHCM3
import Derived.KernelRfl
namespace Go.Am.X
set_option maxRecDepth 1000000
set_option linter.unusedVariables false
/-- strings.trimRightByte -/
def fn_strings_trimRightByte : Fun := ⟨2,
  (.seq (.reg [⟨(some 4), none, (.p .mv), [(.c (.str []))], none⟩])
  (.keep [0, 1] (.seq (.block 0
   (.loop
    (.keep [0, 1] (.seq (.seq (.reg [⟨(some 5), none, (.p .mv), [(.t 0)], none⟩,
      ⟨(some 6), none, (.p .lenS), [(.t 5)], none⟩,
      ⟨(some 7), none, (.p (.bin .gtr)), [(.t 6), (.c (.int .i64 (.ofNat 0)))], none⟩,
      ⟨(some 8), none, (.p .mv), [(.t 7)], none⟩,
      ⟨(some 9), some (8, true), (.p .mv), [(.t 0)], none⟩,
      ⟨(some 10), some (8, true), (.p .mv), [(.t 0)], none⟩,
      ⟨(some 11), some (8, true), (.p .lenS), [(.t 10)], none⟩,
      ⟨(some 12), some (8, true), (.p (.bin .sub)), [(.t 11), (.c (.int .i64 (.ofNat 1)))], none⟩,
      ⟨(some 13), some (8, true), (.p .strIndex), [(.t 9), (.t 12)], none⟩,
      ⟨(some 14), some (8, true), (.p .mv), [(.t 1)], none⟩,
      ⟨(some 15), some (8, true), (.p (.bin .eql)), [(.t 13), (.t 14)], none⟩,
      ⟨(some 16), none, (.p .pick), [(.t 8), (.t 15), (.c (.bool false))], none⟩])
    (.keep [0, 1, 16] (.cond (.t 16)
     .skip
     (.keep [0] (.exit 0)))))
    (.keep [0, 1] (.block 1
     (.reg [⟨(some 17), none, (.p .mv), [(.t 0)], none⟩,
       ⟨(some 18), none, (.p .mv), [(.t 0)], none⟩,
       ⟨(some 19), none, (.p .lenS), [(.t 18)], none⟩,
       ⟨(some 20), none, (.p (.bin .sub)), [(.t 19), (.c (.int .i64 (.ofNat 1)))], none⟩,
       ⟨(some 21), none, (.p (.strSlice false true)), [(.t 17), (.t 20)], none⟩,
       ⟨(some 0), none, (.p .mv), [(.t 21)], none⟩])))))))
  (.keep [0] (.seq (.reg [⟨(some 22), none, (.p .mv), [(.t 0)], none⟩,
    ⟨(some 4), none, (.p .mv), [(.t 22)], none⟩])
  (.keep [4] (.keep [4] .ret))))))),
  [(.t 4)]⟩
def s_strings_trimRightByte_j0 (call : CallK) (N : Nat) (q : KV) (st : St) (τ : Tape) : Ans :=
  match st with
  | ⟨fr, H⟩ =>
  getK fr 0 fun t0 =>
  q t0 H τ
def s_strings_trimRightByte_l1 (call : CallK) (N : Nat) (st : St) (τ : Tape) (k : KC) : Ans :=
  match st with
  | ⟨fr, H⟩ =>
  getK fr 0 fun t0 =>
  getK fr 1 fun t1 =>
  someK (pLenS [t0]) fun v0 =>
  binK .gtr v0 (.int .i64 (.ofNat 0)) fun v1 =>
  gK v1 true (fun q' => q' t0 H τ) H τ fun v2 H3 τ4 =>
  gK v1 true (fun q' => q' t0 H3 τ4) H3 τ4 fun v5 H6 τ7 =>
  gK v1 true (fun q' => someK (pLenS [v5]) fun v => q' v H6 τ7) H6 τ7 fun v8 H9 τ10 =>
  gK v1 true (fun q' => binK .sub v8 (.int .i64 (.ofNat 1)) fun v => q' v H9 τ10) H9 τ10 fun v11 H12 τ13 =>
  gK v1 true (fun q' => someK (pStrIndex [v2, v11]) fun v => q' v H12 τ13) H12 τ13 fun v14 H15 τ16 =>
  gK v1 true (fun q' => q' t1 H15 τ16) H15 τ16 fun v17 H18 τ19 =>
  gK v1 true (fun q' => binK .eql v14 v17 fun v => q' v H18 τ19) H18 τ19 fun v20 H21 τ22 =>
  someK (pPick [v1, v20, (.bool false)]) fun v23 =>
  condK v23
    (someK (pLenS [t0]) fun v24 =>
  binK .sub v24 (.int .i64 (.ofNat 1)) fun v25 =>
  someK (pStrSlice false true [t0, v25]) fun v26 =>
  k .normal ⟨(T.set (T.set (T.set (T.set (T.set (T.set (T.set (T.set .leaf 0 t0) 1 t1) 17 t0) 18 t0) 19 v24) 20 v25) 21 v26) 0 v26), H21⟩ τ22)
    (k (.exit 0) ⟨(T.set .leaf 0 t0), H21⟩ τ22)
def s_strings_trimRightByte (call : CallK) (N : Nat) (a0 a1 : V) (H : Heap) (τ : Tape) (q : KV) : Ans :=
  loopK (s_strings_trimRightByte_l1 call N) N ⟨(T.set (T.set .leaf 0 a0) 1 a1), H⟩ τ (blockK 0 (seqK (s_strings_trimRightByte_j0 call N q) (endK [(.t 4)] q)))
theorem s_strings_trimRightByte_eq (call : CallK) (N : Nat) (a0 a1 : V) (H : Heap) (τ : Tape) (q : KV) : s_strings_trimRightByte call N a0 a1 H τ q = funK call N fn_strings_trimRightByte [a0, a1] H τ q := by kernel_rfl
def e_strings_trimRightByte (call : CallK) (N : Nat) (vs : List V) (H : Heap) (τ : Tape) (q : KV) : Ans := match vs with | [a0, a1] => s_strings_trimRightByte call N a0 a1 H τ q | _ => none
theorem e_strings_trimRightByte_ok : EntOk fn_strings_trimRightByte e_strings_trimRightByte := by
  intro call N vs H τ q r h
  unfold e_strings_trimRightByte at h
  split at h
  · rw [s_strings_trimRightByte_eq] at h; exact h
  · cases h
theorem e_strings_trimRightByte_nat : EntNat e_strings_trimRightByte := by
  intro c hn N vs H τ q
  unfold e_strings_trimRightByte
  split
  · rw [s_strings_trimRightByte_eq, s_strings_trimRightByte_eq]; exact funK_ent hn _ _ _ _ _ _
  · rfl
/-- strings.makeASCIISet -/
def fn_strings_makeASCIISet : Fun := ⟨1,
  (.seq (.reg [⟨(some 2), none, (.e (.alloc (repl 256 [(.bool false)]))), [], none⟩,
    ⟨(some 3), none, (.p .mv), [(.c (.bool false))], none⟩])
  (.keep [0, 2] (.seq (.seq (.reg [⟨(some 4), none, (.p .mv), [(.c (.int .i64 (.ofNat 0)))], none⟩])
  (.keep [0, 2, 4] (.block 0
   (.loop
    (.keep [0, 2, 4] (.seq (.seq (.reg [⟨(some 6), none, (.p .mv), [(.t 4)], none⟩,
      ⟨(some 7), none, (.p .mv), [(.t 0)], none⟩,
      ⟨(some 8), none, (.p .lenS), [(.t 7)], none⟩,
      ⟨(some 9), none, (.p (.bin .lss)), [(.t 6), (.t 8)], none⟩])
    (.keep [0, 2, 4, 9] (.cond (.t 9)
     .skip
     (.keep [2] (.exit 0)))))
    (.keep [0, 2, 4] (.seq (.block 1
     (.seq (.reg [⟨(some 12), none, (.p .mv), [(.t 0)], none⟩,
       ⟨(some 13), none, (.p .mv), [(.t 4)], none⟩,
       ⟨(some 14), none, (.p .strIndex), [(.t 12), (.t 13)], none⟩,
       ⟨(some 5), none, (.p .mv), [(.t 14)], none⟩])
     (.keep [0, 2, 4, 5] (.seq (.seq (.reg [⟨(some 15), none, (.p .mv), [(.t 5)], none⟩,
       ⟨(some 16), none, (.p (.bin .geq)), [(.t 15), (.c (.int .u8 (.ofNat 128)))], none⟩])
     (.keep [0, 2, 4, 5, 16] (.cond (.t 16)
      (.seq (.reg [⟨(some 17), none, (.l (.load (some 256))), [(.t 2)], none⟩,
        ⟨none, none, (.e (.store 256)), [(.t 2), (.t 17)], none⟩,
        ⟨(some 3), none, (.p .mv), [(.c (.bool false))], none⟩])
      (.keep [2, 3] (.keep [2, 3] .ret)))
      .skip)))
     (.keep [0, 2, 4, 5] (.reg [⟨(some 18), none, (.p .mv), [(.t 5)], none⟩,
       ⟨(some 19), none, (.p (.arrIdx 256 1)), [(.t 2), (.t 18)], none⟩,
       ⟨none, none, (.e (.store 1)), [(.t 19), (.c (.bool true))], none⟩]))))))
    (.keep [0, 2, 4] (.reg [⟨(some 10), none, (.p .mv), [(.t 4)], none⟩,
      ⟨(some 11), none, (.p (.bin .add)), [(.t 10), (.c (.int .i64 (.ofNat 1)))], none⟩,
      ⟨(some 4), none, (.p .mv), [(.t 11)], none⟩]))))))))))
  (.keep [2] (.seq (.reg [⟨(some 20), none, (.l (.load (some 256))), [(.t 2)], none⟩,
    ⟨none, none, (.e (.store 256)), [(.t 2), (.t 20)], none⟩,
    ⟨(some 3), none, (.p .mv), [(.c (.bool true))], none⟩])
  (.keep [2, 3] (.keep [2, 3] .ret))))))),
  [(.cell 2 (some 256)), (.t 3)]⟩
def s_strings_makeASCIISet_j0 (call : CallK) (N : Nat) (q : KV) (st : St) (τ : Tape) : Ans :=
  match st with
  | ⟨fr, H⟩ =>
  getK fr 2 fun t2 =>
  someK (lLoadN 256 [t2] H) fun v3 =>
  effK (eStore 256 [t2, v3] H τ) fun v4 H5 τ6 =>
  someK (results ⟨(T.set (T.set .leaf 2 t2) 3 (.bool true)), H5⟩ [(.cell 2 (some 256)), (.t 3)]) fun v => q v H5 τ6
def s_strings_makeASCIISet_l1 (call : CallK) (N : Nat) (st : St) (τ : Tape) (k : KC) : Ans :=
  match st with
  | ⟨fr, H⟩ =>
  getK fr 0 fun t0 =>
  getK fr 2 fun t2 =>
  getK fr 4 fun t4 =>
  someK (pLenS [t0]) fun v7 =>
  binK .lss t4 v7 fun v8 =>
  condK v8
    (someK (pStrIndex [t0, t4]) fun v9 =>
  binK .geq v9 (.int .u8 (.ofNat 128)) fun v10 =>
  condK v10
    (someK (lLoadN 256 [t2] H) fun v11 =>
  effK (eStore 256 [t2, v11] H τ) fun v12 H13 τ14 =>
  k .ret ⟨(T.set (T.set .leaf 2 t2) 3 (.bool false)), H13⟩ τ14)
    (someK (pArrIdx 256 1 [t2, v9]) fun v15 =>
  effK (eStore 1 [v15, (.bool true)] H τ) fun v16 H17 τ18 =>
  binK .add t4 (.int .i64 (.ofNat 1)) fun v19 =>
  k .normal ⟨(T.set (T.set (T.set (T.set (T.set (T.set .leaf 0 t0) 2 t2) 4 t4) 10 t4) 11 v19) 4 v19), H17⟩ τ18))
    (k (.exit 0) ⟨(T.set .leaf 2 t2), H⟩ τ)
def s_strings_makeASCIISet (call : CallK) (N : Nat) (a0 : V) (H : Heap) (τ : Tape) (q : KV) : Ans :=
  effK (eAlloc (repl 256 [(.bool false)]) [] H τ) fun v0 H1 τ2 =>
  loopK (s_strings_makeASCIISet_l1 call N) N ⟨(T.set (T.set (T.set .leaf 0 a0) 2 v0) 4 (.int .i64 (.ofNat 0))), H1⟩ τ2 (blockK 0 (seqK (s_strings_makeASCIISet_j0 call N q) (endK [(.cell 2 (some 256)), (.t 3)] q)))
theorem s_strings_makeASCIISet_eq (call : CallK) (N : Nat) (a0 : V) (H : Heap) (τ : Tape) (q : KV) : s_strings_makeASCIISet call N a0 H τ q = funK call N fn_strings_makeASCIISet [a0] H τ q := by kernel_rfl
def e_strings_makeASCIISet (call : CallK) (N : Nat) (vs : List V) (H : Heap) (τ : Tape) (q : KV) : Ans := match vs with | [a0] => s_strings_makeASCIISet call N a0 H τ q | _ => none
theorem e_strings_makeASCIISet_ok : EntOk fn_strings_makeASCIISet e_strings_makeASCIISet := by
  intro call N vs H τ q r h
  unfold e_strings_makeASCIISet at h
  split at h
  · rw [s_strings_makeASCIISet_eq] at h; exact h
  · cases h
theorem e_strings_makeASCIISet_nat : EntNat e_strings_makeASCIISet := by
  intro c hn N vs H τ q
  unfold e_strings_makeASCIISet
  split
  · rw [s_strings_makeASCIISet_eq, s_strings_makeASCIISet_eq]; exact funK_ent hn _ _ _ _ _ _
  · rfl
/-- strings.trimLeftASCII -/
def fn_strings_trimLeftASCII : Fun := ⟨2,
  (.seq (.reg [⟨(some 4), none, (.p .mv), [(.c (.str []))], none⟩])
  (.keep [0, 1] (.seq (.block 0
   (.loop
    (.keep [0, 1] (.seq (.seq (.reg [⟨(some 5), none, (.p .mv), [(.t 0)], none⟩,
      ⟨(some 6), none, (.p .lenS), [(.t 5)], none⟩,
      ⟨(some 7), none, (.p (.bin .gtr)), [(.t 6), (.c (.int .i64 (.ofNat 0)))], none⟩])
    (.keep [0, 1, 7] (.cond (.t 7)
     .skip
     (.keep [0] (.exit 0)))))
    (.keep [0, 1] (.block 1
     (.seq (.seq (.reg [⟨(some 8), none, (.p .mv), [(.t 1)], none⟩,
       ⟨(some 9), none, (.p .mv), [(.t 0)], none⟩,
       ⟨(some 10), none, (.p .strIndex), [(.t 9), (.c (.int .i64 (.ofNat 0)))], none⟩,
       ⟨(some 11), none, (.call 81), [(.t 8), (.t 10)], none⟩,
       ⟨(some 12), none, (.p (.un .not)), [(.t 11)], none⟩])
     (.keep [0, 1, 12] (.cond (.t 12)
      (.keep [0] (.exit 0))
      .skip)))
     (.keep [0, 1] (.reg [⟨(some 13), none, (.p .mv), [(.t 0)], none⟩,
       ⟨(some 14), none, (.p (.strSlice true false)), [(.t 13), (.c (.int .i64 (.ofNat 1)))], none⟩,
       ⟨(some 0), none, (.p .mv), [(.t 14)], none⟩])))))))))
  (.keep [0] (.seq (.reg [⟨(some 15), none, (.p .mv), [(.t 0)], none⟩,
    ⟨(some 4), none, (.p .mv), [(.t 15)], none⟩])
  (.keep [4] (.keep [4] .ret))))))),
  [(.t 4)]⟩
def s_strings_trimLeftASCII_j0 (call : CallK) (N : Nat) (q : KV) (st : St) (τ : Tape) : Ans :=
  match st with
  | ⟨fr, H⟩ =>
  getK fr 0 fun t0 =>
  q t0 H τ
def s_strings_trimLeftASCII_l1 (call : CallK) (N : Nat) (st : St) (τ : Tape) (k : KC) : Ans :=
  match st with
  | ⟨fr, H⟩ =>
  getK fr 0 fun t0 =>
  getK fr 1 fun t1 =>
  someK (pLenS [t0]) fun v0 =>
  binK .gtr v0 (.int .i64 (.ofNat 0)) fun v1 =>
  condK v1
    (someK (pStrIndex [t0, (.int .i64 (.ofNat 0))]) fun v2 =>
  call f_asciiSet_contains [t1, v2] H τ fun v3 H4 τ5 =>
  unK .not v3 fun v6 =>
  condK v6
    (k (.exit 0) ⟨(T.set .leaf 0 t0), H4⟩ τ5)
    (someK (pStrSlice true false [t0, (.int .i64 (.ofNat 1))]) fun v7 =>
  k .normal ⟨(T.set (T.set (T.set (T.set (T.set .leaf 0 t0) 1 t1) 13 t0) 14 v7) 0 v7), H4⟩ τ5))
    (k (.exit 0) ⟨(T.set .leaf 0 t0), H⟩ τ)
def s_strings_trimLeftASCII (call : CallK) (N : Nat) (a0 a1 : V) (H : Heap) (τ : Tape) (q : KV) : Ans :=
  loopK (s_strings_trimLeftASCII_l1 call N) N ⟨(T.set (T.set .leaf 0 a0) 1 a1), H⟩ τ (blockK 0 (seqK (s_strings_trimLeftASCII_j0 call N q) (endK [(.t 4)] q)))
theorem s_strings_trimLeftASCII_eq (call : CallK) (N : Nat) (a0 a1 : V) (H : Heap) (τ : Tape) (q : KV) : s_strings_trimLeftASCII call N a0 a1 H τ q = funK call N fn_strings_trimLeftASCII [a0, a1] H τ q := by kernel_rfl
def e_strings_trimLeftASCII (call : CallK) (N : Nat) (vs : List V) (H : Heap) (τ : Tape) (q : KV) : Ans := match vs with | [a0, a1] => s_strings_trimLeftASCII call N a0 a1 H τ q | _ => none
theorem e_strings_trimLeftASCII_ok : EntOk fn_strings_trimLeftASCII e_strings_trimLeftASCII := by
  intro call N vs H τ q r h
  unfold e_strings_trimLeftASCII at h
  split at h
  · rw [s_strings_trimLeftASCII_eq] at h; exact h
  · cases h
theorem e_strings_trimLeftASCII_nat : EntNat e_strings_trimLeftASCII := by
  intro c hn N vs H τ q
  unfold e_strings_trimLeftASCII
  split
  · rw [s_strings_trimLeftASCII_eq, s_strings_trimLeftASCII_eq]; exact funK_ent hn _ _ _ _ _ _
  · rfl
/-- strings.trimRightASCII -/
def fn_strings_trimRightASCII : Fun := ⟨2,
  (.seq (.reg [⟨(some 4), none, (.p .mv), [(.c (.str []))], none⟩])
  (.keep [0, 1] (.seq (.block 0
   (.loop
    (.keep [0, 1] (.seq (.seq (.reg [⟨(some 5), none, (.p .mv), [(.t 0)], none⟩,
      ⟨(some 6), none, (.p .lenS), [(.t 5)], none⟩,
      ⟨(some 7), none, (.p (.bin .gtr)), [(.t 6), (.c (.int .i64 (.ofNat 0)))], none⟩])
    (.keep [0, 1, 7] (.cond (.t 7)
     .skip
     (.keep [0] (.exit 0)))))
    (.keep [0, 1] (.block 1
     (.seq (.seq (.reg [⟨(some 8), none, (.p .mv), [(.t 1)], none⟩,
       ⟨(some 9), none, (.p .mv), [(.t 0)], none⟩,
       ⟨(some 10), none, (.p .mv), [(.t 0)], none⟩,
       ⟨(some 11), none, (.p .lenS), [(.t 10)], none⟩,
       ⟨(some 12), none, (.p (.bin .sub)), [(.t 11), (.c (.int .i64 (.ofNat 1)))], none⟩,
       ⟨(some 13), none, (.p .strIndex), [(.t 9), (.t 12)], none⟩,
       ⟨(some 14), none, (.call 81), [(.t 8), (.t 13)], none⟩,
       ⟨(some 15), none, (.p (.un .not)), [(.t 14)], none⟩])
     (.keep [0, 1, 15] (.cond (.t 15)
      (.keep [0] (.exit 0))
      .skip)))
     (.keep [0, 1] (.reg [⟨(some 16), none, (.p .mv), [(.t 0)], none⟩,
       ⟨(some 17), none, (.p .mv), [(.t 0)], none⟩,
       ⟨(some 18), none, (.p .lenS), [(.t 17)], none⟩,
       ⟨(some 19), none, (.p (.bin .sub)), [(.t 18), (.c (.int .i64 (.ofNat 1)))], none⟩,
       ⟨(some 20), none, (.p (.strSlice false true)), [(.t 16), (.t 19)], none⟩,
       ⟨(some 0), none, (.p .mv), [(.t 20)], none⟩])))))))))
  (.keep [0] (.seq (.reg [⟨(some 21), none, (.p .mv), [(.t 0)], none⟩,
    ⟨(some 4), none, (.p .mv), [(.t 21)], none⟩])
  (.keep [4] (.keep [4] .ret))))))),
  [(.t 4)]⟩
def s_strings_trimRightASCII_j0 (call : CallK) (N : Nat) (q : KV) (st : St) (τ : Tape) : Ans :=
  match st with
  | ⟨fr, H⟩ =>
  getK fr 0 fun t0 =>
  q t0 H τ
def s_strings_trimRightASCII_l1 (call : CallK) (N : Nat) (st : St) (τ : Tape) (k : KC) : Ans :=
  match st with
  | ⟨fr, H⟩ =>
  getK fr 0 fun t0 =>
  getK fr 1 fun t1 =>
  someK (pLenS [t0]) fun v0 =>
  binK .gtr v0 (.int .i64 (.ofNat 0)) fun v1 =>
  condK v1
    (someK (pLenS [t0]) fun v2 =>
  binK .sub v2 (.int .i64 (.ofNat 1)) fun v3 =>
  someK (pStrIndex [t0, v3]) fun v4 =>
  call f_asciiSet_contains [t1, v4] H τ fun v5 H6 τ7 =>
  unK .not v5 fun v8 =>
  condK v8
    (k (.exit 0) ⟨(T.set .leaf 0 t0), H6⟩ τ7)
    (someK (pLenS [t0]) fun v9 =>
  binK .sub v9 (.int .i64 (.ofNat 1)) fun v10 =>
  someK (pStrSlice false true [t0, v10]) fun v11 =>
  k .normal ⟨(T.set (T.set (T.set (T.set (T.set (T.set (T.set (T.set .leaf 0 t0) 1 t1) 16 t0) 17 t0) 18 v9) 19 v10) 20 v11) 0 v11), H6⟩ τ7))
    (k (.exit 0) ⟨(T.set .leaf 0 t0), H⟩ τ)
def s_strings_trimRightASCII (call : CallK) (N : Nat) (a0 a1 : V) (H : Heap) (τ : Tape) (q : KV) : Ans :=
  loopK (s_strings_trimRightASCII_l1 call N) N ⟨(T.set (T.set .leaf 0 a0) 1 a1), H⟩ τ (blockK 0 (seqK (s_strings_trimRightASCII_j0 call N q) (endK [(.t 4)] q)))
theorem s_strings_trimRightASCII_eq (call : CallK) (N : Nat) (a0 a1 : V) (H : Heap) (τ : Tape) (q : KV) : s_strings_trimRightASCII call N a0 a1 H τ q = funK call N fn_strings_trimRightASCII [a0, a1] H τ q := by kernel_rfl
def e_strings_trimRightASCII (call : CallK) (N : Nat) (vs : List V) (H : Heap) (τ : Tape) (q : KV) : Ans := match vs with | [a0, a1] => s_strings_trimRightASCII call N a0 a1 H τ q | _ => none
theorem e_strings_trimRightASCII_ok : EntOk fn_strings_trimRightASCII e_strings_trimRightASCII := by
  intro call N vs H τ q r h
  unfold e_strings_trimRightASCII at h
  split at h
  · rw [s_strings_trimRightASCII_eq] at h; exact h
  · cases h
theorem e_strings_trimRightASCII_nat : EntNat e_strings_trimRightASCII := by
  intro c hn N vs H τ q
  unfold e_strings_trimRightASCII
  split
  · rw [s_strings_trimRightASCII_eq, s_strings_trimRightASCII_eq]; exact funK_ent hn _ _ _ _ _ _
  · rfl
/-- strings.trimLeftUnicode -/
def fn_strings_trimLeftUnicode : Fun := ⟨2,
  (.seq (.reg [⟨(some 4), none, (.p .mv), [(.c (.str []))], none⟩])
  (.keep [0, 1] (.seq (.block 0
   (.loop
    (.keep [0, 1] (.seq (.seq (.reg [⟨(some 7), none, (.p .mv), [(.t 0)], none⟩,
      ⟨(some 8), none, (.p .lenS), [(.t 7)], none⟩,
      ⟨(some 9), none, (.p (.bin .gtr)), [(.t 8), (.c (.int .i64 (.ofNat 0)))], none⟩])
    (.keep [0, 1, 9] (.cond (.t 9)
     .skip
     (.keep [0] (.exit 0)))))
    (.keep [0, 1] (.block 1
     (.seq (.reg [⟨(some 11), none, (.p .mv), [(.t 0)], none⟩,
       ⟨(some 12), none, (.call 82), [(.t 11)], none⟩,
       ⟨(some 10), none, (.p .mv), [(.t 12)], none⟩,
       ⟨(some 13), none, (.p (.extract 0)), [(.t 10)], none⟩,
       ⟨(some 14), none, (.p (.extract 1)), [(.t 10)], none⟩,
       ⟨(some 5), none, (.p .mv), [(.t 13)], none⟩,
       ⟨(some 6), none, (.p .mv), [(.t 14)], none⟩])
     (.keep [0, 1, 5, 6] (.seq (.seq (.reg [⟨(some 15), none, (.p .mv), [(.t 1)], none⟩,
       ⟨(some 16), none, (.p .mv), [(.t 5)], none⟩,
       ⟨(some 17), none, (.call 83), [(.t 15), (.t 16)], none⟩,
       ⟨(some 18), none, (.p (.un .not)), [(.t 17)], none⟩])
     (.keep [0, 1, 6, 18] (.cond (.t 18)
      (.keep [0] (.exit 0))
      .skip)))
     (.keep [0, 1, 6] (.reg [⟨(some 19), none, (.p .mv), [(.t 0)], none⟩,
       ⟨(some 20), none, (.p .mv), [(.t 6)], none⟩,
       ⟨(some 21), none, (.p (.strSlice true false)), [(.t 19), (.t 20)], none⟩,
       ⟨(some 0), none, (.p .mv), [(.t 21)], none⟩])))))))))))
  (.keep [0] (.seq (.reg [⟨(some 22), none, (.p .mv), [(.t 0)], none⟩,
    ⟨(some 4), none, (.p .mv), [(.t 22)], none⟩])
  (.keep [4] (.keep [4] .ret))))))),
  [(.t 4)]⟩
def s_strings_trimLeftUnicode_j0 (call : CallK) (N : Nat) (q : KV) (st : St) (τ : Tape) : Ans :=
  match st with
  | ⟨fr, H⟩ =>
  getK fr 0 fun t0 =>
  q t0 H τ
def s_strings_trimLeftUnicode_l1 (call : CallK) (N : Nat) (st : St) (τ : Tape) (k : KC) : Ans :=
  match st with
  | ⟨fr, H⟩ =>
  getK fr 0 fun t0 =>
  getK fr 1 fun t1 =>
  someK (pLenS [t0]) fun v0 =>
  binK .gtr v0 (.int .i64 (.ofNat 0)) fun v1 =>
  condK v1
    (call f_utf8_DecodeRuneInString [t0] H τ fun v2 H3 τ4 =>
  someK (pExtract 0 [v2]) fun v5 =>
  someK (pExtract 1 [v2]) fun v6 =>
  call f_strings_ContainsRune [t1, v5] H3 τ4 fun v7 H8 τ9 =>
  unK .not v7 fun v10 =>
  condK v10
    (k (.exit 0) ⟨(T.set .leaf 0 t0), H8⟩ τ9)
    (someK (pStrSlice true false [t0, v6]) fun v11 =>
  k .normal ⟨(T.set (T.set (T.set (T.set (T.set (T.set (T.set .leaf 0 t0) 1 t1) 6 v6) 19 t0) 20 v6) 21 v11) 0 v11), H8⟩ τ9))
    (k (.exit 0) ⟨(T.set .leaf 0 t0), H⟩ τ)
def s_strings_trimLeftUnicode (call : CallK) (N : Nat) (a0 a1 : V) (H : Heap) (τ : Tape) (q : KV) : Ans :=
  loopK (s_strings_trimLeftUnicode_l1 call N) N ⟨(T.set (T.set .leaf 0 a0) 1 a1), H⟩ τ (blockK 0 (seqK (s_strings_trimLeftUnicode_j0 call N q) (endK [(.t 4)] q)))
theorem s_strings_trimLeftUnicode_eq (call : CallK) (N : Nat) (a0 a1 : V) (H : Heap) (τ : Tape) (q : KV) : s_strings_trimLeftUnicode call N a0 a1 H τ q = funK call N fn_strings_trimLeftUnicode [a0, a1] H τ q := by kernel_rfl
def e_strings_trimLeftUnicode (call : CallK) (N : Nat) (vs : List V) (H : Heap) (τ : Tape) (q : KV) : Ans := match vs with | [a0, a1] => s_strings_trimLeftUnicode call N a0 a1 H τ q | _ => none
theorem e_strings_trimLeftUnicode_ok : EntOk fn_strings_trimLeftUnicode e_strings_trimLeftUnicode := by
  intro call N vs H τ q r h
  unfold e_strings_trimLeftUnicode at h
  split at h
  · rw [s_strings_trimLeftUnicode_eq] at h; exact h
  · cases h
theorem e_strings_trimLeftUnicode_nat : EntNat e_strings_trimLeftUnicode := by
  intro c hn N vs H τ q
  unfold e_strings_trimLeftUnicode
  split
  · rw [s_strings_trimLeftUnicode_eq, s_strings_trimLeftUnicode_eq]; exact funK_ent hn _ _ _ _ _ _
  · rfl
/-- strings.trimRightUnicode -/
def fn_strings_trimRightUnicode : Fun := ⟨2,
  (.seq (.reg [⟨(some 4), none, (.p .mv), [(.c (.str []))], none⟩])
  (.keep [0, 1] (.seq (.block 0
   (.loop
    (.keep [0, 1] (.seq (.seq (.reg [⟨(some 7), none, (.p .mv), [(.t 0)], none⟩,
      ⟨(some 8), none, (.p .lenS), [(.t 7)], none⟩,
      ⟨(some 9), none, (.p (.bin .gtr)), [(.t 8), (.c (.int .i64 (.ofNat 0)))], none⟩])
    (.keep [0, 1, 9] (.cond (.t 9)
     .skip
     (.keep [0] (.exit 0)))))
    (.keep [0, 1] (.block 1
     (.seq (.reg [⟨(some 10), none, (.p .mv), [(.t 0)], none⟩,
       ⟨(some 11), none, (.p .mv), [(.t 0)], none⟩,
       ⟨(some 12), none, (.p .lenS), [(.t 11)], none⟩,
       ⟨(some 13), none, (.p (.bin .sub)), [(.t 12), (.c (.int .i64 (.ofNat 1)))], none⟩,
       ⟨(some 14), none, (.p .strIndex), [(.t 10), (.t 13)], none⟩,
       ⟨(some 15), none, (.p (.toInt .i32)), [(.t 14)], none⟩,
       ⟨(some 5), none, (.p .mv), [(.t 15)], none⟩,
       ⟨(some 6), none, (.p .mv), [(.c (.int .i64 (.ofNat 1)))], none⟩])
     (.keep [0, 1, 5, 6] (.seq (.seq (.reg [⟨(some 16), none, (.p .mv), [(.t 5)], none⟩,
       ⟨(some 17), none, (.p (.bin .geq)), [(.t 16), (.c (.int .i32 (.ofNat 128)))], none⟩])
     (.keep [0, 1, 5, 6, 17] (.cond (.t 17)
      (.reg [⟨(some 19), none, (.p .mv), [(.t 0)], none⟩,
        ⟨(some 20), none, (.call 84), [(.t 19)], none⟩,
        ⟨(some 18), none, (.p .mv), [(.t 20)], none⟩,
        ⟨(some 21), none, (.p (.extract 0)), [(.t 18)], none⟩,
        ⟨(some 22), none, (.p (.extract 1)), [(.t 18)], none⟩,
        ⟨(some 5), none, (.p .mv), [(.t 21)], none⟩,
        ⟨(some 6), none, (.p .mv), [(.t 22)], none⟩])
      .skip)))
     (.keep [0, 1, 5, 6] (.seq (.seq (.reg [⟨(some 23), none, (.p .mv), [(.t 1)], none⟩,
       ⟨(some 24), none, (.p .mv), [(.t 5)], none⟩,
       ⟨(some 25), none, (.call 83), [(.t 23), (.t 24)], none⟩,
       ⟨(some 26), none, (.p (.un .not)), [(.t 25)], none⟩])
     (.keep [0, 1, 6, 26] (.cond (.t 26)
      (.keep [0] (.exit 0))
      .skip)))
     (.keep [0, 1, 6] (.reg [⟨(some 27), none, (.p .mv), [(.t 0)], none⟩,
       ⟨(some 28), none, (.p .mv), [(.t 0)], none⟩,
       ⟨(some 29), none, (.p .lenS), [(.t 28)], none⟩,
       ⟨(some 30), none, (.p .mv), [(.t 6)], none⟩,
       ⟨(some 31), none, (.p (.bin .sub)), [(.t 29), (.t 30)], none⟩,
       ⟨(some 32), none, (.p (.strSlice false true)), [(.t 27), (.t 31)], none⟩,
       ⟨(some 0), none, (.p .mv), [(.t 32)], none⟩])))))))))))))
  (.keep [0] (.seq (.reg [⟨(some 33), none, (.p .mv), [(.t 0)], none⟩,
    ⟨(some 4), none, (.p .mv), [(.t 33)], none⟩])
  (.keep [4] (.keep [4] .ret))))))),
  [(.t 4)]⟩
def s_strings_trimRightUnicode_j0 (call : CallK) (N : Nat) (q : KV) (st : St) (τ : Tape) : Ans :=
  match st with
  | ⟨fr, H⟩ =>
  getK fr 0 fun t0 =>
  q t0 H τ
def s_strings_trimRightUnicode_j2 (call : CallK) (N : Nat) (k : KC) (st : St) (τ : Tape) : Ans :=
  match st with
  | ⟨fr, H⟩ =>
  getK fr 0 fun t0 =>
  getK fr 1 fun t1 =>
  getK fr 5 fun t5 =>
  getK fr 6 fun t6 =>
  call f_strings_ContainsRune [t1, t5] H τ fun v7 H8 τ9 =>
  unK .not v7 fun v10 =>
  condK v10
    (k (.exit 0) ⟨(T.set .leaf 0 t0), H8⟩ τ9)
    (someK (pLenS [t0]) fun v11 =>
  binK .sub v11 t6 fun v12 =>
  someK (pStrSlice false true [t0, v12]) fun v13 =>
  k .normal ⟨(T.set (T.set (T.set (T.set (T.set (T.set (T.set (T.set (T.set (T.set .leaf 0 t0) 1 t1) 6 t6) 27 t0) 28 t0) 29 v11) 30 t6) 31 v12) 32 v13) 0 v13), H8⟩ τ9)
def s_strings_trimRightUnicode_l1 (call : CallK) (N : Nat) (st : St) (τ : Tape) (k : KC) : Ans :=
  match st with
  | ⟨fr, H⟩ =>
  getK fr 0 fun t0 =>
  getK fr 1 fun t1 =>
  someK (pLenS [t0]) fun v0 =>
  binK .gtr v0 (.int .i64 (.ofNat 0)) fun v1 =>
  condK v1
    (someK (pLenS [t0]) fun v2 =>
  binK .sub v2 (.int .i64 (.ofNat 1)) fun v3 =>
  someK (pStrIndex [t0, v3]) fun v4 =>
  toIntK .i32 v4 fun v5 =>
  binK .geq v5 (.int .i32 (.ofNat 128)) fun v6 =>
  condK v6
    (call f_utf8_DecodeLastRuneInString [t0] H τ fun v14 H15 τ16 =>
  someK (pExtract 0 [v14]) fun v17 =>
  someK (pExtract 1 [v14]) fun v18 =>
  s_strings_trimRightUnicode_j2 call N k ⟨(T.set (T.set (T.set (T.set (T.set (T.set (T.set (T.set (T.set (T.set (T.set (T.set .leaf 0 t0) 1 t1) 5 v5) 6 (.int .i64 (.ofNat 1))) 17 v6) 19 t0) 20 v14) 18 v14) 21 v17) 22 v18) 5 v17) 6 v18), H15⟩ τ16)
    (s_strings_trimRightUnicode_j2 call N k ⟨(T.set (T.set (T.set (T.set (T.set .leaf 0 t0) 1 t1) 5 v5) 6 (.int .i64 (.ofNat 1))) 17 v6), H⟩ τ))
    (k (.exit 0) ⟨(T.set .leaf 0 t0), H⟩ τ)
def s_strings_trimRightUnicode (call : CallK) (N : Nat) (a0 a1 : V) (H : Heap) (τ : Tape) (q : KV) : Ans :=
  loopK (s_strings_trimRightUnicode_l1 call N) N ⟨(T.set (T.set .leaf 0 a0) 1 a1), H⟩ τ (blockK 0 (seqK (s_strings_trimRightUnicode_j0 call N q) (endK [(.t 4)] q)))
theorem s_strings_trimRightUnicode_eq (call : CallK) (N : Nat) (a0 a1 : V) (H : Heap) (τ : Tape) (q : KV) : s_strings_trimRightUnicode call N a0 a1 H τ q = funK call N fn_strings_trimRightUnicode [a0, a1] H τ q := by kernel_rfl
def e_strings_trimRightUnicode (call : CallK) (N : Nat) (vs : List V) (H : Heap) (τ : Tape) (q : KV) : Ans := match vs with | [a0, a1] => s_strings_trimRightUnicode call N a0 a1 H τ q | _ => none
theorem e_strings_trimRightUnicode_ok : EntOk fn_strings_trimRightUnicode e_strings_trimRightUnicode := by
  intro call N vs H τ q r h
  unfold e_strings_trimRightUnicode at h
  split at h
  · rw [s_strings_trimRightUnicode_eq] at h; exact h
  · cases h
theorem e_strings_trimRightUnicode_nat : EntNat e_strings_trimRightUnicode := by
  intro c hn N vs H τ q
  unfold e_strings_trimRightUnicode
  split
  · rw [s_strings_trimRightUnicode_eq, s_strings_trimRightUnicode_eq]; exact funK_ent hn _ _ _ _ _ _
  · rfl
/-- internal/stringslite.CutPrefix -/
def fn_stringslite_CutPrefix : Fun := ⟨2,
  (.seq (.reg [⟨(some 4), none, (.p .mv), [(.c (.str []))], none⟩,
    ⟨(some 5), none, (.p .mv), [(.c (.bool false))], none⟩])
  (.keep [0, 1] (.seq (.seq (.reg [⟨(some 6), none, (.p .mv), [(.t 0)], none⟩,
    ⟨(some 7), none, (.p .mv), [(.t 1)], none⟩,
    ⟨(some 8), none, (.call 75), [(.t 6), (.t 7)], none⟩,
    ⟨(some 9), none, (.p (.un .not)), [(.t 8)], none⟩])
  (.keep [0, 1, 9] (.cond (.t 9)
   (.seq (.reg [⟨(some 10), none, (.p .mv), [(.t 0)], none⟩,
     ⟨(some 4), none, (.p .mv), [(.t 10)], none⟩,
     ⟨(some 5), none, (.p .mv), [(.c (.bool false))], none⟩])
   (.keep [4, 5] (.keep [4, 5] .ret)))
   .skip)))
  (.keep [0, 1] (.seq (.reg [⟨(some 11), none, (.p .mv), [(.t 0)], none⟩,
    ⟨(some 12), none, (.p .mv), [(.t 1)], none⟩,
    ⟨(some 13), none, (.p .lenS), [(.t 12)], none⟩,
    ⟨(some 14), none, (.p (.strSlice true false)), [(.t 11), (.t 13)], none⟩,
    ⟨(some 4), none, (.p .mv), [(.t 14)], none⟩,
    ⟨(some 5), none, (.p .mv), [(.c (.bool true))], none⟩])
  (.keep [4, 5] (.keep [4, 5] .ret))))))),
  [(.t 4), (.t 5)]⟩
def s_stringslite_CutPrefix (call : CallK) (N : Nat) (a0 a1 : V) (H : Heap) (τ : Tape) (q : KV) : Ans :=
  call f_stringslite_HasPrefix [a0, a1] H τ fun v0 H1 τ2 =>
  unK .not v0 fun v3 =>
  condK v3
    (q (.tup [a0, (.bool false)]) H1 τ2)
    (someK (pLenS [a1]) fun v4 =>
  someK (pStrSlice true false [a0, v4]) fun v5 =>
  q (.tup [v5, (.bool true)]) H1 τ2)
theorem s_stringslite_CutPrefix_eq (call : CallK) (N : Nat) (a0 a1 : V) (H : Heap) (τ : Tape) (q : KV) : s_stringslite_CutPrefix call N a0 a1 H τ q = funK call N fn_stringslite_CutPrefix [a0, a1] H τ q := by kernel_rfl
def e_stringslite_CutPrefix (call : CallK) (N : Nat) (vs : List V) (H : Heap) (τ : Tape) (q : KV) : Ans := match vs with | [a0, a1] => s_stringslite_CutPrefix call N a0 a1 H τ q | _ => none
theorem e_stringslite_CutPrefix_ok : EntOk fn_stringslite_CutPrefix e_stringslite_CutPrefix := by
  intro call N vs H τ q r h
  unfold e_stringslite_CutPrefix at h
  split at h
  · rw [s_stringslite_CutPrefix_eq] at h; exact h
  · cases h
theorem e_stringslite_CutPrefix_nat : EntNat e_stringslite_CutPrefix := by
  intro c hn N vs H τ q
  unfold e_stringslite_CutPrefix
  split
  · rw [s_stringslite_CutPrefix_eq, s_stringslite_CutPrefix_eq]; exact funK_ent hn _ _ _ _ _ _
  · rfl
/-- internal/stringslite.Cut -/
def fn_stringslite_Cut : Fun := ⟨2,
  (.seq (.reg [⟨(some 4), none, (.p .mv), [(.c (.str []))], none⟩,
    ⟨(some 5), none, (.p .mv), [(.c (.str []))], none⟩,
    ⟨(some 6), none, (.p .mv), [(.c (.bool false))], none⟩])
  (.keep [0, 1] (.seq (.seq (.reg [⟨(some 8), none, (.p .mv), [(.t 0)], none⟩,
    ⟨(some 9), none, (.p .mv), [(.t 1)], none⟩,
    ⟨(some 10), none, (.call 85), [(.t 8), (.t 9)], none⟩,
    ⟨(some 7), none, (.p .mv), [(.t 10)], none⟩])
  (.keep [0, 1, 7] (.seq (.reg [⟨(some 11), none, (.p .mv), [(.t 7)], none⟩,
    ⟨(some 12), none, (.p (.bin .geq)), [(.t 11), (.c (.int .i64 (.ofNat 0)))], none⟩])
  (.keep [0, 1, 7, 12] (.cond (.t 12)
   (.seq (.draw [⟨(some 13), none, (.p .mv), [(.t 0)], none⟩,
     ⟨(some 14), none, (.p .mv), [(.t 7)], none⟩,
     ⟨(some 15), none, (.p (.strSlice false true)), [(.t 13), (.t 14)], none⟩,
     ⟨(some 16), none, (.p .mv), [(.t 0)], none⟩,
     ⟨(some 17), none, (.p .mv), [(.t 7)], none⟩,
     ⟨(some 18), none, (.p .mv), [(.t 1)], none⟩,
     ⟨(some 19), none, (.p .lenS), [(.t 18)], none⟩,
     ⟨(some 20), none, (.p (.bin .add)), [(.t 17), (.t 19)], none⟩,
     ⟨(some 21), none, (.p (.strSlice true false)), [(.t 16), (.t 20)], none⟩,
     ⟨(some 4), none, (.p .mv), [(.t 15)], none⟩,
     ⟨(some 5), none, (.p .mv), [(.t 21)], none⟩,
     ⟨(some 6), none, (.p .mv), [(.c (.bool true))], none⟩])
   (.keep [4, 5, 6] (.keep [4, 5, 6] .ret)))
   .skip)))))
  (.keep [0] (.seq (.reg [⟨(some 22), none, (.p .mv), [(.t 0)], none⟩,
    ⟨(some 4), none, (.p .mv), [(.t 22)], none⟩,
    ⟨(some 5), none, (.p .mv), [(.c (.str []))], none⟩,
    ⟨(some 6), none, (.p .mv), [(.c (.bool false))], none⟩])
  (.keep [4, 5, 6] (.keep [4, 5, 6] .ret))))))),
  [(.t 4), (.t 5), (.t 6)]⟩
def s_stringslite_Cut (call : CallK) (N : Nat) (a0 a1 : V) (H : Heap) (τ : Tape) (q : KV) : Ans :=
  call f_stringslite_Index [a0, a1] H τ fun v0 H1 τ2 =>
  binK .geq v0 (.int .i64 (.ofNat 0)) fun v3 =>
  condK v3
    (someK (pStrSlice false true [a0, v0]) fun v4 =>
  someK (pLenS [a1]) fun v5 =>
  binK .add v0 v5 fun v6 =>
  someK (pStrSlice true false [a0, v6]) fun v7 =>
  q (.tup [v4, v7, (.bool true)]) H1 τ2)
    (q (.tup [a0, (.str []), (.bool false)]) H1 τ2)
theorem s_stringslite_Cut_eq (call : CallK) (N : Nat) (a0 a1 : V) (H : Heap) (τ : Tape) (q : KV) : s_stringslite_Cut call N a0 a1 H τ q = funK call N fn_stringslite_Cut [a0, a1] H τ q := by kernel_rfl
def e_stringslite_Cut (call : CallK) (N : Nat) (vs : List V) (H : Heap) (τ : Tape) (q : KV) : Ans := match vs with | [a0, a1] => s_stringslite_Cut call N a0 a1 H τ q | _ => none
theorem e_stringslite_Cut_ok : EntOk fn_stringslite_Cut e_stringslite_Cut := by
  intro call N vs H τ q r h
  unfold e_stringslite_Cut at h
  split at h
  · rw [s_stringslite_Cut_eq] at h; exact h
  · cases h
theorem e_stringslite_Cut_nat : EntNat e_stringslite_Cut := by
  intro c hn N vs H τ q
  unfold e_stringslite_Cut
  split
  · rw [s_stringslite_Cut_eq, s_stringslite_Cut_eq]; exact funK_ent hn _ _ _ _ _ _
  · rfl
/-- ostiary/infra.Int -/
def fn_infra_Int : Fun := ⟨1,
  (.seq (.reg [⟨(some 2), none, (.p .mv), [(.c (.int .i64 (.ofNat 0)))], none⟩,
    ⟨(some 3), none, (.p .mv), [(.c (.bool false))], none⟩])
  (.keep [0] (.seq (.reg [⟨(some 4), none, (.p .mv), [(.c (.int .i64 (.ofNat 0)))], none⟩])
  (.keep [0, 4] (.seq (.seq (.reg [⟨(some 8), none, (.p .mv), [(.t 0)], none⟩,
    ⟨(some 9), none, (.p .lenS), [(.t 8)], none⟩,
    ⟨(some 10), none, (.p .mv), [(.c (.int .i64 (.ofNat 0)))], none⟩])
  (.keep [0, 4, 9, 10] (.block 0
   (.loop
    (.keep [0, 4, 9, 10] (.seq (.reg [⟨(some 11), none, (.p (.bin .lss)), [(.t 10), (.t 9)], none⟩])
    (.keep [0, 4, 9, 10, 11] (.seq (.cond (.t 11)
     .skip
     (.keep [0, 4] (.exit 0)))
    (.keep [0, 4, 9, 10] (.seq (.block 1
     (.seq (.reg [⟨(some 12), none, (.p .mv), [(.t 10)], none⟩,
       ⟨(some 5), none, (.p .mv), [(.t 12)], none⟩])
     (.keep [0, 4, 5, 9, 10] (.seq (.reg [⟨(some 13), none, (.p .mv), [(.t 0)], none⟩,
       ⟨(some 14), none, (.p .mv), [(.t 5)], none⟩,
       ⟨(some 15), none, (.p .strIndex), [(.t 13), (.t 14)], none⟩,
       ⟨(some 6), none, (.p .mv), [(.t 15)], none⟩])
     (.keep [0, 4, 6, 9, 10] (.seq (.seq (.reg [⟨(some 16), none, (.p .mv), [(.t 6)], none⟩,
       ⟨(some 17), none, (.p (.bin .lss)), [(.t 16), (.c (.int .u8 (.ofNat 48)))], none⟩,
       ⟨(some 18), none, (.p .mv), [(.t 17)], none⟩,
       ⟨(some 19), some (18, false), (.p .mv), [(.t 6)], none⟩,
       ⟨(some 20), some (18, false), (.p (.bin .gtr)), [(.t 19), (.c (.int .u8 (.ofNat 57)))], none⟩,
       ⟨(some 21), none, (.p .pick), [(.t 18), (.c (.bool true)), (.t 20)], none⟩])
     (.keep [0, 4, 6, 9, 10, 21] (.cond (.t 21)
      (.seq (.reg [⟨(some 2), none, (.p .mv), [(.c (.int .i64 (.ofNat 0)))], none⟩,
        ⟨(some 3), none, (.p .mv), [(.c (.bool false))], none⟩])
      (.keep [2, 3] (.keep [2, 3] .ret)))
      .skip)))
     (.keep [0, 4, 6, 9, 10] (.seq (.reg [⟨(some 22), none, (.p .mv), [(.t 6)], none⟩,
       ⟨(some 23), none, (.p (.bin .sub)), [(.t 22), (.c (.int .u8 (.ofNat 48)))], none⟩,
       ⟨(some 24), none, (.p (.toInt .i64)), [(.t 23)], none⟩,
       ⟨(some 7), none, (.p .mv), [(.t 24)], none⟩])
     (.keep [0, 4, 7, 9, 10] (.seq (.seq (.reg [⟨(some 25), none, (.p .mv), [(.t 4)], none⟩,
       ⟨(some 26), none, (.p .mv), [(.t 7)], none⟩,
       ⟨(some 27), none, (.p (.bin .sub)), [(.c (.int .i64 (.ofNat 9223372036854775807))), (.t 26)], none⟩,
       ⟨(some 28), none, (.p (.bin .quo)), [(.t 27), (.c (.int .i64 (.ofNat 10)))], none⟩,
       ⟨(some 29), none, (.p (.bin .gtr)), [(.t 25), (.t 28)], none⟩])
     (.keep [0, 4, 7, 9, 10, 29] (.cond (.t 29)
      (.seq (.reg [⟨(some 4), none, (.p .mv), [(.c (.int .i64 (.ofNat 9223372036854775807)))], none⟩])
      (.keep [0, 4, 9, 10] (.keep [0, 4, 9, 10] (.exit 1))))
      .skip)))
     (.keep [0, 4, 7, 9, 10] (.reg [⟨(some 30), none, (.p .mv), [(.t 4)], none⟩,
       ⟨(some 31), none, (.p (.bin .mul)), [(.t 30), (.c (.int .i64 (.ofNat 10)))], none⟩,
       ⟨(some 32), none, (.p .mv), [(.t 7)], none⟩,
       ⟨(some 33), none, (.p (.bin .add)), [(.t 31), (.t 32)], none⟩,
       ⟨(some 4), none, (.p .mv), [(.t 33)], none⟩]))))))))))))
    (.keep [0, 4, 9, 10] (.reg [⟨(some 34), none, (.p (.bin .add)), [(.t 10), (.c (.int .i64 (.ofNat 1)))], none⟩,
      ⟨(some 10), none, (.p .mv), [(.t 34)], none⟩]))))))))))))
  (.keep [0, 4] (.seq (.reg [⟨(some 35), none, (.p .mv), [(.t 4)], none⟩,
    ⟨(some 36), none, (.p .mv), [(.t 0)], none⟩,
    ⟨(some 37), none, (.p .lenS), [(.t 36)], none⟩,
    ⟨(some 38), none, (.p (.bin .gtr)), [(.t 37), (.c (.int .i64 (.ofNat 0)))], none⟩,
    ⟨(some 2), none, (.p .mv), [(.t 35)], none⟩,
    ⟨(some 3), none, (.p .mv), [(.t 38)], none⟩])
  (.keep [2, 3] (.keep [2, 3] .ret))))))))),
  [(.t 2), (.t 3)]⟩
def s_infra_Int_j0 (call : CallK) (N : Nat) (q : KV) (st : St) (τ : Tape) : Ans :=
  match st with
  | ⟨fr, H⟩ =>
  getK fr 0 fun t0 =>
  getK fr 4 fun t4 =>
  someK (pLenS [t0]) fun v1 =>
  binK .gtr v1 (.int .i64 (.ofNat 0)) fun v2 =>
  q (.tup [t4, v2]) H τ
def s_infra_Int_j2 (call : CallK) (N : Nat) (k : KC) (st : St) (τ : Tape) : Ans :=
  match st with
  | ⟨fr, H⟩ =>
  getK fr 0 fun t0 =>
  getK fr 4 fun t4 =>
  getK fr 9 fun t9 =>
  getK fr 10 fun t10 =>
  binK .add t10 (.int .i64 (.ofNat 1)) fun v4 =>
  k .normal ⟨(T.set (T.set (T.set (T.set (T.set (T.set .leaf 0 t0) 4 t4) 9 t9) 10 t10) 34 v4) 10 v4), H⟩ τ
def s_infra_Int_l1 (call : CallK) (N : Nat) (st : St) (τ : Tape) (k : KC) : Ans :=
  match st with
  | ⟨fr, H⟩ =>
  getK fr 0 fun t0 =>
  getK fr 4 fun t4 =>
  getK fr 9 fun t9 =>
  getK fr 10 fun t10 =>
  binK .lss t10 t9 fun v3 =>
  condK v3
    (someK (pStrIndex [t0, t10]) fun v5 =>
  binK .lss v5 (.int .u8 (.ofNat 48)) fun v6 =>
  gK v6 false (fun q' => q' v5 H τ) H τ fun v7 H8 τ9 =>
  gK v6 false (fun q' => binK .gtr v7 (.int .u8 (.ofNat 57)) fun v => q' v H8 τ9) H8 τ9 fun v10 H11 τ12 =>
  someK (pPick [v6, (.bool true), v10]) fun v13 =>
  condK v13
    (k .ret ⟨(T.set (T.set .leaf 2 (.int .i64 (.ofNat 0))) 3 (.bool false)), H11⟩ τ12)
    (binK .sub v5 (.int .u8 (.ofNat 48)) fun v14 =>
  toIntK .i64 v14 fun v15 =>
  binK .sub (.int .i64 (.ofNat 9223372036854775807)) v15 fun v16 =>
  binK .quo v16 (.int .i64 (.ofNat 10)) fun v17 =>
  binK .gtr t4 v17 fun v18 =>
  condK v18
    (s_infra_Int_j2 call N k ⟨(T.set (T.set (T.set (T.set .leaf 0 t0) 4 (.int .i64 (.ofNat 9223372036854775807))) 9 t9) 10 t10), H11⟩ τ12)
    (binK .mul t4 (.int .i64 (.ofNat 10)) fun v19 =>
  binK .add v19 v15 fun v20 =>
  s_infra_Int_j2 call N k ⟨(T.set (T.set (T.set (T.set (T.set (T.set (T.set (T.set (T.set (T.set .leaf 0 t0) 4 t4) 7 v15) 9 t9) 10 t10) 30 t4) 31 v19) 32 v15) 33 v20) 4 v20), H11⟩ τ12)))
    (k (.exit 0) ⟨(T.set (T.set .leaf 0 t0) 4 t4), H⟩ τ)
def s_infra_Int (call : CallK) (N : Nat) (a0 : V) (H : Heap) (τ : Tape) (q : KV) : Ans :=
  someK (pLenS [a0]) fun v0 =>
  loopK (s_infra_Int_l1 call N) N ⟨(T.set (T.set (T.set (T.set .leaf 0 a0) 4 (.int .i64 (.ofNat 0))) 9 v0) 10 (.int .i64 (.ofNat 0))), H⟩ τ (blockK 0 (seqK (s_infra_Int_j0 call N q) (endK [(.t 2), (.t 3)] q)))
theorem s_infra_Int_eq (call : CallK) (N : Nat) (a0 : V) (H : Heap) (τ : Tape) (q : KV) : s_infra_Int call N a0 H τ q = funK call N fn_infra_Int [a0] H τ q := by kernel_rfl
def e_infra_Int (call : CallK) (N : Nat) (vs : List V) (H : Heap) (τ : Tape) (q : KV) : Ans := match vs with | [a0] => s_infra_Int call N a0 H τ q | _ => none
theorem e_infra_Int_ok : EntOk fn_infra_Int e_infra_Int := by
  intro call N vs H τ q r h
  unfold e_infra_Int at h
  split at h
  · rw [s_infra_Int_eq] at h; exact h
  · cases h
theorem e_infra_Int_nat : EntNat e_infra_Int := by
  intro c hn N vs H τ q
  unfold e_infra_Int
  split
  · rw [s_infra_Int_eq, s_infra_Int_eq]; exact funK_ent hn _ _ _ _ _ _
  · rfl
/-- ostiary/infra.mapped -/
def fn_infra_mapped : Fun := ⟨2,
  (.seq (.reg [⟨(some 4), none, (.p .mv), [(.c (.str []))], none⟩])
  (.keep [0, 1] (.seq (.reg [⟨(some 8), none, (.p .mv), [(.t 0)], none⟩,
    ⟨(some 9), none, (.e .strBytes), [(.t 8)], none⟩,
    ⟨(some 5), none, (.p .mv), [(.t 9)], none⟩])
  (.keep [1, 5] (.seq (.seq (.reg [⟨(some 10), none, (.p .mv), [(.t 5)], none⟩,
    ⟨(some 11), none, (.p .len), [(.t 10)], none⟩,
    ⟨(some 12), none, (.p .mv), [(.c (.int .i64 (.ofNat 0)))], none⟩])
  (.keep [1, 5, 10, 11, 12] (.block 0
   (.loop
    (.keep [1, 5, 10, 11, 12] (.seq (.reg [⟨(some 13), none, (.p (.bin .lss)), [(.t 12), (.t 11)], none⟩])
    (.keep [1, 5, 10, 11, 12, 13] (.seq (.cond (.t 13)
     .skip
     (.keep [5] (.exit 0)))
    (.keep [1, 5, 10, 11, 12] (.seq (.block 1
     (.seq (.reg [⟨(some 14), none, (.p .mv), [(.t 12)], none⟩,
       ⟨(some 15), none, (.p (.slIdx 1)), [(.t 10), (.t 12)], none⟩,
       ⟨(some 16), none, (.l (.load none)), [(.t 15)], none⟩,
       ⟨(some 6), none, (.p .mv), [(.t 14)], none⟩,
       ⟨(some 7), none, (.p .mv), [(.t 16)], none⟩])
     (.keep [1, 5, 6, 7, 10, 11, 12] (.reg [⟨(some 17), none, (.p .mv), [(.t 5)], none⟩,
       ⟨(some 18), none, (.p .mv), [(.t 6)], none⟩,
       ⟨(some 19), none, (.p .mv), [(.t 1)], none⟩,
       ⟨(some 20), none, (.p .mv), [(.t 7)], none⟩,
       ⟨(some 21), none, .callv, [(.t 19), (.t 20)], none⟩,
       ⟨(some 22), none, (.p (.slIdx 1)), [(.t 17), (.t 18)], none⟩,
       ⟨none, none, (.e (.store 1)), [(.t 22), (.t 21)], none⟩]))))
    (.keep [1, 5, 10, 11, 12] (.reg [⟨(some 23), none, (.p (.bin .add)), [(.t 12), (.c (.int .i64 (.ofNat 1)))], none⟩,
      ⟨(some 12), none, (.p .mv), [(.t 23)], none⟩]))))))))))))
  (.keep [5] (.seq (.reg [⟨(some 24), none, (.p .mv), [(.t 5)], none⟩,
    ⟨(some 25), none, (.l .bytesStr), [(.t 24)], none⟩,
    ⟨(some 4), none, (.p .mv), [(.t 25)], none⟩])
  (.keep [4] (.keep [4] .ret))))))))),
  [(.t 4)]⟩
def s_infra_mapped_j0 (call : CallK) (N : Nat) (q : KV) (st : St) (τ : Tape) : Ans :=
  match st with
  | ⟨fr, H⟩ =>
  getK fr 5 fun t5 =>
  someK (lBytesStr [t5] H) fun v4 =>
  q v4 H τ
def s_infra_mapped_l1 (call : CallK) (N : Nat) (st : St) (τ : Tape) (k : KC) : Ans :=
  match st with
  | ⟨fr, H⟩ =>
  getK fr 1 fun t1 =>
  getK fr 5 fun t5 =>
  getK fr 10 fun t10 =>
  getK fr 11 fun t11 =>
  getK fr 12 fun t12 =>
  binK .lss t12 t11 fun v5 =>
  condK v5
    (someK (pSlIdx 1 [t10, t12]) fun v6 =>
  someK (lLoad1 [v6] H) fun v7 =>
  opK call .callv [t1, v7] H τ fun v8 H9 τ10 =>
  someK (pSlIdx 1 [t5, t12]) fun v11 =>
  effK (eStore 1 [v11, v8] H9 τ10) fun v12 H13 τ14 =>
  binK .add t12 (.int .i64 (.ofNat 1)) fun v15 =>
  k .normal ⟨(T.set (T.set (T.set (T.set (T.set (T.set (T.set .leaf 1 t1) 5 t5) 10 t10) 11 t11) 12 t12) 23 v15) 12 v15), H13⟩ τ14)
    (k (.exit 0) ⟨(T.set .leaf 5 t5), H⟩ τ)
def s_infra_mapped (call : CallK) (N : Nat) (a0 a1 : V) (H : Heap) (τ : Tape) (q : KV) : Ans :=
  effK (eStrBytes [a0] H τ) fun v0 H1 τ2 =>
  someK (pLen [v0]) fun v3 =>
  loopK (s_infra_mapped_l1 call N) N ⟨(T.set (T.set (T.set (T.set (T.set .leaf 1 a1) 5 v0) 10 v0) 11 v3) 12 (.int .i64 (.ofNat 0))), H1⟩ τ2 (blockK 0 (seqK (s_infra_mapped_j0 call N q) (endK [(.t 4)] q)))
theorem s_infra_mapped_eq (call : CallK) (N : Nat) (a0 a1 : V) (H : Heap) (τ : Tape) (q : KV) : s_infra_mapped call N a0 a1 H τ q = funK call N fn_infra_mapped [a0, a1] H τ q := by kernel_rfl
def e_infra_mapped (call : CallK) (N : Nat) (vs : List V) (H : Heap) (τ : Tape) (q : KV) : Ans := match vs with | [a0, a1] => s_infra_mapped call N a0 a1 H τ q | _ => none
theorem e_infra_mapped_ok : EntOk fn_infra_mapped e_infra_mapped := by
  intro call N vs H τ q r h
  unfold e_infra_mapped at h
  split at h
  · rw [s_infra_mapped_eq] at h; exact h
  · cases h
theorem e_infra_mapped_nat : EntNat e_infra_mapped := by
  intro c hn N vs H τ q
  unfold e_infra_mapped
  split
  · rw [s_infra_mapped_eq, s_infra_mapped_eq]; exact funK_ent hn _ _ _ _ _ _
  · rfl
/-- ostiary/infra.Lower$1 -/
def fn_infra_Lower_1 : Fun := ⟨1,
  (.seq (.reg [⟨(some 2), none, (.p .mv), [(.c (.int .u8 (.ofNat 0)))], none⟩])
  (.keep [0] (.seq (.seq (.reg [⟨(some 3), none, (.p .mv), [(.t 0)], none⟩,
    ⟨(some 4), none, (.p (.bin .geq)), [(.t 3), (.c (.int .u8 (.ofNat 65)))], none⟩,
    ⟨(some 5), none, (.p .mv), [(.t 4)], none⟩,
    ⟨(some 6), some (5, true), (.p .mv), [(.t 0)], none⟩,
    ⟨(some 7), some (5, true), (.p (.bin .leq)), [(.t 6), (.c (.int .u8 (.ofNat 90)))], none⟩,
    ⟨(some 8), none, (.p .pick), [(.t 5), (.t 7), (.c (.bool false))], none⟩])
  (.keep [0, 8] (.cond (.t 8)
   (.reg [⟨(some 9), none, (.p .mv), [(.t 0)], none⟩,
     ⟨(some 10), none, (.p (.bin .add)), [(.t 9), (.c (.int .u8 (.ofNat 32)))], none⟩,
     ⟨(some 0), none, (.p .mv), [(.t 10)], none⟩])
   .skip)))
  (.keep [0] (.seq (.reg [⟨(some 11), none, (.p .mv), [(.t 0)], none⟩,
    ⟨(some 2), none, (.p .mv), [(.t 11)], none⟩])
  (.keep [2] (.keep [2] .ret))))))),
  [(.t 2)]⟩
def s_infra_Lower_1_j0 (call : CallK) (N : Nat) (q : KV) (st : St) (τ : Tape) : Ans :=
  match st with
  | ⟨fr, H⟩ =>
  getK fr 0 fun t0 =>
  q t0 H τ
def s_infra_Lower_1 (call : CallK) (N : Nat) (a0 : V) (H : Heap) (τ : Tape) (q : KV) : Ans :=
  binK .geq a0 (.int .u8 (.ofNat 65)) fun v0 =>
  gK v0 true (fun q' => q' a0 H τ) H τ fun v1 H2 τ3 =>
  gK v0 true (fun q' => binK .leq v1 (.int .u8 (.ofNat 90)) fun v => q' v H2 τ3) H2 τ3 fun v4 H5 τ6 =>
  someK (pPick [v0, v4, (.bool false)]) fun v7 =>
  condK v7
    (binK .add a0 (.int .u8 (.ofNat 32)) fun v8 =>
  s_infra_Lower_1_j0 call N q ⟨(T.set (T.set (T.set (T.set (T.set .leaf 0 a0) 8 v7) 9 a0) 10 v8) 0 v8), H5⟩ τ6)
    (s_infra_Lower_1_j0 call N q ⟨(T.set (T.set .leaf 0 a0) 8 v7), H5⟩ τ6)
theorem s_infra_Lower_1_eq (call : CallK) (N : Nat) (a0 : V) (H : Heap) (τ : Tape) (q : KV) : s_infra_Lower_1 call N a0 H τ q = funK call N fn_infra_Lower_1 [a0] H τ q := by kernel_rfl
def e_infra_Lower_1 (call : CallK) (N : Nat) (vs : List V) (H : Heap) (τ : Tape) (q : KV) : Ans := match vs with | [a0] => s_infra_Lower_1 call N a0 H τ q | _ => none
theorem e_infra_Lower_1_ok : EntOk fn_infra_Lower_1 e_infra_Lower_1 := by
  intro call N vs H τ q r h
  unfold e_infra_Lower_1 at h
  split at h
  · rw [s_infra_Lower_1_eq] at h; exact h
  · cases h
theorem e_infra_Lower_1_nat : EntNat e_infra_Lower_1 := by
  intro c hn N vs H τ q
  unfold e_infra_Lower_1
  split
  · rw [s_infra_Lower_1_eq, s_infra_Lower_1_eq]; exact funK_ent hn _ _ _ _ _ _
  · rfl
/-- strings.IndexByte -/
def fn_strings_IndexByte : Fun := ⟨2,
  (.seq (.reg [⟨(some 4), none, (.p .mv), [(.c (.int .i64 (.ofNat 0)))], none⟩])
  (.keep [0, 1] (.seq (.reg [⟨(some 5), none, (.p .mv), [(.t 0)], none⟩,
    ⟨(some 6), none, (.p .mv), [(.t 1)], none⟩,
    ⟨(some 7), none, (.call 86), [(.t 5), (.t 6)], none⟩,
    ⟨(some 4), none, (.p .mv), [(.t 7)], none⟩])
  (.keep [4] (.keep [4] .ret))))),
  [(.t 4)]⟩
def s_strings_IndexByte (call : CallK) (N : Nat) (a0 a1 : V) (H : Heap) (τ : Tape) (q : KV) : Ans :=
  call f_stringslite_IndexByte [a0, a1] H τ fun v0 H1 τ2 =>
  q v0 H1 τ2
theorem s_strings_IndexByte_eq (call : CallK) (N : Nat) (a0 a1 : V) (H : Heap) (τ : Tape) (q : KV) : s_strings_IndexByte call N a0 a1 H τ q = funK call N fn_strings_IndexByte [a0, a1] H τ q := by kernel_rfl
def e_strings_IndexByte (call : CallK) (N : Nat) (vs : List V) (H : Heap) (τ : Tape) (q : KV) : Ans := match vs with | [a0, a1] => s_strings_IndexByte call N a0 a1 H τ q | _ => none
theorem e_strings_IndexByte_ok : EntOk fn_strings_IndexByte e_strings_IndexByte := by
  intro call N vs H τ q r h
  unfold e_strings_IndexByte at h
  split at h
  · rw [s_strings_IndexByte_eq] at h; exact h
  · cases h
theorem e_strings_IndexByte_nat : EntNat e_strings_IndexByte := by
  intro c hn N vs H τ q
  unfold e_strings_IndexByte
  split
  · rw [s_strings_IndexByte_eq, s_strings_IndexByte_eq]; exact funK_ent hn _ _ _ _ _ _
  · rfl
/-- ostiary/infra.Token -/
def fn_infra_Token : Fun := ⟨1,
  (.seq (.reg [⟨(some 2), none, (.p .mv), [(.c (.bool false))], none⟩])
  (.keep [0] (.seq (.seq (.reg [⟨(some 6), none, (.p .mv), [(.t 0)], none⟩,
    ⟨(some 7), none, (.p .lenS), [(.t 6)], none⟩,
    ⟨(some 8), none, (.p .mv), [(.c (.int .i64 (.ofNat 0)))], none⟩])
  (.keep [0, 7, 8] (.block 0
   (.loop
    (.keep [0, 7, 8] (.seq (.reg [⟨(some 9), none, (.p (.bin .lss)), [(.t 8), (.t 7)], none⟩])
    (.keep [0, 7, 8, 9] (.seq (.cond (.t 9)
     .skip
     (.keep [0] (.exit 0)))
    (.keep [0, 7, 8] (.seq (.block 1
     (.seq (.reg [⟨(some 10), none, (.p .mv), [(.t 8)], none⟩,
       ⟨(some 3), none, (.p .mv), [(.t 10)], none⟩])
     (.keep [0, 3, 7, 8] (.seq (.reg [⟨(some 11), none, (.p .mv), [(.t 0)], none⟩,
       ⟨(some 12), none, (.p .mv), [(.t 3)], none⟩,
       ⟨(some 13), none, (.p .strIndex), [(.t 11), (.t 12)], none⟩,
       ⟨(some 4), none, (.p .mv), [(.t 13)], none⟩])
     (.keep [0, 4, 7, 8] (.seq (.reg [⟨(some 14), none, (.p .mv), [(.t 4)], none⟩,
       ⟨(some 15), none, (.p (.bin .geq)), [(.t 14), (.c (.int .u8 (.ofNat 97)))], none⟩,
       ⟨(some 16), none, (.p .mv), [(.t 15)], none⟩,
       ⟨(some 17), some (16, true), (.p .mv), [(.t 4)], none⟩,
       ⟨(some 18), some (16, true), (.p (.bin .leq)), [(.t 17), (.c (.int .u8 (.ofNat 122)))], none⟩,
       ⟨(some 19), none, (.p .pick), [(.t 16), (.t 18), (.c (.bool false))], none⟩,
       ⟨(some 20), none, (.p .mv), [(.t 19)], none⟩,
       ⟨(some 21), some (20, false), (.p .mv), [(.t 4)], none⟩,
       ⟨(some 22), some (20, false), (.p (.bin .geq)), [(.t 21), (.c (.int .u8 (.ofNat 65)))], none⟩,
       ⟨(some 23), some (20, false), (.p .mv), [(.t 22)], none⟩,
       ⟨(some 24), some (23, true), (.p .mv), [(.t 4)], none⟩,
       ⟨(some 25), some (23, true), (.p (.bin .leq)), [(.t 24), (.c (.int .u8 (.ofNat 90)))], none⟩,
       ⟨(some 26), some (20, false), (.p .pick), [(.t 23), (.t 25), (.c (.bool false))], none⟩,
       ⟨(some 27), none, (.p .pick), [(.t 20), (.c (.bool true)), (.t 26)], none⟩,
       ⟨(some 28), none, (.p .mv), [(.t 27)], none⟩,
       ⟨(some 29), some (28, false), (.p .mv), [(.t 4)], none⟩,
       ⟨(some 30), some (28, false), (.p (.bin .geq)), [(.t 29), (.c (.int .u8 (.ofNat 48)))], none⟩,
       ⟨(some 31), some (28, false), (.p .mv), [(.t 30)], none⟩,
       ⟨(some 32), some (31, true), (.p .mv), [(.t 4)], none⟩,
       ⟨(some 33), some (31, true), (.p (.bin .leq)), [(.t 32), (.c (.int .u8 (.ofNat 57)))], none⟩,
       ⟨(some 34), some (28, false), (.p .pick), [(.t 31), (.t 33), (.c (.bool false))], none⟩,
       ⟨(some 35), none, (.p .pick), [(.t 28), (.c (.bool true)), (.t 34)], none⟩,
       ⟨(some 5), none, (.p .mv), [(.t 35)], none⟩])
     (.keep [0, 4, 5, 7, 8] (.seq (.reg [⟨(some 36), none, (.p .mv), [(.t 5)], none⟩,
       ⟨(some 37), none, (.p (.un .not)), [(.t 36)], none⟩,
       ⟨(some 38), none, (.p .mv), [(.t 37)], none⟩,
       ⟨(some 39), some (38, true), (.p .mv), [(.t 4)], none⟩,
       ⟨(some 40), some (38, true), (.call 70), [(.c (.str (bs [33, 35, 36, 37, 38, 39, 42, 43, 45, 46, 94, 95, 96, 124, 126]))), (.t 39)], none⟩,
       ⟨(some 41), some (38, true), (.p (.bin .lss)), [(.t 40), (.c (.int .i64 (.ofNat 0)))], none⟩,
       ⟨(some 42), none, (.p .pick), [(.t 38), (.t 41), (.c (.bool false))], none⟩])
     (.keep [0, 7, 8, 42] (.cond (.t 42)
      (.seq (.reg [⟨(some 2), none, (.p .mv), [(.c (.bool false))], none⟩])
      (.keep [2] (.keep [2] .ret)))
      .skip))))))))))
    (.keep [0, 7, 8] (.reg [⟨(some 43), none, (.p (.bin .add)), [(.t 8), (.c (.int .i64 (.ofNat 1)))], none⟩,
      ⟨(some 8), none, (.p .mv), [(.t 43)], none⟩]))))))))))))
  (.keep [0] (.seq (.reg [⟨(some 44), none, (.p .mv), [(.t 0)], none⟩,
    ⟨(some 45), none, (.p (.bin .neq)), [(.t 44), (.c (.str []))], none⟩,
    ⟨(some 2), none, (.p .mv), [(.t 45)], none⟩])
  (.keep [2] (.keep [2] .ret))))))),
  [(.t 2)]⟩
def s_infra_Token_j0 (call : CallK) (N : Nat) (q : KV) (st : St) (τ : Tape) : Ans :=
  match st with
  | ⟨fr, H⟩ =>
  getK fr 0 fun t0 =>
  binK .neq t0 (.str []) fun v1 =>
  q v1 H τ
def s_infra_Token_l1 (call : CallK) (N : Nat) (st : St) (τ : Tape) (k : KC) : Ans :=
  match st with
  | ⟨fr, H⟩ =>
  getK fr 0 fun t0 =>
  getK fr 7 fun t7 =>
  getK fr 8 fun t8 =>
  binK .lss t8 t7 fun v2 =>
  condK v2
    (someK (pStrIndex [t0, t8]) fun v3 =>
  binK .geq v3 (.int .u8 (.ofNat 97)) fun v4 =>
  gK v4 true (fun q' => q' v3 H τ) H τ fun v5 H6 τ7 =>
  gK v4 true (fun q' => binK .leq v5 (.int .u8 (.ofNat 122)) fun v => q' v H6 τ7) H6 τ7 fun v8 H9 τ10 =>
  someK (pPick [v4, v8, (.bool false)]) fun v11 =>
  gK v11 false (fun q' => q' v3 H9 τ10) H9 τ10 fun v12 H13 τ14 =>
  gK v11 false (fun q' => binK .geq v12 (.int .u8 (.ofNat 65)) fun v => q' v H13 τ14) H13 τ14 fun v15 H16 τ17 =>
  gK v11 false (fun q' => q' v15 H16 τ17) H16 τ17 fun v18 H19 τ20 =>
  gK v18 true (fun q' => q' v3 H19 τ20) H19 τ20 fun v21 H22 τ23 =>
  gK v18 true (fun q' => binK .leq v21 (.int .u8 (.ofNat 90)) fun v => q' v H22 τ23) H22 τ23 fun v24 H25 τ26 =>
  gK v11 false (fun q' => someK (pPick [v18, v24, (.bool false)]) fun v => q' v H25 τ26) H25 τ26 fun v27 H28 τ29 =>
  someK (pPick [v11, (.bool true), v27]) fun v30 =>
  gK v30 false (fun q' => q' v3 H28 τ29) H28 τ29 fun v31 H32 τ33 =>
  gK v30 false (fun q' => binK .geq v31 (.int .u8 (.ofNat 48)) fun v => q' v H32 τ33) H32 τ33 fun v34 H35 τ36 =>
  gK v30 false (fun q' => q' v34 H35 τ36) H35 τ36 fun v37 H38 τ39 =>
  gK v37 true (fun q' => q' v3 H38 τ39) H38 τ39 fun v40 H41 τ42 =>
  gK v37 true (fun q' => binK .leq v40 (.int .u8 (.ofNat 57)) fun v => q' v H41 τ42) H41 τ42 fun v43 H44 τ45 =>
  gK v30 false (fun q' => someK (pPick [v37, v43, (.bool false)]) fun v => q' v H44 τ45) H44 τ45 fun v46 H47 τ48 =>
  someK (pPick [v30, (.bool true), v46]) fun v49 =>
  unK .not v49 fun v50 =>
  gK v50 true (fun q' => q' v3 H47 τ48) H47 τ48 fun v51 H52 τ53 =>
  gK v50 true (fun q' => call f_strings_IndexByte [(.str (bs [33, 35, 36, 37, 38, 39, 42, 43, 45, 46, 94, 95, 96, 124, 126])), v51] H52 τ53 q') H52 τ53 fun v54 H55 τ56 =>
  gK v50 true (fun q' => binK .lss v54 (.int .i64 (.ofNat 0)) fun v => q' v H55 τ56) H55 τ56 fun v57 H58 τ59 =>
  someK (pPick [v50, v57, (.bool false)]) fun v60 =>
  condK v60
    (k .ret ⟨(T.set .leaf 2 (.bool false)), H58⟩ τ59)
    (binK .add t8 (.int .i64 (.ofNat 1)) fun v61 =>
  k .normal ⟨(T.set (T.set (T.set (T.set (T.set .leaf 0 t0) 7 t7) 8 t8) 43 v61) 8 v61), H58⟩ τ59))
    (k (.exit 0) ⟨(T.set .leaf 0 t0), H⟩ τ)
def s_infra_Token (call : CallK) (N : Nat) (a0 : V) (H : Heap) (τ : Tape) (q : KV) : Ans :=
  someK (pLenS [a0]) fun v0 =>
  loopK (s_infra_Token_l1 call N) N ⟨(T.set (T.set (T.set .leaf 0 a0) 7 v0) 8 (.int .i64 (.ofNat 0))), H⟩ τ (blockK 0 (seqK (s_infra_Token_j0 call N q) (endK [(.t 2)] q)))
theorem s_infra_Token_eq (call : CallK) (N : Nat) (a0 : V) (H : Heap) (τ : Tape) (q : KV) : s_infra_Token call N a0 H τ q = funK call N fn_infra_Token [a0] H τ q := by kernel_rfl
def e_infra_Token (call : CallK) (N : Nat) (vs : List V) (H : Heap) (τ : Tape) (q : KV) : Ans := match vs with | [a0] => s_infra_Token call N a0 H τ q | _ => none
theorem e_infra_Token_ok : EntOk fn_infra_Token e_infra_Token := by
  intro call N vs H τ q r h
  unfold e_infra_Token at h
  split at h
  · rw [s_infra_Token_eq] at h; exact h
  · cases h
theorem e_infra_Token_nat : EntNat e_infra_Token := by
  intro c hn N vs H τ q
  unfold e_infra_Token
  split
  · rw [s_infra_Token_eq, s_infra_Token_eq]; exact funK_ent hn _ _ _ _ _ _
  · rfl
/-- internal/stringslite.HasPrefix -/
def fn_stringslite_HasPrefix : Fun := ⟨2,
  (.seq (.reg [⟨(some 4), none, (.p .mv), [(.c (.bool false))], none⟩])
  (.keep [0, 1] (.seq (.reg [⟨(some 5), none, (.p .mv), [(.t 0)], none⟩,
    ⟨(some 6), none, (.p .lenS), [(.t 5)], none⟩,
    ⟨(some 7), none, (.p .mv), [(.t 1)], none⟩,
    ⟨(some 8), none, (.p .lenS), [(.t 7)], none⟩,
    ⟨(some 9), none, (.p (.bin .geq)), [(.t 6), (.t 8)], none⟩,
    ⟨(some 10), none, (.p .mv), [(.t 9)], none⟩,
    ⟨(some 11), some (10, true), (.p .mv), [(.t 0)], none⟩,
    ⟨(some 12), some (10, true), (.p .mv), [(.t 1)], none⟩,
    ⟨(some 13), some (10, true), (.p .lenS), [(.t 12)], none⟩,
    ⟨(some 14), some (10, true), (.p (.strSlice false true)), [(.t 11), (.t 13)], none⟩,
    ⟨(some 15), some (10, true), (.p .mv), [(.t 1)], none⟩,
    ⟨(some 16), some (10, true), (.p (.bin .eql)), [(.t 14), (.t 15)], none⟩,
    ⟨(some 17), none, (.p .pick), [(.t 10), (.t 16), (.c (.bool false))], none⟩,
    ⟨(some 4), none, (.p .mv), [(.t 17)], none⟩])
  (.keep [4] (.keep [4] .ret))))),
  [(.t 4)]⟩
def s_stringslite_HasPrefix (call : CallK) (N : Nat) (a0 a1 : V) (H : Heap) (τ : Tape) (q : KV) : Ans :=
  someK (pLenS [a0]) fun v0 =>
  someK (pLenS [a1]) fun v1 =>
  binK .geq v0 v1 fun v2 =>
  gK v2 true (fun q' => q' a0 H τ) H τ fun v3 H4 τ5 =>
  gK v2 true (fun q' => q' a1 H4 τ5) H4 τ5 fun v6 H7 τ8 =>
  gK v2 true (fun q' => someK (pLenS [v6]) fun v => q' v H7 τ8) H7 τ8 fun v9 H10 τ11 =>
  gK v2 true (fun q' => someK (pStrSlice false true [v3, v9]) fun v => q' v H10 τ11) H10 τ11 fun v12 H13 τ14 =>
  gK v2 true (fun q' => q' a1 H13 τ14) H13 τ14 fun v15 H16 τ17 =>
  gK v2 true (fun q' => binK .eql v12 v15 fun v => q' v H16 τ17) H16 τ17 fun v18 H19 τ20 =>
  someK (pPick [v2, v18, (.bool false)]) fun v21 =>
  q v21 H19 τ20
theorem s_stringslite_HasPrefix_eq (call : CallK) (N : Nat) (a0 a1 : V) (H : Heap) (τ : Tape) (q : KV) : s_stringslite_HasPrefix call N a0 a1 H τ q = funK call N fn_stringslite_HasPrefix [a0, a1] H τ q := by kernel_rfl
def e_stringslite_HasPrefix (call : CallK) (N : Nat) (vs : List V) (H : Heap) (τ : Tape) (q : KV) : Ans := match vs with | [a0, a1] => s_stringslite_HasPrefix call N a0 a1 H τ q | _ => none
theorem e_stringslite_HasPrefix_ok : EntOk fn_stringslite_HasPrefix e_stringslite_HasPrefix := by
  intro call N vs H τ q r h
  unfold e_stringslite_HasPrefix at h
  split at h
  · rw [s_stringslite_HasPrefix_eq] at h; exact h
  · cases h
theorem e_stringslite_HasPrefix_nat : EntNat e_stringslite_HasPrefix := by
  intro c hn N vs H τ q
  unfold e_stringslite_HasPrefix
  split
  · rw [s_stringslite_HasPrefix_eq, s_stringslite_HasPrefix_eq]; exact funK_ent hn _ _ _ _ _ _
  · rfl
/-- ostiary/ostiaryref5.Value -/
def fn_ref5_Value : Fun := ⟨1,
  (.seq (.reg [⟨(some 2), none, (.p .mv), [(.c (.str []))], none⟩,
    ⟨(some 3), none, (.p .mv), [(.c (.bool false))], none⟩])
  (.keep [0] (.seq (.reg [⟨(some 5), none, (.p .mv), [(.t 0)], none⟩,
    ⟨(some 6), none, (.call 89), [(.t 5), (.c (.bool false))], none⟩,
    ⟨(some 0), none, (.p .mv), [(.t 6)], none⟩])
  (.keep [0] (.seq (.seq (.reg [⟨(some 4), none, (.p .mv), [(.c (.int .i64 (.ofNat 0)))], none⟩])
  (.keep [0, 4] (.block 0
   (.loop
    (.keep [0, 4] (.seq (.seq (.reg [⟨(some 7), none, (.p .mv), [(.t 4)], none⟩,
      ⟨(some 8), none, (.p .mv), [(.t 0)], none⟩,
      ⟨(some 9), none, (.p .lenS), [(.t 8)], none⟩,
      ⟨(some 10), none, (.p (.bin .lss)), [(.t 7), (.t 9)], none⟩])
    (.keep [0, 4, 10] (.cond (.t 10)
     .skip
     (.keep [0] (.exit 0)))))
    (.keep [0, 4] (.seq (.block 1
     (.seq (.reg [⟨(some 13), none, (.p .mv), [(.t 0)], none⟩,
       ⟨(some 14), none, (.p .mv), [(.t 4)], none⟩,
       ⟨(some 15), none, (.p .strIndex), [(.t 13), (.t 14)], none⟩,
       ⟨(some 16), none, (.p (.bin .eql)), [(.t 15), (.c (.int .u8 (.ofNat 0)))], none⟩,
       ⟨(some 17), none, (.p .mv), [(.t 16)], none⟩,
       ⟨(some 18), some (17, false), (.p .mv), [(.t 0)], none⟩,
       ⟨(some 19), some (17, false), (.p .mv), [(.t 4)], none⟩,
       ⟨(some 20), some (17, false), (.p .strIndex), [(.t 18), (.t 19)], none⟩,
       ⟨(some 21), some (17, false), (.p (.bin .eql)), [(.t 20), (.c (.int .u8 (.ofNat 10)))], none⟩,
       ⟨(some 22), none, (.p .pick), [(.t 17), (.c (.bool true)), (.t 21)], none⟩,
       ⟨(some 23), none, (.p .mv), [(.t 22)], none⟩,
       ⟨(some 24), some (23, false), (.p .mv), [(.t 0)], none⟩,
       ⟨(some 25), some (23, false), (.p .mv), [(.t 4)], none⟩,
       ⟨(some 26), some (23, false), (.p .strIndex), [(.t 24), (.t 25)], none⟩,
       ⟨(some 27), some (23, false), (.p (.bin .eql)), [(.t 26), (.c (.int .u8 (.ofNat 13)))], none⟩,
       ⟨(some 28), none, (.p .pick), [(.t 23), (.c (.bool true)), (.t 27)], none⟩])
     (.keep [0, 4, 28] (.cond (.t 28)
      (.seq (.reg [⟨(some 2), none, (.p .mv), [(.c (.str []))], none⟩,
        ⟨(some 3), none, (.p .mv), [(.c (.bool false))], none⟩])
      (.keep [2, 3] (.keep [2, 3] .ret)))
      .skip))))
    (.keep [0, 4] (.reg [⟨(some 11), none, (.p .mv), [(.t 4)], none⟩,
      ⟨(some 12), none, (.p (.bin .add)), [(.t 11), (.c (.int .i64 (.ofNat 1)))], none⟩,
      ⟨(some 4), none, (.p .mv), [(.t 12)], none⟩]))))))))))
  (.keep [0] (.seq (.reg [⟨(some 29), none, (.p .mv), [(.t 0)], none⟩,
    ⟨(some 2), none, (.p .mv), [(.t 29)], none⟩,
    ⟨(some 3), none, (.p .mv), [(.c (.bool true))], none⟩])
  (.keep [2, 3] (.keep [2, 3] .ret))))))))),
  [(.t 2), (.t 3)]⟩
def s_ref5_Value_j0 (call : CallK) (N : Nat) (q : KV) (st : St) (τ : Tape) : Ans :=
  match st with
  | ⟨fr, H⟩ =>
  getK fr 0 fun t0 =>
  q (.tup [t0, (.bool true)]) H τ
def s_ref5_Value_l1 (call : CallK) (N : Nat) (st : St) (τ : Tape) (k : KC) : Ans :=
  match st with
  | ⟨fr, H⟩ =>
  getK fr 0 fun t0 =>
  getK fr 4 fun t4 =>
  someK (pLenS [t0]) fun v3 =>
  binK .lss t4 v3 fun v4 =>
  condK v4
    (someK (pStrIndex [t0, t4]) fun v5 =>
  binK .eql v5 (.int .u8 (.ofNat 0)) fun v6 =>
  gK v6 false (fun q' => q' t0 H τ) H τ fun v7 H8 τ9 =>
  gK v6 false (fun q' => q' t4 H8 τ9) H8 τ9 fun v10 H11 τ12 =>
  gK v6 false (fun q' => someK (pStrIndex [v7, v10]) fun v => q' v H11 τ12) H11 τ12 fun v13 H14 τ15 =>
  gK v6 false (fun q' => binK .eql v13 (.int .u8 (.ofNat 10)) fun v => q' v H14 τ15) H14 τ15 fun v16 H17 τ18 =>
  someK (pPick [v6, (.bool true), v16]) fun v19 =>
  gK v19 false (fun q' => q' t0 H17 τ18) H17 τ18 fun v20 H21 τ22 =>
  gK v19 false (fun q' => q' t4 H21 τ22) H21 τ22 fun v23 H24 τ25 =>
  gK v19 false (fun q' => someK (pStrIndex [v20, v23]) fun v => q' v H24 τ25) H24 τ25 fun v26 H27 τ28 =>
  gK v19 false (fun q' => binK .eql v26 (.int .u8 (.ofNat 13)) fun v => q' v H27 τ28) H27 τ28 fun v29 H30 τ31 =>
  someK (pPick [v19, (.bool true), v29]) fun v32 =>
  condK v32
    (k .ret ⟨(T.set (T.set .leaf 2 (.str [])) 3 (.bool false)), H30⟩ τ31)
    (binK .add t4 (.int .i64 (.ofNat 1)) fun v33 =>
  k .normal ⟨(T.set (T.set (T.set (T.set (T.set .leaf 0 t0) 4 t4) 11 t4) 12 v33) 4 v33), H30⟩ τ31))
    (k (.exit 0) ⟨(T.set .leaf 0 t0), H⟩ τ)
def s_ref5_Value (call : CallK) (N : Nat) (a0 : V) (H : Heap) (τ : Tape) (q : KV) : Ans :=
  call f_ref1_Trim [a0, (.bool false)] H τ fun v0 H1 τ2 =>
  loopK (s_ref5_Value_l1 call N) N ⟨(T.set (T.set .leaf 0 v0) 4 (.int .i64 (.ofNat 0))), H1⟩ τ2 (blockK 0 (seqK (s_ref5_Value_j0 call N q) (endK [(.t 2), (.t 3)] q)))
theorem s_ref5_Value_eq (call : CallK) (N : Nat) (a0 : V) (H : Heap) (τ : Tape) (q : KV) : s_ref5_Value call N a0 H τ q = funK call N fn_ref5_Value [a0] H τ q := by kernel_rfl
def e_ref5_Value (call : CallK) (N : Nat) (vs : List V) (H : Heap) (τ : Tape) (q : KV) : Ans := match vs with | [a0] => s_ref5_Value call N a0 H τ q | _ => none
theorem e_ref5_Value_ok : EntOk fn_ref5_Value e_ref5_Value := by
  intro call N vs H τ q r h
  unfold e_ref5_Value at h
  split at h
  · rw [s_ref5_Value_eq] at h; exact h
  · cases h
theorem e_ref5_Value_nat : EntNat e_ref5_Value := by
  intro c hn N vs H τ q
  unfold e_ref5_Value
  split
  · rw [s_ref5_Value_eq, s_ref5_Value_eq]; exact funK_ent hn _ _ _ _ _ _
  · rfl
/-- ostiary/ostiaryref1.Token -/
def fn_ref1_Token : Fun := ⟨1,
  (.seq (.reg [⟨(some 2), none, (.p .mv), [(.c (.bool false))], none⟩])
  (.keep [0] (.seq (.seq (.reg [⟨(some 3), none, (.p .mv), [(.c (.int .i64 (.ofNat 0)))], none⟩])
  (.keep [0, 3] (.block 0
   (.loop
    (.keep [0, 3] (.seq (.seq (.reg [⟨(some 7), none, (.p .mv), [(.t 3)], none⟩,
      ⟨(some 8), none, (.p .mv), [(.t 0)], none⟩,
      ⟨(some 9), none, (.p .lenS), [(.t 8)], none⟩,
      ⟨(some 10), none, (.p (.bin .lss)), [(.t 7), (.t 9)], none⟩])
    (.keep [0, 3, 10] (.cond (.t 10)
     .skip
     (.keep [0] (.exit 0)))))
    (.keep [0, 3] (.seq (.block 1
     (.seq (.reg [⟨(some 13), none, (.p .mv), [(.t 0)], none⟩,
       ⟨(some 14), none, (.p .mv), [(.t 3)], none⟩,
       ⟨(some 15), none, (.p .strIndex), [(.t 13), (.t 14)], none⟩,
       ⟨(some 4), none, (.p .mv), [(.t 15)], none⟩])
     (.keep [0, 3, 4] (.seq (.reg [⟨(some 16), none, (.p .mv), [(.t 4)], none⟩,
       ⟨(some 17), none, (.call 90), [(.t 16)], none⟩,
       ⟨(some 18), none, (.p .mv), [(.t 17)], none⟩,
       ⟨(some 19), some (18, false), (.p .mv), [(.t 4)], none⟩,
       ⟨(some 20), some (18, false), (.call 91), [(.t 19)], none⟩,
       ⟨(some 21), none, (.p .pick), [(.t 18), (.c (.bool true)), (.t 20)], none⟩,
       ⟨(some 5), none, (.p .mv), [(.t 21)], none⟩])
     (.keep [0, 3, 4, 5] (.seq (.seq (.reg [⟨(some 6), none, (.p .mv), [(.c (.int .i64 (.ofNat 0)))], none⟩])
     (.keep [0, 3, 4, 5, 6] (.block 2
      (.loop
       (.keep [0, 3, 4, 5, 6] (.seq (.seq (.reg [⟨(some 22), none, (.p .mv), [(.t 6)], none⟩,
         ⟨(some 23), none, (.p (.bin .lss)), [(.t 22), (.c (.int .i64 (.ofNat 15)))], none⟩])
       (.keep [0, 3, 4, 5, 6, 23] (.cond (.t 23)
        .skip
        (.keep [0, 3, 5] (.exit 2)))))
       (.keep [0, 3, 4, 5, 6] (.seq (.block 3
        (.reg [⟨(some 26), none, (.p .mv), [(.t 5)], none⟩,
          ⟨(some 27), none, (.p .mv), [(.t 26)], none⟩,
          ⟨(some 28), some (27, false), (.p .mv), [(.t 4)], none⟩,
          ⟨(some 29), some (27, false), (.p .mv), [(.t 6)], none⟩,
          ⟨(some 30), some (27, false), (.p .strIndex), [(.c (.str (bs [33, 35, 36, 37, 38, 39, 42, 43, 45, 46, 94, 95, 96, 124, 126]))), (.t 29)], none⟩,
          ⟨(some 31), some (27, false), (.p (.bin .eql)), [(.t 28), (.t 30)], none⟩,
          ⟨(some 32), none, (.p .pick), [(.t 27), (.c (.bool true)), (.t 31)], none⟩,
          ⟨(some 5), none, (.p .mv), [(.t 32)], none⟩]))
       (.keep [0, 3, 4, 5, 6] (.reg [⟨(some 24), none, (.p .mv), [(.t 6)], none⟩,
         ⟨(some 25), none, (.p (.bin .add)), [(.t 24), (.c (.int .i64 (.ofNat 1)))], none⟩,
         ⟨(some 6), none, (.p .mv), [(.t 25)], none⟩]))))))))))
     (.keep [0, 3, 5] (.seq (.reg [⟨(some 33), none, (.p .mv), [(.t 5)], none⟩,
       ⟨(some 34), none, (.p (.un .not)), [(.t 33)], none⟩])
     (.keep [0, 3, 34] (.cond (.t 34)
      (.seq (.reg [⟨(some 2), none, (.p .mv), [(.c (.bool false))], none⟩])
      (.keep [2] (.keep [2] .ret)))
      .skip))))))))))
    (.keep [0, 3] (.reg [⟨(some 11), none, (.p .mv), [(.t 3)], none⟩,
      ⟨(some 12), none, (.p (.bin .add)), [(.t 11), (.c (.int .i64 (.ofNat 1)))], none⟩,
      ⟨(some 3), none, (.p .mv), [(.t 12)], none⟩]))))))))))
  (.keep [0] (.seq (.reg [⟨(some 35), none, (.p .mv), [(.t 0)], none⟩,
    ⟨(some 36), none, (.p .lenS), [(.t 35)], none⟩,
    ⟨(some 37), none, (.p (.bin .gtr)), [(.t 36), (.c (.int .i64 (.ofNat 0)))], none⟩,
    ⟨(some 2), none, (.p .mv), [(.t 37)], none⟩])
  (.keep [2] (.keep [2] .ret))))))),
  [(.t 2)]⟩
def s_ref1_Token_j0 (call : CallK) (N : Nat) (q : KV) (st : St) (τ : Tape) : Ans :=
  match st with
  | ⟨fr, H⟩ =>
  getK fr 0 fun t0 =>
  someK (pLenS [t0]) fun v0 =>
  binK .gtr v0 (.int .i64 (.ofNat 0)) fun v1 =>
  q v1 H τ
def s_ref1_Token_j2 (call : CallK) (N : Nat) (k : KC) (st : St) (τ : Tape) : Ans :=
  match st with
  | ⟨fr, H⟩ =>
  getK fr 0 fun t0 =>
  getK fr 3 fun t3 =>
  binK .add t3 (.int .i64 (.ofNat 1)) fun v15 =>
  k .normal ⟨(T.set (T.set (T.set (T.set (T.set .leaf 0 t0) 3 t3) 11 t3) 12 v15) 3 v15), H⟩ τ
def s_ref1_Token_j3 (call : CallK) (N : Nat) (k : KC) (st : St) (τ : Tape) : Ans :=
  match st with
  | ⟨fr, H⟩ =>
  getK fr 0 fun t0 =>
  getK fr 3 fun t3 =>
  getK fr 5 fun t5 =>
  unK .not t5 fun v16 =>
  condK v16
    (k .ret ⟨(T.set .leaf 2 (.bool false)), H⟩ τ)
    (s_ref1_Token_j2 call N k ⟨(T.set (T.set (T.set .leaf 0 t0) 3 t3) 34 v16), H⟩ τ)
def s_ref1_Token_l4 (call : CallK) (N : Nat) (st : St) (τ : Tape) (k : KC) : Ans :=
  match st with
  | ⟨fr, H⟩ =>
  getK fr 0 fun t0 =>
  getK fr 3 fun t3 =>
  getK fr 4 fun t4 =>
  getK fr 5 fun t5 =>
  getK fr 6 fun t6 =>
  binK .lss t6 (.int .i64 (.ofNat 15)) fun v17 =>
  condK v17
    (gK t5 false (fun q' => q' t4 H τ) H τ fun v18 H19 τ20 =>
  gK t5 false (fun q' => q' t6 H19 τ20) H19 τ20 fun v21 H22 τ23 =>
  gK t5 false (fun q' => someK (pStrIndex [(.str (bs [33, 35, 36, 37, 38, 39, 42, 43, 45, 46, 94, 95, 96, 124, 126])), v21]) fun v => q' v H22 τ23) H22 τ23 fun v24 H25 τ26 =>
  gK t5 false (fun q' => binK .eql v18 v24 fun v => q' v H25 τ26) H25 τ26 fun v27 H28 τ29 =>
  someK (pPick [t5, (.bool true), v27]) fun v30 =>
  binK .add t6 (.int .i64 (.ofNat 1)) fun v31 =>
  k .normal ⟨(T.set (T.set (T.set (T.set (T.set (T.set (T.set (T.set .leaf 0 t0) 3 t3) 4 t4) 5 v30) 6 t6) 24 t6) 25 v31) 6 v31), H28⟩ τ29)
    (k (.exit 2) ⟨(T.set (T.set (T.set .leaf 0 t0) 3 t3) 5 t5), H⟩ τ)
def s_ref1_Token_l1 (call : CallK) (N : Nat) (st : St) (τ : Tape) (k : KC) : Ans :=
  match st with
  | ⟨fr, H⟩ =>
  getK fr 0 fun t0 =>
  getK fr 3 fun t3 =>
  someK (pLenS [t0]) fun v2 =>
  binK .lss t3 v2 fun v3 =>
  condK v3
    (someK (pStrIndex [t0, t3]) fun v4 =>
  call f_ref1_Letter [v4] H τ fun v5 H6 τ7 =>
  gK v5 false (fun q' => q' v4 H6 τ7) H6 τ7 fun v8 H9 τ10 =>
  gK v5 false (fun q' => call f_ref1_Digit [v8] H9 τ10 q') H9 τ10 fun v11 H12 τ13 =>
  someK (pPick [v5, (.bool true), v11]) fun v14 =>
  loopK (s_ref1_Token_l4 call N) N ⟨(T.set (T.set (T.set (T.set (T.set .leaf 0 t0) 3 t3) 4 v4) 5 v14) 6 (.int .i64 (.ofNat 0))), H12⟩ τ13 (blockK 2 (seqK (s_ref1_Token_j3 call N k) (blockK 1 (seqK (s_ref1_Token_j2 call N k) k)))))
    (k (.exit 0) ⟨(T.set .leaf 0 t0), H⟩ τ)
def s_ref1_Token (call : CallK) (N : Nat) (a0 : V) (H : Heap) (τ : Tape) (q : KV) : Ans :=
  loopK (s_ref1_Token_l1 call N) N ⟨(T.set (T.set .leaf 0 a0) 3 (.int .i64 (.ofNat 0))), H⟩ τ (blockK 0 (seqK (s_ref1_Token_j0 call N q) (endK [(.t 2)] q)))
theorem s_ref1_Token_eq (call : CallK) (N : Nat) (a0 : V) (H : Heap) (τ : Tape) (q : KV) : s_ref1_Token call N a0 H τ q = funK call N fn_ref1_Token [a0] H τ q := by kernel_rfl
def e_ref1_Token (call : CallK) (N : Nat) (vs : List V) (H : Heap) (τ : Tape) (q : KV) : Ans := match vs with | [a0] => s_ref1_Token call N a0 H τ q | _ => none
theorem e_ref1_Token_ok : EntOk fn_ref1_Token e_ref1_Token := by
  intro call N vs H τ q r h
  unfold e_ref1_Token at h
  split at h
  · rw [s_ref1_Token_eq] at h; exact h
  · cases h
theorem e_ref1_Token_nat : EntNat e_ref1_Token := by
  intro c hn N vs H τ q
  unfold e_ref1_Token
  split
  · rw [s_ref1_Token_eq, s_ref1_Token_eq]; exact funK_ent hn _ _ _ _ _ _
  · rfl
/-- strings.IndexAny -/
def fn_strings_IndexAny : Fun := ⟨2,
  (.seq (.reg [⟨(some 4), none, (.p .mv), [(.c (.int .i64 (.ofNat 0)))], none⟩])
  (.keep [0, 1] (.seq (.seq (.reg [⟨(some 11), none, (.p .mv), [(.t 1)], none⟩,
    ⟨(some 12), none, (.p (.bin .eql)), [(.t 11), (.c (.str []))], none⟩])
  (.keep [0, 1, 12] (.cond (.t 12)
   (.seq (.reg [⟨(some 4), none, (.p .mv), [(.c (.int .i64 (.negSucc 0)))], none⟩])
   (.keep [4] (.keep [4] .ret)))
   .skip)))
  (.keep [0, 1] (.seq (.seq (.reg [⟨(some 13), none, (.p .mv), [(.t 1)], none⟩,
    ⟨(some 14), none, (.p .lenS), [(.t 13)], none⟩,
    ⟨(some 15), none, (.p (.bin .eql)), [(.t 14), (.c (.int .i64 (.ofNat 1)))], none⟩])
  (.keep [0, 1, 15] (.cond (.t 15)
   (.seq (.reg [⟨(some 16), none, (.p .mv), [(.t 1)], none⟩,
     ⟨(some 17), none, (.p .strIndex), [(.t 16), (.c (.int .i64 (.ofNat 0)))], none⟩,
     ⟨(some 18), none, (.p (.toInt .i32)), [(.t 17)], none⟩,
     ⟨(some 5), none, (.p .mv), [(.t 18)], none⟩])
   (.keep [0, 5] (.seq (.seq (.reg [⟨(some 19), none, (.p .mv), [(.t 5)], none⟩,
     ⟨(some 20), none, (.p (.bin .geq)), [(.t 19), (.c (.int .i32 (.ofNat 128)))], none⟩])
   (.keep [0, 5, 20] (.cond (.t 20)
    (.reg [⟨(some 5), none, (.p .mv), [(.c (.int .i32 (.ofNat 65533)))], none⟩])
    .skip)))
   (.keep [0, 5] (.seq (.reg [⟨(some 21), none, (.p .mv), [(.t 0)], none⟩,
     ⟨(some 22), none, (.p .mv), [(.t 5)], none⟩,
     ⟨(some 23), none, (.call 92), [(.t 21), (.t 22)], none⟩,
     ⟨(some 4), none, (.p .mv), [(.t 23)], none⟩])
   (.keep [4] (.keep [4] .ret)))))))
   .skip)))
  (.keep [0, 1] (.seq (.seq (.reg [⟨(some 24), none, (.p .mv), [(.t 0)], none⟩,
    ⟨(some 25), none, (.p .lenS), [(.t 24)], none⟩,
    ⟨(some 26), none, (.call 93), [(.t 25)], none⟩])
  (.keep [0, 1, 26] (.cond (.t 26)
   (.seq (.reg [⟨(some 28), none, (.p .mv), [(.t 1)], none⟩,
     ⟨(some 29), none, (.call 60), [(.t 28)], none⟩,
     ⟨(some 27), none, (.p .mv), [(.t 29)], none⟩,
     ⟨(some 30), none, (.p (.extract 0)), [(.t 27)], none⟩,
     ⟨(some 31), none, (.p (.extract 1)), [(.t 27)], none⟩,
     ⟨(some 6), none, (.e (.alloc (repl 256 [(.bool false)]))), [], none⟩,
     ⟨none, none, (.e (.store 256)), [(.t 6), (.t 30)], none⟩,
     ⟨(some 7), none, (.p .mv), [(.t 31)], none⟩])
   (.keep [0, 1, 6, 7] (.seq (.reg [⟨(some 32), none, (.p .mv), [(.t 7)], none⟩])
   (.keep [0, 1, 6, 32] (.cond (.t 32)
    (.seq (.seq (.reg [⟨(some 8), none, (.p .mv), [(.c (.int .i64 (.ofNat 0)))], none⟩])
    (.keep [0, 6, 8] (.block 0
     (.loop
      (.keep [0, 6, 8] (.seq (.seq (.reg [⟨(some 33), none, (.p .mv), [(.t 8)], none⟩,
        ⟨(some 34), none, (.p .mv), [(.t 0)], none⟩,
        ⟨(some 35), none, (.p .lenS), [(.t 34)], none⟩,
        ⟨(some 36), none, (.p (.bin .lss)), [(.t 33), (.t 35)], none⟩])
      (.keep [0, 6, 8, 36] (.cond (.t 36)
       .skip
       (.keep [] (.exit 0)))))
      (.keep [0, 6, 8] (.seq (.block 1
       (.seq (.reg [⟨(some 39), none, (.p .mv), [(.t 0)], none⟩,
         ⟨(some 40), none, (.p .mv), [(.t 8)], none⟩,
         ⟨(some 41), none, (.p .strIndex), [(.t 39), (.t 40)], none⟩,
         ⟨(some 42), none, (.call 81), [(.t 6), (.t 41)], none⟩])
       (.keep [0, 6, 8, 42] (.cond (.t 42)
        (.seq (.reg [⟨(some 43), none, (.p .mv), [(.t 8)], none⟩,
          ⟨(some 4), none, (.p .mv), [(.t 43)], none⟩])
        (.keep [4] (.keep [4] .ret)))
        .skip))))
      (.keep [0, 6, 8] (.reg [⟨(some 37), none, (.p .mv), [(.t 8)], none⟩,
        ⟨(some 38), none, (.p (.bin .add)), [(.t 37), (.c (.int .i64 (.ofNat 1)))], none⟩,
        ⟨(some 8), none, (.p .mv), [(.t 38)], none⟩]))))))))))
    (.keep [] (.seq (.reg [⟨(some 4), none, (.p .mv), [(.c (.int .i64 (.negSucc 0)))], none⟩])
    (.keep [4] (.keep [4] .ret)))))
    .skip)))))
   .skip)))
  (.keep [0, 1] (.seq (.seq (.reg [⟨(some 44), none, (.p .mv), [(.t 0)], none⟩,
    ⟨(some 45), none, (.e .range), [(.t 44)], none⟩])
  (.keep [1, 45] (.block 2
   (.loop
    (.keep [1, 45] (.seq (.reg [⟨(some 46), none, (.e .next), [(.t 45)], none⟩,
      ⟨(some 47), none, (.p (.extract 0)), [(.t 46)], none⟩])
    (.keep [1, 45, 46, 47] (.seq (.cond (.t 47)
     .skip
     (.keep [] (.exit 2)))
    (.keep [1, 45, 46] (.block 3
     (.seq (.reg [⟨(some 48), none, (.p (.extract 1)), [(.t 46)], none⟩,
       ⟨(some 49), none, (.p (.extract 2)), [(.t 46)], none⟩,
       ⟨(some 9), none, (.p .mv), [(.t 48)], none⟩,
       ⟨(some 10), none, (.p .mv), [(.t 49)], none⟩])
     (.keep [1, 9, 10, 45] (.seq (.reg [⟨(some 50), none, (.p .mv), [(.t 1)], none⟩,
       ⟨(some 51), none, (.p .mv), [(.t 10)], none⟩,
       ⟨(some 52), none, (.call 92), [(.t 50), (.t 51)], none⟩,
       ⟨(some 53), none, (.p (.bin .geq)), [(.t 52), (.c (.int .i64 (.ofNat 0)))], none⟩])
     (.keep [1, 9, 45, 53] (.cond (.t 53)
      (.seq (.reg [⟨(some 54), none, (.p .mv), [(.t 9)], none⟩,
        ⟨(some 4), none, (.p .mv), [(.t 54)], none⟩])
      (.keep [4] (.keep [4] .ret)))
      .skip)))))))))))))))
  (.keep [] (.seq (.reg [⟨(some 4), none, (.p .mv), [(.c (.int .i64 (.negSucc 0)))], none⟩])
  (.keep [4] (.keep [4] .ret))))))))))))),
  [(.t 4)]⟩
def s_strings_IndexAny_j2 (call : CallK) (N : Nat) (q : KV) (st : St) (τ : Tape) : Ans :=
  match st with
  | ⟨fr, H⟩ =>
  q (.int .i64 (.negSucc 0)) H τ
def s_strings_IndexAny_l3 (call : CallK) (N : Nat) (st : St) (τ : Tape) (k : KC) : Ans :=
  match st with
  | ⟨fr, H⟩ =>
  getK fr 1 fun t1 =>
  getK fr 45 fun t45 =>
  effK (eNext [t45] H τ) fun v13 H14 τ15 =>
  someK (pExtract 0 [v13]) fun v16 =>
  condK v16
    (someK (pExtract 1 [v13]) fun v17 =>
  someK (pExtract 2 [v13]) fun v18 =>
  call f_strings_IndexRune [t1, v18] H14 τ15 fun v19 H20 τ21 =>
  binK .geq v19 (.int .i64 (.ofNat 0)) fun v22 =>
  condK v22
    (k .ret ⟨(T.set .leaf 4 v17), H20⟩ τ21)
    (k .normal ⟨(T.set (T.set (T.set (T.set .leaf 1 t1) 9 v17) 45 t45) 53 v22), H20⟩ τ21))
    (k (.exit 2) ⟨.leaf, H14⟩ τ15)
def s_strings_IndexAny_j1 (call : CallK) (N : Nat) (q : KV) (st : St) (τ : Tape) : Ans :=
  match st with
  | ⟨fr, H⟩ =>
  getK fr 0 fun t0 =>
  getK fr 1 fun t1 =>
  effK (eRange [t0] H τ) fun v10 H11 τ12 =>
  loopK (s_strings_IndexAny_l3 call N) N ⟨(T.set (T.set .leaf 1 t1) 45 v10), H11⟩ τ12 (blockK 2 (seqK (s_strings_IndexAny_j2 call N q) (endK [(.t 4)] q)))
def s_strings_IndexAny_j4 (call : CallK) (N : Nat) (q : KV) (st : St) (τ : Tape) : Ans :=
  match st with
  | ⟨fr, H⟩ =>
  q (.int .i64 (.negSucc 0)) H τ
def s_strings_IndexAny_l5 (call : CallK) (N : Nat) (st : St) (τ : Tape) (k : KC) : Ans :=
  match st with
  | ⟨fr, H⟩ =>
  getK fr 0 fun t0 =>
  getK fr 6 fun t6 =>
  getK fr 8 fun t8 =>
  someK (pLenS [t0]) fun v34 =>
  binK .lss t8 v34 fun v35 =>
  condK v35
    (someK (pStrIndex [t0, t8]) fun v36 =>
  call f_asciiSet_contains [t6, v36] H τ fun v37 H38 τ39 =>
  condK v37
    (k .ret ⟨(T.set .leaf 4 t8), H38⟩ τ39)
    (binK .add t8 (.int .i64 (.ofNat 1)) fun v40 =>
  k .normal ⟨(T.set (T.set (T.set (T.set (T.set (T.set .leaf 0 t0) 6 t6) 8 t8) 37 t8) 38 v40) 8 v40), H38⟩ τ39))
    (k (.exit 0) ⟨.leaf, H⟩ τ)
def s_strings_IndexAny_j0 (call : CallK) (N : Nat) (q : KV) (st : St) (τ : Tape) : Ans :=
  match st with
  | ⟨fr, H⟩ =>
  getK fr 0 fun t0 =>
  getK fr 1 fun t1 =>
  someK (pLenS [t0]) fun v6 =>
  call f_strings_shouldUseASCIISet [v6] H τ fun v7 H8 τ9 =>
  condK v7
    (call f_strings_makeASCIISet [t1] H8 τ9 fun v23 H24 τ25 =>
  someK (pExtract 0 [v23]) fun v26 =>
  someK (pExtract 1 [v23]) fun v27 =>
  effK (eAlloc (repl 256 [(.bool false)]) [] H24 τ25) fun v28 H29 τ30 =>
  effK (eStore 256 [v28, v26] H29 τ30) fun v31 H32 τ33 =>
  condK v27
    (loopK (s_strings_IndexAny_l5 call N) N ⟨(T.set (T.set (T.set .leaf 0 t0) 6 v28) 8 (.int .i64 (.ofNat 0))), H32⟩ τ33 (blockK 0 (seqK (s_strings_IndexAny_j4 call N q) (seqK (s_strings_IndexAny_j1 call N q) (endK [(.t 4)] q)))))
    (s_strings_IndexAny_j1 call N q ⟨(T.set (T.set (T.set (T.set .leaf 0 t0) 1 t1) 6 v28) 32 v27), H32⟩ τ33))
    (s_strings_IndexAny_j1 call N q ⟨(T.set (T.set (T.set .leaf 0 t0) 1 t1) 26 v7), H8⟩ τ9)
def s_strings_IndexAny_j6 (call : CallK) (N : Nat) (q : KV) (st : St) (τ : Tape) : Ans :=
  match st with
  | ⟨fr, H⟩ =>
  getK fr 0 fun t0 =>
  getK fr 5 fun t5 =>
  call f_strings_IndexRune [t0, t5] H τ fun v41 H42 τ43 =>
  q v41 H42 τ43
def s_strings_IndexAny_j8 (call : CallK) (N : Nat) (q : KV) (st : St) (τ : Tape) : Ans :=
  match st with
  | ⟨fr, H⟩ =>
  q (.int .i64 (.negSucc 0)) H τ
def s_strings_IndexAny_l9 (call : CallK) (N : Nat) (st : St) (τ : Tape) (k : KC) : Ans :=
  match st with
  | ⟨fr, H⟩ =>
  getK fr 1 fun t1 =>
  getK fr 45 fun t45 =>
  effK (eNext [t45] H τ) fun v51 H52 τ53 =>
  someK (pExtract 0 [v51]) fun v54 =>
  condK v54
    (someK (pExtract 1 [v51]) fun v55 =>
  someK (pExtract 2 [v51]) fun v56 =>
  call f_strings_IndexRune [t1, v56] H52 τ53 fun v57 H58 τ59 =>
  binK .geq v57 (.int .i64 (.ofNat 0)) fun v60 =>
  condK v60
    (k .ret ⟨(T.set .leaf 4 v55), H58⟩ τ59)
    (k .normal ⟨(T.set (T.set (T.set (T.set .leaf 1 t1) 9 v55) 45 t45) 53 v60), H58⟩ τ59))
    (k (.exit 2) ⟨.leaf, H52⟩ τ53)
def s_strings_IndexAny_j7 (call : CallK) (N : Nat) (q : KV) (st : St) (τ : Tape) : Ans :=
  match st with
  | ⟨fr, H⟩ =>
  getK fr 0 fun t0 =>
  getK fr 1 fun t1 =>
  effK (eRange [t0] H τ) fun v48 H49 τ50 =>
  loopK (s_strings_IndexAny_l9 call N) N ⟨(T.set (T.set .leaf 1 t1) 45 v48), H49⟩ τ50 (blockK 2 (seqK (s_strings_IndexAny_j8 call N q) (endK [(.t 4)] q)))
def s_strings_IndexAny_j10 (call : CallK) (N : Nat) (q : KV) (st : St) (τ : Tape) : Ans :=
  match st with
  | ⟨fr, H⟩ =>
  q (.int .i64 (.negSucc 0)) H τ
def s_strings_IndexAny_l11 (call : CallK) (N : Nat) (st : St) (τ : Tape) (k : KC) : Ans :=
  match st with
  | ⟨fr, H⟩ =>
  getK fr 0 fun t0 =>
  getK fr 6 fun t6 =>
  getK fr 8 fun t8 =>
  someK (pLenS [t0]) fun v72 =>
  binK .lss t8 v72 fun v73 =>
  condK v73
    (someK (pStrIndex [t0, t8]) fun v74 =>
  call f_asciiSet_contains [t6, v74] H τ fun v75 H76 τ77 =>
  condK v75
    (k .ret ⟨(T.set .leaf 4 t8), H76⟩ τ77)
    (binK .add t8 (.int .i64 (.ofNat 1)) fun v78 =>
  k .normal ⟨(T.set (T.set (T.set (T.set (T.set (T.set .leaf 0 t0) 6 t6) 8 t8) 37 t8) 38 v78) 8 v78), H76⟩ τ77))
    (k (.exit 0) ⟨.leaf, H⟩ τ)
def s_strings_IndexAny (call : CallK) (N : Nat) (a0 a1 : V) (H : Heap) (τ : Tape) (q : KV) : Ans :=
  binK .eql a1 (.str []) fun v0 =>
  condK v0
    (q (.int .i64 (.negSucc 0)) H τ)
    (someK (pLenS [a1]) fun v1 =>
  binK .eql v1 (.int .i64 (.ofNat 1)) fun v2 =>
  condK v2
    (someK (pStrIndex [a1, (.int .i64 (.ofNat 0))]) fun v3 =>
  toIntK .i32 v3 fun v4 =>
  binK .geq v4 (.int .i32 (.ofNat 128)) fun v5 =>
  condK v5
    (s_strings_IndexAny_j6 call N q ⟨(T.set (T.set (T.set (T.set .leaf 0 a0) 5 v4) 20 v5) 5 (.int .i32 (.ofNat 65533))), H⟩ τ)
    (s_strings_IndexAny_j6 call N q ⟨(T.set (T.set (T.set .leaf 0 a0) 5 v4) 20 v5), H⟩ τ))
    (someK (pLenS [a0]) fun v44 =>
  call f_strings_shouldUseASCIISet [v44] H τ fun v45 H46 τ47 =>
  condK v45
    (call f_strings_makeASCIISet [a1] H46 τ47 fun v61 H62 τ63 =>
  someK (pExtract 0 [v61]) fun v64 =>
  someK (pExtract 1 [v61]) fun v65 =>
  effK (eAlloc (repl 256 [(.bool false)]) [] H62 τ63) fun v66 H67 τ68 =>
  effK (eStore 256 [v66, v64] H67 τ68) fun v69 H70 τ71 =>
  condK v65
    (loopK (s_strings_IndexAny_l11 call N) N ⟨(T.set (T.set (T.set .leaf 0 a0) 6 v66) 8 (.int .i64 (.ofNat 0))), H70⟩ τ71 (blockK 0 (seqK (s_strings_IndexAny_j10 call N q) (seqK (s_strings_IndexAny_j7 call N q) (endK [(.t 4)] q)))))
    (s_strings_IndexAny_j7 call N q ⟨(T.set (T.set (T.set (T.set .leaf 0 a0) 1 a1) 6 v66) 32 v65), H70⟩ τ71))
    (s_strings_IndexAny_j7 call N q ⟨(T.set (T.set (T.set .leaf 0 a0) 1 a1) 26 v45), H46⟩ τ47)))
theorem s_strings_IndexAny_eq (call : CallK) (N : Nat) (a0 a1 : V) (H : Heap) (τ : Tape) (q : KV) : s_strings_IndexAny call N a0 a1 H τ q = funK call N fn_strings_IndexAny [a0, a1] H τ q := by kernel_rfl
def e_strings_IndexAny (call : CallK) (N : Nat) (vs : List V) (H : Heap) (τ : Tape) (q : KV) : Ans := match vs with | [a0, a1] => s_strings_IndexAny call N a0 a1 H τ q | _ => none
theorem e_strings_IndexAny_ok : EntOk fn_strings_IndexAny e_strings_IndexAny := by
  intro call N vs H τ q r h
  unfold e_strings_IndexAny at h
  split at h
  · rw [s_strings_IndexAny_eq] at h; exact h
  · cases h
theorem e_strings_IndexAny_nat : EntNat e_strings_IndexAny := by
  intro c hn N vs H τ q
  unfold e_strings_IndexAny
  split
  · rw [s_strings_IndexAny_eq, s_strings_IndexAny_eq]; exact funK_ent hn _ _ _ _ _ _
  · rfl
/-- (*strings.asciiSet).contains -/
def fn_asciiSet_contains : Fun := ⟨2,
  (.seq (.reg [⟨(some 4), none, (.p .mv), [(.c (.bool false))], none⟩])
  (.keep [0, 1] (.seq (.reg [⟨(some 5), none, (.p .mv), [(.t 0)], none⟩,
    ⟨(some 6), none, (.p .mv), [(.t 1)], none⟩,
    ⟨(some 7), none, (.p .nilck), [(.t 5)], none⟩,
    ⟨(some 8), none, (.p (.arrIdx 256 1)), [(.t 7), (.t 6)], none⟩,
    ⟨(some 9), none, (.l (.load none)), [(.t 8)], none⟩,
    ⟨(some 4), none, (.p .mv), [(.t 9)], none⟩])
  (.keep [4] (.keep [4] .ret))))),
  [(.t 4)]⟩
def s_asciiSet_contains (call : CallK) (N : Nat) (a0 a1 : V) (H : Heap) (τ : Tape) (q : KV) : Ans :=
  someK (pNilck [a0]) fun v0 =>
  someK (pArrIdx 256 1 [v0, a1]) fun v1 =>
  someK (lLoad1 [v1] H) fun v2 =>
  q v2 H τ
theorem s_asciiSet_contains_eq (call : CallK) (N : Nat) (a0 a1 : V) (H : Heap) (τ : Tape) (q : KV) : s_asciiSet_contains call N a0 a1 H τ q = funK call N fn_asciiSet_contains [a0, a1] H τ q := by kernel_rfl
def e_asciiSet_contains (call : CallK) (N : Nat) (vs : List V) (H : Heap) (τ : Tape) (q : KV) : Ans := match vs with | [a0, a1] => s_asciiSet_contains call N a0 a1 H τ q | _ => none
theorem e_asciiSet_contains_ok : EntOk fn_asciiSet_contains e_asciiSet_contains := by
  intro call N vs H τ q r h
  unfold e_asciiSet_contains at h
  split at h
  · rw [s_asciiSet_contains_eq] at h; exact h
  · cases h
theorem e_asciiSet_contains_nat : EntNat e_asciiSet_contains := by
  intro c hn N vs H τ q
  unfold e_asciiSet_contains
  split
  · rw [s_asciiSet_contains_eq, s_asciiSet_contains_eq]; exact funK_ent hn _ _ _ _ _ _
  · rfl
/-- unicode/utf8.DecodeRuneInString -/
def fn_utf8_DecodeRuneInString : Fun := ⟨1,
  (.seq (.reg [⟨(some 2), none, (.p .mv), [(.c (.int .i32 (.ofNat 0)))], none⟩,
    ⟨(some 3), none, (.p .mv), [(.c (.int .i64 (.ofNat 0)))], none⟩])
  (.keep [0] (.seq (.seq (.reg [⟨(some 4), none, (.p .mv), [(.t 0)], none⟩,
    ⟨(some 5), none, (.p (.bin .neq)), [(.t 4), (.c (.str []))], none⟩,
    ⟨(some 6), none, (.p .mv), [(.t 5)], none⟩,
    ⟨(some 7), some (6, true), (.p .mv), [(.t 0)], none⟩,
    ⟨(some 8), some (6, true), (.p .strIndex), [(.t 7), (.c (.int .i64 (.ofNat 0)))], none⟩,
    ⟨(some 9), some (6, true), (.p (.bin .lss)), [(.t 8), (.c (.int .u8 (.ofNat 128)))], none⟩,
    ⟨(some 10), none, (.p .pick), [(.t 6), (.t 9), (.c (.bool false))], none⟩])
  (.keep [0, 10] (.cond (.t 10)
   (.seq (.reg [⟨(some 11), none, (.p .mv), [(.t 0)], none⟩,
     ⟨(some 12), none, (.p .strIndex), [(.t 11), (.c (.int .i64 (.ofNat 0)))], none⟩,
     ⟨(some 13), none, (.p (.toInt .i32)), [(.t 12)], none⟩,
     ⟨(some 2), none, (.p .mv), [(.t 13)], none⟩,
     ⟨(some 3), none, (.p .mv), [(.c (.int .i64 (.ofNat 1)))], none⟩])
   (.keep [2, 3] (.keep [2, 3] .ret)))
   (.reg [⟨(some 15), none, (.p .mv), [(.t 0)], none⟩,
     ⟨(some 16), none, (.call 105), [(.t 15)], none⟩,
     ⟨(some 14), none, (.p .mv), [(.t 16)], none⟩,
     ⟨(some 17), none, (.p (.extract 0)), [(.t 14)], none⟩,
     ⟨(some 18), none, (.p (.extract 1)), [(.t 14)], none⟩,
     ⟨(some 2), none, (.p .mv), [(.t 17)], none⟩,
     ⟨(some 3), none, (.p .mv), [(.t 18)], none⟩]))))
  (.keep [2, 3] (.keep [2, 3] .ret))))),
  [(.t 2), (.t 3)]⟩
def s_utf8_DecodeRuneInString (call : CallK) (N : Nat) (a0 : V) (H : Heap) (τ : Tape) (q : KV) : Ans :=
  binK .neq a0 (.str []) fun v0 =>
  gK v0 true (fun q' => q' a0 H τ) H τ fun v1 H2 τ3 =>
  gK v0 true (fun q' => someK (pStrIndex [v1, (.int .i64 (.ofNat 0))]) fun v => q' v H2 τ3) H2 τ3 fun v4 H5 τ6 =>
  gK v0 true (fun q' => binK .lss v4 (.int .u8 (.ofNat 128)) fun v => q' v H5 τ6) H5 τ6 fun v7 H8 τ9 =>
  someK (pPick [v0, v7, (.bool false)]) fun v10 =>
  condK v10
    (someK (pStrIndex [a0, (.int .i64 (.ofNat 0))]) fun v11 =>
  toIntK .i32 v11 fun v12 =>
  q (.tup [v12, (.int .i64 (.ofNat 1))]) H8 τ9)
    (call f_utf8_decodeRuneInStringSlow [a0] H8 τ9 fun v13 H14 τ15 =>
  someK (pExtract 0 [v13]) fun v16 =>
  someK (pExtract 1 [v13]) fun v17 =>
  q (.tup [v16, v17]) H14 τ15)
theorem s_utf8_DecodeRuneInString_eq (call : CallK) (N : Nat) (a0 : V) (H : Heap) (τ : Tape) (q : KV) : s_utf8_DecodeRuneInString call N a0 H τ q = funK call N fn_utf8_DecodeRuneInString [a0] H τ q := by kernel_rfl
def e_utf8_DecodeRuneInString (call : CallK) (N : Nat) (vs : List V) (H : Heap) (τ : Tape) (q : KV) : Ans := match vs with | [a0] => s_utf8_DecodeRuneInString call N a0 H τ q | _ => none
theorem e_utf8_DecodeRuneInString_ok : EntOk fn_utf8_DecodeRuneInString e_utf8_DecodeRuneInString := by
  intro call N vs H τ q r h
  unfold e_utf8_DecodeRuneInString at h
  split at h
  · rw [s_utf8_DecodeRuneInString_eq] at h; exact h
  · cases h
theorem e_utf8_DecodeRuneInString_nat : EntNat e_utf8_DecodeRuneInString := by
  intro c hn N vs H τ q
  unfold e_utf8_DecodeRuneInString
  split
  · rw [s_utf8_DecodeRuneInString_eq, s_utf8_DecodeRuneInString_eq]; exact funK_ent hn _ _ _ _ _ _
  · rfl
/-- strings.ContainsRune -/
def fn_strings_ContainsRune : Fun := ⟨2,
  (.seq (.reg [⟨(some 4), none, (.p .mv), [(.c (.bool false))], none⟩])
  (.keep [0, 1] (.seq (.reg [⟨(some 5), none, (.p .mv), [(.t 0)], none⟩,
    ⟨(some 6), none, (.p .mv), [(.t 1)], none⟩,
    ⟨(some 7), none, (.call 92), [(.t 5), (.t 6)], none⟩,
    ⟨(some 8), none, (.p (.bin .geq)), [(.t 7), (.c (.int .i64 (.ofNat 0)))], none⟩,
    ⟨(some 4), none, (.p .mv), [(.t 8)], none⟩])
  (.keep [4] (.keep [4] .ret))))),
  [(.t 4)]⟩
def s_strings_ContainsRune (call : CallK) (N : Nat) (a0 a1 : V) (H : Heap) (τ : Tape) (q : KV) : Ans :=
  call f_strings_IndexRune [a0, a1] H τ fun v0 H1 τ2 =>
  binK .geq v0 (.int .i64 (.ofNat 0)) fun v3 =>
  q v3 H1 τ2
theorem s_strings_ContainsRune_eq (call : CallK) (N : Nat) (a0 a1 : V) (H : Heap) (τ : Tape) (q : KV) : s_strings_ContainsRune call N a0 a1 H τ q = funK call N fn_strings_ContainsRune [a0, a1] H τ q := by kernel_rfl
def e_strings_ContainsRune (call : CallK) (N : Nat) (vs : List V) (H : Heap) (τ : Tape) (q : KV) : Ans := match vs with | [a0, a1] => s_strings_ContainsRune call N a0 a1 H τ q | _ => none
theorem e_strings_ContainsRune_ok : EntOk fn_strings_ContainsRune e_strings_ContainsRune := by
  intro call N vs H τ q r h
  unfold e_strings_ContainsRune at h
  split at h
  · rw [s_strings_ContainsRune_eq] at h; exact h
  · cases h
theorem e_strings_ContainsRune_nat : EntNat e_strings_ContainsRune := by
  intro c hn N vs H τ q
  unfold e_strings_ContainsRune
  split
  · rw [s_strings_ContainsRune_eq, s_strings_ContainsRune_eq]; exact funK_ent hn _ _ _ _ _ _
  · rfl
/-- unicode/utf8.DecodeLastRuneInString -/
def fn_utf8_DecodeLastRuneInString : Fun := ⟨1,
  (.seq (.reg [⟨(some 2), none, (.p .mv), [(.c (.int .i32 (.ofNat 0)))], none⟩,
    ⟨(some 3), none, (.p .mv), [(.c (.int .i64 (.ofNat 0)))], none⟩])
  (.keep [0] (.seq (.reg [⟨(some 7), none, (.p .mv), [(.t 0)], none⟩,
    ⟨(some 8), none, (.p .lenS), [(.t 7)], none⟩,
    ⟨(some 4), none, (.p .mv), [(.t 8)], none⟩])
  (.keep [0, 4] (.seq (.seq (.reg [⟨(some 9), none, (.p .mv), [(.t 4)], none⟩,
    ⟨(some 10), none, (.p (.bin .eql)), [(.t 9), (.c (.int .i64 (.ofNat 0)))], none⟩])
  (.keep [0, 4, 10] (.cond (.t 10)
   (.seq (.reg [⟨(some 2), none, (.p .mv), [(.c (.int .i32 (.ofNat 65533)))], none⟩,
     ⟨(some 3), none, (.p .mv), [(.c (.int .i64 (.ofNat 0)))], none⟩])
   (.keep [2, 3] (.keep [2, 3] .ret)))
   .skip)))
  (.keep [0, 4] (.seq (.reg [⟨(some 11), none, (.p .mv), [(.t 4)], none⟩,
    ⟨(some 12), none, (.p (.bin .sub)), [(.t 11), (.c (.int .i64 (.ofNat 1)))], none⟩,
    ⟨(some 5), none, (.p .mv), [(.t 12)], none⟩])
  (.keep [0, 4, 5] (.seq (.reg [⟨(some 13), none, (.p .mv), [(.t 0)], none⟩,
    ⟨(some 14), none, (.p .mv), [(.t 5)], none⟩,
    ⟨(some 15), none, (.p .strIndex), [(.t 13), (.t 14)], none⟩,
    ⟨(some 16), none, (.p (.toInt .i32)), [(.t 15)], none⟩,
    ⟨(some 2), none, (.p .mv), [(.t 16)], none⟩])
  (.keep [0, 2, 4, 5] (.seq (.seq (.reg [⟨(some 17), none, (.p .mv), [(.t 2)], none⟩,
    ⟨(some 18), none, (.p (.bin .lss)), [(.t 17), (.c (.int .i32 (.ofNat 128)))], none⟩])
  (.keep [0, 2, 4, 5, 18] (.cond (.t 18)
   (.seq (.reg [⟨(some 19), none, (.p .mv), [(.t 2)], none⟩,
     ⟨(some 2), none, (.p .mv), [(.t 19)], none⟩,
     ⟨(some 3), none, (.p .mv), [(.c (.int .i64 (.ofNat 1)))], none⟩])
   (.keep [2, 3] (.keep [2, 3] .ret)))
   .skip)))
  (.keep [0, 4, 5] (.seq (.reg [⟨(some 20), none, (.p .mv), [(.t 4)], none⟩,
    ⟨(some 21), none, (.p (.bin .sub)), [(.t 20), (.c (.int .i64 (.ofNat 4)))], none⟩,
    ⟨(some 22), none, (.p .max2), [(.t 21), (.c (.int .i64 (.ofNat 0)))], none⟩,
    ⟨(some 6), none, (.p .mv), [(.t 22)], none⟩])
  (.keep [0, 4, 5, 6] (.seq (.seq (.reg [⟨(some 23), none, (.p .mv), [(.t 5)], none⟩,
    ⟨(some 24), none, (.p (.bin .sub)), [(.t 23), (.c (.int .i64 (.ofNat 1)))], none⟩,
    ⟨(some 5), none, (.p .mv), [(.t 24)], none⟩])
  (.keep [0, 4, 5, 6] (.block 0
   (.loop
    (.keep [0, 4, 5, 6] (.seq (.seq (.reg [⟨(some 25), none, (.p .mv), [(.t 5)], none⟩,
      ⟨(some 26), none, (.p .mv), [(.t 6)], none⟩,
      ⟨(some 27), none, (.p (.bin .geq)), [(.t 25), (.t 26)], none⟩])
    (.keep [0, 4, 5, 6, 27] (.cond (.t 27)
     .skip
     (.keep [0, 4, 5] (.exit 0)))))
    (.keep [0, 4, 5, 6] (.seq (.block 1
     (.seq (.reg [⟨(some 30), none, (.p .mv), [(.t 0)], none⟩,
       ⟨(some 31), none, (.p .mv), [(.t 5)], none⟩,
       ⟨(some 32), none, (.p .strIndex), [(.t 30), (.t 31)], none⟩,
       ⟨(some 33), none, (.call 106), [(.t 32)], none⟩])
     (.keep [0, 4, 5, 6, 33] (.cond (.t 33)
      (.keep [0, 4, 5] (.exit 0))
      .skip))))
    (.keep [0, 4, 5, 6] (.reg [⟨(some 28), none, (.p .mv), [(.t 5)], none⟩,
      ⟨(some 29), none, (.p (.bin .sub)), [(.t 28), (.c (.int .i64 (.ofNat 1)))], none⟩,
      ⟨(some 5), none, (.p .mv), [(.t 29)], none⟩]))))))))))
  (.keep [0, 4, 5] (.seq (.seq (.reg [⟨(some 34), none, (.p .mv), [(.t 5)], none⟩,
    ⟨(some 35), none, (.p (.bin .lss)), [(.t 34), (.c (.int .i64 (.ofNat 0)))], none⟩])
  (.keep [0, 4, 5, 35] (.cond (.t 35)
   (.reg [⟨(some 5), none, (.p .mv), [(.c (.int .i64 (.ofNat 0)))], none⟩])
   .skip)))
  (.keep [0, 4, 5] (.seq (.reg [⟨(some 37), none, (.p .mv), [(.t 0)], none⟩,
    ⟨(some 38), none, (.p .mv), [(.t 5)], none⟩,
    ⟨(some 39), none, (.p .mv), [(.t 4)], none⟩,
    ⟨(some 40), none, (.p (.strSlice true true)), [(.t 37), (.t 38), (.t 39)], none⟩,
    ⟨(some 41), none, (.call 82), [(.t 40)], none⟩,
    ⟨(some 36), none, (.p .mv), [(.t 41)], none⟩,
    ⟨(some 42), none, (.p (.extract 0)), [(.t 36)], none⟩,
    ⟨(some 43), none, (.p (.extract 1)), [(.t 36)], none⟩,
    ⟨(some 2), none, (.p .mv), [(.t 42)], none⟩,
    ⟨(some 3), none, (.p .mv), [(.t 43)], none⟩])
  (.keep [2, 3, 4, 5] (.seq (.seq (.reg [⟨(some 44), none, (.p .mv), [(.t 5)], none⟩,
    ⟨(some 45), none, (.p .mv), [(.t 3)], none⟩,
    ⟨(some 46), none, (.p (.bin .add)), [(.t 44), (.t 45)], none⟩,
    ⟨(some 47), none, (.p .mv), [(.t 4)], none⟩,
    ⟨(some 48), none, (.p (.bin .neq)), [(.t 46), (.t 47)], none⟩])
  (.keep [2, 3, 48] (.cond (.t 48)
   (.seq (.reg [⟨(some 2), none, (.p .mv), [(.c (.int .i32 (.ofNat 65533)))], none⟩,
     ⟨(some 3), none, (.p .mv), [(.c (.int .i64 (.ofNat 1)))], none⟩])
   (.keep [2, 3] (.keep [2, 3] .ret)))
   .skip)))
  (.keep [2, 3] (.seq (.reg [⟨(some 49), none, (.p .mv), [(.t 2)], none⟩,
    ⟨(some 50), none, (.p .mv), [(.t 3)], none⟩,
    ⟨(some 2), none, (.p .mv), [(.t 49)], none⟩,
    ⟨(some 3), none, (.p .mv), [(.t 50)], none⟩])
  (.keep [2, 3] (.keep [2, 3] .ret))))))))))))))))))))))))),
  [(.t 2), (.t 3)]⟩
def s_utf8_DecodeLastRuneInString_j1 (call : CallK) (N : Nat) (q : KV) (st : St) (τ : Tape) : Ans :=
  match st with
  | ⟨fr, H⟩ =>
  getK fr 0 fun t0 =>
  getK fr 4 fun t4 =>
  getK fr 5 fun t5 =>
  someK (pStrSlice true true [t0, t5, t4]) fun v10 =>
  call f_utf8_DecodeRuneInString [v10] H τ fun v11 H12 τ13 =>
  someK (pExtract 0 [v11]) fun v14 =>
  someK (pExtract 1 [v11]) fun v15 =>
  binK .add t5 v15 fun v16 =>
  binK .neq v16 t4 fun v17 =>
  condK v17
    (q (.tup [(.int .i32 (.ofNat 65533)), (.int .i64 (.ofNat 1))]) H12 τ13)
    (q (.tup [v14, v15]) H12 τ13)
def s_utf8_DecodeLastRuneInString_j0 (call : CallK) (N : Nat) (q : KV) (st : St) (τ : Tape) : Ans :=
  match st with
  | ⟨fr, H⟩ =>
  getK fr 0 fun t0 =>
  getK fr 4 fun t4 =>
  getK fr 5 fun t5 =>
  binK .lss t5 (.int .i64 (.ofNat 0)) fun v9 =>
  condK v9
    (s_utf8_DecodeLastRuneInString_j1 call N q ⟨(T.set (T.set (T.set (T.set (T.set .leaf 0 t0) 4 t4) 5 t5) 35 v9) 5 (.int .i64 (.ofNat 0))), H⟩ τ)
    (s_utf8_DecodeLastRuneInString_j1 call N q ⟨(T.set (T.set (T.set (T.set .leaf 0 t0) 4 t4) 5 t5) 35 v9), H⟩ τ)
def s_utf8_DecodeLastRuneInString_l2 (call : CallK) (N : Nat) (st : St) (τ : Tape) (k : KC) : Ans :=
  match st with
  | ⟨fr, H⟩ =>
  getK fr 0 fun t0 =>
  getK fr 4 fun t4 =>
  getK fr 5 fun t5 =>
  getK fr 6 fun t6 =>
  binK .geq t5 t6 fun v18 =>
  condK v18
    (someK (pStrIndex [t0, t5]) fun v19 =>
  call f_utf8_RuneStart [v19] H τ fun v20 H21 τ22 =>
  condK v20
    (k (.exit 0) ⟨(T.set (T.set (T.set .leaf 0 t0) 4 t4) 5 t5), H21⟩ τ22)
    (binK .sub t5 (.int .i64 (.ofNat 1)) fun v23 =>
  k .normal ⟨(T.set (T.set (T.set (T.set (T.set (T.set (T.set .leaf 0 t0) 4 t4) 5 t5) 6 t6) 28 t5) 29 v23) 5 v23), H21⟩ τ22))
    (k (.exit 0) ⟨(T.set (T.set (T.set .leaf 0 t0) 4 t4) 5 t5), H⟩ τ)
def s_utf8_DecodeLastRuneInString (call : CallK) (N : Nat) (a0 : V) (H : Heap) (τ : Tape) (q : KV) : Ans :=
  someK (pLenS [a0]) fun v0 =>
  binK .eql v0 (.int .i64 (.ofNat 0)) fun v1 =>
  condK v1
    (q (.tup [(.int .i32 (.ofNat 65533)), (.int .i64 (.ofNat 0))]) H τ)
    (binK .sub v0 (.int .i64 (.ofNat 1)) fun v2 =>
  someK (pStrIndex [a0, v2]) fun v3 =>
  toIntK .i32 v3 fun v4 =>
  binK .lss v4 (.int .i32 (.ofNat 128)) fun v5 =>
  condK v5
    (q (.tup [v4, (.int .i64 (.ofNat 1))]) H τ)
    (binK .sub v0 (.int .i64 (.ofNat 4)) fun v6 =>
  someK (pMax [v6, (.int .i64 (.ofNat 0))]) fun v7 =>
  binK .sub v2 (.int .i64 (.ofNat 1)) fun v8 =>
  loopK (s_utf8_DecodeLastRuneInString_l2 call N) N ⟨(T.set (T.set (T.set (T.set .leaf 0 a0) 4 v0) 5 v8) 6 v7), H⟩ τ (blockK 0 (seqK (s_utf8_DecodeLastRuneInString_j0 call N q) (endK [(.t 2), (.t 3)] q)))))
theorem s_utf8_DecodeLastRuneInString_eq (call : CallK) (N : Nat) (a0 : V) (H : Heap) (τ : Tape) (q : KV) : s_utf8_DecodeLastRuneInString call N a0 H τ q = funK call N fn_utf8_DecodeLastRuneInString [a0] H τ q := by kernel_rfl
def e_utf8_DecodeLastRuneInString (call : CallK) (N : Nat) (vs : List V) (H : Heap) (τ : Tape) (q : KV) : Ans := match vs with | [a0] => s_utf8_DecodeLastRuneInString call N a0 H τ q | _ => none
theorem e_utf8_DecodeLastRuneInString_ok : EntOk fn_utf8_DecodeLastRuneInString e_utf8_DecodeLastRuneInString := by
  intro call N vs H τ q r h
  unfold e_utf8_DecodeLastRuneInString at h
  split at h
  · rw [s_utf8_DecodeLastRuneInString_eq] at h; exact h
  · cases h
theorem e_utf8_DecodeLastRuneInString_nat : EntNat e_utf8_DecodeLastRuneInString := by
  intro c hn N vs H τ q
  unfold e_utf8_DecodeLastRuneInString
  split
  · rw [s_utf8_DecodeLastRuneInString_eq, s_utf8_DecodeLastRuneInString_eq]; exact funK_ent hn _ _ _ _ _ _
  · rfl
/-- internal/stringslite.Index -/
def fn_stringslite_Index : Fun := ⟨2,
  (.seq (.reg [⟨(some 4), none, (.p .mv), [(.c (.int .i64 (.ofNat 0)))], none⟩])
  (.keep [0, 1] (.seq (.reg [⟨(some 14), none, (.p .mv), [(.t 1)], none⟩,
    ⟨(some 15), none, (.p .lenS), [(.t 14)], none⟩,
    ⟨(some 5), none, (.p .mv), [(.t 15)], none⟩])
  (.keep [0, 1, 5] (.seq (.block 0
   (.seq (.reg [⟨(some 17), none, (.p .mv), [(.t 5)], none⟩,
     ⟨(some 18), none, (.p (.bin .eql)), [(.t 17), (.c (.int .i64 (.ofNat 0)))], none⟩,
     ⟨(some 19), none, (.p .mv), [(.t 18)], none⟩,
     ⟨(some 20), some (19, false), (.p .mv), [(.t 1)], none⟩,
     ⟨(some 21), some (19, false), (.p .mv), [(.t 0)], none⟩,
     ⟨(some 22), some (19, false), (.p (.bin .eql)), [(.t 20), (.t 21)], none⟩,
     ⟨(some 23), none, (.p .pick), [(.t 19), (.c (.bool true)), (.t 22)], none⟩,
     ⟨(some 16), none, (.p .mv), [(.t 23)], none⟩])
   (.keep [0, 1, 5, 16] (.cond (.t 16)
    (.seq (.reg [⟨(some 4), none, (.p .mv), [(.c (.int .i64 (.ofNat 0)))], none⟩])
    (.keep [4] (.keep [4] .ret)))
    (.seq (.reg [⟨(some 25), none, (.p .mv), [(.t 5)], none⟩,
      ⟨(some 26), none, (.p (.bin .eql)), [(.t 25), (.c (.int .i64 (.ofNat 1)))], none⟩,
      ⟨(some 24), none, (.p .mv), [(.t 26)], none⟩])
    (.keep [0, 1, 5, 24] (.cond (.t 24)
     (.seq (.reg [⟨(some 27), none, (.p .mv), [(.t 0)], none⟩,
       ⟨(some 28), none, (.p .mv), [(.t 1)], none⟩,
       ⟨(some 29), none, (.p .strIndex), [(.t 28), (.c (.int .i64 (.ofNat 0)))], none⟩,
       ⟨(some 30), none, (.call 86), [(.t 27), (.t 29)], none⟩,
       ⟨(some 4), none, (.p .mv), [(.t 30)], none⟩])
     (.keep [4] (.keep [4] .ret)))
     (.seq (.reg [⟨(some 32), none, (.p .mv), [(.t 5)], none⟩,
       ⟨(some 33), none, (.p .mv), [(.t 0)], none⟩,
       ⟨(some 34), none, (.p .lenS), [(.t 33)], none⟩,
       ⟨(some 35), none, (.p (.bin .geq)), [(.t 32), (.t 34)], none⟩,
       ⟨(some 31), none, (.p .mv), [(.t 35)], none⟩])
     (.keep [0, 1, 5, 31] (.cond (.t 31)
      (.seq (.reg [⟨(some 4), none, (.p .mv), [(.c (.int .i64 (.negSucc 0)))], none⟩])
      (.keep [4] (.keep [4] .ret)))
      (.seq (.reg [⟨(some 37), none, (.p .mv), [(.t 5)], none⟩,
        ⟨(some 38), none, (.l (.load none)), [(.c (.ptr 0 0))], none⟩,
        ⟨(some 39), none, (.p (.bin .leq)), [(.t 37), (.t 38)], none⟩,
        ⟨(some 40), none, (.p .mv), [(.t 39)], none⟩,
        ⟨(some 41), some (40, true), (.p .mv), [(.t 0)], none⟩,
        ⟨(some 42), some (40, true), (.p .lenS), [(.t 41)], none⟩,
        ⟨(some 43), some (40, true), (.p (.bin .leq)), [(.t 42), (.c (.int .i64 (.ofNat 64)))], none⟩,
        ⟨(some 44), none, (.p .pick), [(.t 40), (.t 43), (.c (.bool false))], none⟩,
        ⟨(some 36), none, (.p .mv), [(.t 44)], none⟩])
      (.keep [0, 1, 5, 36] (.cond (.t 36)
       (.seq .bad
       (.keep [4] (.keep [4] .ret)))
       .skip)))))))))))))
  (.keep [0, 1, 5] (.seq (.reg [⟨(some 48), none, (.p .mv), [(.t 1)], none⟩,
    ⟨(some 49), none, (.p .strIndex), [(.t 48), (.c (.int .i64 (.ofNat 0)))], none⟩,
    ⟨(some 6), none, (.p .mv), [(.t 49)], none⟩])
  (.keep [0, 1, 5, 6] (.seq (.reg [⟨(some 50), none, (.p .mv), [(.t 1)], none⟩,
    ⟨(some 51), none, (.p .strIndex), [(.t 50), (.c (.int .i64 (.ofNat 1)))], none⟩,
    ⟨(some 7), none, (.p .mv), [(.t 51)], none⟩])
  (.keep [0, 1, 5, 6, 7] (.seq (.reg [⟨(some 8), none, (.p .mv), [(.c (.int .i64 (.ofNat 0)))], none⟩])
  (.keep [0, 1, 5, 6, 7, 8] (.seq (.reg [⟨(some 52), none, (.p .mv), [(.t 0)], none⟩,
    ⟨(some 53), none, (.p .lenS), [(.t 52)], none⟩,
    ⟨(some 54), none, (.p .mv), [(.t 5)], none⟩,
    ⟨(some 55), none, (.p (.bin .sub)), [(.t 53), (.t 54)], none⟩,
    ⟨(some 56), none, (.p (.bin .add)), [(.t 55), (.c (.int .i64 (.ofNat 1)))], none⟩,
    ⟨(some 9), none, (.p .mv), [(.t 56)], none⟩])
  (.keep [0, 1, 5, 6, 7, 8, 9] (.seq (.reg [⟨(some 10), none, (.p .mv), [(.c (.int .i64 (.ofNat 0)))], none⟩])
  (.keep [0, 1, 5, 6, 7, 8, 9, 10] (.seq (.block 1
   (.loop
    (.keep [0, 1, 5, 6, 7, 8, 9, 10] (.seq (.seq (.reg [⟨(some 57), none, (.p .mv), [(.t 8)], none⟩,
      ⟨(some 58), none, (.p .mv), [(.t 9)], none⟩,
      ⟨(some 59), none, (.p (.bin .lss)), [(.t 57), (.t 58)], none⟩])
    (.keep [0, 1, 5, 6, 7, 8, 9, 10, 59] (.cond (.t 59)
     .skip
     (.keep [] (.exit 1)))))
    (.keep [0, 1, 5, 6, 7, 8, 9, 10] (.block 2
     (.seq (.seq (.reg [⟨(some 60), none, (.p .mv), [(.t 0)], none⟩,
       ⟨(some 61), none, (.p .mv), [(.t 8)], none⟩,
       ⟨(some 62), none, (.p .strIndex), [(.t 60), (.t 61)], none⟩,
       ⟨(some 63), none, (.p .mv), [(.t 6)], none⟩,
       ⟨(some 64), none, (.p (.bin .neq)), [(.t 62), (.t 63)], none⟩])
     (.keep [0, 1, 5, 6, 7, 8, 9, 10, 64] (.cond (.t 64)
      (.seq (.reg [⟨(some 65), none, (.p .mv), [(.t 0)], none⟩,
        ⟨(some 66), none, (.p .mv), [(.t 8)], none⟩,
        ⟨(some 67), none, (.p (.bin .add)), [(.t 66), (.c (.int .i64 (.ofNat 1)))], none⟩,
        ⟨(some 68), none, (.p .mv), [(.t 9)], none⟩,
        ⟨(some 69), none, (.p (.strSlice true true)), [(.t 65), (.t 67), (.t 68)], none⟩,
        ⟨(some 70), none, (.p .mv), [(.t 6)], none⟩,
        ⟨(some 71), none, (.call 86), [(.t 69), (.t 70)], none⟩,
        ⟨(some 11), none, (.p .mv), [(.t 71)], none⟩])
      (.keep [0, 1, 5, 6, 7, 8, 9, 10, 11] (.seq (.seq (.reg [⟨(some 72), none, (.p .mv), [(.t 11)], none⟩,
        ⟨(some 73), none, (.p (.bin .lss)), [(.t 72), (.c (.int .i64 (.ofNat 0)))], none⟩])
      (.keep [0, 1, 5, 6, 7, 8, 9, 10, 11, 73] (.cond (.t 73)
       (.seq (.reg [⟨(some 4), none, (.p .mv), [(.c (.int .i64 (.negSucc 0)))], none⟩])
       (.keep [4] (.keep [4] .ret)))
       .skip)))
      (.keep [0, 1, 5, 6, 7, 8, 9, 10, 11] (.reg [⟨(some 74), none, (.p .mv), [(.t 8)], none⟩,
        ⟨(some 75), none, (.p .mv), [(.t 11)], none⟩,
        ⟨(some 76), none, (.p (.bin .add)), [(.t 75), (.c (.int .i64 (.ofNat 1)))], none⟩,
        ⟨(some 77), none, (.p (.bin .add)), [(.t 74), (.t 76)], none⟩,
        ⟨(some 8), none, (.p .mv), [(.t 77)], none⟩])))))
      .skip)))
     (.keep [0, 1, 5, 6, 7, 8, 9, 10] (.seq (.seq (.reg [⟨(some 78), none, (.p .mv), [(.t 0)], none⟩,
       ⟨(some 79), none, (.p .mv), [(.t 8)], none⟩,
       ⟨(some 80), none, (.p (.bin .add)), [(.t 79), (.c (.int .i64 (.ofNat 1)))], none⟩,
       ⟨(some 81), none, (.p .strIndex), [(.t 78), (.t 80)], none⟩,
       ⟨(some 82), none, (.p .mv), [(.t 7)], none⟩,
       ⟨(some 83), none, (.p (.bin .eql)), [(.t 81), (.t 82)], none⟩,
       ⟨(some 84), none, (.p .mv), [(.t 83)], none⟩,
       ⟨(some 85), some (84, true), (.p .mv), [(.t 0)], none⟩,
       ⟨(some 86), some (84, true), (.p .mv), [(.t 8)], none⟩,
       ⟨(some 87), some (84, true), (.p .mv), [(.t 8)], none⟩,
       ⟨(some 88), some (84, true), (.p .mv), [(.t 5)], none⟩,
       ⟨(some 89), some (84, true), (.p (.bin .add)), [(.t 87), (.t 88)], none⟩,
       ⟨(some 90), some (84, true), (.p (.strSlice true true)), [(.t 85), (.t 86), (.t 89)], none⟩,
       ⟨(some 91), some (84, true), (.p .mv), [(.t 1)], none⟩,
       ⟨(some 92), some (84, true), (.p (.bin .eql)), [(.t 90), (.t 91)], none⟩,
       ⟨(some 93), none, (.p .pick), [(.t 84), (.t 92), (.c (.bool false))], none⟩])
     (.keep [0, 1, 5, 6, 7, 8, 9, 10, 93] (.cond (.t 93)
      (.seq (.reg [⟨(some 94), none, (.p .mv), [(.t 8)], none⟩,
        ⟨(some 4), none, (.p .mv), [(.t 94)], none⟩])
      (.keep [4] (.keep [4] .ret)))
      .skip)))
     (.keep [0, 1, 5, 6, 7, 8, 9, 10] (.seq (.reg [⟨(some 95), none, (.p .mv), [(.t 8)], none⟩,
       ⟨(some 96), none, (.p (.bin .add)), [(.t 95), (.c (.int .i64 (.ofNat 1)))], none⟩,
       ⟨(some 8), none, (.p .mv), [(.t 96)], none⟩])
     (.keep [0, 1, 5, 6, 7, 8, 9, 10] (.seq (.reg [⟨(some 97), none, (.p .mv), [(.t 10)], none⟩,
       ⟨(some 98), none, (.p (.bin .add)), [(.t 97), (.c (.int .i64 (.ofNat 1)))], none⟩,
       ⟨(some 10), none, (.p .mv), [(.t 98)], none⟩])
     (.keep [0, 1, 5, 6, 7, 8, 9, 10] (.seq (.reg [⟨(some 99), none, (.p .mv), [(.t 5)], none⟩,
       ⟨(some 100), none, (.l (.load none)), [(.c (.ptr 0 0))], none⟩,
       ⟨(some 101), none, (.p (.bin .leq)), [(.t 99), (.t 100)], none⟩,
       ⟨(some 102), none, (.p .mv), [(.t 101)], none⟩,
       ⟨(some 103), some (102, true), (.p .mv), [(.t 10)], none⟩,
       ⟨(some 104), some (102, true), (.p .mv), [(.t 8)], none⟩,
       ⟨(some 105), some (102, true), (.call 108), [(.t 104)], none⟩,
       ⟨(some 106), some (102, true), (.p (.bin .gtr)), [(.t 103), (.t 105)], none⟩,
       ⟨(some 107), none, (.p .pick), [(.t 102), (.t 106), (.c (.bool false))], none⟩])
     (.keep [0, 1, 5, 6, 7, 8, 9, 10, 107] (.cond (.t 107)
      (.seq .bad
      (.keep [8, 12] (.seq (.seq (.reg [⟨(some 113), none, (.p .mv), [(.t 12)], none⟩,
        ⟨(some 114), none, (.p (.bin .geq)), [(.t 113), (.c (.int .i64 (.ofNat 0)))], none⟩])
      (.keep [8, 12, 114] (.cond (.t 114)
       (.seq (.reg [⟨(some 115), none, (.p .mv), [(.t 12)], none⟩,
         ⟨(some 116), none, (.p .mv), [(.t 8)], none⟩,
         ⟨(some 117), none, (.p (.bin .add)), [(.t 115), (.t 116)], none⟩,
         ⟨(some 4), none, (.p .mv), [(.t 117)], none⟩])
       (.keep [4] (.keep [4] .ret)))
       .skip)))
      (.keep [] (.seq (.reg [⟨(some 4), none, (.p .mv), [(.c (.int .i64 (.negSucc 0)))], none⟩])
      (.keep [4] (.keep [4] .ret)))))))
      (.seq (.reg [⟨(some 118), none, (.p .mv), [(.t 5)], none⟩,
        ⟨(some 119), none, (.l (.load none)), [(.c (.ptr 0 0))], none⟩,
        ⟨(some 120), none, (.p (.bin .gtr)), [(.t 118), (.t 119)], none⟩,
        ⟨(some 121), none, (.p .mv), [(.t 120)], none⟩,
        ⟨(some 122), some (121, true), (.p .mv), [(.t 10)], none⟩,
        ⟨(some 123), some (121, true), (.p .mv), [(.t 8)], none⟩,
        ⟨(some 124), some (121, true), (.p (.bin .shr)), [(.t 123), (.c (.int .u64 (.ofNat 4)))], none⟩,
        ⟨(some 125), some (121, true), (.p (.bin .add)), [(.c (.int .i64 (.ofNat 4))), (.t 124)], none⟩,
        ⟨(some 126), some (121, true), (.p (.bin .geq)), [(.t 122), (.t 125)], none⟩,
        ⟨(some 127), none, (.p .pick), [(.t 121), (.t 126), (.c (.bool false))], none⟩,
        ⟨(some 128), none, (.p .mv), [(.t 127)], none⟩,
        ⟨(some 129), some (128, true), (.p .mv), [(.t 8)], none⟩,
        ⟨(some 130), some (128, true), (.p .mv), [(.t 9)], none⟩,
        ⟨(some 131), some (128, true), (.p (.bin .lss)), [(.t 129), (.t 130)], none⟩,
        ⟨(some 132), none, (.p .pick), [(.t 128), (.t 131), (.c (.bool false))], none⟩])
      (.keep [0, 1, 5, 6, 7, 8, 9, 10, 132] (.cond (.t 132)
       (.seq (.reg [⟨(some 133), none, (.p .mv), [(.t 0)], none⟩,
         ⟨(some 134), none, (.p .mv), [(.t 8)], none⟩,
         ⟨(some 135), none, (.p (.strSlice true false)), [(.t 133), (.t 134)], none⟩,
         ⟨(some 136), none, (.p .mv), [(.t 1)], none⟩,
         ⟨(some 137), none, (.call 109), [(.t 135), (.t 136)], none⟩,
         ⟨(some 13), none, (.p .mv), [(.t 137)], none⟩])
       (.keep [8, 13] (.seq (.seq (.reg [⟨(some 138), none, (.p .mv), [(.t 13)], none⟩,
         ⟨(some 139), none, (.p (.bin .lss)), [(.t 138), (.c (.int .i64 (.ofNat 0)))], none⟩])
       (.keep [8, 13, 139] (.cond (.t 139)
        (.seq (.reg [⟨(some 4), none, (.p .mv), [(.c (.int .i64 (.negSucc 0)))], none⟩])
        (.keep [4] (.keep [4] .ret)))
        .skip)))
       (.keep [8, 13] (.seq (.reg [⟨(some 140), none, (.p .mv), [(.t 8)], none⟩,
         ⟨(some 141), none, (.p .mv), [(.t 13)], none⟩,
         ⟨(some 142), none, (.p (.bin .add)), [(.t 140), (.t 141)], none⟩,
         ⟨(some 4), none, (.p .mv), [(.t 142)], none⟩])
       (.keep [4] (.keep [4] .ret)))))))
       .skip))))))))))))))))))))
  (.keep [] (.seq (.reg [⟨(some 4), none, (.p .mv), [(.c (.int .i64 (.negSucc 0)))], none⟩])
  (.keep [4] (.keep [4] .ret))))))))))))))))))))),
  [(.t 4)]⟩
def s_stringslite_Index_j0 (call : CallK) (N : Nat) (q : KV) (st : St) (τ : Tape) : Ans :=
  match st with
  | ⟨fr, H⟩ =>
  q (.int .i64 (.negSucc 0)) H τ
def s_stringslite_Index_j2 (call : CallK) (N : Nat) (k : KC) (st : St) (τ : Tape) : Ans :=
  match st with
  | ⟨fr, H⟩ =>
  getK fr 0 fun t0 =>
  getK fr 1 fun t1 =>
  getK fr 5 fun t5 =>
  getK fr 6 fun t6 =>
  getK fr 7 fun t7 =>
  getK fr 8 fun t8 =>
  getK fr 9 fun t9 =>
  getK fr 10 fun t10 =>
  binK .add t8 (.int .i64 (.ofNat 1)) fun v39 =>
  someK (pStrIndex [t0, v39]) fun v40 =>
  binK .eql v40 t7 fun v41 =>
  gK v41 true (fun q' => q' t0 H τ) H τ fun v42 H43 τ44 =>
  gK v41 true (fun q' => q' t8 H43 τ44) H43 τ44 fun v45 H46 τ47 =>
  gK v41 true (fun q' => q' t8 H46 τ47) H46 τ47 fun v48 H49 τ50 =>
  gK v41 true (fun q' => q' t5 H49 τ50) H49 τ50 fun v51 H52 τ53 =>
  gK v41 true (fun q' => binK .add v48 v51 fun v => q' v H52 τ53) H52 τ53 fun v54 H55 τ56 =>
  gK v41 true (fun q' => someK (pStrSlice true true [v42, v45, v54]) fun v => q' v H55 τ56) H55 τ56 fun v57 H58 τ59 =>
  gK v41 true (fun q' => q' t1 H58 τ59) H58 τ59 fun v60 H61 τ62 =>
  gK v41 true (fun q' => binK .eql v57 v60 fun v => q' v H61 τ62) H61 τ62 fun v63 H64 τ65 =>
  someK (pPick [v41, v63, (.bool false)]) fun v66 =>
  condK v66
    (k .ret ⟨(T.set .leaf 4 t8), H64⟩ τ65)
    (binK .add t8 (.int .i64 (.ofNat 1)) fun v67 =>
  binK .add t10 (.int .i64 (.ofNat 1)) fun v68 =>
  someK (lLoad1 [(.ptr 0 0)] H64) fun v69 =>
  binK .leq t5 v69 fun v70 =>
  gK v70 true (fun q' => q' v68 H64 τ65) H64 τ65 fun v71 H72 τ73 =>
  gK v70 true (fun q' => q' v67 H72 τ73) H72 τ73 fun v74 H75 τ76 =>
  gK v70 true (fun q' => call f_bytealg_Cutover [v74] H75 τ76 q') H75 τ76 fun v77 H78 τ79 =>
  gK v70 true (fun q' => binK .gtr v71 v77 fun v => q' v H78 τ79) H78 τ79 fun v80 H81 τ82 =>
  someK (pPick [v70, v80, (.bool false)]) fun v83 =>
  condK v83
    (none)
    (someK (lLoad1 [(.ptr 0 0)] H81) fun v84 =>
  binK .gtr t5 v84 fun v85 =>
  gK v85 true (fun q' => q' v68 H81 τ82) H81 τ82 fun v86 H87 τ88 =>
  gK v85 true (fun q' => q' v67 H87 τ88) H87 τ88 fun v89 H90 τ91 =>
  gK v85 true (fun q' => binK .shr v89 (.int .u64 (.ofNat 4)) fun v => q' v H90 τ91) H90 τ91 fun v92 H93 τ94 =>
  gK v85 true (fun q' => binK .add (.int .i64 (.ofNat 4)) v92 fun v => q' v H93 τ94) H93 τ94 fun v95 H96 τ97 =>
  gK v85 true (fun q' => binK .geq v86 v95 fun v => q' v H96 τ97) H96 τ97 fun v98 H99 τ100 =>
  someK (pPick [v85, v98, (.bool false)]) fun v101 =>
  gK v101 true (fun q' => q' v67 H99 τ100) H99 τ100 fun v102 H103 τ104 =>
  gK v101 true (fun q' => q' t9 H103 τ104) H103 τ104 fun v105 H106 τ107 =>
  gK v101 true (fun q' => binK .lss v102 v105 fun v => q' v H106 τ107) H106 τ107 fun v108 H109 τ110 =>
  someK (pPick [v101, v108, (.bool false)]) fun v111 =>
  condK v111
    (someK (pStrSlice true false [t0, v67]) fun v112 =>
  call f_bytealg_IndexRabinKarp_string [v112, t1] H109 τ110 fun v113 H114 τ115 =>
  binK .lss v113 (.int .i64 (.ofNat 0)) fun v116 =>
  condK v116
    (k .ret ⟨(T.set .leaf 4 (.int .i64 (.negSucc 0))), H114⟩ τ115)
    (binK .add v67 v113 fun v117 =>
  k .ret ⟨(T.set .leaf 4 v117), H114⟩ τ115))
    (k .normal ⟨(T.set (T.set (T.set (T.set (T.set (T.set (T.set (T.set (T.set .leaf 0 t0) 1 t1) 5 t5) 6 t6) 7 t7) 8 v67) 9 t9) 10 v68) 132 v111), H109⟩ τ110)))
def s_stringslite_Index_l1 (call : CallK) (N : Nat) (st : St) (τ : Tape) (k : KC) : Ans :=
  match st with
  | ⟨fr, H⟩ =>
  getK fr 0 fun t0 =>
  getK fr 1 fun t1 =>
  getK fr 5 fun t5 =>
  getK fr 6 fun t6 =>
  getK fr 7 fun t7 =>
  getK fr 8 fun t8 =>
  getK fr 9 fun t9 =>
  getK fr 10 fun t10 =>
  binK .lss t8 t9 fun v36 =>
  condK v36
    (someK (pStrIndex [t0, t8]) fun v37 =>
  binK .neq v37 t6 fun v38 =>
  condK v38
    (binK .add t8 (.int .i64 (.ofNat 1)) fun v118 =>
  someK (pStrSlice true true [t0, v118, t9]) fun v119 =>
  call f_stringslite_IndexByte [v119, t6] H τ fun v120 H121 τ122 =>
  binK .lss v120 (.int .i64 (.ofNat 0)) fun v123 =>
  condK v123
    (k .ret ⟨(T.set .leaf 4 (.int .i64 (.negSucc 0))), H121⟩ τ122)
    (binK .add v120 (.int .i64 (.ofNat 1)) fun v124 =>
  binK .add t8 v124 fun v125 =>
  s_stringslite_Index_j2 call N k ⟨(T.set (T.set (T.set (T.set (T.set (T.set (T.set (T.set (T.set (T.set (T.set (T.set (T.set (T.set .leaf 0 t0) 1 t1) 5 t5) 6 t6) 7 t7) 8 t8) 9 t9) 10 t10) 11 v120) 74 t8) 75 v120) 76 v124) 77 v125) 8 v125), H121⟩ τ122))
    (s_stringslite_Index_j2 call N k ⟨(T.set (T.set (T.set (T.set (T.set (T.set (T.set (T.set (T.set .leaf 0 t0) 1 t1) 5 t5) 6 t6) 7 t7) 8 t8) 9 t9) 10 t10) 64 v38), H⟩ τ))
    (k (.exit 1) ⟨.leaf, H⟩ τ)
def s_stringslite_Index (call : CallK) (N : Nat) (a0 a1 : V) (H : Heap) (τ : Tape) (q : KV) : Ans :=
  someK (pLenS [a1]) fun v0 =>
  binK .eql v0 (.int .i64 (.ofNat 0)) fun v1 =>
  gK v1 false (fun q' => q' a1 H τ) H τ fun v2 H3 τ4 =>
  gK v1 false (fun q' => q' a0 H3 τ4) H3 τ4 fun v5 H6 τ7 =>
  gK v1 false (fun q' => binK .eql v2 v5 fun v => q' v H6 τ7) H6 τ7 fun v8 H9 τ10 =>
  someK (pPick [v1, (.bool true), v8]) fun v11 =>
  condK v11
    (q (.int .i64 (.ofNat 0)) H9 τ10)
    (binK .eql v0 (.int .i64 (.ofNat 1)) fun v12 =>
  condK v12
    (someK (pStrIndex [a1, (.int .i64 (.ofNat 0))]) fun v13 =>
  call f_stringslite_IndexByte [a0, v13] H9 τ10 fun v14 H15 τ16 =>
  q v14 H15 τ16)
    (someK (pLenS [a0]) fun v17 =>
  binK .geq v0 v17 fun v18 =>
  condK v18
    (q (.int .i64 (.negSucc 0)) H9 τ10)
    (someK (lLoad1 [(.ptr 0 0)] H9) fun v19 =>
  binK .leq v0 v19 fun v20 =>
  gK v20 true (fun q' => q' a0 H9 τ10) H9 τ10 fun v21 H22 τ23 =>
  gK v20 true (fun q' => someK (pLenS [v21]) fun v => q' v H22 τ23) H22 τ23 fun v24 H25 τ26 =>
  gK v20 true (fun q' => binK .leq v24 (.int .i64 (.ofNat 64)) fun v => q' v H25 τ26) H25 τ26 fun v27 H28 τ29 =>
  someK (pPick [v20, v27, (.bool false)]) fun v30 =>
  condK v30
    (none)
    (someK (pStrIndex [a1, (.int .i64 (.ofNat 0))]) fun v31 =>
  someK (pStrIndex [a1, (.int .i64 (.ofNat 1))]) fun v32 =>
  someK (pLenS [a0]) fun v33 =>
  binK .sub v33 v0 fun v34 =>
  binK .add v34 (.int .i64 (.ofNat 1)) fun v35 =>
  loopK (s_stringslite_Index_l1 call N) N ⟨(T.set (T.set (T.set (T.set (T.set (T.set (T.set (T.set .leaf 0 a0) 1 a1) 5 v0) 6 v31) 7 v32) 8 (.int .i64 (.ofNat 0))) 9 v35) 10 (.int .i64 (.ofNat 0))), H28⟩ τ29 (blockK 1 (seqK (s_stringslite_Index_j0 call N q) (endK [(.t 4)] q)))))))
theorem s_stringslite_Index_eq (call : CallK) (N : Nat) (a0 a1 : V) (H : Heap) (τ : Tape) (q : KV) : s_stringslite_Index call N a0 a1 H τ q = funK call N fn_stringslite_Index [a0, a1] H τ q := by kernel_rfl
def e_stringslite_Index (call : CallK) (N : Nat) (vs : List V) (H : Heap) (τ : Tape) (q : KV) : Ans := match vs with | [a0, a1] => s_stringslite_Index call N a0 a1 H τ q | _ => none
theorem e_stringslite_Index_ok : EntOk fn_stringslite_Index e_stringslite_Index := by
  intro call N vs H τ q r h
  unfold e_stringslite_Index at h
  split at h
  · rw [s_stringslite_Index_eq] at h; exact h
  · cases h
theorem e_stringslite_Index_nat : EntNat e_stringslite_Index := by
  intro c hn N vs H τ q
  unfold e_stringslite_Index
  split
  · rw [s_stringslite_Index_eq, s_stringslite_Index_eq]; exact funK_ent hn _ _ _ _ _ _
  · rfl
/-- ostiary/ostiaryref1.Trim -/
def fn_ref1_Trim : Fun := ⟨2,
  (.seq (.reg [⟨(some 4), none, (.p .mv), [(.c (.str []))], none⟩])
  (.keep [0, 1] (.seq (.block 0
   (.loop
    (.keep [0, 1] (.seq (.seq (.reg [⟨(some 5), none, (.p .mv), [(.t 0)], none⟩,
      ⟨(some 6), none, (.p .lenS), [(.t 5)], none⟩,
      ⟨(some 7), none, (.p (.bin .gtr)), [(.t 6), (.c (.int .i64 (.ofNat 0)))], none⟩,
      ⟨(some 8), none, (.p .mv), [(.t 7)], none⟩,
      ⟨(some 9), some (8, true), (.p .mv), [(.t 0)], none⟩,
      ⟨(some 10), some (8, true), (.p .strIndex), [(.t 9), (.c (.int .i64 (.ofNat 0)))], none⟩,
      ⟨(some 11), some (8, true), (.p .mv), [(.t 1)], none⟩,
      ⟨(some 12), some (8, true), (.call 113), [(.t 10), (.t 11)], none⟩,
      ⟨(some 13), none, (.p .pick), [(.t 8), (.t 12), (.c (.bool false))], none⟩])
    (.keep [0, 1, 13] (.cond (.t 13)
     .skip
     (.keep [0, 1] (.exit 0)))))
    (.keep [0, 1] (.block 1
     (.reg [⟨(some 14), none, (.p .mv), [(.t 0)], none⟩,
       ⟨(some 15), none, (.p (.strSlice true false)), [(.t 14), (.c (.int .i64 (.ofNat 1)))], none⟩,
       ⟨(some 0), none, (.p .mv), [(.t 15)], none⟩])))))))
  (.keep [0, 1] (.seq (.block 2
   (.loop
    (.keep [0, 1] (.seq (.seq (.reg [⟨(some 16), none, (.p .mv), [(.t 0)], none⟩,
      ⟨(some 17), none, (.p .lenS), [(.t 16)], none⟩,
      ⟨(some 18), none, (.p (.bin .gtr)), [(.t 17), (.c (.int .i64 (.ofNat 0)))], none⟩,
      ⟨(some 19), none, (.p .mv), [(.t 18)], none⟩,
      ⟨(some 20), some (19, true), (.p .mv), [(.t 0)], none⟩,
      ⟨(some 21), some (19, true), (.p .mv), [(.t 0)], none⟩,
      ⟨(some 22), some (19, true), (.p .lenS), [(.t 21)], none⟩,
      ⟨(some 23), some (19, true), (.p (.bin .sub)), [(.t 22), (.c (.int .i64 (.ofNat 1)))], none⟩,
      ⟨(some 24), some (19, true), (.p .strIndex), [(.t 20), (.t 23)], none⟩,
      ⟨(some 25), some (19, true), (.p .mv), [(.t 1)], none⟩,
      ⟨(some 26), some (19, true), (.call 113), [(.t 24), (.t 25)], none⟩,
      ⟨(some 27), none, (.p .pick), [(.t 19), (.t 26), (.c (.bool false))], none⟩])
    (.keep [0, 1, 27] (.cond (.t 27)
     .skip
     (.keep [0] (.exit 2)))))
    (.keep [0, 1] (.block 3
     (.reg [⟨(some 28), none, (.p .mv), [(.t 0)], none⟩,
       ⟨(some 29), none, (.p .mv), [(.t 0)], none⟩,
       ⟨(some 30), none, (.p .lenS), [(.t 29)], none⟩,
       ⟨(some 31), none, (.p (.bin .sub)), [(.t 30), (.c (.int .i64 (.ofNat 1)))], none⟩,
       ⟨(some 32), none, (.p (.strSlice false true)), [(.t 28), (.t 31)], none⟩,
       ⟨(some 0), none, (.p .mv), [(.t 32)], none⟩])))))))
  (.keep [0] (.seq (.reg [⟨(some 33), none, (.p .mv), [(.t 0)], none⟩,
    ⟨(some 4), none, (.p .mv), [(.t 33)], none⟩])
  (.keep [4] (.keep [4] .ret))))))))),
  [(.t 4)]⟩
def s_ref1_Trim_j1 (call : CallK) (N : Nat) (q : KV) (st : St) (τ : Tape) : Ans :=
  match st with
  | ⟨fr, H⟩ =>
  getK fr 0 fun t0 =>
  q t0 H τ
def s_ref1_Trim_l2 (call : CallK) (N : Nat) (st : St) (τ : Tape) (k : KC) : Ans :=
  match st with
  | ⟨fr, H⟩ =>
  getK fr 0 fun t0 =>
  getK fr 1 fun t1 =>
  someK (pLenS [t0]) fun v0 =>
  binK .gtr v0 (.int .i64 (.ofNat 0)) fun v1 =>
  gK v1 true (fun q' => q' t0 H τ) H τ fun v2 H3 τ4 =>
  gK v1 true (fun q' => q' t0 H3 τ4) H3 τ4 fun v5 H6 τ7 =>
  gK v1 true (fun q' => someK (pLenS [v5]) fun v => q' v H6 τ7) H6 τ7 fun v8 H9 τ10 =>
  gK v1 true (fun q' => binK .sub v8 (.int .i64 (.ofNat 1)) fun v => q' v H9 τ10) H9 τ10 fun v11 H12 τ13 =>
  gK v1 true (fun q' => someK (pStrIndex [v2, v11]) fun v => q' v H12 τ13) H12 τ13 fun v14 H15 τ16 =>
  gK v1 true (fun q' => q' t1 H15 τ16) H15 τ16 fun v17 H18 τ19 =>
  gK v1 true (fun q' => call f_ref1_ends [v14, v17] H18 τ19 q') H18 τ19 fun v20 H21 τ22 =>
  someK (pPick [v1, v20, (.bool false)]) fun v23 =>
  condK v23
    (someK (pLenS [t0]) fun v24 =>
  binK .sub v24 (.int .i64 (.ofNat 1)) fun v25 =>
  someK (pStrSlice false true [t0, v25]) fun v26 =>
  k .normal ⟨(T.set (T.set (T.set (T.set (T.set (T.set (T.set (T.set .leaf 0 t0) 1 t1) 28 t0) 29 t0) 30 v24) 31 v25) 32 v26) 0 v26), H21⟩ τ22)
    (k (.exit 2) ⟨(T.set .leaf 0 t0), H21⟩ τ22)
def s_ref1_Trim_j0 (call : CallK) (N : Nat) (q : KV) (st : St) (τ : Tape) : Ans :=
  match st with
  | ⟨fr, H⟩ =>
  getK fr 0 fun t0 =>
  getK fr 1 fun t1 =>
  loopK (s_ref1_Trim_l2 call N) N ⟨(T.set (T.set .leaf 0 t0) 1 t1), H⟩ τ (blockK 2 (seqK (s_ref1_Trim_j1 call N q) (endK [(.t 4)] q)))
def s_ref1_Trim_l3 (call : CallK) (N : Nat) (st : St) (τ : Tape) (k : KC) : Ans :=
  match st with
  | ⟨fr, H⟩ =>
  getK fr 0 fun t0 =>
  getK fr 1 fun t1 =>
  someK (pLenS [t0]) fun v27 =>
  binK .gtr v27 (.int .i64 (.ofNat 0)) fun v28 =>
  gK v28 true (fun q' => q' t0 H τ) H τ fun v29 H30 τ31 =>
  gK v28 true (fun q' => someK (pStrIndex [v29, (.int .i64 (.ofNat 0))]) fun v => q' v H30 τ31) H30 τ31 fun v32 H33 τ34 =>
  gK v28 true (fun q' => q' t1 H33 τ34) H33 τ34 fun v35 H36 τ37 =>
  gK v28 true (fun q' => call f_ref1_ends [v32, v35] H36 τ37 q') H36 τ37 fun v38 H39 τ40 =>
  someK (pPick [v28, v38, (.bool false)]) fun v41 =>
  condK v41
    (someK (pStrSlice true false [t0, (.int .i64 (.ofNat 1))]) fun v42 =>
  k .normal ⟨(T.set (T.set (T.set (T.set (T.set .leaf 0 t0) 1 t1) 14 t0) 15 v42) 0 v42), H39⟩ τ40)
    (k (.exit 0) ⟨(T.set (T.set .leaf 0 t0) 1 t1), H39⟩ τ40)
def s_ref1_Trim (call : CallK) (N : Nat) (a0 a1 : V) (H : Heap) (τ : Tape) (q : KV) : Ans :=
  loopK (s_ref1_Trim_l3 call N) N ⟨(T.set (T.set .leaf 0 a0) 1 a1), H⟩ τ (blockK 0 (seqK (s_ref1_Trim_j0 call N q) (endK [(.t 4)] q)))
theorem s_ref1_Trim_eq (call : CallK) (N : Nat) (a0 a1 : V) (H : Heap) (τ : Tape) (q : KV) : s_ref1_Trim call N a0 a1 H τ q = funK call N fn_ref1_Trim [a0, a1] H τ q := by kernel_rfl
def e_ref1_Trim (call : CallK) (N : Nat) (vs : List V) (H : Heap) (τ : Tape) (q : KV) : Ans := match vs with | [a0, a1] => s_ref1_Trim call N a0 a1 H τ q | _ => none
theorem e_ref1_Trim_ok : EntOk fn_ref1_Trim e_ref1_Trim := by
  intro call N vs H τ q r h
  unfold e_ref1_Trim at h
  split at h
  · rw [s_ref1_Trim_eq] at h; exact h
  · cases h
theorem e_ref1_Trim_nat : EntNat e_ref1_Trim := by
  intro c hn N vs H τ q
  unfold e_ref1_Trim
  split
  · rw [s_ref1_Trim_eq, s_ref1_Trim_eq]; exact funK_ent hn _ _ _ _ _ _
  · rfl
/-- ostiary/ostiaryref1.Letter -/
def fn_ref1_Letter : Fun := ⟨1,
  (.seq (.reg [⟨(some 2), none, (.p .mv), [(.c (.bool false))], none⟩])
  (.keep [0] (.seq (.reg [⟨(some 3), none, (.p .mv), [(.t 0)], none⟩,
    ⟨(some 4), none, (.p (.bin .geq)), [(.t 3), (.c (.int .u8 (.ofNat 97)))], none⟩,
    ⟨(some 5), none, (.p .mv), [(.t 4)], none⟩,
    ⟨(some 6), some (5, true), (.p .mv), [(.t 0)], none⟩,
    ⟨(some 7), some (5, true), (.p (.bin .leq)), [(.t 6), (.c (.int .u8 (.ofNat 122)))], none⟩,
    ⟨(some 8), none, (.p .pick), [(.t 5), (.t 7), (.c (.bool false))], none⟩,
    ⟨(some 9), none, (.p .mv), [(.t 8)], none⟩,
    ⟨(some 10), some (9, false), (.p .mv), [(.t 0)], none⟩,
    ⟨(some 11), some (9, false), (.p (.bin .geq)), [(.t 10), (.c (.int .u8 (.ofNat 65)))], none⟩,
    ⟨(some 12), some (9, false), (.p .mv), [(.t 11)], none⟩,
    ⟨(some 13), some (12, true), (.p .mv), [(.t 0)], none⟩,
    ⟨(some 14), some (12, true), (.p (.bin .leq)), [(.t 13), (.c (.int .u8 (.ofNat 90)))], none⟩,
    ⟨(some 15), some (9, false), (.p .pick), [(.t 12), (.t 14), (.c (.bool false))], none⟩,
    ⟨(some 16), none, (.p .pick), [(.t 9), (.c (.bool true)), (.t 15)], none⟩,
    ⟨(some 2), none, (.p .mv), [(.t 16)], none⟩])
  (.keep [2] (.keep [2] .ret))))),
  [(.t 2)]⟩
def s_ref1_Letter (call : CallK) (N : Nat) (a0 : V) (H : Heap) (τ : Tape) (q : KV) : Ans :=
  binK .geq a0 (.int .u8 (.ofNat 97)) fun v0 =>
  gK v0 true (fun q' => q' a0 H τ) H τ fun v1 H2 τ3 =>
  gK v0 true (fun q' => binK .leq v1 (.int .u8 (.ofNat 122)) fun v => q' v H2 τ3) H2 τ3 fun v4 H5 τ6 =>
  someK (pPick [v0, v4, (.bool false)]) fun v7 =>
  gK v7 false (fun q' => q' a0 H5 τ6) H5 τ6 fun v8 H9 τ10 =>
  gK v7 false (fun q' => binK .geq v8 (.int .u8 (.ofNat 65)) fun v => q' v H9 τ10) H9 τ10 fun v11 H12 τ13 =>
  gK v7 false (fun q' => q' v11 H12 τ13) H12 τ13 fun v14 H15 τ16 =>
  gK v14 true (fun q' => q' a0 H15 τ16) H15 τ16 fun v17 H18 τ19 =>
  gK v14 true (fun q' => binK .leq v17 (.int .u8 (.ofNat 90)) fun v => q' v H18 τ19) H18 τ19 fun v20 H21 τ22 =>
  gK v7 false (fun q' => someK (pPick [v14, v20, (.bool false)]) fun v => q' v H21 τ22) H21 τ22 fun v23 H24 τ25 =>
  someK (pPick [v7, (.bool true), v23]) fun v26 =>
  q v26 H24 τ25
theorem s_ref1_Letter_eq (call : CallK) (N : Nat) (a0 : V) (H : Heap) (τ : Tape) (q : KV) : s_ref1_Letter call N a0 H τ q = funK call N fn_ref1_Letter [a0] H τ q := by kernel_rfl
def e_ref1_Letter (call : CallK) (N : Nat) (vs : List V) (H : Heap) (τ : Tape) (q : KV) : Ans := match vs with | [a0] => s_ref1_Letter call N a0 H τ q | _ => none
theorem e_ref1_Letter_ok : EntOk fn_ref1_Letter e_ref1_Letter := by
  intro call N vs H τ q r h
  unfold e_ref1_Letter at h
  split at h
  · rw [s_ref1_Letter_eq] at h; exact h
  · cases h
theorem e_ref1_Letter_nat : EntNat e_ref1_Letter := by
  intro c hn N vs H τ q
  unfold e_ref1_Letter
  split
  · rw [s_ref1_Letter_eq, s_ref1_Letter_eq]; exact funK_ent hn _ _ _ _ _ _
  · rfl
/-- ostiary/ostiaryref1.Digit -/
def fn_ref1_Digit : Fun := ⟨1,
  (.seq (.reg [⟨(some 2), none, (.p .mv), [(.c (.bool false))], none⟩])
  (.keep [0] (.seq (.reg [⟨(some 3), none, (.p .mv), [(.t 0)], none⟩,
    ⟨(some 4), none, (.p (.bin .geq)), [(.t 3), (.c (.int .u8 (.ofNat 48)))], none⟩,
    ⟨(some 5), none, (.p .mv), [(.t 4)], none⟩,
    ⟨(some 6), some (5, true), (.p .mv), [(.t 0)], none⟩,
    ⟨(some 7), some (5, true), (.p (.bin .leq)), [(.t 6), (.c (.int .u8 (.ofNat 57)))], none⟩,
    ⟨(some 8), none, (.p .pick), [(.t 5), (.t 7), (.c (.bool false))], none⟩,
    ⟨(some 2), none, (.p .mv), [(.t 8)], none⟩])
  (.keep [2] (.keep [2] .ret))))),
  [(.t 2)]⟩
def s_ref1_Digit (call : CallK) (N : Nat) (a0 : V) (H : Heap) (τ : Tape) (q : KV) : Ans :=
  binK .geq a0 (.int .u8 (.ofNat 48)) fun v0 =>
  gK v0 true (fun q' => q' a0 H τ) H τ fun v1 H2 τ3 =>
  gK v0 true (fun q' => binK .leq v1 (.int .u8 (.ofNat 57)) fun v => q' v H2 τ3) H2 τ3 fun v4 H5 τ6 =>
  someK (pPick [v0, v4, (.bool false)]) fun v7 =>
  q v7 H5 τ6
theorem s_ref1_Digit_eq (call : CallK) (N : Nat) (a0 : V) (H : Heap) (τ : Tape) (q : KV) : s_ref1_Digit call N a0 H τ q = funK call N fn_ref1_Digit [a0] H τ q := by kernel_rfl
def e_ref1_Digit (call : CallK) (N : Nat) (vs : List V) (H : Heap) (τ : Tape) (q : KV) : Ans := match vs with | [a0] => s_ref1_Digit call N a0 H τ q | _ => none
theorem e_ref1_Digit_ok : EntOk fn_ref1_Digit e_ref1_Digit := by
  intro call N vs H τ q r h
  unfold e_ref1_Digit at h
  split at h
  · rw [s_ref1_Digit_eq] at h; exact h
  · cases h
theorem e_ref1_Digit_nat : EntNat e_ref1_Digit := by
  intro c hn N vs H τ q
  unfold e_ref1_Digit
  split
  · rw [s_ref1_Digit_eq, s_ref1_Digit_eq]; exact funK_ent hn _ _ _ _ _ _
  · rfl
/-- strings.IndexRune -/
def fn_strings_IndexRune : Fun := ⟨2,
  (.seq (.reg [⟨(some 4), none, (.p .mv), [(.c (.int .i64 (.ofNat 0)))], none⟩])
  (.keep [0, 1] (.block 0
   (.seq (.reg [⟨(some 161), none, (.p .mv), [(.t 1)], none⟩,
     ⟨(some 162), none, (.p (.bin .leq)), [(.c (.int .i32 (.ofNat 0))), (.t 161)], none⟩,
     ⟨(some 163), none, (.p .mv), [(.t 162)], none⟩,
     ⟨(some 164), some (163, true), (.p .mv), [(.t 1)], none⟩,
     ⟨(some 165), some (163, true), (.p (.bin .lss)), [(.t 164), (.c (.int .i32 (.ofNat 128)))], none⟩,
     ⟨(some 166), none, (.p .pick), [(.t 163), (.t 165), (.c (.bool false))], none⟩,
     ⟨(some 160), none, (.p .mv), [(.t 166)], none⟩])
   (.keep [0, 1, 160] (.cond (.t 160)
    (.seq (.reg [⟨(some 167), none, (.p .mv), [(.t 0)], none⟩,
      ⟨(some 168), none, (.p .mv), [(.t 1)], none⟩,
      ⟨(some 169), none, (.p (.toInt .u8)), [(.t 168)], none⟩,
      ⟨(some 170), none, (.call 70), [(.t 167), (.t 169)], none⟩,
      ⟨(some 4), none, (.p .mv), [(.t 170)], none⟩])
    (.keep [4] (.keep [4] .ret)))
    (.seq (.reg [⟨(some 172), none, (.p .mv), [(.t 1)], none⟩,
      ⟨(some 173), none, (.p (.bin .eql)), [(.t 172), (.c (.int .i32 (.ofNat 65533)))], none⟩,
      ⟨(some 171), none, (.p .mv), [(.t 173)], none⟩])
    (.keep [0, 1, 171] (.cond (.t 171)
     (.seq (.seq (.reg [⟨(some 174), none, (.p .mv), [(.t 0)], none⟩,
       ⟨(some 175), none, (.e .range), [(.t 174)], none⟩])
     (.keep [175] (.block 9
      (.loop
       (.keep [175] (.seq (.reg [⟨(some 176), none, (.e .next), [(.t 175)], none⟩,
         ⟨(some 177), none, (.p (.extract 0)), [(.t 176)], none⟩])
       (.keep [175, 176, 177] (.seq (.cond (.t 177)
        .skip
        (.keep [] (.exit 9)))
       (.keep [175, 176] (.block 10
        (.seq (.reg [⟨(some 178), none, (.p (.extract 1)), [(.t 176)], none⟩,
          ⟨(some 179), none, (.p (.extract 2)), [(.t 176)], none⟩,
          ⟨(some 5), none, (.p .mv), [(.t 178)], none⟩,
          ⟨(some 6), none, (.p .mv), [(.t 179)], none⟩])
        (.keep [5, 6, 175] (.seq (.reg [⟨(some 180), none, (.p .mv), [(.t 6)], none⟩,
          ⟨(some 181), none, (.p (.bin .eql)), [(.t 180), (.c (.int .i32 (.ofNat 65533)))], none⟩])
        (.keep [5, 175, 181] (.cond (.t 181)
         (.seq (.reg [⟨(some 182), none, (.p .mv), [(.t 5)], none⟩,
           ⟨(some 4), none, (.p .mv), [(.t 182)], none⟩])
         (.keep [4] (.keep [4] .ret)))
         .skip)))))))))))))))
     (.keep [] (.seq (.reg [⟨(some 4), none, (.p .mv), [(.c (.int .i64 (.negSucc 0)))], none⟩])
     (.keep [4] (.keep [4] .ret)))))
     (.seq (.reg [⟨(some 184), none, (.p .mv), [(.t 1)], none⟩,
       ⟨(some 185), none, (.call 114), [(.t 184)], none⟩,
       ⟨(some 186), none, (.p (.un .not)), [(.t 185)], none⟩,
       ⟨(some 183), none, (.p .mv), [(.t 186)], none⟩])
     (.keep [0, 1, 183] (.cond (.t 183)
      (.seq (.reg [⟨(some 4), none, (.p .mv), [(.c (.int .i64 (.negSucc 0)))], none⟩])
      (.keep [4] (.keep [4] .ret)))
      (.scope (.seq (.reg [⟨(some 17), none, (.p .mv), [(.t 1)], none⟩,
        ⟨(some 18), none, (.p .runeStr), [(.t 17)], none⟩,
        ⟨(some 7), none, (.p .mv), [(.t 18)], none⟩])
      (.keep [0, 7] (.seq (.reg [⟨(some 19), none, (.p .mv), [(.t 7)], none⟩,
        ⟨(some 20), none, (.p .lenS), [(.t 19)], none⟩,
        ⟨(some 21), none, (.p (.bin .sub)), [(.t 20), (.c (.int .i64 (.ofNat 1)))], none⟩,
        ⟨(some 8), none, (.p .mv), [(.t 21)], none⟩])
      (.keep [0, 7, 8] (.seq (.reg [⟨(some 22), none, (.p .mv), [(.t 8)], none⟩,
        ⟨(some 9), none, (.p .mv), [(.t 22)], none⟩])
      (.keep [0, 7, 8, 9] (.seq (.reg [⟨(some 10), none, (.p .mv), [(.c (.int .i64 (.ofNat 0)))], none⟩])
      (.keep [0, 7, 8, 9] (.seq (.block 1
       (.loop
        (.keep [0, 7, 8, 9] (.seq (.seq (.reg [⟨(some 23), none, (.p .mv), [(.t 9)], none⟩,
          ⟨(some 24), none, (.p .mv), [(.t 0)], none⟩,
          ⟨(some 25), none, (.p .lenS), [(.t 24)], none⟩,
          ⟨(some 26), none, (.p (.bin .lss)), [(.t 23), (.t 25)], none⟩])
        (.keep [0, 7, 8, 9, 26] (.cond (.t 26)
         .skip
         (.keep [] (.exit 1)))))
        (.keep [0, 7, 8, 9] (.block 2
         (.scope (.seq (.seq (.draw [⟨(some 27), none, (.p .mv), [(.t 0)], none⟩,
           ⟨(some 28), none, (.p .mv), [(.t 9)], none⟩,
           ⟨(some 29), none, (.p .strIndex), [(.t 27), (.t 28)], none⟩,
           ⟨(some 30), none, (.p .mv), [(.t 7)], none⟩,
           ⟨(some 31), none, (.p .mv), [(.t 8)], none⟩,
           ⟨(some 32), none, (.p .strIndex), [(.t 30), (.t 31)], none⟩,
           ⟨(some 33), none, (.p (.bin .neq)), [(.t 29), (.t 32)], none⟩])
         (.keep [0, 7, 8, 9, 33] (.cond (.t 33)
          (.seq (.draw [⟨(some 34), none, (.p .mv), [(.t 0)], none⟩,
            ⟨(some 35), none, (.p .mv), [(.t 9)], none⟩,
            ⟨(some 36), none, (.p (.bin .add)), [(.t 35), (.c (.int .i64 (.ofNat 1)))], none⟩,
            ⟨(some 37), none, (.p (.strSlice true false)), [(.t 34), (.t 36)], none⟩,
            ⟨(some 38), none, (.p .mv), [(.t 7)], none⟩,
            ⟨(some 39), none, (.p .mv), [(.t 8)], none⟩,
            ⟨(some 40), none, (.p .strIndex), [(.t 38), (.t 39)], none⟩,
            ⟨(some 41), none, (.call 70), [(.t 37), (.t 40)], none⟩,
            ⟨(some 11), none, (.p .mv), [(.t 41)], none⟩])
          (.keep [0, 7, 8, 9, 11] (.seq (.seq (.reg [⟨(some 42), none, (.p .mv), [(.t 11)], none⟩,
            ⟨(some 43), none, (.p (.bin .lss)), [(.t 42), (.c (.int .i64 (.ofNat 0)))], none⟩])
          (.keep [0, 7, 8, 9, 11, 43] (.cond (.t 43)
           (.seq (.reg [⟨(some 4), none, (.p .mv), [(.c (.int .i64 (.negSucc 0)))], none⟩])
           (.keep [4] (.keep [4] .ret)))
           .skip)))
          (.keep [0, 7, 8, 9, 11] (.reg [⟨(some 44), none, (.p .mv), [(.t 9)], none⟩,
            ⟨(some 45), none, (.p .mv), [(.t 11)], none⟩,
            ⟨(some 46), none, (.p (.bin .add)), [(.t 45), (.c (.int .i64 (.ofNat 1)))], none⟩,
            ⟨(some 47), none, (.p (.bin .add)), [(.t 44), (.t 46)], none⟩,
            ⟨(some 9), none, (.p .mv), [(.t 47)], none⟩])))))
          .skip)))
         (.keep [0, 7, 8, 9] (.seq (.seq (.reg [⟨(some 12), none, (.p .mv), [(.c (.int .i64 (.ofNat 1)))], none⟩])
         (.keep [0, 7, 8, 9, 12] (.block 3
          (.loop
           (.keep [0, 7, 8, 9, 12] (.seq (.seq (.reg [⟨(some 48), none, (.p .mv), [(.t 12)], none⟩,
             ⟨(some 49), none, (.p .mv), [(.t 7)], none⟩,
             ⟨(some 50), none, (.p .lenS), [(.t 49)], none⟩,
             ⟨(some 51), none, (.p (.bin .lss)), [(.t 48), (.t 50)], none⟩])
           (.keep [0, 7, 8, 9, 12, 51] (.cond (.t 51)
            .skip
            (.keep [8, 9] (.exit 3)))))
           (.keep [0, 7, 8, 9, 12] (.seq (.block 4
            (.seq (.draw [⟨(some 54), none, (.p .mv), [(.t 0)], none⟩,
              ⟨(some 55), none, (.p .mv), [(.t 9)], none⟩,
              ⟨(some 56), none, (.p .mv), [(.t 12)], none⟩,
              ⟨(some 57), none, (.p (.bin .sub)), [(.t 55), (.t 56)], none⟩,
              ⟨(some 58), none, (.p .strIndex), [(.t 54), (.t 57)], none⟩,
              ⟨(some 59), none, (.p .mv), [(.t 7)], none⟩,
              ⟨(some 60), none, (.p .mv), [(.t 8)], none⟩,
              ⟨(some 61), none, (.p .mv), [(.t 12)], none⟩,
              ⟨(some 62), none, (.p (.bin .sub)), [(.t 60), (.t 61)], none⟩,
              ⟨(some 63), none, (.p .strIndex), [(.t 59), (.t 62)], none⟩,
              ⟨(some 64), none, (.p (.bin .neq)), [(.t 58), (.t 63)], none⟩])
            (.keep [0, 7, 8, 9, 12, 64] (.cond (.t 64)
             .bad
             .skip))))
           (.keep [0, 7, 8, 9, 12] (.reg [⟨(some 52), none, (.p .mv), [(.t 12)], none⟩,
             ⟨(some 53), none, (.p (.bin .add)), [(.t 52), (.c (.int .i64 (.ofNat 1)))], none⟩,
             ⟨(some 12), none, (.p .mv), [(.t 53)], none⟩]))))))))))
         (.keep [8, 9] (.seq (.seq (.reg [⟨(some 65), none, (.p .mv), [(.t 9)], none⟩,
           ⟨(some 66), none, (.p .mv), [(.t 8)], none⟩,
           ⟨(some 67), none, (.p (.bin .sub)), [(.t 65), (.t 66)], none⟩,
           ⟨(some 4), none, (.p .mv), [(.t 67)], none⟩])
         (.keep [4] (.keep [4] .ret)))
         (.keep [0, 7, 8, 9, 10] (.seq .skip
         (.keep [0, 7, 8, 9, 10] (.seq (.reg [⟨(some 68), none, (.p .mv), [(.t 10)], none⟩,
           ⟨(some 69), none, (.p (.bin .add)), [(.t 68), (.c (.int .i64 (.ofNat 1)))], none⟩,
           ⟨(some 10), none, (.p .mv), [(.t 69)], none⟩])
         (.keep [0, 7, 8, 9, 10] (.seq (.reg [⟨(some 70), none, (.p .mv), [(.t 9)], none⟩,
           ⟨(some 71), none, (.p (.bin .add)), [(.t 70), (.c (.int .i64 (.ofNat 1)))], none⟩,
           ⟨(some 9), none, (.p .mv), [(.t 71)], none⟩])
         (.keep [0, 7, 8, 9, 10] (.seq (.reg [⟨(some 72), none, (.p .mv), [(.c (.bool true))], none⟩,
           ⟨(some 73), some (72, true), (.p .mv), [(.t 10)], none⟩,
           ⟨(some 74), some (72, true), (.p .mv), [(.t 9)], none⟩,
           ⟨(some 75), some (72, true), (.call 108), [(.t 74)], none⟩,
           ⟨(some 76), some (72, true), (.p (.bin .gtr)), [(.t 73), (.t 75)], none⟩,
           ⟨(some 77), none, (.p .pick), [(.t 72), (.t 76), (.c (.bool false))], none⟩,
           ⟨(some 78), none, (.p .mv), [(.t 77)], none⟩,
           ⟨(some 79), some (78, true), (.p .mv), [(.t 9)], none⟩,
           ⟨(some 80), some (78, true), (.p .mv), [(.t 0)], none⟩,
           ⟨(some 81), some (78, true), (.p .lenS), [(.t 80)], none⟩,
           ⟨(some 82), some (78, true), (.p (.bin .lss)), [(.t 79), (.t 81)], none⟩,
           ⟨(some 83), none, (.p .pick), [(.t 78), (.t 82), (.c (.bool false))], none⟩,
           ⟨(some 84), none, (.p .mv), [(.t 83)], none⟩,
           ⟨(some 85), some (84, false), (.p .mv), [(.c (.bool false))], none⟩,
           ⟨(some 86), some (85, true), (.p .mv), [(.t 10)], none⟩,
           ⟨(some 87), some (85, true), (.p .mv), [(.t 9)], none⟩,
           ⟨(some 88), some (85, true), (.p (.bin .shr)), [(.t 87), (.c (.int .u64 (.ofNat 4)))], none⟩,
           ⟨(some 89), some (85, true), (.p (.bin .add)), [(.c (.int .i64 (.ofNat 4))), (.t 88)], none⟩,
           ⟨(some 90), some (85, true), (.p (.bin .geq)), [(.t 86), (.t 89)], none⟩,
           ⟨(some 91), some (84, false), (.p .pick), [(.t 85), (.t 90), (.c (.bool false))], none⟩,
           ⟨(some 92), some (84, false), (.p .mv), [(.t 91)], none⟩,
           ⟨(some 93), some (92, true), (.p .mv), [(.t 9)], none⟩,
           ⟨(some 94), some (92, true), (.p .mv), [(.t 0)], none⟩,
           ⟨(some 95), some (92, true), (.p .lenS), [(.t 94)], none⟩,
           ⟨(some 96), some (92, true), (.p (.bin .lss)), [(.t 93), (.t 95)], none⟩,
           ⟨(some 97), some (84, false), (.p .pick), [(.t 92), (.t 96), (.c (.bool false))], none⟩,
           ⟨(some 98), none, (.p .pick), [(.t 84), (.c (.bool true)), (.t 97)], none⟩])
         (.keep [0, 7, 8, 9, 98] (.cond (.t 98)
          .bad
          .skip))))))))))))))))))))))
      (.keep [] (.seq (.seq (.reg [⟨(some 4), none, (.p .mv), [(.c (.int .i64 (.negSucc 0)))], none⟩])
      (.keep [4] (.keep [4] .ret)))
      (.keep [0, 7, 8, 9] (.seq .skip
      (.keep [0, 7, 8, 9] (.seq (.cond (.c (.bool true))
       (.seq .bad
       (.keep [8, 9, 13] (.seq (.reg [⟨(some 107), none, (.p .mv), [(.t 13)], none⟩,
         ⟨(some 108), none, (.p (.bin .geq)), [(.t 107), (.c (.int .i64 (.ofNat 0)))], none⟩])
       (.keep [8, 9, 13, 108] (.cond (.t 108)
        (.seq (.reg [⟨(some 109), none, (.p .mv), [(.t 9)], none⟩,
          ⟨(some 110), none, (.p .mv), [(.t 13)], none⟩,
          ⟨(some 111), none, (.p (.bin .add)), [(.t 109), (.t 110)], none⟩,
          ⟨(some 112), none, (.p .mv), [(.t 8)], none⟩,
          ⟨(some 113), none, (.p (.bin .sub)), [(.t 111), (.t 112)], none⟩,
          ⟨(some 4), none, (.p .mv), [(.t 113)], none⟩])
        (.keep [4] (.keep [4] .ret)))
        .skip)))))
       (.scope (.seq (.reg [⟨(some 114), none, (.p .mv), [(.t 7)], none⟩,
         ⟨(some 115), none, (.p .mv), [(.t 8)], none⟩,
         ⟨(some 116), none, (.p .strIndex), [(.t 114), (.t 115)], none⟩,
         ⟨(some 14), none, (.p .mv), [(.t 116)], none⟩])
       (.keep [0, 7, 8, 9, 14] (.seq (.reg [⟨(some 117), none, (.p .mv), [(.t 7)], none⟩,
         ⟨(some 118), none, (.p .mv), [(.t 8)], none⟩,
         ⟨(some 119), none, (.p (.bin .sub)), [(.t 118), (.c (.int .i64 (.ofNat 1)))], none⟩,
         ⟨(some 120), none, (.p .strIndex), [(.t 117), (.t 119)], none⟩,
         ⟨(some 15), none, (.p .mv), [(.t 120)], none⟩])
       (.keep [0, 7, 8, 9, 14, 15] (.seq .skip
       (.keep [0, 7, 8, 9, 14, 15] (.block 5
        (.loop
         (.keep [0, 7, 8, 9, 14, 15] (.seq (.seq (.reg [⟨(some 121), none, (.p .mv), [(.t 9)], none⟩,
           ⟨(some 122), none, (.p .mv), [(.t 0)], none⟩,
           ⟨(some 123), none, (.p .lenS), [(.t 122)], none⟩,
           ⟨(some 124), none, (.p (.bin .lss)), [(.t 121), (.t 123)], none⟩])
         (.keep [0, 7, 8, 9, 14, 15, 124] (.cond (.t 124)
          .skip
          (.keep [] (.exit 5)))))
         (.keep [0, 7, 8, 9, 14, 15] (.seq (.block 6
          (.seq (.reg [⟨(some 127), none, (.p .mv), [(.t 0)], none⟩,
            ⟨(some 128), none, (.p .mv), [(.t 9)], none⟩,
            ⟨(some 129), none, (.p .strIndex), [(.t 127), (.t 128)], none⟩,
            ⟨(some 130), none, (.p .mv), [(.t 14)], none⟩,
            ⟨(some 131), none, (.p (.bin .eql)), [(.t 129), (.t 130)], none⟩,
            ⟨(some 132), none, (.p .mv), [(.t 131)], none⟩,
            ⟨(some 133), some (132, true), (.p .mv), [(.t 0)], none⟩,
            ⟨(some 134), some (132, true), (.p .mv), [(.t 9)], none⟩,
            ⟨(some 135), some (132, true), (.p (.bin .sub)), [(.t 134), (.c (.int .i64 (.ofNat 1)))], none⟩,
            ⟨(some 136), some (132, true), (.p .strIndex), [(.t 133), (.t 135)], none⟩,
            ⟨(some 137), some (132, true), (.p .mv), [(.t 15)], none⟩,
            ⟨(some 138), some (132, true), (.p (.bin .eql)), [(.t 136), (.t 137)], none⟩,
            ⟨(some 139), none, (.p .pick), [(.t 132), (.t 138), (.c (.bool false))], none⟩])
          (.keep [0, 7, 8, 9, 14, 15, 139] (.cond (.t 139)
           (.seq (.seq (.reg [⟨(some 16), none, (.p .mv), [(.c (.int .i64 (.ofNat 2)))], none⟩])
           (.keep [0, 7, 8, 9, 14, 15, 16] (.block 7
            (.loop
             (.keep [0, 7, 8, 9, 14, 15, 16] (.seq (.seq (.reg [⟨(some 140), none, (.p .mv), [(.t 16)], none⟩,
               ⟨(some 141), none, (.p .mv), [(.t 7)], none⟩,
               ⟨(some 142), none, (.p .lenS), [(.t 141)], none⟩,
               ⟨(some 143), none, (.p (.bin .lss)), [(.t 140), (.t 142)], none⟩])
             (.keep [0, 7, 8, 9, 14, 15, 16, 143] (.cond (.t 143)
              .skip
              (.keep [8, 9] (.exit 7)))))
             (.keep [0, 7, 8, 9, 14, 15, 16] (.seq (.block 8
              (.seq (.draw [⟨(some 146), none, (.p .mv), [(.t 0)], none⟩,
                ⟨(some 147), none, (.p .mv), [(.t 9)], none⟩,
                ⟨(some 148), none, (.p .mv), [(.t 16)], none⟩,
                ⟨(some 149), none, (.p (.bin .sub)), [(.t 147), (.t 148)], none⟩,
                ⟨(some 150), none, (.p .strIndex), [(.t 146), (.t 149)], none⟩,
                ⟨(some 151), none, (.p .mv), [(.t 7)], none⟩,
                ⟨(some 152), none, (.p .mv), [(.t 8)], none⟩,
                ⟨(some 153), none, (.p .mv), [(.t 16)], none⟩,
                ⟨(some 154), none, (.p (.bin .sub)), [(.t 152), (.t 153)], none⟩,
                ⟨(some 155), none, (.p .strIndex), [(.t 151), (.t 154)], none⟩,
                ⟨(some 156), none, (.p (.bin .neq)), [(.t 150), (.t 155)], none⟩])
              (.keep [0, 7, 8, 9, 14, 15, 16, 156] (.cond (.t 156)
               (.keep [0, 7, 8, 9, 14, 15] (.exit 6))
               .skip))))
             (.keep [0, 7, 8, 9, 14, 15, 16] (.reg [⟨(some 144), none, (.p .mv), [(.t 16)], none⟩,
               ⟨(some 145), none, (.p (.bin .add)), [(.t 144), (.c (.int .i64 (.ofNat 1)))], none⟩,
               ⟨(some 16), none, (.p .mv), [(.t 145)], none⟩]))))))))))
           (.keep [8, 9] (.seq (.reg [⟨(some 157), none, (.p .mv), [(.t 9)], none⟩,
             ⟨(some 158), none, (.p .mv), [(.t 8)], none⟩,
             ⟨(some 159), none, (.p (.bin .sub)), [(.t 157), (.t 158)], none⟩,
             ⟨(some 4), none, (.p .mv), [(.t 159)], none⟩])
           (.keep [4] (.keep [4] .ret)))))
           .skip))))
         (.keep [0, 7, 8, 9, 14, 15] (.reg [⟨(some 125), none, (.p .mv), [(.t 9)], none⟩,
           ⟨(some 126), none, (.p (.bin .add)), [(.t 125), (.c (.int .i64 (.ofNat 1)))], none⟩,
           ⟨(some 9), none, (.p .mv), [(.t 126)], none⟩]))))))))))))))))
      (.keep [] (.seq (.reg [⟨(some 4), none, (.p .mv), [(.c (.int .i64 (.negSucc 0)))], none⟩])
      (.keep [4] (.keep [4] .ret)))))))))))))))))))))))))))))))),
  [(.t 4)]⟩
def s_strings_IndexRune_j0 (call : CallK) (N : Nat) (q : KV) (st : St) (τ : Tape) : Ans :=
  match st with
  | ⟨fr, H⟩ =>
  q (.int .i64 (.negSucc 0)) H τ
def s_strings_IndexRune_l1 (call : CallK) (N : Nat) (st : St) (τ : Tape) (k : KC) : Ans :=
  match st with
  | ⟨fr, H⟩ =>
  getK fr 175 fun t175 =>
  effK (eNext [t175] H τ) fun v16 H17 τ18 =>
  someK (pExtract 0 [v16]) fun v19 =>
  condK v19
    (someK (pExtract 1 [v16]) fun v20 =>
  someK (pExtract 2 [v16]) fun v21 =>
  binK .eql v21 (.int .i32 (.ofNat 65533)) fun v22 =>
  condK v22
    (k .ret ⟨(T.set .leaf 4 v20), H17⟩ τ18)
    (k .normal ⟨(T.set (T.set (T.set .leaf 5 v20) 175 t175) 181 v22), H17⟩ τ18))
    (k (.exit 9) ⟨.leaf, H17⟩ τ18)
def s_strings_IndexRune_j2 (call : CallK) (N : Nat) (q : KV) (st : St) (τ : Tape) : Ans :=
  match st with
  | ⟨fr, H⟩ =>
  q (.int .i64 (.negSucc 0)) H τ
def s_strings_IndexRune_j5 (call : CallK) (N : Nat) (k : KC) (st : St) (τ : Tape) : Ans :=
  match st with
  | ⟨fr, H⟩ =>
  getK fr 8 fun t8 =>
  getK fr 9 fun t9 =>
  binK .sub t9 t8 fun v35 =>
  k .ret ⟨(T.set .leaf 4 v35), H⟩ τ
def s_strings_IndexRune_l6 (call : CallK) (N : Nat) (st : St) (τ : Tape) (k : KC) : Ans :=
  match st with
  | ⟨fr, H⟩ =>
  getK fr 0 fun t0 =>
  getK fr 7 fun t7 =>
  getK fr 8 fun t8 =>
  getK fr 9 fun t9 =>
  getK fr 12 fun t12 =>
  someK (pLenS [t7]) fun v36 =>
  binK .lss t12 v36 fun v37 =>
  condK v37
    (binK .sub t9 t12 fun v38 =>
  someK (pStrIndex [t0, v38]) fun v39 =>
  binK .sub t8 t12 fun v40 =>
  someK (pStrIndex [t7, v40]) fun v41 =>
  binK .neq v39 v41 fun v42 =>
  condK v42
    (none)
    (binK .add t12 (.int .i64 (.ofNat 1)) fun v43 =>
  k .normal ⟨(T.set (T.set (T.set (T.set (T.set (T.set (T.set (T.set .leaf 0 t0) 7 t7) 8 t8) 9 t9) 12 t12) 52 t12) 53 v43) 12 v43), H⟩ τ))
    (k (.exit 3) ⟨(T.set (T.set .leaf 8 t8) 9 t9), H⟩ τ)
def s_strings_IndexRune_j4 (call : CallK) (N : Nat) (k : KC) (st : St) (τ : Tape) : Ans :=
  match st with
  | ⟨fr, H⟩ =>
  getK fr 0 fun t0 =>
  getK fr 7 fun t7 =>
  getK fr 8 fun t8 =>
  getK fr 9 fun t9 =>
  loopK (s_strings_IndexRune_l6 call N) N ⟨(T.set (T.set (T.set (T.set (T.set .leaf 0 t0) 7 t7) 8 t8) 9 t9) 12 (.int .i64 (.ofNat 1))), H⟩ τ (blockK 3 (seqK (s_strings_IndexRune_j5 call N k) (blockK 2 k)))
def s_strings_IndexRune_l3 (call : CallK) (N : Nat) (st : St) (τ : Tape) (k : KC) : Ans :=
  match st with
  | ⟨fr, H⟩ =>
  getK fr 0 fun t0 =>
  getK fr 7 fun t7 =>
  getK fr 8 fun t8 =>
  getK fr 9 fun t9 =>
  someK (pLenS [t0]) fun v30 =>
  binK .lss t9 v30 fun v31 =>
  condK v31
    (someK (pStrIndex [t0, t9]) fun v32 =>
  someK (pStrIndex [t7, t8]) fun v33 =>
  binK .neq v32 v33 fun v34 =>
  condK v34
    (binK .add t9 (.int .i64 (.ofNat 1)) fun v44 =>
  someK (pStrSlice true false [t0, v44]) fun v45 =>
  someK (pStrIndex [t7, t8]) fun v46 =>
  call f_strings_IndexByte [v45, v46] H τ fun v47 H48 τ49 =>
  binK .lss v47 (.int .i64 (.ofNat 0)) fun v50 =>
  condK v50
    (k .ret ⟨(T.set .leaf 4 (.int .i64 (.negSucc 0))), H48⟩ τ49)
    (binK .add v47 (.int .i64 (.ofNat 1)) fun v51 =>
  binK .add t9 v51 fun v52 =>
  s_strings_IndexRune_j4 call N k ⟨(T.set (T.set (T.set (T.set (T.set (T.set (T.set (T.set (T.set (T.set .leaf 0 t0) 7 t7) 8 t8) 9 t9) 11 v47) 44 t9) 45 v47) 46 v51) 47 v52) 9 v52), H48⟩ τ49))
    (s_strings_IndexRune_j4 call N k ⟨(T.set (T.set (T.set (T.set (T.set .leaf 0 t0) 7 t7) 8 t8) 9 t9) 33 v34), H⟩ τ))
    (k (.exit 1) ⟨.leaf, H⟩ τ)
def s_strings_IndexRune (call : CallK) (N : Nat) (a0 a1 : V) (H : Heap) (τ : Tape) (q : KV) : Ans :=
  binK .leq (.int .i32 (.ofNat 0)) a1 fun v0 =>
  gK v0 true (fun q' => q' a1 H τ) H τ fun v1 H2 τ3 =>
  gK v0 true (fun q' => binK .lss v1 (.int .i32 (.ofNat 128)) fun v => q' v H2 τ3) H2 τ3 fun v4 H5 τ6 =>
  someK (pPick [v0, v4, (.bool false)]) fun v7 =>
  condK v7
    (toIntK .u8 a1 fun v8 =>
  call f_strings_IndexByte [a0, v8] H5 τ6 fun v9 H10 τ11 =>
  q v9 H10 τ11)
    (binK .eql a1 (.int .i32 (.ofNat 65533)) fun v12 =>
  condK v12
    (effK (eRange [a0] H5 τ6) fun v13 H14 τ15 =>
  loopK (s_strings_IndexRune_l1 call N) N ⟨(T.set .leaf 175 v13), H14⟩ τ15 (blockK 9 (seqK (s_strings_IndexRune_j0 call N q) (blockK 0 (endK [(.t 4)] q)))))
    (call f_utf8_ValidRune [a1] H5 τ6 fun v23 H24 τ25 =>
  unK .not v23 fun v26 =>
  condK v26
    (q (.int .i64 (.negSucc 0)) H24 τ25)
    (someK (pRuneStr [a1]) fun v27 =>
  someK (pLenS [v27]) fun v28 =>
  binK .sub v28 (.int .i64 (.ofNat 1)) fun v29 =>
  loopK (s_strings_IndexRune_l3 call N) N ⟨(T.set (T.set (T.set (T.set .leaf 0 a0) 7 v27) 8 v29) 9 v29), H24⟩ τ25 (blockK 1 (seqK (s_strings_IndexRune_j2 call N q) (blockK 0 (endK [(.t 4)] q)))))))
theorem s_strings_IndexRune_eq (call : CallK) (N : Nat) (a0 a1 : V) (H : Heap) (τ : Tape) (q : KV) : s_strings_IndexRune call N a0 a1 H τ q = funK call N fn_strings_IndexRune [a0, a1] H τ q := by kernel_rfl
def e_strings_IndexRune (call : CallK) (N : Nat) (vs : List V) (H : Heap) (τ : Tape) (q : KV) : Ans := match vs with | [a0, a1] => s_strings_IndexRune call N a0 a1 H τ q | _ => none
theorem e_strings_IndexRune_ok : EntOk fn_strings_IndexRune e_strings_IndexRune := by
  intro call N vs H τ q r h
  unfold e_strings_IndexRune at h
  split at h
  · rw [s_strings_IndexRune_eq] at h; exact h
  · cases h
theorem e_strings_IndexRune_nat : EntNat e_strings_IndexRune := by
  intro c hn N vs H τ q
  unfold e_strings_IndexRune
  split
  · rw [s_strings_IndexRune_eq, s_strings_IndexRune_eq]; exact funK_ent hn _ _ _ _ _ _
  · rfl
/-- strings.shouldUseASCIISet -/
def fn_strings_shouldUseASCIISet : Fun := ⟨1,
  (.seq (.reg [⟨(some 2), none, (.p .mv), [(.c (.bool false))], none⟩])
  (.keep [0] (.seq (.reg [⟨(some 3), none, (.p .mv), [(.t 0)], none⟩,
    ⟨(some 4), none, (.p (.bin .gtr)), [(.t 3), (.c (.int .i64 (.ofNat 8)))], none⟩,
    ⟨(some 2), none, (.p .mv), [(.t 4)], none⟩])
  (.keep [2] (.keep [2] .ret))))),
  [(.t 2)]⟩
def s_strings_shouldUseASCIISet (call : CallK) (N : Nat) (a0 : V) (H : Heap) (τ : Tape) (q : KV) : Ans :=
  binK .gtr a0 (.int .i64 (.ofNat 8)) fun v0 =>
  q v0 H τ
theorem s_strings_shouldUseASCIISet_eq (call : CallK) (N : Nat) (a0 : V) (H : Heap) (τ : Tape) (q : KV) : s_strings_shouldUseASCIISet call N a0 H τ q = funK call N fn_strings_shouldUseASCIISet [a0] H τ q := by kernel_rfl
def e_strings_shouldUseASCIISet (call : CallK) (N : Nat) (vs : List V) (H : Heap) (τ : Tape) (q : KV) : Ans := match vs with | [a0] => s_strings_shouldUseASCIISet call N a0 H τ q | _ => none
theorem e_strings_shouldUseASCIISet_ok : EntOk fn_strings_shouldUseASCIISet e_strings_shouldUseASCIISet := by
  intro call N vs H τ q r h
  unfold e_strings_shouldUseASCIISet at h
  split at h
  · rw [s_strings_shouldUseASCIISet_eq] at h; exact h
  · cases h
theorem e_strings_shouldUseASCIISet_nat : EntNat e_strings_shouldUseASCIISet := by
  intro c hn N vs H τ q
  unfold e_strings_shouldUseASCIISet
  split
  · rw [s_strings_shouldUseASCIISet_eq, s_strings_shouldUseASCIISet_eq]; exact funK_ent hn _ _ _ _ _ _
  · rfl
/-- unicode/utf8.decodeRuneInStringSlow -/
def fn_utf8_decodeRuneInStringSlow : Fun := ⟨1,
  (.seq (.reg [⟨(some 2), none, (.p .mv), [(.c (.int .i32 (.ofNat 0)))], none⟩,
    ⟨(some 3), none, (.p .mv), [(.c (.int .i64 (.ofNat 0)))], none⟩])
  (.keep [0] (.seq (.reg [⟨(some 13), none, (.p .mv), [(.t 0)], none⟩,
    ⟨(some 14), none, (.p .lenS), [(.t 13)], none⟩,
    ⟨(some 4), none, (.p .mv), [(.t 14)], none⟩])
  (.keep [0, 4] (.seq (.seq (.reg [⟨(some 15), none, (.p .mv), [(.t 4)], none⟩,
    ⟨(some 16), none, (.p (.bin .lss)), [(.t 15), (.c (.int .i64 (.ofNat 1)))], none⟩])
  (.keep [0, 4, 16] (.cond (.t 16)
   (.seq (.reg [⟨(some 2), none, (.p .mv), [(.c (.int .i32 (.ofNat 65533)))], none⟩,
     ⟨(some 3), none, (.p .mv), [(.c (.int .i64 (.ofNat 0)))], none⟩])
   (.keep [2, 3] (.keep [2, 3] .ret)))
   .skip)))
  (.keep [0, 4] (.seq (.reg [⟨(some 17), none, (.p .mv), [(.t 0)], none⟩,
    ⟨(some 18), none, (.p .strIndex), [(.t 17), (.c (.int .i64 (.ofNat 0)))], none⟩,
    ⟨(some 5), none, (.p .mv), [(.t 18)], none⟩])
  (.keep [0, 4, 5] (.seq (.reg [⟨(some 19), none, (.p .mv), [(.t 5)], none⟩,
    ⟨(some 20), none, (.p (.arrIdx 256 1)), [(.c (.ptr 1 0)), (.t 19)], none⟩,
    ⟨(some 21), none, (.l (.load none)), [(.t 20)], none⟩,
    ⟨(some 6), none, (.p .mv), [(.t 21)], none⟩])
  (.keep [0, 4, 5, 6] (.seq (.seq (.reg [⟨(some 22), none, (.p .mv), [(.t 6)], none⟩,
    ⟨(some 23), none, (.p (.bin .geq)), [(.t 22), (.c (.int .u8 (.ofNat 240)))], none⟩])
  (.keep [0, 4, 5, 6, 23] (.cond (.t 23)
   (.seq (.reg [⟨(some 24), none, (.p .mv), [(.t 6)], none⟩,
     ⟨(some 25), none, (.p (.toInt .i32)), [(.t 24)], none⟩,
     ⟨(some 26), none, (.p (.bin .shl)), [(.t 25), (.c (.int .u64 (.ofNat 31)))], none⟩,
     ⟨(some 27), none, (.p (.bin .shr)), [(.t 26), (.c (.int .u64 (.ofNat 31)))], none⟩,
     ⟨(some 7), none, (.p .mv), [(.t 27)], none⟩])
   (.keep [0, 7] (.seq (.reg [⟨(some 28), none, (.p .mv), [(.t 0)], none⟩,
     ⟨(some 29), none, (.p .strIndex), [(.t 28), (.c (.int .i64 (.ofNat 0)))], none⟩,
     ⟨(some 30), none, (.p (.toInt .i32)), [(.t 29)], none⟩,
     ⟨(some 31), none, (.p .mv), [(.t 7)], none⟩,
     ⟨(some 32), none, (.p (.bin .andNot)), [(.t 30), (.t 31)], none⟩,
     ⟨(some 33), none, (.p .mv), [(.t 7)], none⟩,
     ⟨(some 34), none, (.p (.bin .and)), [(.c (.int .i32 (.ofNat 65533))), (.t 33)], none⟩,
     ⟨(some 35), none, (.p (.bin .or)), [(.t 32), (.t 34)], none⟩,
     ⟨(some 2), none, (.p .mv), [(.t 35)], none⟩,
     ⟨(some 3), none, (.p .mv), [(.c (.int .i64 (.ofNat 1)))], none⟩])
   (.keep [2, 3] (.keep [2, 3] .ret)))))
   .skip)))
  (.keep [0, 4, 5, 6] (.seq (.reg [⟨(some 36), none, (.p .mv), [(.t 6)], none⟩,
    ⟨(some 37), none, (.p (.bin .and)), [(.t 36), (.c (.int .u8 (.ofNat 7)))], none⟩,
    ⟨(some 38), none, (.p (.toInt .i64)), [(.t 37)], none⟩,
    ⟨(some 8), none, (.p .mv), [(.t 38)], none⟩])
  (.keep [0, 4, 5, 6, 8] (.seq (.reg [⟨(some 39), none, (.p .mv), [(.t 6)], none⟩,
    ⟨(some 40), none, (.p (.bin .shr)), [(.t 39), (.c (.int .u64 (.ofNat 4)))], none⟩,
    ⟨(some 41), none, (.p (.arrIdx 16 2)), [(.c (.ptr 2 0)), (.t 40)], none⟩,
    ⟨(some 42), none, (.l (.load (some 2))), [(.t 41)], none⟩,
    ⟨(some 9), none, (.e (.alloc [(.int .u8 (.ofNat 0)), (.int .u8 (.ofNat 0))])), [], none⟩,
    ⟨none, none, (.e (.store 2)), [(.t 9), (.t 42)], none⟩])
  (.keep [0, 4, 5, 8, 9] (.seq (.seq (.reg [⟨(some 43), none, (.p .mv), [(.t 4)], none⟩,
    ⟨(some 44), none, (.p .mv), [(.t 8)], none⟩,
    ⟨(some 45), none, (.p (.bin .lss)), [(.t 43), (.t 44)], none⟩])
  (.keep [0, 5, 8, 9, 45] (.cond (.t 45)
   (.seq (.reg [⟨(some 2), none, (.p .mv), [(.c (.int .i32 (.ofNat 65533)))], none⟩,
     ⟨(some 3), none, (.p .mv), [(.c (.int .i64 (.ofNat 1)))], none⟩])
   (.keep [2, 3] (.keep [2, 3] .ret)))
   .skip)))
  (.keep [0, 5, 8, 9] (.seq (.reg [⟨(some 46), none, (.p .mv), [(.t 0)], none⟩,
    ⟨(some 47), none, (.p .strIndex), [(.t 46), (.c (.int .i64 (.ofNat 1)))], none⟩,
    ⟨(some 10), none, (.p .mv), [(.t 47)], none⟩])
  (.keep [0, 5, 8, 9, 10] (.seq (.seq (.reg [⟨(some 48), none, (.p .mv), [(.t 10)], none⟩,
    ⟨(some 49), none, (.p (.fieldAddr 0)), [(.t 9)], none⟩,
    ⟨(some 50), none, (.l (.load none)), [(.t 49)], none⟩,
    ⟨(some 51), none, (.p (.bin .lss)), [(.t 48), (.t 50)], none⟩,
    ⟨(some 52), none, (.p .mv), [(.t 51)], none⟩,
    ⟨(some 53), some (52, false), (.p (.fieldAddr 1)), [(.t 9)], none⟩,
    ⟨(some 54), some (52, false), (.l (.load none)), [(.t 53)], none⟩,
    ⟨(some 55), some (52, false), (.p .mv), [(.t 10)], none⟩,
    ⟨(some 56), some (52, false), (.p (.bin .lss)), [(.t 54), (.t 55)], none⟩,
    ⟨(some 57), none, (.p .pick), [(.t 52), (.c (.bool true)), (.t 56)], none⟩])
  (.keep [0, 5, 8, 10, 57] (.cond (.t 57)
   (.seq (.reg [⟨(some 2), none, (.p .mv), [(.c (.int .i32 (.ofNat 65533)))], none⟩,
     ⟨(some 3), none, (.p .mv), [(.c (.int .i64 (.ofNat 1)))], none⟩])
   (.keep [2, 3] (.keep [2, 3] .ret)))
   .skip)))
  (.keep [0, 5, 8, 10] (.seq (.seq (.reg [⟨(some 58), none, (.p .mv), [(.t 8)], none⟩,
    ⟨(some 59), none, (.p (.bin .leq)), [(.t 58), (.c (.int .i64 (.ofNat 2)))], none⟩])
  (.keep [0, 5, 8, 10, 59] (.cond (.t 59)
   (.seq (.reg [⟨(some 60), none, (.p .mv), [(.t 5)], none⟩,
     ⟨(some 61), none, (.p (.bin .and)), [(.t 60), (.c (.int .u8 (.ofNat 31)))], none⟩,
     ⟨(some 62), none, (.p (.toInt .i32)), [(.t 61)], none⟩,
     ⟨(some 63), none, (.p (.bin .shl)), [(.t 62), (.c (.int .u64 (.ofNat 6)))], none⟩,
     ⟨(some 64), none, (.p .mv), [(.t 10)], none⟩,
     ⟨(some 65), none, (.p (.bin .and)), [(.t 64), (.c (.int .u8 (.ofNat 63)))], none⟩,
     ⟨(some 66), none, (.p (.toInt .i32)), [(.t 65)], none⟩,
     ⟨(some 67), none, (.p (.bin .or)), [(.t 63), (.t 66)], none⟩,
     ⟨(some 2), none, (.p .mv), [(.t 67)], none⟩,
     ⟨(some 3), none, (.p .mv), [(.c (.int .i64 (.ofNat 2)))], none⟩])
   (.keep [2, 3] (.keep [2, 3] .ret)))
   .skip)))
  (.keep [0, 5, 8, 10] (.seq (.reg [⟨(some 68), none, (.p .mv), [(.t 0)], none⟩,
    ⟨(some 69), none, (.p .strIndex), [(.t 68), (.c (.int .i64 (.ofNat 2)))], none⟩,
    ⟨(some 11), none, (.p .mv), [(.t 69)], none⟩])
  (.keep [0, 5, 8, 10, 11] (.seq (.seq (.reg [⟨(some 70), none, (.p .mv), [(.t 11)], none⟩,
    ⟨(some 71), none, (.p (.bin .lss)), [(.t 70), (.c (.int .u8 (.ofNat 128)))], none⟩,
    ⟨(some 72), none, (.p .mv), [(.t 71)], none⟩,
    ⟨(some 73), some (72, false), (.p .mv), [(.t 11)], none⟩,
    ⟨(some 74), some (72, false), (.p (.bin .lss)), [(.c (.int .u8 (.ofNat 191))), (.t 73)], none⟩,
    ⟨(some 75), none, (.p .pick), [(.t 72), (.c (.bool true)), (.t 74)], none⟩])
  (.keep [0, 5, 8, 10, 11, 75] (.cond (.t 75)
   (.seq (.reg [⟨(some 2), none, (.p .mv), [(.c (.int .i32 (.ofNat 65533)))], none⟩,
     ⟨(some 3), none, (.p .mv), [(.c (.int .i64 (.ofNat 1)))], none⟩])
   (.keep [2, 3] (.keep [2, 3] .ret)))
   .skip)))
  (.keep [0, 5, 8, 10, 11] (.seq (.seq (.reg [⟨(some 76), none, (.p .mv), [(.t 8)], none⟩,
    ⟨(some 77), none, (.p (.bin .leq)), [(.t 76), (.c (.int .i64 (.ofNat 3)))], none⟩])
  (.keep [0, 5, 10, 11, 77] (.cond (.t 77)
   (.seq (.reg [⟨(some 78), none, (.p .mv), [(.t 5)], none⟩,
     ⟨(some 79), none, (.p (.bin .and)), [(.t 78), (.c (.int .u8 (.ofNat 15)))], none⟩,
     ⟨(some 80), none, (.p (.toInt .i32)), [(.t 79)], none⟩,
     ⟨(some 81), none, (.p (.bin .shl)), [(.t 80), (.c (.int .u64 (.ofNat 12)))], none⟩,
     ⟨(some 82), none, (.p .mv), [(.t 10)], none⟩,
     ⟨(some 83), none, (.p (.bin .and)), [(.t 82), (.c (.int .u8 (.ofNat 63)))], none⟩,
     ⟨(some 84), none, (.p (.toInt .i32)), [(.t 83)], none⟩,
     ⟨(some 85), none, (.p (.bin .shl)), [(.t 84), (.c (.int .u64 (.ofNat 6)))], none⟩,
     ⟨(some 86), none, (.p (.bin .or)), [(.t 81), (.t 85)], none⟩,
     ⟨(some 87), none, (.p .mv), [(.t 11)], none⟩,
     ⟨(some 88), none, (.p (.bin .and)), [(.t 87), (.c (.int .u8 (.ofNat 63)))], none⟩,
     ⟨(some 89), none, (.p (.toInt .i32)), [(.t 88)], none⟩,
     ⟨(some 90), none, (.p (.bin .or)), [(.t 86), (.t 89)], none⟩,
     ⟨(some 2), none, (.p .mv), [(.t 90)], none⟩,
     ⟨(some 3), none, (.p .mv), [(.c (.int .i64 (.ofNat 3)))], none⟩])
   (.keep [2, 3] (.keep [2, 3] .ret)))
   .skip)))
  (.keep [0, 5, 10, 11] (.seq (.reg [⟨(some 91), none, (.p .mv), [(.t 0)], none⟩,
    ⟨(some 92), none, (.p .strIndex), [(.t 91), (.c (.int .i64 (.ofNat 3)))], none⟩,
    ⟨(some 12), none, (.p .mv), [(.t 92)], none⟩])
  (.keep [5, 10, 11, 12] (.seq (.seq (.reg [⟨(some 93), none, (.p .mv), [(.t 12)], none⟩,
    ⟨(some 94), none, (.p (.bin .lss)), [(.t 93), (.c (.int .u8 (.ofNat 128)))], none⟩,
    ⟨(some 95), none, (.p .mv), [(.t 94)], none⟩,
    ⟨(some 96), some (95, false), (.p .mv), [(.t 12)], none⟩,
    ⟨(some 97), some (95, false), (.p (.bin .lss)), [(.c (.int .u8 (.ofNat 191))), (.t 96)], none⟩,
    ⟨(some 98), none, (.p .pick), [(.t 95), (.c (.bool true)), (.t 97)], none⟩])
  (.keep [5, 10, 11, 12, 98] (.cond (.t 98)
   (.seq (.reg [⟨(some 2), none, (.p .mv), [(.c (.int .i32 (.ofNat 65533)))], none⟩,
     ⟨(some 3), none, (.p .mv), [(.c (.int .i64 (.ofNat 1)))], none⟩])
   (.keep [2, 3] (.keep [2, 3] .ret)))
   .skip)))
  (.keep [5, 10, 11, 12] (.seq (.reg [⟨(some 99), none, (.p .mv), [(.t 5)], none⟩,
    ⟨(some 100), none, (.p (.bin .and)), [(.t 99), (.c (.int .u8 (.ofNat 7)))], none⟩,
    ⟨(some 101), none, (.p (.toInt .i32)), [(.t 100)], none⟩,
    ⟨(some 102), none, (.p (.bin .shl)), [(.t 101), (.c (.int .u64 (.ofNat 18)))], none⟩,
    ⟨(some 103), none, (.p .mv), [(.t 10)], none⟩,
    ⟨(some 104), none, (.p (.bin .and)), [(.t 103), (.c (.int .u8 (.ofNat 63)))], none⟩,
    ⟨(some 105), none, (.p (.toInt .i32)), [(.t 104)], none⟩,
    ⟨(some 106), none, (.p (.bin .shl)), [(.t 105), (.c (.int .u64 (.ofNat 12)))], none⟩,
    ⟨(some 107), none, (.p (.bin .or)), [(.t 102), (.t 106)], none⟩,
    ⟨(some 108), none, (.p .mv), [(.t 11)], none⟩,
    ⟨(some 109), none, (.p (.bin .and)), [(.t 108), (.c (.int .u8 (.ofNat 63)))], none⟩,
    ⟨(some 110), none, (.p (.toInt .i32)), [(.t 109)], none⟩,
    ⟨(some 111), none, (.p (.bin .shl)), [(.t 110), (.c (.int .u64 (.ofNat 6)))], none⟩,
    ⟨(some 112), none, (.p (.bin .or)), [(.t 107), (.t 111)], none⟩,
    ⟨(some 113), none, (.p .mv), [(.t 12)], none⟩,
    ⟨(some 114), none, (.p (.bin .and)), [(.t 113), (.c (.int .u8 (.ofNat 63)))], none⟩,
    ⟨(some 115), none, (.p (.toInt .i32)), [(.t 114)], none⟩,
    ⟨(some 116), none, (.p (.bin .or)), [(.t 112), (.t 115)], none⟩,
    ⟨(some 2), none, (.p .mv), [(.t 116)], none⟩,
    ⟨(some 3), none, (.p .mv), [(.c (.int .i64 (.ofNat 4)))], none⟩])
  (.keep [2, 3] (.keep [2, 3] .ret))))))))))))))))))))))))))))))))))))),
  [(.t 2), (.t 3)]⟩
def s_utf8_decodeRuneInStringSlow (call : CallK) (N : Nat) (a0 : V) (H : Heap) (τ : Tape) (q : KV) : Ans :=
  someK (pLenS [a0]) fun v0 =>
  binK .lss v0 (.int .i64 (.ofNat 1)) fun v1 =>
  condK v1
    (q (.tup [(.int .i32 (.ofNat 65533)), (.int .i64 (.ofNat 0))]) H τ)
    (someK (pStrIndex [a0, (.int .i64 (.ofNat 0))]) fun v2 =>
  someK (pArrIdx 256 1 [(.ptr 1 0), v2]) fun v3 =>
  someK (lLoad1 [v3] H) fun v4 =>
  binK .geq v4 (.int .u8 (.ofNat 240)) fun v5 =>
  condK v5
    (toIntK .i32 v4 fun v6 =>
  binK .shl v6 (.int .u64 (.ofNat 31)) fun v7 =>
  binK .shr v7 (.int .u64 (.ofNat 31)) fun v8 =>
  someK (pStrIndex [a0, (.int .i64 (.ofNat 0))]) fun v9 =>
  toIntK .i32 v9 fun v10 =>
  binK .andNot v10 v8 fun v11 =>
  binK .and (.int .i32 (.ofNat 65533)) v8 fun v12 =>
  binK .or v11 v12 fun v13 =>
  q (.tup [v13, (.int .i64 (.ofNat 1))]) H τ)
    (binK .and v4 (.int .u8 (.ofNat 7)) fun v14 =>
  toIntK .i64 v14 fun v15 =>
  binK .shr v4 (.int .u64 (.ofNat 4)) fun v16 =>
  someK (pArrIdx 16 2 [(.ptr 2 0), v16]) fun v17 =>
  someK (lLoadN 2 [v17] H) fun v18 =>
  effK (eAlloc [(.int .u8 (.ofNat 0)), (.int .u8 (.ofNat 0))] [] H τ) fun v19 H20 τ21 =>
  effK (eStore 2 [v19, v18] H20 τ21) fun v22 H23 τ24 =>
  binK .lss v0 v15 fun v25 =>
  condK v25
    (q (.tup [(.int .i32 (.ofNat 65533)), (.int .i64 (.ofNat 1))]) H23 τ24)
    (someK (pStrIndex [a0, (.int .i64 (.ofNat 1))]) fun v26 =>
  someK (pFieldAddr 0 [v19]) fun v27 =>
  someK (lLoad1 [v27] H23) fun v28 =>
  binK .lss v26 v28 fun v29 =>
  gK v29 false (fun q' => someK (pFieldAddr 1 [v19]) fun v => q' v H23 τ24) H23 τ24 fun v30 H31 τ32 =>
  gK v29 false (fun q' => someK (lLoad1 [v30] H31) fun v => q' v H31 τ32) H31 τ32 fun v33 H34 τ35 =>
  gK v29 false (fun q' => q' v26 H34 τ35) H34 τ35 fun v36 H37 τ38 =>
  gK v29 false (fun q' => binK .lss v33 v36 fun v => q' v H37 τ38) H37 τ38 fun v39 H40 τ41 =>
  someK (pPick [v29, (.bool true), v39]) fun v42 =>
  condK v42
    (q (.tup [(.int .i32 (.ofNat 65533)), (.int .i64 (.ofNat 1))]) H40 τ41)
    (binK .leq v15 (.int .i64 (.ofNat 2)) fun v43 =>
  condK v43
    (binK .and v2 (.int .u8 (.ofNat 31)) fun v44 =>
  toIntK .i32 v44 fun v45 =>
  binK .shl v45 (.int .u64 (.ofNat 6)) fun v46 =>
  binK .and v26 (.int .u8 (.ofNat 63)) fun v47 =>
  toIntK .i32 v47 fun v48 =>
  binK .or v46 v48 fun v49 =>
  q (.tup [v49, (.int .i64 (.ofNat 2))]) H40 τ41)
    (someK (pStrIndex [a0, (.int .i64 (.ofNat 2))]) fun v50 =>
  binK .lss v50 (.int .u8 (.ofNat 128)) fun v51 =>
  gK v51 false (fun q' => q' v50 H40 τ41) H40 τ41 fun v52 H53 τ54 =>
  gK v51 false (fun q' => binK .lss (.int .u8 (.ofNat 191)) v52 fun v => q' v H53 τ54) H53 τ54 fun v55 H56 τ57 =>
  someK (pPick [v51, (.bool true), v55]) fun v58 =>
  condK v58
    (q (.tup [(.int .i32 (.ofNat 65533)), (.int .i64 (.ofNat 1))]) H56 τ57)
    (binK .leq v15 (.int .i64 (.ofNat 3)) fun v59 =>
  condK v59
    (binK .and v2 (.int .u8 (.ofNat 15)) fun v60 =>
  toIntK .i32 v60 fun v61 =>
  binK .shl v61 (.int .u64 (.ofNat 12)) fun v62 =>
  binK .and v26 (.int .u8 (.ofNat 63)) fun v63 =>
  toIntK .i32 v63 fun v64 =>
  binK .shl v64 (.int .u64 (.ofNat 6)) fun v65 =>
  binK .or v62 v65 fun v66 =>
  binK .and v50 (.int .u8 (.ofNat 63)) fun v67 =>
  toIntK .i32 v67 fun v68 =>
  binK .or v66 v68 fun v69 =>
  q (.tup [v69, (.int .i64 (.ofNat 3))]) H56 τ57)
    (someK (pStrIndex [a0, (.int .i64 (.ofNat 3))]) fun v70 =>
  binK .lss v70 (.int .u8 (.ofNat 128)) fun v71 =>
  gK v71 false (fun q' => q' v70 H56 τ57) H56 τ57 fun v72 H73 τ74 =>
  gK v71 false (fun q' => binK .lss (.int .u8 (.ofNat 191)) v72 fun v => q' v H73 τ74) H73 τ74 fun v75 H76 τ77 =>
  someK (pPick [v71, (.bool true), v75]) fun v78 =>
  condK v78
    (q (.tup [(.int .i32 (.ofNat 65533)), (.int .i64 (.ofNat 1))]) H76 τ77)
    (binK .and v2 (.int .u8 (.ofNat 7)) fun v79 =>
  toIntK .i32 v79 fun v80 =>
  binK .shl v80 (.int .u64 (.ofNat 18)) fun v81 =>
  binK .and v26 (.int .u8 (.ofNat 63)) fun v82 =>
  toIntK .i32 v82 fun v83 =>
  binK .shl v83 (.int .u64 (.ofNat 12)) fun v84 =>
  binK .or v81 v84 fun v85 =>
  binK .and v50 (.int .u8 (.ofNat 63)) fun v86 =>
  toIntK .i32 v86 fun v87 =>
  binK .shl v87 (.int .u64 (.ofNat 6)) fun v88 =>
  binK .or v85 v88 fun v89 =>
  binK .and v70 (.int .u8 (.ofNat 63)) fun v90 =>
  toIntK .i32 v90 fun v91 =>
  binK .or v89 v91 fun v92 =>
  q (.tup [v92, (.int .i64 (.ofNat 4))]) H76 τ77))))))))
theorem s_utf8_decodeRuneInStringSlow_eq (call : CallK) (N : Nat) (a0 : V) (H : Heap) (τ : Tape) (q : KV) : s_utf8_decodeRuneInStringSlow call N a0 H τ q = funK call N fn_utf8_decodeRuneInStringSlow [a0] H τ q := by kernel_rfl
def e_utf8_decodeRuneInStringSlow (call : CallK) (N : Nat) (vs : List V) (H : Heap) (τ : Tape) (q : KV) : Ans := match vs with | [a0] => s_utf8_decodeRuneInStringSlow call N a0 H τ q | _ => none
theorem e_utf8_decodeRuneInStringSlow_ok : EntOk fn_utf8_decodeRuneInStringSlow e_utf8_decodeRuneInStringSlow := by
  intro call N vs H τ q r h
  unfold e_utf8_decodeRuneInStringSlow at h
  split at h
  · rw [s_utf8_decodeRuneInStringSlow_eq] at h; exact h
  · cases h
theorem e_utf8_decodeRuneInStringSlow_nat : EntNat e_utf8_decodeRuneInStringSlow := by
  intro c hn N vs H τ q
  unfold e_utf8_decodeRuneInStringSlow
  split
  · rw [s_utf8_decodeRuneInStringSlow_eq, s_utf8_decodeRuneInStringSlow_eq]; exact funK_ent hn _ _ _ _ _ _
  · rfl
/-- unicode/utf8.RuneStart -/
def fn_utf8_RuneStart : Fun := ⟨1,
  (.seq (.reg [⟨(some 2), none, (.p .mv), [(.c (.bool false))], none⟩])
  (.keep [0] (.seq (.reg [⟨(some 3), none, (.p .mv), [(.t 0)], none⟩,
    ⟨(some 4), none, (.p (.bin .and)), [(.t 3), (.c (.int .u8 (.ofNat 192)))], none⟩,
    ⟨(some 5), none, (.p (.bin .neq)), [(.t 4), (.c (.int .u8 (.ofNat 128)))], none⟩,
    ⟨(some 2), none, (.p .mv), [(.t 5)], none⟩])
  (.keep [2] (.keep [2] .ret))))),
  [(.t 2)]⟩
def s_utf8_RuneStart (call : CallK) (N : Nat) (a0 : V) (H : Heap) (τ : Tape) (q : KV) : Ans :=
  binK .and a0 (.int .u8 (.ofNat 192)) fun v0 =>
  binK .neq v0 (.int .u8 (.ofNat 128)) fun v1 =>
  q v1 H τ
theorem s_utf8_RuneStart_eq (call : CallK) (N : Nat) (a0 : V) (H : Heap) (τ : Tape) (q : KV) : s_utf8_RuneStart call N a0 H τ q = funK call N fn_utf8_RuneStart [a0] H τ q := by kernel_rfl
def e_utf8_RuneStart (call : CallK) (N : Nat) (vs : List V) (H : Heap) (τ : Tape) (q : KV) : Ans := match vs with | [a0] => s_utf8_RuneStart call N a0 H τ q | _ => none
theorem e_utf8_RuneStart_ok : EntOk fn_utf8_RuneStart e_utf8_RuneStart := by
  intro call N vs H τ q r h
  unfold e_utf8_RuneStart at h
  split at h
  · rw [s_utf8_RuneStart_eq] at h; exact h
  · cases h
theorem e_utf8_RuneStart_nat : EntNat e_utf8_RuneStart := by
  intro c hn N vs H τ q
  unfold e_utf8_RuneStart
  split
  · rw [s_utf8_RuneStart_eq, s_utf8_RuneStart_eq]; exact funK_ent hn _ _ _ _ _ _
  · rfl
/-- internal/bytealg.Cutover -/
def fn_bytealg_Cutover : Fun := ⟨1,
  (.seq (.reg [⟨(some 2), none, (.p .mv), [(.c (.int .i64 (.ofNat 0)))], none⟩])
  (.keep [0] (.seq (.reg [⟨(some 3), none, (.p .mv), [(.t 0)], none⟩,
    ⟨(some 4), none, (.p (.bin .add)), [(.t 3), (.c (.int .i64 (.ofNat 16)))], none⟩,
    ⟨(some 5), none, (.p (.bin .quo)), [(.t 4), (.c (.int .i64 (.ofNat 8)))], none⟩,
    ⟨(some 2), none, (.p .mv), [(.t 5)], none⟩])
  (.keep [2] (.keep [2] .ret))))),
  [(.t 2)]⟩
def s_bytealg_Cutover (call : CallK) (N : Nat) (a0 : V) (H : Heap) (τ : Tape) (q : KV) : Ans :=
  binK .add a0 (.int .i64 (.ofNat 16)) fun v0 =>
  binK .quo v0 (.int .i64 (.ofNat 8)) fun v1 =>
  q v1 H τ
theorem s_bytealg_Cutover_eq (call : CallK) (N : Nat) (a0 : V) (H : Heap) (τ : Tape) (q : KV) : s_bytealg_Cutover call N a0 H τ q = funK call N fn_bytealg_Cutover [a0] H τ q := by kernel_rfl
def e_bytealg_Cutover (call : CallK) (N : Nat) (vs : List V) (H : Heap) (τ : Tape) (q : KV) : Ans := match vs with | [a0] => s_bytealg_Cutover call N a0 H τ q | _ => none
theorem e_bytealg_Cutover_ok : EntOk fn_bytealg_Cutover e_bytealg_Cutover := by
  intro call N vs H τ q r h
  unfold e_bytealg_Cutover at h
  split at h
  · rw [s_bytealg_Cutover_eq] at h; exact h
  · cases h
theorem e_bytealg_Cutover_nat : EntNat e_bytealg_Cutover := by
  intro c hn N vs H τ q
  unfold e_bytealg_Cutover
  split
  · rw [s_bytealg_Cutover_eq, s_bytealg_Cutover_eq]; exact funK_ent hn _ _ _ _ _ _
  · rfl
end Go.Am.X
