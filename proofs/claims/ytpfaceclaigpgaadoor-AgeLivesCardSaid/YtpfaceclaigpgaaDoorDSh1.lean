/- The abstract machine's texts for the law AgeBefore: printed functions of the program, and what they are shown to be. -/
import Derived.Test.YtpfaceclaigpgaaDoorDSh0
import Derived.KernelRfl
namespace Go.Am.AmTrydAge
set_option maxRecDepth 1000000
set_option linter.unusedVariables false
/-- strings.trimLeftUnicode -/
def fn145 : Fun := ⟨2,
  (.seq (.reg [⟨(some 4), none, (.p .mv), [(.c (.str []))], none⟩])
  (.keep [0, 1] (.seq (.block 0
   (.loop
    (.keep [0, 1] (.seq (.seq (.reg [⟨(some 7), none, (.p .mv), [(.t 0)], none⟩,
      ⟨(some 8), none, (.p .lenS), [(.t 7)], none⟩,
      ⟨(some 9), none, (.p (.bin .gtr)), [(.t 8), (.c (.int .i64 (.ofNat 0)))], none⟩])
    (.keep [0, 1, 9] (.cond (.t 9)
     .skip
     (.keep [0] (.exit 0)))))
    (.keep [0, 1] (.block 1
     (.seq (.reg [⟨(some 11), none, (.p .mv), [(.t 0)], none⟩,
       ⟨(some 12), none, (.call 172), [(.t 11)], none⟩,
       ⟨(some 10), none, (.p .mv), [(.t 12)], none⟩,
       ⟨(some 13), none, (.p (.extract 0)), [(.t 10)], none⟩,
       ⟨(some 14), none, (.p (.extract 1)), [(.t 10)], none⟩,
       ⟨(some 5), none, (.p .mv), [(.t 13)], none⟩,
       ⟨(some 6), none, (.p .mv), [(.t 14)], none⟩])
     (.keep [0, 1, 5, 6] (.seq (.seq (.reg [⟨(some 15), none, (.p .mv), [(.t 1)], none⟩,
       ⟨(some 16), none, (.p .mv), [(.t 5)], none⟩,
       ⟨(some 17), none, (.call 61), [(.t 15), (.t 16)], none⟩,
       ⟨(some 18), none, (.p (.un .not)), [(.t 17)], none⟩])
     (.keep [0, 1, 6, 18] (.cond (.t 18)
      (.keep [0] (.exit 0))
      .skip)))
     (.keep [0, 1, 6] (.reg [⟨(some 19), none, (.p .mv), [(.t 0)], none⟩,
       ⟨(some 20), none, (.p .mv), [(.t 6)], none⟩,
       ⟨(some 21), none, (.p (.strSlice true false)), [(.t 19), (.t 20)], none⟩,
       ⟨(some 0), none, (.p .mv), [(.t 21)], none⟩])))))))))))
  (.keep [0] (.seq (.reg [⟨(some 22), none, (.p .mv), [(.t 0)], none⟩,
    ⟨(some 4), none, (.p .mv), [(.t 22)], none⟩])
  (.keep [4] (.keep [4] .ret))))))),
  [(.t 4)]⟩
def s145_j0 (call : CallK) (N : Nat) (q : KV) (st : St) (τ : Tape) : Ans :=
  match st with
  | ⟨fr, H⟩ =>
  getK fr 0 fun t0 =>
  q t0 H τ
def s145_l1 (call : CallK) (N : Nat) (st : St) (τ : Tape) (k : KC) : Ans :=
  match st with
  | ⟨fr, H⟩ =>
  getK fr 0 fun t0 =>
  getK fr 1 fun t1 =>
  someK (pLenS [t0]) fun v0 =>
  binK .gtr v0 (.int .i64 (.ofNat 0)) fun v1 =>
  condK v1
    (call 172 [t0] H τ fun v2 H3 τ4 =>
  someK (pExtract 0 [v2]) fun v5 =>
  someK (pExtract 1 [v2]) fun v6 =>
  call 61 [t1, v5] H3 τ4 fun v7 H8 τ9 =>
  unK .not v7 fun v10 =>
  condK v10
    (k (.exit 0) ⟨(T.set .leaf 0 t0), H8⟩ τ9)
    (someK (pStrSlice true false [t0, v6]) fun v11 =>
  k .normal ⟨(T.set (T.set (T.set (T.set (T.set (T.set (T.set .leaf 0 t0) 1 t1) 6 v6) 19 t0) 20 v6) 21 v11) 0 v11), H8⟩ τ9))
    (k (.exit 0) ⟨(T.set .leaf 0 t0), H⟩ τ)
def s145 (call : CallK) (N : Nat) (a0 a1 : V) (H : Heap) (τ : Tape) (q : KV) : Ans :=
  loopK (s145_l1 call N) N ⟨(T.set (T.set .leaf 0 a0) 1 a1), H⟩ τ (blockK 0 (seqK (s145_j0 call N q) (endK [(.t 4)] q)))
theorem s145_eq (call : CallK) (N : Nat) (a0 a1 : V) (H : Heap) (τ : Tape) (q : KV) : s145 call N a0 a1 H τ q = funK call N fn145 [a0, a1] H τ q := by kernel_rfl
def e145 (call : CallK) (N : Nat) (vs : List V) (H : Heap) (τ : Tape) (q : KV) : Ans := match vs with | [a0, a1] => s145 call N a0 a1 H τ q | _ => none
theorem e145_ok : EntOk fn145 e145 := by
  intro call N vs H τ q r h
  unfold e145 at h
  split at h
  · rw [s145_eq] at h; exact h
  · cases h
theorem e145_nat : EntNat e145 := by
  intro c hn N vs H τ q
  unfold e145
  split
  · rw [s145_eq, s145_eq]; exact funK_ent hn _ _ _ _ _ _
  · rfl
/-- strings.trimRightUnicode -/
def fn146 : Fun := ⟨2,
  (.seq (.reg [⟨(some 4), none, (.p .mv), [(.c (.str []))], none⟩])
  (.keep [0, 1] (.seq (.block 0
   (.loop
    (.keep [0, 1] (.seq (.seq (.reg [⟨(some 7), none, (.p .mv), [(.t 0)], none⟩,
      ⟨(some 8), none, (.p .lenS), [(.t 7)], none⟩,
      ⟨(some 9), none, (.p (.bin .gtr)), [(.t 8), (.c (.int .i64 (.ofNat 0)))], none⟩])
    (.keep [0, 1, 9] (.cond (.t 9)
     .skip
     (.keep [0] (.exit 0)))))
    (.keep [0, 1] (.block 1
     (.seq (.reg [⟨(some 10), none, (.p .mv), [(.t 0)], none⟩,
       ⟨(some 11), none, (.p .mv), [(.t 0)], none⟩,
       ⟨(some 12), none, (.p .lenS), [(.t 11)], none⟩,
       ⟨(some 13), none, (.p (.bin .sub)), [(.t 12), (.c (.int .i64 (.ofNat 1)))], none⟩,
       ⟨(some 14), none, (.p .strIndex), [(.t 10), (.t 13)], none⟩,
       ⟨(some 15), none, (.p (.toInt .i32)), [(.t 14)], none⟩,
       ⟨(some 5), none, (.p .mv), [(.t 15)], none⟩,
       ⟨(some 6), none, (.p .mv), [(.c (.int .i64 (.ofNat 1)))], none⟩])
     (.keep [0, 1, 5, 6] (.seq (.seq (.reg [⟨(some 16), none, (.p .mv), [(.t 5)], none⟩,
       ⟨(some 17), none, (.p (.bin .geq)), [(.t 16), (.c (.int .i32 (.ofNat 128)))], none⟩])
     (.keep [0, 1, 5, 6, 17] (.cond (.t 17)
      (.reg [⟨(some 19), none, (.p .mv), [(.t 0)], none⟩,
        ⟨(some 20), none, (.call 173), [(.t 19)], none⟩,
        ⟨(some 18), none, (.p .mv), [(.t 20)], none⟩,
        ⟨(some 21), none, (.p (.extract 0)), [(.t 18)], none⟩,
        ⟨(some 22), none, (.p (.extract 1)), [(.t 18)], none⟩,
        ⟨(some 5), none, (.p .mv), [(.t 21)], none⟩,
        ⟨(some 6), none, (.p .mv), [(.t 22)], none⟩])
      .skip)))
     (.keep [0, 1, 5, 6] (.seq (.seq (.reg [⟨(some 23), none, (.p .mv), [(.t 1)], none⟩,
       ⟨(some 24), none, (.p .mv), [(.t 5)], none⟩,
       ⟨(some 25), none, (.call 61), [(.t 23), (.t 24)], none⟩,
       ⟨(some 26), none, (.p (.un .not)), [(.t 25)], none⟩])
     (.keep [0, 1, 6, 26] (.cond (.t 26)
      (.keep [0] (.exit 0))
      .skip)))
     (.keep [0, 1, 6] (.reg [⟨(some 27), none, (.p .mv), [(.t 0)], none⟩,
       ⟨(some 28), none, (.p .mv), [(.t 0)], none⟩,
       ⟨(some 29), none, (.p .lenS), [(.t 28)], none⟩,
       ⟨(some 30), none, (.p .mv), [(.t 6)], none⟩,
       ⟨(some 31), none, (.p (.bin .sub)), [(.t 29), (.t 30)], none⟩,
       ⟨(some 32), none, (.p (.strSlice false true)), [(.t 27), (.t 31)], none⟩,
       ⟨(some 0), none, (.p .mv), [(.t 32)], none⟩])))))))))))))
  (.keep [0] (.seq (.reg [⟨(some 33), none, (.p .mv), [(.t 0)], none⟩,
    ⟨(some 4), none, (.p .mv), [(.t 33)], none⟩])
  (.keep [4] (.keep [4] .ret))))))),
  [(.t 4)]⟩
def s146_j0 (call : CallK) (N : Nat) (q : KV) (st : St) (τ : Tape) : Ans :=
  match st with
  | ⟨fr, H⟩ =>
  getK fr 0 fun t0 =>
  q t0 H τ
def s146_j2 (call : CallK) (N : Nat) (k : KC) (st : St) (τ : Tape) : Ans :=
  match st with
  | ⟨fr, H⟩ =>
  getK fr 0 fun t0 =>
  getK fr 1 fun t1 =>
  getK fr 5 fun t5 =>
  getK fr 6 fun t6 =>
  call 61 [t1, t5] H τ fun v7 H8 τ9 =>
  unK .not v7 fun v10 =>
  condK v10
    (k (.exit 0) ⟨(T.set .leaf 0 t0), H8⟩ τ9)
    (someK (pLenS [t0]) fun v11 =>
  binK .sub v11 t6 fun v12 =>
  someK (pStrSlice false true [t0, v12]) fun v13 =>
  k .normal ⟨(T.set (T.set (T.set (T.set (T.set (T.set (T.set (T.set (T.set (T.set .leaf 0 t0) 1 t1) 6 t6) 27 t0) 28 t0) 29 v11) 30 t6) 31 v12) 32 v13) 0 v13), H8⟩ τ9)
def s146_l1 (call : CallK) (N : Nat) (st : St) (τ : Tape) (k : KC) : Ans :=
  match st with
  | ⟨fr, H⟩ =>
  getK fr 0 fun t0 =>
  getK fr 1 fun t1 =>
  someK (pLenS [t0]) fun v0 =>
  binK .gtr v0 (.int .i64 (.ofNat 0)) fun v1 =>
  condK v1
    (someK (pLenS [t0]) fun v2 =>
  binK .sub v2 (.int .i64 (.ofNat 1)) fun v3 =>
  someK (pStrIndex [t0, v3]) fun v4 =>
  toIntK .i32 v4 fun v5 =>
  binK .geq v5 (.int .i32 (.ofNat 128)) fun v6 =>
  condK v6
    (call 173 [t0] H τ fun v14 H15 τ16 =>
  someK (pExtract 0 [v14]) fun v17 =>
  someK (pExtract 1 [v14]) fun v18 =>
  s146_j2 call N k ⟨(T.set (T.set (T.set (T.set (T.set (T.set (T.set (T.set (T.set (T.set (T.set (T.set .leaf 0 t0) 1 t1) 5 v5) 6 (.int .i64 (.ofNat 1))) 17 v6) 19 t0) 20 v14) 18 v14) 21 v17) 22 v18) 5 v17) 6 v18), H15⟩ τ16)
    (s146_j2 call N k ⟨(T.set (T.set (T.set (T.set (T.set .leaf 0 t0) 1 t1) 5 v5) 6 (.int .i64 (.ofNat 1))) 17 v6), H⟩ τ))
    (k (.exit 0) ⟨(T.set .leaf 0 t0), H⟩ τ)
def s146 (call : CallK) (N : Nat) (a0 a1 : V) (H : Heap) (τ : Tape) (q : KV) : Ans :=
  loopK (s146_l1 call N) N ⟨(T.set (T.set .leaf 0 a0) 1 a1), H⟩ τ (blockK 0 (seqK (s146_j0 call N q) (endK [(.t 4)] q)))
theorem s146_eq (call : CallK) (N : Nat) (a0 a1 : V) (H : Heap) (τ : Tape) (q : KV) : s146 call N a0 a1 H τ q = funK call N fn146 [a0, a1] H τ q := by kernel_rfl
def e146 (call : CallK) (N : Nat) (vs : List V) (H : Heap) (τ : Tape) (q : KV) : Ans := match vs with | [a0, a1] => s146 call N a0 a1 H τ q | _ => none
theorem e146_ok : EntOk fn146 e146 := by
  intro call N vs H τ q r h
  unfold e146 at h
  split at h
  · rw [s146_eq] at h; exact h
  · cases h
theorem e146_nat : EntNat e146 := by
  intro c hn N vs H τ q
  unfold e146
  split
  · rw [s146_eq, s146_eq]; exact funK_ent hn _ _ _ _ _ _
  · rfl
/-- internal/bytealg.IndexRabinKarp[string] -/
def fn162 : Fun := ⟨2,
  (.seq (.reg [⟨(some 4), none, (.p .mv), [(.c (.int .i64 (.ofNat 0)))], none⟩])
  (.keep [0, 1] (.seq (.reg [⟨(some 12), none, (.p .mv), [(.t 1)], none⟩,
    ⟨(some 13), none, (.call 186), [(.t 12)], none⟩,
    ⟨(some 11), none, (.p .mv), [(.t 13)], none⟩,
    ⟨(some 14), none, (.p (.extract 0)), [(.t 11)], none⟩,
    ⟨(some 15), none, (.p (.extract 1)), [(.t 11)], none⟩,
    ⟨(some 5), none, (.p .mv), [(.t 14)], none⟩,
    ⟨(some 6), none, (.p .mv), [(.t 15)], none⟩])
  (.keep [0, 1, 5, 6] (.seq (.reg [⟨(some 16), none, (.p .mv), [(.t 1)], none⟩,
    ⟨(some 17), none, (.p .lenS), [(.t 16)], none⟩,
    ⟨(some 7), none, (.p .mv), [(.t 17)], none⟩])
  (.keep [0, 1, 5, 6, 7] (.seq (.reg [⟨(some 8), none, (.p .mv), [(.c (.int .u32 (.ofNat 0)))], none⟩])
  (.keep [0, 1, 5, 6, 7, 8] (.seq (.seq (.reg [⟨(some 9), none, (.p .mv), [(.c (.int .i64 (.ofNat 0)))], none⟩])
  (.keep [0, 1, 5, 6, 7, 8, 9] (.block 0
   (.loop
    (.keep [0, 1, 5, 6, 7, 8, 9] (.seq (.seq (.reg [⟨(some 18), none, (.p .mv), [(.t 9)], none⟩,
      ⟨(some 19), none, (.p .mv), [(.t 7)], none⟩,
      ⟨(some 20), none, (.p (.bin .lss)), [(.t 18), (.t 19)], none⟩])
    (.keep [0, 1, 5, 6, 7, 8, 9, 20] (.cond (.t 20)
     .skip
     (.keep [0, 1, 5, 6, 7, 8] (.exit 0)))))
    (.keep [0, 1, 5, 6, 7, 8, 9] (.seq (.block 1
     (.reg [⟨(some 23), none, (.p .mv), [(.t 8)], none⟩,
       ⟨(some 24), none, (.p (.bin .mul)), [(.t 23), (.c (.int .u32 (.ofNat 16777619)))], none⟩,
       ⟨(some 25), none, (.p .mv), [(.t 0)], none⟩,
       ⟨(some 26), none, (.p .mv), [(.t 9)], none⟩,
       ⟨(some 27), none, (.p .strIndex), [(.t 25), (.t 26)], none⟩,
       ⟨(some 28), none, (.p (.toInt .u32)), [(.t 27)], none⟩,
       ⟨(some 29), none, (.p (.bin .add)), [(.t 24), (.t 28)], none⟩,
       ⟨(some 8), none, (.p .mv), [(.t 29)], none⟩]))
    (.keep [0, 1, 5, 6, 7, 8, 9] (.reg [⟨(some 21), none, (.p .mv), [(.t 9)], none⟩,
      ⟨(some 22), none, (.p (.bin .add)), [(.t 21), (.c (.int .i64 (.ofNat 1)))], none⟩,
      ⟨(some 9), none, (.p .mv), [(.t 22)], none⟩]))))))))))
  (.keep [0, 1, 5, 6, 7, 8] (.seq (.seq (.reg [⟨(some 30), none, (.p .mv), [(.t 8)], none⟩,
    ⟨(some 31), none, (.p .mv), [(.t 5)], none⟩,
    ⟨(some 32), none, (.p (.bin .eql)), [(.t 30), (.t 31)], none⟩,
    ⟨(some 33), none, (.p .mv), [(.t 32)], none⟩,
    ⟨(some 34), some (33, true), (.p .mv), [(.t 0)], none⟩,
    ⟨(some 35), some (33, true), (.p .mv), [(.t 7)], none⟩,
    ⟨(some 36), some (33, true), (.p (.strSlice false true)), [(.t 34), (.t 35)], none⟩,
    ⟨(some 37), some (33, true), (.p .mv), [(.t 1)], none⟩,
    ⟨(some 38), some (33, true), (.p (.bin .eql)), [(.t 36), (.t 37)], none⟩,
    ⟨(some 39), none, (.p .pick), [(.t 33), (.t 38), (.c (.bool false))], none⟩])
  (.keep [0, 1, 5, 6, 7, 8, 39] (.cond (.t 39)
   (.seq (.reg [⟨(some 4), none, (.p .mv), [(.c (.int .i64 (.ofNat 0)))], none⟩])
   (.keep [4] (.keep [4] .ret)))
   .skip)))
  (.keep [0, 1, 5, 6, 7, 8] (.seq (.seq (.reg [⟨(some 40), none, (.p .mv), [(.t 7)], none⟩,
    ⟨(some 10), none, (.p .mv), [(.t 40)], none⟩])
  (.keep [0, 1, 5, 6, 7, 8, 10] (.block 2
   (.loop
    (.keep [0, 1, 5, 6, 7, 8, 10] (.seq (.seq (.reg [⟨(some 41), none, (.p .mv), [(.t 10)], none⟩,
      ⟨(some 42), none, (.p .mv), [(.t 0)], none⟩,
      ⟨(some 43), none, (.p .lenS), [(.t 42)], none⟩,
      ⟨(some 44), none, (.p (.bin .lss)), [(.t 41), (.t 43)], none⟩])
    (.keep [0, 1, 5, 6, 7, 8, 10, 44] (.cond (.t 44)
     .skip
     (.keep [] (.exit 2)))))
    (.keep [0, 1, 5, 6, 7, 8, 10] (.block 3
     (.seq (.reg [⟨(some 45), none, (.p .mv), [(.t 8)], none⟩,
       ⟨(some 46), none, (.p (.bin .mul)), [(.t 45), (.c (.int .u32 (.ofNat 16777619)))], none⟩,
       ⟨(some 8), none, (.p .mv), [(.t 46)], none⟩])
     (.keep [0, 1, 5, 6, 7, 8, 10] (.seq (.reg [⟨(some 47), none, (.p .mv), [(.t 8)], none⟩,
       ⟨(some 48), none, (.p .mv), [(.t 0)], none⟩,
       ⟨(some 49), none, (.p .mv), [(.t 10)], none⟩,
       ⟨(some 50), none, (.p .strIndex), [(.t 48), (.t 49)], none⟩,
       ⟨(some 51), none, (.p (.toInt .u32)), [(.t 50)], none⟩,
       ⟨(some 52), none, (.p (.bin .add)), [(.t 47), (.t 51)], none⟩,
       ⟨(some 8), none, (.p .mv), [(.t 52)], none⟩])
     (.keep [0, 1, 5, 6, 7, 8, 10] (.seq (.reg [⟨(some 53), none, (.p .mv), [(.t 8)], none⟩,
       ⟨(some 54), none, (.p .mv), [(.t 6)], none⟩,
       ⟨(some 55), none, (.p .mv), [(.t 0)], none⟩,
       ⟨(some 56), none, (.p .mv), [(.t 10)], none⟩,
       ⟨(some 57), none, (.p .mv), [(.t 7)], none⟩,
       ⟨(some 58), none, (.p (.bin .sub)), [(.t 56), (.t 57)], none⟩,
       ⟨(some 59), none, (.p .strIndex), [(.t 55), (.t 58)], none⟩,
       ⟨(some 60), none, (.p (.toInt .u32)), [(.t 59)], none⟩,
       ⟨(some 61), none, (.p (.bin .mul)), [(.t 54), (.t 60)], none⟩,
       ⟨(some 62), none, (.p (.bin .sub)), [(.t 53), (.t 61)], none⟩,
       ⟨(some 8), none, (.p .mv), [(.t 62)], none⟩])
     (.keep [0, 1, 5, 6, 7, 8, 10] (.seq (.reg [⟨(some 63), none, (.p .mv), [(.t 10)], none⟩,
       ⟨(some 64), none, (.p (.bin .add)), [(.t 63), (.c (.int .i64 (.ofNat 1)))], none⟩,
       ⟨(some 10), none, (.p .mv), [(.t 64)], none⟩])
     (.keep [0, 1, 5, 6, 7, 8, 10] (.seq (.reg [⟨(some 65), none, (.p .mv), [(.t 8)], none⟩,
       ⟨(some 66), none, (.p .mv), [(.t 5)], none⟩,
       ⟨(some 67), none, (.p (.bin .eql)), [(.t 65), (.t 66)], none⟩,
       ⟨(some 68), none, (.p .mv), [(.t 67)], none⟩,
       ⟨(some 69), some (68, true), (.p .mv), [(.t 0)], none⟩,
       ⟨(some 70), some (68, true), (.p .mv), [(.t 10)], none⟩,
       ⟨(some 71), some (68, true), (.p .mv), [(.t 7)], none⟩,
       ⟨(some 72), some (68, true), (.p (.bin .sub)), [(.t 70), (.t 71)], none⟩,
       ⟨(some 73), some (68, true), (.p .mv), [(.t 10)], none⟩,
       ⟨(some 74), some (68, true), (.p (.strSlice true true)), [(.t 69), (.t 72), (.t 73)], none⟩,
       ⟨(some 75), some (68, true), (.p .mv), [(.t 1)], none⟩,
       ⟨(some 76), some (68, true), (.p (.bin .eql)), [(.t 74), (.t 75)], none⟩,
       ⟨(some 77), none, (.p .pick), [(.t 68), (.t 76), (.c (.bool false))], none⟩])
     (.keep [0, 1, 5, 6, 7, 8, 10, 77] (.cond (.t 77)
      (.seq (.reg [⟨(some 78), none, (.p .mv), [(.t 10)], none⟩,
        ⟨(some 79), none, (.p .mv), [(.t 7)], none⟩,
        ⟨(some 80), none, (.p (.bin .sub)), [(.t 78), (.t 79)], none⟩,
        ⟨(some 4), none, (.p .mv), [(.t 80)], none⟩])
      (.keep [4] (.keep [4] .ret)))
      .skip)))))))))))))))))))
  (.keep [] (.seq (.reg [⟨(some 4), none, (.p .mv), [(.c (.int .i64 (.negSucc 0)))], none⟩])
  (.keep [4] (.keep [4] .ret))))))))))))))))),
  [(.t 4)]⟩
def s162_j1 (call : CallK) (N : Nat) (q : KV) (st : St) (τ : Tape) : Ans :=
  match st with
  | ⟨fr, H⟩ =>
  q (.int .i64 (.negSucc 0)) H τ
def s162_l2 (call : CallK) (N : Nat) (st : St) (τ : Tape) (k : KC) : Ans :=
  match st with
  | ⟨fr, H⟩ =>
  getK fr 0 fun t0 =>
  getK fr 1 fun t1 =>
  getK fr 5 fun t5 =>
  getK fr 6 fun t6 =>
  getK fr 7 fun t7 =>
  getK fr 8 fun t8 =>
  getK fr 10 fun t10 =>
  someK (pLenS [t0]) fun v23 =>
  binK .lss t10 v23 fun v24 =>
  condK v24
    (binK .mul t8 (.int .u32 (.ofNat 16777619)) fun v25 =>
  someK (pStrIndex [t0, t10]) fun v26 =>
  toIntK .u32 v26 fun v27 =>
  binK .add v25 v27 fun v28 =>
  binK .sub t10 t7 fun v29 =>
  someK (pStrIndex [t0, v29]) fun v30 =>
  toIntK .u32 v30 fun v31 =>
  binK .mul t6 v31 fun v32 =>
  binK .sub v28 v32 fun v33 =>
  binK .add t10 (.int .i64 (.ofNat 1)) fun v34 =>
  binK .eql v33 t5 fun v35 =>
  gK v35 true (fun q' => q' t0 H τ) H τ fun v36 H37 τ38 =>
  gK v35 true (fun q' => q' v34 H37 τ38) H37 τ38 fun v39 H40 τ41 =>
  gK v35 true (fun q' => q' t7 H40 τ41) H40 τ41 fun v42 H43 τ44 =>
  gK v35 true (fun q' => binK .sub v39 v42 fun v => q' v H43 τ44) H43 τ44 fun v45 H46 τ47 =>
  gK v35 true (fun q' => q' v34 H46 τ47) H46 τ47 fun v48 H49 τ50 =>
  gK v35 true (fun q' => someK (pStrSlice true true [v36, v45, v48]) fun v => q' v H49 τ50) H49 τ50 fun v51 H52 τ53 =>
  gK v35 true (fun q' => q' t1 H52 τ53) H52 τ53 fun v54 H55 τ56 =>
  gK v35 true (fun q' => binK .eql v51 v54 fun v => q' v H55 τ56) H55 τ56 fun v57 H58 τ59 =>
  someK (pPick [v35, v57, (.bool false)]) fun v60 =>
  condK v60
    (binK .sub v34 t7 fun v61 =>
  k .ret ⟨(T.set .leaf 4 v61), H58⟩ τ59)
    (k .normal ⟨(T.set (T.set (T.set (T.set (T.set (T.set (T.set (T.set .leaf 0 t0) 1 t1) 5 t5) 6 t6) 7 t7) 8 v33) 10 v34) 77 v60), H58⟩ τ59))
    (k (.exit 2) ⟨.leaf, H⟩ τ)
def s162_j0 (call : CallK) (N : Nat) (q : KV) (st : St) (τ : Tape) : Ans :=
  match st with
  | ⟨fr, H⟩ =>
  getK fr 0 fun t0 =>
  getK fr 1 fun t1 =>
  getK fr 5 fun t5 =>
  getK fr 6 fun t6 =>
  getK fr 7 fun t7 =>
  getK fr 8 fun t8 =>
  binK .eql t8 t5 fun v6 =>
  gK v6 true (fun q' => q' t0 H τ) H τ fun v7 H8 τ9 =>
  gK v6 true (fun q' => q' t7 H8 τ9) H8 τ9 fun v10 H11 τ12 =>
  gK v6 true (fun q' => someK (pStrSlice false true [v7, v10]) fun v => q' v H11 τ12) H11 τ12 fun v13 H14 τ15 =>
  gK v6 true (fun q' => q' t1 H14 τ15) H14 τ15 fun v16 H17 τ18 =>
  gK v6 true (fun q' => binK .eql v13 v16 fun v => q' v H17 τ18) H17 τ18 fun v19 H20 τ21 =>
  someK (pPick [v6, v19, (.bool false)]) fun v22 =>
  condK v22
    (q (.int .i64 (.ofNat 0)) H20 τ21)
    (loopK (s162_l2 call N) N ⟨(T.set (T.set (T.set (T.set (T.set (T.set (T.set .leaf 0 t0) 1 t1) 5 t5) 6 t6) 7 t7) 8 t8) 10 t7), H20⟩ τ21 (blockK 2 (seqK (s162_j1 call N q) (endK [(.t 4)] q))))
def s162_l3 (call : CallK) (N : Nat) (st : St) (τ : Tape) (k : KC) : Ans :=
  match st with
  | ⟨fr, H⟩ =>
  getK fr 0 fun t0 =>
  getK fr 1 fun t1 =>
  getK fr 5 fun t5 =>
  getK fr 6 fun t6 =>
  getK fr 7 fun t7 =>
  getK fr 8 fun t8 =>
  getK fr 9 fun t9 =>
  binK .lss t9 t7 fun v62 =>
  condK v62
    (binK .mul t8 (.int .u32 (.ofNat 16777619)) fun v63 =>
  someK (pStrIndex [t0, t9]) fun v64 =>
  toIntK .u32 v64 fun v65 =>
  binK .add v63 v65 fun v66 =>
  binK .add t9 (.int .i64 (.ofNat 1)) fun v67 =>
  k .normal ⟨(T.set (T.set (T.set (T.set (T.set (T.set (T.set (T.set (T.set (T.set .leaf 0 t0) 1 t1) 5 t5) 6 t6) 7 t7) 8 v66) 9 t9) 21 t9) 22 v67) 9 v67), H⟩ τ)
    (k (.exit 0) ⟨(T.set (T.set (T.set (T.set (T.set (T.set .leaf 0 t0) 1 t1) 5 t5) 6 t6) 7 t7) 8 t8), H⟩ τ)
def s162 (call : CallK) (N : Nat) (a0 a1 : V) (H : Heap) (τ : Tape) (q : KV) : Ans :=
  call 186 [a1] H τ fun v0 H1 τ2 =>
  someK (pExtract 0 [v0]) fun v3 =>
  someK (pExtract 1 [v0]) fun v4 =>
  someK (pLenS [a1]) fun v5 =>
  loopK (s162_l3 call N) N ⟨(T.set (T.set (T.set (T.set (T.set (T.set (T.set .leaf 0 a0) 1 a1) 5 v3) 6 v4) 7 v5) 8 (.int .u32 (.ofNat 0))) 9 (.int .i64 (.ofNat 0))), H1⟩ τ2 (blockK 0 (seqK (s162_j0 call N q) (endK [(.t 4)] q)))
theorem s162_eq (call : CallK) (N : Nat) (a0 a1 : V) (H : Heap) (τ : Tape) (q : KV) : s162 call N a0 a1 H τ q = funK call N fn162 [a0, a1] H τ q := by kernel_rfl
def e162 (call : CallK) (N : Nat) (vs : List V) (H : Heap) (τ : Tape) (q : KV) : Ans := match vs with | [a0, a1] => s162 call N a0 a1 H τ q | _ => none
theorem e162_ok : EntOk fn162 e162 := by
  intro call N vs H τ q r h
  unfold e162 at h
  split at h
  · rw [s162_eq] at h; exact h
  · cases h
theorem e162_nat : EntNat e162 := by
  intro c hn N vs H τ q
  unfold e162
  split
  · rw [s162_eq, s162_eq]; exact funK_ent hn _ _ _ _ _ _
  · rfl
/-- (*strings.asciiSet).contains -/
def fn171 : Fun := ⟨2,
  (.seq (.reg [⟨(some 4), none, (.p .mv), [(.c (.bool false))], none⟩])
  (.keep [0, 1] (.seq (.reg [⟨(some 5), none, (.p .mv), [(.t 0)], none⟩,
    ⟨(some 6), none, (.p .mv), [(.t 1)], none⟩,
    ⟨(some 7), none, (.p .nilck), [(.t 5)], none⟩,
    ⟨(some 8), none, (.p (.arrIdx 256 1)), [(.t 7), (.t 6)], none⟩,
    ⟨(some 9), none, (.l (.load none)), [(.t 8)], none⟩,
    ⟨(some 4), none, (.p .mv), [(.t 9)], none⟩])
  (.keep [4] (.keep [4] .ret))))),
  [(.t 4)]⟩
def s171 (call : CallK) (N : Nat) (a0 a1 : V) (H : Heap) (τ : Tape) (q : KV) : Ans :=
  someK (pNilck [a0]) fun v0 =>
  someK (pArrIdx 256 1 [v0, a1]) fun v1 =>
  someK (lLoad1 [v1] H) fun v2 =>
  q v2 H τ
theorem s171_eq (call : CallK) (N : Nat) (a0 a1 : V) (H : Heap) (τ : Tape) (q : KV) : s171 call N a0 a1 H τ q = funK call N fn171 [a0, a1] H τ q := by kernel_rfl
def e171 (call : CallK) (N : Nat) (vs : List V) (H : Heap) (τ : Tape) (q : KV) : Ans := match vs with | [a0, a1] => s171 call N a0 a1 H τ q | _ => none
theorem e171_ok : EntOk fn171 e171 := by
  intro call N vs H τ q r h
  unfold e171 at h
  split at h
  · rw [s171_eq] at h; exact h
  · cases h
theorem e171_nat : EntNat e171 := by
  intro c hn N vs H τ q
  unfold e171
  split
  · rw [s171_eq, s171_eq]; exact funK_ent hn _ _ _ _ _ _
  · rfl
/-- unicode/utf8.DecodeRuneInString -/
def fn172 : Fun := ⟨1,
  (.seq (.reg [⟨(some 2), none, (.p .mv), [(.c (.int .i32 (.ofNat 0)))], none⟩,
    ⟨(some 3), none, (.p .mv), [(.c (.int .i64 (.ofNat 0)))], none⟩])
  (.keep [0] (.seq (.seq (.reg [⟨(some 4), none, (.p .mv), [(.t 0)], none⟩,
    ⟨(some 5), none, (.p (.bin .neq)), [(.t 4), (.c (.str []))], none⟩,
    ⟨(some 6), none, (.p .mv), [(.t 5)], none⟩,
    ⟨(some 7), some (6, true), (.p .mv), [(.t 0)], none⟩,
    ⟨(some 8), some (6, true), (.p .strIndex), [(.t 7), (.c (.int .i64 (.ofNat 0)))], none⟩,
    ⟨(some 9), some (6, true), (.p (.bin .lss)), [(.t 8), (.c (.int .u8 (.ofNat 128)))], none⟩,
    ⟨(some 10), none, (.p .pick), [(.t 6), (.t 9), (.c (.bool false))], none⟩])
  (.keep [0, 10] (.cond (.t 10)
   (.seq (.reg [⟨(some 11), none, (.p .mv), [(.t 0)], none⟩,
     ⟨(some 12), none, (.p .strIndex), [(.t 11), (.c (.int .i64 (.ofNat 0)))], none⟩,
     ⟨(some 13), none, (.p (.toInt .i32)), [(.t 12)], none⟩,
     ⟨(some 2), none, (.p .mv), [(.t 13)], none⟩,
     ⟨(some 3), none, (.p .mv), [(.c (.int .i64 (.ofNat 1)))], none⟩])
   (.keep [2, 3] (.keep [2, 3] .ret)))
   (.reg [⟨(some 15), none, (.p .mv), [(.t 0)], none⟩,
     ⟨(some 16), none, (.call 191), [(.t 15)], none⟩,
     ⟨(some 14), none, (.p .mv), [(.t 16)], none⟩,
     ⟨(some 17), none, (.p (.extract 0)), [(.t 14)], none⟩,
     ⟨(some 18), none, (.p (.extract 1)), [(.t 14)], none⟩,
     ⟨(some 2), none, (.p .mv), [(.t 17)], none⟩,
     ⟨(some 3), none, (.p .mv), [(.t 18)], none⟩]))))
  (.keep [2, 3] (.keep [2, 3] .ret))))),
  [(.t 2), (.t 3)]⟩
def s172 (call : CallK) (N : Nat) (a0 : V) (H : Heap) (τ : Tape) (q : KV) : Ans :=
  binK .neq a0 (.str []) fun v0 =>
  gK v0 true (fun q' => q' a0 H τ) H τ fun v1 H2 τ3 =>
  gK v0 true (fun q' => someK (pStrIndex [v1, (.int .i64 (.ofNat 0))]) fun v => q' v H2 τ3) H2 τ3 fun v4 H5 τ6 =>
  gK v0 true (fun q' => binK .lss v4 (.int .u8 (.ofNat 128)) fun v => q' v H5 τ6) H5 τ6 fun v7 H8 τ9 =>
  someK (pPick [v0, v7, (.bool false)]) fun v10 =>
  condK v10
    (someK (pStrIndex [a0, (.int .i64 (.ofNat 0))]) fun v11 =>
  toIntK .i32 v11 fun v12 =>
  q (.tup [v12, (.int .i64 (.ofNat 1))]) H8 τ9)
    (call 191 [a0] H8 τ9 fun v13 H14 τ15 =>
  someK (pExtract 0 [v13]) fun v16 =>
  someK (pExtract 1 [v13]) fun v17 =>
  q (.tup [v16, v17]) H14 τ15)
theorem s172_eq (call : CallK) (N : Nat) (a0 : V) (H : Heap) (τ : Tape) (q : KV) : s172 call N a0 H τ q = funK call N fn172 [a0] H τ q := by kernel_rfl
def e172 (call : CallK) (N : Nat) (vs : List V) (H : Heap) (τ : Tape) (q : KV) : Ans := match vs with | [a0] => s172 call N a0 H τ q | _ => none
theorem e172_ok : EntOk fn172 e172 := by
  intro call N vs H τ q r h
  unfold e172 at h
  split at h
  · rw [s172_eq] at h; exact h
  · cases h
theorem e172_nat : EntNat e172 := by
  intro c hn N vs H τ q
  unfold e172
  split
  · rw [s172_eq, s172_eq]; exact funK_ent hn _ _ _ _ _ _
  · rfl
/-- unicode/utf8.DecodeLastRuneInString -/
def fn173 : Fun := ⟨1,
  (.seq (.reg [⟨(some 2), none, (.p .mv), [(.c (.int .i32 (.ofNat 0)))], none⟩,
    ⟨(some 3), none, (.p .mv), [(.c (.int .i64 (.ofNat 0)))], none⟩])
  (.keep [0] (.seq (.reg [⟨(some 7), none, (.p .mv), [(.t 0)], none⟩,
    ⟨(some 8), none, (.p .lenS), [(.t 7)], none⟩,
    ⟨(some 4), none, (.p .mv), [(.t 8)], none⟩])
  (.keep [0, 4] (.seq (.seq (.reg [⟨(some 9), none, (.p .mv), [(.t 4)], none⟩,
    ⟨(some 10), none, (.p (.bin .eql)), [(.t 9), (.c (.int .i64 (.ofNat 0)))], none⟩])
  (.keep [0, 4, 10] (.cond (.t 10)
   (.seq (.reg [⟨(some 2), none, (.p .mv), [(.c (.int .i32 (.ofNat 65533)))], none⟩,
     ⟨(some 3), none, (.p .mv), [(.c (.int .i64 (.ofNat 0)))], none⟩])
   (.keep [2, 3] (.keep [2, 3] .ret)))
   .skip)))
  (.keep [0, 4] (.seq (.reg [⟨(some 11), none, (.p .mv), [(.t 4)], none⟩,
    ⟨(some 12), none, (.p (.bin .sub)), [(.t 11), (.c (.int .i64 (.ofNat 1)))], none⟩,
    ⟨(some 5), none, (.p .mv), [(.t 12)], none⟩])
  (.keep [0, 4, 5] (.seq (.reg [⟨(some 13), none, (.p .mv), [(.t 0)], none⟩,
    ⟨(some 14), none, (.p .mv), [(.t 5)], none⟩,
    ⟨(some 15), none, (.p .strIndex), [(.t 13), (.t 14)], none⟩,
    ⟨(some 16), none, (.p (.toInt .i32)), [(.t 15)], none⟩,
    ⟨(some 2), none, (.p .mv), [(.t 16)], none⟩])
  (.keep [0, 2, 4, 5] (.seq (.seq (.reg [⟨(some 17), none, (.p .mv), [(.t 2)], none⟩,
    ⟨(some 18), none, (.p (.bin .lss)), [(.t 17), (.c (.int .i32 (.ofNat 128)))], none⟩])
  (.keep [0, 2, 4, 5, 18] (.cond (.t 18)
   (.seq (.reg [⟨(some 19), none, (.p .mv), [(.t 2)], none⟩,
     ⟨(some 2), none, (.p .mv), [(.t 19)], none⟩,
     ⟨(some 3), none, (.p .mv), [(.c (.int .i64 (.ofNat 1)))], none⟩])
   (.keep [2, 3] (.keep [2, 3] .ret)))
   .skip)))
  (.keep [0, 4, 5] (.seq (.reg [⟨(some 20), none, (.p .mv), [(.t 4)], none⟩,
    ⟨(some 21), none, (.p (.bin .sub)), [(.t 20), (.c (.int .i64 (.ofNat 4)))], none⟩,
    ⟨(some 22), none, (.p .max2), [(.t 21), (.c (.int .i64 (.ofNat 0)))], none⟩,
    ⟨(some 6), none, (.p .mv), [(.t 22)], none⟩])
  (.keep [0, 4, 5, 6] (.seq (.seq (.reg [⟨(some 23), none, (.p .mv), [(.t 5)], none⟩,
    ⟨(some 24), none, (.p (.bin .sub)), [(.t 23), (.c (.int .i64 (.ofNat 1)))], none⟩,
    ⟨(some 5), none, (.p .mv), [(.t 24)], none⟩])
  (.keep [0, 4, 5, 6] (.block 0
   (.loop
    (.keep [0, 4, 5, 6] (.seq (.seq (.reg [⟨(some 25), none, (.p .mv), [(.t 5)], none⟩,
      ⟨(some 26), none, (.p .mv), [(.t 6)], none⟩,
      ⟨(some 27), none, (.p (.bin .geq)), [(.t 25), (.t 26)], none⟩])
    (.keep [0, 4, 5, 6, 27] (.cond (.t 27)
     .skip
     (.keep [0, 4, 5] (.exit 0)))))
    (.keep [0, 4, 5, 6] (.seq (.block 1
     (.seq (.reg [⟨(some 30), none, (.p .mv), [(.t 0)], none⟩,
       ⟨(some 31), none, (.p .mv), [(.t 5)], none⟩,
       ⟨(some 32), none, (.p .strIndex), [(.t 30), (.t 31)], none⟩,
       ⟨(some 33), none, (.call 192), [(.t 32)], none⟩])
     (.keep [0, 4, 5, 6, 33] (.cond (.t 33)
      (.keep [0, 4, 5] (.exit 0))
      .skip))))
    (.keep [0, 4, 5, 6] (.reg [⟨(some 28), none, (.p .mv), [(.t 5)], none⟩,
      ⟨(some 29), none, (.p (.bin .sub)), [(.t 28), (.c (.int .i64 (.ofNat 1)))], none⟩,
      ⟨(some 5), none, (.p .mv), [(.t 29)], none⟩]))))))))))
  (.keep [0, 4, 5] (.seq (.seq (.reg [⟨(some 34), none, (.p .mv), [(.t 5)], none⟩,
    ⟨(some 35), none, (.p (.bin .lss)), [(.t 34), (.c (.int .i64 (.ofNat 0)))], none⟩])
  (.keep [0, 4, 5, 35] (.cond (.t 35)
   (.reg [⟨(some 5), none, (.p .mv), [(.c (.int .i64 (.ofNat 0)))], none⟩])
   .skip)))
  (.keep [0, 4, 5] (.seq (.reg [⟨(some 37), none, (.p .mv), [(.t 0)], none⟩,
    ⟨(some 38), none, (.p .mv), [(.t 5)], none⟩,
    ⟨(some 39), none, (.p .mv), [(.t 4)], none⟩,
    ⟨(some 40), none, (.p (.strSlice true true)), [(.t 37), (.t 38), (.t 39)], none⟩,
    ⟨(some 41), none, (.call 172), [(.t 40)], none⟩,
    ⟨(some 36), none, (.p .mv), [(.t 41)], none⟩,
    ⟨(some 42), none, (.p (.extract 0)), [(.t 36)], none⟩,
    ⟨(some 43), none, (.p (.extract 1)), [(.t 36)], none⟩,
    ⟨(some 2), none, (.p .mv), [(.t 42)], none⟩,
    ⟨(some 3), none, (.p .mv), [(.t 43)], none⟩])
  (.keep [2, 3, 4, 5] (.seq (.seq (.reg [⟨(some 44), none, (.p .mv), [(.t 5)], none⟩,
    ⟨(some 45), none, (.p .mv), [(.t 3)], none⟩,
    ⟨(some 46), none, (.p (.bin .add)), [(.t 44), (.t 45)], none⟩,
    ⟨(some 47), none, (.p .mv), [(.t 4)], none⟩,
    ⟨(some 48), none, (.p (.bin .neq)), [(.t 46), (.t 47)], none⟩])
  (.keep [2, 3, 48] (.cond (.t 48)
   (.seq (.reg [⟨(some 2), none, (.p .mv), [(.c (.int .i32 (.ofNat 65533)))], none⟩,
     ⟨(some 3), none, (.p .mv), [(.c (.int .i64 (.ofNat 1)))], none⟩])
   (.keep [2, 3] (.keep [2, 3] .ret)))
   .skip)))
  (.keep [2, 3] (.seq (.reg [⟨(some 49), none, (.p .mv), [(.t 2)], none⟩,
    ⟨(some 50), none, (.p .mv), [(.t 3)], none⟩,
    ⟨(some 2), none, (.p .mv), [(.t 49)], none⟩,
    ⟨(some 3), none, (.p .mv), [(.t 50)], none⟩])
  (.keep [2, 3] (.keep [2, 3] .ret))))))))))))))))))))))))),
  [(.t 2), (.t 3)]⟩
def s173_j1 (call : CallK) (N : Nat) (q : KV) (st : St) (τ : Tape) : Ans :=
  match st with
  | ⟨fr, H⟩ =>
  getK fr 0 fun t0 =>
  getK fr 4 fun t4 =>
  getK fr 5 fun t5 =>
  someK (pStrSlice true true [t0, t5, t4]) fun v10 =>
  call 172 [v10] H τ fun v11 H12 τ13 =>
  someK (pExtract 0 [v11]) fun v14 =>
  someK (pExtract 1 [v11]) fun v15 =>
  binK .add t5 v15 fun v16 =>
  binK .neq v16 t4 fun v17 =>
  condK v17
    (q (.tup [(.int .i32 (.ofNat 65533)), (.int .i64 (.ofNat 1))]) H12 τ13)
    (q (.tup [v14, v15]) H12 τ13)
def s173_j0 (call : CallK) (N : Nat) (q : KV) (st : St) (τ : Tape) : Ans :=
  match st with
  | ⟨fr, H⟩ =>
  getK fr 0 fun t0 =>
  getK fr 4 fun t4 =>
  getK fr 5 fun t5 =>
  binK .lss t5 (.int .i64 (.ofNat 0)) fun v9 =>
  condK v9
    (s173_j1 call N q ⟨(T.set (T.set (T.set (T.set (T.set .leaf 0 t0) 4 t4) 5 t5) 35 v9) 5 (.int .i64 (.ofNat 0))), H⟩ τ)
    (s173_j1 call N q ⟨(T.set (T.set (T.set (T.set .leaf 0 t0) 4 t4) 5 t5) 35 v9), H⟩ τ)
def s173_l2 (call : CallK) (N : Nat) (st : St) (τ : Tape) (k : KC) : Ans :=
  match st with
  | ⟨fr, H⟩ =>
  getK fr 0 fun t0 =>
  getK fr 4 fun t4 =>
  getK fr 5 fun t5 =>
  getK fr 6 fun t6 =>
  binK .geq t5 t6 fun v18 =>
  condK v18
    (someK (pStrIndex [t0, t5]) fun v19 =>
  call 192 [v19] H τ fun v20 H21 τ22 =>
  condK v20
    (k (.exit 0) ⟨(T.set (T.set (T.set .leaf 0 t0) 4 t4) 5 t5), H21⟩ τ22)
    (binK .sub t5 (.int .i64 (.ofNat 1)) fun v23 =>
  k .normal ⟨(T.set (T.set (T.set (T.set (T.set (T.set (T.set .leaf 0 t0) 4 t4) 5 t5) 6 t6) 28 t5) 29 v23) 5 v23), H21⟩ τ22))
    (k (.exit 0) ⟨(T.set (T.set (T.set .leaf 0 t0) 4 t4) 5 t5), H⟩ τ)
def s173 (call : CallK) (N : Nat) (a0 : V) (H : Heap) (τ : Tape) (q : KV) : Ans :=
  someK (pLenS [a0]) fun v0 =>
  binK .eql v0 (.int .i64 (.ofNat 0)) fun v1 =>
  condK v1
    (q (.tup [(.int .i32 (.ofNat 65533)), (.int .i64 (.ofNat 0))]) H τ)
    (binK .sub v0 (.int .i64 (.ofNat 1)) fun v2 =>
  someK (pStrIndex [a0, v2]) fun v3 =>
  toIntK .i32 v3 fun v4 =>
  binK .lss v4 (.int .i32 (.ofNat 128)) fun v5 =>
  condK v5
    (q (.tup [v4, (.int .i64 (.ofNat 1))]) H τ)
    (binK .sub v0 (.int .i64 (.ofNat 4)) fun v6 =>
  someK (pMax [v6, (.int .i64 (.ofNat 0))]) fun v7 =>
  binK .sub v2 (.int .i64 (.ofNat 1)) fun v8 =>
  loopK (s173_l2 call N) N ⟨(T.set (T.set (T.set (T.set .leaf 0 a0) 4 v0) 5 v8) 6 v7), H⟩ τ (blockK 0 (seqK (s173_j0 call N q) (endK [(.t 2), (.t 3)] q)))))
theorem s173_eq (call : CallK) (N : Nat) (a0 : V) (H : Heap) (τ : Tape) (q : KV) : s173 call N a0 H τ q = funK call N fn173 [a0] H τ q := by kernel_rfl
def e173 (call : CallK) (N : Nat) (vs : List V) (H : Heap) (τ : Tape) (q : KV) : Ans := match vs with | [a0] => s173 call N a0 H τ q | _ => none
theorem e173_ok : EntOk fn173 e173 := by
  intro call N vs H τ q r h
  unfold e173 at h
  split at h
  · rw [s173_eq] at h; exact h
  · cases h
theorem e173_nat : EntNat e173 := by
  intro c hn N vs H τ q
  unfold e173
  split
  · rw [s173_eq, s173_eq]; exact funK_ent hn _ _ _ _ _ _
  · rfl
/-- internal/bytealg.hashStr[string] -/
def fn186 : Fun := ⟨1,
  (.seq (.reg [⟨(some 2), none, (.p .mv), [(.c (.int .u32 (.ofNat 0)))], none⟩,
    ⟨(some 3), none, (.p .mv), [(.c (.int .u32 (.ofNat 0)))], none⟩])
  (.keep [0] (.seq (.reg [⟨(some 4), none, (.p .mv), [(.c (.int .u32 (.ofNat 0)))], none⟩])
  (.keep [0, 4] (.seq (.seq (.reg [⟨(some 5), none, (.p .mv), [(.c (.int .i64 (.ofNat 0)))], none⟩])
  (.keep [0, 4, 5] (.block 0
   (.loop
    (.keep [0, 4, 5] (.seq (.seq (.reg [⟨(some 9), none, (.p .mv), [(.t 5)], none⟩,
      ⟨(some 10), none, (.p .mv), [(.t 0)], none⟩,
      ⟨(some 11), none, (.p .lenS), [(.t 10)], none⟩,
      ⟨(some 12), none, (.p (.bin .lss)), [(.t 9), (.t 11)], none⟩])
    (.keep [0, 4, 5, 12] (.cond (.t 12)
     .skip
     (.keep [0, 4] (.exit 0)))))
    (.keep [0, 4, 5] (.seq (.block 1
     (.reg [⟨(some 15), none, (.p .mv), [(.t 4)], none⟩,
       ⟨(some 16), none, (.p (.bin .mul)), [(.t 15), (.c (.int .u32 (.ofNat 16777619)))], none⟩,
       ⟨(some 17), none, (.p .mv), [(.t 0)], none⟩,
       ⟨(some 18), none, (.p .mv), [(.t 5)], none⟩,
       ⟨(some 19), none, (.p .strIndex), [(.t 17), (.t 18)], none⟩,
       ⟨(some 20), none, (.p (.toInt .u32)), [(.t 19)], none⟩,
       ⟨(some 21), none, (.p (.bin .add)), [(.t 16), (.t 20)], none⟩,
       ⟨(some 4), none, (.p .mv), [(.t 21)], none⟩]))
    (.keep [0, 4, 5] (.reg [⟨(some 13), none, (.p .mv), [(.t 5)], none⟩,
      ⟨(some 14), none, (.p (.bin .add)), [(.t 13), (.c (.int .i64 (.ofNat 1)))], none⟩,
      ⟨(some 5), none, (.p .mv), [(.t 14)], none⟩]))))))))))
  (.keep [0, 4] (.seq (.reg [⟨(some 6), none, (.p .mv), [(.c (.int .u32 (.ofNat 1)))], none⟩,
    ⟨(some 7), none, (.p .mv), [(.c (.int .u32 (.ofNat 16777619)))], none⟩])
  (.keep [0, 4, 6, 7] (.seq (.seq (.reg [⟨(some 22), none, (.p .mv), [(.t 0)], none⟩,
    ⟨(some 23), none, (.p .lenS), [(.t 22)], none⟩,
    ⟨(some 8), none, (.p .mv), [(.t 23)], none⟩])
  (.keep [4, 6, 7, 8] (.block 2
   (.loop
    (.keep [4, 6, 7, 8] (.seq (.seq (.reg [⟨(some 24), none, (.p .mv), [(.t 8)], none⟩,
      ⟨(some 25), none, (.p (.bin .gtr)), [(.t 24), (.c (.int .i64 (.ofNat 0)))], none⟩])
    (.keep [4, 6, 7, 8, 25] (.cond (.t 25)
     .skip
     (.keep [4, 6] (.exit 2)))))
    (.keep [4, 6, 7, 8] (.seq (.block 3
     (.seq (.seq (.reg [⟨(some 28), none, (.p .mv), [(.t 8)], none⟩,
       ⟨(some 29), none, (.p (.bin .and)), [(.t 28), (.c (.int .i64 (.ofNat 1)))], none⟩,
       ⟨(some 30), none, (.p (.bin .neq)), [(.t 29), (.c (.int .i64 (.ofNat 0)))], none⟩])
     (.keep [4, 6, 7, 8, 30] (.cond (.t 30)
      (.reg [⟨(some 31), none, (.p .mv), [(.t 6)], none⟩,
        ⟨(some 32), none, (.p .mv), [(.t 7)], none⟩,
        ⟨(some 33), none, (.p (.bin .mul)), [(.t 31), (.t 32)], none⟩,
        ⟨(some 6), none, (.p .mv), [(.t 33)], none⟩])
      .skip)))
     (.keep [4, 6, 7, 8] (.reg [⟨(some 34), none, (.p .mv), [(.t 7)], none⟩,
       ⟨(some 35), none, (.p .mv), [(.t 7)], none⟩,
       ⟨(some 36), none, (.p (.bin .mul)), [(.t 34), (.t 35)], none⟩,
       ⟨(some 7), none, (.p .mv), [(.t 36)], none⟩]))))
    (.keep [4, 6, 7, 8] (.reg [⟨(some 26), none, (.p .mv), [(.t 8)], none⟩,
      ⟨(some 27), none, (.p (.bin .shr)), [(.t 26), (.c (.int .u64 (.ofNat 1)))], none⟩,
      ⟨(some 8), none, (.p .mv), [(.t 27)], none⟩]))))))))))
  (.keep [4, 6] (.seq (.reg [⟨(some 37), none, (.p .mv), [(.t 4)], none⟩,
    ⟨(some 38), none, (.p .mv), [(.t 6)], none⟩,
    ⟨(some 2), none, (.p .mv), [(.t 37)], none⟩,
    ⟨(some 3), none, (.p .mv), [(.t 38)], none⟩])
  (.keep [2, 3] (.keep [2, 3] .ret))))))))))))),
  [(.t 2), (.t 3)]⟩
def s186_j1 (call : CallK) (N : Nat) (q : KV) (st : St) (τ : Tape) : Ans :=
  match st with
  | ⟨fr, H⟩ =>
  getK fr 4 fun t4 =>
  getK fr 6 fun t6 =>
  q (.tup [t4, t6]) H τ
def s186_j3 (call : CallK) (N : Nat) (k : KC) (st : St) (τ : Tape) : Ans :=
  match st with
  | ⟨fr, H⟩ =>
  getK fr 4 fun t4 =>
  getK fr 6 fun t6 =>
  getK fr 7 fun t7 =>
  getK fr 8 fun t8 =>
  binK .shr t8 (.int .u64 (.ofNat 1)) fun v4 =>
  k .normal ⟨(T.set (T.set (T.set (T.set (T.set (T.set (T.set .leaf 4 t4) 6 t6) 7 t7) 8 t8) 26 t8) 27 v4) 8 v4), H⟩ τ
def s186_j4 (call : CallK) (N : Nat) (k : KC) (st : St) (τ : Tape) : Ans :=
  match st with
  | ⟨fr, H⟩ =>
  getK fr 4 fun t4 =>
  getK fr 6 fun t6 =>
  getK fr 7 fun t7 =>
  getK fr 8 fun t8 =>
  binK .mul t7 t7 fun v5 =>
  s186_j3 call N k ⟨(T.set (T.set (T.set (T.set (T.set (T.set (T.set (T.set .leaf 4 t4) 6 t6) 7 t7) 8 t8) 34 t7) 35 t7) 36 v5) 7 v5), H⟩ τ
def s186_l2 (call : CallK) (N : Nat) (st : St) (τ : Tape) (k : KC) : Ans :=
  match st with
  | ⟨fr, H⟩ =>
  getK fr 4 fun t4 =>
  getK fr 6 fun t6 =>
  getK fr 7 fun t7 =>
  getK fr 8 fun t8 =>
  binK .gtr t8 (.int .i64 (.ofNat 0)) fun v1 =>
  condK v1
    (binK .and t8 (.int .i64 (.ofNat 1)) fun v2 =>
  binK .neq v2 (.int .i64 (.ofNat 0)) fun v3 =>
  condK v3
    (binK .mul t6 t7 fun v6 =>
  s186_j4 call N k ⟨(T.set (T.set (T.set (T.set (T.set (T.set (T.set (T.set (T.set .leaf 4 t4) 6 t6) 7 t7) 8 t8) 30 v3) 31 t6) 32 t7) 33 v6) 6 v6), H⟩ τ)
    (s186_j4 call N k ⟨(T.set (T.set (T.set (T.set (T.set .leaf 4 t4) 6 t6) 7 t7) 8 t8) 30 v3), H⟩ τ))
    (k (.exit 2) ⟨(T.set (T.set .leaf 4 t4) 6 t6), H⟩ τ)
def s186_j0 (call : CallK) (N : Nat) (q : KV) (st : St) (τ : Tape) : Ans :=
  match st with
  | ⟨fr, H⟩ =>
  getK fr 0 fun t0 =>
  getK fr 4 fun t4 =>
  someK (pLenS [t0]) fun v0 =>
  loopK (s186_l2 call N) N ⟨(T.set (T.set (T.set (T.set .leaf 4 t4) 6 (.int .u32 (.ofNat 1))) 7 (.int .u32 (.ofNat 16777619))) 8 v0), H⟩ τ (blockK 2 (seqK (s186_j1 call N q) (endK [(.t 2), (.t 3)] q)))
def s186_l5 (call : CallK) (N : Nat) (st : St) (τ : Tape) (k : KC) : Ans :=
  match st with
  | ⟨fr, H⟩ =>
  getK fr 0 fun t0 =>
  getK fr 4 fun t4 =>
  getK fr 5 fun t5 =>
  someK (pLenS [t0]) fun v7 =>
  binK .lss t5 v7 fun v8 =>
  condK v8
    (binK .mul t4 (.int .u32 (.ofNat 16777619)) fun v9 =>
  someK (pStrIndex [t0, t5]) fun v10 =>
  toIntK .u32 v10 fun v11 =>
  binK .add v9 v11 fun v12 =>
  binK .add t5 (.int .i64 (.ofNat 1)) fun v13 =>
  k .normal ⟨(T.set (T.set (T.set (T.set (T.set (T.set .leaf 0 t0) 4 v12) 5 t5) 13 t5) 14 v13) 5 v13), H⟩ τ)
    (k (.exit 0) ⟨(T.set (T.set .leaf 0 t0) 4 t4), H⟩ τ)
def s186 (call : CallK) (N : Nat) (a0 : V) (H : Heap) (τ : Tape) (q : KV) : Ans :=
  loopK (s186_l5 call N) N ⟨(T.set (T.set (T.set .leaf 0 a0) 4 (.int .u32 (.ofNat 0))) 5 (.int .i64 (.ofNat 0))), H⟩ τ (blockK 0 (seqK (s186_j0 call N q) (endK [(.t 2), (.t 3)] q)))
theorem s186_eq (call : CallK) (N : Nat) (a0 : V) (H : Heap) (τ : Tape) (q : KV) : s186 call N a0 H τ q = funK call N fn186 [a0] H τ q := by kernel_rfl
def e186 (call : CallK) (N : Nat) (vs : List V) (H : Heap) (τ : Tape) (q : KV) : Ans := match vs with | [a0] => s186 call N a0 H τ q | _ => none
theorem e186_ok : EntOk fn186 e186 := by
  intro call N vs H τ q r h
  unfold e186 at h
  split at h
  · rw [s186_eq] at h; exact h
  · cases h
theorem e186_nat : EntNat e186 := by
  intro c hn N vs H τ q
  unfold e186
  split
  · rw [s186_eq, s186_eq]; exact funK_ent hn _ _ _ _ _ _
  · rfl
/-- unicode/utf8.decodeRuneInStringSlow -/
def fn191 : Fun := ⟨1,
  (.seq (.reg [⟨(some 2), none, (.p .mv), [(.c (.int .i32 (.ofNat 0)))], none⟩,
    ⟨(some 3), none, (.p .mv), [(.c (.int .i64 (.ofNat 0)))], none⟩])
  (.keep [0] (.seq (.reg [⟨(some 13), none, (.p .mv), [(.t 0)], none⟩,
    ⟨(some 14), none, (.p .lenS), [(.t 13)], none⟩,
    ⟨(some 4), none, (.p .mv), [(.t 14)], none⟩])
  (.keep [0, 4] (.seq (.seq (.reg [⟨(some 15), none, (.p .mv), [(.t 4)], none⟩,
    ⟨(some 16), none, (.p (.bin .lss)), [(.t 15), (.c (.int .i64 (.ofNat 1)))], none⟩])
  (.keep [0, 4, 16] (.cond (.t 16)
   (.seq (.reg [⟨(some 2), none, (.p .mv), [(.c (.int .i32 (.ofNat 65533)))], none⟩,
     ⟨(some 3), none, (.p .mv), [(.c (.int .i64 (.ofNat 0)))], none⟩])
   (.keep [2, 3] (.keep [2, 3] .ret)))
   .skip)))
  (.keep [0, 4] (.seq (.reg [⟨(some 17), none, (.p .mv), [(.t 0)], none⟩,
    ⟨(some 18), none, (.p .strIndex), [(.t 17), (.c (.int .i64 (.ofNat 0)))], none⟩,
    ⟨(some 5), none, (.p .mv), [(.t 18)], none⟩])
  (.keep [0, 4, 5] (.seq (.reg [⟨(some 19), none, (.p .mv), [(.t 5)], none⟩,
    ⟨(some 20), none, (.p (.arrIdx 256 1)), [(.c (.ptr 8 0)), (.t 19)], none⟩,
    ⟨(some 21), none, (.l (.load none)), [(.t 20)], none⟩,
    ⟨(some 6), none, (.p .mv), [(.t 21)], none⟩])
  (.keep [0, 4, 5, 6] (.seq (.seq (.reg [⟨(some 22), none, (.p .mv), [(.t 6)], none⟩,
    ⟨(some 23), none, (.p (.bin .geq)), [(.t 22), (.c (.int .u8 (.ofNat 240)))], none⟩])
  (.keep [0, 4, 5, 6, 23] (.cond (.t 23)
   (.seq (.reg [⟨(some 24), none, (.p .mv), [(.t 6)], none⟩,
     ⟨(some 25), none, (.p (.toInt .i32)), [(.t 24)], none⟩,
     ⟨(some 26), none, (.p (.bin .shl)), [(.t 25), (.c (.int .u64 (.ofNat 31)))], none⟩,
     ⟨(some 27), none, (.p (.bin .shr)), [(.t 26), (.c (.int .u64 (.ofNat 31)))], none⟩,
     ⟨(some 7), none, (.p .mv), [(.t 27)], none⟩])
   (.keep [0, 7] (.seq (.reg [⟨(some 28), none, (.p .mv), [(.t 0)], none⟩,
     ⟨(some 29), none, (.p .strIndex), [(.t 28), (.c (.int .i64 (.ofNat 0)))], none⟩,
     ⟨(some 30), none, (.p (.toInt .i32)), [(.t 29)], none⟩,
     ⟨(some 31), none, (.p .mv), [(.t 7)], none⟩,
     ⟨(some 32), none, (.p (.bin .andNot)), [(.t 30), (.t 31)], none⟩,
     ⟨(some 33), none, (.p .mv), [(.t 7)], none⟩,
     ⟨(some 34), none, (.p (.bin .and)), [(.c (.int .i32 (.ofNat 65533))), (.t 33)], none⟩,
     ⟨(some 35), none, (.p (.bin .or)), [(.t 32), (.t 34)], none⟩,
     ⟨(some 2), none, (.p .mv), [(.t 35)], none⟩,
     ⟨(some 3), none, (.p .mv), [(.c (.int .i64 (.ofNat 1)))], none⟩])
   (.keep [2, 3] (.keep [2, 3] .ret)))))
   .skip)))
  (.keep [0, 4, 5, 6] (.seq (.reg [⟨(some 36), none, (.p .mv), [(.t 6)], none⟩,
    ⟨(some 37), none, (.p (.bin .and)), [(.t 36), (.c (.int .u8 (.ofNat 7)))], none⟩,
    ⟨(some 38), none, (.p (.toInt .i64)), [(.t 37)], none⟩,
    ⟨(some 8), none, (.p .mv), [(.t 38)], none⟩])
  (.keep [0, 4, 5, 6, 8] (.seq (.reg [⟨(some 39), none, (.p .mv), [(.t 6)], none⟩,
    ⟨(some 40), none, (.p (.bin .shr)), [(.t 39), (.c (.int .u64 (.ofNat 4)))], none⟩,
    ⟨(some 41), none, (.p (.arrIdx 16 2)), [(.c (.ptr 9 0)), (.t 40)], none⟩,
    ⟨(some 42), none, (.l (.load (some 2))), [(.t 41)], none⟩,
    ⟨(some 9), none, (.e (.alloc [(.int .u8 (.ofNat 0)), (.int .u8 (.ofNat 0))])), [], none⟩,
    ⟨none, none, (.e (.store 2)), [(.t 9), (.t 42)], none⟩])
  (.keep [0, 4, 5, 8, 9] (.seq (.seq (.reg [⟨(some 43), none, (.p .mv), [(.t 4)], none⟩,
    ⟨(some 44), none, (.p .mv), [(.t 8)], none⟩,
    ⟨(some 45), none, (.p (.bin .lss)), [(.t 43), (.t 44)], none⟩])
  (.keep [0, 5, 8, 9, 45] (.cond (.t 45)
   (.seq (.reg [⟨(some 2), none, (.p .mv), [(.c (.int .i32 (.ofNat 65533)))], none⟩,
     ⟨(some 3), none, (.p .mv), [(.c (.int .i64 (.ofNat 1)))], none⟩])
   (.keep [2, 3] (.keep [2, 3] .ret)))
   .skip)))
  (.keep [0, 5, 8, 9] (.seq (.reg [⟨(some 46), none, (.p .mv), [(.t 0)], none⟩,
    ⟨(some 47), none, (.p .strIndex), [(.t 46), (.c (.int .i64 (.ofNat 1)))], none⟩,
    ⟨(some 10), none, (.p .mv), [(.t 47)], none⟩])
  (.keep [0, 5, 8, 9, 10] (.seq (.seq (.reg [⟨(some 48), none, (.p .mv), [(.t 10)], none⟩,
    ⟨(some 49), none, (.p (.fieldAddr 0)), [(.t 9)], none⟩,
    ⟨(some 50), none, (.l (.load none)), [(.t 49)], none⟩,
    ⟨(some 51), none, (.p (.bin .lss)), [(.t 48), (.t 50)], none⟩,
    ⟨(some 52), none, (.p .mv), [(.t 51)], none⟩,
    ⟨(some 53), some (52, false), (.p (.fieldAddr 1)), [(.t 9)], none⟩,
    ⟨(some 54), some (52, false), (.l (.load none)), [(.t 53)], none⟩,
    ⟨(some 55), some (52, false), (.p .mv), [(.t 10)], none⟩,
    ⟨(some 56), some (52, false), (.p (.bin .lss)), [(.t 54), (.t 55)], none⟩,
    ⟨(some 57), none, (.p .pick), [(.t 52), (.c (.bool true)), (.t 56)], none⟩])
  (.keep [0, 5, 8, 10, 57] (.cond (.t 57)
   (.seq (.reg [⟨(some 2), none, (.p .mv), [(.c (.int .i32 (.ofNat 65533)))], none⟩,
     ⟨(some 3), none, (.p .mv), [(.c (.int .i64 (.ofNat 1)))], none⟩])
   (.keep [2, 3] (.keep [2, 3] .ret)))
   .skip)))
  (.keep [0, 5, 8, 10] (.seq (.seq (.reg [⟨(some 58), none, (.p .mv), [(.t 8)], none⟩,
    ⟨(some 59), none, (.p (.bin .leq)), [(.t 58), (.c (.int .i64 (.ofNat 2)))], none⟩])
  (.keep [0, 5, 8, 10, 59] (.cond (.t 59)
   (.seq (.reg [⟨(some 60), none, (.p .mv), [(.t 5)], none⟩,
     ⟨(some 61), none, (.p (.bin .and)), [(.t 60), (.c (.int .u8 (.ofNat 31)))], none⟩,
     ⟨(some 62), none, (.p (.toInt .i32)), [(.t 61)], none⟩,
     ⟨(some 63), none, (.p (.bin .shl)), [(.t 62), (.c (.int .u64 (.ofNat 6)))], none⟩,
     ⟨(some 64), none, (.p .mv), [(.t 10)], none⟩,
     ⟨(some 65), none, (.p (.bin .and)), [(.t 64), (.c (.int .u8 (.ofNat 63)))], none⟩,
     ⟨(some 66), none, (.p (.toInt .i32)), [(.t 65)], none⟩,
     ⟨(some 67), none, (.p (.bin .or)), [(.t 63), (.t 66)], none⟩,
     ⟨(some 2), none, (.p .mv), [(.t 67)], none⟩,
     ⟨(some 3), none, (.p .mv), [(.c (.int .i64 (.ofNat 2)))], none⟩])
   (.keep [2, 3] (.keep [2, 3] .ret)))
   .skip)))
  (.keep [0, 5, 8, 10] (.seq (.reg [⟨(some 68), none, (.p .mv), [(.t 0)], none⟩,
    ⟨(some 69), none, (.p .strIndex), [(.t 68), (.c (.int .i64 (.ofNat 2)))], none⟩,
    ⟨(some 11), none, (.p .mv), [(.t 69)], none⟩])
  (.keep [0, 5, 8, 10, 11] (.seq (.seq (.reg [⟨(some 70), none, (.p .mv), [(.t 11)], none⟩,
    ⟨(some 71), none, (.p (.bin .lss)), [(.t 70), (.c (.int .u8 (.ofNat 128)))], none⟩,
    ⟨(some 72), none, (.p .mv), [(.t 71)], none⟩,
    ⟨(some 73), some (72, false), (.p .mv), [(.t 11)], none⟩,
    ⟨(some 74), some (72, false), (.p (.bin .lss)), [(.c (.int .u8 (.ofNat 191))), (.t 73)], none⟩,
    ⟨(some 75), none, (.p .pick), [(.t 72), (.c (.bool true)), (.t 74)], none⟩])
  (.keep [0, 5, 8, 10, 11, 75] (.cond (.t 75)
   (.seq (.reg [⟨(some 2), none, (.p .mv), [(.c (.int .i32 (.ofNat 65533)))], none⟩,
     ⟨(some 3), none, (.p .mv), [(.c (.int .i64 (.ofNat 1)))], none⟩])
   (.keep [2, 3] (.keep [2, 3] .ret)))
   .skip)))
  (.keep [0, 5, 8, 10, 11] (.seq (.seq (.reg [⟨(some 76), none, (.p .mv), [(.t 8)], none⟩,
    ⟨(some 77), none, (.p (.bin .leq)), [(.t 76), (.c (.int .i64 (.ofNat 3)))], none⟩])
  (.keep [0, 5, 10, 11, 77] (.cond (.t 77)
   (.seq (.reg [⟨(some 78), none, (.p .mv), [(.t 5)], none⟩,
     ⟨(some 79), none, (.p (.bin .and)), [(.t 78), (.c (.int .u8 (.ofNat 15)))], none⟩,
     ⟨(some 80), none, (.p (.toInt .i32)), [(.t 79)], none⟩,
     ⟨(some 81), none, (.p (.bin .shl)), [(.t 80), (.c (.int .u64 (.ofNat 12)))], none⟩,
     ⟨(some 82), none, (.p .mv), [(.t 10)], none⟩,
     ⟨(some 83), none, (.p (.bin .and)), [(.t 82), (.c (.int .u8 (.ofNat 63)))], none⟩,
     ⟨(some 84), none, (.p (.toInt .i32)), [(.t 83)], none⟩,
     ⟨(some 85), none, (.p (.bin .shl)), [(.t 84), (.c (.int .u64 (.ofNat 6)))], none⟩,
     ⟨(some 86), none, (.p (.bin .or)), [(.t 81), (.t 85)], none⟩,
     ⟨(some 87), none, (.p .mv), [(.t 11)], none⟩,
     ⟨(some 88), none, (.p (.bin .and)), [(.t 87), (.c (.int .u8 (.ofNat 63)))], none⟩,
     ⟨(some 89), none, (.p (.toInt .i32)), [(.t 88)], none⟩,
     ⟨(some 90), none, (.p (.bin .or)), [(.t 86), (.t 89)], none⟩,
     ⟨(some 2), none, (.p .mv), [(.t 90)], none⟩,
     ⟨(some 3), none, (.p .mv), [(.c (.int .i64 (.ofNat 3)))], none⟩])
   (.keep [2, 3] (.keep [2, 3] .ret)))
   .skip)))
  (.keep [0, 5, 10, 11] (.seq (.reg [⟨(some 91), none, (.p .mv), [(.t 0)], none⟩,
    ⟨(some 92), none, (.p .strIndex), [(.t 91), (.c (.int .i64 (.ofNat 3)))], none⟩,
    ⟨(some 12), none, (.p .mv), [(.t 92)], none⟩])
  (.keep [5, 10, 11, 12] (.seq (.seq (.reg [⟨(some 93), none, (.p .mv), [(.t 12)], none⟩,
    ⟨(some 94), none, (.p (.bin .lss)), [(.t 93), (.c (.int .u8 (.ofNat 128)))], none⟩,
    ⟨(some 95), none, (.p .mv), [(.t 94)], none⟩,
    ⟨(some 96), some (95, false), (.p .mv), [(.t 12)], none⟩,
    ⟨(some 97), some (95, false), (.p (.bin .lss)), [(.c (.int .u8 (.ofNat 191))), (.t 96)], none⟩,
    ⟨(some 98), none, (.p .pick), [(.t 95), (.c (.bool true)), (.t 97)], none⟩])
  (.keep [5, 10, 11, 12, 98] (.cond (.t 98)
   (.seq (.reg [⟨(some 2), none, (.p .mv), [(.c (.int .i32 (.ofNat 65533)))], none⟩,
     ⟨(some 3), none, (.p .mv), [(.c (.int .i64 (.ofNat 1)))], none⟩])
   (.keep [2, 3] (.keep [2, 3] .ret)))
   .skip)))
  (.keep [5, 10, 11, 12] (.seq (.reg [⟨(some 99), none, (.p .mv), [(.t 5)], none⟩,
    ⟨(some 100), none, (.p (.bin .and)), [(.t 99), (.c (.int .u8 (.ofNat 7)))], none⟩,
    ⟨(some 101), none, (.p (.toInt .i32)), [(.t 100)], none⟩,
    ⟨(some 102), none, (.p (.bin .shl)), [(.t 101), (.c (.int .u64 (.ofNat 18)))], none⟩,
    ⟨(some 103), none, (.p .mv), [(.t 10)], none⟩,
    ⟨(some 104), none, (.p (.bin .and)), [(.t 103), (.c (.int .u8 (.ofNat 63)))], none⟩,
    ⟨(some 105), none, (.p (.toInt .i32)), [(.t 104)], none⟩,
    ⟨(some 106), none, (.p (.bin .shl)), [(.t 105), (.c (.int .u64 (.ofNat 12)))], none⟩,
    ⟨(some 107), none, (.p (.bin .or)), [(.t 102), (.t 106)], none⟩,
    ⟨(some 108), none, (.p .mv), [(.t 11)], none⟩,
    ⟨(some 109), none, (.p (.bin .and)), [(.t 108), (.c (.int .u8 (.ofNat 63)))], none⟩,
    ⟨(some 110), none, (.p (.toInt .i32)), [(.t 109)], none⟩,
    ⟨(some 111), none, (.p (.bin .shl)), [(.t 110), (.c (.int .u64 (.ofNat 6)))], none⟩,
    ⟨(some 112), none, (.p (.bin .or)), [(.t 107), (.t 111)], none⟩,
    ⟨(some 113), none, (.p .mv), [(.t 12)], none⟩,
    ⟨(some 114), none, (.p (.bin .and)), [(.t 113), (.c (.int .u8 (.ofNat 63)))], none⟩,
    ⟨(some 115), none, (.p (.toInt .i32)), [(.t 114)], none⟩,
    ⟨(some 116), none, (.p (.bin .or)), [(.t 112), (.t 115)], none⟩,
    ⟨(some 2), none, (.p .mv), [(.t 116)], none⟩,
    ⟨(some 3), none, (.p .mv), [(.c (.int .i64 (.ofNat 4)))], none⟩])
  (.keep [2, 3] (.keep [2, 3] .ret))))))))))))))))))))))))))))))))))))),
  [(.t 2), (.t 3)]⟩
def s191 (call : CallK) (N : Nat) (a0 : V) (H : Heap) (τ : Tape) (q : KV) : Ans :=
  someK (pLenS [a0]) fun v0 =>
  binK .lss v0 (.int .i64 (.ofNat 1)) fun v1 =>
  condK v1
    (q (.tup [(.int .i32 (.ofNat 65533)), (.int .i64 (.ofNat 0))]) H τ)
    (someK (pStrIndex [a0, (.int .i64 (.ofNat 0))]) fun v2 =>
  someK (pArrIdx 256 1 [(.ptr 8 0), v2]) fun v3 =>
  someK (lLoad1 [v3] H) fun v4 =>
  binK .geq v4 (.int .u8 (.ofNat 240)) fun v5 =>
  condK v5
    (toIntK .i32 v4 fun v6 =>
  binK .shl v6 (.int .u64 (.ofNat 31)) fun v7 =>
  binK .shr v7 (.int .u64 (.ofNat 31)) fun v8 =>
  someK (pStrIndex [a0, (.int .i64 (.ofNat 0))]) fun v9 =>
  toIntK .i32 v9 fun v10 =>
  binK .andNot v10 v8 fun v11 =>
  binK .and (.int .i32 (.ofNat 65533)) v8 fun v12 =>
  binK .or v11 v12 fun v13 =>
  q (.tup [v13, (.int .i64 (.ofNat 1))]) H τ)
    (binK .and v4 (.int .u8 (.ofNat 7)) fun v14 =>
  toIntK .i64 v14 fun v15 =>
  binK .shr v4 (.int .u64 (.ofNat 4)) fun v16 =>
  someK (pArrIdx 16 2 [(.ptr 9 0), v16]) fun v17 =>
  someK (lLoadN 2 [v17] H) fun v18 =>
  effK (eAlloc [(.int .u8 (.ofNat 0)), (.int .u8 (.ofNat 0))] [] H τ) fun v19 H20 τ21 =>
  effK (eStore 2 [v19, v18] H20 τ21) fun v22 H23 τ24 =>
  binK .lss v0 v15 fun v25 =>
  condK v25
    (q (.tup [(.int .i32 (.ofNat 65533)), (.int .i64 (.ofNat 1))]) H23 τ24)
    (someK (pStrIndex [a0, (.int .i64 (.ofNat 1))]) fun v26 =>
  someK (pFieldAddr 0 [v19]) fun v27 =>
  someK (lLoad1 [v27] H23) fun v28 =>
  binK .lss v26 v28 fun v29 =>
  gK v29 false (fun q' => someK (pFieldAddr 1 [v19]) fun v => q' v H23 τ24) H23 τ24 fun v30 H31 τ32 =>
  gK v29 false (fun q' => someK (lLoad1 [v30] H31) fun v => q' v H31 τ32) H31 τ32 fun v33 H34 τ35 =>
  gK v29 false (fun q' => q' v26 H34 τ35) H34 τ35 fun v36 H37 τ38 =>
  gK v29 false (fun q' => binK .lss v33 v36 fun v => q' v H37 τ38) H37 τ38 fun v39 H40 τ41 =>
  someK (pPick [v29, (.bool true), v39]) fun v42 =>
  condK v42
    (q (.tup [(.int .i32 (.ofNat 65533)), (.int .i64 (.ofNat 1))]) H40 τ41)
    (binK .leq v15 (.int .i64 (.ofNat 2)) fun v43 =>
  condK v43
    (binK .and v2 (.int .u8 (.ofNat 31)) fun v44 =>
  toIntK .i32 v44 fun v45 =>
  binK .shl v45 (.int .u64 (.ofNat 6)) fun v46 =>
  binK .and v26 (.int .u8 (.ofNat 63)) fun v47 =>
  toIntK .i32 v47 fun v48 =>
  binK .or v46 v48 fun v49 =>
  q (.tup [v49, (.int .i64 (.ofNat 2))]) H40 τ41)
    (someK (pStrIndex [a0, (.int .i64 (.ofNat 2))]) fun v50 =>
  binK .lss v50 (.int .u8 (.ofNat 128)) fun v51 =>
  gK v51 false (fun q' => q' v50 H40 τ41) H40 τ41 fun v52 H53 τ54 =>
  gK v51 false (fun q' => binK .lss (.int .u8 (.ofNat 191)) v52 fun v => q' v H53 τ54) H53 τ54 fun v55 H56 τ57 =>
  someK (pPick [v51, (.bool true), v55]) fun v58 =>
  condK v58
    (q (.tup [(.int .i32 (.ofNat 65533)), (.int .i64 (.ofNat 1))]) H56 τ57)
    (binK .leq v15 (.int .i64 (.ofNat 3)) fun v59 =>
  condK v59
    (binK .and v2 (.int .u8 (.ofNat 15)) fun v60 =>
  toIntK .i32 v60 fun v61 =>
  binK .shl v61 (.int .u64 (.ofNat 12)) fun v62 =>
  binK .and v26 (.int .u8 (.ofNat 63)) fun v63 =>
  toIntK .i32 v63 fun v64 =>
  binK .shl v64 (.int .u64 (.ofNat 6)) fun v65 =>
  binK .or v62 v65 fun v66 =>
  binK .and v50 (.int .u8 (.ofNat 63)) fun v67 =>
  toIntK .i32 v67 fun v68 =>
  binK .or v66 v68 fun v69 =>
  q (.tup [v69, (.int .i64 (.ofNat 3))]) H56 τ57)
    (someK (pStrIndex [a0, (.int .i64 (.ofNat 3))]) fun v70 =>
  binK .lss v70 (.int .u8 (.ofNat 128)) fun v71 =>
  gK v71 false (fun q' => q' v70 H56 τ57) H56 τ57 fun v72 H73 τ74 =>
  gK v71 false (fun q' => binK .lss (.int .u8 (.ofNat 191)) v72 fun v => q' v H73 τ74) H73 τ74 fun v75 H76 τ77 =>
  someK (pPick [v71, (.bool true), v75]) fun v78 =>
  condK v78
    (q (.tup [(.int .i32 (.ofNat 65533)), (.int .i64 (.ofNat 1))]) H76 τ77)
    (binK .and v2 (.int .u8 (.ofNat 7)) fun v79 =>
  toIntK .i32 v79 fun v80 =>
  binK .shl v80 (.int .u64 (.ofNat 18)) fun v81 =>
  binK .and v26 (.int .u8 (.ofNat 63)) fun v82 =>
  toIntK .i32 v82 fun v83 =>
  binK .shl v83 (.int .u64 (.ofNat 12)) fun v84 =>
  binK .or v81 v84 fun v85 =>
  binK .and v50 (.int .u8 (.ofNat 63)) fun v86 =>
  toIntK .i32 v86 fun v87 =>
  binK .shl v87 (.int .u64 (.ofNat 6)) fun v88 =>
  binK .or v85 v88 fun v89 =>
  binK .and v70 (.int .u8 (.ofNat 63)) fun v90 =>
  toIntK .i32 v90 fun v91 =>
  binK .or v89 v91 fun v92 =>
  q (.tup [v92, (.int .i64 (.ofNat 4))]) H76 τ77))))))))
theorem s191_eq (call : CallK) (N : Nat) (a0 : V) (H : Heap) (τ : Tape) (q : KV) : s191 call N a0 H τ q = funK call N fn191 [a0] H τ q := by kernel_rfl
def e191 (call : CallK) (N : Nat) (vs : List V) (H : Heap) (τ : Tape) (q : KV) : Ans := match vs with | [a0] => s191 call N a0 H τ q | _ => none
theorem e191_ok : EntOk fn191 e191 := by
  intro call N vs H τ q r h
  unfold e191 at h
  split at h
  · rw [s191_eq] at h; exact h
  · cases h
theorem e191_nat : EntNat e191 := by
  intro c hn N vs H τ q
  unfold e191
  split
  · rw [s191_eq, s191_eq]; exact funK_ent hn _ _ _ _ _ _
  · rfl
/-- unicode/utf8.RuneStart -/
def fn192 : Fun := ⟨1,
  (.seq (.reg [⟨(some 2), none, (.p .mv), [(.c (.bool false))], none⟩])
  (.keep [0] (.seq (.reg [⟨(some 3), none, (.p .mv), [(.t 0)], none⟩,
    ⟨(some 4), none, (.p (.bin .and)), [(.t 3), (.c (.int .u8 (.ofNat 192)))], none⟩,
    ⟨(some 5), none, (.p (.bin .neq)), [(.t 4), (.c (.int .u8 (.ofNat 128)))], none⟩,
    ⟨(some 2), none, (.p .mv), [(.t 5)], none⟩])
  (.keep [2] (.keep [2] .ret))))),
  [(.t 2)]⟩
def s192 (call : CallK) (N : Nat) (a0 : V) (H : Heap) (τ : Tape) (q : KV) : Ans :=
  binK .and a0 (.int .u8 (.ofNat 192)) fun v0 =>
  binK .neq v0 (.int .u8 (.ofNat 128)) fun v1 =>
  q v1 H τ
theorem s192_eq (call : CallK) (N : Nat) (a0 : V) (H : Heap) (τ : Tape) (q : KV) : s192 call N a0 H τ q = funK call N fn192 [a0] H τ q := by kernel_rfl
def e192 (call : CallK) (N : Nat) (vs : List V) (H : Heap) (τ : Tape) (q : KV) : Ans := match vs with | [a0] => s192 call N a0 H τ q | _ => none
theorem e192_ok : EntOk fn192 e192 := by
  intro call N vs H τ q r h
  unfold e192 at h
  split at h
  · rw [s192_eq] at h; exact h
  · cases h
theorem e192_nat : EntNat e192 := by
  intro c hn N vs H τ q
  unfold e192
  split
  · rw [s192_eq, s192_eq]; exact funK_ent hn _ _ _ _ _ _
  · rfl
def tabF : T Def := (.node none (.node none (.node none (.node none (.node none (.node (some (.fn fn31)) (.node none (.node (some (.fn fn127)) .leaf .leaf) (.node (some (.fn fn191)) .leaf .leaf)) (.node (some (.fn fn95)) .leaf .leaf)) (.node none (.node (some (.fn fn79)) (.node (some (.fn fn143)) .leaf .leaf) .leaf) .leaf)) (.node none (.node none .leaf (.node (some (.fn fn103)) .leaf .leaf)) .leaf)) (.node none (.node none (.node (some (.fn fn35)) (.node none (.node (some (.prim idxP)) .leaf .leaf) .leaf) .leaf) .leaf) (.node none (.node none .leaf (.node none (.node (some (.fn fn171)) .leaf .leaf) .leaf)) (.node none (.node (some (.fn fn91)) .leaf .leaf) .leaf)))) (.node (some (.fn fn5)) (.node none (.node none (.node (some (.fn fn33)) .leaf .leaf) (.node none (.node (some (.fn fn81)) (.node (some (.fn fn145)) .leaf .leaf) .leaf) (.node (some (.prim joinP)) .leaf .leaf))) (.node none (.node none .leaf (.node (some (.fn fn105)) .leaf .leaf)) (.node none .leaf (.node (some (.fn fn121)) .leaf .leaf)))) (.node none (.node none .leaf (.node (some (.fn fn53)) .leaf .leaf)) (.node (some (.fn fn29)) (.node none (.node none (.node (some (.fn fn141)) .leaf .leaf) .leaf) (.node none (.node (some (.fn fn173)) .leaf .leaf) .leaf)) (.node (some (.fn fn61)) .leaf .leaf))))) (.node none (.node none (.node none (.node none (.node (some (.prim closedP)) (.node none (.node (some (.fn fn128)) .leaf .leaf) (.node (some (.fn fn192)) .leaf .leaf)) .leaf) (.node none (.node (some (.fn fn80)) (.node (some (.fn fn144)) .leaf .leaf) .leaf) (.node (some (.fn fn112)) .leaf .leaf))) (.node none .leaf (.node none .leaf (.node (some (.fn fn120)) .leaf .leaf)))) (.node none .leaf (.node (some (.fn fn28)) (.node none (.node none (.node (some (.fn fn140)) .leaf .leaf) .leaf) (.node none (.node (some (.fn fn172)) .leaf .leaf) .leaf)) (.node none (.node (some (.fn fn92)) .leaf .leaf) .leaf)))) (.node (some (.fn fn6)) (.node none (.node none (.node (some (.fn fn34)) (.node none (.node (some (.fn fn130)) .leaf .leaf) .leaf) (.node none (.node (some (.fn fn162)) .leaf .leaf) .leaf)) (.node none (.node none (.node (some (.fn fn146)) .leaf .leaf) .leaf) (.node (some (.fn fn114)) .leaf .leaf))) (.node none .leaf (.node none .leaf (.node none (.node (some (.fn fn186)) .leaf .leaf) .leaf)))) (.node (some (.fn fn14)) (.node none (.node none .leaf (.node (some (.fn fn102)) .leaf .leaf)) .leaf) (.node (some (.fn fn30)) (.node none (.node (some (.fn fn78)) (.node (some (.fn fn142)) .leaf .leaf) .leaf) .leaf) (.node (some (.fn fn62)) .leaf .leaf))))))
def tabE : T Ent := (.node none (.node none (.node none (.node none (.node none (.node (some e31) (.node none (.node (some e127) .leaf .leaf) (.node (some e191) .leaf .leaf)) (.node (some e95) .leaf .leaf)) (.node none (.node (some e79) (.node (some e143) .leaf .leaf) .leaf) .leaf)) (.node none (.node none .leaf (.node (some e103) .leaf .leaf)) .leaf)) (.node none (.node none (.node (some e35) (.node none (.node (some (PrimEnt idxP)) .leaf .leaf) .leaf) .leaf) .leaf) (.node none (.node none .leaf (.node none (.node (some e171) .leaf .leaf) .leaf)) (.node none (.node (some e91) .leaf .leaf) .leaf)))) (.node (some e5) (.node none (.node none (.node (some e33) .leaf .leaf) (.node none (.node (some e81) (.node (some e145) .leaf .leaf) .leaf) (.node (some (PrimEnt joinP)) .leaf .leaf))) (.node none (.node none .leaf (.node (some e105) .leaf .leaf)) (.node none .leaf (.node (some e121) .leaf .leaf)))) (.node none (.node none .leaf (.node (some e53) .leaf .leaf)) (.node (some e29) (.node none (.node none (.node (some e141) .leaf .leaf) .leaf) (.node none (.node (some e173) .leaf .leaf) .leaf)) (.node (some e61) .leaf .leaf))))) (.node none (.node none (.node none (.node none (.node (some (PrimEnt closedP)) (.node none (.node (some e128) .leaf .leaf) (.node (some e192) .leaf .leaf)) .leaf) (.node none (.node (some e80) (.node (some e144) .leaf .leaf) .leaf) (.node (some e112) .leaf .leaf))) (.node none .leaf (.node none .leaf (.node (some e120) .leaf .leaf)))) (.node none .leaf (.node (some e28) (.node none (.node none (.node (some e140) .leaf .leaf) .leaf) (.node none (.node (some e172) .leaf .leaf) .leaf)) (.node none (.node (some e92) .leaf .leaf) .leaf)))) (.node (some e6) (.node none (.node none (.node (some e34) (.node none (.node (some e130) .leaf .leaf) .leaf) (.node none (.node (some e162) .leaf .leaf) .leaf)) (.node none (.node none (.node (some e146) .leaf .leaf) .leaf) (.node (some e114) .leaf .leaf))) (.node none .leaf (.node none .leaf (.node none (.node (some e186) .leaf .leaf) .leaf)))) (.node (some e14) (.node none (.node none .leaf (.node (some e102) .leaf .leaf)) .leaf) (.node (some e30) (.node none (.node (some e78) (.node (some e142) .leaf .leaf) .leaf) .leaf) (.node (some e62) .leaf .leaf))))))
theorem tab_ok (N : Nat) : TabOk tabF.get N (tabOf tabE N) := tabOf_okP (E := tabE) (F := tabF) N fun f e h => T.All_get (t := tabE) (P := fun f e => (∃ fn, tabF.get f = some (.fn fn) ∧ EntOk fn e) ∨ (∃ p, tabF.get f = some (.prim p) ∧ e = PrimEnt p)) (.intro trivial (.intro (.intro trivial (.intro (.intro trivial (.intro (.intro trivial (.intro (.intro trivial (.intro (.intro (.inl ⟨fn31, rfl, e31_ok⟩) (.intro (.intro trivial (.intro (.intro (.inl ⟨fn127, rfl, e127_ok⟩) (.intro trivial trivial)) (.intro (.inl ⟨fn191, rfl, e191_ok⟩) (.intro trivial trivial)))) (.intro (.inl ⟨fn95, rfl, e95_ok⟩) (.intro trivial trivial)))) (.intro trivial (.intro (.intro (.inl ⟨fn79, rfl, e79_ok⟩) (.intro (.intro (.inl ⟨fn143, rfl, e143_ok⟩) (.intro trivial trivial)) trivial)) trivial)))) (.intro trivial (.intro (.intro trivial (.intro trivial (.intro (.inl ⟨fn103, rfl, e103_ok⟩) (.intro trivial trivial)))) trivial)))) (.intro trivial (.intro (.intro trivial (.intro (.intro (.inl ⟨fn35, rfl, e35_ok⟩) (.intro (.intro trivial (.intro (.intro (.inr ⟨idxP, rfl, rfl⟩) (.intro trivial trivial)) trivial)) trivial)) trivial)) (.intro trivial (.intro (.intro trivial (.intro trivial (.intro trivial (.intro (.intro (.inl ⟨fn171, rfl, e171_ok⟩) (.intro trivial trivial)) trivial)))) (.intro trivial (.intro (.intro (.inl ⟨fn91, rfl, e91_ok⟩) (.intro trivial trivial)) trivial)))))))) (.intro (.inl ⟨fn5, rfl, e5_ok⟩) (.intro (.intro trivial (.intro (.intro trivial (.intro (.intro (.inl ⟨fn33, rfl, e33_ok⟩) (.intro trivial trivial)) (.intro trivial (.intro (.intro (.inl ⟨fn81, rfl, e81_ok⟩) (.intro (.intro (.inl ⟨fn145, rfl, e145_ok⟩) (.intro trivial trivial)) trivial)) (.intro (.inr ⟨joinP, rfl, rfl⟩) (.intro trivial trivial)))))) (.intro trivial (.intro (.intro trivial (.intro trivial (.intro (.inl ⟨fn105, rfl, e105_ok⟩) (.intro trivial trivial)))) (.intro trivial (.intro trivial (.intro (.inl ⟨fn121, rfl, e121_ok⟩) (.intro trivial trivial)))))))) (.intro trivial (.intro (.intro trivial (.intro trivial (.intro (.inl ⟨fn53, rfl, e53_ok⟩) (.intro trivial trivial)))) (.intro (.inl ⟨fn29, rfl, e29_ok⟩) (.intro (.intro trivial (.intro (.intro trivial (.intro (.intro (.inl ⟨fn141, rfl, e141_ok⟩) (.intro trivial trivial)) trivial)) (.intro trivial (.intro (.intro (.inl ⟨fn173, rfl, e173_ok⟩) (.intro trivial trivial)) trivial)))) (.intro (.inl ⟨fn61, rfl, e61_ok⟩) (.intro trivial trivial)))))))))) (.intro trivial (.intro (.intro trivial (.intro (.intro trivial (.intro (.intro trivial (.intro (.intro (.inr ⟨closedP, rfl, rfl⟩) (.intro (.intro trivial (.intro (.intro (.inl ⟨fn128, rfl, e128_ok⟩) (.intro trivial trivial)) (.intro (.inl ⟨fn192, rfl, e192_ok⟩) (.intro trivial trivial)))) trivial)) (.intro trivial (.intro (.intro (.inl ⟨fn80, rfl, e80_ok⟩) (.intro (.intro (.inl ⟨fn144, rfl, e144_ok⟩) (.intro trivial trivial)) trivial)) (.intro (.inl ⟨fn112, rfl, e112_ok⟩) (.intro trivial trivial)))))) (.intro trivial (.intro trivial (.intro trivial (.intro trivial (.intro (.inl ⟨fn120, rfl, e120_ok⟩) (.intro trivial trivial)))))))) (.intro trivial (.intro trivial (.intro (.inl ⟨fn28, rfl, e28_ok⟩) (.intro (.intro trivial (.intro (.intro trivial (.intro (.intro (.inl ⟨fn140, rfl, e140_ok⟩) (.intro trivial trivial)) trivial)) (.intro trivial (.intro (.intro (.inl ⟨fn172, rfl, e172_ok⟩) (.intro trivial trivial)) trivial)))) (.intro trivial (.intro (.intro (.inl ⟨fn92, rfl, e92_ok⟩) (.intro trivial trivial)) trivial)))))))) (.intro (.inl ⟨fn6, rfl, e6_ok⟩) (.intro (.intro trivial (.intro (.intro trivial (.intro (.intro (.inl ⟨fn34, rfl, e34_ok⟩) (.intro (.intro trivial (.intro (.intro (.inl ⟨fn130, rfl, e130_ok⟩) (.intro trivial trivial)) trivial)) (.intro trivial (.intro (.intro (.inl ⟨fn162, rfl, e162_ok⟩) (.intro trivial trivial)) trivial)))) (.intro trivial (.intro (.intro trivial (.intro (.intro (.inl ⟨fn146, rfl, e146_ok⟩) (.intro trivial trivial)) trivial)) (.intro (.inl ⟨fn114, rfl, e114_ok⟩) (.intro trivial trivial)))))) (.intro trivial (.intro trivial (.intro trivial (.intro trivial (.intro trivial (.intro (.intro (.inl ⟨fn186, rfl, e186_ok⟩) (.intro trivial trivial)) trivial)))))))) (.intro (.inl ⟨fn14, rfl, e14_ok⟩) (.intro (.intro trivial (.intro (.intro trivial (.intro trivial (.intro (.inl ⟨fn102, rfl, e102_ok⟩) (.intro trivial trivial)))) trivial)) (.intro (.inl ⟨fn30, rfl, e30_ok⟩) (.intro (.intro trivial (.intro (.intro (.inl ⟨fn78, rfl, e78_ok⟩) (.intro (.intro (.inl ⟨fn142, rfl, e142_ok⟩) (.intro trivial trivial)) trivial)) trivial)) (.intro (.inl ⟨fn62, rfl, e62_ok⟩) (.intro trivial trivial)))))))))))) h
theorem tab_nat (N d : Nat) : CallNat (callK (tabOf tabE N) d) := callK_nat N (fun f e h => T.All_get (t := tabE) (P := fun _ e => EntNat e) (.intro trivial (.intro (.intro trivial (.intro (.intro trivial (.intro (.intro trivial (.intro (.intro trivial (.intro (.intro e31_nat (.intro (.intro trivial (.intro (.intro e127_nat (.intro trivial trivial)) (.intro e191_nat (.intro trivial trivial)))) (.intro e95_nat (.intro trivial trivial)))) (.intro trivial (.intro (.intro e79_nat (.intro (.intro e143_nat (.intro trivial trivial)) trivial)) trivial)))) (.intro trivial (.intro (.intro trivial (.intro trivial (.intro e103_nat (.intro trivial trivial)))) trivial)))) (.intro trivial (.intro (.intro trivial (.intro (.intro e35_nat (.intro (.intro trivial (.intro (.intro (PrimEnt_nat idxP) (.intro trivial trivial)) trivial)) trivial)) trivial)) (.intro trivial (.intro (.intro trivial (.intro trivial (.intro trivial (.intro (.intro e171_nat (.intro trivial trivial)) trivial)))) (.intro trivial (.intro (.intro e91_nat (.intro trivial trivial)) trivial)))))))) (.intro e5_nat (.intro (.intro trivial (.intro (.intro trivial (.intro (.intro e33_nat (.intro trivial trivial)) (.intro trivial (.intro (.intro e81_nat (.intro (.intro e145_nat (.intro trivial trivial)) trivial)) (.intro (PrimEnt_nat joinP) (.intro trivial trivial)))))) (.intro trivial (.intro (.intro trivial (.intro trivial (.intro e105_nat (.intro trivial trivial)))) (.intro trivial (.intro trivial (.intro e121_nat (.intro trivial trivial)))))))) (.intro trivial (.intro (.intro trivial (.intro trivial (.intro e53_nat (.intro trivial trivial)))) (.intro e29_nat (.intro (.intro trivial (.intro (.intro trivial (.intro (.intro e141_nat (.intro trivial trivial)) trivial)) (.intro trivial (.intro (.intro e173_nat (.intro trivial trivial)) trivial)))) (.intro e61_nat (.intro trivial trivial)))))))))) (.intro trivial (.intro (.intro trivial (.intro (.intro trivial (.intro (.intro trivial (.intro (.intro (PrimEnt_nat closedP) (.intro (.intro trivial (.intro (.intro e128_nat (.intro trivial trivial)) (.intro e192_nat (.intro trivial trivial)))) trivial)) (.intro trivial (.intro (.intro e80_nat (.intro (.intro e144_nat (.intro trivial trivial)) trivial)) (.intro e112_nat (.intro trivial trivial)))))) (.intro trivial (.intro trivial (.intro trivial (.intro trivial (.intro e120_nat (.intro trivial trivial)))))))) (.intro trivial (.intro trivial (.intro e28_nat (.intro (.intro trivial (.intro (.intro trivial (.intro (.intro e140_nat (.intro trivial trivial)) trivial)) (.intro trivial (.intro (.intro e172_nat (.intro trivial trivial)) trivial)))) (.intro trivial (.intro (.intro e92_nat (.intro trivial trivial)) trivial)))))))) (.intro e6_nat (.intro (.intro trivial (.intro (.intro trivial (.intro (.intro e34_nat (.intro (.intro trivial (.intro (.intro e130_nat (.intro trivial trivial)) trivial)) (.intro trivial (.intro (.intro e162_nat (.intro trivial trivial)) trivial)))) (.intro trivial (.intro (.intro trivial (.intro (.intro e146_nat (.intro trivial trivial)) trivial)) (.intro e114_nat (.intro trivial trivial)))))) (.intro trivial (.intro trivial (.intro trivial (.intro trivial (.intro trivial (.intro (.intro e186_nat (.intro trivial trivial)) trivial)))))))) (.intro e14_nat (.intro (.intro trivial (.intro (.intro trivial (.intro trivial (.intro e102_nat (.intro trivial trivial)))) trivial)) (.intro e30_nat (.intro (.intro trivial (.intro (.intro e78_nat (.intro (.intro e142_nat (.intro trivial trivial)) trivial)) trivial)) (.intro e62_nat (.intro trivial trivial)))))))))))) h) d
def tabFk : T Def := (.node none (.node none (.node none (.node none (.node none (.node (some (.fn fn31)) (.node none (.node (some (.fn fn127)) .leaf .leaf) (.node (some (.fn fn191)) .leaf .leaf)) (.node (some (.fn fn95)) .leaf .leaf)) (.node none (.node (some (.fn fn79)) (.node (some (.fn fn143)) .leaf .leaf) .leaf) .leaf)) (.node none (.node none .leaf (.node (some (.fn fn103)) .leaf .leaf)) .leaf)) (.node none (.node none (.node (some (.fn fn35)) (.node none (.node (some (.prim idxP)) .leaf .leaf) .leaf) .leaf) .leaf) (.node none (.node none .leaf (.node none (.node (some (.fn fn171)) .leaf .leaf) .leaf)) (.node none (.node (some (.fn fn91)) .leaf .leaf) .leaf)))) (.node none (.node none (.node none .leaf (.node none (.node (some (.fn fn81)) (.node (some (.fn fn145)) .leaf .leaf) .leaf) (.node (some (.prim joinP)) .leaf .leaf))) (.node none (.node none .leaf (.node (some (.fn fn105)) .leaf .leaf)) (.node none .leaf (.node (some (.fn fn121)) .leaf .leaf)))) (.node none (.node none .leaf (.node (some (.fn fn53)) .leaf .leaf)) (.node (some (.fn fn29)) (.node none (.node none (.node (some (.fn fn141)) .leaf .leaf) .leaf) (.node none (.node (some (.fn fn173)) .leaf .leaf) .leaf)) (.node (some (.fn fn61)) .leaf .leaf))))) (.node none (.node none (.node none (.node none (.node (some (.fn fn32)) (.node none (.node (some (.fn fn128)) .leaf .leaf) (.node (some (.fn fn192)) .leaf .leaf)) .leaf) (.node none (.node (some (.fn fn80)) (.node (some (.fn fn144)) .leaf .leaf) .leaf) (.node (some (.fn fn112)) .leaf .leaf))) (.node none .leaf (.node none .leaf (.node (some (.fn fn120)) .leaf .leaf)))) (.node none .leaf (.node none (.node none (.node none (.node (some (.fn fn140)) .leaf .leaf) .leaf) (.node none (.node (some (.fn fn172)) .leaf .leaf) .leaf)) (.node none (.node (some (.fn fn92)) .leaf .leaf) .leaf)))) (.node none (.node none (.node none (.node none (.node none (.node (some (.fn fn130)) .leaf .leaf) .leaf) (.node none (.node (some (.fn fn162)) .leaf .leaf) .leaf)) (.node none (.node none (.node (some (.fn fn146)) .leaf .leaf) .leaf) (.node (some (.fn fn114)) .leaf .leaf))) (.node none .leaf (.node none .leaf (.node none (.node (some (.fn fn186)) .leaf .leaf) .leaf)))) (.node none (.node none (.node none .leaf (.node (some (.fn fn102)) .leaf .leaf)) .leaf) (.node (some (.fn fn30)) (.node none (.node (some (.fn fn78)) (.node (some (.fn fn142)) .leaf .leaf) .leaf) .leaf) (.node (some (.fn fn62)) .leaf .leaf))))))
def tabEk : T Ent := (.node none (.node none (.node none (.node none (.node none (.node (some e31) (.node none (.node (some e127) .leaf .leaf) (.node (some e191) .leaf .leaf)) (.node (some e95) .leaf .leaf)) (.node none (.node (some e79) (.node (some e143) .leaf .leaf) .leaf) .leaf)) (.node none (.node none .leaf (.node (some e103) .leaf .leaf)) .leaf)) (.node none (.node none (.node (some e35) (.node none (.node (some (PrimEnt idxP)) .leaf .leaf) .leaf) .leaf) .leaf) (.node none (.node none .leaf (.node none (.node (some e171) .leaf .leaf) .leaf)) (.node none (.node (some e91) .leaf .leaf) .leaf)))) (.node none (.node none (.node none .leaf (.node none (.node (some e81) (.node (some e145) .leaf .leaf) .leaf) (.node (some (PrimEnt joinP)) .leaf .leaf))) (.node none (.node none .leaf (.node (some e105) .leaf .leaf)) (.node none .leaf (.node (some e121) .leaf .leaf)))) (.node none (.node none .leaf (.node (some e53) .leaf .leaf)) (.node (some e29) (.node none (.node none (.node (some e141) .leaf .leaf) .leaf) (.node none (.node (some e173) .leaf .leaf) .leaf)) (.node (some e61) .leaf .leaf))))) (.node none (.node none (.node none (.node none (.node (some e32) (.node none (.node (some e128) .leaf .leaf) (.node (some e192) .leaf .leaf)) .leaf) (.node none (.node (some e80) (.node (some e144) .leaf .leaf) .leaf) (.node (some e112) .leaf .leaf))) (.node none .leaf (.node none .leaf (.node (some e120) .leaf .leaf)))) (.node none .leaf (.node none (.node none (.node none (.node (some e140) .leaf .leaf) .leaf) (.node none (.node (some e172) .leaf .leaf) .leaf)) (.node none (.node (some e92) .leaf .leaf) .leaf)))) (.node none (.node none (.node none (.node none (.node none (.node (some e130) .leaf .leaf) .leaf) (.node none (.node (some e162) .leaf .leaf) .leaf)) (.node none (.node none (.node (some e146) .leaf .leaf) .leaf) (.node (some e114) .leaf .leaf))) (.node none .leaf (.node none .leaf (.node none (.node (some e186) .leaf .leaf) .leaf)))) (.node none (.node none (.node none .leaf (.node (some e102) .leaf .leaf)) .leaf) (.node (some e30) (.node none (.node (some e78) (.node (some e142) .leaf .leaf) .leaf) .leaf) (.node (some e62) .leaf .leaf))))))
theorem tabk_ok (N : Nat) : TabOk tabFk.get N (tabOf tabEk N) := tabOf_okP (E := tabEk) (F := tabFk) N fun f e h => T.All_get (t := tabEk) (P := fun f e => (∃ fn, tabFk.get f = some (.fn fn) ∧ EntOk fn e) ∨ (∃ p, tabFk.get f = some (.prim p) ∧ e = PrimEnt p)) (.intro trivial (.intro (.intro trivial (.intro (.intro trivial (.intro (.intro trivial (.intro (.intro trivial (.intro (.intro (.inl ⟨fn31, rfl, e31_ok⟩) (.intro (.intro trivial (.intro (.intro (.inl ⟨fn127, rfl, e127_ok⟩) (.intro trivial trivial)) (.intro (.inl ⟨fn191, rfl, e191_ok⟩) (.intro trivial trivial)))) (.intro (.inl ⟨fn95, rfl, e95_ok⟩) (.intro trivial trivial)))) (.intro trivial (.intro (.intro (.inl ⟨fn79, rfl, e79_ok⟩) (.intro (.intro (.inl ⟨fn143, rfl, e143_ok⟩) (.intro trivial trivial)) trivial)) trivial)))) (.intro trivial (.intro (.intro trivial (.intro trivial (.intro (.inl ⟨fn103, rfl, e103_ok⟩) (.intro trivial trivial)))) trivial)))) (.intro trivial (.intro (.intro trivial (.intro (.intro (.inl ⟨fn35, rfl, e35_ok⟩) (.intro (.intro trivial (.intro (.intro (.inr ⟨idxP, rfl, rfl⟩) (.intro trivial trivial)) trivial)) trivial)) trivial)) (.intro trivial (.intro (.intro trivial (.intro trivial (.intro trivial (.intro (.intro (.inl ⟨fn171, rfl, e171_ok⟩) (.intro trivial trivial)) trivial)))) (.intro trivial (.intro (.intro (.inl ⟨fn91, rfl, e91_ok⟩) (.intro trivial trivial)) trivial)))))))) (.intro trivial (.intro (.intro trivial (.intro (.intro trivial (.intro trivial (.intro trivial (.intro (.intro (.inl ⟨fn81, rfl, e81_ok⟩) (.intro (.intro (.inl ⟨fn145, rfl, e145_ok⟩) (.intro trivial trivial)) trivial)) (.intro (.inr ⟨joinP, rfl, rfl⟩) (.intro trivial trivial)))))) (.intro trivial (.intro (.intro trivial (.intro trivial (.intro (.inl ⟨fn105, rfl, e105_ok⟩) (.intro trivial trivial)))) (.intro trivial (.intro trivial (.intro (.inl ⟨fn121, rfl, e121_ok⟩) (.intro trivial trivial)))))))) (.intro trivial (.intro (.intro trivial (.intro trivial (.intro (.inl ⟨fn53, rfl, e53_ok⟩) (.intro trivial trivial)))) (.intro (.inl ⟨fn29, rfl, e29_ok⟩) (.intro (.intro trivial (.intro (.intro trivial (.intro (.intro (.inl ⟨fn141, rfl, e141_ok⟩) (.intro trivial trivial)) trivial)) (.intro trivial (.intro (.intro (.inl ⟨fn173, rfl, e173_ok⟩) (.intro trivial trivial)) trivial)))) (.intro (.inl ⟨fn61, rfl, e61_ok⟩) (.intro trivial trivial)))))))))) (.intro trivial (.intro (.intro trivial (.intro (.intro trivial (.intro (.intro trivial (.intro (.intro (.inl ⟨fn32, rfl, e32_ok⟩) (.intro (.intro trivial (.intro (.intro (.inl ⟨fn128, rfl, e128_ok⟩) (.intro trivial trivial)) (.intro (.inl ⟨fn192, rfl, e192_ok⟩) (.intro trivial trivial)))) trivial)) (.intro trivial (.intro (.intro (.inl ⟨fn80, rfl, e80_ok⟩) (.intro (.intro (.inl ⟨fn144, rfl, e144_ok⟩) (.intro trivial trivial)) trivial)) (.intro (.inl ⟨fn112, rfl, e112_ok⟩) (.intro trivial trivial)))))) (.intro trivial (.intro trivial (.intro trivial (.intro trivial (.intro (.inl ⟨fn120, rfl, e120_ok⟩) (.intro trivial trivial)))))))) (.intro trivial (.intro trivial (.intro trivial (.intro (.intro trivial (.intro (.intro trivial (.intro (.intro (.inl ⟨fn140, rfl, e140_ok⟩) (.intro trivial trivial)) trivial)) (.intro trivial (.intro (.intro (.inl ⟨fn172, rfl, e172_ok⟩) (.intro trivial trivial)) trivial)))) (.intro trivial (.intro (.intro (.inl ⟨fn92, rfl, e92_ok⟩) (.intro trivial trivial)) trivial)))))))) (.intro trivial (.intro (.intro trivial (.intro (.intro trivial (.intro (.intro trivial (.intro (.intro trivial (.intro (.intro (.inl ⟨fn130, rfl, e130_ok⟩) (.intro trivial trivial)) trivial)) (.intro trivial (.intro (.intro (.inl ⟨fn162, rfl, e162_ok⟩) (.intro trivial trivial)) trivial)))) (.intro trivial (.intro (.intro trivial (.intro (.intro (.inl ⟨fn146, rfl, e146_ok⟩) (.intro trivial trivial)) trivial)) (.intro (.inl ⟨fn114, rfl, e114_ok⟩) (.intro trivial trivial)))))) (.intro trivial (.intro trivial (.intro trivial (.intro trivial (.intro trivial (.intro (.intro (.inl ⟨fn186, rfl, e186_ok⟩) (.intro trivial trivial)) trivial)))))))) (.intro trivial (.intro (.intro trivial (.intro (.intro trivial (.intro trivial (.intro (.inl ⟨fn102, rfl, e102_ok⟩) (.intro trivial trivial)))) trivial)) (.intro (.inl ⟨fn30, rfl, e30_ok⟩) (.intro (.intro trivial (.intro (.intro (.inl ⟨fn78, rfl, e78_ok⟩) (.intro (.intro (.inl ⟨fn142, rfl, e142_ok⟩) (.intro trivial trivial)) trivial)) trivial)) (.intro (.inl ⟨fn62, rfl, e62_ok⟩) (.intro trivial trivial)))))))))))) h
theorem tabk_nat (N d : Nat) : CallNat (callK (tabOf tabEk N) d) := callK_nat N (fun f e h => T.All_get (t := tabEk) (P := fun _ e => EntNat e) (.intro trivial (.intro (.intro trivial (.intro (.intro trivial (.intro (.intro trivial (.intro (.intro trivial (.intro (.intro e31_nat (.intro (.intro trivial (.intro (.intro e127_nat (.intro trivial trivial)) (.intro e191_nat (.intro trivial trivial)))) (.intro e95_nat (.intro trivial trivial)))) (.intro trivial (.intro (.intro e79_nat (.intro (.intro e143_nat (.intro trivial trivial)) trivial)) trivial)))) (.intro trivial (.intro (.intro trivial (.intro trivial (.intro e103_nat (.intro trivial trivial)))) trivial)))) (.intro trivial (.intro (.intro trivial (.intro (.intro e35_nat (.intro (.intro trivial (.intro (.intro (PrimEnt_nat idxP) (.intro trivial trivial)) trivial)) trivial)) trivial)) (.intro trivial (.intro (.intro trivial (.intro trivial (.intro trivial (.intro (.intro e171_nat (.intro trivial trivial)) trivial)))) (.intro trivial (.intro (.intro e91_nat (.intro trivial trivial)) trivial)))))))) (.intro trivial (.intro (.intro trivial (.intro (.intro trivial (.intro trivial (.intro trivial (.intro (.intro e81_nat (.intro (.intro e145_nat (.intro trivial trivial)) trivial)) (.intro (PrimEnt_nat joinP) (.intro trivial trivial)))))) (.intro trivial (.intro (.intro trivial (.intro trivial (.intro e105_nat (.intro trivial trivial)))) (.intro trivial (.intro trivial (.intro e121_nat (.intro trivial trivial)))))))) (.intro trivial (.intro (.intro trivial (.intro trivial (.intro e53_nat (.intro trivial trivial)))) (.intro e29_nat (.intro (.intro trivial (.intro (.intro trivial (.intro (.intro e141_nat (.intro trivial trivial)) trivial)) (.intro trivial (.intro (.intro e173_nat (.intro trivial trivial)) trivial)))) (.intro e61_nat (.intro trivial trivial)))))))))) (.intro trivial (.intro (.intro trivial (.intro (.intro trivial (.intro (.intro trivial (.intro (.intro e32_nat (.intro (.intro trivial (.intro (.intro e128_nat (.intro trivial trivial)) (.intro e192_nat (.intro trivial trivial)))) trivial)) (.intro trivial (.intro (.intro e80_nat (.intro (.intro e144_nat (.intro trivial trivial)) trivial)) (.intro e112_nat (.intro trivial trivial)))))) (.intro trivial (.intro trivial (.intro trivial (.intro trivial (.intro e120_nat (.intro trivial trivial)))))))) (.intro trivial (.intro trivial (.intro trivial (.intro (.intro trivial (.intro (.intro trivial (.intro (.intro e140_nat (.intro trivial trivial)) trivial)) (.intro trivial (.intro (.intro e172_nat (.intro trivial trivial)) trivial)))) (.intro trivial (.intro (.intro e92_nat (.intro trivial trivial)) trivial)))))))) (.intro trivial (.intro (.intro trivial (.intro (.intro trivial (.intro (.intro trivial (.intro (.intro trivial (.intro (.intro e130_nat (.intro trivial trivial)) trivial)) (.intro trivial (.intro (.intro e162_nat (.intro trivial trivial)) trivial)))) (.intro trivial (.intro (.intro trivial (.intro (.intro e146_nat (.intro trivial trivial)) trivial)) (.intro e114_nat (.intro trivial trivial)))))) (.intro trivial (.intro trivial (.intro trivial (.intro trivial (.intro trivial (.intro (.intro e186_nat (.intro trivial trivial)) trivial)))))))) (.intro trivial (.intro (.intro trivial (.intro (.intro trivial (.intro trivial (.intro e102_nat (.intro trivial trivial)))) trivial)) (.intro e30_nat (.intro (.intro trivial (.intro (.intro e78_nat (.intro (.intro e142_nat (.intro trivial trivial)) trivial)) trivial)) (.intro e62_nat (.intro trivial trivial)))))))))))) h) d
end Go.Am.AmTrydAge
