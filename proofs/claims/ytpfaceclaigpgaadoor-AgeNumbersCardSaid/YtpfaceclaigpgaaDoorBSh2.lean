/- The abstract machine's texts for the law AgeNumbers: printed functions of the program, and what they are shown to be. -/
import Derived.Test.YtpfaceclaigpgaaDoorBSh1
import Derived.KernelRfl
namespace Go.Am.AmTrydAgeNumbers
set_option maxRecDepth 1000000
set_option linter.unusedVariables false
/-- internal/bytealg.hashStr[string] -/
def fn186 : Fun := ⟨1,
  (.seq (.reg [⟨(some 2), none, (.p .mv), [(.c (.int .u32 (.ofNat 0)))], none⟩,
    ⟨(some 3), none, (.p .mv), [(.c (.int .u32 (.ofNat 0)))], none⟩])
  (.keep [0] (.seq (.reg [⟨(some 4), none, (.p .mv), [(.c (.int .u32 (.ofNat 0)))], none⟩])
  (.keep [0, 4] (.seq (.seq (.reg [⟨(some 5), none, (.p .mv), [(.c (.int .i64 (.ofNat 0)))], none⟩])
  (.keep [0, 4, 5] (.block 0
   (.loop
    (.keep [0, 4, 5] (.seq (.seq (.reg [⟨(some 9), none, (.p .mv), [(.t 5)], none⟩,
      ⟨(some 10), none, (.p .mv), [(.t 0)], none⟩,
      ⟨(some 11), none, (.p .lenS), [(.t 10)], none⟩,
      ⟨(some 12), none, (.p (.bin .lss)), [(.t 9), (.t 11)], none⟩])
    (.keep [0, 4, 5, 12] (.cond (.t 12)
     .skip
     (.keep [0, 4] (.exit 0)))))
    (.keep [0, 4, 5] (.seq (.block 1
     (.reg [⟨(some 15), none, (.p .mv), [(.t 4)], none⟩,
       ⟨(some 16), none, (.p (.bin .mul)), [(.t 15), (.c (.int .u32 (.ofNat 16777619)))], none⟩,
       ⟨(some 17), none, (.p .mv), [(.t 0)], none⟩,
       ⟨(some 18), none, (.p .mv), [(.t 5)], none⟩,
       ⟨(some 19), none, (.p .strIndex), [(.t 17), (.t 18)], none⟩,
       ⟨(some 20), none, (.p (.toInt .u32)), [(.t 19)], none⟩,
       ⟨(some 21), none, (.p (.bin .add)), [(.t 16), (.t 20)], none⟩,
       ⟨(some 4), none, (.p .mv), [(.t 21)], none⟩]))
    (.keep [0, 4, 5] (.reg [⟨(some 13), none, (.p .mv), [(.t 5)], none⟩,
      ⟨(some 14), none, (.p (.bin .add)), [(.t 13), (.c (.int .i64 (.ofNat 1)))], none⟩,
      ⟨(some 5), none, (.p .mv), [(.t 14)], none⟩]))))))))))
  (.keep [0, 4] (.seq (.reg [⟨(some 6), none, (.p .mv), [(.c (.int .u32 (.ofNat 1)))], none⟩,
    ⟨(some 7), none, (.p .mv), [(.c (.int .u32 (.ofNat 16777619)))], none⟩])
  (.keep [0, 4, 6, 7] (.seq (.seq (.reg [⟨(some 22), none, (.p .mv), [(.t 0)], none⟩,
    ⟨(some 23), none, (.p .lenS), [(.t 22)], none⟩,
    ⟨(some 8), none, (.p .mv), [(.t 23)], none⟩])
  (.keep [4, 6, 7, 8] (.block 2
   (.loop
    (.keep [4, 6, 7, 8] (.seq (.seq (.reg [⟨(some 24), none, (.p .mv), [(.t 8)], none⟩,
      ⟨(some 25), none, (.p (.bin .gtr)), [(.t 24), (.c (.int .i64 (.ofNat 0)))], none⟩])
    (.keep [4, 6, 7, 8, 25] (.cond (.t 25)
     .skip
     (.keep [4, 6] (.exit 2)))))
    (.keep [4, 6, 7, 8] (.seq (.block 3
     (.seq (.seq (.reg [⟨(some 28), none, (.p .mv), [(.t 8)], none⟩,
       ⟨(some 29), none, (.p (.bin .and)), [(.t 28), (.c (.int .i64 (.ofNat 1)))], none⟩,
       ⟨(some 30), none, (.p (.bin .neq)), [(.t 29), (.c (.int .i64 (.ofNat 0)))], none⟩])
     (.keep [4, 6, 7, 8, 30] (.cond (.t 30)
      (.reg [⟨(some 31), none, (.p .mv), [(.t 6)], none⟩,
        ⟨(some 32), none, (.p .mv), [(.t 7)], none⟩,
        ⟨(some 33), none, (.p (.bin .mul)), [(.t 31), (.t 32)], none⟩,
        ⟨(some 6), none, (.p .mv), [(.t 33)], none⟩])
      .skip)))
     (.keep [4, 6, 7, 8] (.reg [⟨(some 34), none, (.p .mv), [(.t 7)], none⟩,
       ⟨(some 35), none, (.p .mv), [(.t 7)], none⟩,
       ⟨(some 36), none, (.p (.bin .mul)), [(.t 34), (.t 35)], none⟩,
       ⟨(some 7), none, (.p .mv), [(.t 36)], none⟩]))))
    (.keep [4, 6, 7, 8] (.reg [⟨(some 26), none, (.p .mv), [(.t 8)], none⟩,
      ⟨(some 27), none, (.p (.bin .shr)), [(.t 26), (.c (.int .u64 (.ofNat 1)))], none⟩,
      ⟨(some 8), none, (.p .mv), [(.t 27)], none⟩]))))))))))
  (.keep [4, 6] (.seq (.reg [⟨(some 37), none, (.p .mv), [(.t 4)], none⟩,
    ⟨(some 38), none, (.p .mv), [(.t 6)], none⟩,
    ⟨(some 2), none, (.p .mv), [(.t 37)], none⟩,
    ⟨(some 3), none, (.p .mv), [(.t 38)], none⟩])
  (.keep [2, 3] (.keep [2, 3] .ret))))))))))))),
  [(.t 2), (.t 3)]⟩
def s186_j1 (call : CallK) (N : Nat) (q : KV) (st : St) (τ : Tape) : Ans :=
  match st with
  | ⟨fr, H⟩ =>
  getK fr 4 fun t4 =>
  getK fr 6 fun t6 =>
  q (.tup [t4, t6]) H τ
def s186_j3 (call : CallK) (N : Nat) (k : KC) (st : St) (τ : Tape) : Ans :=
  match st with
  | ⟨fr, H⟩ =>
  getK fr 4 fun t4 =>
  getK fr 6 fun t6 =>
  getK fr 7 fun t7 =>
  getK fr 8 fun t8 =>
  binK .shr t8 (.int .u64 (.ofNat 1)) fun v4 =>
  k .normal ⟨(T.set (T.set (T.set (T.set (T.set (T.set (T.set .leaf 4 t4) 6 t6) 7 t7) 8 t8) 26 t8) 27 v4) 8 v4), H⟩ τ
def s186_j4 (call : CallK) (N : Nat) (k : KC) (st : St) (τ : Tape) : Ans :=
  match st with
  | ⟨fr, H⟩ =>
  getK fr 4 fun t4 =>
  getK fr 6 fun t6 =>
  getK fr 7 fun t7 =>
  getK fr 8 fun t8 =>
  binK .mul t7 t7 fun v5 =>
  s186_j3 call N k ⟨(T.set (T.set (T.set (T.set (T.set (T.set (T.set (T.set .leaf 4 t4) 6 t6) 7 t7) 8 t8) 34 t7) 35 t7) 36 v5) 7 v5), H⟩ τ
def s186_l2 (call : CallK) (N : Nat) (st : St) (τ : Tape) (k : KC) : Ans :=
  match st with
  | ⟨fr, H⟩ =>
  getK fr 4 fun t4 =>
  getK fr 6 fun t6 =>
  getK fr 7 fun t7 =>
  getK fr 8 fun t8 =>
  binK .gtr t8 (.int .i64 (.ofNat 0)) fun v1 =>
  condK v1
    (binK .and t8 (.int .i64 (.ofNat 1)) fun v2 =>
  binK .neq v2 (.int .i64 (.ofNat 0)) fun v3 =>
  condK v3
    (binK .mul t6 t7 fun v6 =>
  s186_j4 call N k ⟨(T.set (T.set (T.set (T.set (T.set (T.set (T.set (T.set (T.set .leaf 4 t4) 6 t6) 7 t7) 8 t8) 30 v3) 31 t6) 32 t7) 33 v6) 6 v6), H⟩ τ)
    (s186_j4 call N k ⟨(T.set (T.set (T.set (T.set (T.set .leaf 4 t4) 6 t6) 7 t7) 8 t8) 30 v3), H⟩ τ))
    (k (.exit 2) ⟨(T.set (T.set .leaf 4 t4) 6 t6), H⟩ τ)
def s186_j0 (call : CallK) (N : Nat) (q : KV) (st : St) (τ : Tape) : Ans :=
  match st with
  | ⟨fr, H⟩ =>
  getK fr 0 fun t0 =>
  getK fr 4 fun t4 =>
  someK (pLenS [t0]) fun v0 =>
  loopK (s186_l2 call N) N ⟨(T.set (T.set (T.set (T.set .leaf 4 t4) 6 (.int .u32 (.ofNat 1))) 7 (.int .u32 (.ofNat 16777619))) 8 v0), H⟩ τ (blockK 2 (seqK (s186_j1 call N q) (endK [(.t 2), (.t 3)] q)))
def s186_l5 (call : CallK) (N : Nat) (st : St) (τ : Tape) (k : KC) : Ans :=
  match st with
  | ⟨fr, H⟩ =>
  getK fr 0 fun t0 =>
  getK fr 4 fun t4 =>
  getK fr 5 fun t5 =>
  someK (pLenS [t0]) fun v7 =>
  binK .lss t5 v7 fun v8 =>
  condK v8
    (binK .mul t4 (.int .u32 (.ofNat 16777619)) fun v9 =>
  someK (pStrIndex [t0, t5]) fun v10 =>
  toIntK .u32 v10 fun v11 =>
  binK .add v9 v11 fun v12 =>
  binK .add t5 (.int .i64 (.ofNat 1)) fun v13 =>
  k .normal ⟨(T.set (T.set (T.set (T.set (T.set (T.set .leaf 0 t0) 4 v12) 5 t5) 13 t5) 14 v13) 5 v13), H⟩ τ)
    (k (.exit 0) ⟨(T.set (T.set .leaf 0 t0) 4 t4), H⟩ τ)
def s186 (call : CallK) (N : Nat) (a0 : V) (H : Heap) (τ : Tape) (q : KV) : Ans :=
  loopK (s186_l5 call N) N ⟨(T.set (T.set (T.set .leaf 0 a0) 4 (.int .u32 (.ofNat 0))) 5 (.int .i64 (.ofNat 0))), H⟩ τ (blockK 0 (seqK (s186_j0 call N q) (endK [(.t 2), (.t 3)] q)))
theorem s186_eq (call : CallK) (N : Nat) (a0 : V) (H : Heap) (τ : Tape) (q : KV) : s186 call N a0 H τ q = funK call N fn186 [a0] H τ q := by kernel_rfl
def e186 (call : CallK) (N : Nat) (vs : List V) (H : Heap) (τ : Tape) (q : KV) : Ans := match vs with | [a0] => s186 call N a0 H τ q | _ => none
theorem e186_ok : EntOk fn186 e186 := by
  intro call N vs H τ q r h
  unfold e186 at h
  split at h
  · rw [s186_eq] at h; exact h
  · cases h
/-- unicode/utf8.decodeRuneInStringSlow -/
def fn191 : Fun := ⟨1,
  (.seq (.reg [⟨(some 2), none, (.p .mv), [(.c (.int .i32 (.ofNat 0)))], none⟩,
    ⟨(some 3), none, (.p .mv), [(.c (.int .i64 (.ofNat 0)))], none⟩])
  (.keep [0] (.seq (.reg [⟨(some 13), none, (.p .mv), [(.t 0)], none⟩,
    ⟨(some 14), none, (.p .lenS), [(.t 13)], none⟩,
    ⟨(some 4), none, (.p .mv), [(.t 14)], none⟩])
  (.keep [0, 4] (.seq (.seq (.reg [⟨(some 15), none, (.p .mv), [(.t 4)], none⟩,
    ⟨(some 16), none, (.p (.bin .lss)), [(.t 15), (.c (.int .i64 (.ofNat 1)))], none⟩])
  (.keep [0, 4, 16] (.cond (.t 16)
   (.seq (.reg [⟨(some 2), none, (.p .mv), [(.c (.int .i32 (.ofNat 65533)))], none⟩,
     ⟨(some 3), none, (.p .mv), [(.c (.int .i64 (.ofNat 0)))], none⟩])
   (.keep [2, 3] (.keep [2, 3] .ret)))
   .skip)))
  (.keep [0, 4] (.seq (.reg [⟨(some 17), none, (.p .mv), [(.t 0)], none⟩,
    ⟨(some 18), none, (.p .strIndex), [(.t 17), (.c (.int .i64 (.ofNat 0)))], none⟩,
    ⟨(some 5), none, (.p .mv), [(.t 18)], none⟩])
  (.keep [0, 4, 5] (.seq (.reg [⟨(some 19), none, (.p .mv), [(.t 5)], none⟩,
    ⟨(some 20), none, (.p (.arrIdx 256 1)), [(.c (.ptr 8 0)), (.t 19)], none⟩,
    ⟨(some 21), none, (.l (.load none)), [(.t 20)], none⟩,
    ⟨(some 6), none, (.p .mv), [(.t 21)], none⟩])
  (.keep [0, 4, 5, 6] (.seq (.seq (.reg [⟨(some 22), none, (.p .mv), [(.t 6)], none⟩,
    ⟨(some 23), none, (.p (.bin .geq)), [(.t 22), (.c (.int .u8 (.ofNat 240)))], none⟩])
  (.keep [0, 4, 5, 6, 23] (.cond (.t 23)
   (.seq (.reg [⟨(some 24), none, (.p .mv), [(.t 6)], none⟩,
     ⟨(some 25), none, (.p (.toInt .i32)), [(.t 24)], none⟩,
     ⟨(some 26), none, (.p (.bin .shl)), [(.t 25), (.c (.int .u64 (.ofNat 31)))], none⟩,
     ⟨(some 27), none, (.p (.bin .shr)), [(.t 26), (.c (.int .u64 (.ofNat 31)))], none⟩,
     ⟨(some 7), none, (.p .mv), [(.t 27)], none⟩])
   (.keep [0, 7] (.seq (.reg [⟨(some 28), none, (.p .mv), [(.t 0)], none⟩,
     ⟨(some 29), none, (.p .strIndex), [(.t 28), (.c (.int .i64 (.ofNat 0)))], none⟩,
     ⟨(some 30), none, (.p (.toInt .i32)), [(.t 29)], none⟩,
     ⟨(some 31), none, (.p .mv), [(.t 7)], none⟩,
     ⟨(some 32), none, (.p (.bin .andNot)), [(.t 30), (.t 31)], none⟩,
     ⟨(some 33), none, (.p .mv), [(.t 7)], none⟩,
     ⟨(some 34), none, (.p (.bin .and)), [(.c (.int .i32 (.ofNat 65533))), (.t 33)], none⟩,
     ⟨(some 35), none, (.p (.bin .or)), [(.t 32), (.t 34)], none⟩,
     ⟨(some 2), none, (.p .mv), [(.t 35)], none⟩,
     ⟨(some 3), none, (.p .mv), [(.c (.int .i64 (.ofNat 1)))], none⟩])
   (.keep [2, 3] (.keep [2, 3] .ret)))))
   .skip)))
  (.keep [0, 4, 5, 6] (.seq (.reg [⟨(some 36), none, (.p .mv), [(.t 6)], none⟩,
    ⟨(some 37), none, (.p (.bin .and)), [(.t 36), (.c (.int .u8 (.ofNat 7)))], none⟩,
    ⟨(some 38), none, (.p (.toInt .i64)), [(.t 37)], none⟩,
    ⟨(some 8), none, (.p .mv), [(.t 38)], none⟩])
  (.keep [0, 4, 5, 6, 8] (.seq (.reg [⟨(some 39), none, (.p .mv), [(.t 6)], none⟩,
    ⟨(some 40), none, (.p (.bin .shr)), [(.t 39), (.c (.int .u64 (.ofNat 4)))], none⟩,
    ⟨(some 41), none, (.p (.arrIdx 16 2)), [(.c (.ptr 9 0)), (.t 40)], none⟩,
    ⟨(some 42), none, (.l (.load (some 2))), [(.t 41)], none⟩,
    ⟨(some 9), none, (.e (.alloc [(.int .u8 (.ofNat 0)), (.int .u8 (.ofNat 0))])), [], none⟩,
    ⟨none, none, (.e (.store 2)), [(.t 9), (.t 42)], none⟩])
  (.keep [0, 4, 5, 8, 9] (.seq (.seq (.reg [⟨(some 43), none, (.p .mv), [(.t 4)], none⟩,
    ⟨(some 44), none, (.p .mv), [(.t 8)], none⟩,
    ⟨(some 45), none, (.p (.bin .lss)), [(.t 43), (.t 44)], none⟩])
  (.keep [0, 5, 8, 9, 45] (.cond (.t 45)
   (.seq (.reg [⟨(some 2), none, (.p .mv), [(.c (.int .i32 (.ofNat 65533)))], none⟩,
     ⟨(some 3), none, (.p .mv), [(.c (.int .i64 (.ofNat 1)))], none⟩])
   (.keep [2, 3] (.keep [2, 3] .ret)))
   .skip)))
  (.keep [0, 5, 8, 9] (.seq (.reg [⟨(some 46), none, (.p .mv), [(.t 0)], none⟩,
    ⟨(some 47), none, (.p .strIndex), [(.t 46), (.c (.int .i64 (.ofNat 1)))], none⟩,
    ⟨(some 10), none, (.p .mv), [(.t 47)], none⟩])
  (.keep [0, 5, 8, 9, 10] (.seq (.seq (.reg [⟨(some 48), none, (.p .mv), [(.t 10)], none⟩,
    ⟨(some 49), none, (.p (.fieldAddr 0)), [(.t 9)], none⟩,
    ⟨(some 50), none, (.l (.load none)), [(.t 49)], none⟩,
    ⟨(some 51), none, (.p (.bin .lss)), [(.t 48), (.t 50)], none⟩,
    ⟨(some 52), none, (.p .mv), [(.t 51)], none⟩,
    ⟨(some 53), some (52, false), (.p (.fieldAddr 1)), [(.t 9)], none⟩,
    ⟨(some 54), some (52, false), (.l (.load none)), [(.t 53)], none⟩,
    ⟨(some 55), some (52, false), (.p .mv), [(.t 10)], none⟩,
    ⟨(some 56), some (52, false), (.p (.bin .lss)), [(.t 54), (.t 55)], none⟩,
    ⟨(some 57), none, (.p .pick), [(.t 52), (.c (.bool true)), (.t 56)], none⟩])
  (.keep [0, 5, 8, 10, 57] (.cond (.t 57)
   (.seq (.reg [⟨(some 2), none, (.p .mv), [(.c (.int .i32 (.ofNat 65533)))], none⟩,
     ⟨(some 3), none, (.p .mv), [(.c (.int .i64 (.ofNat 1)))], none⟩])
   (.keep [2, 3] (.keep [2, 3] .ret)))
   .skip)))
  (.keep [0, 5, 8, 10] (.seq (.seq (.reg [⟨(some 58), none, (.p .mv), [(.t 8)], none⟩,
    ⟨(some 59), none, (.p (.bin .leq)), [(.t 58), (.c (.int .i64 (.ofNat 2)))], none⟩])
  (.keep [0, 5, 8, 10, 59] (.cond (.t 59)
   (.seq (.reg [⟨(some 60), none, (.p .mv), [(.t 5)], none⟩,
     ⟨(some 61), none, (.p (.bin .and)), [(.t 60), (.c (.int .u8 (.ofNat 31)))], none⟩,
     ⟨(some 62), none, (.p (.toInt .i32)), [(.t 61)], none⟩,
     ⟨(some 63), none, (.p (.bin .shl)), [(.t 62), (.c (.int .u64 (.ofNat 6)))], none⟩,
     ⟨(some 64), none, (.p .mv), [(.t 10)], none⟩,
     ⟨(some 65), none, (.p (.bin .and)), [(.t 64), (.c (.int .u8 (.ofNat 63)))], none⟩,
     ⟨(some 66), none, (.p (.toInt .i32)), [(.t 65)], none⟩,
     ⟨(some 67), none, (.p (.bin .or)), [(.t 63), (.t 66)], none⟩,
     ⟨(some 2), none, (.p .mv), [(.t 67)], none⟩,
     ⟨(some 3), none, (.p .mv), [(.c (.int .i64 (.ofNat 2)))], none⟩])
   (.keep [2, 3] (.keep [2, 3] .ret)))
   .skip)))
  (.keep [0, 5, 8, 10] (.seq (.reg [⟨(some 68), none, (.p .mv), [(.t 0)], none⟩,
    ⟨(some 69), none, (.p .strIndex), [(.t 68), (.c (.int .i64 (.ofNat 2)))], none⟩,
    ⟨(some 11), none, (.p .mv), [(.t 69)], none⟩])
  (.keep [0, 5, 8, 10, 11] (.seq (.seq (.reg [⟨(some 70), none, (.p .mv), [(.t 11)], none⟩,
    ⟨(some 71), none, (.p (.bin .lss)), [(.t 70), (.c (.int .u8 (.ofNat 128)))], none⟩,
    ⟨(some 72), none, (.p .mv), [(.t 71)], none⟩,
    ⟨(some 73), some (72, false), (.p .mv), [(.t 11)], none⟩,
    ⟨(some 74), some (72, false), (.p (.bin .lss)), [(.c (.int .u8 (.ofNat 191))), (.t 73)], none⟩,
    ⟨(some 75), none, (.p .pick), [(.t 72), (.c (.bool true)), (.t 74)], none⟩])
  (.keep [0, 5, 8, 10, 11, 75] (.cond (.t 75)
   (.seq (.reg [⟨(some 2), none, (.p .mv), [(.c (.int .i32 (.ofNat 65533)))], none⟩,
     ⟨(some 3), none, (.p .mv), [(.c (.int .i64 (.ofNat 1)))], none⟩])
   (.keep [2, 3] (.keep [2, 3] .ret)))
   .skip)))
  (.keep [0, 5, 8, 10, 11] (.seq (.seq (.reg [⟨(some 76), none, (.p .mv), [(.t 8)], none⟩,
    ⟨(some 77), none, (.p (.bin .leq)), [(.t 76), (.c (.int .i64 (.ofNat 3)))], none⟩])
  (.keep [0, 5, 10, 11, 77] (.cond (.t 77)
   (.seq (.reg [⟨(some 78), none, (.p .mv), [(.t 5)], none⟩,
     ⟨(some 79), none, (.p (.bin .and)), [(.t 78), (.c (.int .u8 (.ofNat 15)))], none⟩,
     ⟨(some 80), none, (.p (.toInt .i32)), [(.t 79)], none⟩,
     ⟨(some 81), none, (.p (.bin .shl)), [(.t 80), (.c (.int .u64 (.ofNat 12)))], none⟩,
     ⟨(some 82), none, (.p .mv), [(.t 10)], none⟩,
     ⟨(some 83), none, (.p (.bin .and)), [(.t 82), (.c (.int .u8 (.ofNat 63)))], none⟩,
     ⟨(some 84), none, (.p (.toInt .i32)), [(.t 83)], none⟩,
     ⟨(some 85), none, (.p (.bin .shl)), [(.t 84), (.c (.int .u64 (.ofNat 6)))], none⟩,
     ⟨(some 86), none, (.p (.bin .or)), [(.t 81), (.t 85)], none⟩,
     ⟨(some 87), none, (.p .mv), [(.t 11)], none⟩,
     ⟨(some 88), none, (.p (.bin .and)), [(.t 87), (.c (.int .u8 (.ofNat 63)))], none⟩,
     ⟨(some 89), none, (.p (.toInt .i32)), [(.t 88)], none⟩,
     ⟨(some 90), none, (.p (.bin .or)), [(.t 86), (.t 89)], none⟩,
     ⟨(some 2), none, (.p .mv), [(.t 90)], none⟩,
     ⟨(some 3), none, (.p .mv), [(.c (.int .i64 (.ofNat 3)))], none⟩])
   (.keep [2, 3] (.keep [2, 3] .ret)))
   .skip)))
  (.keep [0, 5, 10, 11] (.seq (.reg [⟨(some 91), none, (.p .mv), [(.t 0)], none⟩,
    ⟨(some 92), none, (.p .strIndex), [(.t 91), (.c (.int .i64 (.ofNat 3)))], none⟩,
    ⟨(some 12), none, (.p .mv), [(.t 92)], none⟩])
  (.keep [5, 10, 11, 12] (.seq (.seq (.reg [⟨(some 93), none, (.p .mv), [(.t 12)], none⟩,
    ⟨(some 94), none, (.p (.bin .lss)), [(.t 93), (.c (.int .u8 (.ofNat 128)))], none⟩,
    ⟨(some 95), none, (.p .mv), [(.t 94)], none⟩,
    ⟨(some 96), some (95, false), (.p .mv), [(.t 12)], none⟩,
    ⟨(some 97), some (95, false), (.p (.bin .lss)), [(.c (.int .u8 (.ofNat 191))), (.t 96)], none⟩,
    ⟨(some 98), none, (.p .pick), [(.t 95), (.c (.bool true)), (.t 97)], none⟩])
  (.keep [5, 10, 11, 12, 98] (.cond (.t 98)
   (.seq (.reg [⟨(some 2), none, (.p .mv), [(.c (.int .i32 (.ofNat 65533)))], none⟩,
     ⟨(some 3), none, (.p .mv), [(.c (.int .i64 (.ofNat 1)))], none⟩])
   (.keep [2, 3] (.keep [2, 3] .ret)))
   .skip)))
  (.keep [5, 10, 11, 12] (.seq (.reg [⟨(some 99), none, (.p .mv), [(.t 5)], none⟩,
    ⟨(some 100), none, (.p (.bin .and)), [(.t 99), (.c (.int .u8 (.ofNat 7)))], none⟩,
    ⟨(some 101), none, (.p (.toInt .i32)), [(.t 100)], none⟩,
    ⟨(some 102), none, (.p (.bin .shl)), [(.t 101), (.c (.int .u64 (.ofNat 18)))], none⟩,
    ⟨(some 103), none, (.p .mv), [(.t 10)], none⟩,
    ⟨(some 104), none, (.p (.bin .and)), [(.t 103), (.c (.int .u8 (.ofNat 63)))], none⟩,
    ⟨(some 105), none, (.p (.toInt .i32)), [(.t 104)], none⟩,
    ⟨(some 106), none, (.p (.bin .shl)), [(.t 105), (.c (.int .u64 (.ofNat 12)))], none⟩,
    ⟨(some 107), none, (.p (.bin .or)), [(.t 102), (.t 106)], none⟩,
    ⟨(some 108), none, (.p .mv), [(.t 11)], none⟩,
    ⟨(some 109), none, (.p (.bin .and)), [(.t 108), (.c (.int .u8 (.ofNat 63)))], none⟩,
    ⟨(some 110), none, (.p (.toInt .i32)), [(.t 109)], none⟩,
    ⟨(some 111), none, (.p (.bin .shl)), [(.t 110), (.c (.int .u64 (.ofNat 6)))], none⟩,
    ⟨(some 112), none, (.p (.bin .or)), [(.t 107), (.t 111)], none⟩,
    ⟨(some 113), none, (.p .mv), [(.t 12)], none⟩,
    ⟨(some 114), none, (.p (.bin .and)), [(.t 113), (.c (.int .u8 (.ofNat 63)))], none⟩,
    ⟨(some 115), none, (.p (.toInt .i32)), [(.t 114)], none⟩,
    ⟨(some 116), none, (.p (.bin .or)), [(.t 112), (.t 115)], none⟩,
    ⟨(some 2), none, (.p .mv), [(.t 116)], none⟩,
    ⟨(some 3), none, (.p .mv), [(.c (.int .i64 (.ofNat 4)))], none⟩])
  (.keep [2, 3] (.keep [2, 3] .ret))))))))))))))))))))))))))))))))))))),
  [(.t 2), (.t 3)]⟩
def s191 (call : CallK) (N : Nat) (a0 : V) (H : Heap) (τ : Tape) (q : KV) : Ans :=
  someK (pLenS [a0]) fun v0 =>
  binK .lss v0 (.int .i64 (.ofNat 1)) fun v1 =>
  condK v1
    (q (.tup [(.int .i32 (.ofNat 65533)), (.int .i64 (.ofNat 0))]) H τ)
    (someK (pStrIndex [a0, (.int .i64 (.ofNat 0))]) fun v2 =>
  someK (pArrIdx 256 1 [(.ptr 8 0), v2]) fun v3 =>
  someK (lLoad1 [v3] H) fun v4 =>
  binK .geq v4 (.int .u8 (.ofNat 240)) fun v5 =>
  condK v5
    (toIntK .i32 v4 fun v6 =>
  binK .shl v6 (.int .u64 (.ofNat 31)) fun v7 =>
  binK .shr v7 (.int .u64 (.ofNat 31)) fun v8 =>
  someK (pStrIndex [a0, (.int .i64 (.ofNat 0))]) fun v9 =>
  toIntK .i32 v9 fun v10 =>
  binK .andNot v10 v8 fun v11 =>
  binK .and (.int .i32 (.ofNat 65533)) v8 fun v12 =>
  binK .or v11 v12 fun v13 =>
  q (.tup [v13, (.int .i64 (.ofNat 1))]) H τ)
    (binK .and v4 (.int .u8 (.ofNat 7)) fun v14 =>
  toIntK .i64 v14 fun v15 =>
  binK .shr v4 (.int .u64 (.ofNat 4)) fun v16 =>
  someK (pArrIdx 16 2 [(.ptr 9 0), v16]) fun v17 =>
  someK (lLoadN 2 [v17] H) fun v18 =>
  effK (eAlloc [(.int .u8 (.ofNat 0)), (.int .u8 (.ofNat 0))] [] H τ) fun v19 H20 τ21 =>
  effK (eStore 2 [v19, v18] H20 τ21) fun v22 H23 τ24 =>
  binK .lss v0 v15 fun v25 =>
  condK v25
    (q (.tup [(.int .i32 (.ofNat 65533)), (.int .i64 (.ofNat 1))]) H23 τ24)
    (someK (pStrIndex [a0, (.int .i64 (.ofNat 1))]) fun v26 =>
  someK (pFieldAddr 0 [v19]) fun v27 =>
  someK (lLoad1 [v27] H23) fun v28 =>
  binK .lss v26 v28 fun v29 =>
  gK v29 false (fun q' => someK (pFieldAddr 1 [v19]) fun v => q' v H23 τ24) H23 τ24 fun v30 H31 τ32 =>
  gK v29 false (fun q' => someK (lLoad1 [v30] H31) fun v => q' v H31 τ32) H31 τ32 fun v33 H34 τ35 =>
  gK v29 false (fun q' => q' v26 H34 τ35) H34 τ35 fun v36 H37 τ38 =>
  gK v29 false (fun q' => binK .lss v33 v36 fun v => q' v H37 τ38) H37 τ38 fun v39 H40 τ41 =>
  someK (pPick [v29, (.bool true), v39]) fun v42 =>
  condK v42
    (q (.tup [(.int .i32 (.ofNat 65533)), (.int .i64 (.ofNat 1))]) H40 τ41)
    (binK .leq v15 (.int .i64 (.ofNat 2)) fun v43 =>
  condK v43
    (binK .and v2 (.int .u8 (.ofNat 31)) fun v44 =>
  toIntK .i32 v44 fun v45 =>
  binK .shl v45 (.int .u64 (.ofNat 6)) fun v46 =>
  binK .and v26 (.int .u8 (.ofNat 63)) fun v47 =>
  toIntK .i32 v47 fun v48 =>
  binK .or v46 v48 fun v49 =>
  q (.tup [v49, (.int .i64 (.ofNat 2))]) H40 τ41)
    (someK (pStrIndex [a0, (.int .i64 (.ofNat 2))]) fun v50 =>
  binK .lss v50 (.int .u8 (.ofNat 128)) fun v51 =>
  gK v51 false (fun q' => q' v50 H40 τ41) H40 τ41 fun v52 H53 τ54 =>
  gK v51 false (fun q' => binK .lss (.int .u8 (.ofNat 191)) v52 fun v => q' v H53 τ54) H53 τ54 fun v55 H56 τ57 =>
  someK (pPick [v51, (.bool true), v55]) fun v58 =>
  condK v58
    (q (.tup [(.int .i32 (.ofNat 65533)), (.int .i64 (.ofNat 1))]) H56 τ57)
    (binK .leq v15 (.int .i64 (.ofNat 3)) fun v59 =>
  condK v59
    (binK .and v2 (.int .u8 (.ofNat 15)) fun v60 =>
  toIntK .i32 v60 fun v61 =>
  binK .shl v61 (.int .u64 (.ofNat 12)) fun v62 =>
  binK .and v26 (.int .u8 (.ofNat 63)) fun v63 =>
  toIntK .i32 v63 fun v64 =>
  binK .shl v64 (.int .u64 (.ofNat 6)) fun v65 =>
  binK .or v62 v65 fun v66 =>
  binK .and v50 (.int .u8 (.ofNat 63)) fun v67 =>
  toIntK .i32 v67 fun v68 =>
  binK .or v66 v68 fun v69 =>
  q (.tup [v69, (.int .i64 (.ofNat 3))]) H56 τ57)
    (someK (pStrIndex [a0, (.int .i64 (.ofNat 3))]) fun v70 =>
  binK .lss v70 (.int .u8 (.ofNat 128)) fun v71 =>
  gK v71 false (fun q' => q' v70 H56 τ57) H56 τ57 fun v72 H73 τ74 =>
  gK v71 false (fun q' => binK .lss (.int .u8 (.ofNat 191)) v72 fun v => q' v H73 τ74) H73 τ74 fun v75 H76 τ77 =>
  someK (pPick [v71, (.bool true), v75]) fun v78 =>
  condK v78
    (q (.tup [(.int .i32 (.ofNat 65533)), (.int .i64 (.ofNat 1))]) H76 τ77)
    (binK .and v2 (.int .u8 (.ofNat 7)) fun v79 =>
  toIntK .i32 v79 fun v80 =>
  binK .shl v80 (.int .u64 (.ofNat 18)) fun v81 =>
  binK .and v26 (.int .u8 (.ofNat 63)) fun v82 =>
  toIntK .i32 v82 fun v83 =>
  binK .shl v83 (.int .u64 (.ofNat 12)) fun v84 =>
  binK .or v81 v84 fun v85 =>
  binK .and v50 (.int .u8 (.ofNat 63)) fun v86 =>
  toIntK .i32 v86 fun v87 =>
  binK .shl v87 (.int .u64 (.ofNat 6)) fun v88 =>
  binK .or v85 v88 fun v89 =>
  binK .and v70 (.int .u8 (.ofNat 63)) fun v90 =>
  toIntK .i32 v90 fun v91 =>
  binK .or v89 v91 fun v92 =>
  q (.tup [v92, (.int .i64 (.ofNat 4))]) H76 τ77))))))))
theorem s191_eq (call : CallK) (N : Nat) (a0 : V) (H : Heap) (τ : Tape) (q : KV) : s191 call N a0 H τ q = funK call N fn191 [a0] H τ q := by kernel_rfl
def e191 (call : CallK) (N : Nat) (vs : List V) (H : Heap) (τ : Tape) (q : KV) : Ans := match vs with | [a0] => s191 call N a0 H τ q | _ => none
theorem e191_ok : EntOk fn191 e191 := by
  intro call N vs H τ q r h
  unfold e191 at h
  split at h
  · rw [s191_eq] at h; exact h
  · cases h
/-- unicode/utf8.RuneStart -/
def fn192 : Fun := ⟨1,
  (.seq (.reg [⟨(some 2), none, (.p .mv), [(.c (.bool false))], none⟩])
  (.keep [0] (.seq (.reg [⟨(some 3), none, (.p .mv), [(.t 0)], none⟩,
    ⟨(some 4), none, (.p (.bin .and)), [(.t 3), (.c (.int .u8 (.ofNat 192)))], none⟩,
    ⟨(some 5), none, (.p (.bin .neq)), [(.t 4), (.c (.int .u8 (.ofNat 128)))], none⟩,
    ⟨(some 2), none, (.p .mv), [(.t 5)], none⟩])
  (.keep [2] (.keep [2] .ret))))),
  [(.t 2)]⟩
def s192 (call : CallK) (N : Nat) (a0 : V) (H : Heap) (τ : Tape) (q : KV) : Ans :=
  binK .and a0 (.int .u8 (.ofNat 192)) fun v0 =>
  binK .neq v0 (.int .u8 (.ofNat 128)) fun v1 =>
  q v1 H τ
theorem s192_eq (call : CallK) (N : Nat) (a0 : V) (H : Heap) (τ : Tape) (q : KV) : s192 call N a0 H τ q = funK call N fn192 [a0] H τ q := by kernel_rfl
def e192 (call : CallK) (N : Nat) (vs : List V) (H : Heap) (τ : Tape) (q : KV) : Ans := match vs with | [a0] => s192 call N a0 H τ q | _ => none
theorem e192_ok : EntOk fn192 e192 := by
  intro call N vs H τ q r h
  unfold e192 at h
  split at h
  · rw [s192_eq] at h; exact h
  · cases h
/-- slices.order2Ordered[string] -/
def fn198 : Fun := ⟨4,
  (.seq (.reg [⟨(some 8), none, (.p .mv), [(.c (.int .i64 (.ofNat 0)))], none⟩,
    ⟨(some 9), none, (.p .mv), [(.c (.int .i64 (.ofNat 0)))], none⟩])
  (.keep [0, 1, 2, 3] (.seq (.seq (.draw [⟨(some 10), none, (.p .mv), [(.t 0)], none⟩,
    ⟨(some 11), none, (.p .mv), [(.t 2)], none⟩,
    ⟨(some 12), none, (.p (.slIdx 1)), [(.t 10), (.t 11)], none⟩,
    ⟨(some 13), none, (.l (.load none)), [(.t 12)], none⟩,
    ⟨(some 14), none, (.p .mv), [(.t 0)], none⟩,
    ⟨(some 15), none, (.p .mv), [(.t 1)], none⟩,
    ⟨(some 16), none, (.p (.slIdx 1)), [(.t 14), (.t 15)], none⟩,
    ⟨(some 17), none, (.l (.load none)), [(.t 16)], none⟩,
    ⟨(some 18), none, (.call 156), [(.t 13), (.t 17)], none⟩])
  (.keep [1, 2, 3, 18] (.cond (.t 18)
   (.seq (.reg [⟨(some 19), none, (.p .mv), [(.t 3)], none⟩,
     ⟨(some 20), none, (.p .nilck), [(.t 19)], none⟩,
     ⟨(some 21), none, (.l (.load none)), [(.t 20)], none⟩,
     ⟨(some 22), none, (.p (.bin .add)), [(.t 21), (.c (.int .i64 (.ofNat 1)))], none⟩,
     ⟨(some 23), none, (.p .nilck), [(.t 19)], none⟩,
     ⟨none, none, (.e (.store 1)), [(.t 23), (.t 22)], none⟩])
   (.keep [1, 2] (.seq (.reg [⟨(some 24), none, (.p .mv), [(.t 2)], none⟩,
     ⟨(some 25), none, (.p .mv), [(.t 1)], none⟩,
     ⟨(some 8), none, (.p .mv), [(.t 24)], none⟩,
     ⟨(some 9), none, (.p .mv), [(.t 25)], none⟩])
   (.keep [8, 9] (.keep [8, 9] .ret)))))
   .skip)))
  (.keep [1, 2] (.seq (.reg [⟨(some 26), none, (.p .mv), [(.t 1)], none⟩,
    ⟨(some 27), none, (.p .mv), [(.t 2)], none⟩,
    ⟨(some 8), none, (.p .mv), [(.t 26)], none⟩,
    ⟨(some 9), none, (.p .mv), [(.t 27)], none⟩])
  (.keep [8, 9] (.keep [8, 9] .ret))))))),
  [(.t 8), (.t 9)]⟩
def s198 (call : CallK) (N : Nat) (a0 a1 a2 a3 : V) (H : Heap) (τ : Tape) (q : KV) : Ans :=
  someK (pSlIdx 1 [a0, a2]) fun v0 =>
  someK (lLoad1 [v0] H) fun v1 =>
  someK (pSlIdx 1 [a0, a1]) fun v2 =>
  someK (lLoad1 [v2] H) fun v3 =>
  call 156 [v1, v3] H τ fun v4 H5 τ6 =>
  condK v4
    (someK (pNilck [a3]) fun v7 =>
  someK (lLoad1 [v7] H5) fun v8 =>
  binK .add v8 (.int .i64 (.ofNat 1)) fun v9 =>
  someK (pNilck [a3]) fun v10 =>
  effK (eStore 1 [v10, v9] H5 τ6) fun v11 H12 τ13 =>
  q (.tup [a2, a1]) H12 τ13)
    (q (.tup [a1, a2]) H5 τ6)
theorem s198_eq (call : CallK) (N : Nat) (a0 a1 a2 a3 : V) (H : Heap) (τ : Tape) (q : KV) : s198 call N a0 a1 a2 a3 H τ q = funK call N fn198 [a0, a1, a2, a3] H τ q := by kernel_rfl
def e198 (call : CallK) (N : Nat) (vs : List V) (H : Heap) (τ : Tape) (q : KV) : Ans := match vs with | [a0, a1, a2, a3] => s198 call N a0 a1 a2 a3 H τ q | _ => none
theorem e198_ok : EntOk fn198 e198 := by
  intro call N vs H τ q r h
  unfold e198 at h
  split at h
  · rw [s198_eq] at h; exact h
  · cases h
def tabF : T Def := (.node none (.node none (.node none (.node none (.node none (.node (some (.fn fn31)) (.node none (.node (some (.fn fn127)) .leaf .leaf) (.node (some (.fn fn191)) .leaf .leaf)) (.node (some (.fn fn95)) (.node (some (.fn fn159)) .leaf .leaf) .leaf)) (.node none (.node (some (.fn fn79)) (.node (some (.fn fn143)) .leaf .leaf) .leaf) .leaf)) (.node none (.node none .leaf (.node (some (.fn fn103)) .leaf .leaf)) (.node none (.node none (.node (some (.fn fn151)) .leaf .leaf) .leaf) (.node (some (.fn fn119)) (.node (some (.fn fn183)) .leaf .leaf) .leaf)))) (.node none (.node none (.node (some (.fn fn35)) (.node none (.node (some (.prim idxP)) .leaf .leaf) .leaf) .leaf) (.node (some (.fn fn51)) .leaf .leaf)) (.node none (.node none .leaf (.node none (.node (some (.fn fn171)) .leaf .leaf) .leaf)) (.node none (.node (some (.fn fn91)) (.node (some (.fn fn155)) .leaf .leaf) .leaf) (.node (some (.fn fn123)) .leaf .leaf))))) (.node none (.node none (.node none .leaf (.node none (.node (some (.fn fn81)) (.node (some (.fn fn145)) .leaf .leaf) .leaf) (.node (some (.prim joinP)) .leaf .leaf))) (.node none (.node none .leaf (.node (some (.fn fn105)) .leaf .leaf)) (.node none (.node none (.node (some (.fn fn153)) .leaf .leaf) .leaf) (.node (some (.fn fn121)) (.node (some (.fn fn185)) .leaf .leaf) .leaf)))) (.node none (.node none .leaf (.node (some (.fn fn53)) .leaf (.node none (.node (some (.fn fn181)) .leaf .leaf) .leaf))) (.node (some (.fn fn29)) (.node none (.node none (.node (some (.fn fn141)) .leaf .leaf) .leaf) (.node none (.node (some (.fn fn173)) .leaf .leaf) .leaf)) (.node (some (.fn fn61)) (.node (some (.fn fn93)) (.node (some (.fn fn157)) .leaf .leaf) .leaf) .leaf))))) (.node none (.node none (.node none (.node none (.node (some (.fn fn32)) (.node none (.node (some (.fn fn128)) .leaf .leaf) (.node (some (.fn fn192)) .leaf .leaf)) (.node none (.node (some (.fn fn160)) .leaf .leaf) .leaf)) (.node none (.node (some (.fn fn80)) (.node (some (.fn fn144)) .leaf .leaf) .leaf) (.node (some (.fn fn112)) .leaf .leaf))) (.node none .leaf (.node none (.node (some (.fn fn88)) (.node (some (.fn fn152)) .leaf .leaf) .leaf) (.node (some (.fn fn120)) (.node (some (.fn fn184)) .leaf .leaf) .leaf)))) (.node (some (.fn fn12)) (.node none .leaf (.node (some (.fn fn52)) .leaf (.node none (.node (some (.fn fn180)) .leaf .leaf) .leaf))) (.node none (.node none (.node none (.node (some (.fn fn140)) .leaf .leaf) .leaf) (.node none (.node (some (.fn fn172)) .leaf .leaf) .leaf)) (.node none (.node (some (.fn fn92)) (.node (some (.fn fn156)) .leaf .leaf) .leaf) .leaf)))) (.node none (.node none (.node none (.node none (.node none (.node (some (.fn fn130)) .leaf .leaf) .leaf) (.node none (.node (some (.fn fn162)) .leaf .leaf) .leaf)) (.node none (.node none (.node (some (.fn fn146)) .leaf .leaf) .leaf) (.node (some (.fn fn114)) .leaf .leaf))) (.node none .leaf (.node none (.node none (.node (some (.fn fn154)) .leaf .leaf) .leaf) (.node (some (.fn fn122)) (.node (some (.fn fn186)) .leaf .leaf) .leaf)))) (.node none (.node none (.node none (.node none .leaf (.node (some (.fn fn198)) .leaf .leaf)) (.node (some (.fn fn102)) .leaf .leaf)) (.node none (.node none (.node (some (.fn fn150)) .leaf .leaf) .leaf) (.node none (.node (some (.fn fn182)) .leaf .leaf) .leaf))) (.node (some (.fn fn30)) (.node none (.node (some (.fn fn78)) (.node (some (.fn fn142)) .leaf .leaf) .leaf) .leaf) (.node (some (.fn fn62)) (.node (some (.fn fn94)) (.node (some (.fn fn158)) .leaf .leaf) .leaf) .leaf))))))
def tabE : T Ent := (.node none (.node none (.node none (.node none (.node none (.node (some e31) (.node none (.node (some e127) .leaf .leaf) (.node (some e191) .leaf .leaf)) (.node (some e95) (.node (some e159) .leaf .leaf) .leaf)) (.node none (.node (some e79) (.node (some e143) .leaf .leaf) .leaf) .leaf)) (.node none (.node none .leaf (.node (some e103) .leaf .leaf)) (.node none (.node none (.node (some e151) .leaf .leaf) .leaf) (.node (some e119) (.node (some e183) .leaf .leaf) .leaf)))) (.node none (.node none (.node (some e35) (.node none (.node (some (PrimEnt idxP)) .leaf .leaf) .leaf) .leaf) (.node (some e51) .leaf .leaf)) (.node none (.node none .leaf (.node none (.node (some e171) .leaf .leaf) .leaf)) (.node none (.node (some e91) (.node (some e155) .leaf .leaf) .leaf) (.node (some e123) .leaf .leaf))))) (.node none (.node none (.node none .leaf (.node none (.node (some e81) (.node (some e145) .leaf .leaf) .leaf) (.node (some (PrimEnt joinP)) .leaf .leaf))) (.node none (.node none .leaf (.node (some e105) .leaf .leaf)) (.node none (.node none (.node (some e153) .leaf .leaf) .leaf) (.node (some e121) (.node (some e185) .leaf .leaf) .leaf)))) (.node none (.node none .leaf (.node (some e53) .leaf (.node none (.node (some e181) .leaf .leaf) .leaf))) (.node (some e29) (.node none (.node none (.node (some e141) .leaf .leaf) .leaf) (.node none (.node (some e173) .leaf .leaf) .leaf)) (.node (some e61) (.node (some e93) (.node (some e157) .leaf .leaf) .leaf) .leaf))))) (.node none (.node none (.node none (.node none (.node (some e32) (.node none (.node (some e128) .leaf .leaf) (.node (some e192) .leaf .leaf)) (.node none (.node (some e160) .leaf .leaf) .leaf)) (.node none (.node (some e80) (.node (some e144) .leaf .leaf) .leaf) (.node (some e112) .leaf .leaf))) (.node none .leaf (.node none (.node (some e88) (.node (some e152) .leaf .leaf) .leaf) (.node (some e120) (.node (some e184) .leaf .leaf) .leaf)))) (.node (some e12) (.node none .leaf (.node (some e52) .leaf (.node none (.node (some e180) .leaf .leaf) .leaf))) (.node none (.node none (.node none (.node (some e140) .leaf .leaf) .leaf) (.node none (.node (some e172) .leaf .leaf) .leaf)) (.node none (.node (some e92) (.node (some e156) .leaf .leaf) .leaf) .leaf)))) (.node none (.node none (.node none (.node none (.node none (.node (some e130) .leaf .leaf) .leaf) (.node none (.node (some e162) .leaf .leaf) .leaf)) (.node none (.node none (.node (some e146) .leaf .leaf) .leaf) (.node (some e114) .leaf .leaf))) (.node none .leaf (.node none (.node none (.node (some e154) .leaf .leaf) .leaf) (.node (some e122) (.node (some e186) .leaf .leaf) .leaf)))) (.node none (.node none (.node none (.node none .leaf (.node (some e198) .leaf .leaf)) (.node (some e102) .leaf .leaf)) (.node none (.node none (.node (some e150) .leaf .leaf) .leaf) (.node none (.node (some e182) .leaf .leaf) .leaf))) (.node (some e30) (.node none (.node (some e78) (.node (some e142) .leaf .leaf) .leaf) .leaf) (.node (some e62) (.node (some e94) (.node (some e158) .leaf .leaf) .leaf) .leaf))))))
theorem tab_ok (N : Nat) : TabOk tabF.get N (tabOf tabE N) := tabOf_okP (E := tabE) (F := tabF) N fun f e h => T.All_get (t := tabE) (P := fun f e => (∃ fn, tabF.get f = some (.fn fn) ∧ EntOk fn e) ∨ (∃ p, tabF.get f = some (.prim p) ∧ e = PrimEnt p)) (.intro trivial (.intro (.intro trivial (.intro (.intro trivial (.intro (.intro trivial (.intro (.intro trivial (.intro (.intro (.inl ⟨fn31, rfl, e31_ok⟩) (.intro (.intro trivial (.intro (.intro (.inl ⟨fn127, rfl, e127_ok⟩) (.intro trivial trivial)) (.intro (.inl ⟨fn191, rfl, e191_ok⟩) (.intro trivial trivial)))) (.intro (.inl ⟨fn95, rfl, e95_ok⟩) (.intro (.intro (.inl ⟨fn159, rfl, e159_ok⟩) (.intro trivial trivial)) trivial)))) (.intro trivial (.intro (.intro (.inl ⟨fn79, rfl, e79_ok⟩) (.intro (.intro (.inl ⟨fn143, rfl, e143_ok⟩) (.intro trivial trivial)) trivial)) trivial)))) (.intro trivial (.intro (.intro trivial (.intro trivial (.intro (.inl ⟨fn103, rfl, e103_ok⟩) (.intro trivial trivial)))) (.intro trivial (.intro (.intro trivial (.intro (.intro (.inl ⟨fn151, rfl, e151_ok⟩) (.intro trivial trivial)) trivial)) (.intro (.inl ⟨fn119, rfl, e119_ok⟩) (.intro (.intro (.inl ⟨fn183, rfl, e183_ok⟩) (.intro trivial trivial)) trivial)))))))) (.intro trivial (.intro (.intro trivial (.intro (.intro (.inl ⟨fn35, rfl, e35_ok⟩) (.intro (.intro trivial (.intro (.intro (.inr ⟨idxP, rfl, rfl⟩) (.intro trivial trivial)) trivial)) trivial)) (.intro (.inl ⟨fn51, rfl, e51_ok⟩) (.intro trivial trivial)))) (.intro trivial (.intro (.intro trivial (.intro trivial (.intro trivial (.intro (.intro (.inl ⟨fn171, rfl, e171_ok⟩) (.intro trivial trivial)) trivial)))) (.intro trivial (.intro (.intro (.inl ⟨fn91, rfl, e91_ok⟩) (.intro (.intro (.inl ⟨fn155, rfl, e155_ok⟩) (.intro trivial trivial)) trivial)) (.intro (.inl ⟨fn123, rfl, e123_ok⟩) (.intro trivial trivial)))))))))) (.intro trivial (.intro (.intro trivial (.intro (.intro trivial (.intro trivial (.intro trivial (.intro (.intro (.inl ⟨fn81, rfl, e81_ok⟩) (.intro (.intro (.inl ⟨fn145, rfl, e145_ok⟩) (.intro trivial trivial)) trivial)) (.intro (.inr ⟨joinP, rfl, rfl⟩) (.intro trivial trivial)))))) (.intro trivial (.intro (.intro trivial (.intro trivial (.intro (.inl ⟨fn105, rfl, e105_ok⟩) (.intro trivial trivial)))) (.intro trivial (.intro (.intro trivial (.intro (.intro (.inl ⟨fn153, rfl, e153_ok⟩) (.intro trivial trivial)) trivial)) (.intro (.inl ⟨fn121, rfl, e121_ok⟩) (.intro (.intro (.inl ⟨fn185, rfl, e185_ok⟩) (.intro trivial trivial)) trivial)))))))) (.intro trivial (.intro (.intro trivial (.intro trivial (.intro (.inl ⟨fn53, rfl, e53_ok⟩) (.intro trivial (.intro trivial (.intro (.intro (.inl ⟨fn181, rfl, e181_ok⟩) (.intro trivial trivial)) trivial)))))) (.intro (.inl ⟨fn29, rfl, e29_ok⟩) (.intro (.intro trivial (.intro (.intro trivial (.intro (.intro (.inl ⟨fn141, rfl, e141_ok⟩) (.intro trivial trivial)) trivial)) (.intro trivial (.intro (.intro (.inl ⟨fn173, rfl, e173_ok⟩) (.intro trivial trivial)) trivial)))) (.intro (.inl ⟨fn61, rfl, e61_ok⟩) (.intro (.intro (.inl ⟨fn93, rfl, e93_ok⟩) (.intro (.intro (.inl ⟨fn157, rfl, e157_ok⟩) (.intro trivial trivial)) trivial)) trivial)))))))))) (.intro trivial (.intro (.intro trivial (.intro (.intro trivial (.intro (.intro trivial (.intro (.intro (.inl ⟨fn32, rfl, e32_ok⟩) (.intro (.intro trivial (.intro (.intro (.inl ⟨fn128, rfl, e128_ok⟩) (.intro trivial trivial)) (.intro (.inl ⟨fn192, rfl, e192_ok⟩) (.intro trivial trivial)))) (.intro trivial (.intro (.intro (.inl ⟨fn160, rfl, e160_ok⟩) (.intro trivial trivial)) trivial)))) (.intro trivial (.intro (.intro (.inl ⟨fn80, rfl, e80_ok⟩) (.intro (.intro (.inl ⟨fn144, rfl, e144_ok⟩) (.intro trivial trivial)) trivial)) (.intro (.inl ⟨fn112, rfl, e112_ok⟩) (.intro trivial trivial)))))) (.intro trivial (.intro trivial (.intro trivial (.intro (.intro (.inl ⟨fn88, rfl, e88_ok⟩) (.intro (.intro (.inl ⟨fn152, rfl, e152_ok⟩) (.intro trivial trivial)) trivial)) (.intro (.inl ⟨fn120, rfl, e120_ok⟩) (.intro (.intro (.inl ⟨fn184, rfl, e184_ok⟩) (.intro trivial trivial)) trivial)))))))) (.intro (.inl ⟨fn12, rfl, e12_ok⟩) (.intro (.intro trivial (.intro trivial (.intro (.inl ⟨fn52, rfl, e52_ok⟩) (.intro trivial (.intro trivial (.intro (.intro (.inl ⟨fn180, rfl, e180_ok⟩) (.intro trivial trivial)) trivial)))))) (.intro trivial (.intro (.intro trivial (.intro (.intro trivial (.intro (.intro (.inl ⟨fn140, rfl, e140_ok⟩) (.intro trivial trivial)) trivial)) (.intro trivial (.intro (.intro (.inl ⟨fn172, rfl, e172_ok⟩) (.intro trivial trivial)) trivial)))) (.intro trivial (.intro (.intro (.inl ⟨fn92, rfl, e92_ok⟩) (.intro (.intro (.inl ⟨fn156, rfl, e156_ok⟩) (.intro trivial trivial)) trivial)) trivial)))))))) (.intro trivial (.intro (.intro trivial (.intro (.intro trivial (.intro (.intro trivial (.intro (.intro trivial (.intro (.intro (.inl ⟨fn130, rfl, e130_ok⟩) (.intro trivial trivial)) trivial)) (.intro trivial (.intro (.intro (.inl ⟨fn162, rfl, e162_ok⟩) (.intro trivial trivial)) trivial)))) (.intro trivial (.intro (.intro trivial (.intro (.intro (.inl ⟨fn146, rfl, e146_ok⟩) (.intro trivial trivial)) trivial)) (.intro (.inl ⟨fn114, rfl, e114_ok⟩) (.intro trivial trivial)))))) (.intro trivial (.intro trivial (.intro trivial (.intro (.intro trivial (.intro (.intro (.inl ⟨fn154, rfl, e154_ok⟩) (.intro trivial trivial)) trivial)) (.intro (.inl ⟨fn122, rfl, e122_ok⟩) (.intro (.intro (.inl ⟨fn186, rfl, e186_ok⟩) (.intro trivial trivial)) trivial)))))))) (.intro trivial (.intro (.intro trivial (.intro (.intro trivial (.intro (.intro trivial (.intro trivial (.intro (.inl ⟨fn198, rfl, e198_ok⟩) (.intro trivial trivial)))) (.intro (.inl ⟨fn102, rfl, e102_ok⟩) (.intro trivial trivial)))) (.intro trivial (.intro (.intro trivial (.intro (.intro (.inl ⟨fn150, rfl, e150_ok⟩) (.intro trivial trivial)) trivial)) (.intro trivial (.intro (.intro (.inl ⟨fn182, rfl, e182_ok⟩) (.intro trivial trivial)) trivial)))))) (.intro (.inl ⟨fn30, rfl, e30_ok⟩) (.intro (.intro trivial (.intro (.intro (.inl ⟨fn78, rfl, e78_ok⟩) (.intro (.intro (.inl ⟨fn142, rfl, e142_ok⟩) (.intro trivial trivial)) trivial)) trivial)) (.intro (.inl ⟨fn62, rfl, e62_ok⟩) (.intro (.intro (.inl ⟨fn94, rfl, e94_ok⟩) (.intro (.intro (.inl ⟨fn158, rfl, e158_ok⟩) (.intro trivial trivial)) trivial)) trivial)))))))))))) h
end Go.Am.AmTrydAgeNumbers
