/- The abstract machine's texts for the law IntegrityNumbers: printed functions of the program, and what they are shown to be. -/
import Derived.Test.YtpfaceclaigpgaaDoorCSh1
import Derived.KernelRfl
namespace Go.Am.AmTrydIntegrityNumbers
set_option maxRecDepth 1000000
set_option linter.unusedVariables false
/-- internal/strconv.formatBits -/
def fn177 : Fun := ⟨5,
  (.seq (.reg [⟨(some 10), none, (.p .mv), [(.c .nils)], none⟩,
    ⟨(some 11), none, (.p .mv), [(.c (.str []))], none⟩])
  (.keep [0, 1, 2, 3, 4, 10, 11] (.seq (.seq (.reg [⟨(some 19), none, (.p .mv), [(.t 2)], none⟩,
    ⟨(some 20), none, (.p (.bin .lss)), [(.t 19), (.c (.int .i64 (.ofNat 2)))], none⟩,
    ⟨(some 21), none, (.p .mv), [(.t 20)], none⟩,
    ⟨(some 22), some (21, false), (.p .mv), [(.t 2)], none⟩,
    ⟨(some 23), some (21, false), (.p (.bin .eql)), [(.t 22), (.c (.int .i64 (.ofNat 10)))], none⟩,
    ⟨(some 24), none, (.p .pick), [(.t 21), (.c (.bool true)), (.t 23)], none⟩,
    ⟨(some 25), none, (.p .mv), [(.t 24)], none⟩,
    ⟨(some 26), some (25, false), (.p .mv), [(.t 2)], none⟩,
    ⟨(some 27), some (25, false), (.p (.bin .gtr)), [(.t 26), (.c (.int .i64 (.ofNat 36)))], none⟩,
    ⟨(some 28), none, (.p .pick), [(.t 25), (.c (.bool true)), (.t 27)], none⟩])
  (.keep [0, 1, 2, 3, 4, 10, 11, 28] (.cond (.t 28)
   .bad
   .skip)))
  (.keep [0, 1, 2, 3, 4, 10, 11] (.seq (.reg [⟨(some 12), none, (.e (.alloc (repl 65 [(.int .u8 (.ofNat 0))]))), [], none⟩])
  (.keep [0, 1, 2, 3, 4, 10, 11, 12] (.seq (.reg [⟨(some 13), none, (.p .mv), [(.c (.int .i64 (.ofNat 65)))], none⟩])
  (.keep [0, 1, 2, 3, 4, 10, 11, 12, 13] (.seq (.seq (.reg [⟨(some 30), none, (.p .mv), [(.t 3)], none⟩])
  (.keep [0, 1, 2, 3, 4, 10, 11, 12, 13, 30] (.cond (.t 30)
   (.reg [⟨(some 31), none, (.p .mv), [(.t 1)], none⟩,
     ⟨(some 32), none, (.p (.un .neg)), [(.t 31)], none⟩,
     ⟨(some 1), none, (.p .mv), [(.t 32)], none⟩])
   .skip)))
  (.keep [0, 1, 2, 3, 4, 10, 11, 12, 13] (.seq (.seq (.reg [⟨(some 33), none, (.p .mv), [(.t 2)], none⟩,
    ⟨(some 34), none, (.call 195), [(.t 33)], none⟩])
  (.keep [0, 1, 2, 3, 4, 10, 11, 12, 13, 34] (.cond (.t 34)
   (.seq (.reg [⟨(some 35), none, (.p .mv), [(.t 2)], none⟩,
     ⟨(some 36), none, (.p (.toInt .u64)), [(.t 35)], none⟩,
     ⟨(some 37), none, (.call 196), [(.t 36)], none⟩,
     ⟨(some 38), none, (.p (.toInt .u64)), [(.t 37)], none⟩,
     ⟨(some 14), none, (.p .mv), [(.t 38)], none⟩])
   (.keep [0, 1, 2, 3, 4, 10, 11, 12, 13, 14] (.seq (.reg [⟨(some 39), none, (.p .mv), [(.t 2)], none⟩,
     ⟨(some 40), none, (.p (.toInt .u64)), [(.t 39)], none⟩,
     ⟨(some 15), none, (.p .mv), [(.t 40)], none⟩])
   (.keep [0, 1, 2, 3, 4, 10, 11, 12, 13, 14, 15] (.seq (.reg [⟨(some 41), none, (.p .mv), [(.t 2)], none⟩,
     ⟨(some 42), none, (.p (.toInt .u64)), [(.t 41)], none⟩,
     ⟨(some 43), none, (.p (.bin .sub)), [(.t 42), (.c (.int .u64 (.ofNat 1)))], none⟩,
     ⟨(some 16), none, (.p .mv), [(.t 43)], none⟩])
   (.keep [0, 1, 3, 4, 10, 11, 12, 13, 14, 15, 16] (.seq (.block 0
    (.loop
     (.keep [0, 1, 3, 4, 10, 11, 12, 13, 14, 15, 16] (.seq (.seq (.reg [⟨(some 44), none, (.p .mv), [(.t 1)], none⟩,
       ⟨(some 45), none, (.p .mv), [(.t 15)], none⟩,
       ⟨(some 46), none, (.p (.bin .geq)), [(.t 44), (.t 45)], none⟩])
     (.keep [0, 1, 3, 4, 10, 11, 12, 13, 14, 15, 16, 46] (.cond (.t 46)
      .skip
      (.keep [0, 1, 3, 4, 10, 11, 12, 13] (.exit 0)))))
     (.keep [0, 1, 3, 4, 10, 11, 12, 13, 14, 15, 16] (.block 1
      (.seq (.reg [⟨(some 47), none, (.p .mv), [(.t 13)], none⟩,
        ⟨(some 48), none, (.p (.bin .sub)), [(.t 47), (.c (.int .i64 (.ofNat 1)))], none⟩,
        ⟨(some 13), none, (.p .mv), [(.t 48)], none⟩])
      (.keep [0, 1, 3, 4, 10, 11, 12, 13, 14, 15, 16] (.seq (.reg [⟨(some 49), none, (.p .mv), [(.t 13)], none⟩,
        ⟨(some 50), none, (.p .mv), [(.t 1)], none⟩,
        ⟨(some 51), none, (.p .mv), [(.t 16)], none⟩,
        ⟨(some 52), none, (.p (.bin .and)), [(.t 50), (.t 51)], none⟩,
        ⟨(some 53), none, (.p .strIndex), [(.c (.str (bs [48, 49, 50, 51, 52, 53, 54, 55, 56, 57, 97, 98, 99, 100, 101, 102, 103, 104, 105, 106, 107, 108, 109, 110, 111, 112, 113, 114, 115, 116, 117, 118, 119, 120, 121, 122]))), (.t 52)], none⟩,
        ⟨(some 54), none, (.p (.arrIdx 65 1)), [(.t 12), (.t 49)], none⟩,
        ⟨none, none, (.e (.store 1)), [(.t 54), (.t 53)], none⟩])
      (.keep [0, 1, 3, 4, 10, 11, 12, 13, 14, 15, 16] (.reg [⟨(some 55), none, (.p .mv), [(.t 1)], none⟩,
        ⟨(some 56), none, (.p .mv), [(.t 14)], none⟩,
        ⟨(some 57), none, (.p (.bin .shr)), [(.t 55), (.t 56)], none⟩,
        ⟨(some 1), none, (.p .mv), [(.t 57)], none⟩])))))))))))
   (.keep [0, 1, 3, 4, 10, 11, 12, 13] (.seq (.reg [⟨(some 58), none, (.p .mv), [(.t 13)], none⟩,
     ⟨(some 59), none, (.p (.bin .sub)), [(.t 58), (.c (.int .i64 (.ofNat 1)))], none⟩,
     ⟨(some 13), none, (.p .mv), [(.t 59)], none⟩])
   (.keep [0, 1, 3, 4, 10, 11, 12, 13] (.reg [⟨(some 60), none, (.p .mv), [(.t 13)], none⟩,
     ⟨(some 61), none, (.p .mv), [(.t 1)], none⟩,
     ⟨(some 62), none, (.p .strIndex), [(.c (.str (bs [48, 49, 50, 51, 52, 53, 54, 55, 56, 57, 97, 98, 99, 100, 101, 102, 103, 104, 105, 106, 107, 108, 109, 110, 111, 112, 113, 114, 115, 116, 117, 118, 119, 120, 121, 122]))), (.t 61)], none⟩,
     ⟨(some 63), none, (.p (.arrIdx 65 1)), [(.t 12), (.t 60)], none⟩,
     ⟨none, none, (.e (.store 1)), [(.t 63), (.t 62)], none⟩])))))))))))
   (.seq (.reg [⟨(some 64), none, (.p .mv), [(.t 2)], none⟩,
     ⟨(some 65), none, (.p (.toInt .u64)), [(.t 64)], none⟩,
     ⟨(some 17), none, (.p .mv), [(.t 65)], none⟩])
   (.keep [0, 1, 3, 4, 10, 11, 12, 13, 17] (.seq (.block 2
    (.loop
     (.keep [0, 1, 3, 4, 10, 11, 12, 13, 17] (.seq (.seq (.reg [⟨(some 66), none, (.p .mv), [(.t 1)], none⟩,
       ⟨(some 67), none, (.p .mv), [(.t 17)], none⟩,
       ⟨(some 68), none, (.p (.bin .geq)), [(.t 66), (.t 67)], none⟩])
     (.keep [0, 1, 3, 4, 10, 11, 12, 13, 17, 68] (.cond (.t 68)
      .skip
      (.keep [0, 1, 3, 4, 10, 11, 12, 13] (.exit 2)))))
     (.keep [0, 1, 3, 4, 10, 11, 12, 13, 17] (.block 3
      (.seq (.reg [⟨(some 69), none, (.p .mv), [(.t 13)], none⟩,
        ⟨(some 70), none, (.p (.bin .sub)), [(.t 69), (.c (.int .i64 (.ofNat 1)))], none⟩,
        ⟨(some 13), none, (.p .mv), [(.t 70)], none⟩])
      (.keep [0, 1, 3, 4, 10, 11, 12, 13, 17] (.seq (.reg [⟨(some 71), none, (.p .mv), [(.t 1)], none⟩,
        ⟨(some 72), none, (.p .mv), [(.t 17)], none⟩,
        ⟨(some 73), none, (.p (.bin .quo)), [(.t 71), (.t 72)], none⟩,
        ⟨(some 18), none, (.p .mv), [(.t 73)], none⟩])
      (.keep [0, 1, 3, 4, 10, 11, 12, 13, 17, 18] (.seq (.reg [⟨(some 74), none, (.p .mv), [(.t 13)], none⟩,
        ⟨(some 75), none, (.p .mv), [(.t 1)], none⟩,
        ⟨(some 76), none, (.p .mv), [(.t 18)], none⟩,
        ⟨(some 77), none, (.p .mv), [(.t 17)], none⟩,
        ⟨(some 78), none, (.p (.bin .mul)), [(.t 76), (.t 77)], none⟩,
        ⟨(some 79), none, (.p (.bin .sub)), [(.t 75), (.t 78)], none⟩,
        ⟨(some 80), none, (.p .strIndex), [(.c (.str (bs [48, 49, 50, 51, 52, 53, 54, 55, 56, 57, 97, 98, 99, 100, 101, 102, 103, 104, 105, 106, 107, 108, 109, 110, 111, 112, 113, 114, 115, 116, 117, 118, 119, 120, 121, 122]))), (.t 79)], none⟩,
        ⟨(some 81), none, (.p (.arrIdx 65 1)), [(.t 12), (.t 74)], none⟩,
        ⟨none, none, (.e (.store 1)), [(.t 81), (.t 80)], none⟩])
      (.keep [0, 3, 4, 10, 11, 12, 13, 17, 18] (.reg [⟨(some 82), none, (.p .mv), [(.t 18)], none⟩,
        ⟨(some 1), none, (.p .mv), [(.t 82)], none⟩])))))))))))))
   (.keep [0, 1, 3, 4, 10, 11, 12, 13] (.seq (.reg [⟨(some 83), none, (.p .mv), [(.t 13)], none⟩,
     ⟨(some 84), none, (.p (.bin .sub)), [(.t 83), (.c (.int .i64 (.ofNat 1)))], none⟩,
     ⟨(some 13), none, (.p .mv), [(.t 84)], none⟩])
   (.keep [0, 1, 3, 4, 10, 11, 12, 13] (.reg [⟨(some 85), none, (.p .mv), [(.t 13)], none⟩,
     ⟨(some 86), none, (.p .mv), [(.t 1)], none⟩,
     ⟨(some 87), none, (.p .strIndex), [(.c (.str (bs [48, 49, 50, 51, 52, 53, 54, 55, 56, 57, 97, 98, 99, 100, 101, 102, 103, 104, 105, 106, 107, 108, 109, 110, 111, 112, 113, 114, 115, 116, 117, 118, 119, 120, 121, 122]))), (.t 86)], none⟩,
     ⟨(some 88), none, (.p (.arrIdx 65 1)), [(.t 12), (.t 85)], none⟩,
     ⟨none, none, (.e (.store 1)), [(.t 88), (.t 87)], none⟩]))))))))))
  (.keep [0, 3, 4, 10, 11, 12, 13] (.seq (.seq (.reg [⟨(some 89), none, (.p .mv), [(.t 3)], none⟩])
  (.keep [0, 4, 10, 11, 12, 13, 89] (.cond (.t 89)
   (.seq (.reg [⟨(some 90), none, (.p .mv), [(.t 13)], none⟩,
     ⟨(some 91), none, (.p (.bin .sub)), [(.t 90), (.c (.int .i64 (.ofNat 1)))], none⟩,
     ⟨(some 13), none, (.p .mv), [(.t 91)], none⟩])
   (.keep [0, 4, 10, 11, 12, 13] (.reg [⟨(some 92), none, (.p .mv), [(.t 13)], none⟩,
     ⟨(some 93), none, (.p (.arrIdx 65 1)), [(.t 12), (.t 92)], none⟩,
     ⟨none, none, (.e (.store 1)), [(.t 93), (.c (.int .u8 (.ofNat 45)))], none⟩])))
   .skip)))
  (.keep [0, 4, 10, 11, 12, 13] (.seq (.seq (.reg [⟨(some 94), none, (.p .mv), [(.t 4)], none⟩])
  (.keep [0, 10, 11, 12, 13, 94] (.cond (.t 94)
   (.seq (.reg [⟨(some 95), none, (.p .mv), [(.t 0)], none⟩,
     ⟨(some 96), none, (.p .mv), [(.t 13)], none⟩,
     ⟨(some 97), none, (.p (.arrSlice 65 1 true false false)), [(.t 12), (.t 96)], none⟩,
     ⟨(some 98), none, (.e (.append 1 1)), [(.t 95), (.t 97)], none⟩,
     ⟨(some 10), none, (.p .mv), [(.t 98)], none⟩])
   (.keep [10, 11] (.keep [10, 11] .ret)))
   .skip)))
  (.keep [10, 12, 13] (.seq (.reg [⟨(some 99), none, (.p .mv), [(.t 13)], none⟩,
    ⟨(some 100), none, (.p (.arrSlice 65 1 true false false)), [(.t 12), (.t 99)], none⟩,
    ⟨(some 101), none, (.l .bytesStr), [(.t 100)], none⟩,
    ⟨(some 11), none, (.p .mv), [(.t 101)], none⟩])
  (.keep [10, 11] (.keep [10, 11] .ret))))))))))))))))))),
  [(.t 10), (.t 11)]⟩
def s177_j2 (call : CallK) (N : Nat) (q : KV) (st : St) (τ : Tape) : Ans :=
  match st with
  | ⟨fr, H⟩ =>
  getK fr 0 fun t0 =>
  getK fr 4 fun t4 =>
  getK fr 10 fun t10 =>
  getK fr 11 fun t11 =>
  getK fr 12 fun t12 =>
  getK fr 13 fun t13 =>
  condK t4
    (someK (pArrSlice 65 1 true false false [t12, t13]) fun v21 =>
  effK (eAppend 1 1 [t0, v21] H τ) fun v22 H23 τ24 =>
  q (.tup [v22, t11]) H23 τ24)
    (someK (pArrSlice 65 1 true false false [t12, t13]) fun v25 =>
  someK (lBytesStr [v25] H) fun v26 =>
  q (.tup [t10, v26]) H τ)
def s177_j1 (call : CallK) (N : Nat) (q : KV) (st : St) (τ : Tape) : Ans :=
  match st with
  | ⟨fr, H⟩ =>
  getK fr 0 fun t0 =>
  getK fr 3 fun t3 =>
  getK fr 4 fun t4 =>
  getK fr 10 fun t10 =>
  getK fr 11 fun t11 =>
  getK fr 12 fun t12 =>
  getK fr 13 fun t13 =>
  condK t3
    (binK .sub t13 (.int .i64 (.ofNat 1)) fun v27 =>
  someK (pArrIdx 65 1 [t12, v27]) fun v28 =>
  effK (eStore 1 [v28, (.int .u8 (.ofNat 45))] H τ) fun v29 H30 τ31 =>
  s177_j2 call N q ⟨(T.set (T.set (T.set (T.set (T.set (T.set (T.set (T.set .leaf 0 t0) 4 t4) 10 t10) 11 t11) 12 t12) 13 v27) 92 v27) 93 v28), H30⟩ τ31)
    (s177_j2 call N q ⟨(T.set (T.set (T.set (T.set (T.set (T.set (T.set .leaf 0 t0) 4 t4) 10 t10) 11 t11) 12 t12) 13 t13) 89 t3), H⟩ τ)
def s177_j3 (call : CallK) (N : Nat) (q : KV) (st : St) (τ : Tape) : Ans :=
  match st with
  | ⟨fr, H⟩ =>
  getK fr 0 fun t0 =>
  getK fr 1 fun t1 =>
  getK fr 3 fun t3 =>
  getK fr 4 fun t4 =>
  getK fr 10 fun t10 =>
  getK fr 11 fun t11 =>
  getK fr 12 fun t12 =>
  getK fr 13 fun t13 =>
  binK .sub t13 (.int .i64 (.ofNat 1)) fun v40 =>
  someK (pStrIndex [(.str (bs [48, 49, 50, 51, 52, 53, 54, 55, 56, 57, 97, 98, 99, 100, 101, 102, 103, 104, 105, 106, 107, 108, 109, 110, 111, 112, 113, 114, 115, 116, 117, 118, 119, 120, 121, 122])), t1]) fun v41 =>
  someK (pArrIdx 65 1 [t12, v40]) fun v42 =>
  effK (eStore 1 [v42, v41] H τ) fun v43 H44 τ45 =>
  s177_j1 call N q ⟨(T.set (T.set (T.set (T.set (T.set (T.set (T.set (T.set (T.set (T.set (T.set (T.set .leaf 0 t0) 1 t1) 3 t3) 4 t4) 10 t10) 11 t11) 12 t12) 13 v40) 60 v40) 61 t1) 62 v41) 63 v42), H44⟩ τ45
def s177_l4 (call : CallK) (N : Nat) (st : St) (τ : Tape) (k : KC) : Ans :=
  match st with
  | ⟨fr, H⟩ =>
  getK fr 0 fun t0 =>
  getK fr 1 fun t1 =>
  getK fr 3 fun t3 =>
  getK fr 4 fun t4 =>
  getK fr 10 fun t10 =>
  getK fr 11 fun t11 =>
  getK fr 12 fun t12 =>
  getK fr 13 fun t13 =>
  getK fr 14 fun t14 =>
  getK fr 15 fun t15 =>
  getK fr 16 fun t16 =>
  binK .geq t1 t15 fun v46 =>
  condK v46
    (binK .sub t13 (.int .i64 (.ofNat 1)) fun v47 =>
  binK .and t1 t16 fun v48 =>
  someK (pStrIndex [(.str (bs [48, 49, 50, 51, 52, 53, 54, 55, 56, 57, 97, 98, 99, 100, 101, 102, 103, 104, 105, 106, 107, 108, 109, 110, 111, 112, 113, 114, 115, 116, 117, 118, 119, 120, 121, 122])), v48]) fun v49 =>
  someK (pArrIdx 65 1 [t12, v47]) fun v50 =>
  effK (eStore 1 [v50, v49] H τ) fun v51 H52 τ53 =>
  binK .shr t1 t14 fun v54 =>
  k .normal ⟨(T.set (T.set (T.set (T.set (T.set (T.set (T.set (T.set (T.set (T.set (T.set (T.set (T.set (T.set (T.set .leaf 0 t0) 1 t1) 3 t3) 4 t4) 10 t10) 11 t11) 12 t12) 13 v47) 14 t14) 15 t15) 16 t16) 55 t1) 56 t14) 57 v54) 1 v54), H52⟩ τ53)
    (k (.exit 0) ⟨(T.set (T.set (T.set (T.set (T.set (T.set (T.set (T.set .leaf 0 t0) 1 t1) 3 t3) 4 t4) 10 t10) 11 t11) 12 t12) 13 t13), H⟩ τ)
def s177_j5 (call : CallK) (N : Nat) (q : KV) (st : St) (τ : Tape) : Ans :=
  match st with
  | ⟨fr, H⟩ =>
  getK fr 0 fun t0 =>
  getK fr 1 fun t1 =>
  getK fr 3 fun t3 =>
  getK fr 4 fun t4 =>
  getK fr 10 fun t10 =>
  getK fr 11 fun t11 =>
  getK fr 12 fun t12 =>
  getK fr 13 fun t13 =>
  binK .sub t13 (.int .i64 (.ofNat 1)) fun v56 =>
  someK (pStrIndex [(.str (bs [48, 49, 50, 51, 52, 53, 54, 55, 56, 57, 97, 98, 99, 100, 101, 102, 103, 104, 105, 106, 107, 108, 109, 110, 111, 112, 113, 114, 115, 116, 117, 118, 119, 120, 121, 122])), t1]) fun v57 =>
  someK (pArrIdx 65 1 [t12, v56]) fun v58 =>
  effK (eStore 1 [v58, v57] H τ) fun v59 H60 τ61 =>
  s177_j1 call N q ⟨(T.set (T.set (T.set (T.set (T.set (T.set (T.set (T.set (T.set (T.set (T.set (T.set .leaf 0 t0) 1 t1) 3 t3) 4 t4) 10 t10) 11 t11) 12 t12) 13 v56) 85 v56) 86 t1) 87 v57) 88 v58), H60⟩ τ61
def s177_l6 (call : CallK) (N : Nat) (st : St) (τ : Tape) (k : KC) : Ans :=
  match st with
  | ⟨fr, H⟩ =>
  getK fr 0 fun t0 =>
  getK fr 1 fun t1 =>
  getK fr 3 fun t3 =>
  getK fr 4 fun t4 =>
  getK fr 10 fun t10 =>
  getK fr 11 fun t11 =>
  getK fr 12 fun t12 =>
  getK fr 13 fun t13 =>
  getK fr 17 fun t17 =>
  binK .geq t1 t17 fun v62 =>
  condK v62
    (binK .sub t13 (.int .i64 (.ofNat 1)) fun v63 =>
  binK .quo t1 t17 fun v64 =>
  binK .mul v64 t17 fun v65 =>
  binK .sub t1 v65 fun v66 =>
  someK (pStrIndex [(.str (bs [48, 49, 50, 51, 52, 53, 54, 55, 56, 57, 97, 98, 99, 100, 101, 102, 103, 104, 105, 106, 107, 108, 109, 110, 111, 112, 113, 114, 115, 116, 117, 118, 119, 120, 121, 122])), v66]) fun v67 =>
  someK (pArrIdx 65 1 [t12, v63]) fun v68 =>
  effK (eStore 1 [v68, v67] H τ) fun v69 H70 τ71 =>
  k .normal ⟨(T.set (T.set (T.set (T.set (T.set (T.set (T.set (T.set (T.set (T.set (T.set .leaf 0 t0) 3 t3) 4 t4) 10 t10) 11 t11) 12 t12) 13 v63) 17 t17) 18 v64) 82 v64) 1 v64), H70⟩ τ71)
    (k (.exit 2) ⟨(T.set (T.set (T.set (T.set (T.set (T.set (T.set (T.set .leaf 0 t0) 1 t1) 3 t3) 4 t4) 10 t10) 11 t11) 12 t12) 13 t13), H⟩ τ)
def s177_j0 (call : CallK) (N : Nat) (q : KV) (st : St) (τ : Tape) : Ans :=
  match st with
  | ⟨fr, H⟩ =>
  getK fr 0 fun t0 =>
  getK fr 1 fun t1 =>
  getK fr 2 fun t2 =>
  getK fr 3 fun t3 =>
  getK fr 4 fun t4 =>
  getK fr 10 fun t10 =>
  getK fr 11 fun t11 =>
  getK fr 12 fun t12 =>
  getK fr 13 fun t13 =>
  call 195 [t2] H τ fun v18 H19 τ20 =>
  condK v18
    (toIntK .u64 t2 fun v32 =>
  call 196 [v32] H19 τ20 fun v33 H34 τ35 =>
  toIntK .u64 v33 fun v36 =>
  toIntK .u64 t2 fun v37 =>
  toIntK .u64 t2 fun v38 =>
  binK .sub v38 (.int .u64 (.ofNat 1)) fun v39 =>
  loopK (s177_l4 call N) N ⟨(T.set (T.set (T.set (T.set (T.set (T.set (T.set (T.set (T.set (T.set (T.set .leaf 0 t0) 1 t1) 3 t3) 4 t4) 10 t10) 11 t11) 12 t12) 13 t13) 14 v36) 15 v37) 16 v39), H34⟩ τ35 (blockK 0 (seqK (s177_j3 call N q) (seqK (s177_j1 call N q) (endK [(.t 10), (.t 11)] q)))))
    (toIntK .u64 t2 fun v55 =>
  loopK (s177_l6 call N) N ⟨(T.set (T.set (T.set (T.set (T.set (T.set (T.set (T.set (T.set .leaf 0 t0) 1 t1) 3 t3) 4 t4) 10 t10) 11 t11) 12 t12) 13 t13) 17 v55), H19⟩ τ20 (blockK 2 (seqK (s177_j5 call N q) (seqK (s177_j1 call N q) (endK [(.t 10), (.t 11)] q)))))
def s177 (call : CallK) (N : Nat) (a0 a1 a2 a3 a4 : V) (H : Heap) (τ : Tape) (q : KV) : Ans :=
  binK .lss a2 (.int .i64 (.ofNat 2)) fun v0 =>
  gK v0 false (fun q' => q' a2 H τ) H τ fun v1 H2 τ3 =>
  gK v0 false (fun q' => binK .eql v1 (.int .i64 (.ofNat 10)) fun v => q' v H2 τ3) H2 τ3 fun v4 H5 τ6 =>
  someK (pPick [v0, (.bool true), v4]) fun v7 =>
  gK v7 false (fun q' => q' a2 H5 τ6) H5 τ6 fun v8 H9 τ10 =>
  gK v7 false (fun q' => binK .gtr v8 (.int .i64 (.ofNat 36)) fun v => q' v H9 τ10) H9 τ10 fun v11 H12 τ13 =>
  someK (pPick [v7, (.bool true), v11]) fun v14 =>
  condK v14
    (none)
    (effK (eAlloc (repl 65 [(.int .u8 (.ofNat 0))]) [] H12 τ13) fun v15 H16 τ17 =>
  condK a3
    (unK .neg a1 fun v72 =>
  s177_j0 call N q ⟨(T.set (T.set (T.set (T.set (T.set (T.set (T.set (T.set (T.set (T.set (T.set (T.set (T.set .leaf 0 a0) 1 a1) 2 a2) 3 a3) 4 a4) 10 .nils) 11 (.str [])) 12 v15) 13 (.int .i64 (.ofNat 65))) 30 a3) 31 a1) 32 v72) 1 v72), H16⟩ τ17)
    (s177_j0 call N q ⟨(T.set (T.set (T.set (T.set (T.set (T.set (T.set (T.set (T.set (T.set .leaf 0 a0) 1 a1) 2 a2) 3 a3) 4 a4) 10 .nils) 11 (.str [])) 12 v15) 13 (.int .i64 (.ofNat 65))) 30 a3), H16⟩ τ17))
theorem s177_eq (call : CallK) (N : Nat) (a0 a1 a2 a3 a4 : V) (H : Heap) (τ : Tape) (q : KV) : s177 call N a0 a1 a2 a3 a4 H τ q = funK call N fn177 [a0, a1, a2, a3, a4] H τ q := by kernel_rfl
def e177 (call : CallK) (N : Nat) (vs : List V) (H : Heap) (τ : Tape) (q : KV) : Ans := match vs with | [a0, a1, a2, a3, a4] => s177 call N a0 a1 a2 a3 a4 H τ q | _ => none
theorem e177_ok : EntOk fn177 e177 := by
  intro call N vs H τ q r h
  unfold e177 at h
  split at h
  · rw [s177_eq] at h; exact h
  · cases h
/-- internal/bytealg.hashStr[string] -/
def fn186 : Fun := ⟨1,
  (.seq (.reg [⟨(some 2), none, (.p .mv), [(.c (.int .u32 (.ofNat 0)))], none⟩,
    ⟨(some 3), none, (.p .mv), [(.c (.int .u32 (.ofNat 0)))], none⟩])
  (.keep [0] (.seq (.reg [⟨(some 4), none, (.p .mv), [(.c (.int .u32 (.ofNat 0)))], none⟩])
  (.keep [0, 4] (.seq (.seq (.reg [⟨(some 5), none, (.p .mv), [(.c (.int .i64 (.ofNat 0)))], none⟩])
  (.keep [0, 4, 5] (.block 0
   (.loop
    (.keep [0, 4, 5] (.seq (.seq (.reg [⟨(some 9), none, (.p .mv), [(.t 5)], none⟩,
      ⟨(some 10), none, (.p .mv), [(.t 0)], none⟩,
      ⟨(some 11), none, (.p .lenS), [(.t 10)], none⟩,
      ⟨(some 12), none, (.p (.bin .lss)), [(.t 9), (.t 11)], none⟩])
    (.keep [0, 4, 5, 12] (.cond (.t 12)
     .skip
     (.keep [0, 4] (.exit 0)))))
    (.keep [0, 4, 5] (.seq (.block 1
     (.reg [⟨(some 15), none, (.p .mv), [(.t 4)], none⟩,
       ⟨(some 16), none, (.p (.bin .mul)), [(.t 15), (.c (.int .u32 (.ofNat 16777619)))], none⟩,
       ⟨(some 17), none, (.p .mv), [(.t 0)], none⟩,
       ⟨(some 18), none, (.p .mv), [(.t 5)], none⟩,
       ⟨(some 19), none, (.p .strIndex), [(.t 17), (.t 18)], none⟩,
       ⟨(some 20), none, (.p (.toInt .u32)), [(.t 19)], none⟩,
       ⟨(some 21), none, (.p (.bin .add)), [(.t 16), (.t 20)], none⟩,
       ⟨(some 4), none, (.p .mv), [(.t 21)], none⟩]))
    (.keep [0, 4, 5] (.reg [⟨(some 13), none, (.p .mv), [(.t 5)], none⟩,
      ⟨(some 14), none, (.p (.bin .add)), [(.t 13), (.c (.int .i64 (.ofNat 1)))], none⟩,
      ⟨(some 5), none, (.p .mv), [(.t 14)], none⟩]))))))))))
  (.keep [0, 4] (.seq (.reg [⟨(some 6), none, (.p .mv), [(.c (.int .u32 (.ofNat 1)))], none⟩,
    ⟨(some 7), none, (.p .mv), [(.c (.int .u32 (.ofNat 16777619)))], none⟩])
  (.keep [0, 4, 6, 7] (.seq (.seq (.reg [⟨(some 22), none, (.p .mv), [(.t 0)], none⟩,
    ⟨(some 23), none, (.p .lenS), [(.t 22)], none⟩,
    ⟨(some 8), none, (.p .mv), [(.t 23)], none⟩])
  (.keep [4, 6, 7, 8] (.block 2
   (.loop
    (.keep [4, 6, 7, 8] (.seq (.seq (.reg [⟨(some 24), none, (.p .mv), [(.t 8)], none⟩,
      ⟨(some 25), none, (.p (.bin .gtr)), [(.t 24), (.c (.int .i64 (.ofNat 0)))], none⟩])
    (.keep [4, 6, 7, 8, 25] (.cond (.t 25)
     .skip
     (.keep [4, 6] (.exit 2)))))
    (.keep [4, 6, 7, 8] (.seq (.block 3
     (.seq (.seq (.reg [⟨(some 28), none, (.p .mv), [(.t 8)], none⟩,
       ⟨(some 29), none, (.p (.bin .and)), [(.t 28), (.c (.int .i64 (.ofNat 1)))], none⟩,
       ⟨(some 30), none, (.p (.bin .neq)), [(.t 29), (.c (.int .i64 (.ofNat 0)))], none⟩])
     (.keep [4, 6, 7, 8, 30] (.cond (.t 30)
      (.reg [⟨(some 31), none, (.p .mv), [(.t 6)], none⟩,
        ⟨(some 32), none, (.p .mv), [(.t 7)], none⟩,
        ⟨(some 33), none, (.p (.bin .mul)), [(.t 31), (.t 32)], none⟩,
        ⟨(some 6), none, (.p .mv), [(.t 33)], none⟩])
      .skip)))
     (.keep [4, 6, 7, 8] (.reg [⟨(some 34), none, (.p .mv), [(.t 7)], none⟩,
       ⟨(some 35), none, (.p .mv), [(.t 7)], none⟩,
       ⟨(some 36), none, (.p (.bin .mul)), [(.t 34), (.t 35)], none⟩,
       ⟨(some 7), none, (.p .mv), [(.t 36)], none⟩]))))
    (.keep [4, 6, 7, 8] (.reg [⟨(some 26), none, (.p .mv), [(.t 8)], none⟩,
      ⟨(some 27), none, (.p (.bin .shr)), [(.t 26), (.c (.int .u64 (.ofNat 1)))], none⟩,
      ⟨(some 8), none, (.p .mv), [(.t 27)], none⟩]))))))))))
  (.keep [4, 6] (.seq (.reg [⟨(some 37), none, (.p .mv), [(.t 4)], none⟩,
    ⟨(some 38), none, (.p .mv), [(.t 6)], none⟩,
    ⟨(some 2), none, (.p .mv), [(.t 37)], none⟩,
    ⟨(some 3), none, (.p .mv), [(.t 38)], none⟩])
  (.keep [2, 3] (.keep [2, 3] .ret))))))))))))),
  [(.t 2), (.t 3)]⟩
def s186_j1 (call : CallK) (N : Nat) (q : KV) (st : St) (τ : Tape) : Ans :=
  match st with
  | ⟨fr, H⟩ =>
  getK fr 4 fun t4 =>
  getK fr 6 fun t6 =>
  q (.tup [t4, t6]) H τ
def s186_j3 (call : CallK) (N : Nat) (k : KC) (st : St) (τ : Tape) : Ans :=
  match st with
  | ⟨fr, H⟩ =>
  getK fr 4 fun t4 =>
  getK fr 6 fun t6 =>
  getK fr 7 fun t7 =>
  getK fr 8 fun t8 =>
  binK .shr t8 (.int .u64 (.ofNat 1)) fun v4 =>
  k .normal ⟨(T.set (T.set (T.set (T.set (T.set (T.set (T.set .leaf 4 t4) 6 t6) 7 t7) 8 t8) 26 t8) 27 v4) 8 v4), H⟩ τ
def s186_j4 (call : CallK) (N : Nat) (k : KC) (st : St) (τ : Tape) : Ans :=
  match st with
  | ⟨fr, H⟩ =>
  getK fr 4 fun t4 =>
  getK fr 6 fun t6 =>
  getK fr 7 fun t7 =>
  getK fr 8 fun t8 =>
  binK .mul t7 t7 fun v5 =>
  s186_j3 call N k ⟨(T.set (T.set (T.set (T.set (T.set (T.set (T.set (T.set .leaf 4 t4) 6 t6) 7 t7) 8 t8) 34 t7) 35 t7) 36 v5) 7 v5), H⟩ τ
def s186_l2 (call : CallK) (N : Nat) (st : St) (τ : Tape) (k : KC) : Ans :=
  match st with
  | ⟨fr, H⟩ =>
  getK fr 4 fun t4 =>
  getK fr 6 fun t6 =>
  getK fr 7 fun t7 =>
  getK fr 8 fun t8 =>
  binK .gtr t8 (.int .i64 (.ofNat 0)) fun v1 =>
  condK v1
    (binK .and t8 (.int .i64 (.ofNat 1)) fun v2 =>
  binK .neq v2 (.int .i64 (.ofNat 0)) fun v3 =>
  condK v3
    (binK .mul t6 t7 fun v6 =>
  s186_j4 call N k ⟨(T.set (T.set (T.set (T.set (T.set (T.set (T.set (T.set (T.set .leaf 4 t4) 6 t6) 7 t7) 8 t8) 30 v3) 31 t6) 32 t7) 33 v6) 6 v6), H⟩ τ)
    (s186_j4 call N k ⟨(T.set (T.set (T.set (T.set (T.set .leaf 4 t4) 6 t6) 7 t7) 8 t8) 30 v3), H⟩ τ))
    (k (.exit 2) ⟨(T.set (T.set .leaf 4 t4) 6 t6), H⟩ τ)
def s186_j0 (call : CallK) (N : Nat) (q : KV) (st : St) (τ : Tape) : Ans :=
  match st with
  | ⟨fr, H⟩ =>
  getK fr 0 fun t0 =>
  getK fr 4 fun t4 =>
  someK (pLenS [t0]) fun v0 =>
  loopK (s186_l2 call N) N ⟨(T.set (T.set (T.set (T.set .leaf 4 t4) 6 (.int .u32 (.ofNat 1))) 7 (.int .u32 (.ofNat 16777619))) 8 v0), H⟩ τ (blockK 2 (seqK (s186_j1 call N q) (endK [(.t 2), (.t 3)] q)))
def s186_l5 (call : CallK) (N : Nat) (st : St) (τ : Tape) (k : KC) : Ans :=
  match st with
  | ⟨fr, H⟩ =>
  getK fr 0 fun t0 =>
  getK fr 4 fun t4 =>
  getK fr 5 fun t5 =>
  someK (pLenS [t0]) fun v7 =>
  binK .lss t5 v7 fun v8 =>
  condK v8
    (binK .mul t4 (.int .u32 (.ofNat 16777619)) fun v9 =>
  someK (pStrIndex [t0, t5]) fun v10 =>
  toIntK .u32 v10 fun v11 =>
  binK .add v9 v11 fun v12 =>
  binK .add t5 (.int .i64 (.ofNat 1)) fun v13 =>
  k .normal ⟨(T.set (T.set (T.set (T.set (T.set (T.set .leaf 0 t0) 4 v12) 5 t5) 13 t5) 14 v13) 5 v13), H⟩ τ)
    (k (.exit 0) ⟨(T.set (T.set .leaf 0 t0) 4 t4), H⟩ τ)
def s186 (call : CallK) (N : Nat) (a0 : V) (H : Heap) (τ : Tape) (q : KV) : Ans :=
  loopK (s186_l5 call N) N ⟨(T.set (T.set (T.set .leaf 0 a0) 4 (.int .u32 (.ofNat 0))) 5 (.int .i64 (.ofNat 0))), H⟩ τ (blockK 0 (seqK (s186_j0 call N q) (endK [(.t 2), (.t 3)] q)))
theorem s186_eq (call : CallK) (N : Nat) (a0 : V) (H : Heap) (τ : Tape) (q : KV) : s186 call N a0 H τ q = funK call N fn186 [a0] H τ q := by kernel_rfl
def e186 (call : CallK) (N : Nat) (vs : List V) (H : Heap) (τ : Tape) (q : KV) : Ans := match vs with | [a0] => s186 call N a0 H τ q | _ => none
theorem e186_ok : EntOk fn186 e186 := by
  intro call N vs H τ q r h
  unfold e186 at h
  split at h
  · rw [s186_eq] at h; exact h
  · cases h
/-- ostiary/digest.right[uint32] -/
def fn187 : Fun := ⟨3,
  (.seq (.reg [⟨(some 6), none, (.p .mv), [(.c (.int .u32 (.ofNat 0)))], none⟩])
  (.keep [0, 1, 2] (.seq (.draw [⟨(some 7), none, (.p .mv), [(.t 0)], none⟩,
    ⟨(some 8), none, (.p .mv), [(.t 1)], none⟩,
    ⟨(some 9), none, (.p (.bin .shr)), [(.t 7), (.t 8)], none⟩,
    ⟨(some 10), none, (.p .mv), [(.t 0)], none⟩,
    ⟨(some 11), none, (.p .mv), [(.t 2)], none⟩,
    ⟨(some 12), none, (.p .mv), [(.t 1)], none⟩,
    ⟨(some 13), none, (.p (.bin .sub)), [(.t 11), (.t 12)], none⟩,
    ⟨(some 14), none, (.p (.bin .shl)), [(.t 10), (.t 13)], none⟩,
    ⟨(some 15), none, (.p (.bin .or)), [(.t 9), (.t 14)], none⟩,
    ⟨(some 6), none, (.p .mv), [(.t 15)], none⟩])
  (.keep [6] (.keep [6] .ret))))),
  [(.t 6)]⟩
def s187 (call : CallK) (N : Nat) (a0 a1 a2 : V) (H : Heap) (τ : Tape) (q : KV) : Ans :=
  binK .shr a0 a1 fun v0 =>
  binK .sub a2 a1 fun v1 =>
  binK .shl a0 v1 fun v2 =>
  binK .or v0 v2 fun v3 =>
  q v3 H τ
theorem s187_eq (call : CallK) (N : Nat) (a0 a1 a2 : V) (H : Heap) (τ : Tape) (q : KV) : s187 call N a0 a1 a2 H τ q = funK call N fn187 [a0, a1, a2] H τ q := by kernel_rfl
def e187 (call : CallK) (N : Nat) (vs : List V) (H : Heap) (τ : Tape) (q : KV) : Ans := match vs with | [a0, a1, a2] => s187 call N a0 a1 a2 H τ q | _ => none
theorem e187_ok : EntOk fn187 e187 := by
  intro call N vs H τ q r h
  unfold e187 at h
  split at h
  · rw [s187_eq] at h; exact h
  · cases h
/-- ostiary/digest.right[uint64] -/
def fn188 : Fun := ⟨3,
  (.seq (.reg [⟨(some 6), none, (.p .mv), [(.c (.int .u64 (.ofNat 0)))], none⟩])
  (.keep [0, 1, 2] (.seq (.draw [⟨(some 7), none, (.p .mv), [(.t 0)], none⟩,
    ⟨(some 8), none, (.p .mv), [(.t 1)], none⟩,
    ⟨(some 9), none, (.p (.bin .shr)), [(.t 7), (.t 8)], none⟩,
    ⟨(some 10), none, (.p .mv), [(.t 0)], none⟩,
    ⟨(some 11), none, (.p .mv), [(.t 2)], none⟩,
    ⟨(some 12), none, (.p .mv), [(.t 1)], none⟩,
    ⟨(some 13), none, (.p (.bin .sub)), [(.t 11), (.t 12)], none⟩,
    ⟨(some 14), none, (.p (.bin .shl)), [(.t 10), (.t 13)], none⟩,
    ⟨(some 15), none, (.p (.bin .or)), [(.t 9), (.t 14)], none⟩,
    ⟨(some 6), none, (.p .mv), [(.t 15)], none⟩])
  (.keep [6] (.keep [6] .ret))))),
  [(.t 6)]⟩
def s188 (call : CallK) (N : Nat) (a0 a1 a2 : V) (H : Heap) (τ : Tape) (q : KV) : Ans :=
  binK .shr a0 a1 fun v0 =>
  binK .sub a2 a1 fun v1 =>
  binK .shl a0 v1 fun v2 =>
  binK .or v0 v2 fun v3 =>
  q v3 H τ
theorem s188_eq (call : CallK) (N : Nat) (a0 a1 a2 : V) (H : Heap) (τ : Tape) (q : KV) : s188 call N a0 a1 a2 H τ q = funK call N fn188 [a0, a1, a2] H τ q := by kernel_rfl
def e188 (call : CallK) (N : Nat) (vs : List V) (H : Heap) (τ : Tape) (q : KV) : Ans := match vs with | [a0, a1, a2] => s188 call N a0 a1 a2 H τ q | _ => none
theorem e188_ok : EntOk fn188 e188 := by
  intro call N vs H τ q r h
  unfold e188 at h
  split at h
  · rw [s188_eq] at h; exact h
  · cases h
/-- internal/strconv.log10Pow2 -/
def fn193 : Fun := ⟨1,
  (.seq (.reg [⟨(some 2), none, (.p .mv), [(.c (.int .i64 (.ofNat 0)))], none⟩])
  (.keep [0] (.seq (.reg [⟨(some 3), none, (.p .mv), [(.t 0)], none⟩,
    ⟨(some 4), none, (.p (.bin .mul)), [(.t 3), (.c (.int .i64 (.ofNat 78913)))], none⟩,
    ⟨(some 5), none, (.p (.bin .shr)), [(.t 4), (.c (.int .u64 (.ofNat 18)))], none⟩,
    ⟨(some 2), none, (.p .mv), [(.t 5)], none⟩])
  (.keep [2] (.keep [2] .ret))))),
  [(.t 2)]⟩
def s193 (call : CallK) (N : Nat) (a0 : V) (H : Heap) (τ : Tape) (q : KV) : Ans :=
  binK .mul a0 (.int .i64 (.ofNat 78913)) fun v0 =>
  binK .shr v0 (.int .u64 (.ofNat 18)) fun v1 =>
  q v1 H τ
theorem s193_eq (call : CallK) (N : Nat) (a0 : V) (H : Heap) (τ : Tape) (q : KV) : s193 call N a0 H τ q = funK call N fn193 [a0] H τ q := by kernel_rfl
def e193 (call : CallK) (N : Nat) (vs : List V) (H : Heap) (τ : Tape) (q : KV) : Ans := match vs with | [a0] => s193 call N a0 H τ q | _ => none
theorem e193_ok : EntOk fn193 e193 := by
  intro call N vs H τ q r h
  unfold e193 at h
  split at h
  · rw [s193_eq] at h; exact h
  · cases h
/-- internal/strconv.bool2[int] -/
def fn194 : Fun := ⟨1,
  (.seq (.reg [⟨(some 2), none, (.p .mv), [(.c (.int .i64 (.ofNat 0)))], none⟩])
  (.keep [0] (.seq (.seq (.reg [⟨(some 3), none, (.p .mv), [(.t 0)], none⟩])
  (.keep [3] (.cond (.t 3)
   (.seq (.reg [⟨(some 2), none, (.p .mv), [(.c (.int .i64 (.ofNat 1)))], none⟩])
   (.keep [2] (.keep [2] .ret)))
   .skip)))
  (.keep [] (.seq (.reg [⟨(some 2), none, (.p .mv), [(.c (.int .i64 (.ofNat 0)))], none⟩])
  (.keep [2] (.keep [2] .ret))))))),
  [(.t 2)]⟩
def s194 (call : CallK) (N : Nat) (a0 : V) (H : Heap) (τ : Tape) (q : KV) : Ans :=
  condK a0
    (q (.int .i64 (.ofNat 1)) H τ)
    (q (.int .i64 (.ofNat 0)) H τ)
theorem s194_eq (call : CallK) (N : Nat) (a0 : V) (H : Heap) (τ : Tape) (q : KV) : s194 call N a0 H τ q = funK call N fn194 [a0] H τ q := by kernel_rfl
def e194 (call : CallK) (N : Nat) (vs : List V) (H : Heap) (τ : Tape) (q : KV) : Ans := match vs with | [a0] => s194 call N a0 H τ q | _ => none
theorem e194_ok : EntOk fn194 e194 := by
  intro call N vs H τ q r h
  unfold e194 at h
  split at h
  · rw [s194_eq] at h; exact h
  · cases h
/-- internal/strconv.isPowerOfTwo -/
def fn195 : Fun := ⟨1,
  (.seq (.reg [⟨(some 2), none, (.p .mv), [(.c (.bool false))], none⟩])
  (.keep [0] (.seq (.reg [⟨(some 3), none, (.p .mv), [(.t 0)], none⟩,
    ⟨(some 4), none, (.p .mv), [(.t 0)], none⟩,
    ⟨(some 5), none, (.p (.bin .sub)), [(.t 4), (.c (.int .i64 (.ofNat 1)))], none⟩,
    ⟨(some 6), none, (.p (.bin .and)), [(.t 3), (.t 5)], none⟩,
    ⟨(some 7), none, (.p (.bin .eql)), [(.t 6), (.c (.int .i64 (.ofNat 0)))], none⟩,
    ⟨(some 2), none, (.p .mv), [(.t 7)], none⟩])
  (.keep [2] (.keep [2] .ret))))),
  [(.t 2)]⟩
def s195 (call : CallK) (N : Nat) (a0 : V) (H : Heap) (τ : Tape) (q : KV) : Ans :=
  binK .sub a0 (.int .i64 (.ofNat 1)) fun v0 =>
  binK .and a0 v0 fun v1 =>
  binK .eql v1 (.int .i64 (.ofNat 0)) fun v2 =>
  q v2 H τ
theorem s195_eq (call : CallK) (N : Nat) (a0 : V) (H : Heap) (τ : Tape) (q : KV) : s195 call N a0 H τ q = funK call N fn195 [a0] H τ q := by kernel_rfl
def e195 (call : CallK) (N : Nat) (vs : List V) (H : Heap) (τ : Tape) (q : KV) : Ans := match vs with | [a0] => s195 call N a0 H τ q | _ => none
theorem e195_ok : EntOk fn195 e195 := by
  intro call N vs H τ q r h
  unfold e195 at h
  split at h
  · rw [s195_eq] at h; exact h
  · cases h
/-- math/bits.TrailingZeros -/
def fn196 : Fun := ⟨1,
  (.seq (.reg [⟨(some 2), none, (.p .mv), [(.c (.int .i64 (.ofNat 0)))], none⟩])
  (.keep [0] (.seq (.cond (.c (.bool false))
   (.seq (.reg [⟨(some 3), none, (.p .mv), [(.t 0)], none⟩,
     ⟨(some 4), none, (.p (.toInt .u32)), [(.t 3)], none⟩,
     ⟨(some 5), none, (.call 199), [(.t 4)], none⟩,
     ⟨(some 2), none, (.p .mv), [(.t 5)], none⟩])
   (.keep [2] (.keep [2] .ret)))
   .skip)
  (.keep [0] (.seq (.reg [⟨(some 6), none, (.p .mv), [(.t 0)], none⟩,
    ⟨(some 7), none, (.call 200), [(.t 6)], none⟩,
    ⟨(some 2), none, (.p .mv), [(.t 7)], none⟩])
  (.keep [2] (.keep [2] .ret))))))),
  [(.t 2)]⟩
def s196 (call : CallK) (N : Nat) (a0 : V) (H : Heap) (τ : Tape) (q : KV) : Ans :=
  condK (.bool false)
    (toIntK .u32 a0 fun v0 =>
  call 199 [v0] H τ fun v1 H2 τ3 =>
  q v1 H2 τ3)
    (call 200 [a0] H τ fun v4 H5 τ6 =>
  q v4 H5 τ6)
theorem s196_eq (call : CallK) (N : Nat) (a0 : V) (H : Heap) (τ : Tape) (q : KV) : s196 call N a0 H τ q = funK call N fn196 [a0] H τ q := by kernel_rfl
def e196 (call : CallK) (N : Nat) (vs : List V) (H : Heap) (τ : Tape) (q : KV) : Ans := match vs with | [a0] => s196 call N a0 H τ q | _ => none
theorem e196_ok : EntOk fn196 e196 := by
  intro call N vs H τ q r h
  unfold e196 at h
  split at h
  · rw [s196_eq] at h; exact h
  · cases h
/-- math/bits.TrailingZeros32 -/
def fn199 : Fun := ⟨1,
  (.seq (.reg [⟨(some 2), none, (.p .mv), [(.c (.int .i64 (.ofNat 0)))], none⟩])
  (.keep [0] (.seq (.seq (.reg [⟨(some 3), none, (.p .mv), [(.t 0)], none⟩,
    ⟨(some 4), none, (.p (.bin .eql)), [(.t 3), (.c (.int .u32 (.ofNat 0)))], none⟩])
  (.keep [0, 4] (.cond (.t 4)
   (.seq (.reg [⟨(some 2), none, (.p .mv), [(.c (.int .i64 (.ofNat 32)))], none⟩])
   (.keep [2] (.keep [2] .ret)))
   .skip)))
  (.keep [0] (.seq (.reg [⟨(some 5), none, (.p .mv), [(.t 0)], none⟩,
    ⟨(some 6), none, (.p .mv), [(.t 0)], none⟩,
    ⟨(some 7), none, (.p (.un .neg)), [(.t 6)], none⟩,
    ⟨(some 8), none, (.p (.bin .and)), [(.t 5), (.t 7)], none⟩,
    ⟨(some 9), none, (.p (.bin .mul)), [(.t 8), (.c (.int .u32 (.ofNat 125613361)))], none⟩,
    ⟨(some 10), none, (.p (.bin .shr)), [(.t 9), (.c (.int .u64 (.ofNat 27)))], none⟩,
    ⟨(some 11), none, (.p (.arrIdx 32 1)), [(.c (.ptr 10 0)), (.t 10)], none⟩,
    ⟨(some 12), none, (.l (.load none)), [(.t 11)], none⟩,
    ⟨(some 13), none, (.p (.toInt .i64)), [(.t 12)], none⟩,
    ⟨(some 2), none, (.p .mv), [(.t 13)], none⟩])
  (.keep [2] (.keep [2] .ret))))))),
  [(.t 2)]⟩
def s199 (call : CallK) (N : Nat) (a0 : V) (H : Heap) (τ : Tape) (q : KV) : Ans :=
  binK .eql a0 (.int .u32 (.ofNat 0)) fun v0 =>
  condK v0
    (q (.int .i64 (.ofNat 32)) H τ)
    (unK .neg a0 fun v1 =>
  binK .and a0 v1 fun v2 =>
  binK .mul v2 (.int .u32 (.ofNat 125613361)) fun v3 =>
  binK .shr v3 (.int .u64 (.ofNat 27)) fun v4 =>
  someK (pArrIdx 32 1 [(.ptr 10 0), v4]) fun v5 =>
  someK (lLoad1 [v5] H) fun v6 =>
  toIntK .i64 v6 fun v7 =>
  q v7 H τ)
theorem s199_eq (call : CallK) (N : Nat) (a0 : V) (H : Heap) (τ : Tape) (q : KV) : s199 call N a0 H τ q = funK call N fn199 [a0] H τ q := by kernel_rfl
def e199 (call : CallK) (N : Nat) (vs : List V) (H : Heap) (τ : Tape) (q : KV) : Ans := match vs with | [a0] => s199 call N a0 H τ q | _ => none
theorem e199_ok : EntOk fn199 e199 := by
  intro call N vs H τ q r h
  unfold e199 at h
  split at h
  · rw [s199_eq] at h; exact h
  · cases h
/-- math/bits.TrailingZeros64 -/
def fn200 : Fun := ⟨1,
  (.seq (.reg [⟨(some 2), none, (.p .mv), [(.c (.int .i64 (.ofNat 0)))], none⟩])
  (.keep [0] (.seq (.seq (.reg [⟨(some 3), none, (.p .mv), [(.t 0)], none⟩,
    ⟨(some 4), none, (.p (.bin .eql)), [(.t 3), (.c (.int .u64 (.ofNat 0)))], none⟩])
  (.keep [0, 4] (.cond (.t 4)
   (.seq (.reg [⟨(some 2), none, (.p .mv), [(.c (.int .i64 (.ofNat 64)))], none⟩])
   (.keep [2] (.keep [2] .ret)))
   .skip)))
  (.keep [0] (.seq (.reg [⟨(some 5), none, (.p .mv), [(.t 0)], none⟩,
    ⟨(some 6), none, (.p .mv), [(.t 0)], none⟩,
    ⟨(some 7), none, (.p (.un .neg)), [(.t 6)], none⟩,
    ⟨(some 8), none, (.p (.bin .and)), [(.t 5), (.t 7)], none⟩,
    ⟨(some 9), none, (.p (.bin .mul)), [(.t 8), (.c (.int .u64 (.ofNat 285870213051353865)))], none⟩,
    ⟨(some 10), none, (.p (.bin .shr)), [(.t 9), (.c (.int .u64 (.ofNat 58)))], none⟩,
    ⟨(some 11), none, (.p (.arrIdx 64 1)), [(.c (.ptr 11 0)), (.t 10)], none⟩,
    ⟨(some 12), none, (.l (.load none)), [(.t 11)], none⟩,
    ⟨(some 13), none, (.p (.toInt .i64)), [(.t 12)], none⟩,
    ⟨(some 2), none, (.p .mv), [(.t 13)], none⟩])
  (.keep [2] (.keep [2] .ret))))))),
  [(.t 2)]⟩
def s200 (call : CallK) (N : Nat) (a0 : V) (H : Heap) (τ : Tape) (q : KV) : Ans :=
  binK .eql a0 (.int .u64 (.ofNat 0)) fun v0 =>
  condK v0
    (q (.int .i64 (.ofNat 64)) H τ)
    (unK .neg a0 fun v1 =>
  binK .and a0 v1 fun v2 =>
  binK .mul v2 (.int .u64 (.ofNat 285870213051353865)) fun v3 =>
  binK .shr v3 (.int .u64 (.ofNat 58)) fun v4 =>
  someK (pArrIdx 64 1 [(.ptr 11 0), v4]) fun v5 =>
  someK (lLoad1 [v5] H) fun v6 =>
  toIntK .i64 v6 fun v7 =>
  q v7 H τ)
theorem s200_eq (call : CallK) (N : Nat) (a0 : V) (H : Heap) (τ : Tape) (q : KV) : s200 call N a0 H τ q = funK call N fn200 [a0] H τ q := by kernel_rfl
def e200 (call : CallK) (N : Nat) (vs : List V) (H : Heap) (τ : Tape) (q : KV) : Ans := match vs with | [a0] => s200 call N a0 H τ q | _ => none
theorem e200_ok : EntOk fn200 e200 := by
  intro call N vs H τ q r h
  unfold e200 at h
  split at h
  · rw [s200_eq] at h; exact h
  · cases h
def tabF : T Def := (.node none (.node none (.node none (.node (some (.fn fn7)) (.node none (.node none (.node (some (.fn fn63)) (.node (some (.fn fn127)) .leaf .leaf) .leaf) .leaf) (.node none .leaf (.node none (.node (some (.fn fn175)) .leaf .leaf) .leaf))) (.node none (.node none (.node (some (.fn fn71)) .leaf (.node (some (.fn fn199)) .leaf .leaf)) (.node (some (.fn fn103)) (.node (some (.fn fn167)) .leaf .leaf) .leaf)) .leaf)) (.node none (.node (some (.fn fn19)) (.node none (.node (some (.fn fn67)) (.node (some (.prim idxP)) .leaf .leaf) (.node (some (.fn fn195)) .leaf .leaf)) .leaf) (.node none (.node (some (.fn fn83)) (.node (some (.fn fn147)) .leaf .leaf) .leaf) (.node (some (.fn fn115)) .leaf .leaf))) (.node none (.node none .leaf (.node (some (.fn fn107)) .leaf .leaf)) (.node (some (.fn fn59)) .leaf (.node none (.node (some (.fn fn187)) .leaf .leaf) .leaf))))) (.node none (.node none (.node none (.node none (.node none .leaf (.node (some (.fn fn193)) .leaf .leaf)) .leaf) (.node none .leaf (.node none (.node (some (.fn fn177)) .leaf .leaf) .leaf))) (.node none (.node none .leaf (.node (some (.fn fn105)) .leaf .leaf)) (.node none .leaf (.node (some (.fn fn121)) .leaf .leaf)))) (.node none (.node (some (.fn fn21)) (.node none (.node (some (.fn fn69)) (.node (some (.fn fn133)) .leaf .leaf) .leaf) (.node none (.node (some (.fn fn165)) .leaf .leaf) .leaf)) .leaf) (.node none .leaf (.node (some (.fn fn61)) .leaf .leaf))))) (.node none (.node none (.node none (.node (some (.fn fn16)) (.node none (.node none (.node (some (.fn fn128)) .leaf .leaf) .leaf) (.node none (.node (some (.fn fn160)) .leaf .leaf) .leaf)) (.node none .leaf (.node none (.node (some (.fn fn176)) .leaf .leaf) .leaf))) (.node (some (.fn fn24)) (.node none (.node (some (.fn fn72)) .leaf (.node (some (.fn fn200)) .leaf .leaf)) .leaf) (.node none .leaf (.node (some (.fn fn120)) .leaf .leaf)))) (.node none (.node none (.node (some (.fn fn36)) (.node (some (.fn fn68)) (.node (some (.fn fn132)) .leaf .leaf) (.node (some (.fn fn196)) .leaf .leaf)) (.node none (.node (some (.fn fn164)) .leaf .leaf) .leaf)) .leaf) (.node none .leaf (.node (some (.fn fn60)) (.node (some (.fn fn92)) .leaf .leaf) (.node none (.node (some (.fn fn188)) .leaf .leaf) .leaf))))) (.node none (.node none (.node (some (.fn fn18)) (.node none (.node none (.node (some (.fn fn130)) .leaf .leaf) (.node (some (.fn fn194)) .leaf .leaf)) (.node none (.node (some (.fn fn162)) .leaf .leaf) .leaf)) (.node none (.node (some (.fn fn82)) .leaf .leaf) .leaf)) (.node none (.node none .leaf (.node (some (.fn fn106)) .leaf .leaf)) (.node none .leaf (.node none (.node (some (.fn fn186)) .leaf .leaf) .leaf)))) (.node none (.node none (.node none (.node (some (.fn fn70)) .leaf .leaf) (.node (some (.fn fn102)) (.node (some (.fn fn166)) .leaf .leaf) .leaf)) .leaf) (.node none (.node none .leaf (.node none (.node (some (.fn fn174)) .leaf .leaf) .leaf)) (.node (some (.fn fn62)) .leaf .leaf))))))
def tabE : T Ent := (.node none (.node none (.node none (.node (some e7) (.node none (.node none (.node (some e63) (.node (some e127) .leaf .leaf) .leaf) .leaf) (.node none .leaf (.node none (.node (some e175) .leaf .leaf) .leaf))) (.node none (.node none (.node (some e71) .leaf (.node (some e199) .leaf .leaf)) (.node (some e103) (.node (some e167) .leaf .leaf) .leaf)) .leaf)) (.node none (.node (some e19) (.node none (.node (some e67) (.node (some (PrimEnt idxP)) .leaf .leaf) (.node (some e195) .leaf .leaf)) .leaf) (.node none (.node (some e83) (.node (some e147) .leaf .leaf) .leaf) (.node (some e115) .leaf .leaf))) (.node none (.node none .leaf (.node (some e107) .leaf .leaf)) (.node (some e59) .leaf (.node none (.node (some e187) .leaf .leaf) .leaf))))) (.node none (.node none (.node none (.node none (.node none .leaf (.node (some e193) .leaf .leaf)) .leaf) (.node none .leaf (.node none (.node (some e177) .leaf .leaf) .leaf))) (.node none (.node none .leaf (.node (some e105) .leaf .leaf)) (.node none .leaf (.node (some e121) .leaf .leaf)))) (.node none (.node (some e21) (.node none (.node (some e69) (.node (some e133) .leaf .leaf) .leaf) (.node none (.node (some e165) .leaf .leaf) .leaf)) .leaf) (.node none .leaf (.node (some e61) .leaf .leaf))))) (.node none (.node none (.node none (.node (some e16) (.node none (.node none (.node (some e128) .leaf .leaf) .leaf) (.node none (.node (some e160) .leaf .leaf) .leaf)) (.node none .leaf (.node none (.node (some e176) .leaf .leaf) .leaf))) (.node (some e24) (.node none (.node (some e72) .leaf (.node (some e200) .leaf .leaf)) .leaf) (.node none .leaf (.node (some e120) .leaf .leaf)))) (.node none (.node none (.node (some e36) (.node (some e68) (.node (some e132) .leaf .leaf) (.node (some e196) .leaf .leaf)) (.node none (.node (some e164) .leaf .leaf) .leaf)) .leaf) (.node none .leaf (.node (some e60) (.node (some e92) .leaf .leaf) (.node none (.node (some e188) .leaf .leaf) .leaf))))) (.node none (.node none (.node (some e18) (.node none (.node none (.node (some e130) .leaf .leaf) (.node (some e194) .leaf .leaf)) (.node none (.node (some e162) .leaf .leaf) .leaf)) (.node none (.node (some e82) .leaf .leaf) .leaf)) (.node none (.node none .leaf (.node (some e106) .leaf .leaf)) (.node none .leaf (.node none (.node (some e186) .leaf .leaf) .leaf)))) (.node none (.node none (.node none (.node (some e70) .leaf .leaf) (.node (some e102) (.node (some e166) .leaf .leaf) .leaf)) .leaf) (.node none (.node none .leaf (.node none (.node (some e174) .leaf .leaf) .leaf)) (.node (some e62) .leaf .leaf))))))
theorem tab_ok (N : Nat) : TabOk tabF.get N (tabOf tabE N) := tabOf_okP (E := tabE) (F := tabF) N fun f e h => T.All_get (t := tabE) (P := fun f e => (∃ fn, tabF.get f = some (.fn fn) ∧ EntOk fn e) ∨ (∃ p, tabF.get f = some (.prim p) ∧ e = PrimEnt p)) (.intro trivial (.intro (.intro trivial (.intro (.intro trivial (.intro (.intro (.inl ⟨fn7, rfl, e7_ok⟩) (.intro (.intro trivial (.intro (.intro trivial (.intro (.intro (.inl ⟨fn63, rfl, e63_ok⟩) (.intro (.intro (.inl ⟨fn127, rfl, e127_ok⟩) (.intro trivial trivial)) trivial)) trivial)) (.intro trivial (.intro trivial (.intro trivial (.intro (.intro (.inl ⟨fn175, rfl, e175_ok⟩) (.intro trivial trivial)) trivial)))))) (.intro trivial (.intro (.intro trivial (.intro (.intro (.inl ⟨fn71, rfl, e71_ok⟩) (.intro trivial (.intro (.inl ⟨fn199, rfl, e199_ok⟩) (.intro trivial trivial)))) (.intro (.inl ⟨fn103, rfl, e103_ok⟩) (.intro (.intro (.inl ⟨fn167, rfl, e167_ok⟩) (.intro trivial trivial)) trivial)))) trivial)))) (.intro trivial (.intro (.intro (.inl ⟨fn19, rfl, e19_ok⟩) (.intro (.intro trivial (.intro (.intro (.inl ⟨fn67, rfl, e67_ok⟩) (.intro (.intro (.inr ⟨idxP, rfl, rfl⟩) (.intro trivial trivial)) (.intro (.inl ⟨fn195, rfl, e195_ok⟩) (.intro trivial trivial)))) trivial)) (.intro trivial (.intro (.intro (.inl ⟨fn83, rfl, e83_ok⟩) (.intro (.intro (.inl ⟨fn147, rfl, e147_ok⟩) (.intro trivial trivial)) trivial)) (.intro (.inl ⟨fn115, rfl, e115_ok⟩) (.intro trivial trivial)))))) (.intro trivial (.intro (.intro trivial (.intro trivial (.intro (.inl ⟨fn107, rfl, e107_ok⟩) (.intro trivial trivial)))) (.intro (.inl ⟨fn59, rfl, e59_ok⟩) (.intro trivial (.intro trivial (.intro (.intro (.inl ⟨fn187, rfl, e187_ok⟩) (.intro trivial trivial)) trivial)))))))))) (.intro trivial (.intro (.intro trivial (.intro (.intro trivial (.intro (.intro trivial (.intro (.intro trivial (.intro trivial (.intro (.inl ⟨fn193, rfl, e193_ok⟩) (.intro trivial trivial)))) trivial)) (.intro trivial (.intro trivial (.intro trivial (.intro (.intro (.inl ⟨fn177, rfl, e177_ok⟩) (.intro trivial trivial)) trivial)))))) (.intro trivial (.intro (.intro trivial (.intro trivial (.intro (.inl ⟨fn105, rfl, e105_ok⟩) (.intro trivial trivial)))) (.intro trivial (.intro trivial (.intro (.inl ⟨fn121, rfl, e121_ok⟩) (.intro trivial trivial)))))))) (.intro trivial (.intro (.intro (.inl ⟨fn21, rfl, e21_ok⟩) (.intro (.intro trivial (.intro (.intro (.inl ⟨fn69, rfl, e69_ok⟩) (.intro (.intro (.inl ⟨fn133, rfl, e133_ok⟩) (.intro trivial trivial)) trivial)) (.intro trivial (.intro (.intro (.inl ⟨fn165, rfl, e165_ok⟩) (.intro trivial trivial)) trivial)))) trivial)) (.intro trivial (.intro trivial (.intro (.inl ⟨fn61, rfl, e61_ok⟩) (.intro trivial trivial)))))))))) (.intro trivial (.intro (.intro trivial (.intro (.intro trivial (.intro (.intro (.inl ⟨fn16, rfl, e16_ok⟩) (.intro (.intro trivial (.intro (.intro trivial (.intro (.intro (.inl ⟨fn128, rfl, e128_ok⟩) (.intro trivial trivial)) trivial)) (.intro trivial (.intro (.intro (.inl ⟨fn160, rfl, e160_ok⟩) (.intro trivial trivial)) trivial)))) (.intro trivial (.intro trivial (.intro trivial (.intro (.intro (.inl ⟨fn176, rfl, e176_ok⟩) (.intro trivial trivial)) trivial)))))) (.intro (.inl ⟨fn24, rfl, e24_ok⟩) (.intro (.intro trivial (.intro (.intro (.inl ⟨fn72, rfl, e72_ok⟩) (.intro trivial (.intro (.inl ⟨fn200, rfl, e200_ok⟩) (.intro trivial trivial)))) trivial)) (.intro trivial (.intro trivial (.intro (.inl ⟨fn120, rfl, e120_ok⟩) (.intro trivial trivial)))))))) (.intro trivial (.intro (.intro trivial (.intro (.intro (.inl ⟨fn36, rfl, e36_ok⟩) (.intro (.intro (.inl ⟨fn68, rfl, e68_ok⟩) (.intro (.intro (.inl ⟨fn132, rfl, e132_ok⟩) (.intro trivial trivial)) (.intro (.inl ⟨fn196, rfl, e196_ok⟩) (.intro trivial trivial)))) (.intro trivial (.intro (.intro (.inl ⟨fn164, rfl, e164_ok⟩) (.intro trivial trivial)) trivial)))) trivial)) (.intro trivial (.intro trivial (.intro (.inl ⟨fn60, rfl, e60_ok⟩) (.intro (.intro (.inl ⟨fn92, rfl, e92_ok⟩) (.intro trivial trivial)) (.intro trivial (.intro (.intro (.inl ⟨fn188, rfl, e188_ok⟩) (.intro trivial trivial)) trivial)))))))))) (.intro trivial (.intro (.intro trivial (.intro (.intro (.inl ⟨fn18, rfl, e18_ok⟩) (.intro (.intro trivial (.intro (.intro trivial (.intro (.intro (.inl ⟨fn130, rfl, e130_ok⟩) (.intro trivial trivial)) (.intro (.inl ⟨fn194, rfl, e194_ok⟩) (.intro trivial trivial)))) (.intro trivial (.intro (.intro (.inl ⟨fn162, rfl, e162_ok⟩) (.intro trivial trivial)) trivial)))) (.intro trivial (.intro (.intro (.inl ⟨fn82, rfl, e82_ok⟩) (.intro trivial trivial)) trivial)))) (.intro trivial (.intro (.intro trivial (.intro trivial (.intro (.inl ⟨fn106, rfl, e106_ok⟩) (.intro trivial trivial)))) (.intro trivial (.intro trivial (.intro trivial (.intro (.intro (.inl ⟨fn186, rfl, e186_ok⟩) (.intro trivial trivial)) trivial)))))))) (.intro trivial (.intro (.intro trivial (.intro (.intro trivial (.intro (.intro (.inl ⟨fn70, rfl, e70_ok⟩) (.intro trivial trivial)) (.intro (.inl ⟨fn102, rfl, e102_ok⟩) (.intro (.intro (.inl ⟨fn166, rfl, e166_ok⟩) (.intro trivial trivial)) trivial)))) trivial)) (.intro trivial (.intro (.intro trivial (.intro trivial (.intro trivial (.intro (.intro (.inl ⟨fn174, rfl, e174_ok⟩) (.intro trivial trivial)) trivial)))) (.intro (.inl ⟨fn62, rfl, e62_ok⟩) (.intro trivial trivial)))))))))))) h
end Go.Am.AmTrydIntegrityNumbers
