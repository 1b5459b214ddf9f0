/- The abstract machine's texts for the law IntegrityNumbers: printed functions of the program, and what they are shown to be. -/
import Derived.Test.YtpfaceclaigpgaaDoorCSh0
import Derived.KernelRfl
namespace Go.Am.AmTrydIntegrityNumbers
set_option maxRecDepth 1000000
set_option linter.unusedVariables false
/-- internal/stringslite.Index -/
def fn130 : Fun := ⟨2,
  (.seq (.reg [⟨(some 4), none, (.p .mv), [(.c (.int .i64 (.ofNat 0)))], none⟩])
  (.keep [0, 1] (.seq (.reg [⟨(some 14), none, (.p .mv), [(.t 1)], none⟩,
    ⟨(some 15), none, (.p .lenS), [(.t 14)], none⟩,
    ⟨(some 5), none, (.p .mv), [(.t 15)], none⟩])
  (.keep [0, 1, 5] (.seq (.block 0
   (.seq (.reg [⟨(some 17), none, (.p .mv), [(.t 5)], none⟩,
     ⟨(some 18), none, (.p (.bin .eql)), [(.t 17), (.c (.int .i64 (.ofNat 0)))], none⟩,
     ⟨(some 19), none, (.p .mv), [(.t 18)], none⟩,
     ⟨(some 20), some (19, false), (.p .mv), [(.t 1)], none⟩,
     ⟨(some 21), some (19, false), (.p .mv), [(.t 0)], none⟩,
     ⟨(some 22), some (19, false), (.p (.bin .eql)), [(.t 20), (.t 21)], none⟩,
     ⟨(some 23), none, (.p .pick), [(.t 19), (.c (.bool true)), (.t 22)], none⟩,
     ⟨(some 16), none, (.p .mv), [(.t 23)], none⟩])
   (.keep [0, 1, 5, 16] (.cond (.t 16)
    (.seq (.reg [⟨(some 4), none, (.p .mv), [(.c (.int .i64 (.ofNat 0)))], none⟩])
    (.keep [4] (.keep [4] .ret)))
    (.seq (.reg [⟨(some 25), none, (.p .mv), [(.t 5)], none⟩,
      ⟨(some 26), none, (.p (.bin .eql)), [(.t 25), (.c (.int .i64 (.ofNat 1)))], none⟩,
      ⟨(some 24), none, (.p .mv), [(.t 26)], none⟩])
    (.keep [0, 1, 5, 24] (.cond (.t 24)
     (.seq (.reg [⟨(some 27), none, (.p .mv), [(.t 0)], none⟩,
       ⟨(some 28), none, (.p .mv), [(.t 1)], none⟩,
       ⟨(some 29), none, (.p .strIndex), [(.t 28), (.c (.int .i64 (.ofNat 0)))], none⟩,
       ⟨(some 30), none, (.call 131), [(.t 27), (.t 29)], none⟩,
       ⟨(some 4), none, (.p .mv), [(.t 30)], none⟩])
     (.keep [4] (.keep [4] .ret)))
     (.seq (.reg [⟨(some 32), none, (.p .mv), [(.t 5)], none⟩,
       ⟨(some 33), none, (.p .mv), [(.t 0)], none⟩,
       ⟨(some 34), none, (.p .lenS), [(.t 33)], none⟩,
       ⟨(some 35), none, (.p (.bin .geq)), [(.t 32), (.t 34)], none⟩,
       ⟨(some 31), none, (.p .mv), [(.t 35)], none⟩])
     (.keep [0, 1, 5, 31] (.cond (.t 31)
      (.seq (.reg [⟨(some 4), none, (.p .mv), [(.c (.int .i64 (.negSucc 0)))], none⟩])
      (.keep [4] (.keep [4] .ret)))
      (.seq (.reg [⟨(some 37), none, (.p .mv), [(.t 5)], none⟩,
        ⟨(some 38), none, (.l (.load none)), [(.c (.ptr 5 0))], none⟩,
        ⟨(some 39), none, (.p (.bin .leq)), [(.t 37), (.t 38)], none⟩,
        ⟨(some 40), none, (.p .mv), [(.t 39)], none⟩,
        ⟨(some 41), some (40, true), (.p .mv), [(.t 0)], none⟩,
        ⟨(some 42), some (40, true), (.p .lenS), [(.t 41)], none⟩,
        ⟨(some 43), some (40, true), (.p (.bin .leq)), [(.t 42), (.c (.int .i64 (.ofNat 64)))], none⟩,
        ⟨(some 44), none, (.p .pick), [(.t 40), (.t 43), (.c (.bool false))], none⟩,
        ⟨(some 36), none, (.p .mv), [(.t 44)], none⟩])
      (.keep [0, 1, 5, 36] (.cond (.t 36)
       (.seq .bad
       (.keep [4] (.keep [4] .ret)))
       .skip)))))))))))))
  (.keep [0, 1, 5] (.seq (.reg [⟨(some 48), none, (.p .mv), [(.t 1)], none⟩,
    ⟨(some 49), none, (.p .strIndex), [(.t 48), (.c (.int .i64 (.ofNat 0)))], none⟩,
    ⟨(some 6), none, (.p .mv), [(.t 49)], none⟩])
  (.keep [0, 1, 5, 6] (.seq (.reg [⟨(some 50), none, (.p .mv), [(.t 1)], none⟩,
    ⟨(some 51), none, (.p .strIndex), [(.t 50), (.c (.int .i64 (.ofNat 1)))], none⟩,
    ⟨(some 7), none, (.p .mv), [(.t 51)], none⟩])
  (.keep [0, 1, 5, 6, 7] (.seq (.reg [⟨(some 8), none, (.p .mv), [(.c (.int .i64 (.ofNat 0)))], none⟩])
  (.keep [0, 1, 5, 6, 7, 8] (.seq (.reg [⟨(some 52), none, (.p .mv), [(.t 0)], none⟩,
    ⟨(some 53), none, (.p .lenS), [(.t 52)], none⟩,
    ⟨(some 54), none, (.p .mv), [(.t 5)], none⟩,
    ⟨(some 55), none, (.p (.bin .sub)), [(.t 53), (.t 54)], none⟩,
    ⟨(some 56), none, (.p (.bin .add)), [(.t 55), (.c (.int .i64 (.ofNat 1)))], none⟩,
    ⟨(some 9), none, (.p .mv), [(.t 56)], none⟩])
  (.keep [0, 1, 5, 6, 7, 8, 9] (.seq (.reg [⟨(some 10), none, (.p .mv), [(.c (.int .i64 (.ofNat 0)))], none⟩])
  (.keep [0, 1, 5, 6, 7, 8, 9, 10] (.seq (.block 1
   (.loop
    (.keep [0, 1, 5, 6, 7, 8, 9, 10] (.seq (.seq (.reg [⟨(some 57), none, (.p .mv), [(.t 8)], none⟩,
      ⟨(some 58), none, (.p .mv), [(.t 9)], none⟩,
      ⟨(some 59), none, (.p (.bin .lss)), [(.t 57), (.t 58)], none⟩])
    (.keep [0, 1, 5, 6, 7, 8, 9, 10, 59] (.cond (.t 59)
     .skip
     (.keep [] (.exit 1)))))
    (.keep [0, 1, 5, 6, 7, 8, 9, 10] (.block 2
     (.seq (.seq (.reg [⟨(some 60), none, (.p .mv), [(.t 0)], none⟩,
       ⟨(some 61), none, (.p .mv), [(.t 8)], none⟩,
       ⟨(some 62), none, (.p .strIndex), [(.t 60), (.t 61)], none⟩,
       ⟨(some 63), none, (.p .mv), [(.t 6)], none⟩,
       ⟨(some 64), none, (.p (.bin .neq)), [(.t 62), (.t 63)], none⟩])
     (.keep [0, 1, 5, 6, 7, 8, 9, 10, 64] (.cond (.t 64)
      (.seq (.reg [⟨(some 65), none, (.p .mv), [(.t 0)], none⟩,
        ⟨(some 66), none, (.p .mv), [(.t 8)], none⟩,
        ⟨(some 67), none, (.p (.bin .add)), [(.t 66), (.c (.int .i64 (.ofNat 1)))], none⟩,
        ⟨(some 68), none, (.p .mv), [(.t 9)], none⟩,
        ⟨(some 69), none, (.p (.strSlice true true)), [(.t 65), (.t 67), (.t 68)], none⟩,
        ⟨(some 70), none, (.p .mv), [(.t 6)], none⟩,
        ⟨(some 71), none, (.call 131), [(.t 69), (.t 70)], none⟩,
        ⟨(some 11), none, (.p .mv), [(.t 71)], none⟩])
      (.keep [0, 1, 5, 6, 7, 8, 9, 10, 11] (.seq (.seq (.reg [⟨(some 72), none, (.p .mv), [(.t 11)], none⟩,
        ⟨(some 73), none, (.p (.bin .lss)), [(.t 72), (.c (.int .i64 (.ofNat 0)))], none⟩])
      (.keep [0, 1, 5, 6, 7, 8, 9, 10, 11, 73] (.cond (.t 73)
       (.seq (.reg [⟨(some 4), none, (.p .mv), [(.c (.int .i64 (.negSucc 0)))], none⟩])
       (.keep [4] (.keep [4] .ret)))
       .skip)))
      (.keep [0, 1, 5, 6, 7, 8, 9, 10, 11] (.reg [⟨(some 74), none, (.p .mv), [(.t 8)], none⟩,
        ⟨(some 75), none, (.p .mv), [(.t 11)], none⟩,
        ⟨(some 76), none, (.p (.bin .add)), [(.t 75), (.c (.int .i64 (.ofNat 1)))], none⟩,
        ⟨(some 77), none, (.p (.bin .add)), [(.t 74), (.t 76)], none⟩,
        ⟨(some 8), none, (.p .mv), [(.t 77)], none⟩])))))
      .skip)))
     (.keep [0, 1, 5, 6, 7, 8, 9, 10] (.seq (.seq (.reg [⟨(some 78), none, (.p .mv), [(.t 0)], none⟩,
       ⟨(some 79), none, (.p .mv), [(.t 8)], none⟩,
       ⟨(some 80), none, (.p (.bin .add)), [(.t 79), (.c (.int .i64 (.ofNat 1)))], none⟩,
       ⟨(some 81), none, (.p .strIndex), [(.t 78), (.t 80)], none⟩,
       ⟨(some 82), none, (.p .mv), [(.t 7)], none⟩,
       ⟨(some 83), none, (.p (.bin .eql)), [(.t 81), (.t 82)], none⟩,
       ⟨(some 84), none, (.p .mv), [(.t 83)], none⟩,
       ⟨(some 85), some (84, true), (.p .mv), [(.t 0)], none⟩,
       ⟨(some 86), some (84, true), (.p .mv), [(.t 8)], none⟩,
       ⟨(some 87), some (84, true), (.p .mv), [(.t 8)], none⟩,
       ⟨(some 88), some (84, true), (.p .mv), [(.t 5)], none⟩,
       ⟨(some 89), some (84, true), (.p (.bin .add)), [(.t 87), (.t 88)], none⟩,
       ⟨(some 90), some (84, true), (.p (.strSlice true true)), [(.t 85), (.t 86), (.t 89)], none⟩,
       ⟨(some 91), some (84, true), (.p .mv), [(.t 1)], none⟩,
       ⟨(some 92), some (84, true), (.p (.bin .eql)), [(.t 90), (.t 91)], none⟩,
       ⟨(some 93), none, (.p .pick), [(.t 84), (.t 92), (.c (.bool false))], none⟩])
     (.keep [0, 1, 5, 6, 7, 8, 9, 10, 93] (.cond (.t 93)
      (.seq (.reg [⟨(some 94), none, (.p .mv), [(.t 8)], none⟩,
        ⟨(some 4), none, (.p .mv), [(.t 94)], none⟩])
      (.keep [4] (.keep [4] .ret)))
      .skip)))
     (.keep [0, 1, 5, 6, 7, 8, 9, 10] (.seq (.reg [⟨(some 95), none, (.p .mv), [(.t 8)], none⟩,
       ⟨(some 96), none, (.p (.bin .add)), [(.t 95), (.c (.int .i64 (.ofNat 1)))], none⟩,
       ⟨(some 8), none, (.p .mv), [(.t 96)], none⟩])
     (.keep [0, 1, 5, 6, 7, 8, 9, 10] (.seq (.reg [⟨(some 97), none, (.p .mv), [(.t 10)], none⟩,
       ⟨(some 98), none, (.p (.bin .add)), [(.t 97), (.c (.int .i64 (.ofNat 1)))], none⟩,
       ⟨(some 10), none, (.p .mv), [(.t 98)], none⟩])
     (.keep [0, 1, 5, 6, 7, 8, 9, 10] (.seq (.reg [⟨(some 99), none, (.p .mv), [(.t 5)], none⟩,
       ⟨(some 100), none, (.l (.load none)), [(.c (.ptr 5 0))], none⟩,
       ⟨(some 101), none, (.p (.bin .leq)), [(.t 99), (.t 100)], none⟩,
       ⟨(some 102), none, (.p .mv), [(.t 101)], none⟩,
       ⟨(some 103), some (102, true), (.p .mv), [(.t 10)], none⟩,
       ⟨(some 104), some (102, true), (.p .mv), [(.t 8)], none⟩,
       ⟨(some 105), some (102, true), (.call 128), [(.t 104)], none⟩,
       ⟨(some 106), some (102, true), (.p (.bin .gtr)), [(.t 103), (.t 105)], none⟩,
       ⟨(some 107), none, (.p .pick), [(.t 102), (.t 106), (.c (.bool false))], none⟩])
     (.keep [0, 1, 5, 6, 7, 8, 9, 10, 107] (.cond (.t 107)
      (.seq .bad
      (.keep [8, 12] (.seq (.seq (.reg [⟨(some 113), none, (.p .mv), [(.t 12)], none⟩,
        ⟨(some 114), none, (.p (.bin .geq)), [(.t 113), (.c (.int .i64 (.ofNat 0)))], none⟩])
      (.keep [8, 12, 114] (.cond (.t 114)
       (.seq (.reg [⟨(some 115), none, (.p .mv), [(.t 12)], none⟩,
         ⟨(some 116), none, (.p .mv), [(.t 8)], none⟩,
         ⟨(some 117), none, (.p (.bin .add)), [(.t 115), (.t 116)], none⟩,
         ⟨(some 4), none, (.p .mv), [(.t 117)], none⟩])
       (.keep [4] (.keep [4] .ret)))
       .skip)))
      (.keep [] (.seq (.reg [⟨(some 4), none, (.p .mv), [(.c (.int .i64 (.negSucc 0)))], none⟩])
      (.keep [4] (.keep [4] .ret)))))))
      (.seq (.reg [⟨(some 118), none, (.p .mv), [(.t 5)], none⟩,
        ⟨(some 119), none, (.l (.load none)), [(.c (.ptr 5 0))], none⟩,
        ⟨(some 120), none, (.p (.bin .gtr)), [(.t 118), (.t 119)], none⟩,
        ⟨(some 121), none, (.p .mv), [(.t 120)], none⟩,
        ⟨(some 122), some (121, true), (.p .mv), [(.t 10)], none⟩,
        ⟨(some 123), some (121, true), (.p .mv), [(.t 8)], none⟩,
        ⟨(some 124), some (121, true), (.p (.bin .shr)), [(.t 123), (.c (.int .u64 (.ofNat 4)))], none⟩,
        ⟨(some 125), some (121, true), (.p (.bin .add)), [(.c (.int .i64 (.ofNat 4))), (.t 124)], none⟩,
        ⟨(some 126), some (121, true), (.p (.bin .geq)), [(.t 122), (.t 125)], none⟩,
        ⟨(some 127), none, (.p .pick), [(.t 121), (.t 126), (.c (.bool false))], none⟩,
        ⟨(some 128), none, (.p .mv), [(.t 127)], none⟩,
        ⟨(some 129), some (128, true), (.p .mv), [(.t 8)], none⟩,
        ⟨(some 130), some (128, true), (.p .mv), [(.t 9)], none⟩,
        ⟨(some 131), some (128, true), (.p (.bin .lss)), [(.t 129), (.t 130)], none⟩,
        ⟨(some 132), none, (.p .pick), [(.t 128), (.t 131), (.c (.bool false))], none⟩])
      (.keep [0, 1, 5, 6, 7, 8, 9, 10, 132] (.cond (.t 132)
       (.seq (.reg [⟨(some 133), none, (.p .mv), [(.t 0)], none⟩,
         ⟨(some 134), none, (.p .mv), [(.t 8)], none⟩,
         ⟨(some 135), none, (.p (.strSlice true false)), [(.t 133), (.t 134)], none⟩,
         ⟨(some 136), none, (.p .mv), [(.t 1)], none⟩,
         ⟨(some 137), none, (.call 162), [(.t 135), (.t 136)], none⟩,
         ⟨(some 13), none, (.p .mv), [(.t 137)], none⟩])
       (.keep [8, 13] (.seq (.seq (.reg [⟨(some 138), none, (.p .mv), [(.t 13)], none⟩,
         ⟨(some 139), none, (.p (.bin .lss)), [(.t 138), (.c (.int .i64 (.ofNat 0)))], none⟩])
       (.keep [8, 13, 139] (.cond (.t 139)
        (.seq (.reg [⟨(some 4), none, (.p .mv), [(.c (.int .i64 (.negSucc 0)))], none⟩])
        (.keep [4] (.keep [4] .ret)))
        .skip)))
       (.keep [8, 13] (.seq (.reg [⟨(some 140), none, (.p .mv), [(.t 8)], none⟩,
         ⟨(some 141), none, (.p .mv), [(.t 13)], none⟩,
         ⟨(some 142), none, (.p (.bin .add)), [(.t 140), (.t 141)], none⟩,
         ⟨(some 4), none, (.p .mv), [(.t 142)], none⟩])
       (.keep [4] (.keep [4] .ret)))))))
       .skip))))))))))))))))))))
  (.keep [] (.seq (.reg [⟨(some 4), none, (.p .mv), [(.c (.int .i64 (.negSucc 0)))], none⟩])
  (.keep [4] (.keep [4] .ret))))))))))))))))))))),
  [(.t 4)]⟩
def s130_j0 (call : CallK) (N : Nat) (q : KV) (st : St) (τ : Tape) : Ans :=
  match st with
  | ⟨fr, H⟩ =>
  q (.int .i64 (.negSucc 0)) H τ
def s130_j2 (call : CallK) (N : Nat) (k : KC) (st : St) (τ : Tape) : Ans :=
  match st with
  | ⟨fr, H⟩ =>
  getK fr 0 fun t0 =>
  getK fr 1 fun t1 =>
  getK fr 5 fun t5 =>
  getK fr 6 fun t6 =>
  getK fr 7 fun t7 =>
  getK fr 8 fun t8 =>
  getK fr 9 fun t9 =>
  getK fr 10 fun t10 =>
  binK .add t8 (.int .i64 (.ofNat 1)) fun v39 =>
  someK (pStrIndex [t0, v39]) fun v40 =>
  binK .eql v40 t7 fun v41 =>
  gK v41 true (fun q' => q' t0 H τ) H τ fun v42 H43 τ44 =>
  gK v41 true (fun q' => q' t8 H43 τ44) H43 τ44 fun v45 H46 τ47 =>
  gK v41 true (fun q' => q' t8 H46 τ47) H46 τ47 fun v48 H49 τ50 =>
  gK v41 true (fun q' => q' t5 H49 τ50) H49 τ50 fun v51 H52 τ53 =>
  gK v41 true (fun q' => binK .add v48 v51 fun v => q' v H52 τ53) H52 τ53 fun v54 H55 τ56 =>
  gK v41 true (fun q' => someK (pStrSlice true true [v42, v45, v54]) fun v => q' v H55 τ56) H55 τ56 fun v57 H58 τ59 =>
  gK v41 true (fun q' => q' t1 H58 τ59) H58 τ59 fun v60 H61 τ62 =>
  gK v41 true (fun q' => binK .eql v57 v60 fun v => q' v H61 τ62) H61 τ62 fun v63 H64 τ65 =>
  someK (pPick [v41, v63, (.bool false)]) fun v66 =>
  condK v66
    (k .ret ⟨(T.set .leaf 4 t8), H64⟩ τ65)
    (binK .add t8 (.int .i64 (.ofNat 1)) fun v67 =>
  binK .add t10 (.int .i64 (.ofNat 1)) fun v68 =>
  someK (lLoad1 [(.ptr 5 0)] H64) fun v69 =>
  binK .leq t5 v69 fun v70 =>
  gK v70 true (fun q' => q' v68 H64 τ65) H64 τ65 fun v71 H72 τ73 =>
  gK v70 true (fun q' => q' v67 H72 τ73) H72 τ73 fun v74 H75 τ76 =>
  gK v70 true (fun q' => call 128 [v74] H75 τ76 q') H75 τ76 fun v77 H78 τ79 =>
  gK v70 true (fun q' => binK .gtr v71 v77 fun v => q' v H78 τ79) H78 τ79 fun v80 H81 τ82 =>
  someK (pPick [v70, v80, (.bool false)]) fun v83 =>
  condK v83
    (none)
    (someK (lLoad1 [(.ptr 5 0)] H81) fun v84 =>
  binK .gtr t5 v84 fun v85 =>
  gK v85 true (fun q' => q' v68 H81 τ82) H81 τ82 fun v86 H87 τ88 =>
  gK v85 true (fun q' => q' v67 H87 τ88) H87 τ88 fun v89 H90 τ91 =>
  gK v85 true (fun q' => binK .shr v89 (.int .u64 (.ofNat 4)) fun v => q' v H90 τ91) H90 τ91 fun v92 H93 τ94 =>
  gK v85 true (fun q' => binK .add (.int .i64 (.ofNat 4)) v92 fun v => q' v H93 τ94) H93 τ94 fun v95 H96 τ97 =>
  gK v85 true (fun q' => binK .geq v86 v95 fun v => q' v H96 τ97) H96 τ97 fun v98 H99 τ100 =>
  someK (pPick [v85, v98, (.bool false)]) fun v101 =>
  gK v101 true (fun q' => q' v67 H99 τ100) H99 τ100 fun v102 H103 τ104 =>
  gK v101 true (fun q' => q' t9 H103 τ104) H103 τ104 fun v105 H106 τ107 =>
  gK v101 true (fun q' => binK .lss v102 v105 fun v => q' v H106 τ107) H106 τ107 fun v108 H109 τ110 =>
  someK (pPick [v101, v108, (.bool false)]) fun v111 =>
  condK v111
    (someK (pStrSlice true false [t0, v67]) fun v112 =>
  call 162 [v112, t1] H109 τ110 fun v113 H114 τ115 =>
  binK .lss v113 (.int .i64 (.ofNat 0)) fun v116 =>
  condK v116
    (k .ret ⟨(T.set .leaf 4 (.int .i64 (.negSucc 0))), H114⟩ τ115)
    (binK .add v67 v113 fun v117 =>
  k .ret ⟨(T.set .leaf 4 v117), H114⟩ τ115))
    (k .normal ⟨(T.set (T.set (T.set (T.set (T.set (T.set (T.set (T.set (T.set .leaf 0 t0) 1 t1) 5 t5) 6 t6) 7 t7) 8 v67) 9 t9) 10 v68) 132 v111), H109⟩ τ110)))
def s130_l1 (call : CallK) (N : Nat) (st : St) (τ : Tape) (k : KC) : Ans :=
  match st with
  | ⟨fr, H⟩ =>
  getK fr 0 fun t0 =>
  getK fr 1 fun t1 =>
  getK fr 5 fun t5 =>
  getK fr 6 fun t6 =>
  getK fr 7 fun t7 =>
  getK fr 8 fun t8 =>
  getK fr 9 fun t9 =>
  getK fr 10 fun t10 =>
  binK .lss t8 t9 fun v36 =>
  condK v36
    (someK (pStrIndex [t0, t8]) fun v37 =>
  binK .neq v37 t6 fun v38 =>
  condK v38
    (binK .add t8 (.int .i64 (.ofNat 1)) fun v118 =>
  someK (pStrSlice true true [t0, v118, t9]) fun v119 =>
  call 131 [v119, t6] H τ fun v120 H121 τ122 =>
  binK .lss v120 (.int .i64 (.ofNat 0)) fun v123 =>
  condK v123
    (k .ret ⟨(T.set .leaf 4 (.int .i64 (.negSucc 0))), H121⟩ τ122)
    (binK .add v120 (.int .i64 (.ofNat 1)) fun v124 =>
  binK .add t8 v124 fun v125 =>
  s130_j2 call N k ⟨(T.set (T.set (T.set (T.set (T.set (T.set (T.set (T.set (T.set (T.set (T.set (T.set (T.set (T.set .leaf 0 t0) 1 t1) 5 t5) 6 t6) 7 t7) 8 t8) 9 t9) 10 t10) 11 v120) 74 t8) 75 v120) 76 v124) 77 v125) 8 v125), H121⟩ τ122))
    (s130_j2 call N k ⟨(T.set (T.set (T.set (T.set (T.set (T.set (T.set (T.set (T.set .leaf 0 t0) 1 t1) 5 t5) 6 t6) 7 t7) 8 t8) 9 t9) 10 t10) 64 v38), H⟩ τ))
    (k (.exit 1) ⟨.leaf, H⟩ τ)
def s130 (call : CallK) (N : Nat) (a0 a1 : V) (H : Heap) (τ : Tape) (q : KV) : Ans :=
  someK (pLenS [a1]) fun v0 =>
  binK .eql v0 (.int .i64 (.ofNat 0)) fun v1 =>
  gK v1 false (fun q' => q' a1 H τ) H τ fun v2 H3 τ4 =>
  gK v1 false (fun q' => q' a0 H3 τ4) H3 τ4 fun v5 H6 τ7 =>
  gK v1 false (fun q' => binK .eql v2 v5 fun v => q' v H6 τ7) H6 τ7 fun v8 H9 τ10 =>
  someK (pPick [v1, (.bool true), v8]) fun v11 =>
  condK v11
    (q (.int .i64 (.ofNat 0)) H9 τ10)
    (binK .eql v0 (.int .i64 (.ofNat 1)) fun v12 =>
  condK v12
    (someK (pStrIndex [a1, (.int .i64 (.ofNat 0))]) fun v13 =>
  call 131 [a0, v13] H9 τ10 fun v14 H15 τ16 =>
  q v14 H15 τ16)
    (someK (pLenS [a0]) fun v17 =>
  binK .geq v0 v17 fun v18 =>
  condK v18
    (q (.int .i64 (.negSucc 0)) H9 τ10)
    (someK (lLoad1 [(.ptr 5 0)] H9) fun v19 =>
  binK .leq v0 v19 fun v20 =>
  gK v20 true (fun q' => q' a0 H9 τ10) H9 τ10 fun v21 H22 τ23 =>
  gK v20 true (fun q' => someK (pLenS [v21]) fun v => q' v H22 τ23) H22 τ23 fun v24 H25 τ26 =>
  gK v20 true (fun q' => binK .leq v24 (.int .i64 (.ofNat 64)) fun v => q' v H25 τ26) H25 τ26 fun v27 H28 τ29 =>
  someK (pPick [v20, v27, (.bool false)]) fun v30 =>
  condK v30
    (none)
    (someK (pStrIndex [a1, (.int .i64 (.ofNat 0))]) fun v31 =>
  someK (pStrIndex [a1, (.int .i64 (.ofNat 1))]) fun v32 =>
  someK (pLenS [a0]) fun v33 =>
  binK .sub v33 v0 fun v34 =>
  binK .add v34 (.int .i64 (.ofNat 1)) fun v35 =>
  loopK (s130_l1 call N) N ⟨(T.set (T.set (T.set (T.set (T.set (T.set (T.set (T.set .leaf 0 a0) 1 a1) 5 v0) 6 v31) 7 v32) 8 (.int .i64 (.ofNat 0))) 9 v35) 10 (.int .i64 (.ofNat 0))), H28⟩ τ29 (blockK 1 (seqK (s130_j0 call N q) (endK [(.t 4)] q)))))))
theorem s130_eq (call : CallK) (N : Nat) (a0 a1 : V) (H : Heap) (τ : Tape) (q : KV) : s130 call N a0 a1 H τ q = funK call N fn130 [a0, a1] H τ q := by kernel_rfl
def e130 (call : CallK) (N : Nat) (vs : List V) (H : Heap) (τ : Tape) (q : KV) : Ans := match vs with | [a0, a1] => s130 call N a0 a1 H τ q | _ => none
theorem e130_ok : EntOk fn130 e130 := by
  intro call N vs H τ q r h
  unfold e130 at h
  split at h
  · rw [s130_eq] at h; exact h
  · cases h
/-- ostiary/digest.mix[uint32] -/
def fn132 : Fun := ⟨3,
  (.seq (.reg [⟨(some 6), none, (.e (.alloc (repl 80 [(.int .u32 (.ofNat 0))]))), [], none⟩])
  (.keep [0, 1, 2, 6] (.seq (.reg [⟨(some 18), none, (.p .mv), [(.t 0)], none⟩,
    ⟨(some 19), none, (.p .nilck), [(.t 18)], none⟩,
    ⟨(some 20), none, (.p (.fieldAddr 0)), [(.t 19)], none⟩,
    ⟨(some 21), none, (.l (.load none)), [(.t 20)], none⟩,
    ⟨(some 22), none, (.p (.bin .quo)), [(.t 21), (.c (.int .i64 (.ofNat 8)))], none⟩,
    ⟨(some 7), none, (.p .mv), [(.t 22)], none⟩])
  (.keep [0, 1, 2, 6, 7] (.seq (.seq (.reg [⟨(some 23), none, (.p .mv), [(.t 0)], none⟩,
    ⟨(some 24), none, (.p .nilck), [(.t 23)], none⟩,
    ⟨(some 25), none, (.p (.fieldAddr 1)), [(.t 24)], none⟩,
    ⟨(some 26), none, (.l (.load none)), [(.t 25)], none⟩,
    ⟨(some 27), none, (.p .mv), [(.c (.int .i64 (.ofNat 0)))], none⟩])
  (.keep [0, 1, 2, 6, 7, 26, 27] (.block 0
   (.loop
    (.keep [0, 1, 2, 6, 7, 26, 27] (.seq (.reg [⟨(some 28), none, (.p (.bin .lss)), [(.t 27), (.t 26)], none⟩])
    (.keep [0, 1, 2, 6, 7, 26, 27, 28] (.seq (.cond (.t 28)
     .skip
     (.keep [0, 1, 6] (.exit 0)))
    (.keep [0, 1, 2, 6, 7, 26, 27] (.seq (.block 1
     (.seq (.reg [⟨(some 29), none, (.p .mv), [(.t 27)], none⟩,
       ⟨(some 8), none, (.p .mv), [(.t 29)], none⟩])
     (.keep [0, 1, 2, 6, 7, 8, 26, 27] (.seq (.seq (.reg [⟨(some 30), none, (.p .mv), [(.t 8)], none⟩,
       ⟨(some 31), none, (.p (.bin .geq)), [(.t 30), (.c (.int .i64 (.ofNat 16)))], none⟩])
     (.keep [0, 1, 2, 6, 7, 8, 26, 27, 31] (.cond (.t 31)
      (.seq (.draw [⟨(some 32), none, (.p .mv), [(.t 8)], none⟩,
        ⟨(some 33), none, (.p .mv), [(.t 8)], none⟩,
        ⟨(some 34), none, (.p (.bin .sub)), [(.t 33), (.c (.int .i64 (.ofNat 2)))], none⟩,
        ⟨(some 35), none, (.p (.arrIdx 80 1)), [(.t 6), (.t 34)], none⟩,
        ⟨(some 36), none, (.l (.load none)), [(.t 35)], none⟩,
        ⟨(some 37), none, (.p .mv), [(.t 0)], none⟩,
        ⟨(some 38), none, (.p .nilck), [(.t 37)], none⟩,
        ⟨(some 39), none, (.p (.fieldAddr 5)), [(.t 38)], none⟩,
        ⟨(some 40), none, (.l (.load (some 3))), [(.t 39)], none⟩,
        ⟨(some 41), none, (.p .mv), [(.t 0)], none⟩,
        ⟨(some 42), none, (.p .nilck), [(.t 41)], none⟩,
        ⟨(some 43), none, (.p (.fieldAddr 0)), [(.t 42)], none⟩,
        ⟨(some 44), none, (.l (.load none)), [(.t 43)], none⟩,
        ⟨(some 45), none, (.call 164), [(.t 36), (.t 40), (.t 44)], none⟩,
        ⟨(some 46), none, (.p .mv), [(.t 8)], none⟩,
        ⟨(some 47), none, (.p (.bin .sub)), [(.t 46), (.c (.int .i64 (.ofNat 7)))], none⟩,
        ⟨(some 48), none, (.p (.arrIdx 80 1)), [(.t 6), (.t 47)], none⟩,
        ⟨(some 49), none, (.l (.load none)), [(.t 48)], some (0, 2)⟩,
        ⟨(some 50), none, (.p (.bin .add)), [(.t 45), (.t 49)], none⟩,
        ⟨(some 51), none, (.p .mv), [(.t 8)], none⟩,
        ⟨(some 52), none, (.p (.bin .sub)), [(.t 51), (.c (.int .i64 (.ofNat 15)))], none⟩,
        ⟨(some 53), none, (.p (.arrIdx 80 1)), [(.t 6), (.t 52)], none⟩,
        ⟨(some 54), none, (.l (.load none)), [(.t 53)], some (0, 1)⟩,
        ⟨(some 55), none, (.p .mv), [(.t 0)], none⟩,
        ⟨(some 56), none, (.p .nilck), [(.t 55)], none⟩,
        ⟨(some 57), none, (.p (.fieldAddr 2)), [(.t 56)], none⟩,
        ⟨(some 58), none, (.l (.load (some 3))), [(.t 57)], some (0, 1)⟩,
        ⟨(some 59), none, (.p .mv), [(.t 0)], none⟩,
        ⟨(some 60), none, (.p .nilck), [(.t 59)], none⟩,
        ⟨(some 61), none, (.p (.fieldAddr 0)), [(.t 60)], none⟩,
        ⟨(some 62), none, (.l (.load none)), [(.t 61)], some (0, 1)⟩,
        ⟨(some 63), none, (.call 164), [(.t 54), (.t 58), (.t 62)], none⟩,
        ⟨(some 64), none, (.p (.bin .add)), [(.t 50), (.t 63)], none⟩,
        ⟨(some 65), none, (.p .mv), [(.t 8)], none⟩,
        ⟨(some 66), none, (.p (.bin .sub)), [(.t 65), (.c (.int .i64 (.ofNat 16)))], none⟩,
        ⟨(some 67), none, (.p (.arrIdx 80 1)), [(.t 6), (.t 66)], none⟩,
        ⟨(some 68), none, (.l (.load none)), [(.t 67)], some (0, 2)⟩,
        ⟨(some 69), none, (.p (.bin .add)), [(.t 64), (.t 68)], none⟩,
        ⟨(some 70), none, (.p (.arrIdx 80 1)), [(.t 6), (.t 32)], none⟩,
        ⟨none, none, (.e (.store 1)), [(.t 70), (.t 69)], none⟩])
      (.keep [0, 1, 2, 6, 7, 26, 27] (.keep [0, 1, 2, 6, 7, 26, 27] (.exit 1))))
      .skip)))
     (.keep [0, 1, 2, 6, 7, 8, 26, 27] (.seq (.reg [⟨(some 71), none, (.p .mv), [(.t 2)], none⟩,
       ⟨(some 72), none, (.p .mv), [(.t 8)], none⟩,
       ⟨(some 73), none, (.p .mv), [(.t 7)], none⟩,
       ⟨(some 74), none, (.p (.bin .mul)), [(.t 72), (.t 73)], none⟩,
       ⟨(some 75), none, (.p .mv), [(.t 8)], none⟩,
       ⟨(some 76), none, (.p (.bin .add)), [(.t 75), (.c (.int .i64 (.ofNat 1)))], none⟩,
       ⟨(some 77), none, (.p .mv), [(.t 7)], none⟩,
       ⟨(some 78), none, (.p (.bin .mul)), [(.t 76), (.t 77)], none⟩,
       ⟨(some 79), none, (.p (.slSlice 1 true true false)), [(.t 71), (.t 74), (.t 78)], none⟩,
       ⟨(some 80), none, (.p .len), [(.t 79)], none⟩,
       ⟨(some 81), none, (.p .mv), [(.c (.int .i64 (.ofNat 0)))], none⟩])
     (.keep [0, 1, 2, 6, 7, 8, 26, 27, 79, 80, 81] (.block 2
      (.loop
       (.keep [0, 1, 2, 6, 7, 8, 26, 27, 79, 80, 81] (.seq (.reg [⟨(some 82), none, (.p (.bin .lss)), [(.t 81), (.t 80)], none⟩])
       (.keep [0, 1, 2, 6, 7, 8, 26, 27, 79, 80, 81, 82] (.seq (.cond (.t 82)
        .skip
        (.keep [0, 1, 2, 6, 7, 26, 27] (.exit 2)))
       (.keep [0, 1, 2, 6, 7, 8, 26, 27, 79, 80, 81] (.seq (.block 3
        (.seq (.reg [⟨(some 83), none, (.p (.slIdx 1)), [(.t 79), (.t 81)], none⟩,
          ⟨(some 84), none, (.l (.load none)), [(.t 83)], none⟩,
          ⟨(some 10), none, (.p .mv), [(.t 84)], none⟩])
        (.keep [0, 1, 2, 6, 7, 8, 10, 26, 27, 79, 80, 81] (.reg [⟨(some 85), none, (.p .mv), [(.t 8)], none⟩,
          ⟨(some 86), none, (.p .mv), [(.t 8)], none⟩,
          ⟨(some 87), none, (.p (.arrIdx 80 1)), [(.t 6), (.t 86)], none⟩,
          ⟨(some 88), none, (.l (.load none)), [(.t 87)], none⟩,
          ⟨(some 89), none, (.p (.bin .shl)), [(.t 88), (.c (.int .u64 (.ofNat 8)))], none⟩,
          ⟨(some 90), none, (.p .mv), [(.t 10)], none⟩,
          ⟨(some 91), none, (.p (.toInt .u32)), [(.t 90)], none⟩,
          ⟨(some 92), none, (.p (.bin .or)), [(.t 89), (.t 91)], none⟩,
          ⟨(some 93), none, (.p (.arrIdx 80 1)), [(.t 6), (.t 85)], none⟩,
          ⟨none, none, (.e (.store 1)), [(.t 93), (.t 92)], none⟩]))))
       (.keep [0, 1, 2, 6, 7, 8, 26, 27, 79, 80, 81] (.reg [⟨(some 94), none, (.p (.bin .add)), [(.t 81), (.c (.int .i64 (.ofNat 1)))], none⟩,
         ⟨(some 81), none, (.p .mv), [(.t 94)], none⟩])))))))))))))))))
    (.keep [0, 1, 2, 6, 7, 26, 27] (.reg [⟨(some 95), none, (.p (.bin .add)), [(.t 27), (.c (.int .i64 (.ofNat 1)))], none⟩,
      ⟨(some 27), none, (.p .mv), [(.t 95)], none⟩]))))))))))))
  (.keep [0, 1, 6] (.seq (.reg [⟨(some 96), none, (.p .mv), [(.t 1)], none⟩,
    ⟨(some 97), none, (.p .nilck), [(.t 96)], none⟩,
    ⟨(some 98), none, (.l (.load (some 8))), [(.t 97)], none⟩,
    ⟨(some 11), none, (.e (.alloc (repl 8 [(.int .u32 (.ofNat 0))]))), [], none⟩,
    ⟨none, none, (.e (.store 8)), [(.t 11), (.t 98)], none⟩])
  (.keep [0, 1, 6, 11] (.seq (.seq (.reg [⟨(some 99), none, (.p .mv), [(.t 0)], none⟩,
    ⟨(some 100), none, (.p .nilck), [(.t 99)], none⟩,
    ⟨(some 101), none, (.p (.fieldAddr 1)), [(.t 100)], none⟩,
    ⟨(some 102), none, (.l (.load none)), [(.t 101)], none⟩,
    ⟨(some 103), none, (.p .mv), [(.c (.int .i64 (.ofNat 0)))], none⟩])
  (.keep [0, 1, 6, 11, 102, 103] (.block 4
   (.loop
    (.keep [0, 1, 6, 11, 102, 103] (.seq (.reg [⟨(some 104), none, (.p (.bin .lss)), [(.t 103), (.t 102)], none⟩])
    (.keep [0, 1, 6, 11, 102, 103, 104] (.seq (.cond (.t 104)
     .skip
     (.keep [1, 11] (.exit 4)))
    (.keep [0, 1, 6, 11, 102, 103] (.seq (.block 5
     (.seq (.reg [⟨(some 105), none, (.p .mv), [(.t 103)], none⟩,
       ⟨(some 12), none, (.p .mv), [(.t 105)], none⟩])
     (.keep [0, 1, 6, 11, 12, 102, 103] (.seq (.reg [⟨(some 106), none, (.p (.arrIdx 8 1)), [(.t 11), (.c (.int .i64 (.ofNat 4)))], none⟩,
       ⟨(some 107), none, (.l (.load none)), [(.t 106)], none⟩,
       ⟨(some 108), none, (.p (.arrIdx 8 1)), [(.t 11), (.c (.int .i64 (.ofNat 5)))], none⟩,
       ⟨(some 109), none, (.l (.load none)), [(.t 108)], none⟩,
       ⟨(some 110), none, (.p (.bin .and)), [(.t 107), (.t 109)], none⟩,
       ⟨(some 111), none, (.p (.arrIdx 8 1)), [(.t 11), (.c (.int .i64 (.ofNat 4)))], none⟩,
       ⟨(some 112), none, (.l (.load none)), [(.t 111)], none⟩,
       ⟨(some 113), none, (.p (.un .xor)), [(.t 112)], none⟩,
       ⟨(some 114), none, (.p (.arrIdx 8 1)), [(.t 11), (.c (.int .i64 (.ofNat 6)))], none⟩,
       ⟨(some 115), none, (.l (.load none)), [(.t 114)], none⟩,
       ⟨(some 116), none, (.p (.bin .and)), [(.t 113), (.t 115)], none⟩,
       ⟨(some 117), none, (.p (.bin .xor)), [(.t 110), (.t 116)], none⟩,
       ⟨(some 13), none, (.p .mv), [(.t 117)], none⟩])
     (.keep [0, 1, 6, 11, 12, 13, 102, 103] (.seq (.reg [⟨(some 118), none, (.p (.arrIdx 8 1)), [(.t 11), (.c (.int .i64 (.ofNat 0)))], none⟩,
       ⟨(some 119), none, (.l (.load none)), [(.t 118)], none⟩,
       ⟨(some 120), none, (.p (.arrIdx 8 1)), [(.t 11), (.c (.int .i64 (.ofNat 1)))], none⟩,
       ⟨(some 121), none, (.l (.load none)), [(.t 120)], none⟩,
       ⟨(some 122), none, (.p (.bin .and)), [(.t 119), (.t 121)], none⟩,
       ⟨(some 123), none, (.p (.arrIdx 8 1)), [(.t 11), (.c (.int .i64 (.ofNat 0)))], none⟩,
       ⟨(some 124), none, (.l (.load none)), [(.t 123)], none⟩,
       ⟨(some 125), none, (.p (.arrIdx 8 1)), [(.t 11), (.c (.int .i64 (.ofNat 2)))], none⟩,
       ⟨(some 126), none, (.l (.load none)), [(.t 125)], none⟩,
       ⟨(some 127), none, (.p (.bin .and)), [(.t 124), (.t 126)], none⟩,
       ⟨(some 128), none, (.p (.bin .xor)), [(.t 122), (.t 127)], none⟩,
       ⟨(some 129), none, (.p (.arrIdx 8 1)), [(.t 11), (.c (.int .i64 (.ofNat 1)))], none⟩,
       ⟨(some 130), none, (.l (.load none)), [(.t 129)], none⟩,
       ⟨(some 131), none, (.p (.arrIdx 8 1)), [(.t 11), (.c (.int .i64 (.ofNat 2)))], none⟩,
       ⟨(some 132), none, (.l (.load none)), [(.t 131)], none⟩,
       ⟨(some 133), none, (.p (.bin .and)), [(.t 130), (.t 132)], none⟩,
       ⟨(some 134), none, (.p (.bin .xor)), [(.t 128), (.t 133)], none⟩,
       ⟨(some 14), none, (.p .mv), [(.t 134)], none⟩])
     (.keep [0, 1, 6, 11, 12, 13, 14, 102, 103] (.seq (.draw [⟨(some 135), none, (.p (.arrIdx 8 1)), [(.t 11), (.c (.int .i64 (.ofNat 7)))], none⟩,
       ⟨(some 136), none, (.l (.load none)), [(.t 135)], some (0, 1)⟩,
       ⟨(some 137), none, (.p (.arrIdx 8 1)), [(.t 11), (.c (.int .i64 (.ofNat 4)))], none⟩,
       ⟨(some 138), none, (.l (.load none)), [(.t 137)], none⟩,
       ⟨(some 139), none, (.p .mv), [(.t 0)], none⟩,
       ⟨(some 140), none, (.p .nilck), [(.t 139)], none⟩,
       ⟨(some 141), none, (.p (.fieldAddr 11)), [(.t 140)], none⟩,
       ⟨(some 142), none, (.l (.load (some 3))), [(.t 141)], none⟩,
       ⟨(some 143), none, (.p .mv), [(.t 0)], none⟩,
       ⟨(some 144), none, (.p .nilck), [(.t 143)], none⟩,
       ⟨(some 145), none, (.p (.fieldAddr 0)), [(.t 144)], none⟩,
       ⟨(some 146), none, (.l (.load none)), [(.t 145)], none⟩,
       ⟨(some 147), none, (.call 165), [(.t 138), (.t 142), (.t 146)], none⟩,
       ⟨(some 148), none, (.p (.bin .add)), [(.t 136), (.t 147)], none⟩,
       ⟨(some 149), none, (.p .mv), [(.t 13)], none⟩,
       ⟨(some 150), none, (.p (.bin .add)), [(.t 148), (.t 149)], none⟩,
       ⟨(some 151), none, (.p .mv), [(.t 12)], none⟩,
       ⟨(some 152), none, (.p (.arrIdx 80 1)), [(.c (.ptr 6 0)), (.t 151)], none⟩,
       ⟨(some 153), none, (.l (.load none)), [(.t 152)], some (0, 1)⟩,
       ⟨(some 154), none, (.p .mv), [(.t 0)], none⟩,
       ⟨(some 155), none, (.p .nilck), [(.t 154)], none⟩,
       ⟨(some 156), none, (.p (.fieldAddr 0)), [(.t 155)], none⟩,
       ⟨(some 157), none, (.l (.load none)), [(.t 156)], some (0, 1)⟩,
       ⟨(some 158), none, (.p (.bin .sub)), [(.c (.int .i64 (.ofNat 64))), (.t 157)], none⟩,
       ⟨(some 159), none, (.p (.bin .shr)), [(.t 153), (.t 158)], none⟩,
       ⟨(some 160), none, (.p (.toInt .u32)), [(.t 159)], none⟩,
       ⟨(some 161), none, (.p (.bin .add)), [(.t 150), (.t 160)], none⟩,
       ⟨(some 162), none, (.p .mv), [(.t 12)], none⟩,
       ⟨(some 163), none, (.p (.arrIdx 80 1)), [(.t 6), (.t 162)], none⟩,
       ⟨(some 164), none, (.l (.load none)), [(.t 163)], some (0, 1)⟩,
       ⟨(some 165), none, (.p (.bin .add)), [(.t 161), (.t 164)], none⟩,
       ⟨(some 15), none, (.p .mv), [(.t 165)], none⟩])
     (.keep [0, 1, 6, 11, 14, 15, 102, 103] (.seq (.draw [⟨(some 166), none, (.p (.arrIdx 8 1)), [(.t 11), (.c (.int .i64 (.ofNat 0)))], none⟩,
       ⟨(some 167), none, (.l (.load none)), [(.t 166)], none⟩,
       ⟨(some 168), none, (.p .mv), [(.t 0)], none⟩,
       ⟨(some 169), none, (.p .nilck), [(.t 168)], none⟩,
       ⟨(some 170), none, (.p (.fieldAddr 8)), [(.t 169)], none⟩,
       ⟨(some 171), none, (.l (.load (some 3))), [(.t 170)], none⟩,
       ⟨(some 172), none, (.p .mv), [(.t 0)], none⟩,
       ⟨(some 173), none, (.p .nilck), [(.t 172)], none⟩,
       ⟨(some 174), none, (.p (.fieldAddr 0)), [(.t 173)], none⟩,
       ⟨(some 175), none, (.l (.load none)), [(.t 174)], none⟩,
       ⟨(some 176), none, (.call 165), [(.t 167), (.t 171), (.t 175)], none⟩,
       ⟨(some 177), none, (.p .mv), [(.t 14)], none⟩,
       ⟨(some 178), none, (.p (.bin .add)), [(.t 176), (.t 177)], none⟩,
       ⟨(some 16), none, (.p .mv), [(.t 178)], none⟩])
     (.keep [0, 1, 6, 11, 15, 16, 102, 103] (.reg [⟨(some 179), none, (.p .mv), [(.t 15)], none⟩,
       ⟨(some 180), none, (.p .mv), [(.t 16)], none⟩,
       ⟨(some 181), none, (.p (.bin .add)), [(.t 179), (.t 180)], none⟩,
       ⟨(some 182), none, (.p (.arrIdx 8 1)), [(.t 11), (.c (.int .i64 (.ofNat 0)))], none⟩,
       ⟨(some 183), none, (.l (.load none)), [(.t 182)], none⟩,
       ⟨(some 184), none, (.p (.arrIdx 8 1)), [(.t 11), (.c (.int .i64 (.ofNat 1)))], none⟩,
       ⟨(some 185), none, (.l (.load none)), [(.t 184)], none⟩,
       ⟨(some 186), none, (.p (.arrIdx 8 1)), [(.t 11), (.c (.int .i64 (.ofNat 2)))], none⟩,
       ⟨(some 187), none, (.l (.load none)), [(.t 186)], none⟩,
       ⟨(some 188), none, (.p (.arrIdx 8 1)), [(.t 11), (.c (.int .i64 (.ofNat 3)))], none⟩,
       ⟨(some 189), none, (.l (.load none)), [(.t 188)], none⟩,
       ⟨(some 190), none, (.p .mv), [(.t 15)], none⟩,
       ⟨(some 191), none, (.p (.bin .add)), [(.t 189), (.t 190)], none⟩,
       ⟨(some 192), none, (.p (.arrIdx 8 1)), [(.t 11), (.c (.int .i64 (.ofNat 4)))], none⟩,
       ⟨(some 193), none, (.l (.load none)), [(.t 192)], none⟩,
       ⟨(some 194), none, (.p (.arrIdx 8 1)), [(.t 11), (.c (.int .i64 (.ofNat 5)))], none⟩,
       ⟨(some 195), none, (.l (.load none)), [(.t 194)], none⟩,
       ⟨(some 196), none, (.p (.arrIdx 8 1)), [(.t 11), (.c (.int .i64 (.ofNat 6)))], none⟩,
       ⟨(some 197), none, (.l (.load none)), [(.t 196)], none⟩,
       ⟨(some 198), none, (.p (.build (repl 8 [(.int .u32 (.ofNat 0))]) [(0, 1), (1, 1), (2, 1), (3, 1), (4, 1), (5, 1), (6, 1), (7, 1)])), [(.t 181), (.t 183), (.t 185), (.t 187), (.t 191), (.t 193), (.t 195), (.t 197)], none⟩,
       ⟨none, none, (.e (.store 8)), [(.t 11), (.t 198)], none⟩]))))))))))))
    (.keep [0, 1, 6, 11, 102, 103] (.reg [⟨(some 199), none, (.p (.bin .add)), [(.t 103), (.c (.int .i64 (.ofNat 1)))], none⟩,
      ⟨(some 103), none, (.p .mv), [(.t 199)], none⟩]))))))))))))
  (.keep [1, 11] (.seq (.reg [⟨(some 200), none, (.p .mv), [(.c (.int .i64 (.ofNat 0)))], none⟩])
  (.keep [1, 11, 200] (.block 6
   (.loop
    (.keep [1, 11, 200] (.seq (.reg [⟨(some 201), none, (.p (.bin .lss)), [(.t 200), (.c (.int .i64 (.ofNat 8)))], none⟩])
    (.keep [1, 11, 200, 201] (.seq (.cond (.t 201)
     .skip
     (.keep [] (.exit 6)))
    (.keep [1, 11, 200] (.seq (.block 7
     (.seq (.reg [⟨(some 202), none, (.p .mv), [(.t 200)], none⟩,
       ⟨(some 17), none, (.p .mv), [(.t 202)], none⟩])
     (.keep [1, 11, 17, 200] (.draw [⟨(some 203), none, (.p .mv), [(.t 1)], none⟩,
       ⟨(some 204), none, (.p .mv), [(.t 17)], none⟩,
       ⟨(some 205), none, (.p .nilck), [(.t 203)], none⟩,
       ⟨(some 206), none, (.p (.arrIdx 8 1)), [(.t 205), (.t 204)], none⟩,
       ⟨(some 207), none, (.l (.load none)), [(.t 206)], none⟩,
       ⟨(some 208), none, (.p .mv), [(.t 17)], none⟩,
       ⟨(some 209), none, (.p (.arrIdx 8 1)), [(.t 11), (.t 208)], none⟩,
       ⟨(some 210), none, (.l (.load none)), [(.t 209)], none⟩,
       ⟨(some 211), none, (.p (.bin .add)), [(.t 207), (.t 210)], none⟩,
       ⟨(some 212), none, (.p .nilck), [(.t 203)], none⟩,
       ⟨(some 213), none, (.p (.arrIdx 8 1)), [(.t 212), (.t 204)], none⟩,
       ⟨none, none, (.e (.store 1)), [(.t 213), (.t 211)], none⟩]))))
    (.keep [1, 11, 200] (.reg [⟨(some 214), none, (.p (.bin .add)), [(.t 200), (.c (.int .i64 (.ofNat 1)))], none⟩,
      ⟨(some 200), none, (.p .mv), [(.t 214)], none⟩])))))))))))))))))))))),
  []⟩
def s132_l2 (call : CallK) (N : Nat) (st : St) (τ : Tape) (k : KC) : Ans :=
  match st with
  | ⟨fr, H⟩ =>
  getK fr 1 fun t1 =>
  getK fr 11 fun t11 =>
  getK fr 200 fun t200 =>
  binK .lss t200 (.int .i64 (.ofNat 8)) fun v21 =>
  condK v21
    (someK (pNilck [t1]) fun v22 =>
  someK (pArrIdx 8 1 [v22, t200]) fun v23 =>
  someK (lLoad1 [v23] H) fun v24 =>
  someK (pArrIdx 8 1 [t11, t200]) fun v25 =>
  someK (lLoad1 [v25] H) fun v26 =>
  binK .add v24 v26 fun v27 =>
  someK (pNilck [t1]) fun v28 =>
  someK (pArrIdx 8 1 [v28, t200]) fun v29 =>
  effK (eStore 1 [v29, v27] H τ) fun v30 H31 τ32 =>
  binK .add t200 (.int .i64 (.ofNat 1)) fun v33 =>
  k .normal ⟨(T.set (T.set (T.set (T.set (T.set .leaf 1 t1) 11 t11) 200 t200) 214 v33) 200 v33), H31⟩ τ32)
    (k (.exit 6) ⟨.leaf, H⟩ τ)
def s132_j1 (call : CallK) (N : Nat) (q : KV) (st : St) (τ : Tape) : Ans :=
  match st with
  | ⟨fr, H⟩ =>
  getK fr 1 fun t1 =>
  getK fr 11 fun t11 =>
  loopK (s132_l2 call N) N ⟨(T.set (T.set (T.set .leaf 1 t1) 11 t11) 200 (.int .i64 (.ofNat 0))), H⟩ τ (blockK 6 (endK [] q))
def s132_l3 (call : CallK) (N : Nat) (st : St) (τ : Tape) (k : KC) : Ans :=
  match st with
  | ⟨fr, H⟩ =>
  getK fr 0 fun t0 =>
  getK fr 1 fun t1 =>
  getK fr 6 fun t6 =>
  getK fr 11 fun t11 =>
  getK fr 102 fun t102 =>
  getK fr 103 fun t103 =>
  binK .lss t103 t102 fun v34 =>
  condK v34
    (someK (pArrIdx 8 1 [t11, (.int .i64 (.ofNat 4))]) fun v35 =>
  someK (lLoad1 [v35] H) fun v36 =>
  someK (pArrIdx 8 1 [t11, (.int .i64 (.ofNat 5))]) fun v37 =>
  someK (lLoad1 [v37] H) fun v38 =>
  binK .and v36 v38 fun v39 =>
  someK (pArrIdx 8 1 [t11, (.int .i64 (.ofNat 4))]) fun v40 =>
  someK (lLoad1 [v40] H) fun v41 =>
  unK .xor v41 fun v42 =>
  someK (pArrIdx 8 1 [t11, (.int .i64 (.ofNat 6))]) fun v43 =>
  someK (lLoad1 [v43] H) fun v44 =>
  binK .and v42 v44 fun v45 =>
  binK .xor v39 v45 fun v46 =>
  someK (pArrIdx 8 1 [t11, (.int .i64 (.ofNat 0))]) fun v47 =>
  someK (lLoad1 [v47] H) fun v48 =>
  someK (pArrIdx 8 1 [t11, (.int .i64 (.ofNat 1))]) fun v49 =>
  someK (lLoad1 [v49] H) fun v50 =>
  binK .and v48 v50 fun v51 =>
  someK (pArrIdx 8 1 [t11, (.int .i64 (.ofNat 0))]) fun v52 =>
  someK (lLoad1 [v52] H) fun v53 =>
  someK (pArrIdx 8 1 [t11, (.int .i64 (.ofNat 2))]) fun v54 =>
  someK (lLoad1 [v54] H) fun v55 =>
  binK .and v53 v55 fun v56 =>
  binK .xor v51 v56 fun v57 =>
  someK (pArrIdx 8 1 [t11, (.int .i64 (.ofNat 1))]) fun v58 =>
  someK (lLoad1 [v58] H) fun v59 =>
  someK (pArrIdx 8 1 [t11, (.int .i64 (.ofNat 2))]) fun v60 =>
  someK (lLoad1 [v60] H) fun v61 =>
  binK .and v59 v61 fun v62 =>
  binK .xor v57 v62 fun v63 =>
  someK (pArrIdx 8 1 [t11, (.int .i64 (.ofNat 7))]) fun v64 =>
  someK (lLoad1 [v64] H) fun v65 =>
  someK (pArrIdx 8 1 [t11, (.int .i64 (.ofNat 4))]) fun v66 =>
  someK (lLoad1 [v66] H) fun v67 =>
  someK (pNilck [t0]) fun v68 =>
  someK (pFieldAddr 11 [v68]) fun v69 =>
  someK (lLoadN 3 [v69] H) fun v70 =>
  someK (pNilck [t0]) fun v71 =>
  someK (pFieldAddr 0 [v71]) fun v72 =>
  someK (lLoad1 [v72] H) fun v73 =>
  call 165 [v67, v70, v73] H τ fun v74 H75 τ76 =>
  binK .add v65 v74 fun v77 =>
  binK .add v77 v46 fun v78 =>
  someK (pArrIdx 80 1 [(.ptr 6 0), t103]) fun v79 =>
  someK (lLoad1 [v79] H75) fun v80 =>
  someK (pNilck [t0]) fun v81 =>
  someK (pFieldAddr 0 [v81]) fun v82 =>
  someK (lLoad1 [v82] H75) fun v83 =>
  binK .sub (.int .i64 (.ofNat 64)) v83 fun v84 =>
  binK .shr v80 v84 fun v85 =>
  toIntK .u32 v85 fun v86 =>
  binK .add v78 v86 fun v87 =>
  someK (pArrIdx 80 1 [t6, t103]) fun v88 =>
  someK (lLoad1 [v88] H75) fun v89 =>
  binK .add v87 v89 fun v90 =>
  bif chkLoads [H, H75] (((.load none), [v88], 0, 1) :: (((.load none), [v82], 0, 1) :: (((.load none), [v79], 0, 1) :: (((.load none), [v64], 0, 1) :: [])))) then
  someK (pArrIdx 8 1 [t11, (.int .i64 (.ofNat 0))]) fun v91 =>
  someK (lLoad1 [v91] H75) fun v92 =>
  someK (pNilck [t0]) fun v93 =>
  someK (pFieldAddr 8 [v93]) fun v94 =>
  someK (lLoadN 3 [v94] H75) fun v95 =>
  someK (pNilck [t0]) fun v96 =>
  someK (pFieldAddr 0 [v96]) fun v97 =>
  someK (lLoad1 [v97] H75) fun v98 =>
  call 165 [v92, v95, v98] H75 τ76 fun v99 H100 τ101 =>
  binK .add v99 v63 fun v102 =>
  binK .add v90 v102 fun v103 =>
  someK (pArrIdx 8 1 [t11, (.int .i64 (.ofNat 0))]) fun v104 =>
  someK (lLoad1 [v104] H100) fun v105 =>
  someK (pArrIdx 8 1 [t11, (.int .i64 (.ofNat 1))]) fun v106 =>
  someK (lLoad1 [v106] H100) fun v107 =>
  someK (pArrIdx 8 1 [t11, (.int .i64 (.ofNat 2))]) fun v108 =>
  someK (lLoad1 [v108] H100) fun v109 =>
  someK (pArrIdx 8 1 [t11, (.int .i64 (.ofNat 3))]) fun v110 =>
  someK (lLoad1 [v110] H100) fun v111 =>
  binK .add v111 v90 fun v112 =>
  someK (pArrIdx 8 1 [t11, (.int .i64 (.ofNat 4))]) fun v113 =>
  someK (lLoad1 [v113] H100) fun v114 =>
  someK (pArrIdx 8 1 [t11, (.int .i64 (.ofNat 5))]) fun v115 =>
  someK (lLoad1 [v115] H100) fun v116 =>
  someK (pArrIdx 8 1 [t11, (.int .i64 (.ofNat 6))]) fun v117 =>
  someK (lLoad1 [v117] H100) fun v118 =>
  someK (pBuild (repl 8 [(.int .u32 (.ofNat 0))]) [(0, 1), (1, 1), (2, 1), (3, 1), (4, 1), (5, 1), (6, 1), (7, 1)] [v103, v105, v107, v109, v112, v114, v116, v118]) fun v119 =>
  effK (eStore 8 [t11, v119] H100 τ101) fun v120 H121 τ122 =>
  binK .add t103 (.int .i64 (.ofNat 1)) fun v123 =>
  k .normal ⟨(T.set (T.set (T.set (T.set (T.set (T.set (T.set (T.set .leaf 0 t0) 1 t1) 6 t6) 11 t11) 102 t102) 103 t103) 199 v123) 103 v123), H121⟩ τ122
  else none)
    (k (.exit 4) ⟨(T.set (T.set .leaf 1 t1) 11 t11), H⟩ τ)
def s132_j0 (call : CallK) (N : Nat) (q : KV) (st : St) (τ : Tape) : Ans :=
  match st with
  | ⟨fr, H⟩ =>
  getK fr 0 fun t0 =>
  getK fr 1 fun t1 =>
  getK fr 6 fun t6 =>
  someK (pNilck [t1]) fun v10 =>
  someK (lLoadN 8 [v10] H) fun v11 =>
  effK (eAlloc (repl 8 [(.int .u32 (.ofNat 0))]) [] H τ) fun v12 H13 τ14 =>
  effK (eStore 8 [v12, v11] H13 τ14) fun v15 H16 τ17 =>
  someK (pNilck [t0]) fun v18 =>
  someK (pFieldAddr 1 [v18]) fun v19 =>
  someK (lLoad1 [v19] H16) fun v20 =>
  loopK (s132_l3 call N) N ⟨(T.set (T.set (T.set (T.set (T.set (T.set .leaf 0 t0) 1 t1) 6 t6) 11 v12) 102 v20) 103 (.int .i64 (.ofNat 0))), H16⟩ τ17 (blockK 4 (seqK (s132_j1 call N q) (endK [] q)))
def s132_j5 (call : CallK) (N : Nat) (k : KC) (st : St) (τ : Tape) : Ans :=
  match st with
  | ⟨fr, H⟩ =>
  getK fr 0 fun t0 =>
  getK fr 1 fun t1 =>
  getK fr 2 fun t2 =>
  getK fr 6 fun t6 =>
  getK fr 7 fun t7 =>
  getK fr 26 fun t26 =>
  getK fr 27 fun t27 =>
  binK .add t27 (.int .i64 (.ofNat 1)) fun v125 =>
  k .normal ⟨(T.set (T.set (T.set (T.set (T.set (T.set (T.set (T.set (T.set .leaf 0 t0) 1 t1) 2 t2) 6 t6) 7 t7) 26 t26) 27 t27) 95 v125) 27 v125), H⟩ τ
def s132_l6 (call : CallK) (N : Nat) (st : St) (τ : Tape) (k : KC) : Ans :=
  match st with
  | ⟨fr, H⟩ =>
  getK fr 0 fun t0 =>
  getK fr 1 fun t1 =>
  getK fr 2 fun t2 =>
  getK fr 6 fun t6 =>
  getK fr 7 fun t7 =>
  getK fr 8 fun t8 =>
  getK fr 26 fun t26 =>
  getK fr 27 fun t27 =>
  getK fr 79 fun t79 =>
  getK fr 80 fun t80 =>
  getK fr 81 fun t81 =>
  binK .lss t81 t80 fun v169 =>
  condK v169
    (someK (pSlIdx 1 [t79, t81]) fun v170 =>
  someK (lLoad1 [v170] H) fun v171 =>
  someK (pArrIdx 80 1 [t6, t8]) fun v172 =>
  someK (lLoad1 [v172] H) fun v173 =>
  binK .shl v173 (.int .u64 (.ofNat 8)) fun v174 =>
  toIntK .u32 v171 fun v175 =>
  binK .or v174 v175 fun v176 =>
  someK (pArrIdx 80 1 [t6, t8]) fun v177 =>
  effK (eStore 1 [v177, v176] H τ) fun v178 H179 τ180 =>
  binK .add t81 (.int .i64 (.ofNat 1)) fun v181 =>
  k .normal ⟨(T.set (T.set (T.set (T.set (T.set (T.set (T.set (T.set (T.set (T.set (T.set (T.set (T.set .leaf 0 t0) 1 t1) 2 t2) 6 t6) 7 t7) 8 t8) 26 t26) 27 t27) 79 t79) 80 t80) 81 t81) 94 v181) 81 v181), H179⟩ τ180)
    (k (.exit 2) ⟨(T.set (T.set (T.set (T.set (T.set (T.set (T.set .leaf 0 t0) 1 t1) 2 t2) 6 t6) 7 t7) 26 t26) 27 t27), H⟩ τ)
def s132_l4 (call : CallK) (N : Nat) (st : St) (τ : Tape) (k : KC) : Ans :=
  match st with
  | ⟨fr, H⟩ =>
  getK fr 0 fun t0 =>
  getK fr 1 fun t1 =>
  getK fr 2 fun t2 =>
  getK fr 6 fun t6 =>
  getK fr 7 fun t7 =>
  getK fr 26 fun t26 =>
  getK fr 27 fun t27 =>
  binK .lss t27 t26 fun v124 =>
  condK v124
    (binK .geq t27 (.int .i64 (.ofNat 16)) fun v126 =>
  condK v126
    (binK .sub t27 (.int .i64 (.ofNat 2)) fun v127 =>
  someK (pArrIdx 80 1 [t6, v127]) fun v128 =>
  someK (lLoad1 [v128] H) fun v129 =>
  someK (pNilck [t0]) fun v130 =>
  someK (pFieldAddr 5 [v130]) fun v131 =>
  someK (lLoadN 3 [v131] H) fun v132 =>
  someK (pNilck [t0]) fun v133 =>
  someK (pFieldAddr 0 [v133]) fun v134 =>
  someK (lLoad1 [v134] H) fun v135 =>
  call 164 [v129, v132, v135] H τ fun v136 H137 τ138 =>
  binK .sub t27 (.int .i64 (.ofNat 7)) fun v139 =>
  someK (pArrIdx 80 1 [t6, v139]) fun v140 =>
  someK (lLoad1 [v140] H137) fun v141 =>
  binK .add v136 v141 fun v142 =>
  binK .sub t27 (.int .i64 (.ofNat 15)) fun v143 =>
  someK (pArrIdx 80 1 [t6, v143]) fun v144 =>
  someK (lLoad1 [v144] H137) fun v145 =>
  someK (pNilck [t0]) fun v146 =>
  someK (pFieldAddr 2 [v146]) fun v147 =>
  someK (lLoadN 3 [v147] H137) fun v148 =>
  someK (pNilck [t0]) fun v149 =>
  someK (pFieldAddr 0 [v149]) fun v150 =>
  someK (lLoad1 [v150] H137) fun v151 =>
  call 164 [v145, v148, v151] H137 τ138 fun v152 H153 τ154 =>
  binK .add v142 v152 fun v155 =>
  binK .sub t27 (.int .i64 (.ofNat 16)) fun v156 =>
  someK (pArrIdx 80 1 [t6, v156]) fun v157 =>
  someK (lLoad1 [v157] H153) fun v158 =>
  binK .add v155 v158 fun v159 =>
  someK (pArrIdx 80 1 [t6, t27]) fun v160 =>
  effK (eStore 1 [v160, v159] H153 τ154) fun v161 H162 τ163 =>
  bif chkLoads [H, H137, H153, H162] (((.load none), [v157], 0, 2) :: (((.load none), [v150], 0, 1) :: (((.load (some 3)), [v147], 0, 1) :: (((.load none), [v144], 0, 1) :: (((.load none), [v140], 0, 2) :: []))))) then
  s132_j5 call N k ⟨(T.set (T.set (T.set (T.set (T.set (T.set (T.set .leaf 0 t0) 1 t1) 2 t2) 6 t6) 7 t7) 26 t26) 27 t27), H162⟩ τ163
  else none)
    (binK .mul t27 t7 fun v164 =>
  binK .add t27 (.int .i64 (.ofNat 1)) fun v165 =>
  binK .mul v165 t7 fun v166 =>
  someK (pSlSlice 1 true true false [t2, v164, v166]) fun v167 =>
  someK (pLen [v167]) fun v168 =>
  loopK (s132_l6 call N) N ⟨(T.set (T.set (T.set (T.set (T.set (T.set (T.set (T.set (T.set (T.set (T.set .leaf 0 t0) 1 t1) 2 t2) 6 t6) 7 t7) 8 t27) 26 t26) 27 t27) 79 v167) 80 v168) 81 (.int .i64 (.ofNat 0))), H⟩ τ (blockK 2 (blockK 1 (seqK (s132_j5 call N k) k)))))
    (k (.exit 0) ⟨(T.set (T.set (T.set .leaf 0 t0) 1 t1) 6 t6), H⟩ τ)
def s132 (call : CallK) (N : Nat) (a0 a1 a2 : V) (H : Heap) (τ : Tape) (q : KV) : Ans :=
  effK (eAlloc (repl 80 [(.int .u32 (.ofNat 0))]) [] H τ) fun v0 H1 τ2 =>
  someK (pNilck [a0]) fun v3 =>
  someK (pFieldAddr 0 [v3]) fun v4 =>
  someK (lLoad1 [v4] H1) fun v5 =>
  binK .quo v5 (.int .i64 (.ofNat 8)) fun v6 =>
  someK (pNilck [a0]) fun v7 =>
  someK (pFieldAddr 1 [v7]) fun v8 =>
  someK (lLoad1 [v8] H1) fun v9 =>
  loopK (s132_l4 call N) N ⟨(T.set (T.set (T.set (T.set (T.set (T.set (T.set .leaf 0 a0) 1 a1) 2 a2) 6 v0) 7 v6) 26 v9) 27 (.int .i64 (.ofNat 0))), H1⟩ τ2 (blockK 0 (seqK (s132_j0 call N q) (endK [] q)))
theorem s132_eq (call : CallK) (N : Nat) (a0 a1 a2 : V) (H : Heap) (τ : Tape) (q : KV) : s132 call N a0 a1 a2 H τ q = funK call N fn132 [a0, a1, a2] H τ q := by kernel_rfl
def e132 (call : CallK) (N : Nat) (vs : List V) (H : Heap) (τ : Tape) (q : KV) : Ans := match vs with | [a0, a1, a2] => s132 call N a0 a1 a2 H τ q | _ => none
theorem e132_ok : EntOk fn132 e132 := by
  intro call N vs H τ q r h
  unfold e132 at h
  split at h
  · rw [s132_eq] at h; exact h
  · cases h
/-- ostiary/digest.mix[uint64] -/
def fn133 : Fun := ⟨3,
  (.seq (.reg [⟨(some 6), none, (.e (.alloc (repl 80 [(.int .u64 (.ofNat 0))]))), [], none⟩])
  (.keep [0, 1, 2, 6] (.seq (.reg [⟨(some 18), none, (.p .mv), [(.t 0)], none⟩,
    ⟨(some 19), none, (.p .nilck), [(.t 18)], none⟩,
    ⟨(some 20), none, (.p (.fieldAddr 0)), [(.t 19)], none⟩,
    ⟨(some 21), none, (.l (.load none)), [(.t 20)], none⟩,
    ⟨(some 22), none, (.p (.bin .quo)), [(.t 21), (.c (.int .i64 (.ofNat 8)))], none⟩,
    ⟨(some 7), none, (.p .mv), [(.t 22)], none⟩])
  (.keep [0, 1, 2, 6, 7] (.seq (.seq (.reg [⟨(some 23), none, (.p .mv), [(.t 0)], none⟩,
    ⟨(some 24), none, (.p .nilck), [(.t 23)], none⟩,
    ⟨(some 25), none, (.p (.fieldAddr 1)), [(.t 24)], none⟩,
    ⟨(some 26), none, (.l (.load none)), [(.t 25)], none⟩,
    ⟨(some 27), none, (.p .mv), [(.c (.int .i64 (.ofNat 0)))], none⟩])
  (.keep [0, 1, 2, 6, 7, 26, 27] (.block 0
   (.loop
    (.keep [0, 1, 2, 6, 7, 26, 27] (.seq (.reg [⟨(some 28), none, (.p (.bin .lss)), [(.t 27), (.t 26)], none⟩])
    (.keep [0, 1, 2, 6, 7, 26, 27, 28] (.seq (.cond (.t 28)
     .skip
     (.keep [0, 1, 6] (.exit 0)))
    (.keep [0, 1, 2, 6, 7, 26, 27] (.seq (.block 1
     (.seq (.reg [⟨(some 29), none, (.p .mv), [(.t 27)], none⟩,
       ⟨(some 8), none, (.p .mv), [(.t 29)], none⟩])
     (.keep [0, 1, 2, 6, 7, 8, 26, 27] (.seq (.seq (.reg [⟨(some 30), none, (.p .mv), [(.t 8)], none⟩,
       ⟨(some 31), none, (.p (.bin .geq)), [(.t 30), (.c (.int .i64 (.ofNat 16)))], none⟩])
     (.keep [0, 1, 2, 6, 7, 8, 26, 27, 31] (.cond (.t 31)
      (.seq (.draw [⟨(some 32), none, (.p .mv), [(.t 8)], none⟩,
        ⟨(some 33), none, (.p .mv), [(.t 8)], none⟩,
        ⟨(some 34), none, (.p (.bin .sub)), [(.t 33), (.c (.int .i64 (.ofNat 2)))], none⟩,
        ⟨(some 35), none, (.p (.arrIdx 80 1)), [(.t 6), (.t 34)], none⟩,
        ⟨(some 36), none, (.l (.load none)), [(.t 35)], none⟩,
        ⟨(some 37), none, (.p .mv), [(.t 0)], none⟩,
        ⟨(some 38), none, (.p .nilck), [(.t 37)], none⟩,
        ⟨(some 39), none, (.p (.fieldAddr 5)), [(.t 38)], none⟩,
        ⟨(some 40), none, (.l (.load (some 3))), [(.t 39)], none⟩,
        ⟨(some 41), none, (.p .mv), [(.t 0)], none⟩,
        ⟨(some 42), none, (.p .nilck), [(.t 41)], none⟩,
        ⟨(some 43), none, (.p (.fieldAddr 0)), [(.t 42)], none⟩,
        ⟨(some 44), none, (.l (.load none)), [(.t 43)], none⟩,
        ⟨(some 45), none, (.call 166), [(.t 36), (.t 40), (.t 44)], none⟩,
        ⟨(some 46), none, (.p .mv), [(.t 8)], none⟩,
        ⟨(some 47), none, (.p (.bin .sub)), [(.t 46), (.c (.int .i64 (.ofNat 7)))], none⟩,
        ⟨(some 48), none, (.p (.arrIdx 80 1)), [(.t 6), (.t 47)], none⟩,
        ⟨(some 49), none, (.l (.load none)), [(.t 48)], some (0, 2)⟩,
        ⟨(some 50), none, (.p (.bin .add)), [(.t 45), (.t 49)], none⟩,
        ⟨(some 51), none, (.p .mv), [(.t 8)], none⟩,
        ⟨(some 52), none, (.p (.bin .sub)), [(.t 51), (.c (.int .i64 (.ofNat 15)))], none⟩,
        ⟨(some 53), none, (.p (.arrIdx 80 1)), [(.t 6), (.t 52)], none⟩,
        ⟨(some 54), none, (.l (.load none)), [(.t 53)], some (0, 1)⟩,
        ⟨(some 55), none, (.p .mv), [(.t 0)], none⟩,
        ⟨(some 56), none, (.p .nilck), [(.t 55)], none⟩,
        ⟨(some 57), none, (.p (.fieldAddr 2)), [(.t 56)], none⟩,
        ⟨(some 58), none, (.l (.load (some 3))), [(.t 57)], some (0, 1)⟩,
        ⟨(some 59), none, (.p .mv), [(.t 0)], none⟩,
        ⟨(some 60), none, (.p .nilck), [(.t 59)], none⟩,
        ⟨(some 61), none, (.p (.fieldAddr 0)), [(.t 60)], none⟩,
        ⟨(some 62), none, (.l (.load none)), [(.t 61)], some (0, 1)⟩,
        ⟨(some 63), none, (.call 166), [(.t 54), (.t 58), (.t 62)], none⟩,
        ⟨(some 64), none, (.p (.bin .add)), [(.t 50), (.t 63)], none⟩,
        ⟨(some 65), none, (.p .mv), [(.t 8)], none⟩,
        ⟨(some 66), none, (.p (.bin .sub)), [(.t 65), (.c (.int .i64 (.ofNat 16)))], none⟩,
        ⟨(some 67), none, (.p (.arrIdx 80 1)), [(.t 6), (.t 66)], none⟩,
        ⟨(some 68), none, (.l (.load none)), [(.t 67)], some (0, 2)⟩,
        ⟨(some 69), none, (.p (.bin .add)), [(.t 64), (.t 68)], none⟩,
        ⟨(some 70), none, (.p (.arrIdx 80 1)), [(.t 6), (.t 32)], none⟩,
        ⟨none, none, (.e (.store 1)), [(.t 70), (.t 69)], none⟩])
      (.keep [0, 1, 2, 6, 7, 26, 27] (.keep [0, 1, 2, 6, 7, 26, 27] (.exit 1))))
      .skip)))
     (.keep [0, 1, 2, 6, 7, 8, 26, 27] (.seq (.reg [⟨(some 71), none, (.p .mv), [(.t 2)], none⟩,
       ⟨(some 72), none, (.p .mv), [(.t 8)], none⟩,
       ⟨(some 73), none, (.p .mv), [(.t 7)], none⟩,
       ⟨(some 74), none, (.p (.bin .mul)), [(.t 72), (.t 73)], none⟩,
       ⟨(some 75), none, (.p .mv), [(.t 8)], none⟩,
       ⟨(some 76), none, (.p (.bin .add)), [(.t 75), (.c (.int .i64 (.ofNat 1)))], none⟩,
       ⟨(some 77), none, (.p .mv), [(.t 7)], none⟩,
       ⟨(some 78), none, (.p (.bin .mul)), [(.t 76), (.t 77)], none⟩,
       ⟨(some 79), none, (.p (.slSlice 1 true true false)), [(.t 71), (.t 74), (.t 78)], none⟩,
       ⟨(some 80), none, (.p .len), [(.t 79)], none⟩,
       ⟨(some 81), none, (.p .mv), [(.c (.int .i64 (.ofNat 0)))], none⟩])
     (.keep [0, 1, 2, 6, 7, 8, 26, 27, 79, 80, 81] (.block 2
      (.loop
       (.keep [0, 1, 2, 6, 7, 8, 26, 27, 79, 80, 81] (.seq (.reg [⟨(some 82), none, (.p (.bin .lss)), [(.t 81), (.t 80)], none⟩])
       (.keep [0, 1, 2, 6, 7, 8, 26, 27, 79, 80, 81, 82] (.seq (.cond (.t 82)
        .skip
        (.keep [0, 1, 2, 6, 7, 26, 27] (.exit 2)))
       (.keep [0, 1, 2, 6, 7, 8, 26, 27, 79, 80, 81] (.seq (.block 3
        (.seq (.reg [⟨(some 83), none, (.p (.slIdx 1)), [(.t 79), (.t 81)], none⟩,
          ⟨(some 84), none, (.l (.load none)), [(.t 83)], none⟩,
          ⟨(some 10), none, (.p .mv), [(.t 84)], none⟩])
        (.keep [0, 1, 2, 6, 7, 8, 10, 26, 27, 79, 80, 81] (.reg [⟨(some 85), none, (.p .mv), [(.t 8)], none⟩,
          ⟨(some 86), none, (.p .mv), [(.t 8)], none⟩,
          ⟨(some 87), none, (.p (.arrIdx 80 1)), [(.t 6), (.t 86)], none⟩,
          ⟨(some 88), none, (.l (.load none)), [(.t 87)], none⟩,
          ⟨(some 89), none, (.p (.bin .shl)), [(.t 88), (.c (.int .u64 (.ofNat 8)))], none⟩,
          ⟨(some 90), none, (.p .mv), [(.t 10)], none⟩,
          ⟨(some 91), none, (.p (.toInt .u64)), [(.t 90)], none⟩,
          ⟨(some 92), none, (.p (.bin .or)), [(.t 89), (.t 91)], none⟩,
          ⟨(some 93), none, (.p (.arrIdx 80 1)), [(.t 6), (.t 85)], none⟩,
          ⟨none, none, (.e (.store 1)), [(.t 93), (.t 92)], none⟩]))))
       (.keep [0, 1, 2, 6, 7, 8, 26, 27, 79, 80, 81] (.reg [⟨(some 94), none, (.p (.bin .add)), [(.t 81), (.c (.int .i64 (.ofNat 1)))], none⟩,
         ⟨(some 81), none, (.p .mv), [(.t 94)], none⟩])))))))))))))))))
    (.keep [0, 1, 2, 6, 7, 26, 27] (.reg [⟨(some 95), none, (.p (.bin .add)), [(.t 27), (.c (.int .i64 (.ofNat 1)))], none⟩,
      ⟨(some 27), none, (.p .mv), [(.t 95)], none⟩]))))))))))))
  (.keep [0, 1, 6] (.seq (.reg [⟨(some 96), none, (.p .mv), [(.t 1)], none⟩,
    ⟨(some 97), none, (.p .nilck), [(.t 96)], none⟩,
    ⟨(some 98), none, (.l (.load (some 8))), [(.t 97)], none⟩,
    ⟨(some 11), none, (.e (.alloc (repl 8 [(.int .u64 (.ofNat 0))]))), [], none⟩,
    ⟨none, none, (.e (.store 8)), [(.t 11), (.t 98)], none⟩])
  (.keep [0, 1, 6, 11] (.seq (.seq (.reg [⟨(some 99), none, (.p .mv), [(.t 0)], none⟩,
    ⟨(some 100), none, (.p .nilck), [(.t 99)], none⟩,
    ⟨(some 101), none, (.p (.fieldAddr 1)), [(.t 100)], none⟩,
    ⟨(some 102), none, (.l (.load none)), [(.t 101)], none⟩,
    ⟨(some 103), none, (.p .mv), [(.c (.int .i64 (.ofNat 0)))], none⟩])
  (.keep [0, 1, 6, 11, 102, 103] (.block 4
   (.loop
    (.keep [0, 1, 6, 11, 102, 103] (.seq (.reg [⟨(some 104), none, (.p (.bin .lss)), [(.t 103), (.t 102)], none⟩])
    (.keep [0, 1, 6, 11, 102, 103, 104] (.seq (.cond (.t 104)
     .skip
     (.keep [1, 11] (.exit 4)))
    (.keep [0, 1, 6, 11, 102, 103] (.seq (.block 5
     (.seq (.reg [⟨(some 105), none, (.p .mv), [(.t 103)], none⟩,
       ⟨(some 12), none, (.p .mv), [(.t 105)], none⟩])
     (.keep [0, 1, 6, 11, 12, 102, 103] (.seq (.reg [⟨(some 106), none, (.p (.arrIdx 8 1)), [(.t 11), (.c (.int .i64 (.ofNat 4)))], none⟩,
       ⟨(some 107), none, (.l (.load none)), [(.t 106)], none⟩,
       ⟨(some 108), none, (.p (.arrIdx 8 1)), [(.t 11), (.c (.int .i64 (.ofNat 5)))], none⟩,
       ⟨(some 109), none, (.l (.load none)), [(.t 108)], none⟩,
       ⟨(some 110), none, (.p (.bin .and)), [(.t 107), (.t 109)], none⟩,
       ⟨(some 111), none, (.p (.arrIdx 8 1)), [(.t 11), (.c (.int .i64 (.ofNat 4)))], none⟩,
       ⟨(some 112), none, (.l (.load none)), [(.t 111)], none⟩,
       ⟨(some 113), none, (.p (.un .xor)), [(.t 112)], none⟩,
       ⟨(some 114), none, (.p (.arrIdx 8 1)), [(.t 11), (.c (.int .i64 (.ofNat 6)))], none⟩,
       ⟨(some 115), none, (.l (.load none)), [(.t 114)], none⟩,
       ⟨(some 116), none, (.p (.bin .and)), [(.t 113), (.t 115)], none⟩,
       ⟨(some 117), none, (.p (.bin .xor)), [(.t 110), (.t 116)], none⟩,
       ⟨(some 13), none, (.p .mv), [(.t 117)], none⟩])
     (.keep [0, 1, 6, 11, 12, 13, 102, 103] (.seq (.reg [⟨(some 118), none, (.p (.arrIdx 8 1)), [(.t 11), (.c (.int .i64 (.ofNat 0)))], none⟩,
       ⟨(some 119), none, (.l (.load none)), [(.t 118)], none⟩,
       ⟨(some 120), none, (.p (.arrIdx 8 1)), [(.t 11), (.c (.int .i64 (.ofNat 1)))], none⟩,
       ⟨(some 121), none, (.l (.load none)), [(.t 120)], none⟩,
       ⟨(some 122), none, (.p (.bin .and)), [(.t 119), (.t 121)], none⟩,
       ⟨(some 123), none, (.p (.arrIdx 8 1)), [(.t 11), (.c (.int .i64 (.ofNat 0)))], none⟩,
       ⟨(some 124), none, (.l (.load none)), [(.t 123)], none⟩,
       ⟨(some 125), none, (.p (.arrIdx 8 1)), [(.t 11), (.c (.int .i64 (.ofNat 2)))], none⟩,
       ⟨(some 126), none, (.l (.load none)), [(.t 125)], none⟩,
       ⟨(some 127), none, (.p (.bin .and)), [(.t 124), (.t 126)], none⟩,
       ⟨(some 128), none, (.p (.bin .xor)), [(.t 122), (.t 127)], none⟩,
       ⟨(some 129), none, (.p (.arrIdx 8 1)), [(.t 11), (.c (.int .i64 (.ofNat 1)))], none⟩,
       ⟨(some 130), none, (.l (.load none)), [(.t 129)], none⟩,
       ⟨(some 131), none, (.p (.arrIdx 8 1)), [(.t 11), (.c (.int .i64 (.ofNat 2)))], none⟩,
       ⟨(some 132), none, (.l (.load none)), [(.t 131)], none⟩,
       ⟨(some 133), none, (.p (.bin .and)), [(.t 130), (.t 132)], none⟩,
       ⟨(some 134), none, (.p (.bin .xor)), [(.t 128), (.t 133)], none⟩,
       ⟨(some 14), none, (.p .mv), [(.t 134)], none⟩])
     (.keep [0, 1, 6, 11, 12, 13, 14, 102, 103] (.seq (.draw [⟨(some 135), none, (.p (.arrIdx 8 1)), [(.t 11), (.c (.int .i64 (.ofNat 7)))], none⟩,
       ⟨(some 136), none, (.l (.load none)), [(.t 135)], some (0, 1)⟩,
       ⟨(some 137), none, (.p (.arrIdx 8 1)), [(.t 11), (.c (.int .i64 (.ofNat 4)))], none⟩,
       ⟨(some 138), none, (.l (.load none)), [(.t 137)], none⟩,
       ⟨(some 139), none, (.p .mv), [(.t 0)], none⟩,
       ⟨(some 140), none, (.p .nilck), [(.t 139)], none⟩,
       ⟨(some 141), none, (.p (.fieldAddr 11)), [(.t 140)], none⟩,
       ⟨(some 142), none, (.l (.load (some 3))), [(.t 141)], none⟩,
       ⟨(some 143), none, (.p .mv), [(.t 0)], none⟩,
       ⟨(some 144), none, (.p .nilck), [(.t 143)], none⟩,
       ⟨(some 145), none, (.p (.fieldAddr 0)), [(.t 144)], none⟩,
       ⟨(some 146), none, (.l (.load none)), [(.t 145)], none⟩,
       ⟨(some 147), none, (.call 167), [(.t 138), (.t 142), (.t 146)], none⟩,
       ⟨(some 148), none, (.p (.bin .add)), [(.t 136), (.t 147)], none⟩,
       ⟨(some 149), none, (.p .mv), [(.t 13)], none⟩,
       ⟨(some 150), none, (.p (.bin .add)), [(.t 148), (.t 149)], none⟩,
       ⟨(some 151), none, (.p .mv), [(.t 12)], none⟩,
       ⟨(some 152), none, (.p (.arrIdx 80 1)), [(.c (.ptr 6 0)), (.t 151)], none⟩,
       ⟨(some 153), none, (.l (.load none)), [(.t 152)], some (0, 1)⟩,
       ⟨(some 154), none, (.p .mv), [(.t 0)], none⟩,
       ⟨(some 155), none, (.p .nilck), [(.t 154)], none⟩,
       ⟨(some 156), none, (.p (.fieldAddr 0)), [(.t 155)], none⟩,
       ⟨(some 157), none, (.l (.load none)), [(.t 156)], some (0, 1)⟩,
       ⟨(some 158), none, (.p (.bin .sub)), [(.c (.int .i64 (.ofNat 64))), (.t 157)], none⟩,
       ⟨(some 159), none, (.p (.bin .shr)), [(.t 153), (.t 158)], none⟩,
       ⟨(some 160), none, (.p (.bin .add)), [(.t 150), (.t 159)], none⟩,
       ⟨(some 161), none, (.p .mv), [(.t 12)], none⟩,
       ⟨(some 162), none, (.p (.arrIdx 80 1)), [(.t 6), (.t 161)], none⟩,
       ⟨(some 163), none, (.l (.load none)), [(.t 162)], some (0, 1)⟩,
       ⟨(some 164), none, (.p (.bin .add)), [(.t 160), (.t 163)], none⟩,
       ⟨(some 15), none, (.p .mv), [(.t 164)], none⟩])
     (.keep [0, 1, 6, 11, 14, 15, 102, 103] (.seq (.draw [⟨(some 165), none, (.p (.arrIdx 8 1)), [(.t 11), (.c (.int .i64 (.ofNat 0)))], none⟩,
       ⟨(some 166), none, (.l (.load none)), [(.t 165)], none⟩,
       ⟨(some 167), none, (.p .mv), [(.t 0)], none⟩,
       ⟨(some 168), none, (.p .nilck), [(.t 167)], none⟩,
       ⟨(some 169), none, (.p (.fieldAddr 8)), [(.t 168)], none⟩,
       ⟨(some 170), none, (.l (.load (some 3))), [(.t 169)], none⟩,
       ⟨(some 171), none, (.p .mv), [(.t 0)], none⟩,
       ⟨(some 172), none, (.p .nilck), [(.t 171)], none⟩,
       ⟨(some 173), none, (.p (.fieldAddr 0)), [(.t 172)], none⟩,
       ⟨(some 174), none, (.l (.load none)), [(.t 173)], none⟩,
       ⟨(some 175), none, (.call 167), [(.t 166), (.t 170), (.t 174)], none⟩,
       ⟨(some 176), none, (.p .mv), [(.t 14)], none⟩,
       ⟨(some 177), none, (.p (.bin .add)), [(.t 175), (.t 176)], none⟩,
       ⟨(some 16), none, (.p .mv), [(.t 177)], none⟩])
     (.keep [0, 1, 6, 11, 15, 16, 102, 103] (.reg [⟨(some 178), none, (.p .mv), [(.t 15)], none⟩,
       ⟨(some 179), none, (.p .mv), [(.t 16)], none⟩,
       ⟨(some 180), none, (.p (.bin .add)), [(.t 178), (.t 179)], none⟩,
       ⟨(some 181), none, (.p (.arrIdx 8 1)), [(.t 11), (.c (.int .i64 (.ofNat 0)))], none⟩,
       ⟨(some 182), none, (.l (.load none)), [(.t 181)], none⟩,
       ⟨(some 183), none, (.p (.arrIdx 8 1)), [(.t 11), (.c (.int .i64 (.ofNat 1)))], none⟩,
       ⟨(some 184), none, (.l (.load none)), [(.t 183)], none⟩,
       ⟨(some 185), none, (.p (.arrIdx 8 1)), [(.t 11), (.c (.int .i64 (.ofNat 2)))], none⟩,
       ⟨(some 186), none, (.l (.load none)), [(.t 185)], none⟩,
       ⟨(some 187), none, (.p (.arrIdx 8 1)), [(.t 11), (.c (.int .i64 (.ofNat 3)))], none⟩,
       ⟨(some 188), none, (.l (.load none)), [(.t 187)], none⟩,
       ⟨(some 189), none, (.p .mv), [(.t 15)], none⟩,
       ⟨(some 190), none, (.p (.bin .add)), [(.t 188), (.t 189)], none⟩,
       ⟨(some 191), none, (.p (.arrIdx 8 1)), [(.t 11), (.c (.int .i64 (.ofNat 4)))], none⟩,
       ⟨(some 192), none, (.l (.load none)), [(.t 191)], none⟩,
       ⟨(some 193), none, (.p (.arrIdx 8 1)), [(.t 11), (.c (.int .i64 (.ofNat 5)))], none⟩,
       ⟨(some 194), none, (.l (.load none)), [(.t 193)], none⟩,
       ⟨(some 195), none, (.p (.arrIdx 8 1)), [(.t 11), (.c (.int .i64 (.ofNat 6)))], none⟩,
       ⟨(some 196), none, (.l (.load none)), [(.t 195)], none⟩,
       ⟨(some 197), none, (.p (.build (repl 8 [(.int .u64 (.ofNat 0))]) [(0, 1), (1, 1), (2, 1), (3, 1), (4, 1), (5, 1), (6, 1), (7, 1)])), [(.t 180), (.t 182), (.t 184), (.t 186), (.t 190), (.t 192), (.t 194), (.t 196)], none⟩,
       ⟨none, none, (.e (.store 8)), [(.t 11), (.t 197)], none⟩]))))))))))))
    (.keep [0, 1, 6, 11, 102, 103] (.reg [⟨(some 198), none, (.p (.bin .add)), [(.t 103), (.c (.int .i64 (.ofNat 1)))], none⟩,
      ⟨(some 103), none, (.p .mv), [(.t 198)], none⟩]))))))))))))
  (.keep [1, 11] (.seq (.reg [⟨(some 199), none, (.p .mv), [(.c (.int .i64 (.ofNat 0)))], none⟩])
  (.keep [1, 11, 199] (.block 6
   (.loop
    (.keep [1, 11, 199] (.seq (.reg [⟨(some 200), none, (.p (.bin .lss)), [(.t 199), (.c (.int .i64 (.ofNat 8)))], none⟩])
    (.keep [1, 11, 199, 200] (.seq (.cond (.t 200)
     .skip
     (.keep [] (.exit 6)))
    (.keep [1, 11, 199] (.seq (.block 7
     (.seq (.reg [⟨(some 201), none, (.p .mv), [(.t 199)], none⟩,
       ⟨(some 17), none, (.p .mv), [(.t 201)], none⟩])
     (.keep [1, 11, 17, 199] (.draw [⟨(some 202), none, (.p .mv), [(.t 1)], none⟩,
       ⟨(some 203), none, (.p .mv), [(.t 17)], none⟩,
       ⟨(some 204), none, (.p .nilck), [(.t 202)], none⟩,
       ⟨(some 205), none, (.p (.arrIdx 8 1)), [(.t 204), (.t 203)], none⟩,
       ⟨(some 206), none, (.l (.load none)), [(.t 205)], none⟩,
       ⟨(some 207), none, (.p .mv), [(.t 17)], none⟩,
       ⟨(some 208), none, (.p (.arrIdx 8 1)), [(.t 11), (.t 207)], none⟩,
       ⟨(some 209), none, (.l (.load none)), [(.t 208)], none⟩,
       ⟨(some 210), none, (.p (.bin .add)), [(.t 206), (.t 209)], none⟩,
       ⟨(some 211), none, (.p .nilck), [(.t 202)], none⟩,
       ⟨(some 212), none, (.p (.arrIdx 8 1)), [(.t 211), (.t 203)], none⟩,
       ⟨none, none, (.e (.store 1)), [(.t 212), (.t 210)], none⟩]))))
    (.keep [1, 11, 199] (.reg [⟨(some 213), none, (.p (.bin .add)), [(.t 199), (.c (.int .i64 (.ofNat 1)))], none⟩,
      ⟨(some 199), none, (.p .mv), [(.t 213)], none⟩])))))))))))))))))))))),
  []⟩
def s133_l2 (call : CallK) (N : Nat) (st : St) (τ : Tape) (k : KC) : Ans :=
  match st with
  | ⟨fr, H⟩ =>
  getK fr 1 fun t1 =>
  getK fr 11 fun t11 =>
  getK fr 199 fun t199 =>
  binK .lss t199 (.int .i64 (.ofNat 8)) fun v21 =>
  condK v21
    (someK (pNilck [t1]) fun v22 =>
  someK (pArrIdx 8 1 [v22, t199]) fun v23 =>
  someK (lLoad1 [v23] H) fun v24 =>
  someK (pArrIdx 8 1 [t11, t199]) fun v25 =>
  someK (lLoad1 [v25] H) fun v26 =>
  binK .add v24 v26 fun v27 =>
  someK (pNilck [t1]) fun v28 =>
  someK (pArrIdx 8 1 [v28, t199]) fun v29 =>
  effK (eStore 1 [v29, v27] H τ) fun v30 H31 τ32 =>
  binK .add t199 (.int .i64 (.ofNat 1)) fun v33 =>
  k .normal ⟨(T.set (T.set (T.set (T.set (T.set .leaf 1 t1) 11 t11) 199 t199) 213 v33) 199 v33), H31⟩ τ32)
    (k (.exit 6) ⟨.leaf, H⟩ τ)
def s133_j1 (call : CallK) (N : Nat) (q : KV) (st : St) (τ : Tape) : Ans :=
  match st with
  | ⟨fr, H⟩ =>
  getK fr 1 fun t1 =>
  getK fr 11 fun t11 =>
  loopK (s133_l2 call N) N ⟨(T.set (T.set (T.set .leaf 1 t1) 11 t11) 199 (.int .i64 (.ofNat 0))), H⟩ τ (blockK 6 (endK [] q))
def s133_l3 (call : CallK) (N : Nat) (st : St) (τ : Tape) (k : KC) : Ans :=
  match st with
  | ⟨fr, H⟩ =>
  getK fr 0 fun t0 =>
  getK fr 1 fun t1 =>
  getK fr 6 fun t6 =>
  getK fr 11 fun t11 =>
  getK fr 102 fun t102 =>
  getK fr 103 fun t103 =>
  binK .lss t103 t102 fun v34 =>
  condK v34
    (someK (pArrIdx 8 1 [t11, (.int .i64 (.ofNat 4))]) fun v35 =>
  someK (lLoad1 [v35] H) fun v36 =>
  someK (pArrIdx 8 1 [t11, (.int .i64 (.ofNat 5))]) fun v37 =>
  someK (lLoad1 [v37] H) fun v38 =>
  binK .and v36 v38 fun v39 =>
  someK (pArrIdx 8 1 [t11, (.int .i64 (.ofNat 4))]) fun v40 =>
  someK (lLoad1 [v40] H) fun v41 =>
  unK .xor v41 fun v42 =>
  someK (pArrIdx 8 1 [t11, (.int .i64 (.ofNat 6))]) fun v43 =>
  someK (lLoad1 [v43] H) fun v44 =>
  binK .and v42 v44 fun v45 =>
  binK .xor v39 v45 fun v46 =>
  someK (pArrIdx 8 1 [t11, (.int .i64 (.ofNat 0))]) fun v47 =>
  someK (lLoad1 [v47] H) fun v48 =>
  someK (pArrIdx 8 1 [t11, (.int .i64 (.ofNat 1))]) fun v49 =>
  someK (lLoad1 [v49] H) fun v50 =>
  binK .and v48 v50 fun v51 =>
  someK (pArrIdx 8 1 [t11, (.int .i64 (.ofNat 0))]) fun v52 =>
  someK (lLoad1 [v52] H) fun v53 =>
  someK (pArrIdx 8 1 [t11, (.int .i64 (.ofNat 2))]) fun v54 =>
  someK (lLoad1 [v54] H) fun v55 =>
  binK .and v53 v55 fun v56 =>
  binK .xor v51 v56 fun v57 =>
  someK (pArrIdx 8 1 [t11, (.int .i64 (.ofNat 1))]) fun v58 =>
  someK (lLoad1 [v58] H) fun v59 =>
  someK (pArrIdx 8 1 [t11, (.int .i64 (.ofNat 2))]) fun v60 =>
  someK (lLoad1 [v60] H) fun v61 =>
  binK .and v59 v61 fun v62 =>
  binK .xor v57 v62 fun v63 =>
  someK (pArrIdx 8 1 [t11, (.int .i64 (.ofNat 7))]) fun v64 =>
  someK (lLoad1 [v64] H) fun v65 =>
  someK (pArrIdx 8 1 [t11, (.int .i64 (.ofNat 4))]) fun v66 =>
  someK (lLoad1 [v66] H) fun v67 =>
  someK (pNilck [t0]) fun v68 =>
  someK (pFieldAddr 11 [v68]) fun v69 =>
  someK (lLoadN 3 [v69] H) fun v70 =>
  someK (pNilck [t0]) fun v71 =>
  someK (pFieldAddr 0 [v71]) fun v72 =>
  someK (lLoad1 [v72] H) fun v73 =>
  call 167 [v67, v70, v73] H τ fun v74 H75 τ76 =>
  binK .add v65 v74 fun v77 =>
  binK .add v77 v46 fun v78 =>
  someK (pArrIdx 80 1 [(.ptr 6 0), t103]) fun v79 =>
  someK (lLoad1 [v79] H75) fun v80 =>
  someK (pNilck [t0]) fun v81 =>
  someK (pFieldAddr 0 [v81]) fun v82 =>
  someK (lLoad1 [v82] H75) fun v83 =>
  binK .sub (.int .i64 (.ofNat 64)) v83 fun v84 =>
  binK .shr v80 v84 fun v85 =>
  binK .add v78 v85 fun v86 =>
  someK (pArrIdx 80 1 [t6, t103]) fun v87 =>
  someK (lLoad1 [v87] H75) fun v88 =>
  binK .add v86 v88 fun v89 =>
  bif chkLoads [H, H75] (((.load none), [v87], 0, 1) :: (((.load none), [v82], 0, 1) :: (((.load none), [v79], 0, 1) :: (((.load none), [v64], 0, 1) :: [])))) then
  someK (pArrIdx 8 1 [t11, (.int .i64 (.ofNat 0))]) fun v90 =>
  someK (lLoad1 [v90] H75) fun v91 =>
  someK (pNilck [t0]) fun v92 =>
  someK (pFieldAddr 8 [v92]) fun v93 =>
  someK (lLoadN 3 [v93] H75) fun v94 =>
  someK (pNilck [t0]) fun v95 =>
  someK (pFieldAddr 0 [v95]) fun v96 =>
  someK (lLoad1 [v96] H75) fun v97 =>
  call 167 [v91, v94, v97] H75 τ76 fun v98 H99 τ100 =>
  binK .add v98 v63 fun v101 =>
  binK .add v89 v101 fun v102 =>
  someK (pArrIdx 8 1 [t11, (.int .i64 (.ofNat 0))]) fun v103 =>
  someK (lLoad1 [v103] H99) fun v104 =>
  someK (pArrIdx 8 1 [t11, (.int .i64 (.ofNat 1))]) fun v105 =>
  someK (lLoad1 [v105] H99) fun v106 =>
  someK (pArrIdx 8 1 [t11, (.int .i64 (.ofNat 2))]) fun v107 =>
  someK (lLoad1 [v107] H99) fun v108 =>
  someK (pArrIdx 8 1 [t11, (.int .i64 (.ofNat 3))]) fun v109 =>
  someK (lLoad1 [v109] H99) fun v110 =>
  binK .add v110 v89 fun v111 =>
  someK (pArrIdx 8 1 [t11, (.int .i64 (.ofNat 4))]) fun v112 =>
  someK (lLoad1 [v112] H99) fun v113 =>
  someK (pArrIdx 8 1 [t11, (.int .i64 (.ofNat 5))]) fun v114 =>
  someK (lLoad1 [v114] H99) fun v115 =>
  someK (pArrIdx 8 1 [t11, (.int .i64 (.ofNat 6))]) fun v116 =>
  someK (lLoad1 [v116] H99) fun v117 =>
  someK (pBuild (repl 8 [(.int .u64 (.ofNat 0))]) [(0, 1), (1, 1), (2, 1), (3, 1), (4, 1), (5, 1), (6, 1), (7, 1)] [v102, v104, v106, v108, v111, v113, v115, v117]) fun v118 =>
  effK (eStore 8 [t11, v118] H99 τ100) fun v119 H120 τ121 =>
  binK .add t103 (.int .i64 (.ofNat 1)) fun v122 =>
  k .normal ⟨(T.set (T.set (T.set (T.set (T.set (T.set (T.set (T.set .leaf 0 t0) 1 t1) 6 t6) 11 t11) 102 t102) 103 t103) 198 v122) 103 v122), H120⟩ τ121
  else none)
    (k (.exit 4) ⟨(T.set (T.set .leaf 1 t1) 11 t11), H⟩ τ)
def s133_j0 (call : CallK) (N : Nat) (q : KV) (st : St) (τ : Tape) : Ans :=
  match st with
  | ⟨fr, H⟩ =>
  getK fr 0 fun t0 =>
  getK fr 1 fun t1 =>
  getK fr 6 fun t6 =>
  someK (pNilck [t1]) fun v10 =>
  someK (lLoadN 8 [v10] H) fun v11 =>
  effK (eAlloc (repl 8 [(.int .u64 (.ofNat 0))]) [] H τ) fun v12 H13 τ14 =>
  effK (eStore 8 [v12, v11] H13 τ14) fun v15 H16 τ17 =>
  someK (pNilck [t0]) fun v18 =>
  someK (pFieldAddr 1 [v18]) fun v19 =>
  someK (lLoad1 [v19] H16) fun v20 =>
  loopK (s133_l3 call N) N ⟨(T.set (T.set (T.set (T.set (T.set (T.set .leaf 0 t0) 1 t1) 6 t6) 11 v12) 102 v20) 103 (.int .i64 (.ofNat 0))), H16⟩ τ17 (blockK 4 (seqK (s133_j1 call N q) (endK [] q)))
def s133_j5 (call : CallK) (N : Nat) (k : KC) (st : St) (τ : Tape) : Ans :=
  match st with
  | ⟨fr, H⟩ =>
  getK fr 0 fun t0 =>
  getK fr 1 fun t1 =>
  getK fr 2 fun t2 =>
  getK fr 6 fun t6 =>
  getK fr 7 fun t7 =>
  getK fr 26 fun t26 =>
  getK fr 27 fun t27 =>
  binK .add t27 (.int .i64 (.ofNat 1)) fun v124 =>
  k .normal ⟨(T.set (T.set (T.set (T.set (T.set (T.set (T.set (T.set (T.set .leaf 0 t0) 1 t1) 2 t2) 6 t6) 7 t7) 26 t26) 27 t27) 95 v124) 27 v124), H⟩ τ
def s133_l6 (call : CallK) (N : Nat) (st : St) (τ : Tape) (k : KC) : Ans :=
  match st with
  | ⟨fr, H⟩ =>
  getK fr 0 fun t0 =>
  getK fr 1 fun t1 =>
  getK fr 2 fun t2 =>
  getK fr 6 fun t6 =>
  getK fr 7 fun t7 =>
  getK fr 8 fun t8 =>
  getK fr 26 fun t26 =>
  getK fr 27 fun t27 =>
  getK fr 79 fun t79 =>
  getK fr 80 fun t80 =>
  getK fr 81 fun t81 =>
  binK .lss t81 t80 fun v168 =>
  condK v168
    (someK (pSlIdx 1 [t79, t81]) fun v169 =>
  someK (lLoad1 [v169] H) fun v170 =>
  someK (pArrIdx 80 1 [t6, t8]) fun v171 =>
  someK (lLoad1 [v171] H) fun v172 =>
  binK .shl v172 (.int .u64 (.ofNat 8)) fun v173 =>
  toIntK .u64 v170 fun v174 =>
  binK .or v173 v174 fun v175 =>
  someK (pArrIdx 80 1 [t6, t8]) fun v176 =>
  effK (eStore 1 [v176, v175] H τ) fun v177 H178 τ179 =>
  binK .add t81 (.int .i64 (.ofNat 1)) fun v180 =>
  k .normal ⟨(T.set (T.set (T.set (T.set (T.set (T.set (T.set (T.set (T.set (T.set (T.set (T.set (T.set .leaf 0 t0) 1 t1) 2 t2) 6 t6) 7 t7) 8 t8) 26 t26) 27 t27) 79 t79) 80 t80) 81 t81) 94 v180) 81 v180), H178⟩ τ179)
    (k (.exit 2) ⟨(T.set (T.set (T.set (T.set (T.set (T.set (T.set .leaf 0 t0) 1 t1) 2 t2) 6 t6) 7 t7) 26 t26) 27 t27), H⟩ τ)
def s133_l4 (call : CallK) (N : Nat) (st : St) (τ : Tape) (k : KC) : Ans :=
  match st with
  | ⟨fr, H⟩ =>
  getK fr 0 fun t0 =>
  getK fr 1 fun t1 =>
  getK fr 2 fun t2 =>
  getK fr 6 fun t6 =>
  getK fr 7 fun t7 =>
  getK fr 26 fun t26 =>
  getK fr 27 fun t27 =>
  binK .lss t27 t26 fun v123 =>
  condK v123
    (binK .geq t27 (.int .i64 (.ofNat 16)) fun v125 =>
  condK v125
    (binK .sub t27 (.int .i64 (.ofNat 2)) fun v126 =>
  someK (pArrIdx 80 1 [t6, v126]) fun v127 =>
  someK (lLoad1 [v127] H) fun v128 =>
  someK (pNilck [t0]) fun v129 =>
  someK (pFieldAddr 5 [v129]) fun v130 =>
  someK (lLoadN 3 [v130] H) fun v131 =>
  someK (pNilck [t0]) fun v132 =>
  someK (pFieldAddr 0 [v132]) fun v133 =>
  someK (lLoad1 [v133] H) fun v134 =>
  call 166 [v128, v131, v134] H τ fun v135 H136 τ137 =>
  binK .sub t27 (.int .i64 (.ofNat 7)) fun v138 =>
  someK (pArrIdx 80 1 [t6, v138]) fun v139 =>
  someK (lLoad1 [v139] H136) fun v140 =>
  binK .add v135 v140 fun v141 =>
  binK .sub t27 (.int .i64 (.ofNat 15)) fun v142 =>
  someK (pArrIdx 80 1 [t6, v142]) fun v143 =>
  someK (lLoad1 [v143] H136) fun v144 =>
  someK (pNilck [t0]) fun v145 =>
  someK (pFieldAddr 2 [v145]) fun v146 =>
  someK (lLoadN 3 [v146] H136) fun v147 =>
  someK (pNilck [t0]) fun v148 =>
  someK (pFieldAddr 0 [v148]) fun v149 =>
  someK (lLoad1 [v149] H136) fun v150 =>
  call 166 [v144, v147, v150] H136 τ137 fun v151 H152 τ153 =>
  binK .add v141 v151 fun v154 =>
  binK .sub t27 (.int .i64 (.ofNat 16)) fun v155 =>
  someK (pArrIdx 80 1 [t6, v155]) fun v156 =>
  someK (lLoad1 [v156] H152) fun v157 =>
  binK .add v154 v157 fun v158 =>
  someK (pArrIdx 80 1 [t6, t27]) fun v159 =>
  effK (eStore 1 [v159, v158] H152 τ153) fun v160 H161 τ162 =>
  bif chkLoads [H, H136, H152, H161] (((.load none), [v156], 0, 2) :: (((.load none), [v149], 0, 1) :: (((.load (some 3)), [v146], 0, 1) :: (((.load none), [v143], 0, 1) :: (((.load none), [v139], 0, 2) :: []))))) then
  s133_j5 call N k ⟨(T.set (T.set (T.set (T.set (T.set (T.set (T.set .leaf 0 t0) 1 t1) 2 t2) 6 t6) 7 t7) 26 t26) 27 t27), H161⟩ τ162
  else none)
    (binK .mul t27 t7 fun v163 =>
  binK .add t27 (.int .i64 (.ofNat 1)) fun v164 =>
  binK .mul v164 t7 fun v165 =>
  someK (pSlSlice 1 true true false [t2, v163, v165]) fun v166 =>
  someK (pLen [v166]) fun v167 =>
  loopK (s133_l6 call N) N ⟨(T.set (T.set (T.set (T.set (T.set (T.set (T.set (T.set (T.set (T.set (T.set .leaf 0 t0) 1 t1) 2 t2) 6 t6) 7 t7) 8 t27) 26 t26) 27 t27) 79 v166) 80 v167) 81 (.int .i64 (.ofNat 0))), H⟩ τ (blockK 2 (blockK 1 (seqK (s133_j5 call N k) k)))))
    (k (.exit 0) ⟨(T.set (T.set (T.set .leaf 0 t0) 1 t1) 6 t6), H⟩ τ)
def s133 (call : CallK) (N : Nat) (a0 a1 a2 : V) (H : Heap) (τ : Tape) (q : KV) : Ans :=
  effK (eAlloc (repl 80 [(.int .u64 (.ofNat 0))]) [] H τ) fun v0 H1 τ2 =>
  someK (pNilck [a0]) fun v3 =>
  someK (pFieldAddr 0 [v3]) fun v4 =>
  someK (lLoad1 [v4] H1) fun v5 =>
  binK .quo v5 (.int .i64 (.ofNat 8)) fun v6 =>
  someK (pNilck [a0]) fun v7 =>
  someK (pFieldAddr 1 [v7]) fun v8 =>
  someK (lLoad1 [v8] H1) fun v9 =>
  loopK (s133_l4 call N) N ⟨(T.set (T.set (T.set (T.set (T.set (T.set (T.set .leaf 0 a0) 1 a1) 2 a2) 6 v0) 7 v6) 26 v9) 27 (.int .i64 (.ofNat 0))), H1⟩ τ2 (blockK 0 (seqK (s133_j0 call N q) (endK [] q)))
theorem s133_eq (call : CallK) (N : Nat) (a0 a1 a2 : V) (H : Heap) (τ : Tape) (q : KV) : s133 call N a0 a1 a2 H τ q = funK call N fn133 [a0, a1, a2] H τ q := by kernel_rfl
def e133 (call : CallK) (N : Nat) (vs : List V) (H : Heap) (τ : Tape) (q : KV) : Ans := match vs with | [a0, a1, a2] => s133 call N a0 a1 a2 H τ q | _ => none
theorem e133_ok : EntOk fn133 e133 := by
  intro call N vs H τ q r h
  unfold e133 at h
  split at h
  · rw [s133_eq] at h; exact h
  · cases h
/-- internal/strconv.FormatInt -/
def fn147 : Fun := ⟨2,
  (.seq (.reg [⟨(some 4), none, (.p .mv), [(.c (.str []))], none⟩])
  (.keep [0, 1] (.seq (.seq (.reg [⟨(some 10), none, (.p .mv), [(.t 1)], none⟩,
    ⟨(some 11), none, (.p (.bin .eql)), [(.t 10), (.c (.int .i64 (.ofNat 10)))], none⟩])
  (.keep [0, 1, 11] (.cond (.t 11)
   (.seq (.seq (.reg [⟨(some 12), none, (.p .mv), [(.t 0)], none⟩,
     ⟨(some 13), none, (.p (.bin .leq)), [(.c (.int .i64 (.ofNat 0))), (.t 12)], none⟩,
     ⟨(some 14), none, (.p .mv), [(.t 13)], none⟩,
     ⟨(some 15), some (14, true), (.p .mv), [(.t 0)], none⟩,
     ⟨(some 16), some (14, true), (.p (.bin .lss)), [(.t 15), (.c (.int .i64 (.ofNat 100)))], none⟩,
     ⟨(some 17), none, (.p .pick), [(.t 14), (.t 16), (.c (.bool false))], none⟩])
   (.keep [0, 17] (.cond (.t 17)
    (.seq (.reg [⟨(some 18), none, (.p .mv), [(.t 0)], none⟩,
      ⟨(some 19), none, (.call 174), [(.t 18)], none⟩,
      ⟨(some 4), none, (.p .mv), [(.t 19)], none⟩])
    (.keep [4] (.keep [4] .ret)))
    .skip)))
   (.keep [0] (.seq (.reg [⟨(some 5), none, (.e (.alloc (repl 24 [(.int .u8 (.ofNat 0))]))), [], none⟩])
   (.keep [0, 5] (.seq (.reg [⟨(some 20), none, (.p .mv), [(.t 0)], none⟩,
     ⟨(some 21), none, (.p (.toInt .u64)), [(.t 20)], none⟩,
     ⟨(some 6), none, (.p .mv), [(.t 21)], none⟩])
   (.keep [0, 5, 6] (.seq (.seq (.reg [⟨(some 22), none, (.p .mv), [(.t 0)], none⟩,
     ⟨(some 23), none, (.p (.bin .lss)), [(.t 22), (.c (.int .i64 (.ofNat 0)))], none⟩])
   (.keep [0, 5, 6, 23] (.cond (.t 23)
    (.reg [⟨(some 24), none, (.p .mv), [(.t 6)], none⟩,
      ⟨(some 25), none, (.p (.un .neg)), [(.t 24)], none⟩,
      ⟨(some 6), none, (.p .mv), [(.t 25)], none⟩])
    .skip)))
   (.keep [0, 5, 6] (.seq (.reg [⟨(some 26), none, (.p .mv), [(.t 6)], none⟩,
     ⟨(some 27), none, (.call 175), [(.t 26)], none⟩,
     ⟨(some 7), none, (.p .mv), [(.t 27)], none⟩])
   (.keep [0, 5, 6, 7] (.seq (.reg [⟨(some 28), none, (.p .mv), [(.t 7)], none⟩,
     ⟨(some 29), none, (.p (.bin .add)), [(.c (.int .i64 (.ofNat 1))), (.t 28)], none⟩,
     ⟨(some 30), none, (.p (.arrSlice 24 1 true true false)), [(.t 5), (.c (.int .i64 (.ofNat 1))), (.t 29)], none⟩,
     ⟨(some 31), none, (.p .mv), [(.t 6)], none⟩,
     ⟨(some 32), none, (.call 176), [(.t 30), (.t 31)], none⟩])
   (.keep [0, 5, 7] (.seq (.seq (.reg [⟨(some 33), none, (.p .mv), [(.t 0)], none⟩,
     ⟨(some 34), none, (.p (.bin .lss)), [(.t 33), (.c (.int .i64 (.ofNat 0)))], none⟩])
   (.keep [5, 7, 34] (.cond (.t 34)
    (.seq (.reg [⟨(some 35), none, (.p (.arrIdx 24 1)), [(.t 5), (.c (.int .i64 (.ofNat 0)))], none⟩,
      ⟨none, none, (.e (.store 1)), [(.t 35), (.c (.int .u8 (.ofNat 45)))], none⟩])
    (.keep [5, 7] (.seq (.reg [⟨(some 36), none, (.p .mv), [(.t 7)], none⟩,
      ⟨(some 37), none, (.p (.bin .add)), [(.c (.int .i64 (.ofNat 1))), (.t 36)], none⟩,
      ⟨(some 38), none, (.p (.arrSlice 24 1 false true false)), [(.t 5), (.t 37)], none⟩,
      ⟨(some 39), none, (.l .bytesStr), [(.t 38)], none⟩,
      ⟨(some 4), none, (.p .mv), [(.t 39)], none⟩])
    (.keep [4] (.keep [4] .ret)))))
    .skip)))
   (.keep [5, 7] (.seq (.reg [⟨(some 40), none, (.p .mv), [(.t 7)], none⟩,
     ⟨(some 41), none, (.p (.bin .add)), [(.c (.int .i64 (.ofNat 1))), (.t 40)], none⟩,
     ⟨(some 42), none, (.p (.arrSlice 24 1 true true false)), [(.t 5), (.c (.int .i64 (.ofNat 1))), (.t 41)], none⟩,
     ⟨(some 43), none, (.l .bytesStr), [(.t 42)], none⟩,
     ⟨(some 4), none, (.p .mv), [(.t 43)], none⟩])
   (.keep [4] (.keep [4] .ret)))))))))))))))))
   .skip)))
  (.keep [0, 1] (.seq (.reg [⟨(some 45), none, (.p .mv), [(.t 0)], none⟩,
    ⟨(some 46), none, (.p (.toInt .u64)), [(.t 45)], none⟩,
    ⟨(some 47), none, (.p .mv), [(.t 1)], none⟩,
    ⟨(some 48), none, (.p .mv), [(.t 0)], none⟩,
    ⟨(some 49), none, (.p (.bin .lss)), [(.t 48), (.c (.int .i64 (.ofNat 0)))], none⟩,
    ⟨(some 50), none, (.call 177), [(.c .nils), (.t 46), (.t 47), (.t 49), (.c (.bool false))], none⟩,
    ⟨(some 44), none, (.p .mv), [(.t 50)], none⟩,
    ⟨(some 51), none, (.p (.extract 0)), [(.t 44)], none⟩,
    ⟨(some 52), none, (.p (.extract 1)), [(.t 44)], none⟩,
    ⟨(some 8), none, (.p .mv), [(.t 51)], none⟩,
    ⟨(some 9), none, (.p .mv), [(.t 52)], none⟩])
  (.keep [9] (.seq (.reg [⟨(some 53), none, (.p .mv), [(.t 9)], none⟩,
    ⟨(some 4), none, (.p .mv), [(.t 53)], none⟩])
  (.keep [4] (.keep [4] .ret))))))))),
  [(.t 4)]⟩
def s147_j0 (call : CallK) (N : Nat) (q : KV) (st : St) (τ : Tape) : Ans :=
  match st with
  | ⟨fr, H⟩ =>
  getK fr 0 fun t0 =>
  getK fr 1 fun t1 =>
  toIntK .u64 t0 fun v17 =>
  binK .lss t0 (.int .i64 (.ofNat 0)) fun v18 =>
  call 177 [.nils, v17, t1, v18, (.bool false)] H τ fun v19 H20 τ21 =>
  someK (pExtract 0 [v19]) fun v22 =>
  someK (pExtract 1 [v19]) fun v23 =>
  q v23 H20 τ21
def s147_j1 (call : CallK) (N : Nat) (q : KV) (st : St) (τ : Tape) : Ans :=
  match st with
  | ⟨fr, H⟩ =>
  getK fr 0 fun t0 =>
  getK fr 5 fun t5 =>
  getK fr 6 fun t6 =>
  call 175 [t6] H τ fun v24 H25 τ26 =>
  binK .add (.int .i64 (.ofNat 1)) v24 fun v27 =>
  someK (pArrSlice 24 1 true true false [t5, (.int .i64 (.ofNat 1)), v27]) fun v28 =>
  call 176 [v28, t6] H25 τ26 fun v29 H30 τ31 =>
  binK .lss t0 (.int .i64 (.ofNat 0)) fun v32 =>
  condK v32
    (someK (pArrIdx 24 1 [t5, (.int .i64 (.ofNat 0))]) fun v33 =>
  effK (eStore 1 [v33, (.int .u8 (.ofNat 45))] H30 τ31) fun v34 H35 τ36 =>
  binK .add (.int .i64 (.ofNat 1)) v24 fun v37 =>
  someK (pArrSlice 24 1 false true false [t5, v37]) fun v38 =>
  someK (lBytesStr [v38] H35) fun v39 =>
  q v39 H35 τ36)
    (binK .add (.int .i64 (.ofNat 1)) v24 fun v40 =>
  someK (pArrSlice 24 1 true true false [t5, (.int .i64 (.ofNat 1)), v40]) fun v41 =>
  someK (lBytesStr [v41] H30) fun v42 =>
  q v42 H30 τ31)
def s147 (call : CallK) (N : Nat) (a0 a1 : V) (H : Heap) (τ : Tape) (q : KV) : Ans :=
  binK .eql a1 (.int .i64 (.ofNat 10)) fun v0 =>
  condK v0
    (binK .leq (.int .i64 (.ofNat 0)) a0 fun v1 =>
  gK v1 true (fun q' => q' a0 H τ) H τ fun v2 H3 τ4 =>
  gK v1 true (fun q' => binK .lss v2 (.int .i64 (.ofNat 100)) fun v => q' v H3 τ4) H3 τ4 fun v5 H6 τ7 =>
  someK (pPick [v1, v5, (.bool false)]) fun v8 =>
  condK v8
    (call 174 [a0] H6 τ7 fun v9 H10 τ11 =>
  q v9 H10 τ11)
    (effK (eAlloc (repl 24 [(.int .u8 (.ofNat 0))]) [] H6 τ7) fun v12 H13 τ14 =>
  toIntK .u64 a0 fun v15 =>
  binK .lss a0 (.int .i64 (.ofNat 0)) fun v16 =>
  condK v16
    (unK .neg v15 fun v43 =>
  s147_j1 call N q ⟨(T.set (T.set (T.set (T.set (T.set (T.set (T.set .leaf 0 a0) 5 v12) 6 v15) 23 v16) 24 v15) 25 v43) 6 v43), H13⟩ τ14)
    (s147_j1 call N q ⟨(T.set (T.set (T.set (T.set .leaf 0 a0) 5 v12) 6 v15) 23 v16), H13⟩ τ14)))
    (toIntK .u64 a0 fun v44 =>
  binK .lss a0 (.int .i64 (.ofNat 0)) fun v45 =>
  call 177 [.nils, v44, a1, v45, (.bool false)] H τ fun v46 H47 τ48 =>
  someK (pExtract 0 [v46]) fun v49 =>
  someK (pExtract 1 [v46]) fun v50 =>
  q v50 H47 τ48)
theorem s147_eq (call : CallK) (N : Nat) (a0 a1 : V) (H : Heap) (τ : Tape) (q : KV) : s147 call N a0 a1 H τ q = funK call N fn147 [a0, a1] H τ q := by kernel_rfl
def e147 (call : CallK) (N : Nat) (vs : List V) (H : Heap) (τ : Tape) (q : KV) : Ans := match vs with | [a0, a1] => s147 call N a0 a1 H τ q | _ => none
theorem e147_ok : EntOk fn147 e147 := by
  intro call N vs H τ q r h
  unfold e147 at h
  split at h
  · rw [s147_eq] at h; exact h
  · cases h
/-- math/bits.Len64 -/
def fn160 : Fun := ⟨1,
  (.seq (.reg [⟨(some 2), none, (.p .mv), [(.c (.int .i64 (.ofNat 0)))], none⟩])
  (.keep [0, 2] (.seq (.seq (.reg [⟨(some 3), none, (.p .mv), [(.t 0)], none⟩,
    ⟨(some 4), none, (.p (.bin .geq)), [(.t 3), (.c (.int .u64 (.ofNat 4294967296)))], none⟩])
  (.keep [0, 2, 4] (.cond (.t 4)
   (.seq (.reg [⟨(some 5), none, (.p .mv), [(.t 0)], none⟩,
     ⟨(some 6), none, (.p (.bin .shr)), [(.t 5), (.c (.int .u64 (.ofNat 32)))], none⟩,
     ⟨(some 0), none, (.p .mv), [(.t 6)], none⟩])
   (.keep [0] (.reg [⟨(some 2), none, (.p .mv), [(.c (.int .i64 (.ofNat 32)))], none⟩])))
   .skip)))
  (.keep [0, 2] (.seq (.seq (.reg [⟨(some 7), none, (.p .mv), [(.t 0)], none⟩,
    ⟨(some 8), none, (.p (.bin .geq)), [(.t 7), (.c (.int .u64 (.ofNat 65536)))], none⟩])
  (.keep [0, 2, 8] (.cond (.t 8)
   (.seq (.reg [⟨(some 9), none, (.p .mv), [(.t 0)], none⟩,
     ⟨(some 10), none, (.p (.bin .shr)), [(.t 9), (.c (.int .u64 (.ofNat 16)))], none⟩,
     ⟨(some 0), none, (.p .mv), [(.t 10)], none⟩])
   (.keep [0, 2] (.reg [⟨(some 11), none, (.p .mv), [(.t 2)], none⟩,
     ⟨(some 12), none, (.p (.bin .add)), [(.t 11), (.c (.int .i64 (.ofNat 16)))], none⟩,
     ⟨(some 2), none, (.p .mv), [(.t 12)], none⟩])))
   .skip)))
  (.keep [0, 2] (.seq (.seq (.reg [⟨(some 13), none, (.p .mv), [(.t 0)], none⟩,
    ⟨(some 14), none, (.p (.bin .geq)), [(.t 13), (.c (.int .u64 (.ofNat 256)))], none⟩])
  (.keep [0, 2, 14] (.cond (.t 14)
   (.seq (.reg [⟨(some 15), none, (.p .mv), [(.t 0)], none⟩,
     ⟨(some 16), none, (.p (.bin .shr)), [(.t 15), (.c (.int .u64 (.ofNat 8)))], none⟩,
     ⟨(some 0), none, (.p .mv), [(.t 16)], none⟩])
   (.keep [0, 2] (.reg [⟨(some 17), none, (.p .mv), [(.t 2)], none⟩,
     ⟨(some 18), none, (.p (.bin .add)), [(.t 17), (.c (.int .i64 (.ofNat 8)))], none⟩,
     ⟨(some 2), none, (.p .mv), [(.t 18)], none⟩])))
   .skip)))
  (.keep [0, 2] (.seq (.reg [⟨(some 19), none, (.p .mv), [(.t 2)], none⟩,
    ⟨(some 20), none, (.p .mv), [(.t 0)], none⟩,
    ⟨(some 21), none, (.p (.toInt .u8)), [(.t 20)], none⟩,
    ⟨(some 22), none, (.p .strIndex), [(.c (.str (bs [0, 1, 2, 2, 3, 3, 3, 3, 4, 4, 4, 4, 4, 4, 4, 4, 5, 5, 5, 5, 5, 5, 5, 5, 5, 5, 5, 5, 5, 5, 5, 5, 6, 6, 6, 6, 6, 6, 6, 6, 6, 6, 6, 6, 6, 6, 6, 6, 6, 6, 6, 6, 6, 6, 6, 6, 6, 6, 6, 6, 6, 6, 6, 6, 7, 7, 7, 7, 7, 7, 7, 7, 7, 7, 7, 7, 7, 7, 7, 7, 7, 7, 7, 7, 7, 7, 7, 7, 7, 7, 7, 7, 7, 7, 7, 7, 7, 7, 7, 7, 7, 7, 7, 7, 7, 7, 7, 7, 7, 7, 7, 7, 7, 7, 7, 7, 7, 7, 7, 7, 7, 7, 7, 7, 7, 7, 7, 7, 8, 8, 8, 8, 8, 8, 8, 8, 8, 8, 8, 8, 8, 8, 8, 8, 8, 8, 8, 8, 8, 8, 8, 8, 8, 8, 8, 8, 8, 8, 8, 8, 8, 8, 8, 8, 8, 8, 8, 8, 8, 8, 8, 8, 8, 8, 8, 8, 8, 8, 8, 8, 8, 8, 8, 8, 8, 8, 8, 8, 8, 8, 8, 8, 8, 8, 8, 8, 8, 8, 8, 8, 8, 8, 8, 8, 8, 8, 8, 8, 8, 8, 8, 8, 8, 8, 8, 8, 8, 8, 8, 8, 8, 8, 8, 8, 8, 8, 8, 8, 8, 8, 8, 8, 8, 8, 8, 8, 8, 8, 8, 8, 8, 8, 8, 8, 8, 8, 8, 8, 8, 8, 8, 8, 8, 8, 8, 8]))), (.t 21)], none⟩,
    ⟨(some 23), none, (.p (.toInt .i64)), [(.t 22)], none⟩,
    ⟨(some 24), none, (.p (.bin .add)), [(.t 19), (.t 23)], none⟩,
    ⟨(some 2), none, (.p .mv), [(.t 24)], none⟩])
  (.keep [2] (.keep [2] .ret))))))))))),
  [(.t 2)]⟩
def s160_j2 (call : CallK) (N : Nat) (q : KV) (st : St) (τ : Tape) : Ans :=
  match st with
  | ⟨fr, H⟩ =>
  getK fr 0 fun t0 =>
  getK fr 2 fun t2 =>
  toIntK .u8 t0 fun v3 =>
  someK (pStrIndex [(.str (bs [0, 1, 2, 2, 3, 3, 3, 3, 4, 4, 4, 4, 4, 4, 4, 4, 5, 5, 5, 5, 5, 5, 5, 5, 5, 5, 5, 5, 5, 5, 5, 5, 6, 6, 6, 6, 6, 6, 6, 6, 6, 6, 6, 6, 6, 6, 6, 6, 6, 6, 6, 6, 6, 6, 6, 6, 6, 6, 6, 6, 6, 6, 6, 6, 7, 7, 7, 7, 7, 7, 7, 7, 7, 7, 7, 7, 7, 7, 7, 7, 7, 7, 7, 7, 7, 7, 7, 7, 7, 7, 7, 7, 7, 7, 7, 7, 7, 7, 7, 7, 7, 7, 7, 7, 7, 7, 7, 7, 7, 7, 7, 7, 7, 7, 7, 7, 7, 7, 7, 7, 7, 7, 7, 7, 7, 7, 7, 7, 8, 8, 8, 8, 8, 8, 8, 8, 8, 8, 8, 8, 8, 8, 8, 8, 8, 8, 8, 8, 8, 8, 8, 8, 8, 8, 8, 8, 8, 8, 8, 8, 8, 8, 8, 8, 8, 8, 8, 8, 8, 8, 8, 8, 8, 8, 8, 8, 8, 8, 8, 8, 8, 8, 8, 8, 8, 8, 8, 8, 8, 8, 8, 8, 8, 8, 8, 8, 8, 8, 8, 8, 8, 8, 8, 8, 8, 8, 8, 8, 8, 8, 8, 8, 8, 8, 8, 8, 8, 8, 8, 8, 8, 8, 8, 8, 8, 8, 8, 8, 8, 8, 8, 8, 8, 8, 8, 8, 8, 8, 8, 8, 8, 8, 8, 8, 8, 8, 8, 8, 8, 8, 8, 8, 8, 8, 8, 8])), v3]) fun v4 =>
  toIntK .i64 v4 fun v5 =>
  binK .add t2 v5 fun v6 =>
  q v6 H τ
def s160_j1 (call : CallK) (N : Nat) (q : KV) (st : St) (τ : Tape) : Ans :=
  match st with
  | ⟨fr, H⟩ =>
  getK fr 0 fun t0 =>
  getK fr 2 fun t2 =>
  binK .geq t0 (.int .u64 (.ofNat 256)) fun v2 =>
  condK v2
    (binK .shr t0 (.int .u64 (.ofNat 8)) fun v7 =>
  binK .add t2 (.int .i64 (.ofNat 8)) fun v8 =>
  s160_j2 call N q ⟨(T.set (T.set (T.set (T.set (T.set .leaf 0 v7) 2 t2) 17 t2) 18 v8) 2 v8), H⟩ τ)
    (s160_j2 call N q ⟨(T.set (T.set (T.set .leaf 0 t0) 2 t2) 14 v2), H⟩ τ)
def s160_j0 (call : CallK) (N : Nat) (q : KV) (st : St) (τ : Tape) : Ans :=
  match st with
  | ⟨fr, H⟩ =>
  getK fr 0 fun t0 =>
  getK fr 2 fun t2 =>
  binK .geq t0 (.int .u64 (.ofNat 65536)) fun v1 =>
  condK v1
    (binK .shr t0 (.int .u64 (.ofNat 16)) fun v9 =>
  binK .add t2 (.int .i64 (.ofNat 16)) fun v10 =>
  s160_j1 call N q ⟨(T.set (T.set (T.set (T.set (T.set .leaf 0 v9) 2 t2) 11 t2) 12 v10) 2 v10), H⟩ τ)
    (s160_j1 call N q ⟨(T.set (T.set (T.set .leaf 0 t0) 2 t2) 8 v1), H⟩ τ)
def s160 (call : CallK) (N : Nat) (a0 : V) (H : Heap) (τ : Tape) (q : KV) : Ans :=
  binK .geq a0 (.int .u64 (.ofNat 4294967296)) fun v0 =>
  condK v0
    (binK .shr a0 (.int .u64 (.ofNat 32)) fun v11 =>
  s160_j0 call N q ⟨(T.set (T.set .leaf 0 v11) 2 (.int .i64 (.ofNat 32))), H⟩ τ)
    (s160_j0 call N q ⟨(T.set (T.set (T.set .leaf 0 a0) 2 (.int .i64 (.ofNat 0))) 4 v0), H⟩ τ)
theorem s160_eq (call : CallK) (N : Nat) (a0 : V) (H : Heap) (τ : Tape) (q : KV) : s160 call N a0 H τ q = funK call N fn160 [a0] H τ q := by kernel_rfl
def e160 (call : CallK) (N : Nat) (vs : List V) (H : Heap) (τ : Tape) (q : KV) : Ans := match vs with | [a0] => s160 call N a0 H τ q | _ => none
theorem e160_ok : EntOk fn160 e160 := by
  intro call N vs H τ q r h
  unfold e160 at h
  split at h
  · rw [s160_eq] at h; exact h
  · cases h
/-- internal/bytealg.IndexRabinKarp[string] -/
def fn162 : Fun := ⟨2,
  (.seq (.reg [⟨(some 4), none, (.p .mv), [(.c (.int .i64 (.ofNat 0)))], none⟩])
  (.keep [0, 1] (.seq (.reg [⟨(some 12), none, (.p .mv), [(.t 1)], none⟩,
    ⟨(some 13), none, (.call 186), [(.t 12)], none⟩,
    ⟨(some 11), none, (.p .mv), [(.t 13)], none⟩,
    ⟨(some 14), none, (.p (.extract 0)), [(.t 11)], none⟩,
    ⟨(some 15), none, (.p (.extract 1)), [(.t 11)], none⟩,
    ⟨(some 5), none, (.p .mv), [(.t 14)], none⟩,
    ⟨(some 6), none, (.p .mv), [(.t 15)], none⟩])
  (.keep [0, 1, 5, 6] (.seq (.reg [⟨(some 16), none, (.p .mv), [(.t 1)], none⟩,
    ⟨(some 17), none, (.p .lenS), [(.t 16)], none⟩,
    ⟨(some 7), none, (.p .mv), [(.t 17)], none⟩])
  (.keep [0, 1, 5, 6, 7] (.seq (.reg [⟨(some 8), none, (.p .mv), [(.c (.int .u32 (.ofNat 0)))], none⟩])
  (.keep [0, 1, 5, 6, 7, 8] (.seq (.seq (.reg [⟨(some 9), none, (.p .mv), [(.c (.int .i64 (.ofNat 0)))], none⟩])
  (.keep [0, 1, 5, 6, 7, 8, 9] (.block 0
   (.loop
    (.keep [0, 1, 5, 6, 7, 8, 9] (.seq (.seq (.reg [⟨(some 18), none, (.p .mv), [(.t 9)], none⟩,
      ⟨(some 19), none, (.p .mv), [(.t 7)], none⟩,
      ⟨(some 20), none, (.p (.bin .lss)), [(.t 18), (.t 19)], none⟩])
    (.keep [0, 1, 5, 6, 7, 8, 9, 20] (.cond (.t 20)
     .skip
     (.keep [0, 1, 5, 6, 7, 8] (.exit 0)))))
    (.keep [0, 1, 5, 6, 7, 8, 9] (.seq (.block 1
     (.reg [⟨(some 23), none, (.p .mv), [(.t 8)], none⟩,
       ⟨(some 24), none, (.p (.bin .mul)), [(.t 23), (.c (.int .u32 (.ofNat 16777619)))], none⟩,
       ⟨(some 25), none, (.p .mv), [(.t 0)], none⟩,
       ⟨(some 26), none, (.p .mv), [(.t 9)], none⟩,
       ⟨(some 27), none, (.p .strIndex), [(.t 25), (.t 26)], none⟩,
       ⟨(some 28), none, (.p (.toInt .u32)), [(.t 27)], none⟩,
       ⟨(some 29), none, (.p (.bin .add)), [(.t 24), (.t 28)], none⟩,
       ⟨(some 8), none, (.p .mv), [(.t 29)], none⟩]))
    (.keep [0, 1, 5, 6, 7, 8, 9] (.reg [⟨(some 21), none, (.p .mv), [(.t 9)], none⟩,
      ⟨(some 22), none, (.p (.bin .add)), [(.t 21), (.c (.int .i64 (.ofNat 1)))], none⟩,
      ⟨(some 9), none, (.p .mv), [(.t 22)], none⟩]))))))))))
  (.keep [0, 1, 5, 6, 7, 8] (.seq (.seq (.reg [⟨(some 30), none, (.p .mv), [(.t 8)], none⟩,
    ⟨(some 31), none, (.p .mv), [(.t 5)], none⟩,
    ⟨(some 32), none, (.p (.bin .eql)), [(.t 30), (.t 31)], none⟩,
    ⟨(some 33), none, (.p .mv), [(.t 32)], none⟩,
    ⟨(some 34), some (33, true), (.p .mv), [(.t 0)], none⟩,
    ⟨(some 35), some (33, true), (.p .mv), [(.t 7)], none⟩,
    ⟨(some 36), some (33, true), (.p (.strSlice false true)), [(.t 34), (.t 35)], none⟩,
    ⟨(some 37), some (33, true), (.p .mv), [(.t 1)], none⟩,
    ⟨(some 38), some (33, true), (.p (.bin .eql)), [(.t 36), (.t 37)], none⟩,
    ⟨(some 39), none, (.p .pick), [(.t 33), (.t 38), (.c (.bool false))], none⟩])
  (.keep [0, 1, 5, 6, 7, 8, 39] (.cond (.t 39)
   (.seq (.reg [⟨(some 4), none, (.p .mv), [(.c (.int .i64 (.ofNat 0)))], none⟩])
   (.keep [4] (.keep [4] .ret)))
   .skip)))
  (.keep [0, 1, 5, 6, 7, 8] (.seq (.seq (.reg [⟨(some 40), none, (.p .mv), [(.t 7)], none⟩,
    ⟨(some 10), none, (.p .mv), [(.t 40)], none⟩])
  (.keep [0, 1, 5, 6, 7, 8, 10] (.block 2
   (.loop
    (.keep [0, 1, 5, 6, 7, 8, 10] (.seq (.seq (.reg [⟨(some 41), none, (.p .mv), [(.t 10)], none⟩,
      ⟨(some 42), none, (.p .mv), [(.t 0)], none⟩,
      ⟨(some 43), none, (.p .lenS), [(.t 42)], none⟩,
      ⟨(some 44), none, (.p (.bin .lss)), [(.t 41), (.t 43)], none⟩])
    (.keep [0, 1, 5, 6, 7, 8, 10, 44] (.cond (.t 44)
     .skip
     (.keep [] (.exit 2)))))
    (.keep [0, 1, 5, 6, 7, 8, 10] (.block 3
     (.seq (.reg [⟨(some 45), none, (.p .mv), [(.t 8)], none⟩,
       ⟨(some 46), none, (.p (.bin .mul)), [(.t 45), (.c (.int .u32 (.ofNat 16777619)))], none⟩,
       ⟨(some 8), none, (.p .mv), [(.t 46)], none⟩])
     (.keep [0, 1, 5, 6, 7, 8, 10] (.seq (.reg [⟨(some 47), none, (.p .mv), [(.t 8)], none⟩,
       ⟨(some 48), none, (.p .mv), [(.t 0)], none⟩,
       ⟨(some 49), none, (.p .mv), [(.t 10)], none⟩,
       ⟨(some 50), none, (.p .strIndex), [(.t 48), (.t 49)], none⟩,
       ⟨(some 51), none, (.p (.toInt .u32)), [(.t 50)], none⟩,
       ⟨(some 52), none, (.p (.bin .add)), [(.t 47), (.t 51)], none⟩,
       ⟨(some 8), none, (.p .mv), [(.t 52)], none⟩])
     (.keep [0, 1, 5, 6, 7, 8, 10] (.seq (.reg [⟨(some 53), none, (.p .mv), [(.t 8)], none⟩,
       ⟨(some 54), none, (.p .mv), [(.t 6)], none⟩,
       ⟨(some 55), none, (.p .mv), [(.t 0)], none⟩,
       ⟨(some 56), none, (.p .mv), [(.t 10)], none⟩,
       ⟨(some 57), none, (.p .mv), [(.t 7)], none⟩,
       ⟨(some 58), none, (.p (.bin .sub)), [(.t 56), (.t 57)], none⟩,
       ⟨(some 59), none, (.p .strIndex), [(.t 55), (.t 58)], none⟩,
       ⟨(some 60), none, (.p (.toInt .u32)), [(.t 59)], none⟩,
       ⟨(some 61), none, (.p (.bin .mul)), [(.t 54), (.t 60)], none⟩,
       ⟨(some 62), none, (.p (.bin .sub)), [(.t 53), (.t 61)], none⟩,
       ⟨(some 8), none, (.p .mv), [(.t 62)], none⟩])
     (.keep [0, 1, 5, 6, 7, 8, 10] (.seq (.reg [⟨(some 63), none, (.p .mv), [(.t 10)], none⟩,
       ⟨(some 64), none, (.p (.bin .add)), [(.t 63), (.c (.int .i64 (.ofNat 1)))], none⟩,
       ⟨(some 10), none, (.p .mv), [(.t 64)], none⟩])
     (.keep [0, 1, 5, 6, 7, 8, 10] (.seq (.reg [⟨(some 65), none, (.p .mv), [(.t 8)], none⟩,
       ⟨(some 66), none, (.p .mv), [(.t 5)], none⟩,
       ⟨(some 67), none, (.p (.bin .eql)), [(.t 65), (.t 66)], none⟩,
       ⟨(some 68), none, (.p .mv), [(.t 67)], none⟩,
       ⟨(some 69), some (68, true), (.p .mv), [(.t 0)], none⟩,
       ⟨(some 70), some (68, true), (.p .mv), [(.t 10)], none⟩,
       ⟨(some 71), some (68, true), (.p .mv), [(.t 7)], none⟩,
       ⟨(some 72), some (68, true), (.p (.bin .sub)), [(.t 70), (.t 71)], none⟩,
       ⟨(some 73), some (68, true), (.p .mv), [(.t 10)], none⟩,
       ⟨(some 74), some (68, true), (.p (.strSlice true true)), [(.t 69), (.t 72), (.t 73)], none⟩,
       ⟨(some 75), some (68, true), (.p .mv), [(.t 1)], none⟩,
       ⟨(some 76), some (68, true), (.p (.bin .eql)), [(.t 74), (.t 75)], none⟩,
       ⟨(some 77), none, (.p .pick), [(.t 68), (.t 76), (.c (.bool false))], none⟩])
     (.keep [0, 1, 5, 6, 7, 8, 10, 77] (.cond (.t 77)
      (.seq (.reg [⟨(some 78), none, (.p .mv), [(.t 10)], none⟩,
        ⟨(some 79), none, (.p .mv), [(.t 7)], none⟩,
        ⟨(some 80), none, (.p (.bin .sub)), [(.t 78), (.t 79)], none⟩,
        ⟨(some 4), none, (.p .mv), [(.t 80)], none⟩])
      (.keep [4] (.keep [4] .ret)))
      .skip)))))))))))))))))))
  (.keep [] (.seq (.reg [⟨(some 4), none, (.p .mv), [(.c (.int .i64 (.negSucc 0)))], none⟩])
  (.keep [4] (.keep [4] .ret))))))))))))))))),
  [(.t 4)]⟩
def s162_j1 (call : CallK) (N : Nat) (q : KV) (st : St) (τ : Tape) : Ans :=
  match st with
  | ⟨fr, H⟩ =>
  q (.int .i64 (.negSucc 0)) H τ
def s162_l2 (call : CallK) (N : Nat) (st : St) (τ : Tape) (k : KC) : Ans :=
  match st with
  | ⟨fr, H⟩ =>
  getK fr 0 fun t0 =>
  getK fr 1 fun t1 =>
  getK fr 5 fun t5 =>
  getK fr 6 fun t6 =>
  getK fr 7 fun t7 =>
  getK fr 8 fun t8 =>
  getK fr 10 fun t10 =>
  someK (pLenS [t0]) fun v23 =>
  binK .lss t10 v23 fun v24 =>
  condK v24
    (binK .mul t8 (.int .u32 (.ofNat 16777619)) fun v25 =>
  someK (pStrIndex [t0, t10]) fun v26 =>
  toIntK .u32 v26 fun v27 =>
  binK .add v25 v27 fun v28 =>
  binK .sub t10 t7 fun v29 =>
  someK (pStrIndex [t0, v29]) fun v30 =>
  toIntK .u32 v30 fun v31 =>
  binK .mul t6 v31 fun v32 =>
  binK .sub v28 v32 fun v33 =>
  binK .add t10 (.int .i64 (.ofNat 1)) fun v34 =>
  binK .eql v33 t5 fun v35 =>
  gK v35 true (fun q' => q' t0 H τ) H τ fun v36 H37 τ38 =>
  gK v35 true (fun q' => q' v34 H37 τ38) H37 τ38 fun v39 H40 τ41 =>
  gK v35 true (fun q' => q' t7 H40 τ41) H40 τ41 fun v42 H43 τ44 =>
  gK v35 true (fun q' => binK .sub v39 v42 fun v => q' v H43 τ44) H43 τ44 fun v45 H46 τ47 =>
  gK v35 true (fun q' => q' v34 H46 τ47) H46 τ47 fun v48 H49 τ50 =>
  gK v35 true (fun q' => someK (pStrSlice true true [v36, v45, v48]) fun v => q' v H49 τ50) H49 τ50 fun v51 H52 τ53 =>
  gK v35 true (fun q' => q' t1 H52 τ53) H52 τ53 fun v54 H55 τ56 =>
  gK v35 true (fun q' => binK .eql v51 v54 fun v => q' v H55 τ56) H55 τ56 fun v57 H58 τ59 =>
  someK (pPick [v35, v57, (.bool false)]) fun v60 =>
  condK v60
    (binK .sub v34 t7 fun v61 =>
  k .ret ⟨(T.set .leaf 4 v61), H58⟩ τ59)
    (k .normal ⟨(T.set (T.set (T.set (T.set (T.set (T.set (T.set (T.set .leaf 0 t0) 1 t1) 5 t5) 6 t6) 7 t7) 8 v33) 10 v34) 77 v60), H58⟩ τ59))
    (k (.exit 2) ⟨.leaf, H⟩ τ)
def s162_j0 (call : CallK) (N : Nat) (q : KV) (st : St) (τ : Tape) : Ans :=
  match st with
  | ⟨fr, H⟩ =>
  getK fr 0 fun t0 =>
  getK fr 1 fun t1 =>
  getK fr 5 fun t5 =>
  getK fr 6 fun t6 =>
  getK fr 7 fun t7 =>
  getK fr 8 fun t8 =>
  binK .eql t8 t5 fun v6 =>
  gK v6 true (fun q' => q' t0 H τ) H τ fun v7 H8 τ9 =>
  gK v6 true (fun q' => q' t7 H8 τ9) H8 τ9 fun v10 H11 τ12 =>
  gK v6 true (fun q' => someK (pStrSlice false true [v7, v10]) fun v => q' v H11 τ12) H11 τ12 fun v13 H14 τ15 =>
  gK v6 true (fun q' => q' t1 H14 τ15) H14 τ15 fun v16 H17 τ18 =>
  gK v6 true (fun q' => binK .eql v13 v16 fun v => q' v H17 τ18) H17 τ18 fun v19 H20 τ21 =>
  someK (pPick [v6, v19, (.bool false)]) fun v22 =>
  condK v22
    (q (.int .i64 (.ofNat 0)) H20 τ21)
    (loopK (s162_l2 call N) N ⟨(T.set (T.set (T.set (T.set (T.set (T.set (T.set .leaf 0 t0) 1 t1) 5 t5) 6 t6) 7 t7) 8 t8) 10 t7), H20⟩ τ21 (blockK 2 (seqK (s162_j1 call N q) (endK [(.t 4)] q))))
def s162_l3 (call : CallK) (N : Nat) (st : St) (τ : Tape) (k : KC) : Ans :=
  match st with
  | ⟨fr, H⟩ =>
  getK fr 0 fun t0 =>
  getK fr 1 fun t1 =>
  getK fr 5 fun t5 =>
  getK fr 6 fun t6 =>
  getK fr 7 fun t7 =>
  getK fr 8 fun t8 =>
  getK fr 9 fun t9 =>
  binK .lss t9 t7 fun v62 =>
  condK v62
    (binK .mul t8 (.int .u32 (.ofNat 16777619)) fun v63 =>
  someK (pStrIndex [t0, t9]) fun v64 =>
  toIntK .u32 v64 fun v65 =>
  binK .add v63 v65 fun v66 =>
  binK .add t9 (.int .i64 (.ofNat 1)) fun v67 =>
  k .normal ⟨(T.set (T.set (T.set (T.set (T.set (T.set (T.set (T.set (T.set (T.set .leaf 0 t0) 1 t1) 5 t5) 6 t6) 7 t7) 8 v66) 9 t9) 21 t9) 22 v67) 9 v67), H⟩ τ)
    (k (.exit 0) ⟨(T.set (T.set (T.set (T.set (T.set (T.set .leaf 0 t0) 1 t1) 5 t5) 6 t6) 7 t7) 8 t8), H⟩ τ)
def s162 (call : CallK) (N : Nat) (a0 a1 : V) (H : Heap) (τ : Tape) (q : KV) : Ans :=
  call 186 [a1] H τ fun v0 H1 τ2 =>
  someK (pExtract 0 [v0]) fun v3 =>
  someK (pExtract 1 [v0]) fun v4 =>
  someK (pLenS [a1]) fun v5 =>
  loopK (s162_l3 call N) N ⟨(T.set (T.set (T.set (T.set (T.set (T.set (T.set .leaf 0 a0) 1 a1) 5 v3) 6 v4) 7 v5) 8 (.int .u32 (.ofNat 0))) 9 (.int .i64 (.ofNat 0))), H1⟩ τ2 (blockK 0 (seqK (s162_j0 call N q) (endK [(.t 4)] q)))
theorem s162_eq (call : CallK) (N : Nat) (a0 a1 : V) (H : Heap) (τ : Tape) (q : KV) : s162 call N a0 a1 H τ q = funK call N fn162 [a0, a1] H τ q := by kernel_rfl
def e162 (call : CallK) (N : Nat) (vs : List V) (H : Heap) (τ : Tape) (q : KV) : Ans := match vs with | [a0, a1] => s162 call N a0 a1 H τ q | _ => none
theorem e162_ok : EntOk fn162 e162 := by
  intro call N vs H τ q r h
  unfold e162 at h
  split at h
  · rw [s162_eq] at h; exact h
  · cases h
/-- ostiary/digest.little[uint32] -/
def fn164 : Fun := ⟨3,
  (.seq (.reg [⟨(some 4), none, (.e .box), [(.t 1)], none⟩,
    ⟨(some 6), none, (.p .mv), [(.c (.int .u32 (.ofNat 0)))], none⟩])
  (.keep [0, 2, 4] (.seq (.draw [⟨(some 7), none, (.p .mv), [(.t 0)], none⟩,
    ⟨(some 8), none, (.p (.arrIdx 3 1)), [(.t 4), (.c (.int .i64 (.ofNat 0)))], none⟩,
    ⟨(some 9), none, (.l (.load none)), [(.t 8)], none⟩,
    ⟨(some 10), none, (.p .mv), [(.t 2)], none⟩,
    ⟨(some 11), none, (.call 187), [(.t 7), (.t 9), (.t 10)], none⟩,
    ⟨(some 12), none, (.p .mv), [(.t 0)], none⟩,
    ⟨(some 13), none, (.p (.arrIdx 3 1)), [(.t 4), (.c (.int .i64 (.ofNat 1)))], none⟩,
    ⟨(some 14), none, (.l (.load none)), [(.t 13)], some (0, 1)⟩,
    ⟨(some 15), none, (.p .mv), [(.t 2)], none⟩,
    ⟨(some 16), none, (.call 187), [(.t 12), (.t 14), (.t 15)], none⟩,
    ⟨(some 17), none, (.p (.bin .xor)), [(.t 11), (.t 16)], none⟩,
    ⟨(some 18), none, (.p .mv), [(.t 0)], none⟩,
    ⟨(some 19), none, (.p (.arrIdx 3 1)), [(.t 4), (.c (.int .i64 (.ofNat 2)))], none⟩,
    ⟨(some 20), none, (.l (.load none)), [(.t 19)], some (0, 2)⟩,
    ⟨(some 21), none, (.p (.bin .shr)), [(.t 18), (.t 20)], none⟩,
    ⟨(some 22), none, (.p (.bin .xor)), [(.t 17), (.t 21)], none⟩,
    ⟨(some 6), none, (.p .mv), [(.t 22)], none⟩])
  (.keep [6] (.keep [6] .ret))))),
  [(.t 6)]⟩
def s164 (call : CallK) (N : Nat) (a0 a1 a2 : V) (H : Heap) (τ : Tape) (q : KV) : Ans :=
  effK (eBox [a1] H τ) fun v0 H1 τ2 =>
  someK (pArrIdx 3 1 [v0, (.int .i64 (.ofNat 0))]) fun v3 =>
  someK (lLoad1 [v3] H1) fun v4 =>
  call 187 [a0, v4, a2] H1 τ2 fun v5 H6 τ7 =>
  someK (pArrIdx 3 1 [v0, (.int .i64 (.ofNat 1))]) fun v8 =>
  someK (lLoad1 [v8] H6) fun v9 =>
  call 187 [a0, v9, a2] H6 τ7 fun v10 H11 τ12 =>
  binK .xor v5 v10 fun v13 =>
  someK (pArrIdx 3 1 [v0, (.int .i64 (.ofNat 2))]) fun v14 =>
  someK (lLoad1 [v14] H11) fun v15 =>
  binK .shr a0 v15 fun v16 =>
  binK .xor v13 v16 fun v17 =>
  bif chkLoads [H1, H6, H11] (((.load none), [v14], 0, 2) :: (((.load none), [v8], 0, 1) :: [])) then
  q v17 H11 τ12
  else none
theorem s164_eq (call : CallK) (N : Nat) (a0 a1 a2 : V) (H : Heap) (τ : Tape) (q : KV) : s164 call N a0 a1 a2 H τ q = funK call N fn164 [a0, a1, a2] H τ q := by kernel_rfl
def e164 (call : CallK) (N : Nat) (vs : List V) (H : Heap) (τ : Tape) (q : KV) : Ans := match vs with | [a0, a1, a2] => s164 call N a0 a1 a2 H τ q | _ => none
theorem e164_ok : EntOk fn164 e164 := by
  intro call N vs H τ q r h
  unfold e164 at h
  split at h
  · rw [s164_eq] at h; exact h
  · cases h
/-- ostiary/digest.big[uint32] -/
def fn165 : Fun := ⟨3,
  (.seq (.reg [⟨(some 4), none, (.e .box), [(.t 1)], none⟩,
    ⟨(some 6), none, (.p .mv), [(.c (.int .u32 (.ofNat 0)))], none⟩])
  (.keep [0, 2, 4] (.seq (.draw [⟨(some 7), none, (.p .mv), [(.t 0)], none⟩,
    ⟨(some 8), none, (.p (.arrIdx 3 1)), [(.t 4), (.c (.int .i64 (.ofNat 0)))], none⟩,
    ⟨(some 9), none, (.l (.load none)), [(.t 8)], none⟩,
    ⟨(some 10), none, (.p .mv), [(.t 2)], none⟩,
    ⟨(some 11), none, (.call 187), [(.t 7), (.t 9), (.t 10)], none⟩,
    ⟨(some 12), none, (.p .mv), [(.t 0)], none⟩,
    ⟨(some 13), none, (.p (.arrIdx 3 1)), [(.t 4), (.c (.int .i64 (.ofNat 1)))], none⟩,
    ⟨(some 14), none, (.l (.load none)), [(.t 13)], some (0, 1)⟩,
    ⟨(some 15), none, (.p .mv), [(.t 2)], none⟩,
    ⟨(some 16), none, (.call 187), [(.t 12), (.t 14), (.t 15)], none⟩,
    ⟨(some 17), none, (.p (.bin .xor)), [(.t 11), (.t 16)], none⟩,
    ⟨(some 18), none, (.p .mv), [(.t 0)], none⟩,
    ⟨(some 19), none, (.p (.arrIdx 3 1)), [(.t 4), (.c (.int .i64 (.ofNat 2)))], none⟩,
    ⟨(some 20), none, (.l (.load none)), [(.t 19)], some (0, 2)⟩,
    ⟨(some 21), none, (.p .mv), [(.t 2)], none⟩,
    ⟨(some 22), none, (.call 187), [(.t 18), (.t 20), (.t 21)], none⟩,
    ⟨(some 23), none, (.p (.bin .xor)), [(.t 17), (.t 22)], none⟩,
    ⟨(some 6), none, (.p .mv), [(.t 23)], none⟩])
  (.keep [6] (.keep [6] .ret))))),
  [(.t 6)]⟩
def s165 (call : CallK) (N : Nat) (a0 a1 a2 : V) (H : Heap) (τ : Tape) (q : KV) : Ans :=
  effK (eBox [a1] H τ) fun v0 H1 τ2 =>
  someK (pArrIdx 3 1 [v0, (.int .i64 (.ofNat 0))]) fun v3 =>
  someK (lLoad1 [v3] H1) fun v4 =>
  call 187 [a0, v4, a2] H1 τ2 fun v5 H6 τ7 =>
  someK (pArrIdx 3 1 [v0, (.int .i64 (.ofNat 1))]) fun v8 =>
  someK (lLoad1 [v8] H6) fun v9 =>
  call 187 [a0, v9, a2] H6 τ7 fun v10 H11 τ12 =>
  binK .xor v5 v10 fun v13 =>
  someK (pArrIdx 3 1 [v0, (.int .i64 (.ofNat 2))]) fun v14 =>
  someK (lLoad1 [v14] H11) fun v15 =>
  call 187 [a0, v15, a2] H11 τ12 fun v16 H17 τ18 =>
  binK .xor v13 v16 fun v19 =>
  bif chkLoads [H1, H6, H11, H17] (((.load none), [v14], 0, 2) :: (((.load none), [v8], 0, 1) :: [])) then
  q v19 H17 τ18
  else none
theorem s165_eq (call : CallK) (N : Nat) (a0 a1 a2 : V) (H : Heap) (τ : Tape) (q : KV) : s165 call N a0 a1 a2 H τ q = funK call N fn165 [a0, a1, a2] H τ q := by kernel_rfl
def e165 (call : CallK) (N : Nat) (vs : List V) (H : Heap) (τ : Tape) (q : KV) : Ans := match vs with | [a0, a1, a2] => s165 call N a0 a1 a2 H τ q | _ => none
theorem e165_ok : EntOk fn165 e165 := by
  intro call N vs H τ q r h
  unfold e165 at h
  split at h
  · rw [s165_eq] at h; exact h
  · cases h
/-- ostiary/digest.little[uint64] -/
def fn166 : Fun := ⟨3,
  (.seq (.reg [⟨(some 4), none, (.e .box), [(.t 1)], none⟩,
    ⟨(some 6), none, (.p .mv), [(.c (.int .u64 (.ofNat 0)))], none⟩])
  (.keep [0, 2, 4] (.seq (.draw [⟨(some 7), none, (.p .mv), [(.t 0)], none⟩,
    ⟨(some 8), none, (.p (.arrIdx 3 1)), [(.t 4), (.c (.int .i64 (.ofNat 0)))], none⟩,
    ⟨(some 9), none, (.l (.load none)), [(.t 8)], none⟩,
    ⟨(some 10), none, (.p .mv), [(.t 2)], none⟩,
    ⟨(some 11), none, (.call 188), [(.t 7), (.t 9), (.t 10)], none⟩,
    ⟨(some 12), none, (.p .mv), [(.t 0)], none⟩,
    ⟨(some 13), none, (.p (.arrIdx 3 1)), [(.t 4), (.c (.int .i64 (.ofNat 1)))], none⟩,
    ⟨(some 14), none, (.l (.load none)), [(.t 13)], some (0, 1)⟩,
    ⟨(some 15), none, (.p .mv), [(.t 2)], none⟩,
    ⟨(some 16), none, (.call 188), [(.t 12), (.t 14), (.t 15)], none⟩,
    ⟨(some 17), none, (.p (.bin .xor)), [(.t 11), (.t 16)], none⟩,
    ⟨(some 18), none, (.p .mv), [(.t 0)], none⟩,
    ⟨(some 19), none, (.p (.arrIdx 3 1)), [(.t 4), (.c (.int .i64 (.ofNat 2)))], none⟩,
    ⟨(some 20), none, (.l (.load none)), [(.t 19)], some (0, 2)⟩,
    ⟨(some 21), none, (.p (.bin .shr)), [(.t 18), (.t 20)], none⟩,
    ⟨(some 22), none, (.p (.bin .xor)), [(.t 17), (.t 21)], none⟩,
    ⟨(some 6), none, (.p .mv), [(.t 22)], none⟩])
  (.keep [6] (.keep [6] .ret))))),
  [(.t 6)]⟩
def s166 (call : CallK) (N : Nat) (a0 a1 a2 : V) (H : Heap) (τ : Tape) (q : KV) : Ans :=
  effK (eBox [a1] H τ) fun v0 H1 τ2 =>
  someK (pArrIdx 3 1 [v0, (.int .i64 (.ofNat 0))]) fun v3 =>
  someK (lLoad1 [v3] H1) fun v4 =>
  call 188 [a0, v4, a2] H1 τ2 fun v5 H6 τ7 =>
  someK (pArrIdx 3 1 [v0, (.int .i64 (.ofNat 1))]) fun v8 =>
  someK (lLoad1 [v8] H6) fun v9 =>
  call 188 [a0, v9, a2] H6 τ7 fun v10 H11 τ12 =>
  binK .xor v5 v10 fun v13 =>
  someK (pArrIdx 3 1 [v0, (.int .i64 (.ofNat 2))]) fun v14 =>
  someK (lLoad1 [v14] H11) fun v15 =>
  binK .shr a0 v15 fun v16 =>
  binK .xor v13 v16 fun v17 =>
  bif chkLoads [H1, H6, H11] (((.load none), [v14], 0, 2) :: (((.load none), [v8], 0, 1) :: [])) then
  q v17 H11 τ12
  else none
theorem s166_eq (call : CallK) (N : Nat) (a0 a1 a2 : V) (H : Heap) (τ : Tape) (q : KV) : s166 call N a0 a1 a2 H τ q = funK call N fn166 [a0, a1, a2] H τ q := by kernel_rfl
def e166 (call : CallK) (N : Nat) (vs : List V) (H : Heap) (τ : Tape) (q : KV) : Ans := match vs with | [a0, a1, a2] => s166 call N a0 a1 a2 H τ q | _ => none
theorem e166_ok : EntOk fn166 e166 := by
  intro call N vs H τ q r h
  unfold e166 at h
  split at h
  · rw [s166_eq] at h; exact h
  · cases h
/-- ostiary/digest.big[uint64] -/
def fn167 : Fun := ⟨3,
  (.seq (.reg [⟨(some 4), none, (.e .box), [(.t 1)], none⟩,
    ⟨(some 6), none, (.p .mv), [(.c (.int .u64 (.ofNat 0)))], none⟩])
  (.keep [0, 2, 4] (.seq (.draw [⟨(some 7), none, (.p .mv), [(.t 0)], none⟩,
    ⟨(some 8), none, (.p (.arrIdx 3 1)), [(.t 4), (.c (.int .i64 (.ofNat 0)))], none⟩,
    ⟨(some 9), none, (.l (.load none)), [(.t 8)], none⟩,
    ⟨(some 10), none, (.p .mv), [(.t 2)], none⟩,
    ⟨(some 11), none, (.call 188), [(.t 7), (.t 9), (.t 10)], none⟩,
    ⟨(some 12), none, (.p .mv), [(.t 0)], none⟩,
    ⟨(some 13), none, (.p (.arrIdx 3 1)), [(.t 4), (.c (.int .i64 (.ofNat 1)))], none⟩,
    ⟨(some 14), none, (.l (.load none)), [(.t 13)], some (0, 1)⟩,
    ⟨(some 15), none, (.p .mv), [(.t 2)], none⟩,
    ⟨(some 16), none, (.call 188), [(.t 12), (.t 14), (.t 15)], none⟩,
    ⟨(some 17), none, (.p (.bin .xor)), [(.t 11), (.t 16)], none⟩,
    ⟨(some 18), none, (.p .mv), [(.t 0)], none⟩,
    ⟨(some 19), none, (.p (.arrIdx 3 1)), [(.t 4), (.c (.int .i64 (.ofNat 2)))], none⟩,
    ⟨(some 20), none, (.l (.load none)), [(.t 19)], some (0, 2)⟩,
    ⟨(some 21), none, (.p .mv), [(.t 2)], none⟩,
    ⟨(some 22), none, (.call 188), [(.t 18), (.t 20), (.t 21)], none⟩,
    ⟨(some 23), none, (.p (.bin .xor)), [(.t 17), (.t 22)], none⟩,
    ⟨(some 6), none, (.p .mv), [(.t 23)], none⟩])
  (.keep [6] (.keep [6] .ret))))),
  [(.t 6)]⟩
def s167 (call : CallK) (N : Nat) (a0 a1 a2 : V) (H : Heap) (τ : Tape) (q : KV) : Ans :=
  effK (eBox [a1] H τ) fun v0 H1 τ2 =>
  someK (pArrIdx 3 1 [v0, (.int .i64 (.ofNat 0))]) fun v3 =>
  someK (lLoad1 [v3] H1) fun v4 =>
  call 188 [a0, v4, a2] H1 τ2 fun v5 H6 τ7 =>
  someK (pArrIdx 3 1 [v0, (.int .i64 (.ofNat 1))]) fun v8 =>
  someK (lLoad1 [v8] H6) fun v9 =>
  call 188 [a0, v9, a2] H6 τ7 fun v10 H11 τ12 =>
  binK .xor v5 v10 fun v13 =>
  someK (pArrIdx 3 1 [v0, (.int .i64 (.ofNat 2))]) fun v14 =>
  someK (lLoad1 [v14] H11) fun v15 =>
  call 188 [a0, v15, a2] H11 τ12 fun v16 H17 τ18 =>
  binK .xor v13 v16 fun v19 =>
  bif chkLoads [H1, H6, H11, H17] (((.load none), [v14], 0, 2) :: (((.load none), [v8], 0, 1) :: [])) then
  q v19 H17 τ18
  else none
theorem s167_eq (call : CallK) (N : Nat) (a0 a1 a2 : V) (H : Heap) (τ : Tape) (q : KV) : s167 call N a0 a1 a2 H τ q = funK call N fn167 [a0, a1, a2] H τ q := by kernel_rfl
def e167 (call : CallK) (N : Nat) (vs : List V) (H : Heap) (τ : Tape) (q : KV) : Ans := match vs with | [a0, a1, a2] => s167 call N a0 a1 a2 H τ q | _ => none
theorem e167_ok : EntOk fn167 e167 := by
  intro call N vs H τ q r h
  unfold e167 at h
  split at h
  · rw [s167_eq] at h; exact h
  · cases h
/-- internal/strconv.small -/
def fn174 : Fun := ⟨1,
  (.seq (.reg [⟨(some 2), none, (.p .mv), [(.c (.str []))], none⟩])
  (.keep [0] (.seq (.seq (.reg [⟨(some 3), none, (.p .mv), [(.t 0)], none⟩,
    ⟨(some 4), none, (.p (.bin .lss)), [(.t 3), (.c (.int .i64 (.ofNat 10)))], none⟩])
  (.keep [0, 4] (.cond (.t 4)
   (.seq (.reg [⟨(some 5), none, (.p .mv), [(.t 0)], none⟩,
     ⟨(some 6), none, (.p .mv), [(.t 0)], none⟩,
     ⟨(some 7), none, (.p (.bin .add)), [(.t 6), (.c (.int .i64 (.ofNat 1)))], none⟩,
     ⟨(some 8), none, (.p (.strSlice true true)), [(.c (.str (bs [48, 49, 50, 51, 52, 53, 54, 55, 56, 57, 97, 98, 99, 100, 101, 102, 103, 104, 105, 106, 107, 108, 109, 110, 111, 112, 113, 114, 115, 116, 117, 118, 119, 120, 121, 122]))), (.t 5), (.t 7)], none⟩,
     ⟨(some 2), none, (.p .mv), [(.t 8)], none⟩])
   (.keep [2] (.keep [2] .ret)))
   .skip)))
  (.keep [0] (.seq (.reg [⟨(some 9), none, (.p .mv), [(.t 0)], none⟩,
    ⟨(some 10), none, (.p (.bin .mul)), [(.t 9), (.c (.int .i64 (.ofNat 2)))], none⟩,
    ⟨(some 11), none, (.p .mv), [(.t 0)], none⟩,
    ⟨(some 12), none, (.p (.bin .mul)), [(.t 11), (.c (.int .i64 (.ofNat 2)))], none⟩,
    ⟨(some 13), none, (.p (.bin .add)), [(.t 12), (.c (.int .i64 (.ofNat 2)))], none⟩,
    ⟨(some 14), none, (.p (.strSlice true true)), [(.c (.str (bs [48, 48, 48, 49, 48, 50, 48, 51, 48, 52, 48, 53, 48, 54, 48, 55, 48, 56, 48, 57, 49, 48, 49, 49, 49, 50, 49, 51, 49, 52, 49, 53, 49, 54, 49, 55, 49, 56, 49, 57, 50, 48, 50, 49, 50, 50, 50, 51, 50, 52, 50, 53, 50, 54, 50, 55, 50, 56, 50, 57, 51, 48, 51, 49, 51, 50, 51, 51, 51, 52, 51, 53, 51, 54, 51, 55, 51, 56, 51, 57, 52, 48, 52, 49, 52, 50, 52, 51, 52, 52, 52, 53, 52, 54, 52, 55, 52, 56, 52, 57, 53, 48, 53, 49, 53, 50, 53, 51, 53, 52, 53, 53, 53, 54, 53, 55, 53, 56, 53, 57, 54, 48, 54, 49, 54, 50, 54, 51, 54, 52, 54, 53, 54, 54, 54, 55, 54, 56, 54, 57, 55, 48, 55, 49, 55, 50, 55, 51, 55, 52, 55, 53, 55, 54, 55, 55, 55, 56, 55, 57, 56, 48, 56, 49, 56, 50, 56, 51, 56, 52, 56, 53, 56, 54, 56, 55, 56, 56, 56, 57, 57, 48, 57, 49, 57, 50, 57, 51, 57, 52, 57, 53, 57, 54, 57, 55, 57, 56, 57, 57]))), (.t 10), (.t 13)], none⟩,
    ⟨(some 2), none, (.p .mv), [(.t 14)], none⟩])
  (.keep [2] (.keep [2] .ret))))))),
  [(.t 2)]⟩
def s174 (call : CallK) (N : Nat) (a0 : V) (H : Heap) (τ : Tape) (q : KV) : Ans :=
  binK .lss a0 (.int .i64 (.ofNat 10)) fun v0 =>
  condK v0
    (binK .add a0 (.int .i64 (.ofNat 1)) fun v1 =>
  someK (pStrSlice true true [(.str (bs [48, 49, 50, 51, 52, 53, 54, 55, 56, 57, 97, 98, 99, 100, 101, 102, 103, 104, 105, 106, 107, 108, 109, 110, 111, 112, 113, 114, 115, 116, 117, 118, 119, 120, 121, 122])), a0, v1]) fun v2 =>
  q v2 H τ)
    (binK .mul a0 (.int .i64 (.ofNat 2)) fun v3 =>
  binK .mul a0 (.int .i64 (.ofNat 2)) fun v4 =>
  binK .add v4 (.int .i64 (.ofNat 2)) fun v5 =>
  someK (pStrSlice true true [(.str (bs [48, 48, 48, 49, 48, 50, 48, 51, 48, 52, 48, 53, 48, 54, 48, 55, 48, 56, 48, 57, 49, 48, 49, 49, 49, 50, 49, 51, 49, 52, 49, 53, 49, 54, 49, 55, 49, 56, 49, 57, 50, 48, 50, 49, 50, 50, 50, 51, 50, 52, 50, 53, 50, 54, 50, 55, 50, 56, 50, 57, 51, 48, 51, 49, 51, 50, 51, 51, 51, 52, 51, 53, 51, 54, 51, 55, 51, 56, 51, 57, 52, 48, 52, 49, 52, 50, 52, 51, 52, 52, 52, 53, 52, 54, 52, 55, 52, 56, 52, 57, 53, 48, 53, 49, 53, 50, 53, 51, 53, 52, 53, 53, 53, 54, 53, 55, 53, 56, 53, 57, 54, 48, 54, 49, 54, 50, 54, 51, 54, 52, 54, 53, 54, 54, 54, 55, 54, 56, 54, 57, 55, 48, 55, 49, 55, 50, 55, 51, 55, 52, 55, 53, 55, 54, 55, 55, 55, 56, 55, 57, 56, 48, 56, 49, 56, 50, 56, 51, 56, 52, 56, 53, 56, 54, 56, 55, 56, 56, 56, 57, 57, 48, 57, 49, 57, 50, 57, 51, 57, 52, 57, 53, 57, 54, 57, 55, 57, 56, 57, 57])), v3, v5]) fun v6 =>
  q v6 H τ)
theorem s174_eq (call : CallK) (N : Nat) (a0 : V) (H : Heap) (τ : Tape) (q : KV) : s174 call N a0 H τ q = funK call N fn174 [a0] H τ q := by kernel_rfl
def e174 (call : CallK) (N : Nat) (vs : List V) (H : Heap) (τ : Tape) (q : KV) : Ans := match vs with | [a0] => s174 call N a0 H τ q | _ => none
theorem e174_ok : EntOk fn174 e174 := by
  intro call N vs H τ q r h
  unfold e174 at h
  split at h
  · rw [s174_eq] at h; exact h
  · cases h
/-- internal/strconv.numDigits -/
def fn175 : Fun := ⟨1,
  (.seq (.reg [⟨(some 2), none, (.p .mv), [(.c (.int .i64 (.ofNat 0)))], none⟩])
  (.keep [0] (.seq (.reg [⟨(some 4), none, (.p .mv), [(.t 0)], none⟩,
    ⟨(some 5), none, (.call 160), [(.t 4)], none⟩,
    ⟨(some 6), none, (.call 193), [(.t 5)], none⟩,
    ⟨(some 3), none, (.p .mv), [(.t 6)], none⟩])
  (.keep [0, 3] (.seq (.reg [⟨(some 7), none, (.p .mv), [(.t 3)], none⟩,
    ⟨(some 8), none, (.p .mv), [(.t 0)], none⟩,
    ⟨(some 9), none, (.p .mv), [(.t 3)], none⟩,
    ⟨(some 10), none, (.p (.arrIdx 20 1)), [(.c (.ptr 7 0)), (.t 9)], none⟩,
    ⟨(some 11), none, (.l (.load none)), [(.t 10)], none⟩,
    ⟨(some 12), none, (.p (.bin .geq)), [(.t 8), (.t 11)], none⟩,
    ⟨(some 13), none, (.call 194), [(.t 12)], none⟩,
    ⟨(some 14), none, (.p (.bin .add)), [(.t 7), (.t 13)], none⟩,
    ⟨(some 2), none, (.p .mv), [(.t 14)], none⟩])
  (.keep [2] (.keep [2] .ret))))))),
  [(.t 2)]⟩
def s175 (call : CallK) (N : Nat) (a0 : V) (H : Heap) (τ : Tape) (q : KV) : Ans :=
  call 160 [a0] H τ fun v0 H1 τ2 =>
  call 193 [v0] H1 τ2 fun v3 H4 τ5 =>
  someK (pArrIdx 20 1 [(.ptr 7 0), v3]) fun v6 =>
  someK (lLoad1 [v6] H4) fun v7 =>
  binK .geq a0 v7 fun v8 =>
  call 194 [v8] H4 τ5 fun v9 H10 τ11 =>
  binK .add v3 v9 fun v12 =>
  q v12 H10 τ11
theorem s175_eq (call : CallK) (N : Nat) (a0 : V) (H : Heap) (τ : Tape) (q : KV) : s175 call N a0 H τ q = funK call N fn175 [a0] H τ q := by kernel_rfl
def e175 (call : CallK) (N : Nat) (vs : List V) (H : Heap) (τ : Tape) (q : KV) : Ans := match vs with | [a0] => s175 call N a0 H τ q | _ => none
theorem e175_ok : EntOk fn175 e175 := by
  intro call N vs H τ q r h
  unfold e175 at h
  split at h
  · rw [s175_eq] at h; exact h
  · cases h
/-- internal/strconv.formatBase10 -/
def fn176 : Fun := ⟨2,
  (.seq (.reg [⟨(some 17), none, (.p .mv), [(.t 0)], none⟩,
    ⟨(some 18), none, (.p .len), [(.t 17)], none⟩,
    ⟨(some 4), none, (.p .mv), [(.t 18)], none⟩])
  (.keep [0, 1, 4] (.seq (.block 0
   (.loop
    (.keep [0, 1, 4] (.seq (.seq (.reg [⟨(some 19), none, (.p .mv), [(.t 4)], none⟩,
      ⟨(some 20), none, (.p (.bin .geq)), [(.t 19), (.c (.int .i64 (.ofNat 8)))], none⟩])
    (.keep [0, 1, 4, 20] (.cond (.t 20)
     .skip
     (.keep [0, 1, 4] (.exit 0)))))
    (.keep [0, 1, 4] (.block 1
     (.seq (.reg [⟨(some 21), none, (.p .mv), [(.t 1)], none⟩,
       ⟨(some 22), none, (.p (.bin .rem)), [(.t 21), (.c (.int .u64 (.ofNat 100000000)))], none⟩,
       ⟨(some 23), none, (.p (.toInt .u32)), [(.t 22)], none⟩,
       ⟨(some 5), none, (.p .mv), [(.t 23)], none⟩])
     (.keep [0, 1, 4, 5] (.seq (.reg [⟨(some 24), none, (.p .mv), [(.t 1)], none⟩,
       ⟨(some 25), none, (.p (.bin .quo)), [(.t 24), (.c (.int .u64 (.ofNat 100000000)))], none⟩,
       ⟨(some 1), none, (.p .mv), [(.t 25)], none⟩])
     (.keep [0, 1, 4, 5] (.seq (.reg [⟨(some 26), none, (.p .mv), [(.t 5)], none⟩,
       ⟨(some 27), none, (.p (.bin .quo)), [(.t 26), (.c (.int .u32 (.ofNat 10000)))], none⟩,
       ⟨(some 28), none, (.p .mv), [(.t 5)], none⟩,
       ⟨(some 29), none, (.p (.bin .rem)), [(.t 28), (.c (.int .u32 (.ofNat 10000)))], none⟩,
       ⟨(some 6), none, (.p .mv), [(.t 27)], none⟩,
       ⟨(some 7), none, (.p .mv), [(.t 29)], none⟩])
     (.keep [0, 1, 4, 6, 7] (.seq (.reg [⟨(some 30), none, (.p .mv), [(.t 7)], none⟩,
       ⟨(some 31), none, (.p (.bin .quo)), [(.t 30), (.c (.int .u32 (.ofNat 100)))], none⟩,
       ⟨(some 32), none, (.p (.bin .mul)), [(.t 31), (.c (.int .u32 (.ofNat 2)))], none⟩,
       ⟨(some 33), none, (.p .mv), [(.t 7)], none⟩,
       ⟨(some 34), none, (.p (.bin .rem)), [(.t 33), (.c (.int .u32 (.ofNat 100)))], none⟩,
       ⟨(some 35), none, (.p (.bin .mul)), [(.t 34), (.c (.int .u32 (.ofNat 2)))], none⟩,
       ⟨(some 8), none, (.p .mv), [(.t 32)], none⟩,
       ⟨(some 9), none, (.p .mv), [(.t 35)], none⟩])
     (.keep [0, 1, 4, 6, 8, 9] (.seq (.reg [⟨(some 36), none, (.p .mv), [(.t 6)], none⟩,
       ⟨(some 37), none, (.p (.bin .quo)), [(.t 36), (.c (.int .u32 (.ofNat 100)))], none⟩,
       ⟨(some 38), none, (.p (.bin .mul)), [(.t 37), (.c (.int .u32 (.ofNat 2)))], none⟩,
       ⟨(some 39), none, (.p .mv), [(.t 6)], none⟩,
       ⟨(some 40), none, (.p (.bin .rem)), [(.t 39), (.c (.int .u32 (.ofNat 100)))], none⟩,
       ⟨(some 41), none, (.p (.bin .mul)), [(.t 40), (.c (.int .u32 (.ofNat 2)))], none⟩,
       ⟨(some 10), none, (.p .mv), [(.t 38)], none⟩,
       ⟨(some 11), none, (.p .mv), [(.t 41)], none⟩])
     (.keep [0, 1, 4, 8, 9, 10, 11] (.seq (.draw [⟨(some 42), none, (.p .mv), [(.t 0)], none⟩,
       ⟨(some 43), none, (.p .mv), [(.t 4)], none⟩,
       ⟨(some 44), none, (.p (.bin .sub)), [(.t 43), (.c (.int .i64 (.ofNat 1)))], none⟩,
       ⟨(some 45), none, (.p .mv), [(.t 0)], none⟩,
       ⟨(some 46), none, (.p .mv), [(.t 4)], none⟩,
       ⟨(some 47), none, (.p (.bin .sub)), [(.t 46), (.c (.int .i64 (.ofNat 2)))], none⟩,
       ⟨(some 48), none, (.p .mv), [(.t 9)], none⟩,
       ⟨(some 49), none, (.p (.bin .add)), [(.t 48), (.c (.int .u32 (.ofNat 1)))], none⟩,
       ⟨(some 50), none, (.p .strIndex), [(.c (.str (bs [48, 48, 48, 49, 48, 50, 48, 51, 48, 52, 48, 53, 48, 54, 48, 55, 48, 56, 48, 57, 49, 48, 49, 49, 49, 50, 49, 51, 49, 52, 49, 53, 49, 54, 49, 55, 49, 56, 49, 57, 50, 48, 50, 49, 50, 50, 50, 51, 50, 52, 50, 53, 50, 54, 50, 55, 50, 56, 50, 57, 51, 48, 51, 49, 51, 50, 51, 51, 51, 52, 51, 53, 51, 54, 51, 55, 51, 56, 51, 57, 52, 48, 52, 49, 52, 50, 52, 51, 52, 52, 52, 53, 52, 54, 52, 55, 52, 56, 52, 57, 53, 48, 53, 49, 53, 50, 53, 51, 53, 52, 53, 53, 53, 54, 53, 55, 53, 56, 53, 57, 54, 48, 54, 49, 54, 50, 54, 51, 54, 52, 54, 53, 54, 54, 54, 55, 54, 56, 54, 57, 55, 48, 55, 49, 55, 50, 55, 51, 55, 52, 55, 53, 55, 54, 55, 55, 55, 56, 55, 57, 56, 48, 56, 49, 56, 50, 56, 51, 56, 52, 56, 53, 56, 54, 56, 55, 56, 56, 56, 57, 57, 48, 57, 49, 57, 50, 57, 51, 57, 52, 57, 53, 57, 54, 57, 55, 57, 56, 57, 57]))), (.t 49)], none⟩,
       ⟨(some 51), none, (.p .mv), [(.t 9)], none⟩,
       ⟨(some 52), none, (.p .strIndex), [(.c (.str (bs [48, 48, 48, 49, 48, 50, 48, 51, 48, 52, 48, 53, 48, 54, 48, 55, 48, 56, 48, 57, 49, 48, 49, 49, 49, 50, 49, 51, 49, 52, 49, 53, 49, 54, 49, 55, 49, 56, 49, 57, 50, 48, 50, 49, 50, 50, 50, 51, 50, 52, 50, 53, 50, 54, 50, 55, 50, 56, 50, 57, 51, 48, 51, 49, 51, 50, 51, 51, 51, 52, 51, 53, 51, 54, 51, 55, 51, 56, 51, 57, 52, 48, 52, 49, 52, 50, 52, 51, 52, 52, 52, 53, 52, 54, 52, 55, 52, 56, 52, 57, 53, 48, 53, 49, 53, 50, 53, 51, 53, 52, 53, 53, 53, 54, 53, 55, 53, 56, 53, 57, 54, 48, 54, 49, 54, 50, 54, 51, 54, 52, 54, 53, 54, 54, 54, 55, 54, 56, 54, 57, 55, 48, 55, 49, 55, 50, 55, 51, 55, 52, 55, 53, 55, 54, 55, 55, 55, 56, 55, 57, 56, 48, 56, 49, 56, 50, 56, 51, 56, 52, 56, 53, 56, 54, 56, 55, 56, 56, 56, 57, 57, 48, 57, 49, 57, 50, 57, 51, 57, 52, 57, 53, 57, 54, 57, 55, 57, 56, 57, 57]))), (.t 51)], none⟩,
       ⟨(some 53), none, (.p (.slIdx 1)), [(.t 42), (.t 44)], none⟩,
       ⟨none, none, (.e (.store 1)), [(.t 53), (.t 50)], none⟩,
       ⟨(some 54), none, (.p (.slIdx 1)), [(.t 45), (.t 47)], none⟩,
       ⟨none, none, (.e (.store 1)), [(.t 54), (.t 52)], none⟩])
     (.keep [0, 1, 4, 8, 10, 11] (.seq (.draw [⟨(some 55), none, (.p .mv), [(.t 0)], none⟩,
       ⟨(some 56), none, (.p .mv), [(.t 4)], none⟩,
       ⟨(some 57), none, (.p (.bin .sub)), [(.t 56), (.c (.int .i64 (.ofNat 3)))], none⟩,
       ⟨(some 58), none, (.p .mv), [(.t 0)], none⟩,
       ⟨(some 59), none, (.p .mv), [(.t 4)], none⟩,
       ⟨(some 60), none, (.p (.bin .sub)), [(.t 59), (.c (.int .i64 (.ofNat 4)))], none⟩,
       ⟨(some 61), none, (.p .mv), [(.t 8)], none⟩,
       ⟨(some 62), none, (.p (.bin .add)), [(.t 61), (.c (.int .u32 (.ofNat 1)))], none⟩,
       ⟨(some 63), none, (.p .strIndex), [(.c (.str (bs [48, 48, 48, 49, 48, 50, 48, 51, 48, 52, 48, 53, 48, 54, 48, 55, 48, 56, 48, 57, 49, 48, 49, 49, 49, 50, 49, 51, 49, 52, 49, 53, 49, 54, 49, 55, 49, 56, 49, 57, 50, 48, 50, 49, 50, 50, 50, 51, 50, 52, 50, 53, 50, 54, 50, 55, 50, 56, 50, 57, 51, 48, 51, 49, 51, 50, 51, 51, 51, 52, 51, 53, 51, 54, 51, 55, 51, 56, 51, 57, 52, 48, 52, 49, 52, 50, 52, 51, 52, 52, 52, 53, 52, 54, 52, 55, 52, 56, 52, 57, 53, 48, 53, 49, 53, 50, 53, 51, 53, 52, 53, 53, 53, 54, 53, 55, 53, 56, 53, 57, 54, 48, 54, 49, 54, 50, 54, 51, 54, 52, 54, 53, 54, 54, 54, 55, 54, 56, 54, 57, 55, 48, 55, 49, 55, 50, 55, 51, 55, 52, 55, 53, 55, 54, 55, 55, 55, 56, 55, 57, 56, 48, 56, 49, 56, 50, 56, 51, 56, 52, 56, 53, 56, 54, 56, 55, 56, 56, 56, 57, 57, 48, 57, 49, 57, 50, 57, 51, 57, 52, 57, 53, 57, 54, 57, 55, 57, 56, 57, 57]))), (.t 62)], none⟩,
       ⟨(some 64), none, (.p .mv), [(.t 8)], none⟩,
       ⟨(some 65), none, (.p .strIndex), [(.c (.str (bs [48, 48, 48, 49, 48, 50, 48, 51, 48, 52, 48, 53, 48, 54, 48, 55, 48, 56, 48, 57, 49, 48, 49, 49, 49, 50, 49, 51, 49, 52, 49, 53, 49, 54, 49, 55, 49, 56, 49, 57, 50, 48, 50, 49, 50, 50, 50, 51, 50, 52, 50, 53, 50, 54, 50, 55, 50, 56, 50, 57, 51, 48, 51, 49, 51, 50, 51, 51, 51, 52, 51, 53, 51, 54, 51, 55, 51, 56, 51, 57, 52, 48, 52, 49, 52, 50, 52, 51, 52, 52, 52, 53, 52, 54, 52, 55, 52, 56, 52, 57, 53, 48, 53, 49, 53, 50, 53, 51, 53, 52, 53, 53, 53, 54, 53, 55, 53, 56, 53, 57, 54, 48, 54, 49, 54, 50, 54, 51, 54, 52, 54, 53, 54, 54, 54, 55, 54, 56, 54, 57, 55, 48, 55, 49, 55, 50, 55, 51, 55, 52, 55, 53, 55, 54, 55, 55, 55, 56, 55, 57, 56, 48, 56, 49, 56, 50, 56, 51, 56, 52, 56, 53, 56, 54, 56, 55, 56, 56, 56, 57, 57, 48, 57, 49, 57, 50, 57, 51, 57, 52, 57, 53, 57, 54, 57, 55, 57, 56, 57, 57]))), (.t 64)], none⟩,
       ⟨(some 66), none, (.p (.slIdx 1)), [(.t 55), (.t 57)], none⟩,
       ⟨none, none, (.e (.store 1)), [(.t 66), (.t 63)], none⟩,
       ⟨(some 67), none, (.p (.slIdx 1)), [(.t 58), (.t 60)], none⟩,
       ⟨none, none, (.e (.store 1)), [(.t 67), (.t 65)], none⟩])
     (.keep [0, 1, 4, 10, 11] (.seq (.draw [⟨(some 68), none, (.p .mv), [(.t 0)], none⟩,
       ⟨(some 69), none, (.p .mv), [(.t 4)], none⟩,
       ⟨(some 70), none, (.p (.bin .sub)), [(.t 69), (.c (.int .i64 (.ofNat 5)))], none⟩,
       ⟨(some 71), none, (.p .mv), [(.t 0)], none⟩,
       ⟨(some 72), none, (.p .mv), [(.t 4)], none⟩,
       ⟨(some 73), none, (.p (.bin .sub)), [(.t 72), (.c (.int .i64 (.ofNat 6)))], none⟩,
       ⟨(some 74), none, (.p .mv), [(.t 11)], none⟩,
       ⟨(some 75), none, (.p (.bin .add)), [(.t 74), (.c (.int .u32 (.ofNat 1)))], none⟩,
       ⟨(some 76), none, (.p .strIndex), [(.c (.str (bs [48, 48, 48, 49, 48, 50, 48, 51, 48, 52, 48, 53, 48, 54, 48, 55, 48, 56, 48, 57, 49, 48, 49, 49, 49, 50, 49, 51, 49, 52, 49, 53, 49, 54, 49, 55, 49, 56, 49, 57, 50, 48, 50, 49, 50, 50, 50, 51, 50, 52, 50, 53, 50, 54, 50, 55, 50, 56, 50, 57, 51, 48, 51, 49, 51, 50, 51, 51, 51, 52, 51, 53, 51, 54, 51, 55, 51, 56, 51, 57, 52, 48, 52, 49, 52, 50, 52, 51, 52, 52, 52, 53, 52, 54, 52, 55, 52, 56, 52, 57, 53, 48, 53, 49, 53, 50, 53, 51, 53, 52, 53, 53, 53, 54, 53, 55, 53, 56, 53, 57, 54, 48, 54, 49, 54, 50, 54, 51, 54, 52, 54, 53, 54, 54, 54, 55, 54, 56, 54, 57, 55, 48, 55, 49, 55, 50, 55, 51, 55, 52, 55, 53, 55, 54, 55, 55, 55, 56, 55, 57, 56, 48, 56, 49, 56, 50, 56, 51, 56, 52, 56, 53, 56, 54, 56, 55, 56, 56, 56, 57, 57, 48, 57, 49, 57, 50, 57, 51, 57, 52, 57, 53, 57, 54, 57, 55, 57, 56, 57, 57]))), (.t 75)], none⟩,
       ⟨(some 77), none, (.p .mv), [(.t 11)], none⟩,
       ⟨(some 78), none, (.p .strIndex), [(.c (.str (bs [48, 48, 48, 49, 48, 50, 48, 51, 48, 52, 48, 53, 48, 54, 48, 55, 48, 56, 48, 57, 49, 48, 49, 49, 49, 50, 49, 51, 49, 52, 49, 53, 49, 54, 49, 55, 49, 56, 49, 57, 50, 48, 50, 49, 50, 50, 50, 51, 50, 52, 50, 53, 50, 54, 50, 55, 50, 56, 50, 57, 51, 48, 51, 49, 51, 50, 51, 51, 51, 52, 51, 53, 51, 54, 51, 55, 51, 56, 51, 57, 52, 48, 52, 49, 52, 50, 52, 51, 52, 52, 52, 53, 52, 54, 52, 55, 52, 56, 52, 57, 53, 48, 53, 49, 53, 50, 53, 51, 53, 52, 53, 53, 53, 54, 53, 55, 53, 56, 53, 57, 54, 48, 54, 49, 54, 50, 54, 51, 54, 52, 54, 53, 54, 54, 54, 55, 54, 56, 54, 57, 55, 48, 55, 49, 55, 50, 55, 51, 55, 52, 55, 53, 55, 54, 55, 55, 55, 56, 55, 57, 56, 48, 56, 49, 56, 50, 56, 51, 56, 52, 56, 53, 56, 54, 56, 55, 56, 56, 56, 57, 57, 48, 57, 49, 57, 50, 57, 51, 57, 52, 57, 53, 57, 54, 57, 55, 57, 56, 57, 57]))), (.t 77)], none⟩,
       ⟨(some 79), none, (.p (.slIdx 1)), [(.t 68), (.t 70)], none⟩,
       ⟨none, none, (.e (.store 1)), [(.t 79), (.t 76)], none⟩,
       ⟨(some 80), none, (.p (.slIdx 1)), [(.t 71), (.t 73)], none⟩,
       ⟨none, none, (.e (.store 1)), [(.t 80), (.t 78)], none⟩])
     (.keep [0, 1, 4, 10] (.seq (.draw [⟨(some 81), none, (.p .mv), [(.t 0)], none⟩,
       ⟨(some 82), none, (.p .mv), [(.t 4)], none⟩,
       ⟨(some 83), none, (.p (.bin .sub)), [(.t 82), (.c (.int .i64 (.ofNat 7)))], none⟩,
       ⟨(some 84), none, (.p .mv), [(.t 0)], none⟩,
       ⟨(some 85), none, (.p .mv), [(.t 4)], none⟩,
       ⟨(some 86), none, (.p (.bin .sub)), [(.t 85), (.c (.int .i64 (.ofNat 8)))], none⟩,
       ⟨(some 87), none, (.p .mv), [(.t 10)], none⟩,
       ⟨(some 88), none, (.p (.bin .add)), [(.t 87), (.c (.int .u32 (.ofNat 1)))], none⟩,
       ⟨(some 89), none, (.p .strIndex), [(.c (.str (bs [48, 48, 48, 49, 48, 50, 48, 51, 48, 52, 48, 53, 48, 54, 48, 55, 48, 56, 48, 57, 49, 48, 49, 49, 49, 50, 49, 51, 49, 52, 49, 53, 49, 54, 49, 55, 49, 56, 49, 57, 50, 48, 50, 49, 50, 50, 50, 51, 50, 52, 50, 53, 50, 54, 50, 55, 50, 56, 50, 57, 51, 48, 51, 49, 51, 50, 51, 51, 51, 52, 51, 53, 51, 54, 51, 55, 51, 56, 51, 57, 52, 48, 52, 49, 52, 50, 52, 51, 52, 52, 52, 53, 52, 54, 52, 55, 52, 56, 52, 57, 53, 48, 53, 49, 53, 50, 53, 51, 53, 52, 53, 53, 53, 54, 53, 55, 53, 56, 53, 57, 54, 48, 54, 49, 54, 50, 54, 51, 54, 52, 54, 53, 54, 54, 54, 55, 54, 56, 54, 57, 55, 48, 55, 49, 55, 50, 55, 51, 55, 52, 55, 53, 55, 54, 55, 55, 55, 56, 55, 57, 56, 48, 56, 49, 56, 50, 56, 51, 56, 52, 56, 53, 56, 54, 56, 55, 56, 56, 56, 57, 57, 48, 57, 49, 57, 50, 57, 51, 57, 52, 57, 53, 57, 54, 57, 55, 57, 56, 57, 57]))), (.t 88)], none⟩,
       ⟨(some 90), none, (.p .mv), [(.t 10)], none⟩,
       ⟨(some 91), none, (.p .strIndex), [(.c (.str (bs [48, 48, 48, 49, 48, 50, 48, 51, 48, 52, 48, 53, 48, 54, 48, 55, 48, 56, 48, 57, 49, 48, 49, 49, 49, 50, 49, 51, 49, 52, 49, 53, 49, 54, 49, 55, 49, 56, 49, 57, 50, 48, 50, 49, 50, 50, 50, 51, 50, 52, 50, 53, 50, 54, 50, 55, 50, 56, 50, 57, 51, 48, 51, 49, 51, 50, 51, 51, 51, 52, 51, 53, 51, 54, 51, 55, 51, 56, 51, 57, 52, 48, 52, 49, 52, 50, 52, 51, 52, 52, 52, 53, 52, 54, 52, 55, 52, 56, 52, 57, 53, 48, 53, 49, 53, 50, 53, 51, 53, 52, 53, 53, 53, 54, 53, 55, 53, 56, 53, 57, 54, 48, 54, 49, 54, 50, 54, 51, 54, 52, 54, 53, 54, 54, 54, 55, 54, 56, 54, 57, 55, 48, 55, 49, 55, 50, 55, 51, 55, 52, 55, 53, 55, 54, 55, 55, 55, 56, 55, 57, 56, 48, 56, 49, 56, 50, 56, 51, 56, 52, 56, 53, 56, 54, 56, 55, 56, 56, 56, 57, 57, 48, 57, 49, 57, 50, 57, 51, 57, 52, 57, 53, 57, 54, 57, 55, 57, 56, 57, 57]))), (.t 90)], none⟩,
       ⟨(some 92), none, (.p (.slIdx 1)), [(.t 81), (.t 83)], none⟩,
       ⟨none, none, (.e (.store 1)), [(.t 92), (.t 89)], none⟩,
       ⟨(some 93), none, (.p (.slIdx 1)), [(.t 84), (.t 86)], none⟩,
       ⟨none, none, (.e (.store 1)), [(.t 93), (.t 91)], none⟩])
     (.keep [0, 1, 4] (.reg [⟨(some 94), none, (.p .mv), [(.t 4)], none⟩,
       ⟨(some 95), none, (.p (.bin .sub)), [(.t 94), (.c (.int .i64 (.ofNat 8)))], none⟩,
       ⟨(some 4), none, (.p .mv), [(.t 95)], none⟩])))))))))))))))))))))))))
  (.keep [0, 1, 4] (.seq (.reg [⟨(some 96), none, (.p .mv), [(.t 1)], none⟩,
    ⟨(some 97), none, (.p (.toInt .u32)), [(.t 96)], none⟩,
    ⟨(some 12), none, (.p .mv), [(.t 97)], none⟩])
  (.keep [0, 4, 12] (.seq (.seq (.reg [⟨(some 98), none, (.p .mv), [(.t 4)], none⟩,
    ⟨(some 99), none, (.p (.bin .geq)), [(.t 98), (.c (.int .i64 (.ofNat 4)))], none⟩])
  (.keep [0, 4, 12, 99] (.cond (.t 99)
   (.seq (.reg [⟨(some 100), none, (.p .mv), [(.t 12)], none⟩,
     ⟨(some 101), none, (.p (.bin .rem)), [(.t 100), (.c (.int .u32 (.ofNat 10000)))], none⟩,
     ⟨(some 13), none, (.p .mv), [(.t 101)], none⟩])
   (.keep [0, 4, 12, 13] (.seq (.reg [⟨(some 102), none, (.p .mv), [(.t 12)], none⟩,
     ⟨(some 103), none, (.p (.bin .quo)), [(.t 102), (.c (.int .u32 (.ofNat 10000)))], none⟩,
     ⟨(some 12), none, (.p .mv), [(.t 103)], none⟩])
   (.keep [0, 4, 12, 13] (.seq (.reg [⟨(some 104), none, (.p .mv), [(.t 13)], none⟩,
     ⟨(some 105), none, (.p (.bin .quo)), [(.t 104), (.c (.int .u32 (.ofNat 100)))], none⟩,
     ⟨(some 106), none, (.p (.bin .mul)), [(.t 105), (.c (.int .u32 (.ofNat 2)))], none⟩,
     ⟨(some 107), none, (.p .mv), [(.t 13)], none⟩,
     ⟨(some 108), none, (.p (.bin .rem)), [(.t 107), (.c (.int .u32 (.ofNat 100)))], none⟩,
     ⟨(some 109), none, (.p (.bin .mul)), [(.t 108), (.c (.int .u32 (.ofNat 2)))], none⟩,
     ⟨(some 14), none, (.p .mv), [(.t 106)], none⟩,
     ⟨(some 15), none, (.p .mv), [(.t 109)], none⟩])
   (.keep [0, 4, 12, 14, 15] (.seq (.draw [⟨(some 110), none, (.p .mv), [(.t 0)], none⟩,
     ⟨(some 111), none, (.p .mv), [(.t 4)], none⟩,
     ⟨(some 112), none, (.p (.bin .sub)), [(.t 111), (.c (.int .i64 (.ofNat 1)))], none⟩,
     ⟨(some 113), none, (.p .mv), [(.t 0)], none⟩,
     ⟨(some 114), none, (.p .mv), [(.t 4)], none⟩,
     ⟨(some 115), none, (.p (.bin .sub)), [(.t 114), (.c (.int .i64 (.ofNat 2)))], none⟩,
     ⟨(some 116), none, (.p .mv), [(.t 15)], none⟩,
     ⟨(some 117), none, (.p (.bin .add)), [(.t 116), (.c (.int .u32 (.ofNat 1)))], none⟩,
     ⟨(some 118), none, (.p .strIndex), [(.c (.str (bs [48, 48, 48, 49, 48, 50, 48, 51, 48, 52, 48, 53, 48, 54, 48, 55, 48, 56, 48, 57, 49, 48, 49, 49, 49, 50, 49, 51, 49, 52, 49, 53, 49, 54, 49, 55, 49, 56, 49, 57, 50, 48, 50, 49, 50, 50, 50, 51, 50, 52, 50, 53, 50, 54, 50, 55, 50, 56, 50, 57, 51, 48, 51, 49, 51, 50, 51, 51, 51, 52, 51, 53, 51, 54, 51, 55, 51, 56, 51, 57, 52, 48, 52, 49, 52, 50, 52, 51, 52, 52, 52, 53, 52, 54, 52, 55, 52, 56, 52, 57, 53, 48, 53, 49, 53, 50, 53, 51, 53, 52, 53, 53, 53, 54, 53, 55, 53, 56, 53, 57, 54, 48, 54, 49, 54, 50, 54, 51, 54, 52, 54, 53, 54, 54, 54, 55, 54, 56, 54, 57, 55, 48, 55, 49, 55, 50, 55, 51, 55, 52, 55, 53, 55, 54, 55, 55, 55, 56, 55, 57, 56, 48, 56, 49, 56, 50, 56, 51, 56, 52, 56, 53, 56, 54, 56, 55, 56, 56, 56, 57, 57, 48, 57, 49, 57, 50, 57, 51, 57, 52, 57, 53, 57, 54, 57, 55, 57, 56, 57, 57]))), (.t 117)], none⟩,
     ⟨(some 119), none, (.p .mv), [(.t 15)], none⟩,
     ⟨(some 120), none, (.p .strIndex), [(.c (.str (bs [48, 48, 48, 49, 48, 50, 48, 51, 48, 52, 48, 53, 48, 54, 48, 55, 48, 56, 48, 57, 49, 48, 49, 49, 49, 50, 49, 51, 49, 52, 49, 53, 49, 54, 49, 55, 49, 56, 49, 57, 50, 48, 50, 49, 50, 50, 50, 51, 50, 52, 50, 53, 50, 54, 50, 55, 50, 56, 50, 57, 51, 48, 51, 49, 51, 50, 51, 51, 51, 52, 51, 53, 51, 54, 51, 55, 51, 56, 51, 57, 52, 48, 52, 49, 52, 50, 52, 51, 52, 52, 52, 53, 52, 54, 52, 55, 52, 56, 52, 57, 53, 48, 53, 49, 53, 50, 53, 51, 53, 52, 53, 53, 53, 54, 53, 55, 53, 56, 53, 57, 54, 48, 54, 49, 54, 50, 54, 51, 54, 52, 54, 53, 54, 54, 54, 55, 54, 56, 54, 57, 55, 48, 55, 49, 55, 50, 55, 51, 55, 52, 55, 53, 55, 54, 55, 55, 55, 56, 55, 57, 56, 48, 56, 49, 56, 50, 56, 51, 56, 52, 56, 53, 56, 54, 56, 55, 56, 56, 56, 57, 57, 48, 57, 49, 57, 50, 57, 51, 57, 52, 57, 53, 57, 54, 57, 55, 57, 56, 57, 57]))), (.t 119)], none⟩,
     ⟨(some 121), none, (.p (.slIdx 1)), [(.t 110), (.t 112)], none⟩,
     ⟨none, none, (.e (.store 1)), [(.t 121), (.t 118)], none⟩,
     ⟨(some 122), none, (.p (.slIdx 1)), [(.t 113), (.t 115)], none⟩,
     ⟨none, none, (.e (.store 1)), [(.t 122), (.t 120)], none⟩])
   (.keep [0, 4, 12, 14] (.seq (.draw [⟨(some 123), none, (.p .mv), [(.t 0)], none⟩,
     ⟨(some 124), none, (.p .mv), [(.t 4)], none⟩,
     ⟨(some 125), none, (.p (.bin .sub)), [(.t 124), (.c (.int .i64 (.ofNat 3)))], none⟩,
     ⟨(some 126), none, (.p .mv), [(.t 0)], none⟩,
     ⟨(some 127), none, (.p .mv), [(.t 4)], none⟩,
     ⟨(some 128), none, (.p (.bin .sub)), [(.t 127), (.c (.int .i64 (.ofNat 4)))], none⟩,
     ⟨(some 129), none, (.p .mv), [(.t 14)], none⟩,
     ⟨(some 130), none, (.p (.bin .add)), [(.t 129), (.c (.int .u32 (.ofNat 1)))], none⟩,
     ⟨(some 131), none, (.p .strIndex), [(.c (.str (bs [48, 48, 48, 49, 48, 50, 48, 51, 48, 52, 48, 53, 48, 54, 48, 55, 48, 56, 48, 57, 49, 48, 49, 49, 49, 50, 49, 51, 49, 52, 49, 53, 49, 54, 49, 55, 49, 56, 49, 57, 50, 48, 50, 49, 50, 50, 50, 51, 50, 52, 50, 53, 50, 54, 50, 55, 50, 56, 50, 57, 51, 48, 51, 49, 51, 50, 51, 51, 51, 52, 51, 53, 51, 54, 51, 55, 51, 56, 51, 57, 52, 48, 52, 49, 52, 50, 52, 51, 52, 52, 52, 53, 52, 54, 52, 55, 52, 56, 52, 57, 53, 48, 53, 49, 53, 50, 53, 51, 53, 52, 53, 53, 53, 54, 53, 55, 53, 56, 53, 57, 54, 48, 54, 49, 54, 50, 54, 51, 54, 52, 54, 53, 54, 54, 54, 55, 54, 56, 54, 57, 55, 48, 55, 49, 55, 50, 55, 51, 55, 52, 55, 53, 55, 54, 55, 55, 55, 56, 55, 57, 56, 48, 56, 49, 56, 50, 56, 51, 56, 52, 56, 53, 56, 54, 56, 55, 56, 56, 56, 57, 57, 48, 57, 49, 57, 50, 57, 51, 57, 52, 57, 53, 57, 54, 57, 55, 57, 56, 57, 57]))), (.t 130)], none⟩,
     ⟨(some 132), none, (.p .mv), [(.t 14)], none⟩,
     ⟨(some 133), none, (.p .strIndex), [(.c (.str (bs [48, 48, 48, 49, 48, 50, 48, 51, 48, 52, 48, 53, 48, 54, 48, 55, 48, 56, 48, 57, 49, 48, 49, 49, 49, 50, 49, 51, 49, 52, 49, 53, 49, 54, 49, 55, 49, 56, 49, 57, 50, 48, 50, 49, 50, 50, 50, 51, 50, 52, 50, 53, 50, 54, 50, 55, 50, 56, 50, 57, 51, 48, 51, 49, 51, 50, 51, 51, 51, 52, 51, 53, 51, 54, 51, 55, 51, 56, 51, 57, 52, 48, 52, 49, 52, 50, 52, 51, 52, 52, 52, 53, 52, 54, 52, 55, 52, 56, 52, 57, 53, 48, 53, 49, 53, 50, 53, 51, 53, 52, 53, 53, 53, 54, 53, 55, 53, 56, 53, 57, 54, 48, 54, 49, 54, 50, 54, 51, 54, 52, 54, 53, 54, 54, 54, 55, 54, 56, 54, 57, 55, 48, 55, 49, 55, 50, 55, 51, 55, 52, 55, 53, 55, 54, 55, 55, 55, 56, 55, 57, 56, 48, 56, 49, 56, 50, 56, 51, 56, 52, 56, 53, 56, 54, 56, 55, 56, 56, 56, 57, 57, 48, 57, 49, 57, 50, 57, 51, 57, 52, 57, 53, 57, 54, 57, 55, 57, 56, 57, 57]))), (.t 132)], none⟩,
     ⟨(some 134), none, (.p (.slIdx 1)), [(.t 123), (.t 125)], none⟩,
     ⟨none, none, (.e (.store 1)), [(.t 134), (.t 131)], none⟩,
     ⟨(some 135), none, (.p (.slIdx 1)), [(.t 126), (.t 128)], none⟩,
     ⟨none, none, (.e (.store 1)), [(.t 135), (.t 133)], none⟩])
   (.keep [0, 4, 12] (.reg [⟨(some 136), none, (.p .mv), [(.t 4)], none⟩,
     ⟨(some 137), none, (.p (.bin .sub)), [(.t 136), (.c (.int .i64 (.ofNat 4)))], none⟩,
     ⟨(some 4), none, (.p .mv), [(.t 137)], none⟩])))))))))))
   .skip)))
  (.keep [0, 4, 12] (.seq (.seq (.reg [⟨(some 138), none, (.p .mv), [(.t 4)], none⟩,
    ⟨(some 139), none, (.p (.bin .geq)), [(.t 138), (.c (.int .i64 (.ofNat 2)))], none⟩])
  (.keep [0, 4, 12, 139] (.cond (.t 139)
   (.seq (.reg [⟨(some 140), none, (.p .mv), [(.t 12)], none⟩,
     ⟨(some 141), none, (.p (.bin .rem)), [(.t 140), (.c (.int .u32 (.ofNat 100)))], none⟩,
     ⟨(some 142), none, (.p (.bin .mul)), [(.t 141), (.c (.int .u32 (.ofNat 2)))], none⟩,
     ⟨(some 16), none, (.p .mv), [(.t 142)], none⟩])
   (.keep [0, 4, 12, 16] (.seq (.reg [⟨(some 143), none, (.p .mv), [(.t 12)], none⟩,
     ⟨(some 144), none, (.p (.bin .quo)), [(.t 143), (.c (.int .u32 (.ofNat 100)))], none⟩,
     ⟨(some 12), none, (.p .mv), [(.t 144)], none⟩])
   (.keep [0, 4, 12, 16] (.seq (.draw [⟨(some 145), none, (.p .mv), [(.t 0)], none⟩,
     ⟨(some 146), none, (.p .mv), [(.t 4)], none⟩,
     ⟨(some 147), none, (.p (.bin .sub)), [(.t 146), (.c (.int .i64 (.ofNat 1)))], none⟩,
     ⟨(some 148), none, (.p .mv), [(.t 0)], none⟩,
     ⟨(some 149), none, (.p .mv), [(.t 4)], none⟩,
     ⟨(some 150), none, (.p (.bin .sub)), [(.t 149), (.c (.int .i64 (.ofNat 2)))], none⟩,
     ⟨(some 151), none, (.p .mv), [(.t 16)], none⟩,
     ⟨(some 152), none, (.p (.bin .add)), [(.t 151), (.c (.int .u32 (.ofNat 1)))], none⟩,
     ⟨(some 153), none, (.p .strIndex), [(.c (.str (bs [48, 48, 48, 49, 48, 50, 48, 51, 48, 52, 48, 53, 48, 54, 48, 55, 48, 56, 48, 57, 49, 48, 49, 49, 49, 50, 49, 51, 49, 52, 49, 53, 49, 54, 49, 55, 49, 56, 49, 57, 50, 48, 50, 49, 50, 50, 50, 51, 50, 52, 50, 53, 50, 54, 50, 55, 50, 56, 50, 57, 51, 48, 51, 49, 51, 50, 51, 51, 51, 52, 51, 53, 51, 54, 51, 55, 51, 56, 51, 57, 52, 48, 52, 49, 52, 50, 52, 51, 52, 52, 52, 53, 52, 54, 52, 55, 52, 56, 52, 57, 53, 48, 53, 49, 53, 50, 53, 51, 53, 52, 53, 53, 53, 54, 53, 55, 53, 56, 53, 57, 54, 48, 54, 49, 54, 50, 54, 51, 54, 52, 54, 53, 54, 54, 54, 55, 54, 56, 54, 57, 55, 48, 55, 49, 55, 50, 55, 51, 55, 52, 55, 53, 55, 54, 55, 55, 55, 56, 55, 57, 56, 48, 56, 49, 56, 50, 56, 51, 56, 52, 56, 53, 56, 54, 56, 55, 56, 56, 56, 57, 57, 48, 57, 49, 57, 50, 57, 51, 57, 52, 57, 53, 57, 54, 57, 55, 57, 56, 57, 57]))), (.t 152)], none⟩,
     ⟨(some 154), none, (.p .mv), [(.t 16)], none⟩,
     ⟨(some 155), none, (.p .strIndex), [(.c (.str (bs [48, 48, 48, 49, 48, 50, 48, 51, 48, 52, 48, 53, 48, 54, 48, 55, 48, 56, 48, 57, 49, 48, 49, 49, 49, 50, 49, 51, 49, 52, 49, 53, 49, 54, 49, 55, 49, 56, 49, 57, 50, 48, 50, 49, 50, 50, 50, 51, 50, 52, 50, 53, 50, 54, 50, 55, 50, 56, 50, 57, 51, 48, 51, 49, 51, 50, 51, 51, 51, 52, 51, 53, 51, 54, 51, 55, 51, 56, 51, 57, 52, 48, 52, 49, 52, 50, 52, 51, 52, 52, 52, 53, 52, 54, 52, 55, 52, 56, 52, 57, 53, 48, 53, 49, 53, 50, 53, 51, 53, 52, 53, 53, 53, 54, 53, 55, 53, 56, 53, 57, 54, 48, 54, 49, 54, 50, 54, 51, 54, 52, 54, 53, 54, 54, 54, 55, 54, 56, 54, 57, 55, 48, 55, 49, 55, 50, 55, 51, 55, 52, 55, 53, 55, 54, 55, 55, 55, 56, 55, 57, 56, 48, 56, 49, 56, 50, 56, 51, 56, 52, 56, 53, 56, 54, 56, 55, 56, 56, 56, 57, 57, 48, 57, 49, 57, 50, 57, 51, 57, 52, 57, 53, 57, 54, 57, 55, 57, 56, 57, 57]))), (.t 154)], none⟩,
     ⟨(some 156), none, (.p (.slIdx 1)), [(.t 145), (.t 147)], none⟩,
     ⟨none, none, (.e (.store 1)), [(.t 156), (.t 153)], none⟩,
     ⟨(some 157), none, (.p (.slIdx 1)), [(.t 148), (.t 150)], none⟩,
     ⟨none, none, (.e (.store 1)), [(.t 157), (.t 155)], none⟩])
   (.keep [0, 4, 12] (.reg [⟨(some 158), none, (.p .mv), [(.t 4)], none⟩,
     ⟨(some 159), none, (.p (.bin .sub)), [(.t 158), (.c (.int .i64 (.ofNat 2)))], none⟩,
     ⟨(some 4), none, (.p .mv), [(.t 159)], none⟩])))))))
   .skip)))
  (.keep [0, 4, 12] (.seq (.reg [⟨(some 160), none, (.p .mv), [(.t 4)], none⟩,
    ⟨(some 161), none, (.p (.bin .gtr)), [(.t 160), (.c (.int .i64 (.ofNat 0)))], none⟩])
  (.keep [0, 12, 161] (.cond (.t 161)
   (.reg [⟨(some 162), none, (.p .mv), [(.t 0)], none⟩,
     ⟨(some 163), none, (.p .mv), [(.t 12)], none⟩,
     ⟨(some 164), none, (.p (.bin .add)), [(.c (.int .u32 (.ofNat 48))), (.t 163)], none⟩,
     ⟨(some 165), none, (.p (.toInt .u8)), [(.t 164)], none⟩,
     ⟨(some 166), none, (.p (.slIdx 1)), [(.t 162), (.c (.int .i64 (.ofNat 0)))], none⟩,
     ⟨none, none, (.e (.store 1)), [(.t 166), (.t 165)], none⟩])
   .skip))))))))))))),
  []⟩
def s176_j2 (call : CallK) (N : Nat) (q : KV) (st : St) (τ : Tape) : Ans :=
  match st with
  | ⟨fr, H⟩ =>
  getK fr 0 fun t0 =>
  getK fr 4 fun t4 =>
  getK fr 12 fun t12 =>
  binK .gtr t4 (.int .i64 (.ofNat 0)) fun v4 =>
  condK v4
    (binK .add (.int .u32 (.ofNat 48)) t12 fun v5 =>
  toIntK .u8 v5 fun v6 =>
  someK (pSlIdx 1 [t0, (.int .i64 (.ofNat 0))]) fun v7 =>
  effK (eStore 1 [v7, v6] H τ) fun v8 H9 τ10 =>
  q (.tup []) H9 τ10)
    (q (.tup []) H τ)
def s176_j1 (call : CallK) (N : Nat) (q : KV) (st : St) (τ : Tape) : Ans :=
  match st with
  | ⟨fr, H⟩ =>
  getK fr 0 fun t0 =>
  getK fr 4 fun t4 =>
  getK fr 12 fun t12 =>
  binK .geq t4 (.int .i64 (.ofNat 2)) fun v3 =>
  condK v3
    (binK .rem t12 (.int .u32 (.ofNat 100)) fun v11 =>
  binK .mul v11 (.int .u32 (.ofNat 2)) fun v12 =>
  binK .quo t12 (.int .u32 (.ofNat 100)) fun v13 =>
  binK .sub t4 (.int .i64 (.ofNat 1)) fun v14 =>
  binK .sub t4 (.int .i64 (.ofNat 2)) fun v15 =>
  binK .add v12 (.int .u32 (.ofNat 1)) fun v16 =>
  someK (pStrIndex [(.str (bs [48, 48, 48, 49, 48, 50, 48, 51, 48, 52, 48, 53, 48, 54, 48, 55, 48, 56, 48, 57, 49, 48, 49, 49, 49, 50, 49, 51, 49, 52, 49, 53, 49, 54, 49, 55, 49, 56, 49, 57, 50, 48, 50, 49, 50, 50, 50, 51, 50, 52, 50, 53, 50, 54, 50, 55, 50, 56, 50, 57, 51, 48, 51, 49, 51, 50, 51, 51, 51, 52, 51, 53, 51, 54, 51, 55, 51, 56, 51, 57, 52, 48, 52, 49, 52, 50, 52, 51, 52, 52, 52, 53, 52, 54, 52, 55, 52, 56, 52, 57, 53, 48, 53, 49, 53, 50, 53, 51, 53, 52, 53, 53, 53, 54, 53, 55, 53, 56, 53, 57, 54, 48, 54, 49, 54, 50, 54, 51, 54, 52, 54, 53, 54, 54, 54, 55, 54, 56, 54, 57, 55, 48, 55, 49, 55, 50, 55, 51, 55, 52, 55, 53, 55, 54, 55, 55, 55, 56, 55, 57, 56, 48, 56, 49, 56, 50, 56, 51, 56, 52, 56, 53, 56, 54, 56, 55, 56, 56, 56, 57, 57, 48, 57, 49, 57, 50, 57, 51, 57, 52, 57, 53, 57, 54, 57, 55, 57, 56, 57, 57])), v16]) fun v17 =>
  someK (pStrIndex [(.str (bs [48, 48, 48, 49, 48, 50, 48, 51, 48, 52, 48, 53, 48, 54, 48, 55, 48, 56, 48, 57, 49, 48, 49, 49, 49, 50, 49, 51, 49, 52, 49, 53, 49, 54, 49, 55, 49, 56, 49, 57, 50, 48, 50, 49, 50, 50, 50, 51, 50, 52, 50, 53, 50, 54, 50, 55, 50, 56, 50, 57, 51, 48, 51, 49, 51, 50, 51, 51, 51, 52, 51, 53, 51, 54, 51, 55, 51, 56, 51, 57, 52, 48, 52, 49, 52, 50, 52, 51, 52, 52, 52, 53, 52, 54, 52, 55, 52, 56, 52, 57, 53, 48, 53, 49, 53, 50, 53, 51, 53, 52, 53, 53, 53, 54, 53, 55, 53, 56, 53, 57, 54, 48, 54, 49, 54, 50, 54, 51, 54, 52, 54, 53, 54, 54, 54, 55, 54, 56, 54, 57, 55, 48, 55, 49, 55, 50, 55, 51, 55, 52, 55, 53, 55, 54, 55, 55, 55, 56, 55, 57, 56, 48, 56, 49, 56, 50, 56, 51, 56, 52, 56, 53, 56, 54, 56, 55, 56, 56, 56, 57, 57, 48, 57, 49, 57, 50, 57, 51, 57, 52, 57, 53, 57, 54, 57, 55, 57, 56, 57, 57])), v12]) fun v18 =>
  someK (pSlIdx 1 [t0, v14]) fun v19 =>
  effK (eStore 1 [v19, v17] H τ) fun v20 H21 τ22 =>
  someK (pSlIdx 1 [t0, v15]) fun v23 =>
  effK (eStore 1 [v23, v18] H21 τ22) fun v24 H25 τ26 =>
  binK .sub t4 (.int .i64 (.ofNat 2)) fun v27 =>
  s176_j2 call N q ⟨(T.set (T.set (T.set (T.set (T.set (T.set .leaf 0 t0) 4 t4) 12 v13) 158 t4) 159 v27) 4 v27), H25⟩ τ26)
    (s176_j2 call N q ⟨(T.set (T.set (T.set (T.set .leaf 0 t0) 4 t4) 12 t12) 139 v3), H⟩ τ)
def s176_j0 (call : CallK) (N : Nat) (q : KV) (st : St) (τ : Tape) : Ans :=
  match st with
  | ⟨fr, H⟩ =>
  getK fr 0 fun t0 =>
  getK fr 1 fun t1 =>
  getK fr 4 fun t4 =>
  toIntK .u32 t1 fun v1 =>
  binK .geq t4 (.int .i64 (.ofNat 4)) fun v2 =>
  condK v2
    (binK .rem v1 (.int .u32 (.ofNat 10000)) fun v28 =>
  binK .quo v1 (.int .u32 (.ofNat 10000)) fun v29 =>
  binK .quo v28 (.int .u32 (.ofNat 100)) fun v30 =>
  binK .mul v30 (.int .u32 (.ofNat 2)) fun v31 =>
  binK .rem v28 (.int .u32 (.ofNat 100)) fun v32 =>
  binK .mul v32 (.int .u32 (.ofNat 2)) fun v33 =>
  binK .sub t4 (.int .i64 (.ofNat 1)) fun v34 =>
  binK .sub t4 (.int .i64 (.ofNat 2)) fun v35 =>
  binK .add v33 (.int .u32 (.ofNat 1)) fun v36 =>
  someK (pStrIndex [(.str (bs [48, 48, 48, 49, 48, 50, 48, 51, 48, 52, 48, 53, 48, 54, 48, 55, 48, 56, 48, 57, 49, 48, 49, 49, 49, 50, 49, 51, 49, 52, 49, 53, 49, 54, 49, 55, 49, 56, 49, 57, 50, 48, 50, 49, 50, 50, 50, 51, 50, 52, 50, 53, 50, 54, 50, 55, 50, 56, 50, 57, 51, 48, 51, 49, 51, 50, 51, 51, 51, 52, 51, 53, 51, 54, 51, 55, 51, 56, 51, 57, 52, 48, 52, 49, 52, 50, 52, 51, 52, 52, 52, 53, 52, 54, 52, 55, 52, 56, 52, 57, 53, 48, 53, 49, 53, 50, 53, 51, 53, 52, 53, 53, 53, 54, 53, 55, 53, 56, 53, 57, 54, 48, 54, 49, 54, 50, 54, 51, 54, 52, 54, 53, 54, 54, 54, 55, 54, 56, 54, 57, 55, 48, 55, 49, 55, 50, 55, 51, 55, 52, 55, 53, 55, 54, 55, 55, 55, 56, 55, 57, 56, 48, 56, 49, 56, 50, 56, 51, 56, 52, 56, 53, 56, 54, 56, 55, 56, 56, 56, 57, 57, 48, 57, 49, 57, 50, 57, 51, 57, 52, 57, 53, 57, 54, 57, 55, 57, 56, 57, 57])), v36]) fun v37 =>
  someK (pStrIndex [(.str (bs [48, 48, 48, 49, 48, 50, 48, 51, 48, 52, 48, 53, 48, 54, 48, 55, 48, 56, 48, 57, 49, 48, 49, 49, 49, 50, 49, 51, 49, 52, 49, 53, 49, 54, 49, 55, 49, 56, 49, 57, 50, 48, 50, 49, 50, 50, 50, 51, 50, 52, 50, 53, 50, 54, 50, 55, 50, 56, 50, 57, 51, 48, 51, 49, 51, 50, 51, 51, 51, 52, 51, 53, 51, 54, 51, 55, 51, 56, 51, 57, 52, 48, 52, 49, 52, 50, 52, 51, 52, 52, 52, 53, 52, 54, 52, 55, 52, 56, 52, 57, 53, 48, 53, 49, 53, 50, 53, 51, 53, 52, 53, 53, 53, 54, 53, 55, 53, 56, 53, 57, 54, 48, 54, 49, 54, 50, 54, 51, 54, 52, 54, 53, 54, 54, 54, 55, 54, 56, 54, 57, 55, 48, 55, 49, 55, 50, 55, 51, 55, 52, 55, 53, 55, 54, 55, 55, 55, 56, 55, 57, 56, 48, 56, 49, 56, 50, 56, 51, 56, 52, 56, 53, 56, 54, 56, 55, 56, 56, 56, 57, 57, 48, 57, 49, 57, 50, 57, 51, 57, 52, 57, 53, 57, 54, 57, 55, 57, 56, 57, 57])), v33]) fun v38 =>
  someK (pSlIdx 1 [t0, v34]) fun v39 =>
  effK (eStore 1 [v39, v37] H τ) fun v40 H41 τ42 =>
  someK (pSlIdx 1 [t0, v35]) fun v43 =>
  effK (eStore 1 [v43, v38] H41 τ42) fun v44 H45 τ46 =>
  binK .sub t4 (.int .i64 (.ofNat 3)) fun v47 =>
  binK .sub t4 (.int .i64 (.ofNat 4)) fun v48 =>
  binK .add v31 (.int .u32 (.ofNat 1)) fun v49 =>
  someK (pStrIndex [(.str (bs [48, 48, 48, 49, 48, 50, 48, 51, 48, 52, 48, 53, 48, 54, 48, 55, 48, 56, 48, 57, 49, 48, 49, 49, 49, 50, 49, 51, 49, 52, 49, 53, 49, 54, 49, 55, 49, 56, 49, 57, 50, 48, 50, 49, 50, 50, 50, 51, 50, 52, 50, 53, 50, 54, 50, 55, 50, 56, 50, 57, 51, 48, 51, 49, 51, 50, 51, 51, 51, 52, 51, 53, 51, 54, 51, 55, 51, 56, 51, 57, 52, 48, 52, 49, 52, 50, 52, 51, 52, 52, 52, 53, 52, 54, 52, 55, 52, 56, 52, 57, 53, 48, 53, 49, 53, 50, 53, 51, 53, 52, 53, 53, 53, 54, 53, 55, 53, 56, 53, 57, 54, 48, 54, 49, 54, 50, 54, 51, 54, 52, 54, 53, 54, 54, 54, 55, 54, 56, 54, 57, 55, 48, 55, 49, 55, 50, 55, 51, 55, 52, 55, 53, 55, 54, 55, 55, 55, 56, 55, 57, 56, 48, 56, 49, 56, 50, 56, 51, 56, 52, 56, 53, 56, 54, 56, 55, 56, 56, 56, 57, 57, 48, 57, 49, 57, 50, 57, 51, 57, 52, 57, 53, 57, 54, 57, 55, 57, 56, 57, 57])), v49]) fun v50 =>
  someK (pStrIndex [(.str (bs [48, 48, 48, 49, 48, 50, 48, 51, 48, 52, 48, 53, 48, 54, 48, 55, 48, 56, 48, 57, 49, 48, 49, 49, 49, 50, 49, 51, 49, 52, 49, 53, 49, 54, 49, 55, 49, 56, 49, 57, 50, 48, 50, 49, 50, 50, 50, 51, 50, 52, 50, 53, 50, 54, 50, 55, 50, 56, 50, 57, 51, 48, 51, 49, 51, 50, 51, 51, 51, 52, 51, 53, 51, 54, 51, 55, 51, 56, 51, 57, 52, 48, 52, 49, 52, 50, 52, 51, 52, 52, 52, 53, 52, 54, 52, 55, 52, 56, 52, 57, 53, 48, 53, 49, 53, 50, 53, 51, 53, 52, 53, 53, 53, 54, 53, 55, 53, 56, 53, 57, 54, 48, 54, 49, 54, 50, 54, 51, 54, 52, 54, 53, 54, 54, 54, 55, 54, 56, 54, 57, 55, 48, 55, 49, 55, 50, 55, 51, 55, 52, 55, 53, 55, 54, 55, 55, 55, 56, 55, 57, 56, 48, 56, 49, 56, 50, 56, 51, 56, 52, 56, 53, 56, 54, 56, 55, 56, 56, 56, 57, 57, 48, 57, 49, 57, 50, 57, 51, 57, 52, 57, 53, 57, 54, 57, 55, 57, 56, 57, 57])), v31]) fun v51 =>
  someK (pSlIdx 1 [t0, v47]) fun v52 =>
  effK (eStore 1 [v52, v50] H45 τ46) fun v53 H54 τ55 =>
  someK (pSlIdx 1 [t0, v48]) fun v56 =>
  effK (eStore 1 [v56, v51] H54 τ55) fun v57 H58 τ59 =>
  binK .sub t4 (.int .i64 (.ofNat 4)) fun v60 =>
  s176_j1 call N q ⟨(T.set (T.set (T.set (T.set (T.set (T.set .leaf 0 t0) 4 t4) 12 v29) 136 t4) 137 v60) 4 v60), H58⟩ τ59)
    (s176_j1 call N q ⟨(T.set (T.set (T.set (T.set .leaf 0 t0) 4 t4) 12 v1) 99 v2), H⟩ τ)
def s176_l3 (call : CallK) (N : Nat) (st : St) (τ : Tape) (k : KC) : Ans :=
  match st with
  | ⟨fr, H⟩ =>
  getK fr 0 fun t0 =>
  getK fr 1 fun t1 =>
  getK fr 4 fun t4 =>
  binK .geq t4 (.int .i64 (.ofNat 8)) fun v61 =>
  condK v61
    (binK .rem t1 (.int .u64 (.ofNat 100000000)) fun v62 =>
  toIntK .u32 v62 fun v63 =>
  binK .quo t1 (.int .u64 (.ofNat 100000000)) fun v64 =>
  binK .quo v63 (.int .u32 (.ofNat 10000)) fun v65 =>
  binK .rem v63 (.int .u32 (.ofNat 10000)) fun v66 =>
  binK .quo v66 (.int .u32 (.ofNat 100)) fun v67 =>
  binK .mul v67 (.int .u32 (.ofNat 2)) fun v68 =>
  binK .rem v66 (.int .u32 (.ofNat 100)) fun v69 =>
  binK .mul v69 (.int .u32 (.ofNat 2)) fun v70 =>
  binK .quo v65 (.int .u32 (.ofNat 100)) fun v71 =>
  binK .mul v71 (.int .u32 (.ofNat 2)) fun v72 =>
  binK .rem v65 (.int .u32 (.ofNat 100)) fun v73 =>
  binK .mul v73 (.int .u32 (.ofNat 2)) fun v74 =>
  binK .sub t4 (.int .i64 (.ofNat 1)) fun v75 =>
  binK .sub t4 (.int .i64 (.ofNat 2)) fun v76 =>
  binK .add v70 (.int .u32 (.ofNat 1)) fun v77 =>
  someK (pStrIndex [(.str (bs [48, 48, 48, 49, 48, 50, 48, 51, 48, 52, 48, 53, 48, 54, 48, 55, 48, 56, 48, 57, 49, 48, 49, 49, 49, 50, 49, 51, 49, 52, 49, 53, 49, 54, 49, 55, 49, 56, 49, 57, 50, 48, 50, 49, 50, 50, 50, 51, 50, 52, 50, 53, 50, 54, 50, 55, 50, 56, 50, 57, 51, 48, 51, 49, 51, 50, 51, 51, 51, 52, 51, 53, 51, 54, 51, 55, 51, 56, 51, 57, 52, 48, 52, 49, 52, 50, 52, 51, 52, 52, 52, 53, 52, 54, 52, 55, 52, 56, 52, 57, 53, 48, 53, 49, 53, 50, 53, 51, 53, 52, 53, 53, 53, 54, 53, 55, 53, 56, 53, 57, 54, 48, 54, 49, 54, 50, 54, 51, 54, 52, 54, 53, 54, 54, 54, 55, 54, 56, 54, 57, 55, 48, 55, 49, 55, 50, 55, 51, 55, 52, 55, 53, 55, 54, 55, 55, 55, 56, 55, 57, 56, 48, 56, 49, 56, 50, 56, 51, 56, 52, 56, 53, 56, 54, 56, 55, 56, 56, 56, 57, 57, 48, 57, 49, 57, 50, 57, 51, 57, 52, 57, 53, 57, 54, 57, 55, 57, 56, 57, 57])), v77]) fun v78 =>
  someK (pStrIndex [(.str (bs [48, 48, 48, 49, 48, 50, 48, 51, 48, 52, 48, 53, 48, 54, 48, 55, 48, 56, 48, 57, 49, 48, 49, 49, 49, 50, 49, 51, 49, 52, 49, 53, 49, 54, 49, 55, 49, 56, 49, 57, 50, 48, 50, 49, 50, 50, 50, 51, 50, 52, 50, 53, 50, 54, 50, 55, 50, 56, 50, 57, 51, 48, 51, 49, 51, 50, 51, 51, 51, 52, 51, 53, 51, 54, 51, 55, 51, 56, 51, 57, 52, 48, 52, 49, 52, 50, 52, 51, 52, 52, 52, 53, 52, 54, 52, 55, 52, 56, 52, 57, 53, 48, 53, 49, 53, 50, 53, 51, 53, 52, 53, 53, 53, 54, 53, 55, 53, 56, 53, 57, 54, 48, 54, 49, 54, 50, 54, 51, 54, 52, 54, 53, 54, 54, 54, 55, 54, 56, 54, 57, 55, 48, 55, 49, 55, 50, 55, 51, 55, 52, 55, 53, 55, 54, 55, 55, 55, 56, 55, 57, 56, 48, 56, 49, 56, 50, 56, 51, 56, 52, 56, 53, 56, 54, 56, 55, 56, 56, 56, 57, 57, 48, 57, 49, 57, 50, 57, 51, 57, 52, 57, 53, 57, 54, 57, 55, 57, 56, 57, 57])), v70]) fun v79 =>
  someK (pSlIdx 1 [t0, v75]) fun v80 =>
  effK (eStore 1 [v80, v78] H τ) fun v81 H82 τ83 =>
  someK (pSlIdx 1 [t0, v76]) fun v84 =>
  effK (eStore 1 [v84, v79] H82 τ83) fun v85 H86 τ87 =>
  binK .sub t4 (.int .i64 (.ofNat 3)) fun v88 =>
  binK .sub t4 (.int .i64 (.ofNat 4)) fun v89 =>
  binK .add v68 (.int .u32 (.ofNat 1)) fun v90 =>
  someK (pStrIndex [(.str (bs [48, 48, 48, 49, 48, 50, 48, 51, 48, 52, 48, 53, 48, 54, 48, 55, 48, 56, 48, 57, 49, 48, 49, 49, 49, 50, 49, 51, 49, 52, 49, 53, 49, 54, 49, 55, 49, 56, 49, 57, 50, 48, 50, 49, 50, 50, 50, 51, 50, 52, 50, 53, 50, 54, 50, 55, 50, 56, 50, 57, 51, 48, 51, 49, 51, 50, 51, 51, 51, 52, 51, 53, 51, 54, 51, 55, 51, 56, 51, 57, 52, 48, 52, 49, 52, 50, 52, 51, 52, 52, 52, 53, 52, 54, 52, 55, 52, 56, 52, 57, 53, 48, 53, 49, 53, 50, 53, 51, 53, 52, 53, 53, 53, 54, 53, 55, 53, 56, 53, 57, 54, 48, 54, 49, 54, 50, 54, 51, 54, 52, 54, 53, 54, 54, 54, 55, 54, 56, 54, 57, 55, 48, 55, 49, 55, 50, 55, 51, 55, 52, 55, 53, 55, 54, 55, 55, 55, 56, 55, 57, 56, 48, 56, 49, 56, 50, 56, 51, 56, 52, 56, 53, 56, 54, 56, 55, 56, 56, 56, 57, 57, 48, 57, 49, 57, 50, 57, 51, 57, 52, 57, 53, 57, 54, 57, 55, 57, 56, 57, 57])), v90]) fun v91 =>
  someK (pStrIndex [(.str (bs [48, 48, 48, 49, 48, 50, 48, 51, 48, 52, 48, 53, 48, 54, 48, 55, 48, 56, 48, 57, 49, 48, 49, 49, 49, 50, 49, 51, 49, 52, 49, 53, 49, 54, 49, 55, 49, 56, 49, 57, 50, 48, 50, 49, 50, 50, 50, 51, 50, 52, 50, 53, 50, 54, 50, 55, 50, 56, 50, 57, 51, 48, 51, 49, 51, 50, 51, 51, 51, 52, 51, 53, 51, 54, 51, 55, 51, 56, 51, 57, 52, 48, 52, 49, 52, 50, 52, 51, 52, 52, 52, 53, 52, 54, 52, 55, 52, 56, 52, 57, 53, 48, 53, 49, 53, 50, 53, 51, 53, 52, 53, 53, 53, 54, 53, 55, 53, 56, 53, 57, 54, 48, 54, 49, 54, 50, 54, 51, 54, 52, 54, 53, 54, 54, 54, 55, 54, 56, 54, 57, 55, 48, 55, 49, 55, 50, 55, 51, 55, 52, 55, 53, 55, 54, 55, 55, 55, 56, 55, 57, 56, 48, 56, 49, 56, 50, 56, 51, 56, 52, 56, 53, 56, 54, 56, 55, 56, 56, 56, 57, 57, 48, 57, 49, 57, 50, 57, 51, 57, 52, 57, 53, 57, 54, 57, 55, 57, 56, 57, 57])), v68]) fun v92 =>
  someK (pSlIdx 1 [t0, v88]) fun v93 =>
  effK (eStore 1 [v93, v91] H86 τ87) fun v94 H95 τ96 =>
  someK (pSlIdx 1 [t0, v89]) fun v97 =>
  effK (eStore 1 [v97, v92] H95 τ96) fun v98 H99 τ100 =>
  binK .sub t4 (.int .i64 (.ofNat 5)) fun v101 =>
  binK .sub t4 (.int .i64 (.ofNat 6)) fun v102 =>
  binK .add v74 (.int .u32 (.ofNat 1)) fun v103 =>
  someK (pStrIndex [(.str (bs [48, 48, 48, 49, 48, 50, 48, 51, 48, 52, 48, 53, 48, 54, 48, 55, 48, 56, 48, 57, 49, 48, 49, 49, 49, 50, 49, 51, 49, 52, 49, 53, 49, 54, 49, 55, 49, 56, 49, 57, 50, 48, 50, 49, 50, 50, 50, 51, 50, 52, 50, 53, 50, 54, 50, 55, 50, 56, 50, 57, 51, 48, 51, 49, 51, 50, 51, 51, 51, 52, 51, 53, 51, 54, 51, 55, 51, 56, 51, 57, 52, 48, 52, 49, 52, 50, 52, 51, 52, 52, 52, 53, 52, 54, 52, 55, 52, 56, 52, 57, 53, 48, 53, 49, 53, 50, 53, 51, 53, 52, 53, 53, 53, 54, 53, 55, 53, 56, 53, 57, 54, 48, 54, 49, 54, 50, 54, 51, 54, 52, 54, 53, 54, 54, 54, 55, 54, 56, 54, 57, 55, 48, 55, 49, 55, 50, 55, 51, 55, 52, 55, 53, 55, 54, 55, 55, 55, 56, 55, 57, 56, 48, 56, 49, 56, 50, 56, 51, 56, 52, 56, 53, 56, 54, 56, 55, 56, 56, 56, 57, 57, 48, 57, 49, 57, 50, 57, 51, 57, 52, 57, 53, 57, 54, 57, 55, 57, 56, 57, 57])), v103]) fun v104 =>
  someK (pStrIndex [(.str (bs [48, 48, 48, 49, 48, 50, 48, 51, 48, 52, 48, 53, 48, 54, 48, 55, 48, 56, 48, 57, 49, 48, 49, 49, 49, 50, 49, 51, 49, 52, 49, 53, 49, 54, 49, 55, 49, 56, 49, 57, 50, 48, 50, 49, 50, 50, 50, 51, 50, 52, 50, 53, 50, 54, 50, 55, 50, 56, 50, 57, 51, 48, 51, 49, 51, 50, 51, 51, 51, 52, 51, 53, 51, 54, 51, 55, 51, 56, 51, 57, 52, 48, 52, 49, 52, 50, 52, 51, 52, 52, 52, 53, 52, 54, 52, 55, 52, 56, 52, 57, 53, 48, 53, 49, 53, 50, 53, 51, 53, 52, 53, 53, 53, 54, 53, 55, 53, 56, 53, 57, 54, 48, 54, 49, 54, 50, 54, 51, 54, 52, 54, 53, 54, 54, 54, 55, 54, 56, 54, 57, 55, 48, 55, 49, 55, 50, 55, 51, 55, 52, 55, 53, 55, 54, 55, 55, 55, 56, 55, 57, 56, 48, 56, 49, 56, 50, 56, 51, 56, 52, 56, 53, 56, 54, 56, 55, 56, 56, 56, 57, 57, 48, 57, 49, 57, 50, 57, 51, 57, 52, 57, 53, 57, 54, 57, 55, 57, 56, 57, 57])), v74]) fun v105 =>
  someK (pSlIdx 1 [t0, v101]) fun v106 =>
  effK (eStore 1 [v106, v104] H99 τ100) fun v107 H108 τ109 =>
  someK (pSlIdx 1 [t0, v102]) fun v110 =>
  effK (eStore 1 [v110, v105] H108 τ109) fun v111 H112 τ113 =>
  binK .sub t4 (.int .i64 (.ofNat 7)) fun v114 =>
  binK .sub t4 (.int .i64 (.ofNat 8)) fun v115 =>
  binK .add v72 (.int .u32 (.ofNat 1)) fun v116 =>
  someK (pStrIndex [(.str (bs [48, 48, 48, 49, 48, 50, 48, 51, 48, 52, 48, 53, 48, 54, 48, 55, 48, 56, 48, 57, 49, 48, 49, 49, 49, 50, 49, 51, 49, 52, 49, 53, 49, 54, 49, 55, 49, 56, 49, 57, 50, 48, 50, 49, 50, 50, 50, 51, 50, 52, 50, 53, 50, 54, 50, 55, 50, 56, 50, 57, 51, 48, 51, 49, 51, 50, 51, 51, 51, 52, 51, 53, 51, 54, 51, 55, 51, 56, 51, 57, 52, 48, 52, 49, 52, 50, 52, 51, 52, 52, 52, 53, 52, 54, 52, 55, 52, 56, 52, 57, 53, 48, 53, 49, 53, 50, 53, 51, 53, 52, 53, 53, 53, 54, 53, 55, 53, 56, 53, 57, 54, 48, 54, 49, 54, 50, 54, 51, 54, 52, 54, 53, 54, 54, 54, 55, 54, 56, 54, 57, 55, 48, 55, 49, 55, 50, 55, 51, 55, 52, 55, 53, 55, 54, 55, 55, 55, 56, 55, 57, 56, 48, 56, 49, 56, 50, 56, 51, 56, 52, 56, 53, 56, 54, 56, 55, 56, 56, 56, 57, 57, 48, 57, 49, 57, 50, 57, 51, 57, 52, 57, 53, 57, 54, 57, 55, 57, 56, 57, 57])), v116]) fun v117 =>
  someK (pStrIndex [(.str (bs [48, 48, 48, 49, 48, 50, 48, 51, 48, 52, 48, 53, 48, 54, 48, 55, 48, 56, 48, 57, 49, 48, 49, 49, 49, 50, 49, 51, 49, 52, 49, 53, 49, 54, 49, 55, 49, 56, 49, 57, 50, 48, 50, 49, 50, 50, 50, 51, 50, 52, 50, 53, 50, 54, 50, 55, 50, 56, 50, 57, 51, 48, 51, 49, 51, 50, 51, 51, 51, 52, 51, 53, 51, 54, 51, 55, 51, 56, 51, 57, 52, 48, 52, 49, 52, 50, 52, 51, 52, 52, 52, 53, 52, 54, 52, 55, 52, 56, 52, 57, 53, 48, 53, 49, 53, 50, 53, 51, 53, 52, 53, 53, 53, 54, 53, 55, 53, 56, 53, 57, 54, 48, 54, 49, 54, 50, 54, 51, 54, 52, 54, 53, 54, 54, 54, 55, 54, 56, 54, 57, 55, 48, 55, 49, 55, 50, 55, 51, 55, 52, 55, 53, 55, 54, 55, 55, 55, 56, 55, 57, 56, 48, 56, 49, 56, 50, 56, 51, 56, 52, 56, 53, 56, 54, 56, 55, 56, 56, 56, 57, 57, 48, 57, 49, 57, 50, 57, 51, 57, 52, 57, 53, 57, 54, 57, 55, 57, 56, 57, 57])), v72]) fun v118 =>
  someK (pSlIdx 1 [t0, v114]) fun v119 =>
  effK (eStore 1 [v119, v117] H112 τ113) fun v120 H121 τ122 =>
  someK (pSlIdx 1 [t0, v115]) fun v123 =>
  effK (eStore 1 [v123, v118] H121 τ122) fun v124 H125 τ126 =>
  binK .sub t4 (.int .i64 (.ofNat 8)) fun v127 =>
  k .normal ⟨(T.set (T.set (T.set (T.set (T.set (T.set .leaf 0 t0) 1 v64) 4 t4) 94 t4) 95 v127) 4 v127), H125⟩ τ126)
    (k (.exit 0) ⟨(T.set (T.set (T.set .leaf 0 t0) 1 t1) 4 t4), H⟩ τ)
def s176 (call : CallK) (N : Nat) (a0 a1 : V) (H : Heap) (τ : Tape) (q : KV) : Ans :=
  someK (pLen [a0]) fun v0 =>
  loopK (s176_l3 call N) N ⟨(T.set (T.set (T.set .leaf 0 a0) 1 a1) 4 v0), H⟩ τ (blockK 0 (seqK (s176_j0 call N q) (endK [] q)))
theorem s176_eq (call : CallK) (N : Nat) (a0 a1 : V) (H : Heap) (τ : Tape) (q : KV) : s176 call N a0 a1 H τ q = funK call N fn176 [a0, a1] H τ q := by kernel_rfl
def e176 (call : CallK) (N : Nat) (vs : List V) (H : Heap) (τ : Tape) (q : KV) : Ans := match vs with | [a0, a1] => s176 call N a0 a1 H τ q | _ => none
theorem e176_ok : EntOk fn176 e176 := by
  intro call N vs H τ q r h
  unfold e176 at h
  split at h
  · rw [s176_eq] at h; exact h
  · cases h
end Go.Am.AmTrydIntegrityNumbers
