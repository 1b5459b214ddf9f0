/- Texts for the law HeadersRanges: the machine, printed functions of the program, and what they are shown to be. -/
import Derived.Test.YtpigmhokjbbffaaDoorNSh0
import Derived.Test.YtpigmhokjbbffaaDoorNM3
import Derived.KernelRfl
namespace Go.Am.AmTrydHd
set_option maxRecDepth 1000000
set_option linter.unusedVariables false
/-- internal/stringslite.Index -/
def fn85 : Fun := ⟨2,
  (.seq (.reg [⟨(some 4), none, (.p .mv), [(.c (.int .i64 (.ofNat 0)))], none⟩])
  (.keep [0, 1] (.seq (.reg [⟨(some 14), none, (.p .mv), [(.t 1)], none⟩,
    ⟨(some 15), none, (.p .lenS), [(.t 14)], none⟩,
    ⟨(some 5), none, (.p .mv), [(.t 15)], none⟩])
  (.keep [0, 1, 5] (.seq (.block 0
   (.seq (.reg [⟨(some 17), none, (.p .mv), [(.t 5)], none⟩,
     ⟨(some 18), none, (.p (.bin .eql)), [(.t 17), (.c (.int .i64 (.ofNat 0)))], none⟩,
     ⟨(some 19), none, (.p .mv), [(.t 18)], none⟩,
     ⟨(some 20), some (19, false), (.p .mv), [(.t 1)], none⟩,
     ⟨(some 21), some (19, false), (.p .mv), [(.t 0)], none⟩,
     ⟨(some 22), some (19, false), (.p (.bin .eql)), [(.t 20), (.t 21)], none⟩,
     ⟨(some 23), none, (.p .pick), [(.t 19), (.c (.bool true)), (.t 22)], none⟩,
     ⟨(some 16), none, (.p .mv), [(.t 23)], none⟩])
   (.keep [0, 1, 5, 16] (.cond (.t 16)
    (.seq (.reg [⟨(some 4), none, (.p .mv), [(.c (.int .i64 (.ofNat 0)))], none⟩])
    (.keep [4] (.keep [4] .ret)))
    (.seq (.reg [⟨(some 25), none, (.p .mv), [(.t 5)], none⟩,
      ⟨(some 26), none, (.p (.bin .eql)), [(.t 25), (.c (.int .i64 (.ofNat 1)))], none⟩,
      ⟨(some 24), none, (.p .mv), [(.t 26)], none⟩])
    (.keep [0, 1, 5, 24] (.cond (.t 24)
     (.seq (.reg [⟨(some 27), none, (.p .mv), [(.t 0)], none⟩,
       ⟨(some 28), none, (.p .mv), [(.t 1)], none⟩,
       ⟨(some 29), none, (.p .strIndex), [(.t 28), (.c (.int .i64 (.ofNat 0)))], none⟩,
       ⟨(some 30), none, (.call 86), [(.t 27), (.t 29)], none⟩,
       ⟨(some 4), none, (.p .mv), [(.t 30)], none⟩])
     (.keep [4] (.keep [4] .ret)))
     (.seq (.reg [⟨(some 32), none, (.p .mv), [(.t 5)], none⟩,
       ⟨(some 33), none, (.p .mv), [(.t 0)], none⟩,
       ⟨(some 34), none, (.p .lenS), [(.t 33)], none⟩,
       ⟨(some 35), none, (.p (.bin .geq)), [(.t 32), (.t 34)], none⟩,
       ⟨(some 31), none, (.p .mv), [(.t 35)], none⟩])
     (.keep [0, 1, 5, 31] (.cond (.t 31)
      (.seq (.reg [⟨(some 4), none, (.p .mv), [(.c (.int .i64 (.negSucc 0)))], none⟩])
      (.keep [4] (.keep [4] .ret)))
      (.seq (.reg [⟨(some 37), none, (.p .mv), [(.t 5)], none⟩,
        ⟨(some 38), none, (.l (.load none)), [(.c (.ptr 0 0))], none⟩,
        ⟨(some 39), none, (.p (.bin .leq)), [(.t 37), (.t 38)], none⟩,
        ⟨(some 40), none, (.p .mv), [(.t 39)], none⟩,
        ⟨(some 41), some (40, true), (.p .mv), [(.t 0)], none⟩,
        ⟨(some 42), some (40, true), (.p .lenS), [(.t 41)], none⟩,
        ⟨(some 43), some (40, true), (.p (.bin .leq)), [(.t 42), (.c (.int .i64 (.ofNat 64)))], none⟩,
        ⟨(some 44), none, (.p .pick), [(.t 40), (.t 43), (.c (.bool false))], none⟩,
        ⟨(some 36), none, (.p .mv), [(.t 44)], none⟩])
      (.keep [0, 1, 5, 36] (.cond (.t 36)
       (.seq .bad
       (.keep [4] (.keep [4] .ret)))
       .skip)))))))))))))
  (.keep [0, 1, 5] (.seq (.reg [⟨(some 48), none, (.p .mv), [(.t 1)], none⟩,
    ⟨(some 49), none, (.p .strIndex), [(.t 48), (.c (.int .i64 (.ofNat 0)))], none⟩,
    ⟨(some 6), none, (.p .mv), [(.t 49)], none⟩])
  (.keep [0, 1, 5, 6] (.seq (.reg [⟨(some 50), none, (.p .mv), [(.t 1)], none⟩,
    ⟨(some 51), none, (.p .strIndex), [(.t 50), (.c (.int .i64 (.ofNat 1)))], none⟩,
    ⟨(some 7), none, (.p .mv), [(.t 51)], none⟩])
  (.keep [0, 1, 5, 6, 7] (.seq (.reg [⟨(some 8), none, (.p .mv), [(.c (.int .i64 (.ofNat 0)))], none⟩])
  (.keep [0, 1, 5, 6, 7, 8] (.seq (.reg [⟨(some 52), none, (.p .mv), [(.t 0)], none⟩,
    ⟨(some 53), none, (.p .lenS), [(.t 52)], none⟩,
    ⟨(some 54), none, (.p .mv), [(.t 5)], none⟩,
    ⟨(some 55), none, (.p (.bin .sub)), [(.t 53), (.t 54)], none⟩,
    ⟨(some 56), none, (.p (.bin .add)), [(.t 55), (.c (.int .i64 (.ofNat 1)))], none⟩,
    ⟨(some 9), none, (.p .mv), [(.t 56)], none⟩])
  (.keep [0, 1, 5, 6, 7, 8, 9] (.seq (.reg [⟨(some 10), none, (.p .mv), [(.c (.int .i64 (.ofNat 0)))], none⟩])
  (.keep [0, 1, 5, 6, 7, 8, 9, 10] (.seq (.block 1
   (.loop
    (.keep [0, 1, 5, 6, 7, 8, 9, 10] (.seq (.seq (.reg [⟨(some 57), none, (.p .mv), [(.t 8)], none⟩,
      ⟨(some 58), none, (.p .mv), [(.t 9)], none⟩,
      ⟨(some 59), none, (.p (.bin .lss)), [(.t 57), (.t 58)], none⟩])
    (.keep [0, 1, 5, 6, 7, 8, 9, 10, 59] (.cond (.t 59)
     .skip
     (.keep [] (.exit 1)))))
    (.keep [0, 1, 5, 6, 7, 8, 9, 10] (.block 2
     (.seq (.seq (.reg [⟨(some 60), none, (.p .mv), [(.t 0)], none⟩,
       ⟨(some 61), none, (.p .mv), [(.t 8)], none⟩,
       ⟨(some 62), none, (.p .strIndex), [(.t 60), (.t 61)], none⟩,
       ⟨(some 63), none, (.p .mv), [(.t 6)], none⟩,
       ⟨(some 64), none, (.p (.bin .neq)), [(.t 62), (.t 63)], none⟩])
     (.keep [0, 1, 5, 6, 7, 8, 9, 10, 64] (.cond (.t 64)
      (.seq (.reg [⟨(some 65), none, (.p .mv), [(.t 0)], none⟩,
        ⟨(some 66), none, (.p .mv), [(.t 8)], none⟩,
        ⟨(some 67), none, (.p (.bin .add)), [(.t 66), (.c (.int .i64 (.ofNat 1)))], none⟩,
        ⟨(some 68), none, (.p .mv), [(.t 9)], none⟩,
        ⟨(some 69), none, (.p (.strSlice true true)), [(.t 65), (.t 67), (.t 68)], none⟩,
        ⟨(some 70), none, (.p .mv), [(.t 6)], none⟩,
        ⟨(some 71), none, (.call 86), [(.t 69), (.t 70)], none⟩,
        ⟨(some 11), none, (.p .mv), [(.t 71)], none⟩])
      (.keep [0, 1, 5, 6, 7, 8, 9, 10, 11] (.seq (.seq (.reg [⟨(some 72), none, (.p .mv), [(.t 11)], none⟩,
        ⟨(some 73), none, (.p (.bin .lss)), [(.t 72), (.c (.int .i64 (.ofNat 0)))], none⟩])
      (.keep [0, 1, 5, 6, 7, 8, 9, 10, 11, 73] (.cond (.t 73)
       (.seq (.reg [⟨(some 4), none, (.p .mv), [(.c (.int .i64 (.negSucc 0)))], none⟩])
       (.keep [4] (.keep [4] .ret)))
       .skip)))
      (.keep [0, 1, 5, 6, 7, 8, 9, 10, 11] (.reg [⟨(some 74), none, (.p .mv), [(.t 8)], none⟩,
        ⟨(some 75), none, (.p .mv), [(.t 11)], none⟩,
        ⟨(some 76), none, (.p (.bin .add)), [(.t 75), (.c (.int .i64 (.ofNat 1)))], none⟩,
        ⟨(some 77), none, (.p (.bin .add)), [(.t 74), (.t 76)], none⟩,
        ⟨(some 8), none, (.p .mv), [(.t 77)], none⟩])))))
      .skip)))
     (.keep [0, 1, 5, 6, 7, 8, 9, 10] (.seq (.seq (.reg [⟨(some 78), none, (.p .mv), [(.t 0)], none⟩,
       ⟨(some 79), none, (.p .mv), [(.t 8)], none⟩,
       ⟨(some 80), none, (.p (.bin .add)), [(.t 79), (.c (.int .i64 (.ofNat 1)))], none⟩,
       ⟨(some 81), none, (.p .strIndex), [(.t 78), (.t 80)], none⟩,
       ⟨(some 82), none, (.p .mv), [(.t 7)], none⟩,
       ⟨(some 83), none, (.p (.bin .eql)), [(.t 81), (.t 82)], none⟩,
       ⟨(some 84), none, (.p .mv), [(.t 83)], none⟩,
       ⟨(some 85), some (84, true), (.p .mv), [(.t 0)], none⟩,
       ⟨(some 86), some (84, true), (.p .mv), [(.t 8)], none⟩,
       ⟨(some 87), some (84, true), (.p .mv), [(.t 8)], none⟩,
       ⟨(some 88), some (84, true), (.p .mv), [(.t 5)], none⟩,
       ⟨(some 89), some (84, true), (.p (.bin .add)), [(.t 87), (.t 88)], none⟩,
       ⟨(some 90), some (84, true), (.p (.strSlice true true)), [(.t 85), (.t 86), (.t 89)], none⟩,
       ⟨(some 91), some (84, true), (.p .mv), [(.t 1)], none⟩,
       ⟨(some 92), some (84, true), (.p (.bin .eql)), [(.t 90), (.t 91)], none⟩,
       ⟨(some 93), none, (.p .pick), [(.t 84), (.t 92), (.c (.bool false))], none⟩])
     (.keep [0, 1, 5, 6, 7, 8, 9, 10, 93] (.cond (.t 93)
      (.seq (.reg [⟨(some 94), none, (.p .mv), [(.t 8)], none⟩,
        ⟨(some 4), none, (.p .mv), [(.t 94)], none⟩])
      (.keep [4] (.keep [4] .ret)))
      .skip)))
     (.keep [0, 1, 5, 6, 7, 8, 9, 10] (.seq (.reg [⟨(some 95), none, (.p .mv), [(.t 8)], none⟩,
       ⟨(some 96), none, (.p (.bin .add)), [(.t 95), (.c (.int .i64 (.ofNat 1)))], none⟩,
       ⟨(some 8), none, (.p .mv), [(.t 96)], none⟩])
     (.keep [0, 1, 5, 6, 7, 8, 9, 10] (.seq (.reg [⟨(some 97), none, (.p .mv), [(.t 10)], none⟩,
       ⟨(some 98), none, (.p (.bin .add)), [(.t 97), (.c (.int .i64 (.ofNat 1)))], none⟩,
       ⟨(some 10), none, (.p .mv), [(.t 98)], none⟩])
     (.keep [0, 1, 5, 6, 7, 8, 9, 10] (.seq (.reg [⟨(some 99), none, (.p .mv), [(.t 5)], none⟩,
       ⟨(some 100), none, (.l (.load none)), [(.c (.ptr 0 0))], none⟩,
       ⟨(some 101), none, (.p (.bin .leq)), [(.t 99), (.t 100)], none⟩,
       ⟨(some 102), none, (.p .mv), [(.t 101)], none⟩,
       ⟨(some 103), some (102, true), (.p .mv), [(.t 10)], none⟩,
       ⟨(some 104), some (102, true), (.p .mv), [(.t 8)], none⟩,
       ⟨(some 105), some (102, true), (.call 108), [(.t 104)], none⟩,
       ⟨(some 106), some (102, true), (.p (.bin .gtr)), [(.t 103), (.t 105)], none⟩,
       ⟨(some 107), none, (.p .pick), [(.t 102), (.t 106), (.c (.bool false))], none⟩])
     (.keep [0, 1, 5, 6, 7, 8, 9, 10, 107] (.cond (.t 107)
      (.seq .bad
      (.keep [8, 12] (.seq (.seq (.reg [⟨(some 113), none, (.p .mv), [(.t 12)], none⟩,
        ⟨(some 114), none, (.p (.bin .geq)), [(.t 113), (.c (.int .i64 (.ofNat 0)))], none⟩])
      (.keep [8, 12, 114] (.cond (.t 114)
       (.seq (.reg [⟨(some 115), none, (.p .mv), [(.t 12)], none⟩,
         ⟨(some 116), none, (.p .mv), [(.t 8)], none⟩,
         ⟨(some 117), none, (.p (.bin .add)), [(.t 115), (.t 116)], none⟩,
         ⟨(some 4), none, (.p .mv), [(.t 117)], none⟩])
       (.keep [4] (.keep [4] .ret)))
       .skip)))
      (.keep [] (.seq (.reg [⟨(some 4), none, (.p .mv), [(.c (.int .i64 (.negSucc 0)))], none⟩])
      (.keep [4] (.keep [4] .ret)))))))
      (.seq (.reg [⟨(some 118), none, (.p .mv), [(.t 5)], none⟩,
        ⟨(some 119), none, (.l (.load none)), [(.c (.ptr 0 0))], none⟩,
        ⟨(some 120), none, (.p (.bin .gtr)), [(.t 118), (.t 119)], none⟩,
        ⟨(some 121), none, (.p .mv), [(.t 120)], none⟩,
        ⟨(some 122), some (121, true), (.p .mv), [(.t 10)], none⟩,
        ⟨(some 123), some (121, true), (.p .mv), [(.t 8)], none⟩,
        ⟨(some 124), some (121, true), (.p (.bin .shr)), [(.t 123), (.c (.int .u64 (.ofNat 4)))], none⟩,
        ⟨(some 125), some (121, true), (.p (.bin .add)), [(.c (.int .i64 (.ofNat 4))), (.t 124)], none⟩,
        ⟨(some 126), some (121, true), (.p (.bin .geq)), [(.t 122), (.t 125)], none⟩,
        ⟨(some 127), none, (.p .pick), [(.t 121), (.t 126), (.c (.bool false))], none⟩,
        ⟨(some 128), none, (.p .mv), [(.t 127)], none⟩,
        ⟨(some 129), some (128, true), (.p .mv), [(.t 8)], none⟩,
        ⟨(some 130), some (128, true), (.p .mv), [(.t 9)], none⟩,
        ⟨(some 131), some (128, true), (.p (.bin .lss)), [(.t 129), (.t 130)], none⟩,
        ⟨(some 132), none, (.p .pick), [(.t 128), (.t 131), (.c (.bool false))], none⟩])
      (.keep [0, 1, 5, 6, 7, 8, 9, 10, 132] (.cond (.t 132)
       (.seq (.reg [⟨(some 133), none, (.p .mv), [(.t 0)], none⟩,
         ⟨(some 134), none, (.p .mv), [(.t 8)], none⟩,
         ⟨(some 135), none, (.p (.strSlice true false)), [(.t 133), (.t 134)], none⟩,
         ⟨(some 136), none, (.p .mv), [(.t 1)], none⟩,
         ⟨(some 137), none, (.call 109), [(.t 135), (.t 136)], none⟩,
         ⟨(some 13), none, (.p .mv), [(.t 137)], none⟩])
       (.keep [8, 13] (.seq (.seq (.reg [⟨(some 138), none, (.p .mv), [(.t 13)], none⟩,
         ⟨(some 139), none, (.p (.bin .lss)), [(.t 138), (.c (.int .i64 (.ofNat 0)))], none⟩])
       (.keep [8, 13, 139] (.cond (.t 139)
        (.seq (.reg [⟨(some 4), none, (.p .mv), [(.c (.int .i64 (.negSucc 0)))], none⟩])
        (.keep [4] (.keep [4] .ret)))
        .skip)))
       (.keep [8, 13] (.seq (.reg [⟨(some 140), none, (.p .mv), [(.t 8)], none⟩,
         ⟨(some 141), none, (.p .mv), [(.t 13)], none⟩,
         ⟨(some 142), none, (.p (.bin .add)), [(.t 140), (.t 141)], none⟩,
         ⟨(some 4), none, (.p .mv), [(.t 142)], none⟩])
       (.keep [4] (.keep [4] .ret)))))))
       .skip))))))))))))))))))))
  (.keep [] (.seq (.reg [⟨(some 4), none, (.p .mv), [(.c (.int .i64 (.negSucc 0)))], none⟩])
  (.keep [4] (.keep [4] .ret))))))))))))))))))))),
  [(.t 4)]⟩
def s85_j0 (call : CallK) (N : Nat) (q : KV) (st : St) (τ : Tape) : Ans :=
  match st with
  | ⟨fr, H⟩ =>
  q (.int .i64 (.negSucc 0)) H τ
def s85_j2 (call : CallK) (N : Nat) (k : KC) (st : St) (τ : Tape) : Ans :=
  match st with
  | ⟨fr, H⟩ =>
  getK fr 0 fun t0 =>
  getK fr 1 fun t1 =>
  getK fr 5 fun t5 =>
  getK fr 6 fun t6 =>
  getK fr 7 fun t7 =>
  getK fr 8 fun t8 =>
  getK fr 9 fun t9 =>
  getK fr 10 fun t10 =>
  binK .add t8 (.int .i64 (.ofNat 1)) fun v39 =>
  someK (pStrIndex [t0, v39]) fun v40 =>
  binK .eql v40 t7 fun v41 =>
  gK v41 true (fun q' => q' t0 H τ) H τ fun v42 H43 τ44 =>
  gK v41 true (fun q' => q' t8 H43 τ44) H43 τ44 fun v45 H46 τ47 =>
  gK v41 true (fun q' => q' t8 H46 τ47) H46 τ47 fun v48 H49 τ50 =>
  gK v41 true (fun q' => q' t5 H49 τ50) H49 τ50 fun v51 H52 τ53 =>
  gK v41 true (fun q' => binK .add v48 v51 fun v => q' v H52 τ53) H52 τ53 fun v54 H55 τ56 =>
  gK v41 true (fun q' => someK (pStrSlice true true [v42, v45, v54]) fun v => q' v H55 τ56) H55 τ56 fun v57 H58 τ59 =>
  gK v41 true (fun q' => q' t1 H58 τ59) H58 τ59 fun v60 H61 τ62 =>
  gK v41 true (fun q' => binK .eql v57 v60 fun v => q' v H61 τ62) H61 τ62 fun v63 H64 τ65 =>
  someK (pPick [v41, v63, (.bool false)]) fun v66 =>
  condK v66
    (k .ret ⟨(T.set .leaf 4 t8), H64⟩ τ65)
    (binK .add t8 (.int .i64 (.ofNat 1)) fun v67 =>
  binK .add t10 (.int .i64 (.ofNat 1)) fun v68 =>
  someK (lLoad1 [(.ptr 0 0)] H64) fun v69 =>
  binK .leq t5 v69 fun v70 =>
  gK v70 true (fun q' => q' v68 H64 τ65) H64 τ65 fun v71 H72 τ73 =>
  gK v70 true (fun q' => q' v67 H72 τ73) H72 τ73 fun v74 H75 τ76 =>
  gK v70 true (fun q' => call 108 [v74] H75 τ76 q') H75 τ76 fun v77 H78 τ79 =>
  gK v70 true (fun q' => binK .gtr v71 v77 fun v => q' v H78 τ79) H78 τ79 fun v80 H81 τ82 =>
  someK (pPick [v70, v80, (.bool false)]) fun v83 =>
  condK v83
    (none)
    (someK (lLoad1 [(.ptr 0 0)] H81) fun v84 =>
  binK .gtr t5 v84 fun v85 =>
  gK v85 true (fun q' => q' v68 H81 τ82) H81 τ82 fun v86 H87 τ88 =>
  gK v85 true (fun q' => q' v67 H87 τ88) H87 τ88 fun v89 H90 τ91 =>
  gK v85 true (fun q' => binK .shr v89 (.int .u64 (.ofNat 4)) fun v => q' v H90 τ91) H90 τ91 fun v92 H93 τ94 =>
  gK v85 true (fun q' => binK .add (.int .i64 (.ofNat 4)) v92 fun v => q' v H93 τ94) H93 τ94 fun v95 H96 τ97 =>
  gK v85 true (fun q' => binK .geq v86 v95 fun v => q' v H96 τ97) H96 τ97 fun v98 H99 τ100 =>
  someK (pPick [v85, v98, (.bool false)]) fun v101 =>
  gK v101 true (fun q' => q' v67 H99 τ100) H99 τ100 fun v102 H103 τ104 =>
  gK v101 true (fun q' => q' t9 H103 τ104) H103 τ104 fun v105 H106 τ107 =>
  gK v101 true (fun q' => binK .lss v102 v105 fun v => q' v H106 τ107) H106 τ107 fun v108 H109 τ110 =>
  someK (pPick [v101, v108, (.bool false)]) fun v111 =>
  condK v111
    (someK (pStrSlice true false [t0, v67]) fun v112 =>
  call 109 [v112, t1] H109 τ110 fun v113 H114 τ115 =>
  binK .lss v113 (.int .i64 (.ofNat 0)) fun v116 =>
  condK v116
    (k .ret ⟨(T.set .leaf 4 (.int .i64 (.negSucc 0))), H114⟩ τ115)
    (binK .add v67 v113 fun v117 =>
  k .ret ⟨(T.set .leaf 4 v117), H114⟩ τ115))
    (k .normal ⟨(T.set (T.set (T.set (T.set (T.set (T.set (T.set (T.set (T.set .leaf 0 t0) 1 t1) 5 t5) 6 t6) 7 t7) 8 v67) 9 t9) 10 v68) 132 v111), H109⟩ τ110)))
def s85_l1 (call : CallK) (N : Nat) (st : St) (τ : Tape) (k : KC) : Ans :=
  match st with
  | ⟨fr, H⟩ =>
  getK fr 0 fun t0 =>
  getK fr 1 fun t1 =>
  getK fr 5 fun t5 =>
  getK fr 6 fun t6 =>
  getK fr 7 fun t7 =>
  getK fr 8 fun t8 =>
  getK fr 9 fun t9 =>
  getK fr 10 fun t10 =>
  binK .lss t8 t9 fun v36 =>
  condK v36
    (someK (pStrIndex [t0, t8]) fun v37 =>
  binK .neq v37 t6 fun v38 =>
  condK v38
    (binK .add t8 (.int .i64 (.ofNat 1)) fun v118 =>
  someK (pStrSlice true true [t0, v118, t9]) fun v119 =>
  call 86 [v119, t6] H τ fun v120 H121 τ122 =>
  binK .lss v120 (.int .i64 (.ofNat 0)) fun v123 =>
  condK v123
    (k .ret ⟨(T.set .leaf 4 (.int .i64 (.negSucc 0))), H121⟩ τ122)
    (binK .add v120 (.int .i64 (.ofNat 1)) fun v124 =>
  binK .add t8 v124 fun v125 =>
  s85_j2 call N k ⟨(T.set (T.set (T.set (T.set (T.set (T.set (T.set (T.set (T.set (T.set (T.set (T.set (T.set (T.set .leaf 0 t0) 1 t1) 5 t5) 6 t6) 7 t7) 8 t8) 9 t9) 10 t10) 11 v120) 74 t8) 75 v120) 76 v124) 77 v125) 8 v125), H121⟩ τ122))
    (s85_j2 call N k ⟨(T.set (T.set (T.set (T.set (T.set (T.set (T.set (T.set (T.set .leaf 0 t0) 1 t1) 5 t5) 6 t6) 7 t7) 8 t8) 9 t9) 10 t10) 64 v38), H⟩ τ))
    (k (.exit 1) ⟨.leaf, H⟩ τ)
def s85 (call : CallK) (N : Nat) (a0 a1 : V) (H : Heap) (τ : Tape) (q : KV) : Ans :=
  someK (pLenS [a1]) fun v0 =>
  binK .eql v0 (.int .i64 (.ofNat 0)) fun v1 =>
  gK v1 false (fun q' => q' a1 H τ) H τ fun v2 H3 τ4 =>
  gK v1 false (fun q' => q' a0 H3 τ4) H3 τ4 fun v5 H6 τ7 =>
  gK v1 false (fun q' => binK .eql v2 v5 fun v => q' v H6 τ7) H6 τ7 fun v8 H9 τ10 =>
  someK (pPick [v1, (.bool true), v8]) fun v11 =>
  condK v11
    (q (.int .i64 (.ofNat 0)) H9 τ10)
    (binK .eql v0 (.int .i64 (.ofNat 1)) fun v12 =>
  condK v12
    (someK (pStrIndex [a1, (.int .i64 (.ofNat 0))]) fun v13 =>
  call 86 [a0, v13] H9 τ10 fun v14 H15 τ16 =>
  q v14 H15 τ16)
    (someK (pLenS [a0]) fun v17 =>
  binK .geq v0 v17 fun v18 =>
  condK v18
    (q (.int .i64 (.negSucc 0)) H9 τ10)
    (someK (lLoad1 [(.ptr 0 0)] H9) fun v19 =>
  binK .leq v0 v19 fun v20 =>
  gK v20 true (fun q' => q' a0 H9 τ10) H9 τ10 fun v21 H22 τ23 =>
  gK v20 true (fun q' => someK (pLenS [v21]) fun v => q' v H22 τ23) H22 τ23 fun v24 H25 τ26 =>
  gK v20 true (fun q' => binK .leq v24 (.int .i64 (.ofNat 64)) fun v => q' v H25 τ26) H25 τ26 fun v27 H28 τ29 =>
  someK (pPick [v20, v27, (.bool false)]) fun v30 =>
  condK v30
    (none)
    (someK (pStrIndex [a1, (.int .i64 (.ofNat 0))]) fun v31 =>
  someK (pStrIndex [a1, (.int .i64 (.ofNat 1))]) fun v32 =>
  someK (pLenS [a0]) fun v33 =>
  binK .sub v33 v0 fun v34 =>
  binK .add v34 (.int .i64 (.ofNat 1)) fun v35 =>
  loopK (s85_l1 call N) N ⟨(T.set (T.set (T.set (T.set (T.set (T.set (T.set (T.set .leaf 0 a0) 1 a1) 5 v0) 6 v31) 7 v32) 8 (.int .i64 (.ofNat 0))) 9 v35) 10 (.int .i64 (.ofNat 0))), H28⟩ τ29 (blockK 1 (seqK (s85_j0 call N q) (endK [(.t 4)] q)))))))
theorem s85_eq (call : CallK) (N : Nat) (a0 a1 : V) (H : Heap) (τ : Tape) (q : KV) : s85 call N a0 a1 H τ q = funK call N fn85 [a0, a1] H τ q := by kernel_rfl
def e85 (call : CallK) (N : Nat) (vs : List V) (H : Heap) (τ : Tape) (q : KV) : Ans := match vs with | [a0, a1] => s85 call N a0 a1 H τ q | _ => none
theorem e85_ok : EntOk fn85 e85 := by
  intro call N vs H τ q r h
  unfold e85 at h
  split at h
  · rw [s85_eq] at h; exact h
  · cases h
theorem e85_nat : EntNat e85 := by
  intro c hn N vs H τ q
  unfold e85
  split
  · rw [s85_eq, s85_eq]; exact funK_ent hn _ _ _ _ _ _
  · rfl
/-- strings.IndexRune -/
def fn92 : Fun := ⟨2,
  (.seq (.reg [⟨(some 4), none, (.p .mv), [(.c (.int .i64 (.ofNat 0)))], none⟩])
  (.keep [0, 1] (.block 0
   (.seq (.reg [⟨(some 161), none, (.p .mv), [(.t 1)], none⟩,
     ⟨(some 162), none, (.p (.bin .leq)), [(.c (.int .i32 (.ofNat 0))), (.t 161)], none⟩,
     ⟨(some 163), none, (.p .mv), [(.t 162)], none⟩,
     ⟨(some 164), some (163, true), (.p .mv), [(.t 1)], none⟩,
     ⟨(some 165), some (163, true), (.p (.bin .lss)), [(.t 164), (.c (.int .i32 (.ofNat 128)))], none⟩,
     ⟨(some 166), none, (.p .pick), [(.t 163), (.t 165), (.c (.bool false))], none⟩,
     ⟨(some 160), none, (.p .mv), [(.t 166)], none⟩])
   (.keep [0, 1, 160] (.cond (.t 160)
    (.seq (.reg [⟨(some 167), none, (.p .mv), [(.t 0)], none⟩,
      ⟨(some 168), none, (.p .mv), [(.t 1)], none⟩,
      ⟨(some 169), none, (.p (.toInt .u8)), [(.t 168)], none⟩,
      ⟨(some 170), none, (.call 70), [(.t 167), (.t 169)], none⟩,
      ⟨(some 4), none, (.p .mv), [(.t 170)], none⟩])
    (.keep [4] (.keep [4] .ret)))
    (.seq (.reg [⟨(some 172), none, (.p .mv), [(.t 1)], none⟩,
      ⟨(some 173), none, (.p (.bin .eql)), [(.t 172), (.c (.int .i32 (.ofNat 65533)))], none⟩,
      ⟨(some 171), none, (.p .mv), [(.t 173)], none⟩])
    (.keep [0, 1, 171] (.cond (.t 171)
     (.seq (.seq (.reg [⟨(some 174), none, (.p .mv), [(.t 0)], none⟩,
       ⟨(some 175), none, (.e .range), [(.t 174)], none⟩])
     (.keep [175] (.block 9
      (.loop
       (.keep [175] (.seq (.reg [⟨(some 176), none, (.e .next), [(.t 175)], none⟩,
         ⟨(some 177), none, (.p (.extract 0)), [(.t 176)], none⟩])
       (.keep [175, 176, 177] (.seq (.cond (.t 177)
        .skip
        (.keep [] (.exit 9)))
       (.keep [175, 176] (.block 10
        (.seq (.reg [⟨(some 178), none, (.p (.extract 1)), [(.t 176)], none⟩,
          ⟨(some 179), none, (.p (.extract 2)), [(.t 176)], none⟩,
          ⟨(some 5), none, (.p .mv), [(.t 178)], none⟩,
          ⟨(some 6), none, (.p .mv), [(.t 179)], none⟩])
        (.keep [5, 6, 175] (.seq (.reg [⟨(some 180), none, (.p .mv), [(.t 6)], none⟩,
          ⟨(some 181), none, (.p (.bin .eql)), [(.t 180), (.c (.int .i32 (.ofNat 65533)))], none⟩])
        (.keep [5, 175, 181] (.cond (.t 181)
         (.seq (.reg [⟨(some 182), none, (.p .mv), [(.t 5)], none⟩,
           ⟨(some 4), none, (.p .mv), [(.t 182)], none⟩])
         (.keep [4] (.keep [4] .ret)))
         .skip)))))))))))))))
     (.keep [] (.seq (.reg [⟨(some 4), none, (.p .mv), [(.c (.int .i64 (.negSucc 0)))], none⟩])
     (.keep [4] (.keep [4] .ret)))))
     (.seq (.reg [⟨(some 184), none, (.p .mv), [(.t 1)], none⟩,
       ⟨(some 185), none, (.call 114), [(.t 184)], none⟩,
       ⟨(some 186), none, (.p (.un .not)), [(.t 185)], none⟩,
       ⟨(some 183), none, (.p .mv), [(.t 186)], none⟩])
     (.keep [0, 1, 183] (.cond (.t 183)
      (.seq (.reg [⟨(some 4), none, (.p .mv), [(.c (.int .i64 (.negSucc 0)))], none⟩])
      (.keep [4] (.keep [4] .ret)))
      (.scope (.seq (.reg [⟨(some 17), none, (.p .mv), [(.t 1)], none⟩,
        ⟨(some 18), none, (.p .runeStr), [(.t 17)], none⟩,
        ⟨(some 7), none, (.p .mv), [(.t 18)], none⟩])
      (.keep [0, 7] (.seq (.reg [⟨(some 19), none, (.p .mv), [(.t 7)], none⟩,
        ⟨(some 20), none, (.p .lenS), [(.t 19)], none⟩,
        ⟨(some 21), none, (.p (.bin .sub)), [(.t 20), (.c (.int .i64 (.ofNat 1)))], none⟩,
        ⟨(some 8), none, (.p .mv), [(.t 21)], none⟩])
      (.keep [0, 7, 8] (.seq (.reg [⟨(some 22), none, (.p .mv), [(.t 8)], none⟩,
        ⟨(some 9), none, (.p .mv), [(.t 22)], none⟩])
      (.keep [0, 7, 8, 9] (.seq (.reg [⟨(some 10), none, (.p .mv), [(.c (.int .i64 (.ofNat 0)))], none⟩])
      (.keep [0, 7, 8, 9] (.seq (.block 1
       (.loop
        (.keep [0, 7, 8, 9] (.seq (.seq (.reg [⟨(some 23), none, (.p .mv), [(.t 9)], none⟩,
          ⟨(some 24), none, (.p .mv), [(.t 0)], none⟩,
          ⟨(some 25), none, (.p .lenS), [(.t 24)], none⟩,
          ⟨(some 26), none, (.p (.bin .lss)), [(.t 23), (.t 25)], none⟩])
        (.keep [0, 7, 8, 9, 26] (.cond (.t 26)
         .skip
         (.keep [] (.exit 1)))))
        (.keep [0, 7, 8, 9] (.block 2
         (.scope (.seq (.seq (.draw [⟨(some 27), none, (.p .mv), [(.t 0)], none⟩,
           ⟨(some 28), none, (.p .mv), [(.t 9)], none⟩,
           ⟨(some 29), none, (.p .strIndex), [(.t 27), (.t 28)], none⟩,
           ⟨(some 30), none, (.p .mv), [(.t 7)], none⟩,
           ⟨(some 31), none, (.p .mv), [(.t 8)], none⟩,
           ⟨(some 32), none, (.p .strIndex), [(.t 30), (.t 31)], none⟩,
           ⟨(some 33), none, (.p (.bin .neq)), [(.t 29), (.t 32)], none⟩])
         (.keep [0, 7, 8, 9, 33] (.cond (.t 33)
          (.seq (.draw [⟨(some 34), none, (.p .mv), [(.t 0)], none⟩,
            ⟨(some 35), none, (.p .mv), [(.t 9)], none⟩,
            ⟨(some 36), none, (.p (.bin .add)), [(.t 35), (.c (.int .i64 (.ofNat 1)))], none⟩,
            ⟨(some 37), none, (.p (.strSlice true false)), [(.t 34), (.t 36)], none⟩,
            ⟨(some 38), none, (.p .mv), [(.t 7)], none⟩,
            ⟨(some 39), none, (.p .mv), [(.t 8)], none⟩,
            ⟨(some 40), none, (.p .strIndex), [(.t 38), (.t 39)], none⟩,
            ⟨(some 41), none, (.call 70), [(.t 37), (.t 40)], none⟩,
            ⟨(some 11), none, (.p .mv), [(.t 41)], none⟩])
          (.keep [0, 7, 8, 9, 11] (.seq (.seq (.reg [⟨(some 42), none, (.p .mv), [(.t 11)], none⟩,
            ⟨(some 43), none, (.p (.bin .lss)), [(.t 42), (.c (.int .i64 (.ofNat 0)))], none⟩])
          (.keep [0, 7, 8, 9, 11, 43] (.cond (.t 43)
           (.seq (.reg [⟨(some 4), none, (.p .mv), [(.c (.int .i64 (.negSucc 0)))], none⟩])
           (.keep [4] (.keep [4] .ret)))
           .skip)))
          (.keep [0, 7, 8, 9, 11] (.reg [⟨(some 44), none, (.p .mv), [(.t 9)], none⟩,
            ⟨(some 45), none, (.p .mv), [(.t 11)], none⟩,
            ⟨(some 46), none, (.p (.bin .add)), [(.t 45), (.c (.int .i64 (.ofNat 1)))], none⟩,
            ⟨(some 47), none, (.p (.bin .add)), [(.t 44), (.t 46)], none⟩,
            ⟨(some 9), none, (.p .mv), [(.t 47)], none⟩])))))
          .skip)))
         (.keep [0, 7, 8, 9] (.seq (.seq (.reg [⟨(some 12), none, (.p .mv), [(.c (.int .i64 (.ofNat 1)))], none⟩])
         (.keep [0, 7, 8, 9, 12] (.block 3
          (.loop
           (.keep [0, 7, 8, 9, 12] (.seq (.seq (.reg [⟨(some 48), none, (.p .mv), [(.t 12)], none⟩,
             ⟨(some 49), none, (.p .mv), [(.t 7)], none⟩,
             ⟨(some 50), none, (.p .lenS), [(.t 49)], none⟩,
             ⟨(some 51), none, (.p (.bin .lss)), [(.t 48), (.t 50)], none⟩])
           (.keep [0, 7, 8, 9, 12, 51] (.cond (.t 51)
            .skip
            (.keep [8, 9] (.exit 3)))))
           (.keep [0, 7, 8, 9, 12] (.seq (.block 4
            (.seq (.draw [⟨(some 54), none, (.p .mv), [(.t 0)], none⟩,
              ⟨(some 55), none, (.p .mv), [(.t 9)], none⟩,
              ⟨(some 56), none, (.p .mv), [(.t 12)], none⟩,
              ⟨(some 57), none, (.p (.bin .sub)), [(.t 55), (.t 56)], none⟩,
              ⟨(some 58), none, (.p .strIndex), [(.t 54), (.t 57)], none⟩,
              ⟨(some 59), none, (.p .mv), [(.t 7)], none⟩,
              ⟨(some 60), none, (.p .mv), [(.t 8)], none⟩,
              ⟨(some 61), none, (.p .mv), [(.t 12)], none⟩,
              ⟨(some 62), none, (.p (.bin .sub)), [(.t 60), (.t 61)], none⟩,
              ⟨(some 63), none, (.p .strIndex), [(.t 59), (.t 62)], none⟩,
              ⟨(some 64), none, (.p (.bin .neq)), [(.t 58), (.t 63)], none⟩])
            (.keep [0, 7, 8, 9, 12, 64] (.cond (.t 64)
             .bad
             .skip))))
           (.keep [0, 7, 8, 9, 12] (.reg [⟨(some 52), none, (.p .mv), [(.t 12)], none⟩,
             ⟨(some 53), none, (.p (.bin .add)), [(.t 52), (.c (.int .i64 (.ofNat 1)))], none⟩,
             ⟨(some 12), none, (.p .mv), [(.t 53)], none⟩]))))))))))
         (.keep [8, 9] (.seq (.seq (.reg [⟨(some 65), none, (.p .mv), [(.t 9)], none⟩,
           ⟨(some 66), none, (.p .mv), [(.t 8)], none⟩,
           ⟨(some 67), none, (.p (.bin .sub)), [(.t 65), (.t 66)], none⟩,
           ⟨(some 4), none, (.p .mv), [(.t 67)], none⟩])
         (.keep [4] (.keep [4] .ret)))
         (.keep [0, 7, 8, 9, 10] (.seq .skip
         (.keep [0, 7, 8, 9, 10] (.seq (.reg [⟨(some 68), none, (.p .mv), [(.t 10)], none⟩,
           ⟨(some 69), none, (.p (.bin .add)), [(.t 68), (.c (.int .i64 (.ofNat 1)))], none⟩,
           ⟨(some 10), none, (.p .mv), [(.t 69)], none⟩])
         (.keep [0, 7, 8, 9, 10] (.seq (.reg [⟨(some 70), none, (.p .mv), [(.t 9)], none⟩,
           ⟨(some 71), none, (.p (.bin .add)), [(.t 70), (.c (.int .i64 (.ofNat 1)))], none⟩,
           ⟨(some 9), none, (.p .mv), [(.t 71)], none⟩])
         (.keep [0, 7, 8, 9, 10] (.seq (.reg [⟨(some 72), none, (.p .mv), [(.c (.bool true))], none⟩,
           ⟨(some 73), some (72, true), (.p .mv), [(.t 10)], none⟩,
           ⟨(some 74), some (72, true), (.p .mv), [(.t 9)], none⟩,
           ⟨(some 75), some (72, true), (.call 108), [(.t 74)], none⟩,
           ⟨(some 76), some (72, true), (.p (.bin .gtr)), [(.t 73), (.t 75)], none⟩,
           ⟨(some 77), none, (.p .pick), [(.t 72), (.t 76), (.c (.bool false))], none⟩,
           ⟨(some 78), none, (.p .mv), [(.t 77)], none⟩,
           ⟨(some 79), some (78, true), (.p .mv), [(.t 9)], none⟩,
           ⟨(some 80), some (78, true), (.p .mv), [(.t 0)], none⟩,
           ⟨(some 81), some (78, true), (.p .lenS), [(.t 80)], none⟩,
           ⟨(some 82), some (78, true), (.p (.bin .lss)), [(.t 79), (.t 81)], none⟩,
           ⟨(some 83), none, (.p .pick), [(.t 78), (.t 82), (.c (.bool false))], none⟩,
           ⟨(some 84), none, (.p .mv), [(.t 83)], none⟩,
           ⟨(some 85), some (84, false), (.p .mv), [(.c (.bool false))], none⟩,
           ⟨(some 86), some (85, true), (.p .mv), [(.t 10)], none⟩,
           ⟨(some 87), some (85, true), (.p .mv), [(.t 9)], none⟩,
           ⟨(some 88), some (85, true), (.p (.bin .shr)), [(.t 87), (.c (.int .u64 (.ofNat 4)))], none⟩,
           ⟨(some 89), some (85, true), (.p (.bin .add)), [(.c (.int .i64 (.ofNat 4))), (.t 88)], none⟩,
           ⟨(some 90), some (85, true), (.p (.bin .geq)), [(.t 86), (.t 89)], none⟩,
           ⟨(some 91), some (84, false), (.p .pick), [(.t 85), (.t 90), (.c (.bool false))], none⟩,
           ⟨(some 92), some (84, false), (.p .mv), [(.t 91)], none⟩,
           ⟨(some 93), some (92, true), (.p .mv), [(.t 9)], none⟩,
           ⟨(some 94), some (92, true), (.p .mv), [(.t 0)], none⟩,
           ⟨(some 95), some (92, true), (.p .lenS), [(.t 94)], none⟩,
           ⟨(some 96), some (92, true), (.p (.bin .lss)), [(.t 93), (.t 95)], none⟩,
           ⟨(some 97), some (84, false), (.p .pick), [(.t 92), (.t 96), (.c (.bool false))], none⟩,
           ⟨(some 98), none, (.p .pick), [(.t 84), (.c (.bool true)), (.t 97)], none⟩])
         (.keep [0, 7, 8, 9, 98] (.cond (.t 98)
          .bad
          .skip))))))))))))))))))))))
      (.keep [] (.seq (.seq (.reg [⟨(some 4), none, (.p .mv), [(.c (.int .i64 (.negSucc 0)))], none⟩])
      (.keep [4] (.keep [4] .ret)))
      (.keep [0, 7, 8, 9] (.seq .skip
      (.keep [0, 7, 8, 9] (.seq (.cond (.c (.bool true))
       (.seq .bad
       (.keep [8, 9, 13] (.seq (.reg [⟨(some 107), none, (.p .mv), [(.t 13)], none⟩,
         ⟨(some 108), none, (.p (.bin .geq)), [(.t 107), (.c (.int .i64 (.ofNat 0)))], none⟩])
       (.keep [8, 9, 13, 108] (.cond (.t 108)
        (.seq (.reg [⟨(some 109), none, (.p .mv), [(.t 9)], none⟩,
          ⟨(some 110), none, (.p .mv), [(.t 13)], none⟩,
          ⟨(some 111), none, (.p (.bin .add)), [(.t 109), (.t 110)], none⟩,
          ⟨(some 112), none, (.p .mv), [(.t 8)], none⟩,
          ⟨(some 113), none, (.p (.bin .sub)), [(.t 111), (.t 112)], none⟩,
          ⟨(some 4), none, (.p .mv), [(.t 113)], none⟩])
        (.keep [4] (.keep [4] .ret)))
        .skip)))))
       (.scope (.seq (.reg [⟨(some 114), none, (.p .mv), [(.t 7)], none⟩,
         ⟨(some 115), none, (.p .mv), [(.t 8)], none⟩,
         ⟨(some 116), none, (.p .strIndex), [(.t 114), (.t 115)], none⟩,
         ⟨(some 14), none, (.p .mv), [(.t 116)], none⟩])
       (.keep [0, 7, 8, 9, 14] (.seq (.reg [⟨(some 117), none, (.p .mv), [(.t 7)], none⟩,
         ⟨(some 118), none, (.p .mv), [(.t 8)], none⟩,
         ⟨(some 119), none, (.p (.bin .sub)), [(.t 118), (.c (.int .i64 (.ofNat 1)))], none⟩,
         ⟨(some 120), none, (.p .strIndex), [(.t 117), (.t 119)], none⟩,
         ⟨(some 15), none, (.p .mv), [(.t 120)], none⟩])
       (.keep [0, 7, 8, 9, 14, 15] (.seq .skip
       (.keep [0, 7, 8, 9, 14, 15] (.block 5
        (.loop
         (.keep [0, 7, 8, 9, 14, 15] (.seq (.seq (.reg [⟨(some 121), none, (.p .mv), [(.t 9)], none⟩,
           ⟨(some 122), none, (.p .mv), [(.t 0)], none⟩,
           ⟨(some 123), none, (.p .lenS), [(.t 122)], none⟩,
           ⟨(some 124), none, (.p (.bin .lss)), [(.t 121), (.t 123)], none⟩])
         (.keep [0, 7, 8, 9, 14, 15, 124] (.cond (.t 124)
          .skip
          (.keep [] (.exit 5)))))
         (.keep [0, 7, 8, 9, 14, 15] (.seq (.block 6
          (.seq (.reg [⟨(some 127), none, (.p .mv), [(.t 0)], none⟩,
            ⟨(some 128), none, (.p .mv), [(.t 9)], none⟩,
            ⟨(some 129), none, (.p .strIndex), [(.t 127), (.t 128)], none⟩,
            ⟨(some 130), none, (.p .mv), [(.t 14)], none⟩,
            ⟨(some 131), none, (.p (.bin .eql)), [(.t 129), (.t 130)], none⟩,
            ⟨(some 132), none, (.p .mv), [(.t 131)], none⟩,
            ⟨(some 133), some (132, true), (.p .mv), [(.t 0)], none⟩,
            ⟨(some 134), some (132, true), (.p .mv), [(.t 9)], none⟩,
            ⟨(some 135), some (132, true), (.p (.bin .sub)), [(.t 134), (.c (.int .i64 (.ofNat 1)))], none⟩,
            ⟨(some 136), some (132, true), (.p .strIndex), [(.t 133), (.t 135)], none⟩,
            ⟨(some 137), some (132, true), (.p .mv), [(.t 15)], none⟩,
            ⟨(some 138), some (132, true), (.p (.bin .eql)), [(.t 136), (.t 137)], none⟩,
            ⟨(some 139), none, (.p .pick), [(.t 132), (.t 138), (.c (.bool false))], none⟩])
          (.keep [0, 7, 8, 9, 14, 15, 139] (.cond (.t 139)
           (.seq (.seq (.reg [⟨(some 16), none, (.p .mv), [(.c (.int .i64 (.ofNat 2)))], none⟩])
           (.keep [0, 7, 8, 9, 14, 15, 16] (.block 7
            (.loop
             (.keep [0, 7, 8, 9, 14, 15, 16] (.seq (.seq (.reg [⟨(some 140), none, (.p .mv), [(.t 16)], none⟩,
               ⟨(some 141), none, (.p .mv), [(.t 7)], none⟩,
               ⟨(some 142), none, (.p .lenS), [(.t 141)], none⟩,
               ⟨(some 143), none, (.p (.bin .lss)), [(.t 140), (.t 142)], none⟩])
             (.keep [0, 7, 8, 9, 14, 15, 16, 143] (.cond (.t 143)
              .skip
              (.keep [8, 9] (.exit 7)))))
             (.keep [0, 7, 8, 9, 14, 15, 16] (.seq (.block 8
              (.seq (.draw [⟨(some 146), none, (.p .mv), [(.t 0)], none⟩,
                ⟨(some 147), none, (.p .mv), [(.t 9)], none⟩,
                ⟨(some 148), none, (.p .mv), [(.t 16)], none⟩,
                ⟨(some 149), none, (.p (.bin .sub)), [(.t 147), (.t 148)], none⟩,
                ⟨(some 150), none, (.p .strIndex), [(.t 146), (.t 149)], none⟩,
                ⟨(some 151), none, (.p .mv), [(.t 7)], none⟩,
                ⟨(some 152), none, (.p .mv), [(.t 8)], none⟩,
                ⟨(some 153), none, (.p .mv), [(.t 16)], none⟩,
                ⟨(some 154), none, (.p (.bin .sub)), [(.t 152), (.t 153)], none⟩,
                ⟨(some 155), none, (.p .strIndex), [(.t 151), (.t 154)], none⟩,
                ⟨(some 156), none, (.p (.bin .neq)), [(.t 150), (.t 155)], none⟩])
              (.keep [0, 7, 8, 9, 14, 15, 16, 156] (.cond (.t 156)
               (.keep [0, 7, 8, 9, 14, 15] (.exit 6))
               .skip))))
             (.keep [0, 7, 8, 9, 14, 15, 16] (.reg [⟨(some 144), none, (.p .mv), [(.t 16)], none⟩,
               ⟨(some 145), none, (.p (.bin .add)), [(.t 144), (.c (.int .i64 (.ofNat 1)))], none⟩,
               ⟨(some 16), none, (.p .mv), [(.t 145)], none⟩]))))))))))
           (.keep [8, 9] (.seq (.reg [⟨(some 157), none, (.p .mv), [(.t 9)], none⟩,
             ⟨(some 158), none, (.p .mv), [(.t 8)], none⟩,
             ⟨(some 159), none, (.p (.bin .sub)), [(.t 157), (.t 158)], none⟩,
             ⟨(some 4), none, (.p .mv), [(.t 159)], none⟩])
           (.keep [4] (.keep [4] .ret)))))
           .skip))))
         (.keep [0, 7, 8, 9, 14, 15] (.reg [⟨(some 125), none, (.p .mv), [(.t 9)], none⟩,
           ⟨(some 126), none, (.p (.bin .add)), [(.t 125), (.c (.int .i64 (.ofNat 1)))], none⟩,
           ⟨(some 9), none, (.p .mv), [(.t 126)], none⟩]))))))))))))))))
      (.keep [] (.seq (.reg [⟨(some 4), none, (.p .mv), [(.c (.int .i64 (.negSucc 0)))], none⟩])
      (.keep [4] (.keep [4] .ret)))))))))))))))))))))))))))))))),
  [(.t 4)]⟩
def s92_j0 (call : CallK) (N : Nat) (q : KV) (st : St) (τ : Tape) : Ans :=
  match st with
  | ⟨fr, H⟩ =>
  q (.int .i64 (.negSucc 0)) H τ
def s92_l1 (call : CallK) (N : Nat) (st : St) (τ : Tape) (k : KC) : Ans :=
  match st with
  | ⟨fr, H⟩ =>
  getK fr 175 fun t175 =>
  effK (eNext [t175] H τ) fun v16 H17 τ18 =>
  someK (pExtract 0 [v16]) fun v19 =>
  condK v19
    (someK (pExtract 1 [v16]) fun v20 =>
  someK (pExtract 2 [v16]) fun v21 =>
  binK .eql v21 (.int .i32 (.ofNat 65533)) fun v22 =>
  condK v22
    (k .ret ⟨(T.set .leaf 4 v20), H17⟩ τ18)
    (k .normal ⟨(T.set (T.set (T.set .leaf 5 v20) 175 t175) 181 v22), H17⟩ τ18))
    (k (.exit 9) ⟨.leaf, H17⟩ τ18)
def s92_j2 (call : CallK) (N : Nat) (q : KV) (st : St) (τ : Tape) : Ans :=
  match st with
  | ⟨fr, H⟩ =>
  q (.int .i64 (.negSucc 0)) H τ
def s92_j5 (call : CallK) (N : Nat) (k : KC) (st : St) (τ : Tape) : Ans :=
  match st with
  | ⟨fr, H⟩ =>
  getK fr 8 fun t8 =>
  getK fr 9 fun t9 =>
  binK .sub t9 t8 fun v35 =>
  k .ret ⟨(T.set .leaf 4 v35), H⟩ τ
def s92_l6 (call : CallK) (N : Nat) (st : St) (τ : Tape) (k : KC) : Ans :=
  match st with
  | ⟨fr, H⟩ =>
  getK fr 0 fun t0 =>
  getK fr 7 fun t7 =>
  getK fr 8 fun t8 =>
  getK fr 9 fun t9 =>
  getK fr 12 fun t12 =>
  someK (pLenS [t7]) fun v36 =>
  binK .lss t12 v36 fun v37 =>
  condK v37
    (binK .sub t9 t12 fun v38 =>
  someK (pStrIndex [t0, v38]) fun v39 =>
  binK .sub t8 t12 fun v40 =>
  someK (pStrIndex [t7, v40]) fun v41 =>
  binK .neq v39 v41 fun v42 =>
  condK v42
    (none)
    (binK .add t12 (.int .i64 (.ofNat 1)) fun v43 =>
  k .normal ⟨(T.set (T.set (T.set (T.set (T.set (T.set (T.set (T.set .leaf 0 t0) 7 t7) 8 t8) 9 t9) 12 t12) 52 t12) 53 v43) 12 v43), H⟩ τ))
    (k (.exit 3) ⟨(T.set (T.set .leaf 8 t8) 9 t9), H⟩ τ)
def s92_j4 (call : CallK) (N : Nat) (k : KC) (st : St) (τ : Tape) : Ans :=
  match st with
  | ⟨fr, H⟩ =>
  getK fr 0 fun t0 =>
  getK fr 7 fun t7 =>
  getK fr 8 fun t8 =>
  getK fr 9 fun t9 =>
  loopK (s92_l6 call N) N ⟨(T.set (T.set (T.set (T.set (T.set .leaf 0 t0) 7 t7) 8 t8) 9 t9) 12 (.int .i64 (.ofNat 1))), H⟩ τ (blockK 3 (seqK (s92_j5 call N k) (blockK 2 k)))
def s92_l3 (call : CallK) (N : Nat) (st : St) (τ : Tape) (k : KC) : Ans :=
  match st with
  | ⟨fr, H⟩ =>
  getK fr 0 fun t0 =>
  getK fr 7 fun t7 =>
  getK fr 8 fun t8 =>
  getK fr 9 fun t9 =>
  someK (pLenS [t0]) fun v30 =>
  binK .lss t9 v30 fun v31 =>
  condK v31
    (someK (pStrIndex [t0, t9]) fun v32 =>
  someK (pStrIndex [t7, t8]) fun v33 =>
  binK .neq v32 v33 fun v34 =>
  condK v34
    (binK .add t9 (.int .i64 (.ofNat 1)) fun v44 =>
  someK (pStrSlice true false [t0, v44]) fun v45 =>
  someK (pStrIndex [t7, t8]) fun v46 =>
  call 70 [v45, v46] H τ fun v47 H48 τ49 =>
  binK .lss v47 (.int .i64 (.ofNat 0)) fun v50 =>
  condK v50
    (k .ret ⟨(T.set .leaf 4 (.int .i64 (.negSucc 0))), H48⟩ τ49)
    (binK .add v47 (.int .i64 (.ofNat 1)) fun v51 =>
  binK .add t9 v51 fun v52 =>
  s92_j4 call N k ⟨(T.set (T.set (T.set (T.set (T.set (T.set (T.set (T.set (T.set (T.set .leaf 0 t0) 7 t7) 8 t8) 9 t9) 11 v47) 44 t9) 45 v47) 46 v51) 47 v52) 9 v52), H48⟩ τ49))
    (s92_j4 call N k ⟨(T.set (T.set (T.set (T.set (T.set .leaf 0 t0) 7 t7) 8 t8) 9 t9) 33 v34), H⟩ τ))
    (k (.exit 1) ⟨.leaf, H⟩ τ)
def s92 (call : CallK) (N : Nat) (a0 a1 : V) (H : Heap) (τ : Tape) (q : KV) : Ans :=
  binK .leq (.int .i32 (.ofNat 0)) a1 fun v0 =>
  gK v0 true (fun q' => q' a1 H τ) H τ fun v1 H2 τ3 =>
  gK v0 true (fun q' => binK .lss v1 (.int .i32 (.ofNat 128)) fun v => q' v H2 τ3) H2 τ3 fun v4 H5 τ6 =>
  someK (pPick [v0, v4, (.bool false)]) fun v7 =>
  condK v7
    (toIntK .u8 a1 fun v8 =>
  call 70 [a0, v8] H5 τ6 fun v9 H10 τ11 =>
  q v9 H10 τ11)
    (binK .eql a1 (.int .i32 (.ofNat 65533)) fun v12 =>
  condK v12
    (effK (eRange [a0] H5 τ6) fun v13 H14 τ15 =>
  loopK (s92_l1 call N) N ⟨(T.set .leaf 175 v13), H14⟩ τ15 (blockK 9 (seqK (s92_j0 call N q) (blockK 0 (endK [(.t 4)] q)))))
    (call 114 [a1] H5 τ6 fun v23 H24 τ25 =>
  unK .not v23 fun v26 =>
  condK v26
    (q (.int .i64 (.negSucc 0)) H24 τ25)
    (someK (pRuneStr [a1]) fun v27 =>
  someK (pLenS [v27]) fun v28 =>
  binK .sub v28 (.int .i64 (.ofNat 1)) fun v29 =>
  loopK (s92_l3 call N) N ⟨(T.set (T.set (T.set (T.set .leaf 0 a0) 7 v27) 8 v29) 9 v29), H24⟩ τ25 (blockK 1 (seqK (s92_j2 call N q) (blockK 0 (endK [(.t 4)] q)))))))
theorem s92_eq (call : CallK) (N : Nat) (a0 a1 : V) (H : Heap) (τ : Tape) (q : KV) : s92 call N a0 a1 H τ q = funK call N fn92 [a0, a1] H τ q := by kernel_rfl
def e92 (call : CallK) (N : Nat) (vs : List V) (H : Heap) (τ : Tape) (q : KV) : Ans := match vs with | [a0, a1] => s92 call N a0 a1 H τ q | _ => none
theorem e92_ok : EntOk fn92 e92 := by
  intro call N vs H τ q r h
  unfold e92 at h
  split at h
  · rw [s92_eq] at h; exact h
  · cases h
theorem e92_nat : EntNat e92 := by
  intro c hn N vs H τ q
  unfold e92
  split
  · rw [s92_eq, s92_eq]; exact funK_ent hn _ _ _ _ _ _
  · rfl
/-- unicode/utf8.decodeRuneInStringSlow -/
def fn105 : Fun := ⟨1,
  (.seq (.reg [⟨(some 2), none, (.p .mv), [(.c (.int .i32 (.ofNat 0)))], none⟩,
    ⟨(some 3), none, (.p .mv), [(.c (.int .i64 (.ofNat 0)))], none⟩])
  (.keep [0] (.seq (.reg [⟨(some 13), none, (.p .mv), [(.t 0)], none⟩,
    ⟨(some 14), none, (.p .lenS), [(.t 13)], none⟩,
    ⟨(some 4), none, (.p .mv), [(.t 14)], none⟩])
  (.keep [0, 4] (.seq (.seq (.reg [⟨(some 15), none, (.p .mv), [(.t 4)], none⟩,
    ⟨(some 16), none, (.p (.bin .lss)), [(.t 15), (.c (.int .i64 (.ofNat 1)))], none⟩])
  (.keep [0, 4, 16] (.cond (.t 16)
   (.seq (.reg [⟨(some 2), none, (.p .mv), [(.c (.int .i32 (.ofNat 65533)))], none⟩,
     ⟨(some 3), none, (.p .mv), [(.c (.int .i64 (.ofNat 0)))], none⟩])
   (.keep [2, 3] (.keep [2, 3] .ret)))
   .skip)))
  (.keep [0, 4] (.seq (.reg [⟨(some 17), none, (.p .mv), [(.t 0)], none⟩,
    ⟨(some 18), none, (.p .strIndex), [(.t 17), (.c (.int .i64 (.ofNat 0)))], none⟩,
    ⟨(some 5), none, (.p .mv), [(.t 18)], none⟩])
  (.keep [0, 4, 5] (.seq (.reg [⟨(some 19), none, (.p .mv), [(.t 5)], none⟩,
    ⟨(some 20), none, (.p (.arrIdx 256 1)), [(.c (.ptr 1 0)), (.t 19)], none⟩,
    ⟨(some 21), none, (.l (.load none)), [(.t 20)], none⟩,
    ⟨(some 6), none, (.p .mv), [(.t 21)], none⟩])
  (.keep [0, 4, 5, 6] (.seq (.seq (.reg [⟨(some 22), none, (.p .mv), [(.t 6)], none⟩,
    ⟨(some 23), none, (.p (.bin .geq)), [(.t 22), (.c (.int .u8 (.ofNat 240)))], none⟩])
  (.keep [0, 4, 5, 6, 23] (.cond (.t 23)
   (.seq (.reg [⟨(some 24), none, (.p .mv), [(.t 6)], none⟩,
     ⟨(some 25), none, (.p (.toInt .i32)), [(.t 24)], none⟩,
     ⟨(some 26), none, (.p (.bin .shl)), [(.t 25), (.c (.int .u64 (.ofNat 31)))], none⟩,
     ⟨(some 27), none, (.p (.bin .shr)), [(.t 26), (.c (.int .u64 (.ofNat 31)))], none⟩,
     ⟨(some 7), none, (.p .mv), [(.t 27)], none⟩])
   (.keep [0, 7] (.seq (.reg [⟨(some 28), none, (.p .mv), [(.t 0)], none⟩,
     ⟨(some 29), none, (.p .strIndex), [(.t 28), (.c (.int .i64 (.ofNat 0)))], none⟩,
     ⟨(some 30), none, (.p (.toInt .i32)), [(.t 29)], none⟩,
     ⟨(some 31), none, (.p .mv), [(.t 7)], none⟩,
     ⟨(some 32), none, (.p (.bin .andNot)), [(.t 30), (.t 31)], none⟩,
     ⟨(some 33), none, (.p .mv), [(.t 7)], none⟩,
     ⟨(some 34), none, (.p (.bin .and)), [(.c (.int .i32 (.ofNat 65533))), (.t 33)], none⟩,
     ⟨(some 35), none, (.p (.bin .or)), [(.t 32), (.t 34)], none⟩,
     ⟨(some 2), none, (.p .mv), [(.t 35)], none⟩,
     ⟨(some 3), none, (.p .mv), [(.c (.int .i64 (.ofNat 1)))], none⟩])
   (.keep [2, 3] (.keep [2, 3] .ret)))))
   .skip)))
  (.keep [0, 4, 5, 6] (.seq (.reg [⟨(some 36), none, (.p .mv), [(.t 6)], none⟩,
    ⟨(some 37), none, (.p (.bin .and)), [(.t 36), (.c (.int .u8 (.ofNat 7)))], none⟩,
    ⟨(some 38), none, (.p (.toInt .i64)), [(.t 37)], none⟩,
    ⟨(some 8), none, (.p .mv), [(.t 38)], none⟩])
  (.keep [0, 4, 5, 6, 8] (.seq (.reg [⟨(some 39), none, (.p .mv), [(.t 6)], none⟩,
    ⟨(some 40), none, (.p (.bin .shr)), [(.t 39), (.c (.int .u64 (.ofNat 4)))], none⟩,
    ⟨(some 41), none, (.p (.arrIdx 16 2)), [(.c (.ptr 2 0)), (.t 40)], none⟩,
    ⟨(some 42), none, (.l (.load (some 2))), [(.t 41)], none⟩,
    ⟨(some 9), none, (.e (.alloc [(.int .u8 (.ofNat 0)), (.int .u8 (.ofNat 0))])), [], none⟩,
    ⟨none, none, (.e (.store 2)), [(.t 9), (.t 42)], none⟩])
  (.keep [0, 4, 5, 8, 9] (.seq (.seq (.reg [⟨(some 43), none, (.p .mv), [(.t 4)], none⟩,
    ⟨(some 44), none, (.p .mv), [(.t 8)], none⟩,
    ⟨(some 45), none, (.p (.bin .lss)), [(.t 43), (.t 44)], none⟩])
  (.keep [0, 5, 8, 9, 45] (.cond (.t 45)
   (.seq (.reg [⟨(some 2), none, (.p .mv), [(.c (.int .i32 (.ofNat 65533)))], none⟩,
     ⟨(some 3), none, (.p .mv), [(.c (.int .i64 (.ofNat 1)))], none⟩])
   (.keep [2, 3] (.keep [2, 3] .ret)))
   .skip)))
  (.keep [0, 5, 8, 9] (.seq (.reg [⟨(some 46), none, (.p .mv), [(.t 0)], none⟩,
    ⟨(some 47), none, (.p .strIndex), [(.t 46), (.c (.int .i64 (.ofNat 1)))], none⟩,
    ⟨(some 10), none, (.p .mv), [(.t 47)], none⟩])
  (.keep [0, 5, 8, 9, 10] (.seq (.seq (.reg [⟨(some 48), none, (.p .mv), [(.t 10)], none⟩,
    ⟨(some 49), none, (.p (.fieldAddr 0)), [(.t 9)], none⟩,
    ⟨(some 50), none, (.l (.load none)), [(.t 49)], none⟩,
    ⟨(some 51), none, (.p (.bin .lss)), [(.t 48), (.t 50)], none⟩,
    ⟨(some 52), none, (.p .mv), [(.t 51)], none⟩,
    ⟨(some 53), some (52, false), (.p (.fieldAddr 1)), [(.t 9)], none⟩,
    ⟨(some 54), some (52, false), (.l (.load none)), [(.t 53)], none⟩,
    ⟨(some 55), some (52, false), (.p .mv), [(.t 10)], none⟩,
    ⟨(some 56), some (52, false), (.p (.bin .lss)), [(.t 54), (.t 55)], none⟩,
    ⟨(some 57), none, (.p .pick), [(.t 52), (.c (.bool true)), (.t 56)], none⟩])
  (.keep [0, 5, 8, 10, 57] (.cond (.t 57)
   (.seq (.reg [⟨(some 2), none, (.p .mv), [(.c (.int .i32 (.ofNat 65533)))], none⟩,
     ⟨(some 3), none, (.p .mv), [(.c (.int .i64 (.ofNat 1)))], none⟩])
   (.keep [2, 3] (.keep [2, 3] .ret)))
   .skip)))
  (.keep [0, 5, 8, 10] (.seq (.seq (.reg [⟨(some 58), none, (.p .mv), [(.t 8)], none⟩,
    ⟨(some 59), none, (.p (.bin .leq)), [(.t 58), (.c (.int .i64 (.ofNat 2)))], none⟩])
  (.keep [0, 5, 8, 10, 59] (.cond (.t 59)
   (.seq (.reg [⟨(some 60), none, (.p .mv), [(.t 5)], none⟩,
     ⟨(some 61), none, (.p (.bin .and)), [(.t 60), (.c (.int .u8 (.ofNat 31)))], none⟩,
     ⟨(some 62), none, (.p (.toInt .i32)), [(.t 61)], none⟩,
     ⟨(some 63), none, (.p (.bin .shl)), [(.t 62), (.c (.int .u64 (.ofNat 6)))], none⟩,
     ⟨(some 64), none, (.p .mv), [(.t 10)], none⟩,
     ⟨(some 65), none, (.p (.bin .and)), [(.t 64), (.c (.int .u8 (.ofNat 63)))], none⟩,
     ⟨(some 66), none, (.p (.toInt .i32)), [(.t 65)], none⟩,
     ⟨(some 67), none, (.p (.bin .or)), [(.t 63), (.t 66)], none⟩,
     ⟨(some 2), none, (.p .mv), [(.t 67)], none⟩,
     ⟨(some 3), none, (.p .mv), [(.c (.int .i64 (.ofNat 2)))], none⟩])
   (.keep [2, 3] (.keep [2, 3] .ret)))
   .skip)))
  (.keep [0, 5, 8, 10] (.seq (.reg [⟨(some 68), none, (.p .mv), [(.t 0)], none⟩,
    ⟨(some 69), none, (.p .strIndex), [(.t 68), (.c (.int .i64 (.ofNat 2)))], none⟩,
    ⟨(some 11), none, (.p .mv), [(.t 69)], none⟩])
  (.keep [0, 5, 8, 10, 11] (.seq (.seq (.reg [⟨(some 70), none, (.p .mv), [(.t 11)], none⟩,
    ⟨(some 71), none, (.p (.bin .lss)), [(.t 70), (.c (.int .u8 (.ofNat 128)))], none⟩,
    ⟨(some 72), none, (.p .mv), [(.t 71)], none⟩,
    ⟨(some 73), some (72, false), (.p .mv), [(.t 11)], none⟩,
    ⟨(some 74), some (72, false), (.p (.bin .lss)), [(.c (.int .u8 (.ofNat 191))), (.t 73)], none⟩,
    ⟨(some 75), none, (.p .pick), [(.t 72), (.c (.bool true)), (.t 74)], none⟩])
  (.keep [0, 5, 8, 10, 11, 75] (.cond (.t 75)
   (.seq (.reg [⟨(some 2), none, (.p .mv), [(.c (.int .i32 (.ofNat 65533)))], none⟩,
     ⟨(some 3), none, (.p .mv), [(.c (.int .i64 (.ofNat 1)))], none⟩])
   (.keep [2, 3] (.keep [2, 3] .ret)))
   .skip)))
  (.keep [0, 5, 8, 10, 11] (.seq (.seq (.reg [⟨(some 76), none, (.p .mv), [(.t 8)], none⟩,
    ⟨(some 77), none, (.p (.bin .leq)), [(.t 76), (.c (.int .i64 (.ofNat 3)))], none⟩])
  (.keep [0, 5, 10, 11, 77] (.cond (.t 77)
   (.seq (.reg [⟨(some 78), none, (.p .mv), [(.t 5)], none⟩,
     ⟨(some 79), none, (.p (.bin .and)), [(.t 78), (.c (.int .u8 (.ofNat 15)))], none⟩,
     ⟨(some 80), none, (.p (.toInt .i32)), [(.t 79)], none⟩,
     ⟨(some 81), none, (.p (.bin .shl)), [(.t 80), (.c (.int .u64 (.ofNat 12)))], none⟩,
     ⟨(some 82), none, (.p .mv), [(.t 10)], none⟩,
     ⟨(some 83), none, (.p (.bin .and)), [(.t 82), (.c (.int .u8 (.ofNat 63)))], none⟩,
     ⟨(some 84), none, (.p (.toInt .i32)), [(.t 83)], none⟩,
     ⟨(some 85), none, (.p (.bin .shl)), [(.t 84), (.c (.int .u64 (.ofNat 6)))], none⟩,
     ⟨(some 86), none, (.p (.bin .or)), [(.t 81), (.t 85)], none⟩,
     ⟨(some 87), none, (.p .mv), [(.t 11)], none⟩,
     ⟨(some 88), none, (.p (.bin .and)), [(.t 87), (.c (.int .u8 (.ofNat 63)))], none⟩,
     ⟨(some 89), none, (.p (.toInt .i32)), [(.t 88)], none⟩,
     ⟨(some 90), none, (.p (.bin .or)), [(.t 86), (.t 89)], none⟩,
     ⟨(some 2), none, (.p .mv), [(.t 90)], none⟩,
     ⟨(some 3), none, (.p .mv), [(.c (.int .i64 (.ofNat 3)))], none⟩])
   (.keep [2, 3] (.keep [2, 3] .ret)))
   .skip)))
  (.keep [0, 5, 10, 11] (.seq (.reg [⟨(some 91), none, (.p .mv), [(.t 0)], none⟩,
    ⟨(some 92), none, (.p .strIndex), [(.t 91), (.c (.int .i64 (.ofNat 3)))], none⟩,
    ⟨(some 12), none, (.p .mv), [(.t 92)], none⟩])
  (.keep [5, 10, 11, 12] (.seq (.seq (.reg [⟨(some 93), none, (.p .mv), [(.t 12)], none⟩,
    ⟨(some 94), none, (.p (.bin .lss)), [(.t 93), (.c (.int .u8 (.ofNat 128)))], none⟩,
    ⟨(some 95), none, (.p .mv), [(.t 94)], none⟩,
    ⟨(some 96), some (95, false), (.p .mv), [(.t 12)], none⟩,
    ⟨(some 97), some (95, false), (.p (.bin .lss)), [(.c (.int .u8 (.ofNat 191))), (.t 96)], none⟩,
    ⟨(some 98), none, (.p .pick), [(.t 95), (.c (.bool true)), (.t 97)], none⟩])
  (.keep [5, 10, 11, 12, 98] (.cond (.t 98)
   (.seq (.reg [⟨(some 2), none, (.p .mv), [(.c (.int .i32 (.ofNat 65533)))], none⟩,
     ⟨(some 3), none, (.p .mv), [(.c (.int .i64 (.ofNat 1)))], none⟩])
   (.keep [2, 3] (.keep [2, 3] .ret)))
   .skip)))
  (.keep [5, 10, 11, 12] (.seq (.reg [⟨(some 99), none, (.p .mv), [(.t 5)], none⟩,
    ⟨(some 100), none, (.p (.bin .and)), [(.t 99), (.c (.int .u8 (.ofNat 7)))], none⟩,
    ⟨(some 101), none, (.p (.toInt .i32)), [(.t 100)], none⟩,
    ⟨(some 102), none, (.p (.bin .shl)), [(.t 101), (.c (.int .u64 (.ofNat 18)))], none⟩,
    ⟨(some 103), none, (.p .mv), [(.t 10)], none⟩,
    ⟨(some 104), none, (.p (.bin .and)), [(.t 103), (.c (.int .u8 (.ofNat 63)))], none⟩,
    ⟨(some 105), none, (.p (.toInt .i32)), [(.t 104)], none⟩,
    ⟨(some 106), none, (.p (.bin .shl)), [(.t 105), (.c (.int .u64 (.ofNat 12)))], none⟩,
    ⟨(some 107), none, (.p (.bin .or)), [(.t 102), (.t 106)], none⟩,
    ⟨(some 108), none, (.p .mv), [(.t 11)], none⟩,
    ⟨(some 109), none, (.p (.bin .and)), [(.t 108), (.c (.int .u8 (.ofNat 63)))], none⟩,
    ⟨(some 110), none, (.p (.toInt .i32)), [(.t 109)], none⟩,
    ⟨(some 111), none, (.p (.bin .shl)), [(.t 110), (.c (.int .u64 (.ofNat 6)))], none⟩,
    ⟨(some 112), none, (.p (.bin .or)), [(.t 107), (.t 111)], none⟩,
    ⟨(some 113), none, (.p .mv), [(.t 12)], none⟩,
    ⟨(some 114), none, (.p (.bin .and)), [(.t 113), (.c (.int .u8 (.ofNat 63)))], none⟩,
    ⟨(some 115), none, (.p (.toInt .i32)), [(.t 114)], none⟩,
    ⟨(some 116), none, (.p (.bin .or)), [(.t 112), (.t 115)], none⟩,
    ⟨(some 2), none, (.p .mv), [(.t 116)], none⟩,
    ⟨(some 3), none, (.p .mv), [(.c (.int .i64 (.ofNat 4)))], none⟩])
  (.keep [2, 3] (.keep [2, 3] .ret))))))))))))))))))))))))))))))))))))),
  [(.t 2), (.t 3)]⟩
def s105 (call : CallK) (N : Nat) (a0 : V) (H : Heap) (τ : Tape) (q : KV) : Ans :=
  someK (pLenS [a0]) fun v0 =>
  binK .lss v0 (.int .i64 (.ofNat 1)) fun v1 =>
  condK v1
    (q (.tup [(.int .i32 (.ofNat 65533)), (.int .i64 (.ofNat 0))]) H τ)
    (someK (pStrIndex [a0, (.int .i64 (.ofNat 0))]) fun v2 =>
  someK (pArrIdx 256 1 [(.ptr 1 0), v2]) fun v3 =>
  someK (lLoad1 [v3] H) fun v4 =>
  binK .geq v4 (.int .u8 (.ofNat 240)) fun v5 =>
  condK v5
    (toIntK .i32 v4 fun v6 =>
  binK .shl v6 (.int .u64 (.ofNat 31)) fun v7 =>
  binK .shr v7 (.int .u64 (.ofNat 31)) fun v8 =>
  someK (pStrIndex [a0, (.int .i64 (.ofNat 0))]) fun v9 =>
  toIntK .i32 v9 fun v10 =>
  binK .andNot v10 v8 fun v11 =>
  binK .and (.int .i32 (.ofNat 65533)) v8 fun v12 =>
  binK .or v11 v12 fun v13 =>
  q (.tup [v13, (.int .i64 (.ofNat 1))]) H τ)
    (binK .and v4 (.int .u8 (.ofNat 7)) fun v14 =>
  toIntK .i64 v14 fun v15 =>
  binK .shr v4 (.int .u64 (.ofNat 4)) fun v16 =>
  someK (pArrIdx 16 2 [(.ptr 2 0), v16]) fun v17 =>
  someK (lLoadN 2 [v17] H) fun v18 =>
  effK (eAlloc [(.int .u8 (.ofNat 0)), (.int .u8 (.ofNat 0))] [] H τ) fun v19 H20 τ21 =>
  effK (eStore 2 [v19, v18] H20 τ21) fun v22 H23 τ24 =>
  binK .lss v0 v15 fun v25 =>
  condK v25
    (q (.tup [(.int .i32 (.ofNat 65533)), (.int .i64 (.ofNat 1))]) H23 τ24)
    (someK (pStrIndex [a0, (.int .i64 (.ofNat 1))]) fun v26 =>
  someK (pFieldAddr 0 [v19]) fun v27 =>
  someK (lLoad1 [v27] H23) fun v28 =>
  binK .lss v26 v28 fun v29 =>
  gK v29 false (fun q' => someK (pFieldAddr 1 [v19]) fun v => q' v H23 τ24) H23 τ24 fun v30 H31 τ32 =>
  gK v29 false (fun q' => someK (lLoad1 [v30] H31) fun v => q' v H31 τ32) H31 τ32 fun v33 H34 τ35 =>
  gK v29 false (fun q' => q' v26 H34 τ35) H34 τ35 fun v36 H37 τ38 =>
  gK v29 false (fun q' => binK .lss v33 v36 fun v => q' v H37 τ38) H37 τ38 fun v39 H40 τ41 =>
  someK (pPick [v29, (.bool true), v39]) fun v42 =>
  condK v42
    (q (.tup [(.int .i32 (.ofNat 65533)), (.int .i64 (.ofNat 1))]) H40 τ41)
    (binK .leq v15 (.int .i64 (.ofNat 2)) fun v43 =>
  condK v43
    (binK .and v2 (.int .u8 (.ofNat 31)) fun v44 =>
  toIntK .i32 v44 fun v45 =>
  binK .shl v45 (.int .u64 (.ofNat 6)) fun v46 =>
  binK .and v26 (.int .u8 (.ofNat 63)) fun v47 =>
  toIntK .i32 v47 fun v48 =>
  binK .or v46 v48 fun v49 =>
  q (.tup [v49, (.int .i64 (.ofNat 2))]) H40 τ41)
    (someK (pStrIndex [a0, (.int .i64 (.ofNat 2))]) fun v50 =>
  binK .lss v50 (.int .u8 (.ofNat 128)) fun v51 =>
  gK v51 false (fun q' => q' v50 H40 τ41) H40 τ41 fun v52 H53 τ54 =>
  gK v51 false (fun q' => binK .lss (.int .u8 (.ofNat 191)) v52 fun v => q' v H53 τ54) H53 τ54 fun v55 H56 τ57 =>
  someK (pPick [v51, (.bool true), v55]) fun v58 =>
  condK v58
    (q (.tup [(.int .i32 (.ofNat 65533)), (.int .i64 (.ofNat 1))]) H56 τ57)
    (binK .leq v15 (.int .i64 (.ofNat 3)) fun v59 =>
  condK v59
    (binK .and v2 (.int .u8 (.ofNat 15)) fun v60 =>
  toIntK .i32 v60 fun v61 =>
  binK .shl v61 (.int .u64 (.ofNat 12)) fun v62 =>
  binK .and v26 (.int .u8 (.ofNat 63)) fun v63 =>
  toIntK .i32 v63 fun v64 =>
  binK .shl v64 (.int .u64 (.ofNat 6)) fun v65 =>
  binK .or v62 v65 fun v66 =>
  binK .and v50 (.int .u8 (.ofNat 63)) fun v67 =>
  toIntK .i32 v67 fun v68 =>
  binK .or v66 v68 fun v69 =>
  q (.tup [v69, (.int .i64 (.ofNat 3))]) H56 τ57)
    (someK (pStrIndex [a0, (.int .i64 (.ofNat 3))]) fun v70 =>
  binK .lss v70 (.int .u8 (.ofNat 128)) fun v71 =>
  gK v71 false (fun q' => q' v70 H56 τ57) H56 τ57 fun v72 H73 τ74 =>
  gK v71 false (fun q' => binK .lss (.int .u8 (.ofNat 191)) v72 fun v => q' v H73 τ74) H73 τ74 fun v75 H76 τ77 =>
  someK (pPick [v71, (.bool true), v75]) fun v78 =>
  condK v78
    (q (.tup [(.int .i32 (.ofNat 65533)), (.int .i64 (.ofNat 1))]) H76 τ77)
    (binK .and v2 (.int .u8 (.ofNat 7)) fun v79 =>
  toIntK .i32 v79 fun v80 =>
  binK .shl v80 (.int .u64 (.ofNat 18)) fun v81 =>
  binK .and v26 (.int .u8 (.ofNat 63)) fun v82 =>
  toIntK .i32 v82 fun v83 =>
  binK .shl v83 (.int .u64 (.ofNat 12)) fun v84 =>
  binK .or v81 v84 fun v85 =>
  binK .and v50 (.int .u8 (.ofNat 63)) fun v86 =>
  toIntK .i32 v86 fun v87 =>
  binK .shl v87 (.int .u64 (.ofNat 6)) fun v88 =>
  binK .or v85 v88 fun v89 =>
  binK .and v70 (.int .u8 (.ofNat 63)) fun v90 =>
  toIntK .i32 v90 fun v91 =>
  binK .or v89 v91 fun v92 =>
  q (.tup [v92, (.int .i64 (.ofNat 4))]) H76 τ77))))))))
theorem s105_eq (call : CallK) (N : Nat) (a0 : V) (H : Heap) (τ : Tape) (q : KV) : s105 call N a0 H τ q = funK call N fn105 [a0] H τ q := by kernel_rfl
def e105 (call : CallK) (N : Nat) (vs : List V) (H : Heap) (τ : Tape) (q : KV) : Ans := match vs with | [a0] => s105 call N a0 H τ q | _ => none
theorem e105_ok : EntOk fn105 e105 := by
  intro call N vs H τ q r h
  unfold e105 at h
  split at h
  · rw [s105_eq] at h; exact h
  · cases h
theorem e105_nat : EntNat e105 := by
  intro c hn N vs H τ q
  unfold e105
  split
  · rw [s105_eq, s105_eq]; exact funK_ent hn _ _ _ _ _ _
  · rfl
/-- unicode/utf8.RuneStart -/
def fn106 : Fun := ⟨1,
  (.seq (.reg [⟨(some 2), none, (.p .mv), [(.c (.bool false))], none⟩])
  (.keep [0] (.seq (.reg [⟨(some 3), none, (.p .mv), [(.t 0)], none⟩,
    ⟨(some 4), none, (.p (.bin .and)), [(.t 3), (.c (.int .u8 (.ofNat 192)))], none⟩,
    ⟨(some 5), none, (.p (.bin .neq)), [(.t 4), (.c (.int .u8 (.ofNat 128)))], none⟩,
    ⟨(some 2), none, (.p .mv), [(.t 5)], none⟩])
  (.keep [2] (.keep [2] .ret))))),
  [(.t 2)]⟩
def s106 (call : CallK) (N : Nat) (a0 : V) (H : Heap) (τ : Tape) (q : KV) : Ans :=
  binK .and a0 (.int .u8 (.ofNat 192)) fun v0 =>
  binK .neq v0 (.int .u8 (.ofNat 128)) fun v1 =>
  q v1 H τ
theorem s106_eq (call : CallK) (N : Nat) (a0 : V) (H : Heap) (τ : Tape) (q : KV) : s106 call N a0 H τ q = funK call N fn106 [a0] H τ q := by kernel_rfl
def e106 (call : CallK) (N : Nat) (vs : List V) (H : Heap) (τ : Tape) (q : KV) : Ans := match vs with | [a0] => s106 call N a0 H τ q | _ => none
theorem e106_ok : EntOk fn106 e106 := by
  intro call N vs H τ q r h
  unfold e106 at h
  split at h
  · rw [s106_eq] at h; exact h
  · cases h
theorem e106_nat : EntNat e106 := by
  intro c hn N vs H τ q
  unfold e106
  split
  · rw [s106_eq, s106_eq]; exact funK_ent hn _ _ _ _ _ _
  · rfl
/-- internal/bytealg.Cutover -/
def fn108 : Fun := ⟨1,
  (.seq (.reg [⟨(some 2), none, (.p .mv), [(.c (.int .i64 (.ofNat 0)))], none⟩])
  (.keep [0] (.seq (.reg [⟨(some 3), none, (.p .mv), [(.t 0)], none⟩,
    ⟨(some 4), none, (.p (.bin .add)), [(.t 3), (.c (.int .i64 (.ofNat 16)))], none⟩,
    ⟨(some 5), none, (.p (.bin .quo)), [(.t 4), (.c (.int .i64 (.ofNat 8)))], none⟩,
    ⟨(some 2), none, (.p .mv), [(.t 5)], none⟩])
  (.keep [2] (.keep [2] .ret))))),
  [(.t 2)]⟩
def s108 (call : CallK) (N : Nat) (a0 : V) (H : Heap) (τ : Tape) (q : KV) : Ans :=
  binK .add a0 (.int .i64 (.ofNat 16)) fun v0 =>
  binK .quo v0 (.int .i64 (.ofNat 8)) fun v1 =>
  q v1 H τ
theorem s108_eq (call : CallK) (N : Nat) (a0 : V) (H : Heap) (τ : Tape) (q : KV) : s108 call N a0 H τ q = funK call N fn108 [a0] H τ q := by kernel_rfl
def e108 (call : CallK) (N : Nat) (vs : List V) (H : Heap) (τ : Tape) (q : KV) : Ans := match vs with | [a0] => s108 call N a0 H τ q | _ => none
theorem e108_ok : EntOk fn108 e108 := by
  intro call N vs H τ q r h
  unfold e108 at h
  split at h
  · rw [s108_eq] at h; exact h
  · cases h
theorem e108_nat : EntNat e108 := by
  intro c hn N vs H τ q
  unfold e108
  split
  · rw [s108_eq, s108_eq]; exact funK_ent hn _ _ _ _ _ _
  · rfl
/-- internal/bytealg.IndexRabinKarp[string] -/
def fn109 : Fun := ⟨2,
  (.seq (.reg [⟨(some 4), none, (.p .mv), [(.c (.int .i64 (.ofNat 0)))], none⟩])
  (.keep [0, 1] (.seq (.reg [⟨(some 12), none, (.p .mv), [(.t 1)], none⟩,
    ⟨(some 13), none, (.call 121), [(.t 12)], none⟩,
    ⟨(some 11), none, (.p .mv), [(.t 13)], none⟩,
    ⟨(some 14), none, (.p (.extract 0)), [(.t 11)], none⟩,
    ⟨(some 15), none, (.p (.extract 1)), [(.t 11)], none⟩,
    ⟨(some 5), none, (.p .mv), [(.t 14)], none⟩,
    ⟨(some 6), none, (.p .mv), [(.t 15)], none⟩])
  (.keep [0, 1, 5, 6] (.seq (.reg [⟨(some 16), none, (.p .mv), [(.t 1)], none⟩,
    ⟨(some 17), none, (.p .lenS), [(.t 16)], none⟩,
    ⟨(some 7), none, (.p .mv), [(.t 17)], none⟩])
  (.keep [0, 1, 5, 6, 7] (.seq (.reg [⟨(some 8), none, (.p .mv), [(.c (.int .u32 (.ofNat 0)))], none⟩])
  (.keep [0, 1, 5, 6, 7, 8] (.seq (.seq (.reg [⟨(some 9), none, (.p .mv), [(.c (.int .i64 (.ofNat 0)))], none⟩])
  (.keep [0, 1, 5, 6, 7, 8, 9] (.block 0
   (.loop
    (.keep [0, 1, 5, 6, 7, 8, 9] (.seq (.seq (.reg [⟨(some 18), none, (.p .mv), [(.t 9)], none⟩,
      ⟨(some 19), none, (.p .mv), [(.t 7)], none⟩,
      ⟨(some 20), none, (.p (.bin .lss)), [(.t 18), (.t 19)], none⟩])
    (.keep [0, 1, 5, 6, 7, 8, 9, 20] (.cond (.t 20)
     .skip
     (.keep [0, 1, 5, 6, 7, 8] (.exit 0)))))
    (.keep [0, 1, 5, 6, 7, 8, 9] (.seq (.block 1
     (.reg [⟨(some 23), none, (.p .mv), [(.t 8)], none⟩,
       ⟨(some 24), none, (.p (.bin .mul)), [(.t 23), (.c (.int .u32 (.ofNat 16777619)))], none⟩,
       ⟨(some 25), none, (.p .mv), [(.t 0)], none⟩,
       ⟨(some 26), none, (.p .mv), [(.t 9)], none⟩,
       ⟨(some 27), none, (.p .strIndex), [(.t 25), (.t 26)], none⟩,
       ⟨(some 28), none, (.p (.toInt .u32)), [(.t 27)], none⟩,
       ⟨(some 29), none, (.p (.bin .add)), [(.t 24), (.t 28)], none⟩,
       ⟨(some 8), none, (.p .mv), [(.t 29)], none⟩]))
    (.keep [0, 1, 5, 6, 7, 8, 9] (.reg [⟨(some 21), none, (.p .mv), [(.t 9)], none⟩,
      ⟨(some 22), none, (.p (.bin .add)), [(.t 21), (.c (.int .i64 (.ofNat 1)))], none⟩,
      ⟨(some 9), none, (.p .mv), [(.t 22)], none⟩]))))))))))
  (.keep [0, 1, 5, 6, 7, 8] (.seq (.seq (.reg [⟨(some 30), none, (.p .mv), [(.t 8)], none⟩,
    ⟨(some 31), none, (.p .mv), [(.t 5)], none⟩,
    ⟨(some 32), none, (.p (.bin .eql)), [(.t 30), (.t 31)], none⟩,
    ⟨(some 33), none, (.p .mv), [(.t 32)], none⟩,
    ⟨(some 34), some (33, true), (.p .mv), [(.t 0)], none⟩,
    ⟨(some 35), some (33, true), (.p .mv), [(.t 7)], none⟩,
    ⟨(some 36), some (33, true), (.p (.strSlice false true)), [(.t 34), (.t 35)], none⟩,
    ⟨(some 37), some (33, true), (.p .mv), [(.t 1)], none⟩,
    ⟨(some 38), some (33, true), (.p (.bin .eql)), [(.t 36), (.t 37)], none⟩,
    ⟨(some 39), none, (.p .pick), [(.t 33), (.t 38), (.c (.bool false))], none⟩])
  (.keep [0, 1, 5, 6, 7, 8, 39] (.cond (.t 39)
   (.seq (.reg [⟨(some 4), none, (.p .mv), [(.c (.int .i64 (.ofNat 0)))], none⟩])
   (.keep [4] (.keep [4] .ret)))
   .skip)))
  (.keep [0, 1, 5, 6, 7, 8] (.seq (.seq (.reg [⟨(some 40), none, (.p .mv), [(.t 7)], none⟩,
    ⟨(some 10), none, (.p .mv), [(.t 40)], none⟩])
  (.keep [0, 1, 5, 6, 7, 8, 10] (.block 2
   (.loop
    (.keep [0, 1, 5, 6, 7, 8, 10] (.seq (.seq (.reg [⟨(some 41), none, (.p .mv), [(.t 10)], none⟩,
      ⟨(some 42), none, (.p .mv), [(.t 0)], none⟩,
      ⟨(some 43), none, (.p .lenS), [(.t 42)], none⟩,
      ⟨(some 44), none, (.p (.bin .lss)), [(.t 41), (.t 43)], none⟩])
    (.keep [0, 1, 5, 6, 7, 8, 10, 44] (.cond (.t 44)
     .skip
     (.keep [] (.exit 2)))))
    (.keep [0, 1, 5, 6, 7, 8, 10] (.block 3
     (.seq (.reg [⟨(some 45), none, (.p .mv), [(.t 8)], none⟩,
       ⟨(some 46), none, (.p (.bin .mul)), [(.t 45), (.c (.int .u32 (.ofNat 16777619)))], none⟩,
       ⟨(some 8), none, (.p .mv), [(.t 46)], none⟩])
     (.keep [0, 1, 5, 6, 7, 8, 10] (.seq (.reg [⟨(some 47), none, (.p .mv), [(.t 8)], none⟩,
       ⟨(some 48), none, (.p .mv), [(.t 0)], none⟩,
       ⟨(some 49), none, (.p .mv), [(.t 10)], none⟩,
       ⟨(some 50), none, (.p .strIndex), [(.t 48), (.t 49)], none⟩,
       ⟨(some 51), none, (.p (.toInt .u32)), [(.t 50)], none⟩,
       ⟨(some 52), none, (.p (.bin .add)), [(.t 47), (.t 51)], none⟩,
       ⟨(some 8), none, (.p .mv), [(.t 52)], none⟩])
     (.keep [0, 1, 5, 6, 7, 8, 10] (.seq (.reg [⟨(some 53), none, (.p .mv), [(.t 8)], none⟩,
       ⟨(some 54), none, (.p .mv), [(.t 6)], none⟩,
       ⟨(some 55), none, (.p .mv), [(.t 0)], none⟩,
       ⟨(some 56), none, (.p .mv), [(.t 10)], none⟩,
       ⟨(some 57), none, (.p .mv), [(.t 7)], none⟩,
       ⟨(some 58), none, (.p (.bin .sub)), [(.t 56), (.t 57)], none⟩,
       ⟨(some 59), none, (.p .strIndex), [(.t 55), (.t 58)], none⟩,
       ⟨(some 60), none, (.p (.toInt .u32)), [(.t 59)], none⟩,
       ⟨(some 61), none, (.p (.bin .mul)), [(.t 54), (.t 60)], none⟩,
       ⟨(some 62), none, (.p (.bin .sub)), [(.t 53), (.t 61)], none⟩,
       ⟨(some 8), none, (.p .mv), [(.t 62)], none⟩])
     (.keep [0, 1, 5, 6, 7, 8, 10] (.seq (.reg [⟨(some 63), none, (.p .mv), [(.t 10)], none⟩,
       ⟨(some 64), none, (.p (.bin .add)), [(.t 63), (.c (.int .i64 (.ofNat 1)))], none⟩,
       ⟨(some 10), none, (.p .mv), [(.t 64)], none⟩])
     (.keep [0, 1, 5, 6, 7, 8, 10] (.seq (.reg [⟨(some 65), none, (.p .mv), [(.t 8)], none⟩,
       ⟨(some 66), none, (.p .mv), [(.t 5)], none⟩,
       ⟨(some 67), none, (.p (.bin .eql)), [(.t 65), (.t 66)], none⟩,
       ⟨(some 68), none, (.p .mv), [(.t 67)], none⟩,
       ⟨(some 69), some (68, true), (.p .mv), [(.t 0)], none⟩,
       ⟨(some 70), some (68, true), (.p .mv), [(.t 10)], none⟩,
       ⟨(some 71), some (68, true), (.p .mv), [(.t 7)], none⟩,
       ⟨(some 72), some (68, true), (.p (.bin .sub)), [(.t 70), (.t 71)], none⟩,
       ⟨(some 73), some (68, true), (.p .mv), [(.t 10)], none⟩,
       ⟨(some 74), some (68, true), (.p (.strSlice true true)), [(.t 69), (.t 72), (.t 73)], none⟩,
       ⟨(some 75), some (68, true), (.p .mv), [(.t 1)], none⟩,
       ⟨(some 76), some (68, true), (.p (.bin .eql)), [(.t 74), (.t 75)], none⟩,
       ⟨(some 77), none, (.p .pick), [(.t 68), (.t 76), (.c (.bool false))], none⟩])
     (.keep [0, 1, 5, 6, 7, 8, 10, 77] (.cond (.t 77)
      (.seq (.reg [⟨(some 78), none, (.p .mv), [(.t 10)], none⟩,
        ⟨(some 79), none, (.p .mv), [(.t 7)], none⟩,
        ⟨(some 80), none, (.p (.bin .sub)), [(.t 78), (.t 79)], none⟩,
        ⟨(some 4), none, (.p .mv), [(.t 80)], none⟩])
      (.keep [4] (.keep [4] .ret)))
      .skip)))))))))))))))))))
  (.keep [] (.seq (.reg [⟨(some 4), none, (.p .mv), [(.c (.int .i64 (.negSucc 0)))], none⟩])
  (.keep [4] (.keep [4] .ret))))))))))))))))),
  [(.t 4)]⟩
def s109_j1 (call : CallK) (N : Nat) (q : KV) (st : St) (τ : Tape) : Ans :=
  match st with
  | ⟨fr, H⟩ =>
  q (.int .i64 (.negSucc 0)) H τ
def s109_l2 (call : CallK) (N : Nat) (st : St) (τ : Tape) (k : KC) : Ans :=
  match st with
  | ⟨fr, H⟩ =>
  getK fr 0 fun t0 =>
  getK fr 1 fun t1 =>
  getK fr 5 fun t5 =>
  getK fr 6 fun t6 =>
  getK fr 7 fun t7 =>
  getK fr 8 fun t8 =>
  getK fr 10 fun t10 =>
  someK (pLenS [t0]) fun v23 =>
  binK .lss t10 v23 fun v24 =>
  condK v24
    (binK .mul t8 (.int .u32 (.ofNat 16777619)) fun v25 =>
  someK (pStrIndex [t0, t10]) fun v26 =>
  toIntK .u32 v26 fun v27 =>
  binK .add v25 v27 fun v28 =>
  binK .sub t10 t7 fun v29 =>
  someK (pStrIndex [t0, v29]) fun v30 =>
  toIntK .u32 v30 fun v31 =>
  binK .mul t6 v31 fun v32 =>
  binK .sub v28 v32 fun v33 =>
  binK .add t10 (.int .i64 (.ofNat 1)) fun v34 =>
  binK .eql v33 t5 fun v35 =>
  gK v35 true (fun q' => q' t0 H τ) H τ fun v36 H37 τ38 =>
  gK v35 true (fun q' => q' v34 H37 τ38) H37 τ38 fun v39 H40 τ41 =>
  gK v35 true (fun q' => q' t7 H40 τ41) H40 τ41 fun v42 H43 τ44 =>
  gK v35 true (fun q' => binK .sub v39 v42 fun v => q' v H43 τ44) H43 τ44 fun v45 H46 τ47 =>
  gK v35 true (fun q' => q' v34 H46 τ47) H46 τ47 fun v48 H49 τ50 =>
  gK v35 true (fun q' => someK (pStrSlice true true [v36, v45, v48]) fun v => q' v H49 τ50) H49 τ50 fun v51 H52 τ53 =>
  gK v35 true (fun q' => q' t1 H52 τ53) H52 τ53 fun v54 H55 τ56 =>
  gK v35 true (fun q' => binK .eql v51 v54 fun v => q' v H55 τ56) H55 τ56 fun v57 H58 τ59 =>
  someK (pPick [v35, v57, (.bool false)]) fun v60 =>
  condK v60
    (binK .sub v34 t7 fun v61 =>
  k .ret ⟨(T.set .leaf 4 v61), H58⟩ τ59)
    (k .normal ⟨(T.set (T.set (T.set (T.set (T.set (T.set (T.set (T.set .leaf 0 t0) 1 t1) 5 t5) 6 t6) 7 t7) 8 v33) 10 v34) 77 v60), H58⟩ τ59))
    (k (.exit 2) ⟨.leaf, H⟩ τ)
def s109_j0 (call : CallK) (N : Nat) (q : KV) (st : St) (τ : Tape) : Ans :=
  match st with
  | ⟨fr, H⟩ =>
  getK fr 0 fun t0 =>
  getK fr 1 fun t1 =>
  getK fr 5 fun t5 =>
  getK fr 6 fun t6 =>
  getK fr 7 fun t7 =>
  getK fr 8 fun t8 =>
  binK .eql t8 t5 fun v6 =>
  gK v6 true (fun q' => q' t0 H τ) H τ fun v7 H8 τ9 =>
  gK v6 true (fun q' => q' t7 H8 τ9) H8 τ9 fun v10 H11 τ12 =>
  gK v6 true (fun q' => someK (pStrSlice false true [v7, v10]) fun v => q' v H11 τ12) H11 τ12 fun v13 H14 τ15 =>
  gK v6 true (fun q' => q' t1 H14 τ15) H14 τ15 fun v16 H17 τ18 =>
  gK v6 true (fun q' => binK .eql v13 v16 fun v => q' v H17 τ18) H17 τ18 fun v19 H20 τ21 =>
  someK (pPick [v6, v19, (.bool false)]) fun v22 =>
  condK v22
    (q (.int .i64 (.ofNat 0)) H20 τ21)
    (loopK (s109_l2 call N) N ⟨(T.set (T.set (T.set (T.set (T.set (T.set (T.set .leaf 0 t0) 1 t1) 5 t5) 6 t6) 7 t7) 8 t8) 10 t7), H20⟩ τ21 (blockK 2 (seqK (s109_j1 call N q) (endK [(.t 4)] q))))
def s109_l3 (call : CallK) (N : Nat) (st : St) (τ : Tape) (k : KC) : Ans :=
  match st with
  | ⟨fr, H⟩ =>
  getK fr 0 fun t0 =>
  getK fr 1 fun t1 =>
  getK fr 5 fun t5 =>
  getK fr 6 fun t6 =>
  getK fr 7 fun t7 =>
  getK fr 8 fun t8 =>
  getK fr 9 fun t9 =>
  binK .lss t9 t7 fun v62 =>
  condK v62
    (binK .mul t8 (.int .u32 (.ofNat 16777619)) fun v63 =>
  someK (pStrIndex [t0, t9]) fun v64 =>
  toIntK .u32 v64 fun v65 =>
  binK .add v63 v65 fun v66 =>
  binK .add t9 (.int .i64 (.ofNat 1)) fun v67 =>
  k .normal ⟨(T.set (T.set (T.set (T.set (T.set (T.set (T.set (T.set (T.set (T.set .leaf 0 t0) 1 t1) 5 t5) 6 t6) 7 t7) 8 v66) 9 t9) 21 t9) 22 v67) 9 v67), H⟩ τ)
    (k (.exit 0) ⟨(T.set (T.set (T.set (T.set (T.set (T.set .leaf 0 t0) 1 t1) 5 t5) 6 t6) 7 t7) 8 t8), H⟩ τ)
def s109 (call : CallK) (N : Nat) (a0 a1 : V) (H : Heap) (τ : Tape) (q : KV) : Ans :=
  call 121 [a1] H τ fun v0 H1 τ2 =>
  someK (pExtract 0 [v0]) fun v3 =>
  someK (pExtract 1 [v0]) fun v4 =>
  someK (pLenS [a1]) fun v5 =>
  loopK (s109_l3 call N) N ⟨(T.set (T.set (T.set (T.set (T.set (T.set (T.set .leaf 0 a0) 1 a1) 5 v3) 6 v4) 7 v5) 8 (.int .u32 (.ofNat 0))) 9 (.int .i64 (.ofNat 0))), H1⟩ τ2 (blockK 0 (seqK (s109_j0 call N q) (endK [(.t 4)] q)))
theorem s109_eq (call : CallK) (N : Nat) (a0 a1 : V) (H : Heap) (τ : Tape) (q : KV) : s109 call N a0 a1 H τ q = funK call N fn109 [a0, a1] H τ q := by kernel_rfl
def e109 (call : CallK) (N : Nat) (vs : List V) (H : Heap) (τ : Tape) (q : KV) : Ans := match vs with | [a0, a1] => s109 call N a0 a1 H τ q | _ => none
theorem e109_ok : EntOk fn109 e109 := by
  intro call N vs H τ q r h
  unfold e109 at h
  split at h
  · rw [s109_eq] at h; exact h
  · cases h
theorem e109_nat : EntNat e109 := by
  intro c hn N vs H τ q
  unfold e109
  split
  · rw [s109_eq, s109_eq]; exact funK_ent hn _ _ _ _ _ _
  · rfl
/-- unicode/utf8.ValidRune -/
def fn114 : Fun := ⟨1,
  (.seq (.reg [⟨(some 2), none, (.p .mv), [(.c (.bool false))], none⟩])
  (.keep [0] (.seq (.block 0
   (.seq (.reg [⟨(some 4), none, (.p .mv), [(.t 0)], none⟩,
     ⟨(some 5), none, (.p (.bin .leq)), [(.c (.int .i32 (.ofNat 0))), (.t 4)], none⟩,
     ⟨(some 6), none, (.p .mv), [(.t 5)], none⟩,
     ⟨(some 7), some (6, true), (.p .mv), [(.t 0)], none⟩,
     ⟨(some 8), some (6, true), (.p (.bin .lss)), [(.t 7), (.c (.int .i32 (.ofNat 55296)))], none⟩,
     ⟨(some 9), none, (.p .pick), [(.t 6), (.t 8), (.c (.bool false))], none⟩,
     ⟨(some 3), none, (.p .mv), [(.t 9)], none⟩])
   (.keep [0, 3] (.cond (.t 3)
    (.seq (.reg [⟨(some 2), none, (.p .mv), [(.c (.bool true))], none⟩])
    (.keep [2] (.keep [2] .ret)))
    (.seq (.reg [⟨(some 11), none, (.p .mv), [(.t 0)], none⟩,
      ⟨(some 12), none, (.p (.bin .lss)), [(.c (.int .i32 (.ofNat 57343))), (.t 11)], none⟩,
      ⟨(some 13), none, (.p .mv), [(.t 12)], none⟩,
      ⟨(some 14), some (13, true), (.p .mv), [(.t 0)], none⟩,
      ⟨(some 15), some (13, true), (.p (.bin .leq)), [(.t 14), (.c (.int .i32 (.ofNat 1114111)))], none⟩,
      ⟨(some 16), none, (.p .pick), [(.t 13), (.t 15), (.c (.bool false))], none⟩,
      ⟨(some 10), none, (.p .mv), [(.t 16)], none⟩])
    (.keep [10] (.cond (.t 10)
     (.seq (.reg [⟨(some 2), none, (.p .mv), [(.c (.bool true))], none⟩])
     (.keep [2] (.keep [2] .ret)))
     .skip)))))))
  (.keep [] (.seq (.reg [⟨(some 2), none, (.p .mv), [(.c (.bool false))], none⟩])
  (.keep [2] (.keep [2] .ret))))))),
  [(.t 2)]⟩
def s114 (call : CallK) (N : Nat) (a0 : V) (H : Heap) (τ : Tape) (q : KV) : Ans :=
  binK .leq (.int .i32 (.ofNat 0)) a0 fun v0 =>
  gK v0 true (fun q' => q' a0 H τ) H τ fun v1 H2 τ3 =>
  gK v0 true (fun q' => binK .lss v1 (.int .i32 (.ofNat 55296)) fun v => q' v H2 τ3) H2 τ3 fun v4 H5 τ6 =>
  someK (pPick [v0, v4, (.bool false)]) fun v7 =>
  condK v7
    (q (.bool true) H5 τ6)
    (binK .lss (.int .i32 (.ofNat 57343)) a0 fun v8 =>
  gK v8 true (fun q' => q' a0 H5 τ6) H5 τ6 fun v9 H10 τ11 =>
  gK v8 true (fun q' => binK .leq v9 (.int .i32 (.ofNat 1114111)) fun v => q' v H10 τ11) H10 τ11 fun v12 H13 τ14 =>
  someK (pPick [v8, v12, (.bool false)]) fun v15 =>
  condK v15
    (q (.bool true) H13 τ14)
    (q (.bool false) H13 τ14))
theorem s114_eq (call : CallK) (N : Nat) (a0 : V) (H : Heap) (τ : Tape) (q : KV) : s114 call N a0 H τ q = funK call N fn114 [a0] H τ q := by kernel_rfl
def e114 (call : CallK) (N : Nat) (vs : List V) (H : Heap) (τ : Tape) (q : KV) : Ans := match vs with | [a0] => s114 call N a0 H τ q | _ => none
theorem e114_ok : EntOk fn114 e114 := by
  intro call N vs H τ q r h
  unfold e114 at h
  split at h
  · rw [s114_eq] at h; exact h
  · cases h
theorem e114_nat : EntNat e114 := by
  intro c hn N vs H τ q
  unfold e114
  split
  · rw [s114_eq, s114_eq]; exact funK_ent hn _ _ _ _ _ _
  · rfl
/-- internal/bytealg.hashStr[string] -/
def fn121 : Fun := ⟨1,
  (.seq (.reg [⟨(some 2), none, (.p .mv), [(.c (.int .u32 (.ofNat 0)))], none⟩,
    ⟨(some 3), none, (.p .mv), [(.c (.int .u32 (.ofNat 0)))], none⟩])
  (.keep [0] (.seq (.reg [⟨(some 4), none, (.p .mv), [(.c (.int .u32 (.ofNat 0)))], none⟩])
  (.keep [0, 4] (.seq (.seq (.reg [⟨(some 5), none, (.p .mv), [(.c (.int .i64 (.ofNat 0)))], none⟩])
  (.keep [0, 4, 5] (.block 0
   (.loop
    (.keep [0, 4, 5] (.seq (.seq (.reg [⟨(some 9), none, (.p .mv), [(.t 5)], none⟩,
      ⟨(some 10), none, (.p .mv), [(.t 0)], none⟩,
      ⟨(some 11), none, (.p .lenS), [(.t 10)], none⟩,
      ⟨(some 12), none, (.p (.bin .lss)), [(.t 9), (.t 11)], none⟩])
    (.keep [0, 4, 5, 12] (.cond (.t 12)
     .skip
     (.keep [0, 4] (.exit 0)))))
    (.keep [0, 4, 5] (.seq (.block 1
     (.reg [⟨(some 15), none, (.p .mv), [(.t 4)], none⟩,
       ⟨(some 16), none, (.p (.bin .mul)), [(.t 15), (.c (.int .u32 (.ofNat 16777619)))], none⟩,
       ⟨(some 17), none, (.p .mv), [(.t 0)], none⟩,
       ⟨(some 18), none, (.p .mv), [(.t 5)], none⟩,
       ⟨(some 19), none, (.p .strIndex), [(.t 17), (.t 18)], none⟩,
       ⟨(some 20), none, (.p (.toInt .u32)), [(.t 19)], none⟩,
       ⟨(some 21), none, (.p (.bin .add)), [(.t 16), (.t 20)], none⟩,
       ⟨(some 4), none, (.p .mv), [(.t 21)], none⟩]))
    (.keep [0, 4, 5] (.reg [⟨(some 13), none, (.p .mv), [(.t 5)], none⟩,
      ⟨(some 14), none, (.p (.bin .add)), [(.t 13), (.c (.int .i64 (.ofNat 1)))], none⟩,
      ⟨(some 5), none, (.p .mv), [(.t 14)], none⟩]))))))))))
  (.keep [0, 4] (.seq (.reg [⟨(some 6), none, (.p .mv), [(.c (.int .u32 (.ofNat 1)))], none⟩,
    ⟨(some 7), none, (.p .mv), [(.c (.int .u32 (.ofNat 16777619)))], none⟩])
  (.keep [0, 4, 6, 7] (.seq (.seq (.reg [⟨(some 22), none, (.p .mv), [(.t 0)], none⟩,
    ⟨(some 23), none, (.p .lenS), [(.t 22)], none⟩,
    ⟨(some 8), none, (.p .mv), [(.t 23)], none⟩])
  (.keep [4, 6, 7, 8] (.block 2
   (.loop
    (.keep [4, 6, 7, 8] (.seq (.seq (.reg [⟨(some 24), none, (.p .mv), [(.t 8)], none⟩,
      ⟨(some 25), none, (.p (.bin .gtr)), [(.t 24), (.c (.int .i64 (.ofNat 0)))], none⟩])
    (.keep [4, 6, 7, 8, 25] (.cond (.t 25)
     .skip
     (.keep [4, 6] (.exit 2)))))
    (.keep [4, 6, 7, 8] (.seq (.block 3
     (.seq (.seq (.reg [⟨(some 28), none, (.p .mv), [(.t 8)], none⟩,
       ⟨(some 29), none, (.p (.bin .and)), [(.t 28), (.c (.int .i64 (.ofNat 1)))], none⟩,
       ⟨(some 30), none, (.p (.bin .neq)), [(.t 29), (.c (.int .i64 (.ofNat 0)))], none⟩])
     (.keep [4, 6, 7, 8, 30] (.cond (.t 30)
      (.reg [⟨(some 31), none, (.p .mv), [(.t 6)], none⟩,
        ⟨(some 32), none, (.p .mv), [(.t 7)], none⟩,
        ⟨(some 33), none, (.p (.bin .mul)), [(.t 31), (.t 32)], none⟩,
        ⟨(some 6), none, (.p .mv), [(.t 33)], none⟩])
      .skip)))
     (.keep [4, 6, 7, 8] (.reg [⟨(some 34), none, (.p .mv), [(.t 7)], none⟩,
       ⟨(some 35), none, (.p .mv), [(.t 7)], none⟩,
       ⟨(some 36), none, (.p (.bin .mul)), [(.t 34), (.t 35)], none⟩,
       ⟨(some 7), none, (.p .mv), [(.t 36)], none⟩]))))
    (.keep [4, 6, 7, 8] (.reg [⟨(some 26), none, (.p .mv), [(.t 8)], none⟩,
      ⟨(some 27), none, (.p (.bin .shr)), [(.t 26), (.c (.int .u64 (.ofNat 1)))], none⟩,
      ⟨(some 8), none, (.p .mv), [(.t 27)], none⟩]))))))))))
  (.keep [4, 6] (.seq (.reg [⟨(some 37), none, (.p .mv), [(.t 4)], none⟩,
    ⟨(some 38), none, (.p .mv), [(.t 6)], none⟩,
    ⟨(some 2), none, (.p .mv), [(.t 37)], none⟩,
    ⟨(some 3), none, (.p .mv), [(.t 38)], none⟩])
  (.keep [2, 3] (.keep [2, 3] .ret))))))))))))),
  [(.t 2), (.t 3)]⟩
def s121_j1 (call : CallK) (N : Nat) (q : KV) (st : St) (τ : Tape) : Ans :=
  match st with
  | ⟨fr, H⟩ =>
  getK fr 4 fun t4 =>
  getK fr 6 fun t6 =>
  q (.tup [t4, t6]) H τ
def s121_j3 (call : CallK) (N : Nat) (k : KC) (st : St) (τ : Tape) : Ans :=
  match st with
  | ⟨fr, H⟩ =>
  getK fr 4 fun t4 =>
  getK fr 6 fun t6 =>
  getK fr 7 fun t7 =>
  getK fr 8 fun t8 =>
  binK .shr t8 (.int .u64 (.ofNat 1)) fun v4 =>
  k .normal ⟨(T.set (T.set (T.set (T.set (T.set (T.set (T.set .leaf 4 t4) 6 t6) 7 t7) 8 t8) 26 t8) 27 v4) 8 v4), H⟩ τ
def s121_j4 (call : CallK) (N : Nat) (k : KC) (st : St) (τ : Tape) : Ans :=
  match st with
  | ⟨fr, H⟩ =>
  getK fr 4 fun t4 =>
  getK fr 6 fun t6 =>
  getK fr 7 fun t7 =>
  getK fr 8 fun t8 =>
  binK .mul t7 t7 fun v5 =>
  s121_j3 call N k ⟨(T.set (T.set (T.set (T.set (T.set (T.set (T.set (T.set .leaf 4 t4) 6 t6) 7 t7) 8 t8) 34 t7) 35 t7) 36 v5) 7 v5), H⟩ τ
def s121_l2 (call : CallK) (N : Nat) (st : St) (τ : Tape) (k : KC) : Ans :=
  match st with
  | ⟨fr, H⟩ =>
  getK fr 4 fun t4 =>
  getK fr 6 fun t6 =>
  getK fr 7 fun t7 =>
  getK fr 8 fun t8 =>
  binK .gtr t8 (.int .i64 (.ofNat 0)) fun v1 =>
  condK v1
    (binK .and t8 (.int .i64 (.ofNat 1)) fun v2 =>
  binK .neq v2 (.int .i64 (.ofNat 0)) fun v3 =>
  condK v3
    (binK .mul t6 t7 fun v6 =>
  s121_j4 call N k ⟨(T.set (T.set (T.set (T.set (T.set (T.set (T.set (T.set (T.set .leaf 4 t4) 6 t6) 7 t7) 8 t8) 30 v3) 31 t6) 32 t7) 33 v6) 6 v6), H⟩ τ)
    (s121_j4 call N k ⟨(T.set (T.set (T.set (T.set (T.set .leaf 4 t4) 6 t6) 7 t7) 8 t8) 30 v3), H⟩ τ))
    (k (.exit 2) ⟨(T.set (T.set .leaf 4 t4) 6 t6), H⟩ τ)
def s121_j0 (call : CallK) (N : Nat) (q : KV) (st : St) (τ : Tape) : Ans :=
  match st with
  | ⟨fr, H⟩ =>
  getK fr 0 fun t0 =>
  getK fr 4 fun t4 =>
  someK (pLenS [t0]) fun v0 =>
  loopK (s121_l2 call N) N ⟨(T.set (T.set (T.set (T.set .leaf 4 t4) 6 (.int .u32 (.ofNat 1))) 7 (.int .u32 (.ofNat 16777619))) 8 v0), H⟩ τ (blockK 2 (seqK (s121_j1 call N q) (endK [(.t 2), (.t 3)] q)))
def s121_l5 (call : CallK) (N : Nat) (st : St) (τ : Tape) (k : KC) : Ans :=
  match st with
  | ⟨fr, H⟩ =>
  getK fr 0 fun t0 =>
  getK fr 4 fun t4 =>
  getK fr 5 fun t5 =>
  someK (pLenS [t0]) fun v7 =>
  binK .lss t5 v7 fun v8 =>
  condK v8
    (binK .mul t4 (.int .u32 (.ofNat 16777619)) fun v9 =>
  someK (pStrIndex [t0, t5]) fun v10 =>
  toIntK .u32 v10 fun v11 =>
  binK .add v9 v11 fun v12 =>
  binK .add t5 (.int .i64 (.ofNat 1)) fun v13 =>
  k .normal ⟨(T.set (T.set (T.set (T.set (T.set (T.set .leaf 0 t0) 4 v12) 5 t5) 13 t5) 14 v13) 5 v13), H⟩ τ)
    (k (.exit 0) ⟨(T.set (T.set .leaf 0 t0) 4 t4), H⟩ τ)
def s121 (call : CallK) (N : Nat) (a0 : V) (H : Heap) (τ : Tape) (q : KV) : Ans :=
  loopK (s121_l5 call N) N ⟨(T.set (T.set (T.set .leaf 0 a0) 4 (.int .u32 (.ofNat 0))) 5 (.int .i64 (.ofNat 0))), H⟩ τ (blockK 0 (seqK (s121_j0 call N q) (endK [(.t 2), (.t 3)] q)))
theorem s121_eq (call : CallK) (N : Nat) (a0 : V) (H : Heap) (τ : Tape) (q : KV) : s121 call N a0 H τ q = funK call N fn121 [a0] H τ q := by kernel_rfl
def e121 (call : CallK) (N : Nat) (vs : List V) (H : Heap) (τ : Tape) (q : KV) : Ans := match vs with | [a0] => s121 call N a0 H τ q | _ => none
theorem e121_ok : EntOk fn121 e121 := by
  intro call N vs H τ q r h
  unfold e121 at h
  split at h
  · rw [s121_eq] at h; exact h
  · cases h
theorem e121_nat : EntNat e121 := by
  intro c hn N vs H τ q
  unfold e121
  split
  · rw [s121_eq, s121_eq]; exact funK_ent hn _ _ _ _ _ _
  · rfl
def tabF : T Def := (.node none (.node none (.node (some (.fn fn3)) (.node none (.node (some (.fn fn15)) (.node none (.node (some (.fn fn63)) .leaf .leaf) .leaf) .leaf) (.node none (.node (some (.fn fn39)) .leaf .leaf) .leaf)) (.node (some (.prim closedP)) (.node none (.node (some (.fn fn35)) (.node (some (.fn fn67)) .leaf .leaf) .leaf) (.node none (.node (some (.fn fn83)) .leaf .leaf) .leaf)) (.node none (.node none (.node (some (.fn fn75)) .leaf .leaf) .leaf) (.node (some (.fn fn59)) .leaf .leaf)))) (.node none (.node none (.node (some (.fn fn17)) (.node none (.node (some (.fn fn65)) .leaf .leaf) .leaf) (.node none (.node (some (.fn fn81)) .leaf .leaf) .leaf)) (.node none (.node (some (.fn fn41)) .leaf (.node (some (.fn fn105)) .leaf .leaf)) (.node none .leaf (.node (some (.fn fn121)) .leaf .leaf)))) (.node (some (.fn fn13)) (.node none (.node (some (.fn fn37)) (.node (some (.fn fn69)) .leaf .leaf) .leaf) (.node none (.node (some (.fn fn85)) .leaf .leaf) .leaf)) (.node none (.node (some (.fn fn45)) .leaf (.node (some (.fn fn109)) .leaf .leaf)) (.node (some (.fn fn61)) .leaf .leaf))))) (.node none (.node (some (.fn fn4)) (.node none (.node (some (.fn fn16)) (.node none (.node (some (.fn fn64)) .leaf .leaf) .leaf) .leaf) (.node none (.node (some (.fn fn40)) .leaf .leaf) .leaf)) (.node (some (.fn fn12)) (.node (some (.fn fn20)) (.node (some (.fn fn36)) (.node (some (.fn fn68)) .leaf .leaf) .leaf) (.node none (.node (some (.fn fn84)) .leaf .leaf) .leaf)) (.node none (.node none .leaf (.node (some (.fn fn108)) .leaf .leaf)) (.node (some (.fn fn60)) (.node (some (.fn fn92)) .leaf .leaf) .leaf)))) (.node none (.node (some (.fn fn10)) (.node (some (.fn fn18)) (.node none (.node (some (.fn fn66)) .leaf .leaf) .leaf) (.node none (.node (some (.fn fn82)) .leaf .leaf) (.node (some (.fn fn114)) .leaf .leaf))) (.node none (.node (some (.fn fn42)) .leaf (.node (some (.fn fn106)) .leaf .leaf)) (.node (some (.fn fn58)) .leaf .leaf))) (.node (some (.fn fn14)) (.node none (.node (some (.fn fn38)) (.node (some (.fn fn70)) .leaf .leaf) .leaf) (.node none (.node (some (.prim idxP)) .leaf .leaf) .leaf)) (.node none (.node (some (.prim joinP)) .leaf .leaf) (.node (some (.fn fn62)) .leaf .leaf))))))
def tabE : T Ent := (.node none (.node none (.node (some e3) (.node none (.node (some e15) (.node none (.node (some e63) .leaf .leaf) .leaf) .leaf) (.node none (.node (some e39) .leaf .leaf) .leaf)) (.node (some (PrimEnt closedP)) (.node none (.node (some e35) (.node (some e67) .leaf .leaf) .leaf) (.node none (.node (some e83) .leaf .leaf) .leaf)) (.node none (.node none (.node (some e75) .leaf .leaf) .leaf) (.node (some e59) .leaf .leaf)))) (.node none (.node none (.node (some e17) (.node none (.node (some e65) .leaf .leaf) .leaf) (.node none (.node (some e81) .leaf .leaf) .leaf)) (.node none (.node (some e41) .leaf (.node (some e105) .leaf .leaf)) (.node none .leaf (.node (some e121) .leaf .leaf)))) (.node (some e13) (.node none (.node (some e37) (.node (some e69) .leaf .leaf) .leaf) (.node none (.node (some e85) .leaf .leaf) .leaf)) (.node none (.node (some e45) .leaf (.node (some e109) .leaf .leaf)) (.node (some e61) .leaf .leaf))))) (.node none (.node (some e4) (.node none (.node (some e16) (.node none (.node (some e64) .leaf .leaf) .leaf) .leaf) (.node none (.node (some e40) .leaf .leaf) .leaf)) (.node (some e12) (.node (some e20) (.node (some e36) (.node (some e68) .leaf .leaf) .leaf) (.node none (.node (some e84) .leaf .leaf) .leaf)) (.node none (.node none .leaf (.node (some e108) .leaf .leaf)) (.node (some e60) (.node (some e92) .leaf .leaf) .leaf)))) (.node none (.node (some e10) (.node (some e18) (.node none (.node (some e66) .leaf .leaf) .leaf) (.node none (.node (some e82) .leaf .leaf) (.node (some e114) .leaf .leaf))) (.node none (.node (some e42) .leaf (.node (some e106) .leaf .leaf)) (.node (some e58) .leaf .leaf))) (.node (some e14) (.node none (.node (some e38) (.node (some e70) .leaf .leaf) .leaf) (.node none (.node (some (PrimEnt idxP)) .leaf .leaf) .leaf)) (.node none (.node (some (PrimEnt joinP)) .leaf .leaf) (.node (some e62) .leaf .leaf))))))
theorem tab_ok (N : Nat) : TabOk tabF.get N (tabOf tabE N) := tabOf_okP (E := tabE) (F := tabF) N fun f e h => T.All_get (t := tabE) (P := fun f e => (∃ fn, tabF.get f = some (.fn fn) ∧ EntOk fn e) ∨ (∃ p, tabF.get f = some (.prim p) ∧ e = PrimEnt p)) (.intro trivial (.intro (.intro trivial (.intro (.intro (.inl ⟨fn3, rfl, e3_ok⟩) (.intro (.intro trivial (.intro (.intro (.inl ⟨fn15, rfl, e15_ok⟩) (.intro (.intro trivial (.intro (.intro (.inl ⟨fn63, rfl, e63_ok⟩) (.intro trivial trivial)) trivial)) trivial)) (.intro trivial (.intro (.intro (.inl ⟨fn39, rfl, e39_ok⟩) (.intro trivial trivial)) trivial)))) (.intro (.inr ⟨closedP, rfl, rfl⟩) (.intro (.intro trivial (.intro (.intro (.inl ⟨fn35, rfl, e35_ok⟩) (.intro (.intro (.inl ⟨fn67, rfl, e67_ok⟩) (.intro trivial trivial)) trivial)) (.intro trivial (.intro (.intro (.inl ⟨fn83, rfl, e83_ok⟩) (.intro trivial trivial)) trivial)))) (.intro trivial (.intro (.intro trivial (.intro (.intro (.inl ⟨fn75, rfl, e75_ok⟩) (.intro trivial trivial)) trivial)) (.intro (.inl ⟨fn59, rfl, e59_ok⟩) (.intro trivial trivial)))))))) (.intro trivial (.intro (.intro trivial (.intro (.intro (.inl ⟨fn17, rfl, e17_ok⟩) (.intro (.intro trivial (.intro (.intro (.inl ⟨fn65, rfl, e65_ok⟩) (.intro trivial trivial)) trivial)) (.intro trivial (.intro (.intro (.inl ⟨fn81, rfl, e81_ok⟩) (.intro trivial trivial)) trivial)))) (.intro trivial (.intro (.intro (.inl ⟨fn41, rfl, e41_ok⟩) (.intro trivial (.intro (.inl ⟨fn105, rfl, e105_ok⟩) (.intro trivial trivial)))) (.intro trivial (.intro trivial (.intro (.inl ⟨fn121, rfl, e121_ok⟩) (.intro trivial trivial)))))))) (.intro (.inl ⟨fn13, rfl, e13_ok⟩) (.intro (.intro trivial (.intro (.intro (.inl ⟨fn37, rfl, e37_ok⟩) (.intro (.intro (.inl ⟨fn69, rfl, e69_ok⟩) (.intro trivial trivial)) trivial)) (.intro trivial (.intro (.intro (.inl ⟨fn85, rfl, e85_ok⟩) (.intro trivial trivial)) trivial)))) (.intro trivial (.intro (.intro (.inl ⟨fn45, rfl, e45_ok⟩) (.intro trivial (.intro (.inl ⟨fn109, rfl, e109_ok⟩) (.intro trivial trivial)))) (.intro (.inl ⟨fn61, rfl, e61_ok⟩) (.intro trivial trivial)))))))))) (.intro trivial (.intro (.intro (.inl ⟨fn4, rfl, e4_ok⟩) (.intro (.intro trivial (.intro (.intro (.inl ⟨fn16, rfl, e16_ok⟩) (.intro (.intro trivial (.intro (.intro (.inl ⟨fn64, rfl, e64_ok⟩) (.intro trivial trivial)) trivial)) trivial)) (.intro trivial (.intro (.intro (.inl ⟨fn40, rfl, e40_ok⟩) (.intro trivial trivial)) trivial)))) (.intro (.inl ⟨fn12, rfl, e12_ok⟩) (.intro (.intro (.inl ⟨fn20, rfl, e20_ok⟩) (.intro (.intro (.inl ⟨fn36, rfl, e36_ok⟩) (.intro (.intro (.inl ⟨fn68, rfl, e68_ok⟩) (.intro trivial trivial)) trivial)) (.intro trivial (.intro (.intro (.inl ⟨fn84, rfl, e84_ok⟩) (.intro trivial trivial)) trivial)))) (.intro trivial (.intro (.intro trivial (.intro trivial (.intro (.inl ⟨fn108, rfl, e108_ok⟩) (.intro trivial trivial)))) (.intro (.inl ⟨fn60, rfl, e60_ok⟩) (.intro (.intro (.inl ⟨fn92, rfl, e92_ok⟩) (.intro trivial trivial)) trivial)))))))) (.intro trivial (.intro (.intro (.inl ⟨fn10, rfl, e10_ok⟩) (.intro (.intro (.inl ⟨fn18, rfl, e18_ok⟩) (.intro (.intro trivial (.intro (.intro (.inl ⟨fn66, rfl, e66_ok⟩) (.intro trivial trivial)) trivial)) (.intro trivial (.intro (.intro (.inl ⟨fn82, rfl, e82_ok⟩) (.intro trivial trivial)) (.intro (.inl ⟨fn114, rfl, e114_ok⟩) (.intro trivial trivial)))))) (.intro trivial (.intro (.intro (.inl ⟨fn42, rfl, e42_ok⟩) (.intro trivial (.intro (.inl ⟨fn106, rfl, e106_ok⟩) (.intro trivial trivial)))) (.intro (.inl ⟨fn58, rfl, e58_ok⟩) (.intro trivial trivial)))))) (.intro (.inl ⟨fn14, rfl, e14_ok⟩) (.intro (.intro trivial (.intro (.intro (.inl ⟨fn38, rfl, e38_ok⟩) (.intro (.intro (.inl ⟨fn70, rfl, e70_ok⟩) (.intro trivial trivial)) trivial)) (.intro trivial (.intro (.intro (.inr ⟨idxP, rfl, rfl⟩) (.intro trivial trivial)) trivial)))) (.intro trivial (.intro (.intro (.inr ⟨joinP, rfl, rfl⟩) (.intro trivial trivial)) (.intro (.inl ⟨fn62, rfl, e62_ok⟩) (.intro trivial trivial)))))))))))) h
theorem tab_nat (N d : Nat) : CallNat (callK (tabOf tabE N) d) := callK_nat N (fun f e h => T.All_get (t := tabE) (P := fun _ e => EntNat e) (.intro trivial (.intro (.intro trivial (.intro (.intro e3_nat (.intro (.intro trivial (.intro (.intro e15_nat (.intro (.intro trivial (.intro (.intro e63_nat (.intro trivial trivial)) trivial)) trivial)) (.intro trivial (.intro (.intro e39_nat (.intro trivial trivial)) trivial)))) (.intro (PrimEnt_nat closedP) (.intro (.intro trivial (.intro (.intro e35_nat (.intro (.intro e67_nat (.intro trivial trivial)) trivial)) (.intro trivial (.intro (.intro e83_nat (.intro trivial trivial)) trivial)))) (.intro trivial (.intro (.intro trivial (.intro (.intro e75_nat (.intro trivial trivial)) trivial)) (.intro e59_nat (.intro trivial trivial)))))))) (.intro trivial (.intro (.intro trivial (.intro (.intro e17_nat (.intro (.intro trivial (.intro (.intro e65_nat (.intro trivial trivial)) trivial)) (.intro trivial (.intro (.intro e81_nat (.intro trivial trivial)) trivial)))) (.intro trivial (.intro (.intro e41_nat (.intro trivial (.intro e105_nat (.intro trivial trivial)))) (.intro trivial (.intro trivial (.intro e121_nat (.intro trivial trivial)))))))) (.intro e13_nat (.intro (.intro trivial (.intro (.intro e37_nat (.intro (.intro e69_nat (.intro trivial trivial)) trivial)) (.intro trivial (.intro (.intro e85_nat (.intro trivial trivial)) trivial)))) (.intro trivial (.intro (.intro e45_nat (.intro trivial (.intro e109_nat (.intro trivial trivial)))) (.intro e61_nat (.intro trivial trivial)))))))))) (.intro trivial (.intro (.intro e4_nat (.intro (.intro trivial (.intro (.intro e16_nat (.intro (.intro trivial (.intro (.intro e64_nat (.intro trivial trivial)) trivial)) trivial)) (.intro trivial (.intro (.intro e40_nat (.intro trivial trivial)) trivial)))) (.intro e12_nat (.intro (.intro e20_nat (.intro (.intro e36_nat (.intro (.intro e68_nat (.intro trivial trivial)) trivial)) (.intro trivial (.intro (.intro e84_nat (.intro trivial trivial)) trivial)))) (.intro trivial (.intro (.intro trivial (.intro trivial (.intro e108_nat (.intro trivial trivial)))) (.intro e60_nat (.intro (.intro e92_nat (.intro trivial trivial)) trivial)))))))) (.intro trivial (.intro (.intro e10_nat (.intro (.intro e18_nat (.intro (.intro trivial (.intro (.intro e66_nat (.intro trivial trivial)) trivial)) (.intro trivial (.intro (.intro e82_nat (.intro trivial trivial)) (.intro e114_nat (.intro trivial trivial)))))) (.intro trivial (.intro (.intro e42_nat (.intro trivial (.intro e106_nat (.intro trivial trivial)))) (.intro e58_nat (.intro trivial trivial)))))) (.intro e14_nat (.intro (.intro trivial (.intro (.intro e38_nat (.intro (.intro e70_nat (.intro trivial trivial)) trivial)) (.intro trivial (.intro (.intro (PrimEnt_nat idxP) (.intro trivial trivial)) trivial)))) (.intro trivial (.intro (.intro (PrimEnt_nat joinP) (.intro trivial trivial)) (.intro e62_nat (.intro trivial trivial)))))))))))) h) d
def tabFk : T Def := (.node none (.node none (.node none (.node none (.node none (.node none (.node (some (.fn fn63)) .leaf .leaf) .leaf) .leaf) (.node none (.node (some (.fn fn39)) .leaf .leaf) .leaf)) (.node (some (.fn fn11)) (.node none (.node (some (.fn fn35)) (.node (some (.fn fn67)) .leaf .leaf) .leaf) (.node none (.node (some (.fn fn83)) .leaf .leaf) .leaf)) (.node none (.node none (.node (some (.fn fn75)) .leaf .leaf) .leaf) (.node (some (.fn fn59)) .leaf .leaf)))) (.node none (.node none (.node (some (.fn fn17)) (.node none (.node (some (.fn fn65)) .leaf .leaf) .leaf) (.node none (.node (some (.fn fn81)) .leaf .leaf) .leaf)) (.node none (.node (some (.fn fn41)) .leaf (.node (some (.fn fn105)) .leaf .leaf)) (.node none .leaf (.node (some (.fn fn121)) .leaf .leaf)))) (.node (some (.fn fn13)) (.node none (.node (some (.fn fn37)) (.node (some (.fn fn69)) .leaf .leaf) .leaf) (.node none (.node (some (.fn fn85)) .leaf .leaf) .leaf)) (.node none (.node (some (.fn fn45)) .leaf (.node (some (.fn fn109)) .leaf .leaf)) (.node (some (.fn fn61)) .leaf .leaf))))) (.node none (.node none (.node none (.node none (.node none (.node (some (.fn fn64)) .leaf .leaf) .leaf) .leaf) (.node none (.node (some (.fn fn40)) .leaf .leaf) .leaf)) (.node (some (.fn fn12)) (.node (some (.fn fn20)) (.node (some (.fn fn36)) (.node (some (.fn fn68)) .leaf .leaf) .leaf) (.node none (.node (some (.fn fn84)) .leaf .leaf) .leaf)) (.node none (.node none .leaf (.node (some (.fn fn108)) .leaf .leaf)) (.node (some (.fn fn60)) (.node (some (.fn fn92)) .leaf .leaf) .leaf)))) (.node none (.node none (.node (some (.fn fn18)) (.node none (.node (some (.fn fn66)) .leaf .leaf) .leaf) (.node none (.node (some (.fn fn82)) .leaf .leaf) (.node (some (.fn fn114)) .leaf .leaf))) (.node none (.node (some (.fn fn42)) .leaf (.node (some (.fn fn106)) .leaf .leaf)) (.node (some (.fn fn58)) .leaf .leaf))) (.node (some (.fn fn14)) (.node none (.node (some (.fn fn38)) (.node (some (.fn fn70)) .leaf .leaf) .leaf) (.node none (.node (some (.prim idxP)) .leaf .leaf) .leaf)) (.node none (.node (some (.prim joinP)) .leaf .leaf) (.node (some (.fn fn62)) .leaf .leaf))))))
def tabEk : T Ent := (.node none (.node none (.node none (.node none (.node none (.node none (.node (some e63) .leaf .leaf) .leaf) .leaf) (.node none (.node (some e39) .leaf .leaf) .leaf)) (.node (some e11) (.node none (.node (some e35) (.node (some e67) .leaf .leaf) .leaf) (.node none (.node (some e83) .leaf .leaf) .leaf)) (.node none (.node none (.node (some e75) .leaf .leaf) .leaf) (.node (some e59) .leaf .leaf)))) (.node none (.node none (.node (some e17) (.node none (.node (some e65) .leaf .leaf) .leaf) (.node none (.node (some e81) .leaf .leaf) .leaf)) (.node none (.node (some e41) .leaf (.node (some e105) .leaf .leaf)) (.node none .leaf (.node (some e121) .leaf .leaf)))) (.node (some e13) (.node none (.node (some e37) (.node (some e69) .leaf .leaf) .leaf) (.node none (.node (some e85) .leaf .leaf) .leaf)) (.node none (.node (some e45) .leaf (.node (some e109) .leaf .leaf)) (.node (some e61) .leaf .leaf))))) (.node none (.node none (.node none (.node none (.node none (.node (some e64) .leaf .leaf) .leaf) .leaf) (.node none (.node (some e40) .leaf .leaf) .leaf)) (.node (some e12) (.node (some e20) (.node (some e36) (.node (some e68) .leaf .leaf) .leaf) (.node none (.node (some e84) .leaf .leaf) .leaf)) (.node none (.node none .leaf (.node (some e108) .leaf .leaf)) (.node (some e60) (.node (some e92) .leaf .leaf) .leaf)))) (.node none (.node none (.node (some e18) (.node none (.node (some e66) .leaf .leaf) .leaf) (.node none (.node (some e82) .leaf .leaf) (.node (some e114) .leaf .leaf))) (.node none (.node (some e42) .leaf (.node (some e106) .leaf .leaf)) (.node (some e58) .leaf .leaf))) (.node (some e14) (.node none (.node (some e38) (.node (some e70) .leaf .leaf) .leaf) (.node none (.node (some (PrimEnt idxP)) .leaf .leaf) .leaf)) (.node none (.node (some (PrimEnt joinP)) .leaf .leaf) (.node (some e62) .leaf .leaf))))))
theorem tabk_ok (N : Nat) : TabOk tabFk.get N (tabOf tabEk N) := tabOf_okP (E := tabEk) (F := tabFk) N fun f e h => T.All_get (t := tabEk) (P := fun f e => (∃ fn, tabFk.get f = some (.fn fn) ∧ EntOk fn e) ∨ (∃ p, tabFk.get f = some (.prim p) ∧ e = PrimEnt p)) (.intro trivial (.intro (.intro trivial (.intro (.intro trivial (.intro (.intro trivial (.intro (.intro trivial (.intro (.intro trivial (.intro (.intro (.inl ⟨fn63, rfl, e63_ok⟩) (.intro trivial trivial)) trivial)) trivial)) (.intro trivial (.intro (.intro (.inl ⟨fn39, rfl, e39_ok⟩) (.intro trivial trivial)) trivial)))) (.intro (.inl ⟨fn11, rfl, e11_ok⟩) (.intro (.intro trivial (.intro (.intro (.inl ⟨fn35, rfl, e35_ok⟩) (.intro (.intro (.inl ⟨fn67, rfl, e67_ok⟩) (.intro trivial trivial)) trivial)) (.intro trivial (.intro (.intro (.inl ⟨fn83, rfl, e83_ok⟩) (.intro trivial trivial)) trivial)))) (.intro trivial (.intro (.intro trivial (.intro (.intro (.inl ⟨fn75, rfl, e75_ok⟩) (.intro trivial trivial)) trivial)) (.intro (.inl ⟨fn59, rfl, e59_ok⟩) (.intro trivial trivial)))))))) (.intro trivial (.intro (.intro trivial (.intro (.intro (.inl ⟨fn17, rfl, e17_ok⟩) (.intro (.intro trivial (.intro (.intro (.inl ⟨fn65, rfl, e65_ok⟩) (.intro trivial trivial)) trivial)) (.intro trivial (.intro (.intro (.inl ⟨fn81, rfl, e81_ok⟩) (.intro trivial trivial)) trivial)))) (.intro trivial (.intro (.intro (.inl ⟨fn41, rfl, e41_ok⟩) (.intro trivial (.intro (.inl ⟨fn105, rfl, e105_ok⟩) (.intro trivial trivial)))) (.intro trivial (.intro trivial (.intro (.inl ⟨fn121, rfl, e121_ok⟩) (.intro trivial trivial)))))))) (.intro (.inl ⟨fn13, rfl, e13_ok⟩) (.intro (.intro trivial (.intro (.intro (.inl ⟨fn37, rfl, e37_ok⟩) (.intro (.intro (.inl ⟨fn69, rfl, e69_ok⟩) (.intro trivial trivial)) trivial)) (.intro trivial (.intro (.intro (.inl ⟨fn85, rfl, e85_ok⟩) (.intro trivial trivial)) trivial)))) (.intro trivial (.intro (.intro (.inl ⟨fn45, rfl, e45_ok⟩) (.intro trivial (.intro (.inl ⟨fn109, rfl, e109_ok⟩) (.intro trivial trivial)))) (.intro (.inl ⟨fn61, rfl, e61_ok⟩) (.intro trivial trivial)))))))))) (.intro trivial (.intro (.intro trivial (.intro (.intro trivial (.intro (.intro trivial (.intro (.intro trivial (.intro (.intro (.inl ⟨fn64, rfl, e64_ok⟩) (.intro trivial trivial)) trivial)) trivial)) (.intro trivial (.intro (.intro (.inl ⟨fn40, rfl, e40_ok⟩) (.intro trivial trivial)) trivial)))) (.intro (.inl ⟨fn12, rfl, e12_ok⟩) (.intro (.intro (.inl ⟨fn20, rfl, e20_ok⟩) (.intro (.intro (.inl ⟨fn36, rfl, e36_ok⟩) (.intro (.intro (.inl ⟨fn68, rfl, e68_ok⟩) (.intro trivial trivial)) trivial)) (.intro trivial (.intro (.intro (.inl ⟨fn84, rfl, e84_ok⟩) (.intro trivial trivial)) trivial)))) (.intro trivial (.intro (.intro trivial (.intro trivial (.intro (.inl ⟨fn108, rfl, e108_ok⟩) (.intro trivial trivial)))) (.intro (.inl ⟨fn60, rfl, e60_ok⟩) (.intro (.intro (.inl ⟨fn92, rfl, e92_ok⟩) (.intro trivial trivial)) trivial)))))))) (.intro trivial (.intro (.intro trivial (.intro (.intro (.inl ⟨fn18, rfl, e18_ok⟩) (.intro (.intro trivial (.intro (.intro (.inl ⟨fn66, rfl, e66_ok⟩) (.intro trivial trivial)) trivial)) (.intro trivial (.intro (.intro (.inl ⟨fn82, rfl, e82_ok⟩) (.intro trivial trivial)) (.intro (.inl ⟨fn114, rfl, e114_ok⟩) (.intro trivial trivial)))))) (.intro trivial (.intro (.intro (.inl ⟨fn42, rfl, e42_ok⟩) (.intro trivial (.intro (.inl ⟨fn106, rfl, e106_ok⟩) (.intro trivial trivial)))) (.intro (.inl ⟨fn58, rfl, e58_ok⟩) (.intro trivial trivial)))))) (.intro (.inl ⟨fn14, rfl, e14_ok⟩) (.intro (.intro trivial (.intro (.intro (.inl ⟨fn38, rfl, e38_ok⟩) (.intro (.intro (.inl ⟨fn70, rfl, e70_ok⟩) (.intro trivial trivial)) trivial)) (.intro trivial (.intro (.intro (.inr ⟨idxP, rfl, rfl⟩) (.intro trivial trivial)) trivial)))) (.intro trivial (.intro (.intro (.inr ⟨joinP, rfl, rfl⟩) (.intro trivial trivial)) (.intro (.inl ⟨fn62, rfl, e62_ok⟩) (.intro trivial trivial)))))))))))) h
theorem tabk_nat (N d : Nat) : CallNat (callK (tabOf tabEk N) d) := callK_nat N (fun f e h => T.All_get (t := tabEk) (P := fun _ e => EntNat e) (.intro trivial (.intro (.intro trivial (.intro (.intro trivial (.intro (.intro trivial (.intro (.intro trivial (.intro (.intro trivial (.intro (.intro e63_nat (.intro trivial trivial)) trivial)) trivial)) (.intro trivial (.intro (.intro e39_nat (.intro trivial trivial)) trivial)))) (.intro e11_nat (.intro (.intro trivial (.intro (.intro e35_nat (.intro (.intro e67_nat (.intro trivial trivial)) trivial)) (.intro trivial (.intro (.intro e83_nat (.intro trivial trivial)) trivial)))) (.intro trivial (.intro (.intro trivial (.intro (.intro e75_nat (.intro trivial trivial)) trivial)) (.intro e59_nat (.intro trivial trivial)))))))) (.intro trivial (.intro (.intro trivial (.intro (.intro e17_nat (.intro (.intro trivial (.intro (.intro e65_nat (.intro trivial trivial)) trivial)) (.intro trivial (.intro (.intro e81_nat (.intro trivial trivial)) trivial)))) (.intro trivial (.intro (.intro e41_nat (.intro trivial (.intro e105_nat (.intro trivial trivial)))) (.intro trivial (.intro trivial (.intro e121_nat (.intro trivial trivial)))))))) (.intro e13_nat (.intro (.intro trivial (.intro (.intro e37_nat (.intro (.intro e69_nat (.intro trivial trivial)) trivial)) (.intro trivial (.intro (.intro e85_nat (.intro trivial trivial)) trivial)))) (.intro trivial (.intro (.intro e45_nat (.intro trivial (.intro e109_nat (.intro trivial trivial)))) (.intro e61_nat (.intro trivial trivial)))))))))) (.intro trivial (.intro (.intro trivial (.intro (.intro trivial (.intro (.intro trivial (.intro (.intro trivial (.intro (.intro e64_nat (.intro trivial trivial)) trivial)) trivial)) (.intro trivial (.intro (.intro e40_nat (.intro trivial trivial)) trivial)))) (.intro e12_nat (.intro (.intro e20_nat (.intro (.intro e36_nat (.intro (.intro e68_nat (.intro trivial trivial)) trivial)) (.intro trivial (.intro (.intro e84_nat (.intro trivial trivial)) trivial)))) (.intro trivial (.intro (.intro trivial (.intro trivial (.intro e108_nat (.intro trivial trivial)))) (.intro e60_nat (.intro (.intro e92_nat (.intro trivial trivial)) trivial)))))))) (.intro trivial (.intro (.intro trivial (.intro (.intro e18_nat (.intro (.intro trivial (.intro (.intro e66_nat (.intro trivial trivial)) trivial)) (.intro trivial (.intro (.intro e82_nat (.intro trivial trivial)) (.intro e114_nat (.intro trivial trivial)))))) (.intro trivial (.intro (.intro e42_nat (.intro trivial (.intro e106_nat (.intro trivial trivial)))) (.intro e58_nat (.intro trivial trivial)))))) (.intro e14_nat (.intro (.intro trivial (.intro (.intro e38_nat (.intro (.intro e70_nat (.intro trivial trivial)) trivial)) (.intro trivial (.intro (.intro (PrimEnt_nat idxP) (.intro trivial trivial)) trivial)))) (.intro trivial (.intro (.intro (PrimEnt_nat joinP) (.intro trivial trivial)) (.intro e62_nat (.intro trivial trivial)))))))))))) h) d
end Go.Am.AmTrydHd
