/- Texts for the law DigestSums: the machine, printed functions of the program, and what they are shown to be. -/
import Derived.Test.YtbiimljinilefaaDoorSSh0
import Derived.Test.YtbiimljinilefaaDoorSM3
import Derived.KernelRfl
namespace Go.Am.AmTrydDig
set_option maxRecDepth 1000000
set_option linter.unusedVariables false
/-- (*ostiary/ostiaryref8.Table).block -/
def fn25 : Fun := ⟨4,
  (.seq (.reg [⟨(some 5), none, (.e .box), [(.t 1)], none⟩,
    ⟨(some 6), none, (.e .box), [(.t 2)], none⟩,
    ⟨(some 8), none, (.e (.alloc (repl 8 [(.int .u64 (.ofNat 0))]))), [], none⟩])
  (.keep [0, 3, 5, 6, 8] (.seq (.reg [⟨(some 22), none, (.p (.fieldAddr 0)), [(.t 5)], none⟩,
    ⟨(some 23), none, (.l (.load none)), [(.t 22)], none⟩,
    ⟨(some 24), none, (.p (.toInt .i64)), [(.t 23)], none⟩,
    ⟨(some 25), none, (.p (.bin .quo)), [(.t 24), (.c (.int .i64 (.ofNat 8)))], none⟩,
    ⟨(some 9), none, (.p .mv), [(.t 25)], none⟩])
  (.keep [0, 3, 5, 6, 8, 9] (.seq (.reg [⟨(some 10), none, (.p .mv), [(.c (.int .i64 (.ofNat 64)))], none⟩])
  (.keep [0, 3, 5, 6, 8, 9, 10] (.seq (.reg [⟨(some 26), none, (.p (.build (repl 12 [(.int .u64 (.ofNat 0))]) [(0, 1), (1, 1), (2, 1), (3, 1), (4, 1), (5, 1), (6, 1), (7, 1), (8, 1), (9, 1), (10, 1), (11, 1)])), [(.c (.int .u64 (.ofNat 7))), (.c (.int .u64 (.ofNat 18))), (.c (.int .u64 (.ofNat 3))), (.c (.int .u64 (.ofNat 17))), (.c (.int .u64 (.ofNat 19))), (.c (.int .u64 (.ofNat 10))), (.c (.int .u64 (.ofNat 2))), (.c (.int .u64 (.ofNat 13))), (.c (.int .u64 (.ofNat 22))), (.c (.int .u64 (.ofNat 6))), (.c (.int .u64 (.ofNat 11))), (.c (.int .u64 (.ofNat 25)))], none⟩,
    ⟨(some 11), none, (.e (.alloc (repl 12 [(.int .u64 (.ofNat 0))]))), [], none⟩,
    ⟨none, none, (.e (.store 12)), [(.t 11), (.t 26)], none⟩])
  (.keep [0, 3, 5, 6, 8, 9, 10, 11] (.seq (.seq (.reg [⟨(some 27), none, (.p .mv), [(.t 9)], none⟩,
    ⟨(some 28), none, (.p (.bin .eql)), [(.t 27), (.c (.int .i64 (.ofNat 8)))], none⟩])
  (.keep [0, 3, 5, 6, 8, 9, 10, 11, 28] (.cond (.t 28)
   (.seq (.reg [⟨(some 10), none, (.p .mv), [(.c (.int .i64 (.ofNat 80)))], none⟩])
   (.keep [0, 3, 5, 6, 8, 9, 10, 11] (.reg [⟨(some 29), none, (.p (.build (repl 12 [(.int .u64 (.ofNat 0))]) [(0, 1), (1, 1), (2, 1), (3, 1), (4, 1), (5, 1), (6, 1), (7, 1), (8, 1), (9, 1), (10, 1), (11, 1)])), [(.c (.int .u64 (.ofNat 1))), (.c (.int .u64 (.ofNat 8))), (.c (.int .u64 (.ofNat 7))), (.c (.int .u64 (.ofNat 19))), (.c (.int .u64 (.ofNat 61))), (.c (.int .u64 (.ofNat 6))), (.c (.int .u64 (.ofNat 28))), (.c (.int .u64 (.ofNat 34))), (.c (.int .u64 (.ofNat 39))), (.c (.int .u64 (.ofNat 14))), (.c (.int .u64 (.ofNat 18))), (.c (.int .u64 (.ofNat 41)))], none⟩,
     ⟨none, none, (.e (.store 12)), [(.t 11), (.t 29)], none⟩])))
   .skip)))
  (.keep [0, 3, 5, 6, 8, 9, 10, 11] (.seq (.reg [⟨(some 12), none, (.e (.alloc (repl 80 [(.int .u64 (.ofNat 0))]))), [], none⟩])
  (.keep [0, 3, 5, 6, 8, 9, 10, 11, 12] (.seq (.seq (.reg [⟨(some 13), none, (.p .mv), [(.c (.int .i64 (.ofNat 0)))], none⟩])
  (.keep [0, 3, 5, 6, 8, 9, 10, 11, 12, 13] (.block 0
   (.loop
    (.keep [0, 3, 5, 6, 8, 9, 10, 11, 12, 13] (.seq (.seq (.reg [⟨(some 30), none, (.p .mv), [(.t 13)], none⟩,
      ⟨(some 31), none, (.p (.bin .lss)), [(.t 30), (.c (.int .i64 (.ofNat 16)))], none⟩])
    (.keep [0, 3, 5, 6, 8, 9, 10, 11, 12, 13, 31] (.cond (.t 31)
     .skip
     (.keep [0, 5, 6, 8, 9, 10, 11, 12] (.exit 0)))))
    (.keep [0, 3, 5, 6, 8, 9, 10, 11, 12, 13] (.seq (.block 1
     (.seq (.reg [⟨(some 14), none, (.p .mv), [(.c (.int .i64 (.ofNat 0)))], none⟩])
     (.keep [0, 3, 5, 6, 8, 9, 10, 11, 12, 13, 14] (.block 2
      (.loop
       (.keep [0, 3, 5, 6, 8, 9, 10, 11, 12, 13, 14] (.seq (.seq (.reg [⟨(some 34), none, (.p .mv), [(.t 14)], none⟩,
         ⟨(some 35), none, (.p .mv), [(.t 9)], none⟩,
         ⟨(some 36), none, (.p (.bin .lss)), [(.t 34), (.t 35)], none⟩])
       (.keep [0, 3, 5, 6, 8, 9, 10, 11, 12, 13, 14, 36] (.cond (.t 36)
        .skip
        (.keep [0, 3, 5, 6, 8, 9, 10, 11, 12, 13] (.exit 2)))))
       (.keep [0, 3, 5, 6, 8, 9, 10, 11, 12, 13, 14] (.seq (.block 3
        (.draw [⟨(some 39), none, (.p .mv), [(.t 13)], none⟩,
          ⟨(some 40), none, (.p .mv), [(.t 13)], none⟩,
          ⟨(some 41), none, (.p (.arrIdx 80 1)), [(.t 12), (.t 40)], none⟩,
          ⟨(some 42), none, (.l (.load none)), [(.t 41)], none⟩,
          ⟨(some 43), none, (.p (.bin .shl)), [(.t 42), (.c (.int .u64 (.ofNat 8)))], none⟩,
          ⟨(some 44), none, (.p .mv), [(.t 3)], none⟩,
          ⟨(some 45), none, (.p .mv), [(.t 13)], none⟩,
          ⟨(some 46), none, (.p .mv), [(.t 9)], none⟩,
          ⟨(some 47), none, (.p (.bin .mul)), [(.t 45), (.t 46)], none⟩,
          ⟨(some 48), none, (.p .mv), [(.t 14)], none⟩,
          ⟨(some 49), none, (.p (.bin .add)), [(.t 47), (.t 48)], none⟩,
          ⟨(some 50), none, (.p (.slIdx 1)), [(.t 44), (.t 49)], none⟩,
          ⟨(some 51), none, (.l (.load none)), [(.t 50)], none⟩,
          ⟨(some 52), none, (.p (.toInt .u64)), [(.t 51)], none⟩,
          ⟨(some 53), none, (.p (.bin .or)), [(.t 43), (.t 52)], none⟩,
          ⟨(some 54), none, (.p (.arrIdx 80 1)), [(.t 12), (.t 39)], none⟩,
          ⟨none, none, (.e (.store 1)), [(.t 54), (.t 53)], none⟩]))
       (.keep [0, 3, 5, 6, 8, 9, 10, 11, 12, 13, 14] (.reg [⟨(some 37), none, (.p .mv), [(.t 14)], none⟩,
         ⟨(some 38), none, (.p (.bin .add)), [(.t 37), (.c (.int .i64 (.ofNat 1)))], none⟩,
         ⟨(some 14), none, (.p .mv), [(.t 38)], none⟩])))))))))))
    (.keep [0, 3, 5, 6, 8, 9, 10, 11, 12, 13] (.reg [⟨(some 32), none, (.p .mv), [(.t 13)], none⟩,
      ⟨(some 33), none, (.p (.bin .add)), [(.t 32), (.c (.int .i64 (.ofNat 1)))], none⟩,
      ⟨(some 13), none, (.p .mv), [(.t 33)], none⟩]))))))))))
  (.keep [0, 5, 6, 8, 9, 10, 11, 12] (.seq (.seq (.reg [⟨(some 15), none, (.p .mv), [(.c (.int .i64 (.ofNat 16)))], none⟩])
  (.keep [0, 5, 6, 8, 9, 10, 11, 12, 15] (.block 4
   (.loop
    (.keep [0, 5, 6, 8, 9, 10, 11, 12, 15] (.seq (.seq (.reg [⟨(some 55), none, (.p .mv), [(.t 15)], none⟩,
      ⟨(some 56), none, (.p .mv), [(.t 10)], none⟩,
      ⟨(some 57), none, (.p (.bin .lss)), [(.t 55), (.t 56)], none⟩])
    (.keep [0, 5, 6, 8, 9, 10, 11, 12, 15, 57] (.cond (.t 57)
     .skip
     (.keep [0, 5, 6, 8, 9, 10, 11, 12] (.exit 4)))))
    (.keep [0, 5, 6, 8, 9, 10, 11, 12, 15] (.seq (.block 5
     (.draw [⟨(some 60), none, (.p .mv), [(.t 15)], none⟩,
       ⟨(some 61), none, (.l (.load (some 1))), [(.t 5)], some (0, 2)⟩,
       ⟨(some 62), none, (.l (.load (some 1))), [(.t 5)], none⟩,
       ⟨(some 63), none, (.p .mv), [(.t 15)], none⟩,
       ⟨(some 64), none, (.p (.bin .sub)), [(.t 63), (.c (.int .i64 (.ofNat 2)))], none⟩,
       ⟨(some 65), none, (.p (.arrIdx 80 1)), [(.t 12), (.t 64)], none⟩,
       ⟨(some 66), none, (.l (.load none)), [(.t 65)], none⟩,
       ⟨(some 67), none, (.p (.arrIdx 12 1)), [(.t 11), (.c (.int .i64 (.ofNat 3)))], none⟩,
       ⟨(some 68), none, (.l (.load none)), [(.t 67)], none⟩,
       ⟨(some 69), none, (.p (.arrIdx 12 1)), [(.t 11), (.c (.int .i64 (.ofNat 4)))], none⟩,
       ⟨(some 70), none, (.l (.load none)), [(.t 69)], none⟩,
       ⟨(some 71), none, (.p (.arrIdx 12 1)), [(.t 11), (.c (.int .i64 (.ofNat 5)))], none⟩,
       ⟨(some 72), none, (.l (.load none)), [(.t 71)], none⟩,
       ⟨(some 73), none, (.call 32), [(.t 62), (.t 66), (.t 68), (.t 70), (.t 72), (.c (.bool true))], none⟩,
       ⟨(some 74), none, (.p .mv), [(.t 15)], none⟩,
       ⟨(some 75), none, (.p (.bin .sub)), [(.t 74), (.c (.int .i64 (.ofNat 7)))], none⟩,
       ⟨(some 76), none, (.p (.arrIdx 80 1)), [(.t 12), (.t 75)], none⟩,
       ⟨(some 77), none, (.l (.load none)), [(.t 76)], some (0, 2)⟩,
       ⟨(some 78), none, (.p (.bin .add)), [(.t 73), (.t 77)], none⟩,
       ⟨(some 79), none, (.l (.load (some 1))), [(.t 5)], some (0, 1)⟩,
       ⟨(some 80), none, (.p .mv), [(.t 15)], none⟩,
       ⟨(some 81), none, (.p (.bin .sub)), [(.t 80), (.c (.int .i64 (.ofNat 15)))], none⟩,
       ⟨(some 82), none, (.p (.arrIdx 80 1)), [(.t 12), (.t 81)], none⟩,
       ⟨(some 83), none, (.l (.load none)), [(.t 82)], some (0, 1)⟩,
       ⟨(some 84), none, (.p (.arrIdx 12 1)), [(.t 11), (.c (.int .i64 (.ofNat 0)))], none⟩,
       ⟨(some 85), none, (.l (.load none)), [(.t 84)], some (0, 1)⟩,
       ⟨(some 86), none, (.p (.arrIdx 12 1)), [(.t 11), (.c (.int .i64 (.ofNat 1)))], none⟩,
       ⟨(some 87), none, (.l (.load none)), [(.t 86)], some (0, 1)⟩,
       ⟨(some 88), none, (.p (.arrIdx 12 1)), [(.t 11), (.c (.int .i64 (.ofNat 2)))], none⟩,
       ⟨(some 89), none, (.l (.load none)), [(.t 88)], some (0, 1)⟩,
       ⟨(some 90), none, (.call 32), [(.t 79), (.t 83), (.t 85), (.t 87), (.t 89), (.c (.bool true))], none⟩,
       ⟨(some 91), none, (.p (.bin .add)), [(.t 78), (.t 90)], none⟩,
       ⟨(some 92), none, (.p .mv), [(.t 15)], none⟩,
       ⟨(some 93), none, (.p (.bin .sub)), [(.t 92), (.c (.int .i64 (.ofNat 16)))], none⟩,
       ⟨(some 94), none, (.p (.arrIdx 80 1)), [(.t 12), (.t 93)], none⟩,
       ⟨(some 95), none, (.l (.load none)), [(.t 94)], some (0, 2)⟩,
       ⟨(some 96), none, (.p (.bin .add)), [(.t 91), (.t 95)], none⟩,
       ⟨(some 97), none, (.call 31), [(.t 61), (.t 96)], none⟩,
       ⟨(some 98), none, (.p (.arrIdx 80 1)), [(.t 12), (.t 60)], none⟩,
       ⟨none, none, (.e (.store 1)), [(.t 98), (.t 97)], none⟩]))
    (.keep [0, 5, 6, 8, 9, 10, 11, 12, 15] (.reg [⟨(some 58), none, (.p .mv), [(.t 15)], none⟩,
      ⟨(some 59), none, (.p (.bin .add)), [(.t 58), (.c (.int .i64 (.ofNat 1)))], none⟩,
      ⟨(some 15), none, (.p .mv), [(.t 59)], none⟩]))))))))))
  (.keep [0, 5, 6, 8, 9, 10, 11, 12] (.seq (.reg [⟨(some 99), none, (.l (.load (some 8))), [(.t 6)], none⟩,
    ⟨(some 16), none, (.e (.alloc (repl 8 [(.int .u64 (.ofNat 0))]))), [], none⟩,
    ⟨none, none, (.e (.store 8)), [(.t 16), (.t 99)], none⟩])
  (.keep [0, 5, 6, 8, 9, 10, 11, 12, 16] (.seq (.seq (.reg [⟨(some 17), none, (.p .mv), [(.c (.int .i64 (.ofNat 0)))], none⟩])
  (.keep [0, 5, 6, 8, 9, 10, 11, 12, 16, 17] (.block 6
   (.loop
    (.keep [0, 5, 6, 8, 9, 10, 11, 12, 16, 17] (.seq (.seq (.reg [⟨(some 100), none, (.p .mv), [(.t 17)], none⟩,
      ⟨(some 101), none, (.p .mv), [(.t 10)], none⟩,
      ⟨(some 102), none, (.p (.bin .lss)), [(.t 100), (.t 101)], none⟩])
    (.keep [0, 5, 6, 8, 9, 10, 11, 12, 16, 17, 102] (.cond (.t 102)
     .skip
     (.keep [5, 6, 8, 16] (.exit 6)))))
    (.keep [0, 5, 6, 8, 9, 10, 11, 12, 16, 17] (.seq (.block 7
     (.seq (.reg [⟨(some 105), none, (.p .mv), [(.t 0)], none⟩,
       ⟨(some 106), none, (.p .mv), [(.t 17)], none⟩,
       ⟨(some 107), none, (.p .nilck), [(.t 105)], none⟩,
       ⟨(some 108), none, (.p (.fieldAddr 0)), [(.t 107)], none⟩,
       ⟨(some 109), none, (.p (.arrIdx 80 1)), [(.t 108), (.t 106)], none⟩,
       ⟨(some 110), none, (.l (.load none)), [(.t 109)], none⟩,
       ⟨(some 18), none, (.p .mv), [(.t 110)], none⟩])
     (.keep [0, 5, 6, 8, 9, 10, 11, 12, 16, 17, 18] (.seq (.seq (.reg [⟨(some 111), none, (.p .mv), [(.t 9)], none⟩,
       ⟨(some 112), none, (.p (.bin .eql)), [(.t 111), (.c (.int .i64 (.ofNat 4)))], none⟩])
     (.keep [0, 5, 6, 8, 9, 10, 11, 12, 16, 17, 18, 112] (.cond (.t 112)
      (.reg [⟨(some 113), none, (.p .mv), [(.t 18)], none⟩,
        ⟨(some 114), none, (.p (.bin .shr)), [(.t 113), (.c (.int .u64 (.ofNat 32)))], none⟩,
        ⟨(some 18), none, (.p .mv), [(.t 114)], none⟩])
      .skip)))
     (.keep [0, 5, 6, 8, 9, 10, 11, 12, 16, 17, 18] (.seq (.draw [⟨(some 115), none, (.p (.arrIdx 8 1)), [(.t 16), (.c (.int .i64 (.ofNat 7)))], none⟩,
       ⟨(some 116), none, (.l (.load none)), [(.t 115)], some (0, 1)⟩,
       ⟨(some 117), none, (.l (.load (some 1))), [(.t 5)], none⟩,
       ⟨(some 118), none, (.p (.arrIdx 8 1)), [(.t 16), (.c (.int .i64 (.ofNat 4)))], none⟩,
       ⟨(some 119), none, (.l (.load none)), [(.t 118)], none⟩,
       ⟨(some 120), none, (.p (.arrIdx 12 1)), [(.t 11), (.c (.int .i64 (.ofNat 9)))], none⟩,
       ⟨(some 121), none, (.l (.load none)), [(.t 120)], none⟩,
       ⟨(some 122), none, (.p (.arrIdx 12 1)), [(.t 11), (.c (.int .i64 (.ofNat 10)))], none⟩,
       ⟨(some 123), none, (.l (.load none)), [(.t 122)], none⟩,
       ⟨(some 124), none, (.p (.arrIdx 12 1)), [(.t 11), (.c (.int .i64 (.ofNat 11)))], none⟩,
       ⟨(some 125), none, (.l (.load none)), [(.t 124)], none⟩,
       ⟨(some 126), none, (.call 32), [(.t 117), (.t 119), (.t 121), (.t 123), (.t 125), (.c (.bool false))], none⟩,
       ⟨(some 127), none, (.p (.bin .add)), [(.t 116), (.t 126)], none⟩,
       ⟨(some 128), none, (.p (.arrIdx 8 1)), [(.t 16), (.c (.int .i64 (.ofNat 4)))], none⟩,
       ⟨(some 129), none, (.l (.load none)), [(.t 128)], some (0, 1)⟩,
       ⟨(some 130), none, (.p (.arrIdx 8 1)), [(.t 16), (.c (.int .i64 (.ofNat 5)))], none⟩,
       ⟨(some 131), none, (.l (.load none)), [(.t 130)], some (0, 1)⟩,
       ⟨(some 132), none, (.p (.bin .and)), [(.t 129), (.t 131)], none⟩,
       ⟨(some 133), none, (.p (.arrIdx 8 1)), [(.t 16), (.c (.int .i64 (.ofNat 4)))], none⟩,
       ⟨(some 134), none, (.l (.load none)), [(.t 133)], some (0, 1)⟩,
       ⟨(some 135), none, (.p (.un .xor)), [(.t 134)], none⟩,
       ⟨(some 136), none, (.p (.arrIdx 8 1)), [(.t 16), (.c (.int .i64 (.ofNat 6)))], none⟩,
       ⟨(some 137), none, (.l (.load none)), [(.t 136)], some (0, 1)⟩,
       ⟨(some 138), none, (.p (.bin .and)), [(.t 135), (.t 137)], none⟩,
       ⟨(some 139), none, (.p (.bin .xor)), [(.t 132), (.t 138)], none⟩,
       ⟨(some 140), none, (.p (.bin .add)), [(.t 127), (.t 139)], none⟩,
       ⟨(some 141), none, (.p .mv), [(.t 18)], none⟩,
       ⟨(some 142), none, (.p (.bin .add)), [(.t 140), (.t 141)], none⟩,
       ⟨(some 143), none, (.p .mv), [(.t 17)], none⟩,
       ⟨(some 144), none, (.p (.arrIdx 80 1)), [(.t 12), (.t 143)], none⟩,
       ⟨(some 145), none, (.l (.load none)), [(.t 144)], some (0, 1)⟩,
       ⟨(some 146), none, (.p (.bin .add)), [(.t 142), (.t 145)], none⟩,
       ⟨(some 19), none, (.p .mv), [(.t 146)], none⟩])
     (.keep [0, 5, 6, 8, 9, 10, 11, 12, 16, 17, 19] (.seq (.draw [⟨(some 147), none, (.l (.load (some 1))), [(.t 5)], none⟩,
       ⟨(some 148), none, (.p (.arrIdx 8 1)), [(.t 16), (.c (.int .i64 (.ofNat 0)))], none⟩,
       ⟨(some 149), none, (.l (.load none)), [(.t 148)], none⟩,
       ⟨(some 150), none, (.p (.arrIdx 12 1)), [(.t 11), (.c (.int .i64 (.ofNat 6)))], none⟩,
       ⟨(some 151), none, (.l (.load none)), [(.t 150)], none⟩,
       ⟨(some 152), none, (.p (.arrIdx 12 1)), [(.t 11), (.c (.int .i64 (.ofNat 7)))], none⟩,
       ⟨(some 153), none, (.l (.load none)), [(.t 152)], none⟩,
       ⟨(some 154), none, (.p (.arrIdx 12 1)), [(.t 11), (.c (.int .i64 (.ofNat 8)))], none⟩,
       ⟨(some 155), none, (.l (.load none)), [(.t 154)], none⟩,
       ⟨(some 156), none, (.call 32), [(.t 147), (.t 149), (.t 151), (.t 153), (.t 155), (.c (.bool false))], none⟩,
       ⟨(some 157), none, (.p (.arrIdx 8 1)), [(.t 16), (.c (.int .i64 (.ofNat 0)))], none⟩,
       ⟨(some 158), none, (.l (.load none)), [(.t 157)], some (0, 1)⟩,
       ⟨(some 159), none, (.p (.arrIdx 8 1)), [(.t 16), (.c (.int .i64 (.ofNat 1)))], none⟩,
       ⟨(some 160), none, (.l (.load none)), [(.t 159)], some (0, 1)⟩,
       ⟨(some 161), none, (.p (.bin .and)), [(.t 158), (.t 160)], none⟩,
       ⟨(some 162), none, (.p (.arrIdx 8 1)), [(.t 16), (.c (.int .i64 (.ofNat 0)))], none⟩,
       ⟨(some 163), none, (.l (.load none)), [(.t 162)], some (0, 1)⟩,
       ⟨(some 164), none, (.p (.arrIdx 8 1)), [(.t 16), (.c (.int .i64 (.ofNat 2)))], none⟩,
       ⟨(some 165), none, (.l (.load none)), [(.t 164)], some (0, 1)⟩,
       ⟨(some 166), none, (.p (.bin .and)), [(.t 163), (.t 165)], none⟩,
       ⟨(some 167), none, (.p (.bin .xor)), [(.t 161), (.t 166)], none⟩,
       ⟨(some 168), none, (.p (.arrIdx 8 1)), [(.t 16), (.c (.int .i64 (.ofNat 1)))], none⟩,
       ⟨(some 169), none, (.l (.load none)), [(.t 168)], some (0, 1)⟩,
       ⟨(some 170), none, (.p (.arrIdx 8 1)), [(.t 16), (.c (.int .i64 (.ofNat 2)))], none⟩,
       ⟨(some 171), none, (.l (.load none)), [(.t 170)], some (0, 1)⟩,
       ⟨(some 172), none, (.p (.bin .and)), [(.t 169), (.t 171)], none⟩,
       ⟨(some 173), none, (.p (.bin .xor)), [(.t 167), (.t 172)], none⟩,
       ⟨(some 174), none, (.p (.bin .add)), [(.t 156), (.t 173)], none⟩,
       ⟨(some 20), none, (.p .mv), [(.t 174)], none⟩])
     (.keep [0, 5, 6, 8, 9, 10, 11, 12, 16, 17, 19, 20] (.draw [⟨(some 175), none, (.l (.load (some 1))), [(.t 5)], none⟩,
       ⟨(some 176), none, (.p .mv), [(.t 19)], none⟩,
       ⟨(some 177), none, (.p .mv), [(.t 20)], none⟩,
       ⟨(some 178), none, (.p (.bin .add)), [(.t 176), (.t 177)], none⟩,
       ⟨(some 179), none, (.call 31), [(.t 175), (.t 178)], none⟩,
       ⟨(some 180), none, (.p (.arrIdx 8 1)), [(.t 16), (.c (.int .i64 (.ofNat 0)))], none⟩,
       ⟨(some 181), none, (.l (.load none)), [(.t 180)], some (0, 2)⟩,
       ⟨(some 182), none, (.p (.arrIdx 8 1)), [(.t 16), (.c (.int .i64 (.ofNat 1)))], none⟩,
       ⟨(some 183), none, (.l (.load none)), [(.t 182)], some (0, 2)⟩,
       ⟨(some 184), none, (.p (.arrIdx 8 1)), [(.t 16), (.c (.int .i64 (.ofNat 2)))], none⟩,
       ⟨(some 185), none, (.l (.load none)), [(.t 184)], some (0, 2)⟩,
       ⟨(some 186), none, (.l (.load (some 1))), [(.t 5)], some (0, 1)⟩,
       ⟨(some 187), none, (.p (.arrIdx 8 1)), [(.t 16), (.c (.int .i64 (.ofNat 3)))], none⟩,
       ⟨(some 188), none, (.l (.load none)), [(.t 187)], some (0, 1)⟩,
       ⟨(some 189), none, (.p .mv), [(.t 19)], none⟩,
       ⟨(some 190), none, (.p (.bin .add)), [(.t 188), (.t 189)], none⟩,
       ⟨(some 191), none, (.call 31), [(.t 186), (.t 190)], none⟩,
       ⟨(some 192), none, (.p (.arrIdx 8 1)), [(.t 16), (.c (.int .i64 (.ofNat 4)))], none⟩,
       ⟨(some 193), none, (.l (.load none)), [(.t 192)], some (0, 2)⟩,
       ⟨(some 194), none, (.p (.arrIdx 8 1)), [(.t 16), (.c (.int .i64 (.ofNat 5)))], none⟩,
       ⟨(some 195), none, (.l (.load none)), [(.t 194)], some (0, 2)⟩,
       ⟨(some 196), none, (.p (.arrIdx 8 1)), [(.t 16), (.c (.int .i64 (.ofNat 6)))], none⟩,
       ⟨(some 197), none, (.l (.load none)), [(.t 196)], some (0, 2)⟩,
       ⟨(some 198), none, (.p (.build (repl 8 [(.int .u64 (.ofNat 0))]) [(0, 1), (1, 1), (2, 1), (3, 1), (4, 1), (5, 1), (6, 1), (7, 1)])), [(.t 179), (.t 181), (.t 183), (.t 185), (.t 191), (.t 193), (.t 195), (.t 197)], none⟩,
       ⟨none, none, (.e (.store 8)), [(.t 16), (.t 198)], none⟩]))))))))))
    (.keep [0, 5, 6, 8, 9, 10, 11, 12, 16, 17] (.reg [⟨(some 103), none, (.p .mv), [(.t 17)], none⟩,
      ⟨(some 104), none, (.p (.bin .add)), [(.t 103), (.c (.int .i64 (.ofNat 1)))], none⟩,
      ⟨(some 17), none, (.p .mv), [(.t 104)], none⟩]))))))))))
  (.keep [5, 6, 8, 16] (.seq (.seq (.reg [⟨(some 21), none, (.p .mv), [(.c (.int .i64 (.ofNat 0)))], none⟩])
  (.keep [5, 6, 8, 16, 21] (.block 8
   (.loop
    (.keep [5, 6, 8, 16, 21] (.seq (.seq (.reg [⟨(some 199), none, (.p .mv), [(.t 21)], none⟩,
      ⟨(some 200), none, (.p (.bin .lss)), [(.t 199), (.c (.int .i64 (.ofNat 8)))], none⟩])
    (.keep [5, 6, 8, 16, 21, 200] (.cond (.t 200)
     .skip
     (.keep [6, 8] (.exit 8)))))
    (.keep [5, 6, 8, 16, 21] (.seq (.block 9
     (.draw [⟨(some 203), none, (.p .mv), [(.t 21)], none⟩,
       ⟨(some 204), none, (.l (.load (some 1))), [(.t 5)], none⟩,
       ⟨(some 205), none, (.p .mv), [(.t 21)], none⟩,
       ⟨(some 206), none, (.p (.arrIdx 8 1)), [(.t 6), (.t 205)], none⟩,
       ⟨(some 207), none, (.l (.load none)), [(.t 206)], none⟩,
       ⟨(some 208), none, (.p .mv), [(.t 21)], none⟩,
       ⟨(some 209), none, (.p (.arrIdx 8 1)), [(.t 16), (.t 208)], none⟩,
       ⟨(some 210), none, (.l (.load none)), [(.t 209)], none⟩,
       ⟨(some 211), none, (.p (.bin .add)), [(.t 207), (.t 210)], none⟩,
       ⟨(some 212), none, (.call 31), [(.t 204), (.t 211)], none⟩,
       ⟨(some 213), none, (.p (.arrIdx 8 1)), [(.t 6), (.t 203)], none⟩,
       ⟨none, none, (.e (.store 1)), [(.t 213), (.t 212)], none⟩]))
    (.keep [5, 6, 8, 16, 21] (.reg [⟨(some 201), none, (.p .mv), [(.t 21)], none⟩,
      ⟨(some 202), none, (.p (.bin .add)), [(.t 201), (.c (.int .i64 (.ofNat 1)))], none⟩,
      ⟨(some 21), none, (.p .mv), [(.t 202)], none⟩]))))))))))
  (.keep [6, 8] (.seq (.reg [⟨(some 214), none, (.l (.load (some 8))), [(.t 6)], none⟩,
    ⟨none, none, (.e (.store 8)), [(.t 8), (.t 214)], none⟩])
  (.keep [8] (.keep [8] .ret))))))))))))))))))))))))),
  [(.cell 8 (some 8))]⟩
def s25_j4 (call : CallK) (N : Nat) (q : KV) (st : St) (τ : Tape) : Ans :=
  match st with
  | ⟨fr, H⟩ =>
  getK fr 6 fun t6 =>
  getK fr 8 fun t8 =>
  someK (lLoadN 8 [t6] H) fun v31 =>
  effK (eStore 8 [t8, v31] H τ) fun v32 H33 τ34 =>
  someK (results ⟨(T.set .leaf 8 t8), H33⟩ [(.cell 8 (some 8))]) fun v => q v H33 τ34
def s25_l5 (call : CallK) (N : Nat) (st : St) (τ : Tape) (k : KC) : Ans :=
  match st with
  | ⟨fr, H⟩ =>
  getK fr 5 fun t5 =>
  getK fr 6 fun t6 =>
  getK fr 8 fun t8 =>
  getK fr 16 fun t16 =>
  getK fr 21 fun t21 =>
  binK .lss t21 (.int .i64 (.ofNat 8)) fun v35 =>
  condK v35
    (someK (lLoadN 1 [t5] H) fun v36 =>
  someK (pArrIdx 8 1 [t6, t21]) fun v37 =>
  someK (lLoad1 [v37] H) fun v38 =>
  someK (pArrIdx 8 1 [t16, t21]) fun v39 =>
  someK (lLoad1 [v39] H) fun v40 =>
  binK .add v38 v40 fun v41 =>
  call 31 [v36, v41] H τ fun v42 H43 τ44 =>
  someK (pArrIdx 8 1 [t6, t21]) fun v45 =>
  effK (eStore 1 [v45, v42] H43 τ44) fun v46 H47 τ48 =>
  binK .add t21 (.int .i64 (.ofNat 1)) fun v49 =>
  k .normal ⟨(T.set (T.set (T.set (T.set (T.set (T.set (T.set (T.set .leaf 5 t5) 6 t6) 8 t8) 16 t16) 21 t21) 201 t21) 202 v49) 21 v49), H47⟩ τ48)
    (k (.exit 8) ⟨(T.set (T.set .leaf 6 t6) 8 t8), H⟩ τ)
def s25_j3 (call : CallK) (N : Nat) (q : KV) (st : St) (τ : Tape) : Ans :=
  match st with
  | ⟨fr, H⟩ =>
  getK fr 5 fun t5 =>
  getK fr 6 fun t6 =>
  getK fr 8 fun t8 =>
  getK fr 16 fun t16 =>
  loopK (s25_l5 call N) N ⟨(T.set (T.set (T.set (T.set (T.set .leaf 5 t5) 6 t6) 8 t8) 16 t16) 21 (.int .i64 (.ofNat 0))), H⟩ τ (blockK 8 (seqK (s25_j4 call N q) (endK [(.cell 8 (some 8))] q)))
def s25_j7 (call : CallK) (N : Nat) (k : KC) (st : St) (τ : Tape) : Ans :=
  match st with
  | ⟨fr, H⟩ =>
  getK fr 0 fun t0 =>
  getK fr 5 fun t5 =>
  getK fr 6 fun t6 =>
  getK fr 8 fun t8 =>
  getK fr 9 fun t9 =>
  getK fr 10 fun t10 =>
  getK fr 11 fun t11 =>
  getK fr 12 fun t12 =>
  getK fr 16 fun t16 =>
  getK fr 17 fun t17 =>
  binK .add t17 (.int .i64 (.ofNat 1)) fun v56 =>
  k .normal ⟨(T.set (T.set (T.set (T.set (T.set (T.set (T.set (T.set (T.set (T.set (T.set (T.set (T.set .leaf 0 t0) 5 t5) 6 t6) 8 t8) 9 t9) 10 t10) 11 t11) 12 t12) 16 t16) 17 t17) 103 t17) 104 v56) 17 v56), H⟩ τ
def s25_j8 (call : CallK) (N : Nat) (k : KC) (st : St) (τ : Tape) : Ans :=
  match st with
  | ⟨fr, H⟩ =>
  getK fr 0 fun t0 =>
  getK fr 5 fun t5 =>
  getK fr 6 fun t6 =>
  getK fr 8 fun t8 =>
  getK fr 9 fun t9 =>
  getK fr 10 fun t10 =>
  getK fr 11 fun t11 =>
  getK fr 12 fun t12 =>
  getK fr 16 fun t16 =>
  getK fr 17 fun t17 =>
  getK fr 18 fun t18 =>
  someK (pArrIdx 8 1 [t16, (.int .i64 (.ofNat 7))]) fun v57 =>
  someK (lLoad1 [v57] H) fun v58 =>
  someK (lLoadN 1 [t5] H) fun v59 =>
  someK (pArrIdx 8 1 [t16, (.int .i64 (.ofNat 4))]) fun v60 =>
  someK (lLoad1 [v60] H) fun v61 =>
  someK (pArrIdx 12 1 [t11, (.int .i64 (.ofNat 9))]) fun v62 =>
  someK (lLoad1 [v62] H) fun v63 =>
  someK (pArrIdx 12 1 [t11, (.int .i64 (.ofNat 10))]) fun v64 =>
  someK (lLoad1 [v64] H) fun v65 =>
  someK (pArrIdx 12 1 [t11, (.int .i64 (.ofNat 11))]) fun v66 =>
  someK (lLoad1 [v66] H) fun v67 =>
  call 32 [v59, v61, v63, v65, v67, (.bool false)] H τ fun v68 H69 τ70 =>
  binK .add v58 v68 fun v71 =>
  someK (pArrIdx 8 1 [t16, (.int .i64 (.ofNat 4))]) fun v72 =>
  someK (lLoad1 [v72] H69) fun v73 =>
  someK (pArrIdx 8 1 [t16, (.int .i64 (.ofNat 5))]) fun v74 =>
  someK (lLoad1 [v74] H69) fun v75 =>
  binK .and v73 v75 fun v76 =>
  someK (pArrIdx 8 1 [t16, (.int .i64 (.ofNat 4))]) fun v77 =>
  someK (lLoad1 [v77] H69) fun v78 =>
  unK .xor v78 fun v79 =>
  someK (pArrIdx 8 1 [t16, (.int .i64 (.ofNat 6))]) fun v80 =>
  someK (lLoad1 [v80] H69) fun v81 =>
  binK .and v79 v81 fun v82 =>
  binK .xor v76 v82 fun v83 =>
  binK .add v71 v83 fun v84 =>
  binK .add v84 t18 fun v85 =>
  someK (pArrIdx 80 1 [t12, t17]) fun v86 =>
  someK (lLoad1 [v86] H69) fun v87 =>
  binK .add v85 v87 fun v88 =>
  bif chkLoads [H, H69] (((.load none), [v86], 0, 1) :: (((.load none), [v80], 0, 1) :: (((.load none), [v77], 0, 1) :: (((.load none), [v74], 0, 1) :: (((.load none), [v72], 0, 1) :: (((.load none), [v57], 0, 1) :: [])))))) then
  someK (lLoadN 1 [t5] H69) fun v89 =>
  someK (pArrIdx 8 1 [t16, (.int .i64 (.ofNat 0))]) fun v90 =>
  someK (lLoad1 [v90] H69) fun v91 =>
  someK (pArrIdx 12 1 [t11, (.int .i64 (.ofNat 6))]) fun v92 =>
  someK (lLoad1 [v92] H69) fun v93 =>
  someK (pArrIdx 12 1 [t11, (.int .i64 (.ofNat 7))]) fun v94 =>
  someK (lLoad1 [v94] H69) fun v95 =>
  someK (pArrIdx 12 1 [t11, (.int .i64 (.ofNat 8))]) fun v96 =>
  someK (lLoad1 [v96] H69) fun v97 =>
  call 32 [v89, v91, v93, v95, v97, (.bool false)] H69 τ70 fun v98 H99 τ100 =>
  someK (pArrIdx 8 1 [t16, (.int .i64 (.ofNat 0))]) fun v101 =>
  someK (lLoad1 [v101] H99) fun v102 =>
  someK (pArrIdx 8 1 [t16, (.int .i64 (.ofNat 1))]) fun v103 =>
  someK (lLoad1 [v103] H99) fun v104 =>
  binK .and v102 v104 fun v105 =>
  someK (pArrIdx 8 1 [t16, (.int .i64 (.ofNat 0))]) fun v106 =>
  someK (lLoad1 [v106] H99) fun v107 =>
  someK (pArrIdx 8 1 [t16, (.int .i64 (.ofNat 2))]) fun v108 =>
  someK (lLoad1 [v108] H99) fun v109 =>
  binK .and v107 v109 fun v110 =>
  binK .xor v105 v110 fun v111 =>
  someK (pArrIdx 8 1 [t16, (.int .i64 (.ofNat 1))]) fun v112 =>
  someK (lLoad1 [v112] H99) fun v113 =>
  someK (pArrIdx 8 1 [t16, (.int .i64 (.ofNat 2))]) fun v114 =>
  someK (lLoad1 [v114] H99) fun v115 =>
  binK .and v113 v115 fun v116 =>
  binK .xor v111 v116 fun v117 =>
  binK .add v98 v117 fun v118 =>
  bif chkLoads [H69, H99] (((.load none), [v114], 0, 1) :: (((.load none), [v112], 0, 1) :: (((.load none), [v108], 0, 1) :: (((.load none), [v106], 0, 1) :: (((.load none), [v103], 0, 1) :: (((.load none), [v101], 0, 1) :: [])))))) then
  someK (lLoadN 1 [t5] H99) fun v119 =>
  binK .add v88 v118 fun v120 =>
  call 31 [v119, v120] H99 τ100 fun v121 H122 τ123 =>
  someK (pArrIdx 8 1 [t16, (.int .i64 (.ofNat 0))]) fun v124 =>
  someK (lLoad1 [v124] H122) fun v125 =>
  someK (pArrIdx 8 1 [t16, (.int .i64 (.ofNat 1))]) fun v126 =>
  someK (lLoad1 [v126] H122) fun v127 =>
  someK (pArrIdx 8 1 [t16, (.int .i64 (.ofNat 2))]) fun v128 =>
  someK (lLoad1 [v128] H122) fun v129 =>
  someK (lLoadN 1 [t5] H122) fun v130 =>
  someK (pArrIdx 8 1 [t16, (.int .i64 (.ofNat 3))]) fun v131 =>
  someK (lLoad1 [v131] H122) fun v132 =>
  binK .add v132 v88 fun v133 =>
  call 31 [v130, v133] H122 τ123 fun v134 H135 τ136 =>
  someK (pArrIdx 8 1 [t16, (.int .i64 (.ofNat 4))]) fun v137 =>
  someK (lLoad1 [v137] H135) fun v138 =>
  someK (pArrIdx 8 1 [t16, (.int .i64 (.ofNat 5))]) fun v139 =>
  someK (lLoad1 [v139] H135) fun v140 =>
  someK (pArrIdx 8 1 [t16, (.int .i64 (.ofNat 6))]) fun v141 =>
  someK (lLoad1 [v141] H135) fun v142 =>
  someK (pBuild (repl 8 [(.int .u64 (.ofNat 0))]) [(0, 1), (1, 1), (2, 1), (3, 1), (4, 1), (5, 1), (6, 1), (7, 1)] [v121, v125, v127, v129, v134, v138, v140, v142]) fun v143 =>
  effK (eStore 8 [t16, v143] H135 τ136) fun v144 H145 τ146 =>
  bif chkLoads [H99, H122, H135, H145] (((.load none), [v141], 0, 2) :: (((.load none), [v139], 0, 2) :: (((.load none), [v137], 0, 2) :: (((.load none), [v131], 0, 1) :: (((.load (some 1)), [t5], 0, 1) :: (((.load none), [v128], 0, 2) :: (((.load none), [v126], 0, 2) :: (((.load none), [v124], 0, 2) :: [])))))))) then
  s25_j7 call N k ⟨(T.set (T.set (T.set (T.set (T.set (T.set (T.set (T.set (T.set (T.set (T.set (T.set (T.set (T.set (T.set (T.set (T.set (T.set (T.set (T.set (T.set (T.set (T.set (T.set (T.set (T.set (T.set (T.set (T.set (T.set (T.set (T.set (T.set (T.set (T.set (T.set .leaf 0 t0) 5 t5) 6 t6) 8 t8) 9 t9) 10 t10) 11 t11) 12 t12) 16 t16) 17 t17) 19 v88) 20 v118) 175 v119) 176 v88) 177 v118) 178 v120) 179 v121) 180 v124) 181 v125) 182 v126) 183 v127) 184 v128) 185 v129) 186 v130) 187 v131) 188 v132) 189 v88) 190 v133) 191 v134) 192 v137) 193 v138) 194 v139) 195 v140) 196 v141) 197 v142) 198 v143), H145⟩ τ146
  else none
  else none
  else none
def s25_l6 (call : CallK) (N : Nat) (st : St) (τ : Tape) (k : KC) : Ans :=
  match st with
  | ⟨fr, H⟩ =>
  getK fr 0 fun t0 =>
  getK fr 5 fun t5 =>
  getK fr 6 fun t6 =>
  getK fr 8 fun t8 =>
  getK fr 9 fun t9 =>
  getK fr 10 fun t10 =>
  getK fr 11 fun t11 =>
  getK fr 12 fun t12 =>
  getK fr 16 fun t16 =>
  getK fr 17 fun t17 =>
  binK .lss t17 t10 fun v50 =>
  condK v50
    (someK (pNilck [t0]) fun v51 =>
  someK (pFieldAddr 0 [v51]) fun v52 =>
  someK (pArrIdx 80 1 [v52, t17]) fun v53 =>
  someK (lLoad1 [v53] H) fun v54 =>
  binK .eql t9 (.int .i64 (.ofNat 4)) fun v55 =>
  condK v55
    (binK .shr v54 (.int .u64 (.ofNat 32)) fun v147 =>
  s25_j8 call N k ⟨(T.set (T.set (T.set (T.set (T.set (T.set (T.set (T.set (T.set (T.set (T.set (T.set (T.set (T.set (T.set .leaf 0 t0) 5 t5) 6 t6) 8 t8) 9 t9) 10 t10) 11 t11) 12 t12) 16 t16) 17 t17) 18 v54) 112 v55) 113 v54) 114 v147) 18 v147), H⟩ τ)
    (s25_j8 call N k ⟨(T.set (T.set (T.set (T.set (T.set (T.set (T.set (T.set (T.set (T.set (T.set (T.set .leaf 0 t0) 5 t5) 6 t6) 8 t8) 9 t9) 10 t10) 11 t11) 12 t12) 16 t16) 17 t17) 18 v54) 112 v55), H⟩ τ))
    (k (.exit 6) ⟨(T.set (T.set (T.set (T.set .leaf 5 t5) 6 t6) 8 t8) 16 t16), H⟩ τ)
def s25_j2 (call : CallK) (N : Nat) (q : KV) (st : St) (τ : Tape) : Ans :=
  match st with
  | ⟨fr, H⟩ =>
  getK fr 0 fun t0 =>
  getK fr 5 fun t5 =>
  getK fr 6 fun t6 =>
  getK fr 8 fun t8 =>
  getK fr 9 fun t9 =>
  getK fr 10 fun t10 =>
  getK fr 11 fun t11 =>
  getK fr 12 fun t12 =>
  someK (lLoadN 8 [t6] H) fun v24 =>
  effK (eAlloc (repl 8 [(.int .u64 (.ofNat 0))]) [] H τ) fun v25 H26 τ27 =>
  effK (eStore 8 [v25, v24] H26 τ27) fun v28 H29 τ30 =>
  loopK (s25_l6 call N) N ⟨(T.set (T.set (T.set (T.set (T.set (T.set (T.set (T.set (T.set (T.set .leaf 0 t0) 5 t5) 6 t6) 8 t8) 9 t9) 10 t10) 11 t11) 12 t12) 16 v25) 17 (.int .i64 (.ofNat 0))), H29⟩ τ30 (blockK 6 (seqK (s25_j3 call N q) (endK [(.cell 8 (some 8))] q)))
def s25_l9 (call : CallK) (N : Nat) (st : St) (τ : Tape) (k : KC) : Ans :=
  match st with
  | ⟨fr, H⟩ =>
  getK fr 0 fun t0 =>
  getK fr 5 fun t5 =>
  getK fr 6 fun t6 =>
  getK fr 8 fun t8 =>
  getK fr 9 fun t9 =>
  getK fr 10 fun t10 =>
  getK fr 11 fun t11 =>
  getK fr 12 fun t12 =>
  getK fr 15 fun t15 =>
  binK .lss t15 t10 fun v148 =>
  condK v148
    (someK (lLoadN 1 [t5] H) fun v149 =>
  someK (lLoadN 1 [t5] H) fun v150 =>
  binK .sub t15 (.int .i64 (.ofNat 2)) fun v151 =>
  someK (pArrIdx 80 1 [t12, v151]) fun v152 =>
  someK (lLoad1 [v152] H) fun v153 =>
  someK (pArrIdx 12 1 [t11, (.int .i64 (.ofNat 3))]) fun v154 =>
  someK (lLoad1 [v154] H) fun v155 =>
  someK (pArrIdx 12 1 [t11, (.int .i64 (.ofNat 4))]) fun v156 =>
  someK (lLoad1 [v156] H) fun v157 =>
  someK (pArrIdx 12 1 [t11, (.int .i64 (.ofNat 5))]) fun v158 =>
  someK (lLoad1 [v158] H) fun v159 =>
  call 32 [v150, v153, v155, v157, v159, (.bool true)] H τ fun v160 H161 τ162 =>
  binK .sub t15 (.int .i64 (.ofNat 7)) fun v163 =>
  someK (pArrIdx 80 1 [t12, v163]) fun v164 =>
  someK (lLoad1 [v164] H161) fun v165 =>
  binK .add v160 v165 fun v166 =>
  someK (lLoadN 1 [t5] H161) fun v167 =>
  binK .sub t15 (.int .i64 (.ofNat 15)) fun v168 =>
  someK (pArrIdx 80 1 [t12, v168]) fun v169 =>
  someK (lLoad1 [v169] H161) fun v170 =>
  someK (pArrIdx 12 1 [t11, (.int .i64 (.ofNat 0))]) fun v171 =>
  someK (lLoad1 [v171] H161) fun v172 =>
  someK (pArrIdx 12 1 [t11, (.int .i64 (.ofNat 1))]) fun v173 =>
  someK (lLoad1 [v173] H161) fun v174 =>
  someK (pArrIdx 12 1 [t11, (.int .i64 (.ofNat 2))]) fun v175 =>
  someK (lLoad1 [v175] H161) fun v176 =>
  call 32 [v167, v170, v172, v174, v176, (.bool true)] H161 τ162 fun v177 H178 τ179 =>
  binK .add v166 v177 fun v180 =>
  binK .sub t15 (.int .i64 (.ofNat 16)) fun v181 =>
  someK (pArrIdx 80 1 [t12, v181]) fun v182 =>
  someK (lLoad1 [v182] H178) fun v183 =>
  binK .add v180 v183 fun v184 =>
  call 31 [v149, v184] H178 τ179 fun v185 H186 τ187 =>
  someK (pArrIdx 80 1 [t12, t15]) fun v188 =>
  effK (eStore 1 [v188, v185] H186 τ187) fun v189 H190 τ191 =>
  bif chkLoads [H, H161, H178, H186, H190] (((.load none), [v182], 0, 2) :: (((.load none), [v175], 0, 1) :: (((.load none), [v173], 0, 1) :: (((.load none), [v171], 0, 1) :: (((.load none), [v169], 0, 1) :: (((.load (some 1)), [t5], 0, 1) :: (((.load none), [v164], 0, 2) :: (((.load (some 1)), [t5], 0, 2) :: [])))))))) then
  binK .add t15 (.int .i64 (.ofNat 1)) fun v192 =>
  k .normal ⟨(T.set (T.set (T.set (T.set (T.set (T.set (T.set (T.set (T.set (T.set (T.set (T.set .leaf 0 t0) 5 t5) 6 t6) 8 t8) 9 t9) 10 t10) 11 t11) 12 t12) 15 t15) 58 t15) 59 v192) 15 v192), H190⟩ τ191
  else none)
    (k (.exit 4) ⟨(T.set (T.set (T.set (T.set (T.set (T.set (T.set (T.set .leaf 0 t0) 5 t5) 6 t6) 8 t8) 9 t9) 10 t10) 11 t11) 12 t12), H⟩ τ)
def s25_j1 (call : CallK) (N : Nat) (q : KV) (st : St) (τ : Tape) : Ans :=
  match st with
  | ⟨fr, H⟩ =>
  getK fr 0 fun t0 =>
  getK fr 5 fun t5 =>
  getK fr 6 fun t6 =>
  getK fr 8 fun t8 =>
  getK fr 9 fun t9 =>
  getK fr 10 fun t10 =>
  getK fr 11 fun t11 =>
  getK fr 12 fun t12 =>
  loopK (s25_l9 call N) N ⟨(T.set (T.set (T.set (T.set (T.set (T.set (T.set (T.set (T.set .leaf 0 t0) 5 t5) 6 t6) 8 t8) 9 t9) 10 t10) 11 t11) 12 t12) 15 (.int .i64 (.ofNat 16))), H⟩ τ (blockK 4 (seqK (s25_j2 call N q) (endK [(.cell 8 (some 8))] q)))
def s25_j11 (call : CallK) (N : Nat) (k : KC) (st : St) (τ : Tape) : Ans :=
  match st with
  | ⟨fr, H⟩ =>
  getK fr 0 fun t0 =>
  getK fr 3 fun t3 =>
  getK fr 5 fun t5 =>
  getK fr 6 fun t6 =>
  getK fr 8 fun t8 =>
  getK fr 9 fun t9 =>
  getK fr 10 fun t10 =>
  getK fr 11 fun t11 =>
  getK fr 12 fun t12 =>
  getK fr 13 fun t13 =>
  binK .add t13 (.int .i64 (.ofNat 1)) fun v194 =>
  k .normal ⟨(T.set (T.set (T.set (T.set (T.set (T.set (T.set (T.set (T.set (T.set (T.set (T.set (T.set .leaf 0 t0) 3 t3) 5 t5) 6 t6) 8 t8) 9 t9) 10 t10) 11 t11) 12 t12) 13 t13) 32 t13) 33 v194) 13 v194), H⟩ τ
def s25_l12 (call : CallK) (N : Nat) (st : St) (τ : Tape) (k : KC) : Ans :=
  match st with
  | ⟨fr, H⟩ =>
  getK fr 0 fun t0 =>
  getK fr 3 fun t3 =>
  getK fr 5 fun t5 =>
  getK fr 6 fun t6 =>
  getK fr 8 fun t8 =>
  getK fr 9 fun t9 =>
  getK fr 10 fun t10 =>
  getK fr 11 fun t11 =>
  getK fr 12 fun t12 =>
  getK fr 13 fun t13 =>
  getK fr 14 fun t14 =>
  binK .lss t14 t9 fun v195 =>
  condK v195
    (someK (pArrIdx 80 1 [t12, t13]) fun v196 =>
  someK (lLoad1 [v196] H) fun v197 =>
  binK .shl v197 (.int .u64 (.ofNat 8)) fun v198 =>
  binK .mul t13 t9 fun v199 =>
  binK .add v199 t14 fun v200 =>
  someK (pSlIdx 1 [t3, v200]) fun v201 =>
  someK (lLoad1 [v201] H) fun v202 =>
  toIntK .u64 v202 fun v203 =>
  binK .or v198 v203 fun v204 =>
  someK (pArrIdx 80 1 [t12, t13]) fun v205 =>
  effK (eStore 1 [v205, v204] H τ) fun v206 H207 τ208 =>
  binK .add t14 (.int .i64 (.ofNat 1)) fun v209 =>
  k .normal ⟨(T.set (T.set (T.set (T.set (T.set (T.set (T.set (T.set (T.set (T.set (T.set (T.set (T.set (T.set .leaf 0 t0) 3 t3) 5 t5) 6 t6) 8 t8) 9 t9) 10 t10) 11 t11) 12 t12) 13 t13) 14 t14) 37 t14) 38 v209) 14 v209), H207⟩ τ208)
    (k (.exit 2) ⟨(T.set (T.set (T.set (T.set (T.set (T.set (T.set (T.set (T.set (T.set .leaf 0 t0) 3 t3) 5 t5) 6 t6) 8 t8) 9 t9) 10 t10) 11 t11) 12 t12) 13 t13), H⟩ τ)
def s25_l10 (call : CallK) (N : Nat) (st : St) (τ : Tape) (k : KC) : Ans :=
  match st with
  | ⟨fr, H⟩ =>
  getK fr 0 fun t0 =>
  getK fr 3 fun t3 =>
  getK fr 5 fun t5 =>
  getK fr 6 fun t6 =>
  getK fr 8 fun t8 =>
  getK fr 9 fun t9 =>
  getK fr 10 fun t10 =>
  getK fr 11 fun t11 =>
  getK fr 12 fun t12 =>
  getK fr 13 fun t13 =>
  binK .lss t13 (.int .i64 (.ofNat 16)) fun v193 =>
  condK v193
    (loopK (s25_l12 call N) N ⟨(T.set (T.set (T.set (T.set (T.set (T.set (T.set (T.set (T.set (T.set (T.set .leaf 0 t0) 3 t3) 5 t5) 6 t6) 8 t8) 9 t9) 10 t10) 11 t11) 12 t12) 13 t13) 14 (.int .i64 (.ofNat 0))), H⟩ τ (blockK 2 (blockK 1 (seqK (s25_j11 call N k) k))))
    (k (.exit 0) ⟨(T.set (T.set (T.set (T.set (T.set (T.set (T.set (T.set .leaf 0 t0) 5 t5) 6 t6) 8 t8) 9 t9) 10 t10) 11 t11) 12 t12), H⟩ τ)
def s25_j0 (call : CallK) (N : Nat) (q : KV) (st : St) (τ : Tape) : Ans :=
  match st with
  | ⟨fr, H⟩ =>
  getK fr 0 fun t0 =>
  getK fr 3 fun t3 =>
  getK fr 5 fun t5 =>
  getK fr 6 fun t6 =>
  getK fr 8 fun t8 =>
  getK fr 9 fun t9 =>
  getK fr 10 fun t10 =>
  getK fr 11 fun t11 =>
  effK (eAlloc (repl 80 [(.int .u64 (.ofNat 0))]) [] H τ) fun v21 H22 τ23 =>
  loopK (s25_l10 call N) N ⟨(T.set (T.set (T.set (T.set (T.set (T.set (T.set (T.set (T.set (T.set .leaf 0 t0) 3 t3) 5 t5) 6 t6) 8 t8) 9 t9) 10 t10) 11 t11) 12 v21) 13 (.int .i64 (.ofNat 0))), H22⟩ τ23 (blockK 0 (seqK (s25_j1 call N q) (endK [(.cell 8 (some 8))] q)))
def s25 (call : CallK) (N : Nat) (a0 a1 a2 a3 : V) (H : Heap) (τ : Tape) (q : KV) : Ans :=
  effK (eBox [a1] H τ) fun v0 H1 τ2 =>
  effK (eBox [a2] H1 τ2) fun v3 H4 τ5 =>
  effK (eAlloc (repl 8 [(.int .u64 (.ofNat 0))]) [] H4 τ5) fun v6 H7 τ8 =>
  someK (pFieldAddr 0 [v0]) fun v9 =>
  someK (lLoad1 [v9] H7) fun v10 =>
  toIntK .i64 v10 fun v11 =>
  binK .quo v11 (.int .i64 (.ofNat 8)) fun v12 =>
  someK (pBuild (repl 12 [(.int .u64 (.ofNat 0))]) [(0, 1), (1, 1), (2, 1), (3, 1), (4, 1), (5, 1), (6, 1), (7, 1), (8, 1), (9, 1), (10, 1), (11, 1)] [(.int .u64 (.ofNat 7)), (.int .u64 (.ofNat 18)), (.int .u64 (.ofNat 3)), (.int .u64 (.ofNat 17)), (.int .u64 (.ofNat 19)), (.int .u64 (.ofNat 10)), (.int .u64 (.ofNat 2)), (.int .u64 (.ofNat 13)), (.int .u64 (.ofNat 22)), (.int .u64 (.ofNat 6)), (.int .u64 (.ofNat 11)), (.int .u64 (.ofNat 25))]) fun v13 =>
  effK (eAlloc (repl 12 [(.int .u64 (.ofNat 0))]) [] H7 τ8) fun v14 H15 τ16 =>
  effK (eStore 12 [v14, v13] H15 τ16) fun v17 H18 τ19 =>
  binK .eql v12 (.int .i64 (.ofNat 8)) fun v20 =>
  condK v20
    (someK (pBuild (repl 12 [(.int .u64 (.ofNat 0))]) [(0, 1), (1, 1), (2, 1), (3, 1), (4, 1), (5, 1), (6, 1), (7, 1), (8, 1), (9, 1), (10, 1), (11, 1)] [(.int .u64 (.ofNat 1)), (.int .u64 (.ofNat 8)), (.int .u64 (.ofNat 7)), (.int .u64 (.ofNat 19)), (.int .u64 (.ofNat 61)), (.int .u64 (.ofNat 6)), (.int .u64 (.ofNat 28)), (.int .u64 (.ofNat 34)), (.int .u64 (.ofNat 39)), (.int .u64 (.ofNat 14)), (.int .u64 (.ofNat 18)), (.int .u64 (.ofNat 41))]) fun v210 =>
  effK (eStore 12 [v14, v210] H18 τ19) fun v211 H212 τ213 =>
  s25_j0 call N q ⟨(T.set (T.set (T.set (T.set (T.set (T.set (T.set (T.set (T.set .leaf 0 a0) 3 a3) 5 v0) 6 v3) 8 v6) 9 v12) 10 (.int .i64 (.ofNat 80))) 11 v14) 29 v210), H212⟩ τ213)
    (s25_j0 call N q ⟨(T.set (T.set (T.set (T.set (T.set (T.set (T.set (T.set (T.set .leaf 0 a0) 3 a3) 5 v0) 6 v3) 8 v6) 9 v12) 10 (.int .i64 (.ofNat 64))) 11 v14) 28 v20), H18⟩ τ19)
theorem s25_eq (call : CallK) (N : Nat) (a0 a1 a2 a3 : V) (H : Heap) (τ : Tape) (q : KV) : s25 call N a0 a1 a2 a3 H τ q = funK call N fn25 [a0, a1, a2, a3] H τ q := by kernel_rfl
def e25 (call : CallK) (N : Nat) (vs : List V) (H : Heap) (τ : Tape) (q : KV) : Ans := match vs with | [a0, a1, a2, a3] => s25 call N a0 a1 a2 a3 H τ q | _ => none
theorem e25_ok : EntOk fn25 e25 := by
  intro call N vs H τ q r h
  unfold e25 at h
  split at h
  · rw [s25_eq] at h; exact h
  · cases h
theorem e25_nat : EntNat e25 := by
  intro c hn N vs H τ q
  unfold e25
  split
  · rw [s25_eq, s25_eq]; exact funK_ent hn _ _ _ _ _ _
  · rfl
/-- ostiary/ostiarybook.Same[byte] -/
def fn26 : Fun := ⟨2,
  (.seq (.reg [⟨(some 4), none, (.p .mv), [(.c (.bool false))], none⟩])
  (.keep [0, 1] (.seq (.seq (.reg [⟨(some 6), none, (.p .mv), [(.t 0)], none⟩,
    ⟨(some 7), none, (.p .len), [(.t 6)], none⟩,
    ⟨(some 8), none, (.p .mv), [(.t 1)], none⟩,
    ⟨(some 9), none, (.p .len), [(.t 8)], none⟩,
    ⟨(some 10), none, (.p (.bin .neq)), [(.t 7), (.t 9)], none⟩])
  (.keep [0, 1, 10] (.cond (.t 10)
   (.seq (.reg [⟨(some 4), none, (.p .mv), [(.c (.bool false))], none⟩])
   (.keep [4] (.keep [4] .ret)))
   .skip)))
  (.keep [0, 1] (.seq (.seq (.reg [⟨(some 5), none, (.p .mv), [(.c (.int .i64 (.ofNat 0)))], none⟩])
  (.keep [0, 1, 5] (.block 0
   (.loop
    (.keep [0, 1, 5] (.seq (.seq (.reg [⟨(some 11), none, (.p .mv), [(.t 5)], none⟩,
      ⟨(some 12), none, (.p .mv), [(.t 0)], none⟩,
      ⟨(some 13), none, (.p .len), [(.t 12)], none⟩,
      ⟨(some 14), none, (.p (.bin .lss)), [(.t 11), (.t 13)], none⟩])
    (.keep [0, 1, 5, 14] (.cond (.t 14)
     .skip
     (.keep [] (.exit 0)))))
    (.keep [0, 1, 5] (.seq (.block 1
     (.seq (.draw [⟨(some 17), none, (.p .mv), [(.t 0)], none⟩,
       ⟨(some 18), none, (.p .mv), [(.t 5)], none⟩,
       ⟨(some 19), none, (.p (.slIdx 1)), [(.t 17), (.t 18)], none⟩,
       ⟨(some 20), none, (.l (.load none)), [(.t 19)], none⟩,
       ⟨(some 21), none, (.p .mv), [(.t 1)], none⟩,
       ⟨(some 22), none, (.p .mv), [(.t 5)], none⟩,
       ⟨(some 23), none, (.p (.slIdx 1)), [(.t 21), (.t 22)], none⟩,
       ⟨(some 24), none, (.l (.load none)), [(.t 23)], none⟩,
       ⟨(some 25), none, (.p (.bin .neq)), [(.t 20), (.t 24)], none⟩])
     (.keep [0, 1, 5, 25] (.cond (.t 25)
      (.seq (.reg [⟨(some 4), none, (.p .mv), [(.c (.bool false))], none⟩])
      (.keep [4] (.keep [4] .ret)))
      .skip))))
    (.keep [0, 1, 5] (.reg [⟨(some 15), none, (.p .mv), [(.t 5)], none⟩,
      ⟨(some 16), none, (.p (.bin .add)), [(.t 15), (.c (.int .i64 (.ofNat 1)))], none⟩,
      ⟨(some 5), none, (.p .mv), [(.t 16)], none⟩]))))))))))
  (.keep [] (.seq (.reg [⟨(some 4), none, (.p .mv), [(.c (.bool true))], none⟩])
  (.keep [4] (.keep [4] .ret))))))))),
  [(.t 4)]⟩
def s26_j0 (call : CallK) (N : Nat) (q : KV) (st : St) (τ : Tape) : Ans :=
  match st with
  | ⟨fr, H⟩ =>
  q (.bool true) H τ
def s26_l1 (call : CallK) (N : Nat) (st : St) (τ : Tape) (k : KC) : Ans :=
  match st with
  | ⟨fr, H⟩ =>
  getK fr 0 fun t0 =>
  getK fr 1 fun t1 =>
  getK fr 5 fun t5 =>
  someK (pLen [t0]) fun v3 =>
  binK .lss t5 v3 fun v4 =>
  condK v4
    (someK (pSlIdx 1 [t0, t5]) fun v5 =>
  someK (lLoad1 [v5] H) fun v6 =>
  someK (pSlIdx 1 [t1, t5]) fun v7 =>
  someK (lLoad1 [v7] H) fun v8 =>
  binK .neq v6 v8 fun v9 =>
  condK v9
    (k .ret ⟨(T.set .leaf 4 (.bool false)), H⟩ τ)
    (binK .add t5 (.int .i64 (.ofNat 1)) fun v10 =>
  k .normal ⟨(T.set (T.set (T.set (T.set (T.set (T.set .leaf 0 t0) 1 t1) 5 t5) 15 t5) 16 v10) 5 v10), H⟩ τ))
    (k (.exit 0) ⟨.leaf, H⟩ τ)
def s26 (call : CallK) (N : Nat) (a0 a1 : V) (H : Heap) (τ : Tape) (q : KV) : Ans :=
  someK (pLen [a0]) fun v0 =>
  someK (pLen [a1]) fun v1 =>
  binK .neq v0 v1 fun v2 =>
  condK v2
    (q (.bool false) H τ)
    (loopK (s26_l1 call N) N ⟨(T.set (T.set (T.set .leaf 0 a0) 1 a1) 5 (.int .i64 (.ofNat 0))), H⟩ τ (blockK 0 (seqK (s26_j0 call N q) (endK [(.t 4)] q))))
theorem s26_eq (call : CallK) (N : Nat) (a0 a1 : V) (H : Heap) (τ : Tape) (q : KV) : s26 call N a0 a1 H τ q = funK call N fn26 [a0, a1] H τ q := by kernel_rfl
def e26 (call : CallK) (N : Nat) (vs : List V) (H : Heap) (τ : Tape) (q : KV) : Ans := match vs with | [a0, a1] => s26 call N a0 a1 H τ q | _ => none
theorem e26_ok : EntOk fn26 e26 := by
  intro call N vs H τ q r h
  unfold e26 at h
  split at h
  · rw [s26_eq] at h; exact h
  · cases h
theorem e26_nat : EntNat e26 := by
  intro c hn N vs H τ q
  unfold e26
  split
  · rw [s26_eq, s26_eq]; exact funK_ent hn _ _ _ _ _ _
  · rfl
/-- (*ostiary/ostiarybook.Book[byte]).Stays -/
def fn27 : Fun := ⟨1,
  (.seq (.reg [⟨(some 2), none, (.p .mv), [(.c (.bool false))], none⟩])
  (.keep [0] (.seq (.seq (.reg [⟨(some 3), none, (.p .mv), [(.c (.int .i64 (.ofNat 0)))], none⟩])
  (.keep [0, 3] (.block 0
   (.loop
    (.keep [0, 3] (.seq (.seq (.reg [⟨(some 4), none, (.p .mv), [(.t 3)], none⟩,
      ⟨(some 5), none, (.p .mv), [(.t 0)], none⟩,
      ⟨(some 6), none, (.p .nilck), [(.t 5)], none⟩,
      ⟨(some 7), none, (.p (.fieldAddr 0)), [(.t 6)], none⟩,
      ⟨(some 8), none, (.l (.load none)), [(.t 7)], none⟩,
      ⟨(some 9), none, (.p .len), [(.t 8)], none⟩,
      ⟨(some 10), none, (.p (.bin .lss)), [(.t 4), (.t 9)], none⟩])
    (.keep [0, 3, 10] (.cond (.t 10)
     .skip
     (.keep [0] (.exit 0)))))
    (.keep [0, 3] (.seq (.block 1
     (.draw [⟨(some 13), none, (.p .mv), [(.t 0)], none⟩,
       ⟨(some 14), none, (.p .mv), [(.t 0)], none⟩,
       ⟨(some 15), none, (.p .nilck), [(.t 14)], none⟩,
       ⟨(some 16), none, (.p (.fieldAddr 3)), [(.t 15)], none⟩,
       ⟨(some 17), none, (.l (.load none)), [(.t 16)], none⟩,
       ⟨(some 18), none, (.p .mv), [(.t 17)], none⟩,
       ⟨(some 19), some (18, false), (.p .mv), [(.t 0)], none⟩,
       ⟨(some 20), some (18, false), (.p .nilck), [(.t 19)], none⟩,
       ⟨(some 21), some (18, false), (.p (.fieldAddr 0)), [(.t 20)], none⟩,
       ⟨(some 22), some (18, false), (.l (.load none)), [(.t 21)], none⟩,
       ⟨(some 23), some (18, false), (.p .mv), [(.t 3)], none⟩,
       ⟨(some 24), some (18, false), (.p (.slIdx 1)), [(.t 22), (.t 23)], none⟩,
       ⟨(some 25), some (18, false), (.l (.load none)), [(.t 24)], none⟩,
       ⟨(some 26), some (18, false), (.p .mv), [(.t 0)], none⟩,
       ⟨(some 27), some (18, false), (.p .nilck), [(.t 26)], none⟩,
       ⟨(some 28), some (18, false), (.p (.fieldAddr 1)), [(.t 27)], none⟩,
       ⟨(some 29), some (18, false), (.l (.load none)), [(.t 28)], none⟩,
       ⟨(some 30), some (18, false), (.p .mv), [(.t 3)], none⟩,
       ⟨(some 31), some (18, false), (.p (.slIdx 1)), [(.t 29), (.t 30)], none⟩,
       ⟨(some 32), some (18, false), (.l (.load none)), [(.t 31)], none⟩,
       ⟨(some 33), some (18, false), (.call 26), [(.t 25), (.t 32)], none⟩,
       ⟨(some 34), some (18, false), (.p (.un .not)), [(.t 33)], none⟩,
       ⟨(some 35), none, (.p .pick), [(.t 18), (.c (.bool true)), (.t 34)], none⟩,
       ⟨(some 36), none, (.p .nilck), [(.t 13)], none⟩,
       ⟨(some 37), none, (.p (.fieldAddr 3)), [(.t 36)], none⟩,
       ⟨none, none, (.e (.store 1)), [(.t 37), (.t 35)], none⟩]))
    (.keep [0, 3] (.reg [⟨(some 11), none, (.p .mv), [(.t 3)], none⟩,
      ⟨(some 12), none, (.p (.bin .add)), [(.t 11), (.c (.int .i64 (.ofNat 1)))], none⟩,
      ⟨(some 3), none, (.p .mv), [(.t 12)], none⟩]))))))))))
  (.keep [0] (.seq (.reg [⟨(some 38), none, (.p .mv), [(.t 0)], none⟩,
    ⟨(some 39), none, (.p .nilck), [(.t 38)], none⟩,
    ⟨(some 40), none, (.p (.fieldAddr 3)), [(.t 39)], none⟩,
    ⟨(some 41), none, (.l (.load none)), [(.t 40)], none⟩,
    ⟨(some 42), none, (.p (.un .not)), [(.t 41)], none⟩,
    ⟨(some 2), none, (.p .mv), [(.t 42)], none⟩])
  (.keep [2] (.keep [2] .ret))))))),
  [(.t 2)]⟩
def s27_j0 (call : CallK) (N : Nat) (q : KV) (st : St) (τ : Tape) : Ans :=
  match st with
  | ⟨fr, H⟩ =>
  getK fr 0 fun t0 =>
  someK (pNilck [t0]) fun v0 =>
  someK (pFieldAddr 3 [v0]) fun v1 =>
  someK (lLoad1 [v1] H) fun v2 =>
  unK .not v2 fun v3 =>
  q v3 H τ
def s27_l1 (call : CallK) (N : Nat) (st : St) (τ : Tape) (k : KC) : Ans :=
  match st with
  | ⟨fr, H⟩ =>
  getK fr 0 fun t0 =>
  getK fr 3 fun t3 =>
  someK (pNilck [t0]) fun v4 =>
  someK (pFieldAddr 0 [v4]) fun v5 =>
  someK (lLoad1 [v5] H) fun v6 =>
  someK (pLen [v6]) fun v7 =>
  binK .lss t3 v7 fun v8 =>
  condK v8
    (someK (pNilck [t0]) fun v9 =>
  someK (pFieldAddr 3 [v9]) fun v10 =>
  someK (lLoad1 [v10] H) fun v11 =>
  gK v11 false (fun q' => q' t0 H τ) H τ fun v12 H13 τ14 =>
  gK v11 false (fun q' => someK (pNilck [v12]) fun v => q' v H13 τ14) H13 τ14 fun v15 H16 τ17 =>
  gK v11 false (fun q' => someK (pFieldAddr 0 [v15]) fun v => q' v H16 τ17) H16 τ17 fun v18 H19 τ20 =>
  gK v11 false (fun q' => someK (lLoad1 [v18] H19) fun v => q' v H19 τ20) H19 τ20 fun v21 H22 τ23 =>
  gK v11 false (fun q' => q' t3 H22 τ23) H22 τ23 fun v24 H25 τ26 =>
  gK v11 false (fun q' => someK (pSlIdx 1 [v21, v24]) fun v => q' v H25 τ26) H25 τ26 fun v27 H28 τ29 =>
  gK v11 false (fun q' => someK (lLoad1 [v27] H28) fun v => q' v H28 τ29) H28 τ29 fun v30 H31 τ32 =>
  gK v11 false (fun q' => q' t0 H31 τ32) H31 τ32 fun v33 H34 τ35 =>
  gK v11 false (fun q' => someK (pNilck [v33]) fun v => q' v H34 τ35) H34 τ35 fun v36 H37 τ38 =>
  gK v11 false (fun q' => someK (pFieldAddr 1 [v36]) fun v => q' v H37 τ38) H37 τ38 fun v39 H40 τ41 =>
  gK v11 false (fun q' => someK (lLoad1 [v39] H40) fun v => q' v H40 τ41) H40 τ41 fun v42 H43 τ44 =>
  gK v11 false (fun q' => q' t3 H43 τ44) H43 τ44 fun v45 H46 τ47 =>
  gK v11 false (fun q' => someK (pSlIdx 1 [v42, v45]) fun v => q' v H46 τ47) H46 τ47 fun v48 H49 τ50 =>
  gK v11 false (fun q' => someK (lLoad1 [v48] H49) fun v => q' v H49 τ50) H49 τ50 fun v51 H52 τ53 =>
  gK v11 false (fun q' => call 26 [v30, v51] H52 τ53 q') H52 τ53 fun v54 H55 τ56 =>
  gK v11 false (fun q' => unK .not v54 fun v => q' v H55 τ56) H55 τ56 fun v57 H58 τ59 =>
  someK (pPick [v11, (.bool true), v57]) fun v60 =>
  someK (pNilck [t0]) fun v61 =>
  someK (pFieldAddr 3 [v61]) fun v62 =>
  effK (eStore 1 [v62, v60] H58 τ59) fun v63 H64 τ65 =>
  binK .add t3 (.int .i64 (.ofNat 1)) fun v66 =>
  k .normal ⟨(T.set (T.set (T.set (T.set (T.set .leaf 0 t0) 3 t3) 11 t3) 12 v66) 3 v66), H64⟩ τ65)
    (k (.exit 0) ⟨(T.set .leaf 0 t0), H⟩ τ)
def s27 (call : CallK) (N : Nat) (a0 : V) (H : Heap) (τ : Tape) (q : KV) : Ans :=
  loopK (s27_l1 call N) N ⟨(T.set (T.set .leaf 0 a0) 3 (.int .i64 (.ofNat 0))), H⟩ τ (blockK 0 (seqK (s27_j0 call N q) (endK [(.t 2)] q)))
theorem s27_eq (call : CallK) (N : Nat) (a0 : V) (H : Heap) (τ : Tape) (q : KV) : s27 call N a0 H τ q = funK call N fn27 [a0] H τ q := by kernel_rfl
def e27 (call : CallK) (N : Nat) (vs : List V) (H : Heap) (τ : Tape) (q : KV) : Ans := match vs with | [a0] => s27 call N a0 H τ q | _ => none
theorem e27_ok : EntOk fn27 e27 := by
  intro call N vs H τ q r h
  unfold e27 at h
  split at h
  · rw [s27_eq] at h; exact h
  · cases h
theorem e27_nat : EntNat e27 := by
  intro c hn N vs H τ q
  unfold e27
  split
  · rw [s27_eq, s27_eq]; exact funK_ent hn _ _ _ _ _ _
  · rfl
/-- ostiary/digest.mix[uint32] -/
def fn28 : Fun := ⟨3,
  (.seq (.reg [⟨(some 6), none, (.e (.alloc (repl 80 [(.int .u32 (.ofNat 0))]))), [], none⟩])
  (.keep [0, 1, 2, 6] (.seq (.reg [⟨(some 18), none, (.p .mv), [(.t 0)], none⟩,
    ⟨(some 19), none, (.p .nilck), [(.t 18)], none⟩,
    ⟨(some 20), none, (.p (.fieldAddr 0)), [(.t 19)], none⟩,
    ⟨(some 21), none, (.l (.load none)), [(.t 20)], none⟩,
    ⟨(some 22), none, (.p (.bin .quo)), [(.t 21), (.c (.int .i64 (.ofNat 8)))], none⟩,
    ⟨(some 7), none, (.p .mv), [(.t 22)], none⟩])
  (.keep [0, 1, 2, 6, 7] (.seq (.seq (.reg [⟨(some 23), none, (.p .mv), [(.t 0)], none⟩,
    ⟨(some 24), none, (.p .nilck), [(.t 23)], none⟩,
    ⟨(some 25), none, (.p (.fieldAddr 1)), [(.t 24)], none⟩,
    ⟨(some 26), none, (.l (.load none)), [(.t 25)], none⟩,
    ⟨(some 27), none, (.p .mv), [(.c (.int .i64 (.ofNat 0)))], none⟩])
  (.keep [0, 1, 2, 6, 7, 26, 27] (.block 0
   (.loop
    (.keep [0, 1, 2, 6, 7, 26, 27] (.seq (.reg [⟨(some 28), none, (.p (.bin .lss)), [(.t 27), (.t 26)], none⟩])
    (.keep [0, 1, 2, 6, 7, 26, 27, 28] (.seq (.cond (.t 28)
     .skip
     (.keep [0, 1, 6] (.exit 0)))
    (.keep [0, 1, 2, 6, 7, 26, 27] (.seq (.block 1
     (.seq (.reg [⟨(some 29), none, (.p .mv), [(.t 27)], none⟩,
       ⟨(some 8), none, (.p .mv), [(.t 29)], none⟩])
     (.keep [0, 1, 2, 6, 7, 8, 26, 27] (.seq (.seq (.reg [⟨(some 30), none, (.p .mv), [(.t 8)], none⟩,
       ⟨(some 31), none, (.p (.bin .geq)), [(.t 30), (.c (.int .i64 (.ofNat 16)))], none⟩])
     (.keep [0, 1, 2, 6, 7, 8, 26, 27, 31] (.cond (.t 31)
      (.seq (.draw [⟨(some 32), none, (.p .mv), [(.t 8)], none⟩,
        ⟨(some 33), none, (.p .mv), [(.t 8)], none⟩,
        ⟨(some 34), none, (.p (.bin .sub)), [(.t 33), (.c (.int .i64 (.ofNat 2)))], none⟩,
        ⟨(some 35), none, (.p (.arrIdx 80 1)), [(.t 6), (.t 34)], none⟩,
        ⟨(some 36), none, (.l (.load none)), [(.t 35)], none⟩,
        ⟨(some 37), none, (.p .mv), [(.t 0)], none⟩,
        ⟨(some 38), none, (.p .nilck), [(.t 37)], none⟩,
        ⟨(some 39), none, (.p (.fieldAddr 5)), [(.t 38)], none⟩,
        ⟨(some 40), none, (.l (.load (some 3))), [(.t 39)], none⟩,
        ⟨(some 41), none, (.p .mv), [(.t 0)], none⟩,
        ⟨(some 42), none, (.p .nilck), [(.t 41)], none⟩,
        ⟨(some 43), none, (.p (.fieldAddr 0)), [(.t 42)], none⟩,
        ⟨(some 44), none, (.l (.load none)), [(.t 43)], none⟩,
        ⟨(some 45), none, (.call 33), [(.t 36), (.t 40), (.t 44)], none⟩,
        ⟨(some 46), none, (.p .mv), [(.t 8)], none⟩,
        ⟨(some 47), none, (.p (.bin .sub)), [(.t 46), (.c (.int .i64 (.ofNat 7)))], none⟩,
        ⟨(some 48), none, (.p (.arrIdx 80 1)), [(.t 6), (.t 47)], none⟩,
        ⟨(some 49), none, (.l (.load none)), [(.t 48)], some (0, 2)⟩,
        ⟨(some 50), none, (.p (.bin .add)), [(.t 45), (.t 49)], none⟩,
        ⟨(some 51), none, (.p .mv), [(.t 8)], none⟩,
        ⟨(some 52), none, (.p (.bin .sub)), [(.t 51), (.c (.int .i64 (.ofNat 15)))], none⟩,
        ⟨(some 53), none, (.p (.arrIdx 80 1)), [(.t 6), (.t 52)], none⟩,
        ⟨(some 54), none, (.l (.load none)), [(.t 53)], some (0, 1)⟩,
        ⟨(some 55), none, (.p .mv), [(.t 0)], none⟩,
        ⟨(some 56), none, (.p .nilck), [(.t 55)], none⟩,
        ⟨(some 57), none, (.p (.fieldAddr 2)), [(.t 56)], none⟩,
        ⟨(some 58), none, (.l (.load (some 3))), [(.t 57)], some (0, 1)⟩,
        ⟨(some 59), none, (.p .mv), [(.t 0)], none⟩,
        ⟨(some 60), none, (.p .nilck), [(.t 59)], none⟩,
        ⟨(some 61), none, (.p (.fieldAddr 0)), [(.t 60)], none⟩,
        ⟨(some 62), none, (.l (.load none)), [(.t 61)], some (0, 1)⟩,
        ⟨(some 63), none, (.call 33), [(.t 54), (.t 58), (.t 62)], none⟩,
        ⟨(some 64), none, (.p (.bin .add)), [(.t 50), (.t 63)], none⟩,
        ⟨(some 65), none, (.p .mv), [(.t 8)], none⟩,
        ⟨(some 66), none, (.p (.bin .sub)), [(.t 65), (.c (.int .i64 (.ofNat 16)))], none⟩,
        ⟨(some 67), none, (.p (.arrIdx 80 1)), [(.t 6), (.t 66)], none⟩,
        ⟨(some 68), none, (.l (.load none)), [(.t 67)], some (0, 2)⟩,
        ⟨(some 69), none, (.p (.bin .add)), [(.t 64), (.t 68)], none⟩,
        ⟨(some 70), none, (.p (.arrIdx 80 1)), [(.t 6), (.t 32)], none⟩,
        ⟨none, none, (.e (.store 1)), [(.t 70), (.t 69)], none⟩])
      (.keep [0, 1, 2, 6, 7, 26, 27] (.keep [0, 1, 2, 6, 7, 26, 27] (.exit 1))))
      .skip)))
     (.keep [0, 1, 2, 6, 7, 8, 26, 27] (.seq (.reg [⟨(some 71), none, (.p .mv), [(.t 2)], none⟩,
       ⟨(some 72), none, (.p .mv), [(.t 8)], none⟩,
       ⟨(some 73), none, (.p .mv), [(.t 7)], none⟩,
       ⟨(some 74), none, (.p (.bin .mul)), [(.t 72), (.t 73)], none⟩,
       ⟨(some 75), none, (.p .mv), [(.t 8)], none⟩,
       ⟨(some 76), none, (.p (.bin .add)), [(.t 75), (.c (.int .i64 (.ofNat 1)))], none⟩,
       ⟨(some 77), none, (.p .mv), [(.t 7)], none⟩,
       ⟨(some 78), none, (.p (.bin .mul)), [(.t 76), (.t 77)], none⟩,
       ⟨(some 79), none, (.p (.slSlice 1 true true false)), [(.t 71), (.t 74), (.t 78)], none⟩,
       ⟨(some 80), none, (.p .len), [(.t 79)], none⟩,
       ⟨(some 81), none, (.p .mv), [(.c (.int .i64 (.ofNat 0)))], none⟩])
     (.keep [0, 1, 2, 6, 7, 8, 26, 27, 79, 80, 81] (.block 2
      (.loop
       (.keep [0, 1, 2, 6, 7, 8, 26, 27, 79, 80, 81] (.seq (.reg [⟨(some 82), none, (.p (.bin .lss)), [(.t 81), (.t 80)], none⟩])
       (.keep [0, 1, 2, 6, 7, 8, 26, 27, 79, 80, 81, 82] (.seq (.cond (.t 82)
        .skip
        (.keep [0, 1, 2, 6, 7, 26, 27] (.exit 2)))
       (.keep [0, 1, 2, 6, 7, 8, 26, 27, 79, 80, 81] (.seq (.block 3
        (.seq (.reg [⟨(some 83), none, (.p (.slIdx 1)), [(.t 79), (.t 81)], none⟩,
          ⟨(some 84), none, (.l (.load none)), [(.t 83)], none⟩,
          ⟨(some 10), none, (.p .mv), [(.t 84)], none⟩])
        (.keep [0, 1, 2, 6, 7, 8, 10, 26, 27, 79, 80, 81] (.reg [⟨(some 85), none, (.p .mv), [(.t 8)], none⟩,
          ⟨(some 86), none, (.p .mv), [(.t 8)], none⟩,
          ⟨(some 87), none, (.p (.arrIdx 80 1)), [(.t 6), (.t 86)], none⟩,
          ⟨(some 88), none, (.l (.load none)), [(.t 87)], none⟩,
          ⟨(some 89), none, (.p (.bin .shl)), [(.t 88), (.c (.int .u64 (.ofNat 8)))], none⟩,
          ⟨(some 90), none, (.p .mv), [(.t 10)], none⟩,
          ⟨(some 91), none, (.p (.toInt .u32)), [(.t 90)], none⟩,
          ⟨(some 92), none, (.p (.bin .or)), [(.t 89), (.t 91)], none⟩,
          ⟨(some 93), none, (.p (.arrIdx 80 1)), [(.t 6), (.t 85)], none⟩,
          ⟨none, none, (.e (.store 1)), [(.t 93), (.t 92)], none⟩]))))
       (.keep [0, 1, 2, 6, 7, 8, 26, 27, 79, 80, 81] (.reg [⟨(some 94), none, (.p (.bin .add)), [(.t 81), (.c (.int .i64 (.ofNat 1)))], none⟩,
         ⟨(some 81), none, (.p .mv), [(.t 94)], none⟩])))))))))))))))))
    (.keep [0, 1, 2, 6, 7, 26, 27] (.reg [⟨(some 95), none, (.p (.bin .add)), [(.t 27), (.c (.int .i64 (.ofNat 1)))], none⟩,
      ⟨(some 27), none, (.p .mv), [(.t 95)], none⟩]))))))))))))
  (.keep [0, 1, 6] (.seq (.reg [⟨(some 96), none, (.p .mv), [(.t 1)], none⟩,
    ⟨(some 97), none, (.p .nilck), [(.t 96)], none⟩,
    ⟨(some 98), none, (.l (.load (some 8))), [(.t 97)], none⟩,
    ⟨(some 11), none, (.e (.alloc (repl 8 [(.int .u32 (.ofNat 0))]))), [], none⟩,
    ⟨none, none, (.e (.store 8)), [(.t 11), (.t 98)], none⟩])
  (.keep [0, 1, 6, 11] (.seq (.seq (.reg [⟨(some 99), none, (.p .mv), [(.t 0)], none⟩,
    ⟨(some 100), none, (.p .nilck), [(.t 99)], none⟩,
    ⟨(some 101), none, (.p (.fieldAddr 1)), [(.t 100)], none⟩,
    ⟨(some 102), none, (.l (.load none)), [(.t 101)], none⟩,
    ⟨(some 103), none, (.p .mv), [(.c (.int .i64 (.ofNat 0)))], none⟩])
  (.keep [0, 1, 6, 11, 102, 103] (.block 4
   (.loop
    (.keep [0, 1, 6, 11, 102, 103] (.seq (.reg [⟨(some 104), none, (.p (.bin .lss)), [(.t 103), (.t 102)], none⟩])
    (.keep [0, 1, 6, 11, 102, 103, 104] (.seq (.cond (.t 104)
     .skip
     (.keep [1, 11] (.exit 4)))
    (.keep [0, 1, 6, 11, 102, 103] (.seq (.block 5
     (.seq (.reg [⟨(some 105), none, (.p .mv), [(.t 103)], none⟩,
       ⟨(some 12), none, (.p .mv), [(.t 105)], none⟩])
     (.keep [0, 1, 6, 11, 12, 102, 103] (.seq (.reg [⟨(some 106), none, (.p (.arrIdx 8 1)), [(.t 11), (.c (.int .i64 (.ofNat 4)))], none⟩,
       ⟨(some 107), none, (.l (.load none)), [(.t 106)], none⟩,
       ⟨(some 108), none, (.p (.arrIdx 8 1)), [(.t 11), (.c (.int .i64 (.ofNat 5)))], none⟩,
       ⟨(some 109), none, (.l (.load none)), [(.t 108)], none⟩,
       ⟨(some 110), none, (.p (.bin .and)), [(.t 107), (.t 109)], none⟩,
       ⟨(some 111), none, (.p (.arrIdx 8 1)), [(.t 11), (.c (.int .i64 (.ofNat 4)))], none⟩,
       ⟨(some 112), none, (.l (.load none)), [(.t 111)], none⟩,
       ⟨(some 113), none, (.p (.un .xor)), [(.t 112)], none⟩,
       ⟨(some 114), none, (.p (.arrIdx 8 1)), [(.t 11), (.c (.int .i64 (.ofNat 6)))], none⟩,
       ⟨(some 115), none, (.l (.load none)), [(.t 114)], none⟩,
       ⟨(some 116), none, (.p (.bin .and)), [(.t 113), (.t 115)], none⟩,
       ⟨(some 117), none, (.p (.bin .xor)), [(.t 110), (.t 116)], none⟩,
       ⟨(some 13), none, (.p .mv), [(.t 117)], none⟩])
     (.keep [0, 1, 6, 11, 12, 13, 102, 103] (.seq (.reg [⟨(some 118), none, (.p (.arrIdx 8 1)), [(.t 11), (.c (.int .i64 (.ofNat 0)))], none⟩,
       ⟨(some 119), none, (.l (.load none)), [(.t 118)], none⟩,
       ⟨(some 120), none, (.p (.arrIdx 8 1)), [(.t 11), (.c (.int .i64 (.ofNat 1)))], none⟩,
       ⟨(some 121), none, (.l (.load none)), [(.t 120)], none⟩,
       ⟨(some 122), none, (.p (.bin .and)), [(.t 119), (.t 121)], none⟩,
       ⟨(some 123), none, (.p (.arrIdx 8 1)), [(.t 11), (.c (.int .i64 (.ofNat 0)))], none⟩,
       ⟨(some 124), none, (.l (.load none)), [(.t 123)], none⟩,
       ⟨(some 125), none, (.p (.arrIdx 8 1)), [(.t 11), (.c (.int .i64 (.ofNat 2)))], none⟩,
       ⟨(some 126), none, (.l (.load none)), [(.t 125)], none⟩,
       ⟨(some 127), none, (.p (.bin .and)), [(.t 124), (.t 126)], none⟩,
       ⟨(some 128), none, (.p (.bin .xor)), [(.t 122), (.t 127)], none⟩,
       ⟨(some 129), none, (.p (.arrIdx 8 1)), [(.t 11), (.c (.int .i64 (.ofNat 1)))], none⟩,
       ⟨(some 130), none, (.l (.load none)), [(.t 129)], none⟩,
       ⟨(some 131), none, (.p (.arrIdx 8 1)), [(.t 11), (.c (.int .i64 (.ofNat 2)))], none⟩,
       ⟨(some 132), none, (.l (.load none)), [(.t 131)], none⟩,
       ⟨(some 133), none, (.p (.bin .and)), [(.t 130), (.t 132)], none⟩,
       ⟨(some 134), none, (.p (.bin .xor)), [(.t 128), (.t 133)], none⟩,
       ⟨(some 14), none, (.p .mv), [(.t 134)], none⟩])
     (.keep [0, 1, 6, 11, 12, 13, 14, 102, 103] (.seq (.draw [⟨(some 135), none, (.p (.arrIdx 8 1)), [(.t 11), (.c (.int .i64 (.ofNat 7)))], none⟩,
       ⟨(some 136), none, (.l (.load none)), [(.t 135)], some (0, 1)⟩,
       ⟨(some 137), none, (.p (.arrIdx 8 1)), [(.t 11), (.c (.int .i64 (.ofNat 4)))], none⟩,
       ⟨(some 138), none, (.l (.load none)), [(.t 137)], none⟩,
       ⟨(some 139), none, (.p .mv), [(.t 0)], none⟩,
       ⟨(some 140), none, (.p .nilck), [(.t 139)], none⟩,
       ⟨(some 141), none, (.p (.fieldAddr 11)), [(.t 140)], none⟩,
       ⟨(some 142), none, (.l (.load (some 3))), [(.t 141)], none⟩,
       ⟨(some 143), none, (.p .mv), [(.t 0)], none⟩,
       ⟨(some 144), none, (.p .nilck), [(.t 143)], none⟩,
       ⟨(some 145), none, (.p (.fieldAddr 0)), [(.t 144)], none⟩,
       ⟨(some 146), none, (.l (.load none)), [(.t 145)], none⟩,
       ⟨(some 147), none, (.call 34), [(.t 138), (.t 142), (.t 146)], none⟩,
       ⟨(some 148), none, (.p (.bin .add)), [(.t 136), (.t 147)], none⟩,
       ⟨(some 149), none, (.p .mv), [(.t 13)], none⟩,
       ⟨(some 150), none, (.p (.bin .add)), [(.t 148), (.t 149)], none⟩,
       ⟨(some 151), none, (.p .mv), [(.t 12)], none⟩,
       ⟨(some 152), none, (.p (.arrIdx 80 1)), [(.c (.ptr 5 0)), (.t 151)], none⟩,
       ⟨(some 153), none, (.l (.load none)), [(.t 152)], some (0, 1)⟩,
       ⟨(some 154), none, (.p .mv), [(.t 0)], none⟩,
       ⟨(some 155), none, (.p .nilck), [(.t 154)], none⟩,
       ⟨(some 156), none, (.p (.fieldAddr 0)), [(.t 155)], none⟩,
       ⟨(some 157), none, (.l (.load none)), [(.t 156)], some (0, 1)⟩,
       ⟨(some 158), none, (.p (.bin .sub)), [(.c (.int .i64 (.ofNat 64))), (.t 157)], none⟩,
       ⟨(some 159), none, (.p (.bin .shr)), [(.t 153), (.t 158)], none⟩,
       ⟨(some 160), none, (.p (.toInt .u32)), [(.t 159)], none⟩,
       ⟨(some 161), none, (.p (.bin .add)), [(.t 150), (.t 160)], none⟩,
       ⟨(some 162), none, (.p .mv), [(.t 12)], none⟩,
       ⟨(some 163), none, (.p (.arrIdx 80 1)), [(.t 6), (.t 162)], none⟩,
       ⟨(some 164), none, (.l (.load none)), [(.t 163)], some (0, 1)⟩,
       ⟨(some 165), none, (.p (.bin .add)), [(.t 161), (.t 164)], none⟩,
       ⟨(some 15), none, (.p .mv), [(.t 165)], none⟩])
     (.keep [0, 1, 6, 11, 14, 15, 102, 103] (.seq (.draw [⟨(some 166), none, (.p (.arrIdx 8 1)), [(.t 11), (.c (.int .i64 (.ofNat 0)))], none⟩,
       ⟨(some 167), none, (.l (.load none)), [(.t 166)], none⟩,
       ⟨(some 168), none, (.p .mv), [(.t 0)], none⟩,
       ⟨(some 169), none, (.p .nilck), [(.t 168)], none⟩,
       ⟨(some 170), none, (.p (.fieldAddr 8)), [(.t 169)], none⟩,
       ⟨(some 171), none, (.l (.load (some 3))), [(.t 170)], none⟩,
       ⟨(some 172), none, (.p .mv), [(.t 0)], none⟩,
       ⟨(some 173), none, (.p .nilck), [(.t 172)], none⟩,
       ⟨(some 174), none, (.p (.fieldAddr 0)), [(.t 173)], none⟩,
       ⟨(some 175), none, (.l (.load none)), [(.t 174)], none⟩,
       ⟨(some 176), none, (.call 34), [(.t 167), (.t 171), (.t 175)], none⟩,
       ⟨(some 177), none, (.p .mv), [(.t 14)], none⟩,
       ⟨(some 178), none, (.p (.bin .add)), [(.t 176), (.t 177)], none⟩,
       ⟨(some 16), none, (.p .mv), [(.t 178)], none⟩])
     (.keep [0, 1, 6, 11, 15, 16, 102, 103] (.reg [⟨(some 179), none, (.p .mv), [(.t 15)], none⟩,
       ⟨(some 180), none, (.p .mv), [(.t 16)], none⟩,
       ⟨(some 181), none, (.p (.bin .add)), [(.t 179), (.t 180)], none⟩,
       ⟨(some 182), none, (.p (.arrIdx 8 1)), [(.t 11), (.c (.int .i64 (.ofNat 0)))], none⟩,
       ⟨(some 183), none, (.l (.load none)), [(.t 182)], none⟩,
       ⟨(some 184), none, (.p (.arrIdx 8 1)), [(.t 11), (.c (.int .i64 (.ofNat 1)))], none⟩,
       ⟨(some 185), none, (.l (.load none)), [(.t 184)], none⟩,
       ⟨(some 186), none, (.p (.arrIdx 8 1)), [(.t 11), (.c (.int .i64 (.ofNat 2)))], none⟩,
       ⟨(some 187), none, (.l (.load none)), [(.t 186)], none⟩,
       ⟨(some 188), none, (.p (.arrIdx 8 1)), [(.t 11), (.c (.int .i64 (.ofNat 3)))], none⟩,
       ⟨(some 189), none, (.l (.load none)), [(.t 188)], none⟩,
       ⟨(some 190), none, (.p .mv), [(.t 15)], none⟩,
       ⟨(some 191), none, (.p (.bin .add)), [(.t 189), (.t 190)], none⟩,
       ⟨(some 192), none, (.p (.arrIdx 8 1)), [(.t 11), (.c (.int .i64 (.ofNat 4)))], none⟩,
       ⟨(some 193), none, (.l (.load none)), [(.t 192)], none⟩,
       ⟨(some 194), none, (.p (.arrIdx 8 1)), [(.t 11), (.c (.int .i64 (.ofNat 5)))], none⟩,
       ⟨(some 195), none, (.l (.load none)), [(.t 194)], none⟩,
       ⟨(some 196), none, (.p (.arrIdx 8 1)), [(.t 11), (.c (.int .i64 (.ofNat 6)))], none⟩,
       ⟨(some 197), none, (.l (.load none)), [(.t 196)], none⟩,
       ⟨(some 198), none, (.p (.build (repl 8 [(.int .u32 (.ofNat 0))]) [(0, 1), (1, 1), (2, 1), (3, 1), (4, 1), (5, 1), (6, 1), (7, 1)])), [(.t 181), (.t 183), (.t 185), (.t 187), (.t 191), (.t 193), (.t 195), (.t 197)], none⟩,
       ⟨none, none, (.e (.store 8)), [(.t 11), (.t 198)], none⟩]))))))))))))
    (.keep [0, 1, 6, 11, 102, 103] (.reg [⟨(some 199), none, (.p (.bin .add)), [(.t 103), (.c (.int .i64 (.ofNat 1)))], none⟩,
      ⟨(some 103), none, (.p .mv), [(.t 199)], none⟩]))))))))))))
  (.keep [1, 11] (.seq (.reg [⟨(some 200), none, (.p .mv), [(.c (.int .i64 (.ofNat 0)))], none⟩])
  (.keep [1, 11, 200] (.block 6
   (.loop
    (.keep [1, 11, 200] (.seq (.reg [⟨(some 201), none, (.p (.bin .lss)), [(.t 200), (.c (.int .i64 (.ofNat 8)))], none⟩])
    (.keep [1, 11, 200, 201] (.seq (.cond (.t 201)
     .skip
     (.keep [] (.exit 6)))
    (.keep [1, 11, 200] (.seq (.block 7
     (.seq (.reg [⟨(some 202), none, (.p .mv), [(.t 200)], none⟩,
       ⟨(some 17), none, (.p .mv), [(.t 202)], none⟩])
     (.keep [1, 11, 17, 200] (.draw [⟨(some 203), none, (.p .mv), [(.t 1)], none⟩,
       ⟨(some 204), none, (.p .mv), [(.t 17)], none⟩,
       ⟨(some 205), none, (.p .nilck), [(.t 203)], none⟩,
       ⟨(some 206), none, (.p (.arrIdx 8 1)), [(.t 205), (.t 204)], none⟩,
       ⟨(some 207), none, (.l (.load none)), [(.t 206)], none⟩,
       ⟨(some 208), none, (.p .mv), [(.t 17)], none⟩,
       ⟨(some 209), none, (.p (.arrIdx 8 1)), [(.t 11), (.t 208)], none⟩,
       ⟨(some 210), none, (.l (.load none)), [(.t 209)], none⟩,
       ⟨(some 211), none, (.p (.bin .add)), [(.t 207), (.t 210)], none⟩,
       ⟨(some 212), none, (.p .nilck), [(.t 203)], none⟩,
       ⟨(some 213), none, (.p (.arrIdx 8 1)), [(.t 212), (.t 204)], none⟩,
       ⟨none, none, (.e (.store 1)), [(.t 213), (.t 211)], none⟩]))))
    (.keep [1, 11, 200] (.reg [⟨(some 214), none, (.p (.bin .add)), [(.t 200), (.c (.int .i64 (.ofNat 1)))], none⟩,
      ⟨(some 200), none, (.p .mv), [(.t 214)], none⟩])))))))))))))))))))))),
  []⟩
def s28_l2 (call : CallK) (N : Nat) (st : St) (τ : Tape) (k : KC) : Ans :=
  match st with
  | ⟨fr, H⟩ =>
  getK fr 1 fun t1 =>
  getK fr 11 fun t11 =>
  getK fr 200 fun t200 =>
  binK .lss t200 (.int .i64 (.ofNat 8)) fun v21 =>
  condK v21
    (someK (pNilck [t1]) fun v22 =>
  someK (pArrIdx 8 1 [v22, t200]) fun v23 =>
  someK (lLoad1 [v23] H) fun v24 =>
  someK (pArrIdx 8 1 [t11, t200]) fun v25 =>
  someK (lLoad1 [v25] H) fun v26 =>
  binK .add v24 v26 fun v27 =>
  someK (pNilck [t1]) fun v28 =>
  someK (pArrIdx 8 1 [v28, t200]) fun v29 =>
  effK (eStore 1 [v29, v27] H τ) fun v30 H31 τ32 =>
  binK .add t200 (.int .i64 (.ofNat 1)) fun v33 =>
  k .normal ⟨(T.set (T.set (T.set (T.set (T.set .leaf 1 t1) 11 t11) 200 t200) 214 v33) 200 v33), H31⟩ τ32)
    (k (.exit 6) ⟨.leaf, H⟩ τ)
def s28_j1 (call : CallK) (N : Nat) (q : KV) (st : St) (τ : Tape) : Ans :=
  match st with
  | ⟨fr, H⟩ =>
  getK fr 1 fun t1 =>
  getK fr 11 fun t11 =>
  loopK (s28_l2 call N) N ⟨(T.set (T.set (T.set .leaf 1 t1) 11 t11) 200 (.int .i64 (.ofNat 0))), H⟩ τ (blockK 6 (endK [] q))
def s28_l3 (call : CallK) (N : Nat) (st : St) (τ : Tape) (k : KC) : Ans :=
  match st with
  | ⟨fr, H⟩ =>
  getK fr 0 fun t0 =>
  getK fr 1 fun t1 =>
  getK fr 6 fun t6 =>
  getK fr 11 fun t11 =>
  getK fr 102 fun t102 =>
  getK fr 103 fun t103 =>
  binK .lss t103 t102 fun v34 =>
  condK v34
    (someK (pArrIdx 8 1 [t11, (.int .i64 (.ofNat 4))]) fun v35 =>
  someK (lLoad1 [v35] H) fun v36 =>
  someK (pArrIdx 8 1 [t11, (.int .i64 (.ofNat 5))]) fun v37 =>
  someK (lLoad1 [v37] H) fun v38 =>
  binK .and v36 v38 fun v39 =>
  someK (pArrIdx 8 1 [t11, (.int .i64 (.ofNat 4))]) fun v40 =>
  someK (lLoad1 [v40] H) fun v41 =>
  unK .xor v41 fun v42 =>
  someK (pArrIdx 8 1 [t11, (.int .i64 (.ofNat 6))]) fun v43 =>
  someK (lLoad1 [v43] H) fun v44 =>
  binK .and v42 v44 fun v45 =>
  binK .xor v39 v45 fun v46 =>
  someK (pArrIdx 8 1 [t11, (.int .i64 (.ofNat 0))]) fun v47 =>
  someK (lLoad1 [v47] H) fun v48 =>
  someK (pArrIdx 8 1 [t11, (.int .i64 (.ofNat 1))]) fun v49 =>
  someK (lLoad1 [v49] H) fun v50 =>
  binK .and v48 v50 fun v51 =>
  someK (pArrIdx 8 1 [t11, (.int .i64 (.ofNat 0))]) fun v52 =>
  someK (lLoad1 [v52] H) fun v53 =>
  someK (pArrIdx 8 1 [t11, (.int .i64 (.ofNat 2))]) fun v54 =>
  someK (lLoad1 [v54] H) fun v55 =>
  binK .and v53 v55 fun v56 =>
  binK .xor v51 v56 fun v57 =>
  someK (pArrIdx 8 1 [t11, (.int .i64 (.ofNat 1))]) fun v58 =>
  someK (lLoad1 [v58] H) fun v59 =>
  someK (pArrIdx 8 1 [t11, (.int .i64 (.ofNat 2))]) fun v60 =>
  someK (lLoad1 [v60] H) fun v61 =>
  binK .and v59 v61 fun v62 =>
  binK .xor v57 v62 fun v63 =>
  someK (pArrIdx 8 1 [t11, (.int .i64 (.ofNat 7))]) fun v64 =>
  someK (lLoad1 [v64] H) fun v65 =>
  someK (pArrIdx 8 1 [t11, (.int .i64 (.ofNat 4))]) fun v66 =>
  someK (lLoad1 [v66] H) fun v67 =>
  someK (pNilck [t0]) fun v68 =>
  someK (pFieldAddr 11 [v68]) fun v69 =>
  someK (lLoadN 3 [v69] H) fun v70 =>
  someK (pNilck [t0]) fun v71 =>
  someK (pFieldAddr 0 [v71]) fun v72 =>
  someK (lLoad1 [v72] H) fun v73 =>
  call 34 [v67, v70, v73] H τ fun v74 H75 τ76 =>
  binK .add v65 v74 fun v77 =>
  binK .add v77 v46 fun v78 =>
  someK (pArrIdx 80 1 [(.ptr 5 0), t103]) fun v79 =>
  someK (lLoad1 [v79] H75) fun v80 =>
  someK (pNilck [t0]) fun v81 =>
  someK (pFieldAddr 0 [v81]) fun v82 =>
  someK (lLoad1 [v82] H75) fun v83 =>
  binK .sub (.int .i64 (.ofNat 64)) v83 fun v84 =>
  binK .shr v80 v84 fun v85 =>
  toIntK .u32 v85 fun v86 =>
  binK .add v78 v86 fun v87 =>
  someK (pArrIdx 80 1 [t6, t103]) fun v88 =>
  someK (lLoad1 [v88] H75) fun v89 =>
  binK .add v87 v89 fun v90 =>
  bif chkLoads [H, H75] (((.load none), [v88], 0, 1) :: (((.load none), [v82], 0, 1) :: (((.load none), [v79], 0, 1) :: (((.load none), [v64], 0, 1) :: [])))) then
  someK (pArrIdx 8 1 [t11, (.int .i64 (.ofNat 0))]) fun v91 =>
  someK (lLoad1 [v91] H75) fun v92 =>
  someK (pNilck [t0]) fun v93 =>
  someK (pFieldAddr 8 [v93]) fun v94 =>
  someK (lLoadN 3 [v94] H75) fun v95 =>
  someK (pNilck [t0]) fun v96 =>
  someK (pFieldAddr 0 [v96]) fun v97 =>
  someK (lLoad1 [v97] H75) fun v98 =>
  call 34 [v92, v95, v98] H75 τ76 fun v99 H100 τ101 =>
  binK .add v99 v63 fun v102 =>
  binK .add v90 v102 fun v103 =>
  someK (pArrIdx 8 1 [t11, (.int .i64 (.ofNat 0))]) fun v104 =>
  someK (lLoad1 [v104] H100) fun v105 =>
  someK (pArrIdx 8 1 [t11, (.int .i64 (.ofNat 1))]) fun v106 =>
  someK (lLoad1 [v106] H100) fun v107 =>
  someK (pArrIdx 8 1 [t11, (.int .i64 (.ofNat 2))]) fun v108 =>
  someK (lLoad1 [v108] H100) fun v109 =>
  someK (pArrIdx 8 1 [t11, (.int .i64 (.ofNat 3))]) fun v110 =>
  someK (lLoad1 [v110] H100) fun v111 =>
  binK .add v111 v90 fun v112 =>
  someK (pArrIdx 8 1 [t11, (.int .i64 (.ofNat 4))]) fun v113 =>
  someK (lLoad1 [v113] H100) fun v114 =>
  someK (pArrIdx 8 1 [t11, (.int .i64 (.ofNat 5))]) fun v115 =>
  someK (lLoad1 [v115] H100) fun v116 =>
  someK (pArrIdx 8 1 [t11, (.int .i64 (.ofNat 6))]) fun v117 =>
  someK (lLoad1 [v117] H100) fun v118 =>
  someK (pBuild (repl 8 [(.int .u32 (.ofNat 0))]) [(0, 1), (1, 1), (2, 1), (3, 1), (4, 1), (5, 1), (6, 1), (7, 1)] [v103, v105, v107, v109, v112, v114, v116, v118]) fun v119 =>
  effK (eStore 8 [t11, v119] H100 τ101) fun v120 H121 τ122 =>
  binK .add t103 (.int .i64 (.ofNat 1)) fun v123 =>
  k .normal ⟨(T.set (T.set (T.set (T.set (T.set (T.set (T.set (T.set .leaf 0 t0) 1 t1) 6 t6) 11 t11) 102 t102) 103 t103) 199 v123) 103 v123), H121⟩ τ122
  else none)
    (k (.exit 4) ⟨(T.set (T.set .leaf 1 t1) 11 t11), H⟩ τ)
def s28_j0 (call : CallK) (N : Nat) (q : KV) (st : St) (τ : Tape) : Ans :=
  match st with
  | ⟨fr, H⟩ =>
  getK fr 0 fun t0 =>
  getK fr 1 fun t1 =>
  getK fr 6 fun t6 =>
  someK (pNilck [t1]) fun v10 =>
  someK (lLoadN 8 [v10] H) fun v11 =>
  effK (eAlloc (repl 8 [(.int .u32 (.ofNat 0))]) [] H τ) fun v12 H13 τ14 =>
  effK (eStore 8 [v12, v11] H13 τ14) fun v15 H16 τ17 =>
  someK (pNilck [t0]) fun v18 =>
  someK (pFieldAddr 1 [v18]) fun v19 =>
  someK (lLoad1 [v19] H16) fun v20 =>
  loopK (s28_l3 call N) N ⟨(T.set (T.set (T.set (T.set (T.set (T.set .leaf 0 t0) 1 t1) 6 t6) 11 v12) 102 v20) 103 (.int .i64 (.ofNat 0))), H16⟩ τ17 (blockK 4 (seqK (s28_j1 call N q) (endK [] q)))
def s28_j5 (call : CallK) (N : Nat) (k : KC) (st : St) (τ : Tape) : Ans :=
  match st with
  | ⟨fr, H⟩ =>
  getK fr 0 fun t0 =>
  getK fr 1 fun t1 =>
  getK fr 2 fun t2 =>
  getK fr 6 fun t6 =>
  getK fr 7 fun t7 =>
  getK fr 26 fun t26 =>
  getK fr 27 fun t27 =>
  binK .add t27 (.int .i64 (.ofNat 1)) fun v125 =>
  k .normal ⟨(T.set (T.set (T.set (T.set (T.set (T.set (T.set (T.set (T.set .leaf 0 t0) 1 t1) 2 t2) 6 t6) 7 t7) 26 t26) 27 t27) 95 v125) 27 v125), H⟩ τ
def s28_l6 (call : CallK) (N : Nat) (st : St) (τ : Tape) (k : KC) : Ans :=
  match st with
  | ⟨fr, H⟩ =>
  getK fr 0 fun t0 =>
  getK fr 1 fun t1 =>
  getK fr 2 fun t2 =>
  getK fr 6 fun t6 =>
  getK fr 7 fun t7 =>
  getK fr 8 fun t8 =>
  getK fr 26 fun t26 =>
  getK fr 27 fun t27 =>
  getK fr 79 fun t79 =>
  getK fr 80 fun t80 =>
  getK fr 81 fun t81 =>
  binK .lss t81 t80 fun v169 =>
  condK v169
    (someK (pSlIdx 1 [t79, t81]) fun v170 =>
  someK (lLoad1 [v170] H) fun v171 =>
  someK (pArrIdx 80 1 [t6, t8]) fun v172 =>
  someK (lLoad1 [v172] H) fun v173 =>
  binK .shl v173 (.int .u64 (.ofNat 8)) fun v174 =>
  toIntK .u32 v171 fun v175 =>
  binK .or v174 v175 fun v176 =>
  someK (pArrIdx 80 1 [t6, t8]) fun v177 =>
  effK (eStore 1 [v177, v176] H τ) fun v178 H179 τ180 =>
  binK .add t81 (.int .i64 (.ofNat 1)) fun v181 =>
  k .normal ⟨(T.set (T.set (T.set (T.set (T.set (T.set (T.set (T.set (T.set (T.set (T.set (T.set (T.set .leaf 0 t0) 1 t1) 2 t2) 6 t6) 7 t7) 8 t8) 26 t26) 27 t27) 79 t79) 80 t80) 81 t81) 94 v181) 81 v181), H179⟩ τ180)
    (k (.exit 2) ⟨(T.set (T.set (T.set (T.set (T.set (T.set (T.set .leaf 0 t0) 1 t1) 2 t2) 6 t6) 7 t7) 26 t26) 27 t27), H⟩ τ)
def s28_l4 (call : CallK) (N : Nat) (st : St) (τ : Tape) (k : KC) : Ans :=
  match st with
  | ⟨fr, H⟩ =>
  getK fr 0 fun t0 =>
  getK fr 1 fun t1 =>
  getK fr 2 fun t2 =>
  getK fr 6 fun t6 =>
  getK fr 7 fun t7 =>
  getK fr 26 fun t26 =>
  getK fr 27 fun t27 =>
  binK .lss t27 t26 fun v124 =>
  condK v124
    (binK .geq t27 (.int .i64 (.ofNat 16)) fun v126 =>
  condK v126
    (binK .sub t27 (.int .i64 (.ofNat 2)) fun v127 =>
  someK (pArrIdx 80 1 [t6, v127]) fun v128 =>
  someK (lLoad1 [v128] H) fun v129 =>
  someK (pNilck [t0]) fun v130 =>
  someK (pFieldAddr 5 [v130]) fun v131 =>
  someK (lLoadN 3 [v131] H) fun v132 =>
  someK (pNilck [t0]) fun v133 =>
  someK (pFieldAddr 0 [v133]) fun v134 =>
  someK (lLoad1 [v134] H) fun v135 =>
  call 33 [v129, v132, v135] H τ fun v136 H137 τ138 =>
  binK .sub t27 (.int .i64 (.ofNat 7)) fun v139 =>
  someK (pArrIdx 80 1 [t6, v139]) fun v140 =>
  someK (lLoad1 [v140] H137) fun v141 =>
  binK .add v136 v141 fun v142 =>
  binK .sub t27 (.int .i64 (.ofNat 15)) fun v143 =>
  someK (pArrIdx 80 1 [t6, v143]) fun v144 =>
  someK (lLoad1 [v144] H137) fun v145 =>
  someK (pNilck [t0]) fun v146 =>
  someK (pFieldAddr 2 [v146]) fun v147 =>
  someK (lLoadN 3 [v147] H137) fun v148 =>
  someK (pNilck [t0]) fun v149 =>
  someK (pFieldAddr 0 [v149]) fun v150 =>
  someK (lLoad1 [v150] H137) fun v151 =>
  call 33 [v145, v148, v151] H137 τ138 fun v152 H153 τ154 =>
  binK .add v142 v152 fun v155 =>
  binK .sub t27 (.int .i64 (.ofNat 16)) fun v156 =>
  someK (pArrIdx 80 1 [t6, v156]) fun v157 =>
  someK (lLoad1 [v157] H153) fun v158 =>
  binK .add v155 v158 fun v159 =>
  someK (pArrIdx 80 1 [t6, t27]) fun v160 =>
  effK (eStore 1 [v160, v159] H153 τ154) fun v161 H162 τ163 =>
  bif chkLoads [H, H137, H153, H162] (((.load none), [v157], 0, 2) :: (((.load none), [v150], 0, 1) :: (((.load (some 3)), [v147], 0, 1) :: (((.load none), [v144], 0, 1) :: (((.load none), [v140], 0, 2) :: []))))) then
  s28_j5 call N k ⟨(T.set (T.set (T.set (T.set (T.set (T.set (T.set .leaf 0 t0) 1 t1) 2 t2) 6 t6) 7 t7) 26 t26) 27 t27), H162⟩ τ163
  else none)
    (binK .mul t27 t7 fun v164 =>
  binK .add t27 (.int .i64 (.ofNat 1)) fun v165 =>
  binK .mul v165 t7 fun v166 =>
  someK (pSlSlice 1 true true false [t2, v164, v166]) fun v167 =>
  someK (pLen [v167]) fun v168 =>
  loopK (s28_l6 call N) N ⟨(T.set (T.set (T.set (T.set (T.set (T.set (T.set (T.set (T.set (T.set (T.set .leaf 0 t0) 1 t1) 2 t2) 6 t6) 7 t7) 8 t27) 26 t26) 27 t27) 79 v167) 80 v168) 81 (.int .i64 (.ofNat 0))), H⟩ τ (blockK 2 (blockK 1 (seqK (s28_j5 call N k) k)))))
    (k (.exit 0) ⟨(T.set (T.set (T.set .leaf 0 t0) 1 t1) 6 t6), H⟩ τ)
def s28 (call : CallK) (N : Nat) (a0 a1 a2 : V) (H : Heap) (τ : Tape) (q : KV) : Ans :=
  effK (eAlloc (repl 80 [(.int .u32 (.ofNat 0))]) [] H τ) fun v0 H1 τ2 =>
  someK (pNilck [a0]) fun v3 =>
  someK (pFieldAddr 0 [v3]) fun v4 =>
  someK (lLoad1 [v4] H1) fun v5 =>
  binK .quo v5 (.int .i64 (.ofNat 8)) fun v6 =>
  someK (pNilck [a0]) fun v7 =>
  someK (pFieldAddr 1 [v7]) fun v8 =>
  someK (lLoad1 [v8] H1) fun v9 =>
  loopK (s28_l4 call N) N ⟨(T.set (T.set (T.set (T.set (T.set (T.set (T.set .leaf 0 a0) 1 a1) 2 a2) 6 v0) 7 v6) 26 v9) 27 (.int .i64 (.ofNat 0))), H1⟩ τ2 (blockK 0 (seqK (s28_j0 call N q) (endK [] q)))
theorem s28_eq (call : CallK) (N : Nat) (a0 a1 a2 : V) (H : Heap) (τ : Tape) (q : KV) : s28 call N a0 a1 a2 H τ q = funK call N fn28 [a0, a1, a2] H τ q := by kernel_rfl
def e28 (call : CallK) (N : Nat) (vs : List V) (H : Heap) (τ : Tape) (q : KV) : Ans := match vs with | [a0, a1, a2] => s28 call N a0 a1 a2 H τ q | _ => none
theorem e28_ok : EntOk fn28 e28 := by
  intro call N vs H τ q r h
  unfold e28 at h
  split at h
  · rw [s28_eq] at h; exact h
  · cases h
theorem e28_nat : EntNat e28 := by
  intro c hn N vs H τ q
  unfold e28
  split
  · rw [s28_eq, s28_eq]; exact funK_ent hn _ _ _ _ _ _
  · rfl
/-- ostiary/digest.mix[uint64] -/
def fn29 : Fun := ⟨3,
  (.seq (.reg [⟨(some 6), none, (.e (.alloc (repl 80 [(.int .u64 (.ofNat 0))]))), [], none⟩])
  (.keep [0, 1, 2, 6] (.seq (.reg [⟨(some 18), none, (.p .mv), [(.t 0)], none⟩,
    ⟨(some 19), none, (.p .nilck), [(.t 18)], none⟩,
    ⟨(some 20), none, (.p (.fieldAddr 0)), [(.t 19)], none⟩,
    ⟨(some 21), none, (.l (.load none)), [(.t 20)], none⟩,
    ⟨(some 22), none, (.p (.bin .quo)), [(.t 21), (.c (.int .i64 (.ofNat 8)))], none⟩,
    ⟨(some 7), none, (.p .mv), [(.t 22)], none⟩])
  (.keep [0, 1, 2, 6, 7] (.seq (.seq (.reg [⟨(some 23), none, (.p .mv), [(.t 0)], none⟩,
    ⟨(some 24), none, (.p .nilck), [(.t 23)], none⟩,
    ⟨(some 25), none, (.p (.fieldAddr 1)), [(.t 24)], none⟩,
    ⟨(some 26), none, (.l (.load none)), [(.t 25)], none⟩,
    ⟨(some 27), none, (.p .mv), [(.c (.int .i64 (.ofNat 0)))], none⟩])
  (.keep [0, 1, 2, 6, 7, 26, 27] (.block 0
   (.loop
    (.keep [0, 1, 2, 6, 7, 26, 27] (.seq (.reg [⟨(some 28), none, (.p (.bin .lss)), [(.t 27), (.t 26)], none⟩])
    (.keep [0, 1, 2, 6, 7, 26, 27, 28] (.seq (.cond (.t 28)
     .skip
     (.keep [0, 1, 6] (.exit 0)))
    (.keep [0, 1, 2, 6, 7, 26, 27] (.seq (.block 1
     (.seq (.reg [⟨(some 29), none, (.p .mv), [(.t 27)], none⟩,
       ⟨(some 8), none, (.p .mv), [(.t 29)], none⟩])
     (.keep [0, 1, 2, 6, 7, 8, 26, 27] (.seq (.seq (.reg [⟨(some 30), none, (.p .mv), [(.t 8)], none⟩,
       ⟨(some 31), none, (.p (.bin .geq)), [(.t 30), (.c (.int .i64 (.ofNat 16)))], none⟩])
     (.keep [0, 1, 2, 6, 7, 8, 26, 27, 31] (.cond (.t 31)
      (.seq (.draw [⟨(some 32), none, (.p .mv), [(.t 8)], none⟩,
        ⟨(some 33), none, (.p .mv), [(.t 8)], none⟩,
        ⟨(some 34), none, (.p (.bin .sub)), [(.t 33), (.c (.int .i64 (.ofNat 2)))], none⟩,
        ⟨(some 35), none, (.p (.arrIdx 80 1)), [(.t 6), (.t 34)], none⟩,
        ⟨(some 36), none, (.l (.load none)), [(.t 35)], none⟩,
        ⟨(some 37), none, (.p .mv), [(.t 0)], none⟩,
        ⟨(some 38), none, (.p .nilck), [(.t 37)], none⟩,
        ⟨(some 39), none, (.p (.fieldAddr 5)), [(.t 38)], none⟩,
        ⟨(some 40), none, (.l (.load (some 3))), [(.t 39)], none⟩,
        ⟨(some 41), none, (.p .mv), [(.t 0)], none⟩,
        ⟨(some 42), none, (.p .nilck), [(.t 41)], none⟩,
        ⟨(some 43), none, (.p (.fieldAddr 0)), [(.t 42)], none⟩,
        ⟨(some 44), none, (.l (.load none)), [(.t 43)], none⟩,
        ⟨(some 45), none, (.call 35), [(.t 36), (.t 40), (.t 44)], none⟩,
        ⟨(some 46), none, (.p .mv), [(.t 8)], none⟩,
        ⟨(some 47), none, (.p (.bin .sub)), [(.t 46), (.c (.int .i64 (.ofNat 7)))], none⟩,
        ⟨(some 48), none, (.p (.arrIdx 80 1)), [(.t 6), (.t 47)], none⟩,
        ⟨(some 49), none, (.l (.load none)), [(.t 48)], some (0, 2)⟩,
        ⟨(some 50), none, (.p (.bin .add)), [(.t 45), (.t 49)], none⟩,
        ⟨(some 51), none, (.p .mv), [(.t 8)], none⟩,
        ⟨(some 52), none, (.p (.bin .sub)), [(.t 51), (.c (.int .i64 (.ofNat 15)))], none⟩,
        ⟨(some 53), none, (.p (.arrIdx 80 1)), [(.t 6), (.t 52)], none⟩,
        ⟨(some 54), none, (.l (.load none)), [(.t 53)], some (0, 1)⟩,
        ⟨(some 55), none, (.p .mv), [(.t 0)], none⟩,
        ⟨(some 56), none, (.p .nilck), [(.t 55)], none⟩,
        ⟨(some 57), none, (.p (.fieldAddr 2)), [(.t 56)], none⟩,
        ⟨(some 58), none, (.l (.load (some 3))), [(.t 57)], some (0, 1)⟩,
        ⟨(some 59), none, (.p .mv), [(.t 0)], none⟩,
        ⟨(some 60), none, (.p .nilck), [(.t 59)], none⟩,
        ⟨(some 61), none, (.p (.fieldAddr 0)), [(.t 60)], none⟩,
        ⟨(some 62), none, (.l (.load none)), [(.t 61)], some (0, 1)⟩,
        ⟨(some 63), none, (.call 35), [(.t 54), (.t 58), (.t 62)], none⟩,
        ⟨(some 64), none, (.p (.bin .add)), [(.t 50), (.t 63)], none⟩,
        ⟨(some 65), none, (.p .mv), [(.t 8)], none⟩,
        ⟨(some 66), none, (.p (.bin .sub)), [(.t 65), (.c (.int .i64 (.ofNat 16)))], none⟩,
        ⟨(some 67), none, (.p (.arrIdx 80 1)), [(.t 6), (.t 66)], none⟩,
        ⟨(some 68), none, (.l (.load none)), [(.t 67)], some (0, 2)⟩,
        ⟨(some 69), none, (.p (.bin .add)), [(.t 64), (.t 68)], none⟩,
        ⟨(some 70), none, (.p (.arrIdx 80 1)), [(.t 6), (.t 32)], none⟩,
        ⟨none, none, (.e (.store 1)), [(.t 70), (.t 69)], none⟩])
      (.keep [0, 1, 2, 6, 7, 26, 27] (.keep [0, 1, 2, 6, 7, 26, 27] (.exit 1))))
      .skip)))
     (.keep [0, 1, 2, 6, 7, 8, 26, 27] (.seq (.reg [⟨(some 71), none, (.p .mv), [(.t 2)], none⟩,
       ⟨(some 72), none, (.p .mv), [(.t 8)], none⟩,
       ⟨(some 73), none, (.p .mv), [(.t 7)], none⟩,
       ⟨(some 74), none, (.p (.bin .mul)), [(.t 72), (.t 73)], none⟩,
       ⟨(some 75), none, (.p .mv), [(.t 8)], none⟩,
       ⟨(some 76), none, (.p (.bin .add)), [(.t 75), (.c (.int .i64 (.ofNat 1)))], none⟩,
       ⟨(some 77), none, (.p .mv), [(.t 7)], none⟩,
       ⟨(some 78), none, (.p (.bin .mul)), [(.t 76), (.t 77)], none⟩,
       ⟨(some 79), none, (.p (.slSlice 1 true true false)), [(.t 71), (.t 74), (.t 78)], none⟩,
       ⟨(some 80), none, (.p .len), [(.t 79)], none⟩,
       ⟨(some 81), none, (.p .mv), [(.c (.int .i64 (.ofNat 0)))], none⟩])
     (.keep [0, 1, 2, 6, 7, 8, 26, 27, 79, 80, 81] (.block 2
      (.loop
       (.keep [0, 1, 2, 6, 7, 8, 26, 27, 79, 80, 81] (.seq (.reg [⟨(some 82), none, (.p (.bin .lss)), [(.t 81), (.t 80)], none⟩])
       (.keep [0, 1, 2, 6, 7, 8, 26, 27, 79, 80, 81, 82] (.seq (.cond (.t 82)
        .skip
        (.keep [0, 1, 2, 6, 7, 26, 27] (.exit 2)))
       (.keep [0, 1, 2, 6, 7, 8, 26, 27, 79, 80, 81] (.seq (.block 3
        (.seq (.reg [⟨(some 83), none, (.p (.slIdx 1)), [(.t 79), (.t 81)], none⟩,
          ⟨(some 84), none, (.l (.load none)), [(.t 83)], none⟩,
          ⟨(some 10), none, (.p .mv), [(.t 84)], none⟩])
        (.keep [0, 1, 2, 6, 7, 8, 10, 26, 27, 79, 80, 81] (.reg [⟨(some 85), none, (.p .mv), [(.t 8)], none⟩,
          ⟨(some 86), none, (.p .mv), [(.t 8)], none⟩,
          ⟨(some 87), none, (.p (.arrIdx 80 1)), [(.t 6), (.t 86)], none⟩,
          ⟨(some 88), none, (.l (.load none)), [(.t 87)], none⟩,
          ⟨(some 89), none, (.p (.bin .shl)), [(.t 88), (.c (.int .u64 (.ofNat 8)))], none⟩,
          ⟨(some 90), none, (.p .mv), [(.t 10)], none⟩,
          ⟨(some 91), none, (.p (.toInt .u64)), [(.t 90)], none⟩,
          ⟨(some 92), none, (.p (.bin .or)), [(.t 89), (.t 91)], none⟩,
          ⟨(some 93), none, (.p (.arrIdx 80 1)), [(.t 6), (.t 85)], none⟩,
          ⟨none, none, (.e (.store 1)), [(.t 93), (.t 92)], none⟩]))))
       (.keep [0, 1, 2, 6, 7, 8, 26, 27, 79, 80, 81] (.reg [⟨(some 94), none, (.p (.bin .add)), [(.t 81), (.c (.int .i64 (.ofNat 1)))], none⟩,
         ⟨(some 81), none, (.p .mv), [(.t 94)], none⟩])))))))))))))))))
    (.keep [0, 1, 2, 6, 7, 26, 27] (.reg [⟨(some 95), none, (.p (.bin .add)), [(.t 27), (.c (.int .i64 (.ofNat 1)))], none⟩,
      ⟨(some 27), none, (.p .mv), [(.t 95)], none⟩]))))))))))))
  (.keep [0, 1, 6] (.seq (.reg [⟨(some 96), none, (.p .mv), [(.t 1)], none⟩,
    ⟨(some 97), none, (.p .nilck), [(.t 96)], none⟩,
    ⟨(some 98), none, (.l (.load (some 8))), [(.t 97)], none⟩,
    ⟨(some 11), none, (.e (.alloc (repl 8 [(.int .u64 (.ofNat 0))]))), [], none⟩,
    ⟨none, none, (.e (.store 8)), [(.t 11), (.t 98)], none⟩])
  (.keep [0, 1, 6, 11] (.seq (.seq (.reg [⟨(some 99), none, (.p .mv), [(.t 0)], none⟩,
    ⟨(some 100), none, (.p .nilck), [(.t 99)], none⟩,
    ⟨(some 101), none, (.p (.fieldAddr 1)), [(.t 100)], none⟩,
    ⟨(some 102), none, (.l (.load none)), [(.t 101)], none⟩,
    ⟨(some 103), none, (.p .mv), [(.c (.int .i64 (.ofNat 0)))], none⟩])
  (.keep [0, 1, 6, 11, 102, 103] (.block 4
   (.loop
    (.keep [0, 1, 6, 11, 102, 103] (.seq (.reg [⟨(some 104), none, (.p (.bin .lss)), [(.t 103), (.t 102)], none⟩])
    (.keep [0, 1, 6, 11, 102, 103, 104] (.seq (.cond (.t 104)
     .skip
     (.keep [1, 11] (.exit 4)))
    (.keep [0, 1, 6, 11, 102, 103] (.seq (.block 5
     (.seq (.reg [⟨(some 105), none, (.p .mv), [(.t 103)], none⟩,
       ⟨(some 12), none, (.p .mv), [(.t 105)], none⟩])
     (.keep [0, 1, 6, 11, 12, 102, 103] (.seq (.reg [⟨(some 106), none, (.p (.arrIdx 8 1)), [(.t 11), (.c (.int .i64 (.ofNat 4)))], none⟩,
       ⟨(some 107), none, (.l (.load none)), [(.t 106)], none⟩,
       ⟨(some 108), none, (.p (.arrIdx 8 1)), [(.t 11), (.c (.int .i64 (.ofNat 5)))], none⟩,
       ⟨(some 109), none, (.l (.load none)), [(.t 108)], none⟩,
       ⟨(some 110), none, (.p (.bin .and)), [(.t 107), (.t 109)], none⟩,
       ⟨(some 111), none, (.p (.arrIdx 8 1)), [(.t 11), (.c (.int .i64 (.ofNat 4)))], none⟩,
       ⟨(some 112), none, (.l (.load none)), [(.t 111)], none⟩,
       ⟨(some 113), none, (.p (.un .xor)), [(.t 112)], none⟩,
       ⟨(some 114), none, (.p (.arrIdx 8 1)), [(.t 11), (.c (.int .i64 (.ofNat 6)))], none⟩,
       ⟨(some 115), none, (.l (.load none)), [(.t 114)], none⟩,
       ⟨(some 116), none, (.p (.bin .and)), [(.t 113), (.t 115)], none⟩,
       ⟨(some 117), none, (.p (.bin .xor)), [(.t 110), (.t 116)], none⟩,
       ⟨(some 13), none, (.p .mv), [(.t 117)], none⟩])
     (.keep [0, 1, 6, 11, 12, 13, 102, 103] (.seq (.reg [⟨(some 118), none, (.p (.arrIdx 8 1)), [(.t 11), (.c (.int .i64 (.ofNat 0)))], none⟩,
       ⟨(some 119), none, (.l (.load none)), [(.t 118)], none⟩,
       ⟨(some 120), none, (.p (.arrIdx 8 1)), [(.t 11), (.c (.int .i64 (.ofNat 1)))], none⟩,
       ⟨(some 121), none, (.l (.load none)), [(.t 120)], none⟩,
       ⟨(some 122), none, (.p (.bin .and)), [(.t 119), (.t 121)], none⟩,
       ⟨(some 123), none, (.p (.arrIdx 8 1)), [(.t 11), (.c (.int .i64 (.ofNat 0)))], none⟩,
       ⟨(some 124), none, (.l (.load none)), [(.t 123)], none⟩,
       ⟨(some 125), none, (.p (.arrIdx 8 1)), [(.t 11), (.c (.int .i64 (.ofNat 2)))], none⟩,
       ⟨(some 126), none, (.l (.load none)), [(.t 125)], none⟩,
       ⟨(some 127), none, (.p (.bin .and)), [(.t 124), (.t 126)], none⟩,
       ⟨(some 128), none, (.p (.bin .xor)), [(.t 122), (.t 127)], none⟩,
       ⟨(some 129), none, (.p (.arrIdx 8 1)), [(.t 11), (.c (.int .i64 (.ofNat 1)))], none⟩,
       ⟨(some 130), none, (.l (.load none)), [(.t 129)], none⟩,
       ⟨(some 131), none, (.p (.arrIdx 8 1)), [(.t 11), (.c (.int .i64 (.ofNat 2)))], none⟩,
       ⟨(some 132), none, (.l (.load none)), [(.t 131)], none⟩,
       ⟨(some 133), none, (.p (.bin .and)), [(.t 130), (.t 132)], none⟩,
       ⟨(some 134), none, (.p (.bin .xor)), [(.t 128), (.t 133)], none⟩,
       ⟨(some 14), none, (.p .mv), [(.t 134)], none⟩])
     (.keep [0, 1, 6, 11, 12, 13, 14, 102, 103] (.seq (.draw [⟨(some 135), none, (.p (.arrIdx 8 1)), [(.t 11), (.c (.int .i64 (.ofNat 7)))], none⟩,
       ⟨(some 136), none, (.l (.load none)), [(.t 135)], some (0, 1)⟩,
       ⟨(some 137), none, (.p (.arrIdx 8 1)), [(.t 11), (.c (.int .i64 (.ofNat 4)))], none⟩,
       ⟨(some 138), none, (.l (.load none)), [(.t 137)], none⟩,
       ⟨(some 139), none, (.p .mv), [(.t 0)], none⟩,
       ⟨(some 140), none, (.p .nilck), [(.t 139)], none⟩,
       ⟨(some 141), none, (.p (.fieldAddr 11)), [(.t 140)], none⟩,
       ⟨(some 142), none, (.l (.load (some 3))), [(.t 141)], none⟩,
       ⟨(some 143), none, (.p .mv), [(.t 0)], none⟩,
       ⟨(some 144), none, (.p .nilck), [(.t 143)], none⟩,
       ⟨(some 145), none, (.p (.fieldAddr 0)), [(.t 144)], none⟩,
       ⟨(some 146), none, (.l (.load none)), [(.t 145)], none⟩,
       ⟨(some 147), none, (.call 36), [(.t 138), (.t 142), (.t 146)], none⟩,
       ⟨(some 148), none, (.p (.bin .add)), [(.t 136), (.t 147)], none⟩,
       ⟨(some 149), none, (.p .mv), [(.t 13)], none⟩,
       ⟨(some 150), none, (.p (.bin .add)), [(.t 148), (.t 149)], none⟩,
       ⟨(some 151), none, (.p .mv), [(.t 12)], none⟩,
       ⟨(some 152), none, (.p (.arrIdx 80 1)), [(.c (.ptr 5 0)), (.t 151)], none⟩,
       ⟨(some 153), none, (.l (.load none)), [(.t 152)], some (0, 1)⟩,
       ⟨(some 154), none, (.p .mv), [(.t 0)], none⟩,
       ⟨(some 155), none, (.p .nilck), [(.t 154)], none⟩,
       ⟨(some 156), none, (.p (.fieldAddr 0)), [(.t 155)], none⟩,
       ⟨(some 157), none, (.l (.load none)), [(.t 156)], some (0, 1)⟩,
       ⟨(some 158), none, (.p (.bin .sub)), [(.c (.int .i64 (.ofNat 64))), (.t 157)], none⟩,
       ⟨(some 159), none, (.p (.bin .shr)), [(.t 153), (.t 158)], none⟩,
       ⟨(some 160), none, (.p (.bin .add)), [(.t 150), (.t 159)], none⟩,
       ⟨(some 161), none, (.p .mv), [(.t 12)], none⟩,
       ⟨(some 162), none, (.p (.arrIdx 80 1)), [(.t 6), (.t 161)], none⟩,
       ⟨(some 163), none, (.l (.load none)), [(.t 162)], some (0, 1)⟩,
       ⟨(some 164), none, (.p (.bin .add)), [(.t 160), (.t 163)], none⟩,
       ⟨(some 15), none, (.p .mv), [(.t 164)], none⟩])
     (.keep [0, 1, 6, 11, 14, 15, 102, 103] (.seq (.draw [⟨(some 165), none, (.p (.arrIdx 8 1)), [(.t 11), (.c (.int .i64 (.ofNat 0)))], none⟩,
       ⟨(some 166), none, (.l (.load none)), [(.t 165)], none⟩,
       ⟨(some 167), none, (.p .mv), [(.t 0)], none⟩,
       ⟨(some 168), none, (.p .nilck), [(.t 167)], none⟩,
       ⟨(some 169), none, (.p (.fieldAddr 8)), [(.t 168)], none⟩,
       ⟨(some 170), none, (.l (.load (some 3))), [(.t 169)], none⟩,
       ⟨(some 171), none, (.p .mv), [(.t 0)], none⟩,
       ⟨(some 172), none, (.p .nilck), [(.t 171)], none⟩,
       ⟨(some 173), none, (.p (.fieldAddr 0)), [(.t 172)], none⟩,
       ⟨(some 174), none, (.l (.load none)), [(.t 173)], none⟩,
       ⟨(some 175), none, (.call 36), [(.t 166), (.t 170), (.t 174)], none⟩,
       ⟨(some 176), none, (.p .mv), [(.t 14)], none⟩,
       ⟨(some 177), none, (.p (.bin .add)), [(.t 175), (.t 176)], none⟩,
       ⟨(some 16), none, (.p .mv), [(.t 177)], none⟩])
     (.keep [0, 1, 6, 11, 15, 16, 102, 103] (.reg [⟨(some 178), none, (.p .mv), [(.t 15)], none⟩,
       ⟨(some 179), none, (.p .mv), [(.t 16)], none⟩,
       ⟨(some 180), none, (.p (.bin .add)), [(.t 178), (.t 179)], none⟩,
       ⟨(some 181), none, (.p (.arrIdx 8 1)), [(.t 11), (.c (.int .i64 (.ofNat 0)))], none⟩,
       ⟨(some 182), none, (.l (.load none)), [(.t 181)], none⟩,
       ⟨(some 183), none, (.p (.arrIdx 8 1)), [(.t 11), (.c (.int .i64 (.ofNat 1)))], none⟩,
       ⟨(some 184), none, (.l (.load none)), [(.t 183)], none⟩,
       ⟨(some 185), none, (.p (.arrIdx 8 1)), [(.t 11), (.c (.int .i64 (.ofNat 2)))], none⟩,
       ⟨(some 186), none, (.l (.load none)), [(.t 185)], none⟩,
       ⟨(some 187), none, (.p (.arrIdx 8 1)), [(.t 11), (.c (.int .i64 (.ofNat 3)))], none⟩,
       ⟨(some 188), none, (.l (.load none)), [(.t 187)], none⟩,
       ⟨(some 189), none, (.p .mv), [(.t 15)], none⟩,
       ⟨(some 190), none, (.p (.bin .add)), [(.t 188), (.t 189)], none⟩,
       ⟨(some 191), none, (.p (.arrIdx 8 1)), [(.t 11), (.c (.int .i64 (.ofNat 4)))], none⟩,
       ⟨(some 192), none, (.l (.load none)), [(.t 191)], none⟩,
       ⟨(some 193), none, (.p (.arrIdx 8 1)), [(.t 11), (.c (.int .i64 (.ofNat 5)))], none⟩,
       ⟨(some 194), none, (.l (.load none)), [(.t 193)], none⟩,
       ⟨(some 195), none, (.p (.arrIdx 8 1)), [(.t 11), (.c (.int .i64 (.ofNat 6)))], none⟩,
       ⟨(some 196), none, (.l (.load none)), [(.t 195)], none⟩,
       ⟨(some 197), none, (.p (.build (repl 8 [(.int .u64 (.ofNat 0))]) [(0, 1), (1, 1), (2, 1), (3, 1), (4, 1), (5, 1), (6, 1), (7, 1)])), [(.t 180), (.t 182), (.t 184), (.t 186), (.t 190), (.t 192), (.t 194), (.t 196)], none⟩,
       ⟨none, none, (.e (.store 8)), [(.t 11), (.t 197)], none⟩]))))))))))))
    (.keep [0, 1, 6, 11, 102, 103] (.reg [⟨(some 198), none, (.p (.bin .add)), [(.t 103), (.c (.int .i64 (.ofNat 1)))], none⟩,
      ⟨(some 103), none, (.p .mv), [(.t 198)], none⟩]))))))))))))
  (.keep [1, 11] (.seq (.reg [⟨(some 199), none, (.p .mv), [(.c (.int .i64 (.ofNat 0)))], none⟩])
  (.keep [1, 11, 199] (.block 6
   (.loop
    (.keep [1, 11, 199] (.seq (.reg [⟨(some 200), none, (.p (.bin .lss)), [(.t 199), (.c (.int .i64 (.ofNat 8)))], none⟩])
    (.keep [1, 11, 199, 200] (.seq (.cond (.t 200)
     .skip
     (.keep [] (.exit 6)))
    (.keep [1, 11, 199] (.seq (.block 7
     (.seq (.reg [⟨(some 201), none, (.p .mv), [(.t 199)], none⟩,
       ⟨(some 17), none, (.p .mv), [(.t 201)], none⟩])
     (.keep [1, 11, 17, 199] (.draw [⟨(some 202), none, (.p .mv), [(.t 1)], none⟩,
       ⟨(some 203), none, (.p .mv), [(.t 17)], none⟩,
       ⟨(some 204), none, (.p .nilck), [(.t 202)], none⟩,
       ⟨(some 205), none, (.p (.arrIdx 8 1)), [(.t 204), (.t 203)], none⟩,
       ⟨(some 206), none, (.l (.load none)), [(.t 205)], none⟩,
       ⟨(some 207), none, (.p .mv), [(.t 17)], none⟩,
       ⟨(some 208), none, (.p (.arrIdx 8 1)), [(.t 11), (.t 207)], none⟩,
       ⟨(some 209), none, (.l (.load none)), [(.t 208)], none⟩,
       ⟨(some 210), none, (.p (.bin .add)), [(.t 206), (.t 209)], none⟩,
       ⟨(some 211), none, (.p .nilck), [(.t 202)], none⟩,
       ⟨(some 212), none, (.p (.arrIdx 8 1)), [(.t 211), (.t 203)], none⟩,
       ⟨none, none, (.e (.store 1)), [(.t 212), (.t 210)], none⟩]))))
    (.keep [1, 11, 199] (.reg [⟨(some 213), none, (.p (.bin .add)), [(.t 199), (.c (.int .i64 (.ofNat 1)))], none⟩,
      ⟨(some 199), none, (.p .mv), [(.t 213)], none⟩])))))))))))))))))))))),
  []⟩
def s29_l2 (call : CallK) (N : Nat) (st : St) (τ : Tape) (k : KC) : Ans :=
  match st with
  | ⟨fr, H⟩ =>
  getK fr 1 fun t1 =>
  getK fr 11 fun t11 =>
  getK fr 199 fun t199 =>
  binK .lss t199 (.int .i64 (.ofNat 8)) fun v21 =>
  condK v21
    (someK (pNilck [t1]) fun v22 =>
  someK (pArrIdx 8 1 [v22, t199]) fun v23 =>
  someK (lLoad1 [v23] H) fun v24 =>
  someK (pArrIdx 8 1 [t11, t199]) fun v25 =>
  someK (lLoad1 [v25] H) fun v26 =>
  binK .add v24 v26 fun v27 =>
  someK (pNilck [t1]) fun v28 =>
  someK (pArrIdx 8 1 [v28, t199]) fun v29 =>
  effK (eStore 1 [v29, v27] H τ) fun v30 H31 τ32 =>
  binK .add t199 (.int .i64 (.ofNat 1)) fun v33 =>
  k .normal ⟨(T.set (T.set (T.set (T.set (T.set .leaf 1 t1) 11 t11) 199 t199) 213 v33) 199 v33), H31⟩ τ32)
    (k (.exit 6) ⟨.leaf, H⟩ τ)
def s29_j1 (call : CallK) (N : Nat) (q : KV) (st : St) (τ : Tape) : Ans :=
  match st with
  | ⟨fr, H⟩ =>
  getK fr 1 fun t1 =>
  getK fr 11 fun t11 =>
  loopK (s29_l2 call N) N ⟨(T.set (T.set (T.set .leaf 1 t1) 11 t11) 199 (.int .i64 (.ofNat 0))), H⟩ τ (blockK 6 (endK [] q))
def s29_l3 (call : CallK) (N : Nat) (st : St) (τ : Tape) (k : KC) : Ans :=
  match st with
  | ⟨fr, H⟩ =>
  getK fr 0 fun t0 =>
  getK fr 1 fun t1 =>
  getK fr 6 fun t6 =>
  getK fr 11 fun t11 =>
  getK fr 102 fun t102 =>
  getK fr 103 fun t103 =>
  binK .lss t103 t102 fun v34 =>
  condK v34
    (someK (pArrIdx 8 1 [t11, (.int .i64 (.ofNat 4))]) fun v35 =>
  someK (lLoad1 [v35] H) fun v36 =>
  someK (pArrIdx 8 1 [t11, (.int .i64 (.ofNat 5))]) fun v37 =>
  someK (lLoad1 [v37] H) fun v38 =>
  binK .and v36 v38 fun v39 =>
  someK (pArrIdx 8 1 [t11, (.int .i64 (.ofNat 4))]) fun v40 =>
  someK (lLoad1 [v40] H) fun v41 =>
  unK .xor v41 fun v42 =>
  someK (pArrIdx 8 1 [t11, (.int .i64 (.ofNat 6))]) fun v43 =>
  someK (lLoad1 [v43] H) fun v44 =>
  binK .and v42 v44 fun v45 =>
  binK .xor v39 v45 fun v46 =>
  someK (pArrIdx 8 1 [t11, (.int .i64 (.ofNat 0))]) fun v47 =>
  someK (lLoad1 [v47] H) fun v48 =>
  someK (pArrIdx 8 1 [t11, (.int .i64 (.ofNat 1))]) fun v49 =>
  someK (lLoad1 [v49] H) fun v50 =>
  binK .and v48 v50 fun v51 =>
  someK (pArrIdx 8 1 [t11, (.int .i64 (.ofNat 0))]) fun v52 =>
  someK (lLoad1 [v52] H) fun v53 =>
  someK (pArrIdx 8 1 [t11, (.int .i64 (.ofNat 2))]) fun v54 =>
  someK (lLoad1 [v54] H) fun v55 =>
  binK .and v53 v55 fun v56 =>
  binK .xor v51 v56 fun v57 =>
  someK (pArrIdx 8 1 [t11, (.int .i64 (.ofNat 1))]) fun v58 =>
  someK (lLoad1 [v58] H) fun v59 =>
  someK (pArrIdx 8 1 [t11, (.int .i64 (.ofNat 2))]) fun v60 =>
  someK (lLoad1 [v60] H) fun v61 =>
  binK .and v59 v61 fun v62 =>
  binK .xor v57 v62 fun v63 =>
  someK (pArrIdx 8 1 [t11, (.int .i64 (.ofNat 7))]) fun v64 =>
  someK (lLoad1 [v64] H) fun v65 =>
  someK (pArrIdx 8 1 [t11, (.int .i64 (.ofNat 4))]) fun v66 =>
  someK (lLoad1 [v66] H) fun v67 =>
  someK (pNilck [t0]) fun v68 =>
  someK (pFieldAddr 11 [v68]) fun v69 =>
  someK (lLoadN 3 [v69] H) fun v70 =>
  someK (pNilck [t0]) fun v71 =>
  someK (pFieldAddr 0 [v71]) fun v72 =>
  someK (lLoad1 [v72] H) fun v73 =>
  call 36 [v67, v70, v73] H τ fun v74 H75 τ76 =>
  binK .add v65 v74 fun v77 =>
  binK .add v77 v46 fun v78 =>
  someK (pArrIdx 80 1 [(.ptr 5 0), t103]) fun v79 =>
  someK (lLoad1 [v79] H75) fun v80 =>
  someK (pNilck [t0]) fun v81 =>
  someK (pFieldAddr 0 [v81]) fun v82 =>
  someK (lLoad1 [v82] H75) fun v83 =>
  binK .sub (.int .i64 (.ofNat 64)) v83 fun v84 =>
  binK .shr v80 v84 fun v85 =>
  binK .add v78 v85 fun v86 =>
  someK (pArrIdx 80 1 [t6, t103]) fun v87 =>
  someK (lLoad1 [v87] H75) fun v88 =>
  binK .add v86 v88 fun v89 =>
  bif chkLoads [H, H75] (((.load none), [v87], 0, 1) :: (((.load none), [v82], 0, 1) :: (((.load none), [v79], 0, 1) :: (((.load none), [v64], 0, 1) :: [])))) then
  someK (pArrIdx 8 1 [t11, (.int .i64 (.ofNat 0))]) fun v90 =>
  someK (lLoad1 [v90] H75) fun v91 =>
  someK (pNilck [t0]) fun v92 =>
  someK (pFieldAddr 8 [v92]) fun v93 =>
  someK (lLoadN 3 [v93] H75) fun v94 =>
  someK (pNilck [t0]) fun v95 =>
  someK (pFieldAddr 0 [v95]) fun v96 =>
  someK (lLoad1 [v96] H75) fun v97 =>
  call 36 [v91, v94, v97] H75 τ76 fun v98 H99 τ100 =>
  binK .add v98 v63 fun v101 =>
  binK .add v89 v101 fun v102 =>
  someK (pArrIdx 8 1 [t11, (.int .i64 (.ofNat 0))]) fun v103 =>
  someK (lLoad1 [v103] H99) fun v104 =>
  someK (pArrIdx 8 1 [t11, (.int .i64 (.ofNat 1))]) fun v105 =>
  someK (lLoad1 [v105] H99) fun v106 =>
  someK (pArrIdx 8 1 [t11, (.int .i64 (.ofNat 2))]) fun v107 =>
  someK (lLoad1 [v107] H99) fun v108 =>
  someK (pArrIdx 8 1 [t11, (.int .i64 (.ofNat 3))]) fun v109 =>
  someK (lLoad1 [v109] H99) fun v110 =>
  binK .add v110 v89 fun v111 =>
  someK (pArrIdx 8 1 [t11, (.int .i64 (.ofNat 4))]) fun v112 =>
  someK (lLoad1 [v112] H99) fun v113 =>
  someK (pArrIdx 8 1 [t11, (.int .i64 (.ofNat 5))]) fun v114 =>
  someK (lLoad1 [v114] H99) fun v115 =>
  someK (pArrIdx 8 1 [t11, (.int .i64 (.ofNat 6))]) fun v116 =>
  someK (lLoad1 [v116] H99) fun v117 =>
  someK (pBuild (repl 8 [(.int .u64 (.ofNat 0))]) [(0, 1), (1, 1), (2, 1), (3, 1), (4, 1), (5, 1), (6, 1), (7, 1)] [v102, v104, v106, v108, v111, v113, v115, v117]) fun v118 =>
  effK (eStore 8 [t11, v118] H99 τ100) fun v119 H120 τ121 =>
  binK .add t103 (.int .i64 (.ofNat 1)) fun v122 =>
  k .normal ⟨(T.set (T.set (T.set (T.set (T.set (T.set (T.set (T.set .leaf 0 t0) 1 t1) 6 t6) 11 t11) 102 t102) 103 t103) 198 v122) 103 v122), H120⟩ τ121
  else none)
    (k (.exit 4) ⟨(T.set (T.set .leaf 1 t1) 11 t11), H⟩ τ)
def s29_j0 (call : CallK) (N : Nat) (q : KV) (st : St) (τ : Tape) : Ans :=
  match st with
  | ⟨fr, H⟩ =>
  getK fr 0 fun t0 =>
  getK fr 1 fun t1 =>
  getK fr 6 fun t6 =>
  someK (pNilck [t1]) fun v10 =>
  someK (lLoadN 8 [v10] H) fun v11 =>
  effK (eAlloc (repl 8 [(.int .u64 (.ofNat 0))]) [] H τ) fun v12 H13 τ14 =>
  effK (eStore 8 [v12, v11] H13 τ14) fun v15 H16 τ17 =>
  someK (pNilck [t0]) fun v18 =>
  someK (pFieldAddr 1 [v18]) fun v19 =>
  someK (lLoad1 [v19] H16) fun v20 =>
  loopK (s29_l3 call N) N ⟨(T.set (T.set (T.set (T.set (T.set (T.set .leaf 0 t0) 1 t1) 6 t6) 11 v12) 102 v20) 103 (.int .i64 (.ofNat 0))), H16⟩ τ17 (blockK 4 (seqK (s29_j1 call N q) (endK [] q)))
def s29_j5 (call : CallK) (N : Nat) (k : KC) (st : St) (τ : Tape) : Ans :=
  match st with
  | ⟨fr, H⟩ =>
  getK fr 0 fun t0 =>
  getK fr 1 fun t1 =>
  getK fr 2 fun t2 =>
  getK fr 6 fun t6 =>
  getK fr 7 fun t7 =>
  getK fr 26 fun t26 =>
  getK fr 27 fun t27 =>
  binK .add t27 (.int .i64 (.ofNat 1)) fun v124 =>
  k .normal ⟨(T.set (T.set (T.set (T.set (T.set (T.set (T.set (T.set (T.set .leaf 0 t0) 1 t1) 2 t2) 6 t6) 7 t7) 26 t26) 27 t27) 95 v124) 27 v124), H⟩ τ
def s29_l6 (call : CallK) (N : Nat) (st : St) (τ : Tape) (k : KC) : Ans :=
  match st with
  | ⟨fr, H⟩ =>
  getK fr 0 fun t0 =>
  getK fr 1 fun t1 =>
  getK fr 2 fun t2 =>
  getK fr 6 fun t6 =>
  getK fr 7 fun t7 =>
  getK fr 8 fun t8 =>
  getK fr 26 fun t26 =>
  getK fr 27 fun t27 =>
  getK fr 79 fun t79 =>
  getK fr 80 fun t80 =>
  getK fr 81 fun t81 =>
  binK .lss t81 t80 fun v168 =>
  condK v168
    (someK (pSlIdx 1 [t79, t81]) fun v169 =>
  someK (lLoad1 [v169] H) fun v170 =>
  someK (pArrIdx 80 1 [t6, t8]) fun v171 =>
  someK (lLoad1 [v171] H) fun v172 =>
  binK .shl v172 (.int .u64 (.ofNat 8)) fun v173 =>
  toIntK .u64 v170 fun v174 =>
  binK .or v173 v174 fun v175 =>
  someK (pArrIdx 80 1 [t6, t8]) fun v176 =>
  effK (eStore 1 [v176, v175] H τ) fun v177 H178 τ179 =>
  binK .add t81 (.int .i64 (.ofNat 1)) fun v180 =>
  k .normal ⟨(T.set (T.set (T.set (T.set (T.set (T.set (T.set (T.set (T.set (T.set (T.set (T.set (T.set .leaf 0 t0) 1 t1) 2 t2) 6 t6) 7 t7) 8 t8) 26 t26) 27 t27) 79 t79) 80 t80) 81 t81) 94 v180) 81 v180), H178⟩ τ179)
    (k (.exit 2) ⟨(T.set (T.set (T.set (T.set (T.set (T.set (T.set .leaf 0 t0) 1 t1) 2 t2) 6 t6) 7 t7) 26 t26) 27 t27), H⟩ τ)
def s29_l4 (call : CallK) (N : Nat) (st : St) (τ : Tape) (k : KC) : Ans :=
  match st with
  | ⟨fr, H⟩ =>
  getK fr 0 fun t0 =>
  getK fr 1 fun t1 =>
  getK fr 2 fun t2 =>
  getK fr 6 fun t6 =>
  getK fr 7 fun t7 =>
  getK fr 26 fun t26 =>
  getK fr 27 fun t27 =>
  binK .lss t27 t26 fun v123 =>
  condK v123
    (binK .geq t27 (.int .i64 (.ofNat 16)) fun v125 =>
  condK v125
    (binK .sub t27 (.int .i64 (.ofNat 2)) fun v126 =>
  someK (pArrIdx 80 1 [t6, v126]) fun v127 =>
  someK (lLoad1 [v127] H) fun v128 =>
  someK (pNilck [t0]) fun v129 =>
  someK (pFieldAddr 5 [v129]) fun v130 =>
  someK (lLoadN 3 [v130] H) fun v131 =>
  someK (pNilck [t0]) fun v132 =>
  someK (pFieldAddr 0 [v132]) fun v133 =>
  someK (lLoad1 [v133] H) fun v134 =>
  call 35 [v128, v131, v134] H τ fun v135 H136 τ137 =>
  binK .sub t27 (.int .i64 (.ofNat 7)) fun v138 =>
  someK (pArrIdx 80 1 [t6, v138]) fun v139 =>
  someK (lLoad1 [v139] H136) fun v140 =>
  binK .add v135 v140 fun v141 =>
  binK .sub t27 (.int .i64 (.ofNat 15)) fun v142 =>
  someK (pArrIdx 80 1 [t6, v142]) fun v143 =>
  someK (lLoad1 [v143] H136) fun v144 =>
  someK (pNilck [t0]) fun v145 =>
  someK (pFieldAddr 2 [v145]) fun v146 =>
  someK (lLoadN 3 [v146] H136) fun v147 =>
  someK (pNilck [t0]) fun v148 =>
  someK (pFieldAddr 0 [v148]) fun v149 =>
  someK (lLoad1 [v149] H136) fun v150 =>
  call 35 [v144, v147, v150] H136 τ137 fun v151 H152 τ153 =>
  binK .add v141 v151 fun v154 =>
  binK .sub t27 (.int .i64 (.ofNat 16)) fun v155 =>
  someK (pArrIdx 80 1 [t6, v155]) fun v156 =>
  someK (lLoad1 [v156] H152) fun v157 =>
  binK .add v154 v157 fun v158 =>
  someK (pArrIdx 80 1 [t6, t27]) fun v159 =>
  effK (eStore 1 [v159, v158] H152 τ153) fun v160 H161 τ162 =>
  bif chkLoads [H, H136, H152, H161] (((.load none), [v156], 0, 2) :: (((.load none), [v149], 0, 1) :: (((.load (some 3)), [v146], 0, 1) :: (((.load none), [v143], 0, 1) :: (((.load none), [v139], 0, 2) :: []))))) then
  s29_j5 call N k ⟨(T.set (T.set (T.set (T.set (T.set (T.set (T.set .leaf 0 t0) 1 t1) 2 t2) 6 t6) 7 t7) 26 t26) 27 t27), H161⟩ τ162
  else none)
    (binK .mul t27 t7 fun v163 =>
  binK .add t27 (.int .i64 (.ofNat 1)) fun v164 =>
  binK .mul v164 t7 fun v165 =>
  someK (pSlSlice 1 true true false [t2, v163, v165]) fun v166 =>
  someK (pLen [v166]) fun v167 =>
  loopK (s29_l6 call N) N ⟨(T.set (T.set (T.set (T.set (T.set (T.set (T.set (T.set (T.set (T.set (T.set .leaf 0 t0) 1 t1) 2 t2) 6 t6) 7 t7) 8 t27) 26 t26) 27 t27) 79 v166) 80 v167) 81 (.int .i64 (.ofNat 0))), H⟩ τ (blockK 2 (blockK 1 (seqK (s29_j5 call N k) k)))))
    (k (.exit 0) ⟨(T.set (T.set (T.set .leaf 0 t0) 1 t1) 6 t6), H⟩ τ)
def s29 (call : CallK) (N : Nat) (a0 a1 a2 : V) (H : Heap) (τ : Tape) (q : KV) : Ans :=
  effK (eAlloc (repl 80 [(.int .u64 (.ofNat 0))]) [] H τ) fun v0 H1 τ2 =>
  someK (pNilck [a0]) fun v3 =>
  someK (pFieldAddr 0 [v3]) fun v4 =>
  someK (lLoad1 [v4] H1) fun v5 =>
  binK .quo v5 (.int .i64 (.ofNat 8)) fun v6 =>
  someK (pNilck [a0]) fun v7 =>
  someK (pFieldAddr 1 [v7]) fun v8 =>
  someK (lLoad1 [v8] H1) fun v9 =>
  loopK (s29_l4 call N) N ⟨(T.set (T.set (T.set (T.set (T.set (T.set (T.set .leaf 0 a0) 1 a1) 2 a2) 6 v0) 7 v6) 26 v9) 27 (.int .i64 (.ofNat 0))), H1⟩ τ2 (blockK 0 (seqK (s29_j0 call N q) (endK [] q)))
theorem s29_eq (call : CallK) (N : Nat) (a0 a1 a2 : V) (H : Heap) (τ : Tape) (q : KV) : s29 call N a0 a1 a2 H τ q = funK call N fn29 [a0, a1, a2] H τ q := by kernel_rfl
def e29 (call : CallK) (N : Nat) (vs : List V) (H : Heap) (τ : Tape) (q : KV) : Ans := match vs with | [a0, a1, a2] => s29 call N a0 a1 a2 H τ q | _ => none
theorem e29_ok : EntOk fn29 e29 := by
  intro call N vs H τ q r h
  unfold e29 at h
  split at h
  · rw [s29_eq] at h; exact h
  · cases h
theorem e29_nat : EntNat e29 := by
  intro c hn N vs H τ q
  unfold e29
  split
  · rw [s29_eq, s29_eq]; exact funK_ent hn _ _ _ _ _ _
  · rfl
/-- ostiary/ostiaryref8.below -/
def fn30 : Fun := ⟨3,
  (.seq (.reg [⟨(some 3), none, (.e .box), [(.t 0)], none⟩,
    ⟨(some 6), none, (.p .mv), [(.c (.bool false))], none⟩])
  (.keep [1, 2, 3] (.seq (.reg [⟨(some 11), none, (.l (.load (some 16))), [(.t 3)], none⟩,
    ⟨(some 12), none, (.l (.load (some 16))), [(.t 3)], none⟩,
    ⟨(some 13), none, (.call 37), [(.t 11), (.c (.int .i64 (.ofNat 5))), (.t 12), (.c (.int .i64 (.ofNat 5)))], none⟩,
    ⟨(some 7), none, (.e (.alloc (repl 16 [(.int .u64 (.ofNat 0))]))), [], none⟩,
    ⟨none, none, (.e (.store 16)), [(.t 7), (.t 13)], none⟩])
  (.keep [1, 2, 3, 7] (.seq (.reg [⟨(some 8), none, (.p .mv), [(.c (.int .i64 (.ofNat 8)))], none⟩])
  (.keep [1, 2, 3, 7, 8] (.seq (.seq (.reg [⟨(some 14), none, (.p .mv), [(.t 2)], none⟩])
  (.keep [1, 3, 7, 8, 14] (.cond (.t 14)
   (.seq (.reg [⟨(some 15), none, (.l (.load (some 16))), [(.t 7)], none⟩,
     ⟨(some 16), none, (.l (.load (some 16))), [(.t 3)], none⟩,
     ⟨(some 17), none, (.call 37), [(.t 15), (.c (.int .i64 (.ofNat 10))), (.t 16), (.c (.int .i64 (.ofNat 5)))], none⟩,
     ⟨none, none, (.e (.store 16)), [(.t 7), (.t 17)], none⟩])
   (.keep [1, 7] (.reg [⟨(some 8), none, (.p .mv), [(.c (.int .i64 (.ofNat 12)))], none⟩])))
   .skip)))
  (.keep [1, 7, 8] (.seq (.seq (.reg [⟨(some 9), none, (.p .mv), [(.c (.int .i64 (.ofNat 15)))], none⟩])
  (.keep [1, 7, 8, 9] (.block 0
   (.loop
    (.keep [1, 7, 8, 9] (.seq (.seq (.reg [⟨(some 18), none, (.p .mv), [(.t 9)], none⟩,
      ⟨(some 19), none, (.p (.bin .geq)), [(.t 18), (.c (.int .i64 (.ofNat 0)))], none⟩])
    (.keep [1, 7, 8, 9, 19] (.cond (.t 19)
     .skip
     (.keep [] (.exit 0)))))
    (.keep [1, 7, 8, 9] (.seq (.block 1
     (.seq (.reg [⟨(some 10), none, (.p .mv), [(.c (.int .u64 (.ofNat 0)))], none⟩])
     (.keep [1, 7, 8, 9, 10] (.seq (.seq (.reg [⟨(some 22), none, (.p .mv), [(.t 9)], none⟩,
       ⟨(some 23), none, (.p .mv), [(.t 8)], none⟩,
       ⟨(some 24), none, (.p (.bin .eql)), [(.t 22), (.t 23)], none⟩])
     (.keep [1, 7, 8, 9, 10, 24] (.cond (.t 24)
      (.reg [⟨(some 25), none, (.p .mv), [(.t 1)], none⟩,
        ⟨(some 10), none, (.p .mv), [(.t 25)], none⟩])
      .skip)))
     (.keep [1, 7, 8, 9, 10] (.seq (.reg [⟨(some 26), none, (.p .mv), [(.t 9)], none⟩,
       ⟨(some 27), none, (.p (.arrIdx 16 1)), [(.t 7), (.t 26)], none⟩,
       ⟨(some 28), none, (.l (.load none)), [(.t 27)], none⟩,
       ⟨(some 29), none, (.p .mv), [(.t 10)], none⟩,
       ⟨(some 30), none, (.p (.bin .neq)), [(.t 28), (.t 29)], none⟩])
     (.keep [1, 7, 8, 9, 10, 30] (.cond (.t 30)
      (.seq (.reg [⟨(some 31), none, (.p .mv), [(.t 9)], none⟩,
        ⟨(some 32), none, (.p (.arrIdx 16 1)), [(.t 7), (.t 31)], none⟩,
        ⟨(some 33), none, (.l (.load none)), [(.t 32)], none⟩,
        ⟨(some 34), none, (.p .mv), [(.t 10)], none⟩,
        ⟨(some 35), none, (.p (.bin .lss)), [(.t 33), (.t 34)], none⟩,
        ⟨(some 6), none, (.p .mv), [(.t 35)], none⟩])
      (.keep [6] (.keep [6] .ret)))
      .skip))))))))
    (.keep [1, 7, 8, 9] (.reg [⟨(some 20), none, (.p .mv), [(.t 9)], none⟩,
      ⟨(some 21), none, (.p (.bin .sub)), [(.t 20), (.c (.int .i64 (.ofNat 1)))], none⟩,
      ⟨(some 9), none, (.p .mv), [(.t 21)], none⟩]))))))))))
  (.keep [] (.seq (.reg [⟨(some 6), none, (.p .mv), [(.c (.bool true))], none⟩])
  (.keep [6] (.keep [6] .ret))))))))))))),
  [(.t 6)]⟩
def s30_j1 (call : CallK) (N : Nat) (q : KV) (st : St) (τ : Tape) : Ans :=
  match st with
  | ⟨fr, H⟩ =>
  q (.bool true) H τ
def s30_j3 (call : CallK) (N : Nat) (k : KC) (st : St) (τ : Tape) : Ans :=
  match st with
  | ⟨fr, H⟩ =>
  getK fr 1 fun t1 =>
  getK fr 7 fun t7 =>
  getK fr 8 fun t8 =>
  getK fr 9 fun t9 =>
  binK .sub t9 (.int .i64 (.ofNat 1)) fun v16 =>
  k .normal ⟨(T.set (T.set (T.set (T.set (T.set (T.set (T.set .leaf 1 t1) 7 t7) 8 t8) 9 t9) 20 t9) 21 v16) 9 v16), H⟩ τ
def s30_j4 (call : CallK) (N : Nat) (k : KC) (st : St) (τ : Tape) : Ans :=
  match st with
  | ⟨fr, H⟩ =>
  getK fr 1 fun t1 =>
  getK fr 7 fun t7 =>
  getK fr 8 fun t8 =>
  getK fr 9 fun t9 =>
  getK fr 10 fun t10 =>
  someK (pArrIdx 16 1 [t7, t9]) fun v17 =>
  someK (lLoad1 [v17] H) fun v18 =>
  binK .neq v18 t10 fun v19 =>
  condK v19
    (someK (pArrIdx 16 1 [t7, t9]) fun v20 =>
  someK (lLoad1 [v20] H) fun v21 =>
  binK .lss v21 t10 fun v22 =>
  k .ret ⟨(T.set .leaf 6 v22), H⟩ τ)
    (s30_j3 call N k ⟨(T.set (T.set (T.set (T.set (T.set (T.set .leaf 1 t1) 7 t7) 8 t8) 9 t9) 10 t10) 30 v19), H⟩ τ)
def s30_l2 (call : CallK) (N : Nat) (st : St) (τ : Tape) (k : KC) : Ans :=
  match st with
  | ⟨fr, H⟩ =>
  getK fr 1 fun t1 =>
  getK fr 7 fun t7 =>
  getK fr 8 fun t8 =>
  getK fr 9 fun t9 =>
  binK .geq t9 (.int .i64 (.ofNat 0)) fun v14 =>
  condK v14
    (binK .eql t9 t8 fun v15 =>
  condK v15
    (s30_j4 call N k ⟨(T.set (T.set (T.set (T.set (T.set (T.set (T.set (T.set .leaf 1 t1) 7 t7) 8 t8) 9 t9) 10 (.int .u64 (.ofNat 0))) 24 v15) 25 t1) 10 t1), H⟩ τ)
    (s30_j4 call N k ⟨(T.set (T.set (T.set (T.set (T.set (T.set .leaf 1 t1) 7 t7) 8 t8) 9 t9) 10 (.int .u64 (.ofNat 0))) 24 v15), H⟩ τ))
    (k (.exit 0) ⟨.leaf, H⟩ τ)
def s30_j0 (call : CallK) (N : Nat) (q : KV) (st : St) (τ : Tape) : Ans :=
  match st with
  | ⟨fr, H⟩ =>
  getK fr 1 fun t1 =>
  getK fr 7 fun t7 =>
  getK fr 8 fun t8 =>
  loopK (s30_l2 call N) N ⟨(T.set (T.set (T.set (T.set .leaf 1 t1) 7 t7) 8 t8) 9 (.int .i64 (.ofNat 15))), H⟩ τ (blockK 0 (seqK (s30_j1 call N q) (endK [(.t 6)] q)))
def s30 (call : CallK) (N : Nat) (a0 a1 a2 : V) (H : Heap) (τ : Tape) (q : KV) : Ans :=
  effK (eBox [a0] H τ) fun v0 H1 τ2 =>
  someK (lLoadN 16 [v0] H1) fun v3 =>
  someK (lLoadN 16 [v0] H1) fun v4 =>
  call 37 [v3, (.int .i64 (.ofNat 5)), v4, (.int .i64 (.ofNat 5))] H1 τ2 fun v5 H6 τ7 =>
  effK (eAlloc (repl 16 [(.int .u64 (.ofNat 0))]) [] H6 τ7) fun v8 H9 τ10 =>
  effK (eStore 16 [v8, v5] H9 τ10) fun v11 H12 τ13 =>
  condK a2
    (someK (lLoadN 16 [v8] H12) fun v23 =>
  someK (lLoadN 16 [v0] H12) fun v24 =>
  call 37 [v23, (.int .i64 (.ofNat 10)), v24, (.int .i64 (.ofNat 5))] H12 τ13 fun v25 H26 τ27 =>
  effK (eStore 16 [v8, v25] H26 τ27) fun v28 H29 τ30 =>
  s30_j0 call N q ⟨(T.set (T.set (T.set .leaf 1 a1) 7 v8) 8 (.int .i64 (.ofNat 12))), H29⟩ τ30)
    (s30_j0 call N q ⟨(T.set (T.set (T.set (T.set (T.set .leaf 1 a1) 3 v0) 7 v8) 8 (.int .i64 (.ofNat 8))) 14 a2), H12⟩ τ13)
theorem s30_eq (call : CallK) (N : Nat) (a0 a1 a2 : V) (H : Heap) (τ : Tape) (q : KV) : s30 call N a0 a1 a2 H τ q = funK call N fn30 [a0, a1, a2] H τ q := by kernel_rfl
def e30 (call : CallK) (N : Nat) (vs : List V) (H : Heap) (τ : Tape) (q : KV) : Ans := match vs with | [a0, a1, a2] => s30 call N a0 a1 a2 H τ q | _ => none
theorem e30_ok : EntOk fn30 e30 := by
  intro call N vs H τ q r h
  unfold e30 at h
  split at h
  · rw [s30_eq] at h; exact h
  · cases h
theorem e30_nat : EntNat e30 := by
  intro c hn N vs H τ q
  unfold e30
  split
  · rw [s30_eq, s30_eq]; exact funK_ent hn _ _ _ _ _ _
  · rfl
/-- (ostiary/ostiaryref8.word).cut -/
def fn31 : Fun := ⟨2,
  (.seq (.reg [⟨(some 2), none, (.e .box), [(.t 0)], none⟩,
    ⟨(some 4), none, (.p .mv), [(.c (.int .u64 (.ofNat 0)))], none⟩])
  (.keep [1, 2] (.seq (.seq (.reg [⟨(some 5), none, (.p (.fieldAddr 0)), [(.t 2)], none⟩,
    ⟨(some 6), none, (.l (.load none)), [(.t 5)], none⟩,
    ⟨(some 7), none, (.p (.bin .eql)), [(.t 6), (.c (.int .u64 (.ofNat 32)))], none⟩])
  (.keep [1, 7] (.cond (.t 7)
   (.seq (.reg [⟨(some 8), none, (.p .mv), [(.t 1)], none⟩,
     ⟨(some 9), none, (.p (.bin .and)), [(.t 8), (.c (.int .u64 (.ofNat 4294967295)))], none⟩,
     ⟨(some 4), none, (.p .mv), [(.t 9)], none⟩])
   (.keep [4] (.keep [4] .ret)))
   .skip)))
  (.keep [1] (.seq (.reg [⟨(some 10), none, (.p .mv), [(.t 1)], none⟩,
    ⟨(some 4), none, (.p .mv), [(.t 10)], none⟩])
  (.keep [4] (.keep [4] .ret))))))),
  [(.t 4)]⟩
def s31 (call : CallK) (N : Nat) (a0 a1 : V) (H : Heap) (τ : Tape) (q : KV) : Ans :=
  effK (eBox [a0] H τ) fun v0 H1 τ2 =>
  someK (pFieldAddr 0 [v0]) fun v3 =>
  someK (lLoad1 [v3] H1) fun v4 =>
  binK .eql v4 (.int .u64 (.ofNat 32)) fun v5 =>
  condK v5
    (binK .and a1 (.int .u64 (.ofNat 4294967295)) fun v6 =>
  q v6 H1 τ2)
    (q a1 H1 τ2)
theorem s31_eq (call : CallK) (N : Nat) (a0 a1 : V) (H : Heap) (τ : Tape) (q : KV) : s31 call N a0 a1 H τ q = funK call N fn31 [a0, a1] H τ q := by kernel_rfl
def e31 (call : CallK) (N : Nat) (vs : List V) (H : Heap) (τ : Tape) (q : KV) : Ans := match vs with | [a0, a1] => s31 call N a0 a1 H τ q | _ => none
theorem e31_ok : EntOk fn31 e31 := by
  intro call N vs H τ q r h
  unfold e31 at h
  split at h
  · rw [s31_eq] at h; exact h
  · cases h
theorem e31_nat : EntNat e31 := by
  intro c hn N vs H τ q
  unfold e31
  split
  · rw [s31_eq, s31_eq]; exact funK_ent hn _ _ _ _ _ _
  · rfl
/-- (ostiary/ostiaryref8.word).mix -/
def fn32 : Fun := ⟨6,
  (.seq (.reg [⟨(some 6), none, (.e .box), [(.t 0)], none⟩,
    ⟨(some 12), none, (.p .mv), [(.c (.int .u64 (.ofNat 0)))], none⟩])
  (.keep [1, 2, 3, 4, 5, 6] (.seq (.seq (.reg [⟨(some 13), none, (.p .mv), [(.t 5)], none⟩])
  (.keep [1, 2, 3, 4, 6, 13] (.cond (.t 13)
   (.seq (.draw [⟨(some 14), none, (.l (.load (some 1))), [(.t 6)], none⟩,
     ⟨(some 15), none, (.p .mv), [(.t 1)], none⟩,
     ⟨(some 16), none, (.p .mv), [(.t 2)], none⟩,
     ⟨(some 17), none, (.call 38), [(.t 14), (.t 15), (.t 16)], none⟩,
     ⟨(some 18), none, (.l (.load (some 1))), [(.t 6)], some (0, 1)⟩,
     ⟨(some 19), none, (.p .mv), [(.t 1)], none⟩,
     ⟨(some 20), none, (.p .mv), [(.t 3)], none⟩,
     ⟨(some 21), none, (.call 38), [(.t 18), (.t 19), (.t 20)], none⟩,
     ⟨(some 22), none, (.p (.bin .xor)), [(.t 17), (.t 21)], none⟩,
     ⟨(some 23), none, (.p .mv), [(.t 1)], none⟩,
     ⟨(some 24), none, (.p .mv), [(.t 4)], none⟩,
     ⟨(some 25), none, (.p (.bin .shr)), [(.t 23), (.t 24)], none⟩,
     ⟨(some 26), none, (.p (.bin .xor)), [(.t 22), (.t 25)], none⟩,
     ⟨(some 12), none, (.p .mv), [(.t 26)], none⟩])
   (.keep [12] (.keep [12] .ret)))
   .skip)))
  (.keep [1, 2, 3, 4, 6] (.seq (.draw [⟨(some 27), none, (.l (.load (some 1))), [(.t 6)], none⟩,
    ⟨(some 28), none, (.p .mv), [(.t 1)], none⟩,
    ⟨(some 29), none, (.p .mv), [(.t 2)], none⟩,
    ⟨(some 30), none, (.call 38), [(.t 27), (.t 28), (.t 29)], none⟩,
    ⟨(some 31), none, (.l (.load (some 1))), [(.t 6)], some (0, 1)⟩,
    ⟨(some 32), none, (.p .mv), [(.t 1)], none⟩,
    ⟨(some 33), none, (.p .mv), [(.t 3)], none⟩,
    ⟨(some 34), none, (.call 38), [(.t 31), (.t 32), (.t 33)], none⟩,
    ⟨(some 35), none, (.p (.bin .xor)), [(.t 30), (.t 34)], none⟩,
    ⟨(some 36), none, (.l (.load (some 1))), [(.t 6)], some (0, 2)⟩,
    ⟨(some 37), none, (.p .mv), [(.t 1)], none⟩,
    ⟨(some 38), none, (.p .mv), [(.t 4)], none⟩,
    ⟨(some 39), none, (.call 38), [(.t 36), (.t 37), (.t 38)], none⟩,
    ⟨(some 40), none, (.p (.bin .xor)), [(.t 35), (.t 39)], none⟩,
    ⟨(some 12), none, (.p .mv), [(.t 40)], none⟩])
  (.keep [12] (.keep [12] .ret))))))),
  [(.t 12)]⟩
def s32 (call : CallK) (N : Nat) (a0 a1 a2 a3 a4 a5 : V) (H : Heap) (τ : Tape) (q : KV) : Ans :=
  effK (eBox [a0] H τ) fun v0 H1 τ2 =>
  condK a5
    (someK (lLoadN 1 [v0] H1) fun v3 =>
  call 38 [v3, a1, a2] H1 τ2 fun v4 H5 τ6 =>
  someK (lLoadN 1 [v0] H5) fun v7 =>
  call 38 [v7, a1, a3] H5 τ6 fun v8 H9 τ10 =>
  binK .xor v4 v8 fun v11 =>
  binK .shr a1 a4 fun v12 =>
  binK .xor v11 v12 fun v13 =>
  bif chkLoads [H1, H5, H9] (((.load (some 1)), [v0], 0, 1) :: []) then
  q v13 H9 τ10
  else none)
    (someK (lLoadN 1 [v0] H1) fun v14 =>
  call 38 [v14, a1, a2] H1 τ2 fun v15 H16 τ17 =>
  someK (lLoadN 1 [v0] H16) fun v18 =>
  call 38 [v18, a1, a3] H16 τ17 fun v19 H20 τ21 =>
  binK .xor v15 v19 fun v22 =>
  someK (lLoadN 1 [v0] H20) fun v23 =>
  call 38 [v23, a1, a4] H20 τ21 fun v24 H25 τ26 =>
  binK .xor v22 v24 fun v27 =>
  bif chkLoads [H1, H16, H20, H25] (((.load (some 1)), [v0], 0, 2) :: (((.load (some 1)), [v0], 0, 1) :: [])) then
  q v27 H25 τ26
  else none)
theorem s32_eq (call : CallK) (N : Nat) (a0 a1 a2 a3 a4 a5 : V) (H : Heap) (τ : Tape) (q : KV) : s32 call N a0 a1 a2 a3 a4 a5 H τ q = funK call N fn32 [a0, a1, a2, a3, a4, a5] H τ q := by kernel_rfl
def e32 (call : CallK) (N : Nat) (vs : List V) (H : Heap) (τ : Tape) (q : KV) : Ans := match vs with | [a0, a1, a2, a3, a4, a5] => s32 call N a0 a1 a2 a3 a4 a5 H τ q | _ => none
theorem e32_ok : EntOk fn32 e32 := by
  intro call N vs H τ q r h
  unfold e32 at h
  split at h
  · rw [s32_eq] at h; exact h
  · cases h
theorem e32_nat : EntNat e32 := by
  intro c hn N vs H τ q
  unfold e32
  split
  · rw [s32_eq, s32_eq]; exact funK_ent hn _ _ _ _ _ _
  · rfl
/-- ostiary/digest.little[uint32] -/
def fn33 : Fun := ⟨3,
  (.seq (.reg [⟨(some 4), none, (.e .box), [(.t 1)], none⟩,
    ⟨(some 6), none, (.p .mv), [(.c (.int .u32 (.ofNat 0)))], none⟩])
  (.keep [0, 2, 4] (.seq (.draw [⟨(some 7), none, (.p .mv), [(.t 0)], none⟩,
    ⟨(some 8), none, (.p (.arrIdx 3 1)), [(.t 4), (.c (.int .i64 (.ofNat 0)))], none⟩,
    ⟨(some 9), none, (.l (.load none)), [(.t 8)], none⟩,
    ⟨(some 10), none, (.p .mv), [(.t 2)], none⟩,
    ⟨(some 11), none, (.call 39), [(.t 7), (.t 9), (.t 10)], none⟩,
    ⟨(some 12), none, (.p .mv), [(.t 0)], none⟩,
    ⟨(some 13), none, (.p (.arrIdx 3 1)), [(.t 4), (.c (.int .i64 (.ofNat 1)))], none⟩,
    ⟨(some 14), none, (.l (.load none)), [(.t 13)], some (0, 1)⟩,
    ⟨(some 15), none, (.p .mv), [(.t 2)], none⟩,
    ⟨(some 16), none, (.call 39), [(.t 12), (.t 14), (.t 15)], none⟩,
    ⟨(some 17), none, (.p (.bin .xor)), [(.t 11), (.t 16)], none⟩,
    ⟨(some 18), none, (.p .mv), [(.t 0)], none⟩,
    ⟨(some 19), none, (.p (.arrIdx 3 1)), [(.t 4), (.c (.int .i64 (.ofNat 2)))], none⟩,
    ⟨(some 20), none, (.l (.load none)), [(.t 19)], some (0, 2)⟩,
    ⟨(some 21), none, (.p (.bin .shr)), [(.t 18), (.t 20)], none⟩,
    ⟨(some 22), none, (.p (.bin .xor)), [(.t 17), (.t 21)], none⟩,
    ⟨(some 6), none, (.p .mv), [(.t 22)], none⟩])
  (.keep [6] (.keep [6] .ret))))),
  [(.t 6)]⟩
def s33 (call : CallK) (N : Nat) (a0 a1 a2 : V) (H : Heap) (τ : Tape) (q : KV) : Ans :=
  effK (eBox [a1] H τ) fun v0 H1 τ2 =>
  someK (pArrIdx 3 1 [v0, (.int .i64 (.ofNat 0))]) fun v3 =>
  someK (lLoad1 [v3] H1) fun v4 =>
  call 39 [a0, v4, a2] H1 τ2 fun v5 H6 τ7 =>
  someK (pArrIdx 3 1 [v0, (.int .i64 (.ofNat 1))]) fun v8 =>
  someK (lLoad1 [v8] H6) fun v9 =>
  call 39 [a0, v9, a2] H6 τ7 fun v10 H11 τ12 =>
  binK .xor v5 v10 fun v13 =>
  someK (pArrIdx 3 1 [v0, (.int .i64 (.ofNat 2))]) fun v14 =>
  someK (lLoad1 [v14] H11) fun v15 =>
  binK .shr a0 v15 fun v16 =>
  binK .xor v13 v16 fun v17 =>
  bif chkLoads [H1, H6, H11] (((.load none), [v14], 0, 2) :: (((.load none), [v8], 0, 1) :: [])) then
  q v17 H11 τ12
  else none
theorem s33_eq (call : CallK) (N : Nat) (a0 a1 a2 : V) (H : Heap) (τ : Tape) (q : KV) : s33 call N a0 a1 a2 H τ q = funK call N fn33 [a0, a1, a2] H τ q := by kernel_rfl
def e33 (call : CallK) (N : Nat) (vs : List V) (H : Heap) (τ : Tape) (q : KV) : Ans := match vs with | [a0, a1, a2] => s33 call N a0 a1 a2 H τ q | _ => none
theorem e33_ok : EntOk fn33 e33 := by
  intro call N vs H τ q r h
  unfold e33 at h
  split at h
  · rw [s33_eq] at h; exact h
  · cases h
theorem e33_nat : EntNat e33 := by
  intro c hn N vs H τ q
  unfold e33
  split
  · rw [s33_eq, s33_eq]; exact funK_ent hn _ _ _ _ _ _
  · rfl
/-- ostiary/digest.big[uint32] -/
def fn34 : Fun := ⟨3,
  (.seq (.reg [⟨(some 4), none, (.e .box), [(.t 1)], none⟩,
    ⟨(some 6), none, (.p .mv), [(.c (.int .u32 (.ofNat 0)))], none⟩])
  (.keep [0, 2, 4] (.seq (.draw [⟨(some 7), none, (.p .mv), [(.t 0)], none⟩,
    ⟨(some 8), none, (.p (.arrIdx 3 1)), [(.t 4), (.c (.int .i64 (.ofNat 0)))], none⟩,
    ⟨(some 9), none, (.l (.load none)), [(.t 8)], none⟩,
    ⟨(some 10), none, (.p .mv), [(.t 2)], none⟩,
    ⟨(some 11), none, (.call 39), [(.t 7), (.t 9), (.t 10)], none⟩,
    ⟨(some 12), none, (.p .mv), [(.t 0)], none⟩,
    ⟨(some 13), none, (.p (.arrIdx 3 1)), [(.t 4), (.c (.int .i64 (.ofNat 1)))], none⟩,
    ⟨(some 14), none, (.l (.load none)), [(.t 13)], some (0, 1)⟩,
    ⟨(some 15), none, (.p .mv), [(.t 2)], none⟩,
    ⟨(some 16), none, (.call 39), [(.t 12), (.t 14), (.t 15)], none⟩,
    ⟨(some 17), none, (.p (.bin .xor)), [(.t 11), (.t 16)], none⟩,
    ⟨(some 18), none, (.p .mv), [(.t 0)], none⟩,
    ⟨(some 19), none, (.p (.arrIdx 3 1)), [(.t 4), (.c (.int .i64 (.ofNat 2)))], none⟩,
    ⟨(some 20), none, (.l (.load none)), [(.t 19)], some (0, 2)⟩,
    ⟨(some 21), none, (.p .mv), [(.t 2)], none⟩,
    ⟨(some 22), none, (.call 39), [(.t 18), (.t 20), (.t 21)], none⟩,
    ⟨(some 23), none, (.p (.bin .xor)), [(.t 17), (.t 22)], none⟩,
    ⟨(some 6), none, (.p .mv), [(.t 23)], none⟩])
  (.keep [6] (.keep [6] .ret))))),
  [(.t 6)]⟩
def s34 (call : CallK) (N : Nat) (a0 a1 a2 : V) (H : Heap) (τ : Tape) (q : KV) : Ans :=
  effK (eBox [a1] H τ) fun v0 H1 τ2 =>
  someK (pArrIdx 3 1 [v0, (.int .i64 (.ofNat 0))]) fun v3 =>
  someK (lLoad1 [v3] H1) fun v4 =>
  call 39 [a0, v4, a2] H1 τ2 fun v5 H6 τ7 =>
  someK (pArrIdx 3 1 [v0, (.int .i64 (.ofNat 1))]) fun v8 =>
  someK (lLoad1 [v8] H6) fun v9 =>
  call 39 [a0, v9, a2] H6 τ7 fun v10 H11 τ12 =>
  binK .xor v5 v10 fun v13 =>
  someK (pArrIdx 3 1 [v0, (.int .i64 (.ofNat 2))]) fun v14 =>
  someK (lLoad1 [v14] H11) fun v15 =>
  call 39 [a0, v15, a2] H11 τ12 fun v16 H17 τ18 =>
  binK .xor v13 v16 fun v19 =>
  bif chkLoads [H1, H6, H11, H17] (((.load none), [v14], 0, 2) :: (((.load none), [v8], 0, 1) :: [])) then
  q v19 H17 τ18
  else none
theorem s34_eq (call : CallK) (N : Nat) (a0 a1 a2 : V) (H : Heap) (τ : Tape) (q : KV) : s34 call N a0 a1 a2 H τ q = funK call N fn34 [a0, a1, a2] H τ q := by kernel_rfl
def e34 (call : CallK) (N : Nat) (vs : List V) (H : Heap) (τ : Tape) (q : KV) : Ans := match vs with | [a0, a1, a2] => s34 call N a0 a1 a2 H τ q | _ => none
theorem e34_ok : EntOk fn34 e34 := by
  intro call N vs H τ q r h
  unfold e34 at h
  split at h
  · rw [s34_eq] at h; exact h
  · cases h
theorem e34_nat : EntNat e34 := by
  intro c hn N vs H τ q
  unfold e34
  split
  · rw [s34_eq, s34_eq]; exact funK_ent hn _ _ _ _ _ _
  · rfl
/-- ostiary/digest.little[uint64] -/
def fn35 : Fun := ⟨3,
  (.seq (.reg [⟨(some 4), none, (.e .box), [(.t 1)], none⟩,
    ⟨(some 6), none, (.p .mv), [(.c (.int .u64 (.ofNat 0)))], none⟩])
  (.keep [0, 2, 4] (.seq (.draw [⟨(some 7), none, (.p .mv), [(.t 0)], none⟩,
    ⟨(some 8), none, (.p (.arrIdx 3 1)), [(.t 4), (.c (.int .i64 (.ofNat 0)))], none⟩,
    ⟨(some 9), none, (.l (.load none)), [(.t 8)], none⟩,
    ⟨(some 10), none, (.p .mv), [(.t 2)], none⟩,
    ⟨(some 11), none, (.call 40), [(.t 7), (.t 9), (.t 10)], none⟩,
    ⟨(some 12), none, (.p .mv), [(.t 0)], none⟩,
    ⟨(some 13), none, (.p (.arrIdx 3 1)), [(.t 4), (.c (.int .i64 (.ofNat 1)))], none⟩,
    ⟨(some 14), none, (.l (.load none)), [(.t 13)], some (0, 1)⟩,
    ⟨(some 15), none, (.p .mv), [(.t 2)], none⟩,
    ⟨(some 16), none, (.call 40), [(.t 12), (.t 14), (.t 15)], none⟩,
    ⟨(some 17), none, (.p (.bin .xor)), [(.t 11), (.t 16)], none⟩,
    ⟨(some 18), none, (.p .mv), [(.t 0)], none⟩,
    ⟨(some 19), none, (.p (.arrIdx 3 1)), [(.t 4), (.c (.int .i64 (.ofNat 2)))], none⟩,
    ⟨(some 20), none, (.l (.load none)), [(.t 19)], some (0, 2)⟩,
    ⟨(some 21), none, (.p (.bin .shr)), [(.t 18), (.t 20)], none⟩,
    ⟨(some 22), none, (.p (.bin .xor)), [(.t 17), (.t 21)], none⟩,
    ⟨(some 6), none, (.p .mv), [(.t 22)], none⟩])
  (.keep [6] (.keep [6] .ret))))),
  [(.t 6)]⟩
def s35 (call : CallK) (N : Nat) (a0 a1 a2 : V) (H : Heap) (τ : Tape) (q : KV) : Ans :=
  effK (eBox [a1] H τ) fun v0 H1 τ2 =>
  someK (pArrIdx 3 1 [v0, (.int .i64 (.ofNat 0))]) fun v3 =>
  someK (lLoad1 [v3] H1) fun v4 =>
  call 40 [a0, v4, a2] H1 τ2 fun v5 H6 τ7 =>
  someK (pArrIdx 3 1 [v0, (.int .i64 (.ofNat 1))]) fun v8 =>
  someK (lLoad1 [v8] H6) fun v9 =>
  call 40 [a0, v9, a2] H6 τ7 fun v10 H11 τ12 =>
  binK .xor v5 v10 fun v13 =>
  someK (pArrIdx 3 1 [v0, (.int .i64 (.ofNat 2))]) fun v14 =>
  someK (lLoad1 [v14] H11) fun v15 =>
  binK .shr a0 v15 fun v16 =>
  binK .xor v13 v16 fun v17 =>
  bif chkLoads [H1, H6, H11] (((.load none), [v14], 0, 2) :: (((.load none), [v8], 0, 1) :: [])) then
  q v17 H11 τ12
  else none
theorem s35_eq (call : CallK) (N : Nat) (a0 a1 a2 : V) (H : Heap) (τ : Tape) (q : KV) : s35 call N a0 a1 a2 H τ q = funK call N fn35 [a0, a1, a2] H τ q := by kernel_rfl
def e35 (call : CallK) (N : Nat) (vs : List V) (H : Heap) (τ : Tape) (q : KV) : Ans := match vs with | [a0, a1, a2] => s35 call N a0 a1 a2 H τ q | _ => none
theorem e35_ok : EntOk fn35 e35 := by
  intro call N vs H τ q r h
  unfold e35 at h
  split at h
  · rw [s35_eq] at h; exact h
  · cases h
theorem e35_nat : EntNat e35 := by
  intro c hn N vs H τ q
  unfold e35
  split
  · rw [s35_eq, s35_eq]; exact funK_ent hn _ _ _ _ _ _
  · rfl
/-- ostiary/digest.big[uint64] -/
def fn36 : Fun := ⟨3,
  (.seq (.reg [⟨(some 4), none, (.e .box), [(.t 1)], none⟩,
    ⟨(some 6), none, (.p .mv), [(.c (.int .u64 (.ofNat 0)))], none⟩])
  (.keep [0, 2, 4] (.seq (.draw [⟨(some 7), none, (.p .mv), [(.t 0)], none⟩,
    ⟨(some 8), none, (.p (.arrIdx 3 1)), [(.t 4), (.c (.int .i64 (.ofNat 0)))], none⟩,
    ⟨(some 9), none, (.l (.load none)), [(.t 8)], none⟩,
    ⟨(some 10), none, (.p .mv), [(.t 2)], none⟩,
    ⟨(some 11), none, (.call 40), [(.t 7), (.t 9), (.t 10)], none⟩,
    ⟨(some 12), none, (.p .mv), [(.t 0)], none⟩,
    ⟨(some 13), none, (.p (.arrIdx 3 1)), [(.t 4), (.c (.int .i64 (.ofNat 1)))], none⟩,
    ⟨(some 14), none, (.l (.load none)), [(.t 13)], some (0, 1)⟩,
    ⟨(some 15), none, (.p .mv), [(.t 2)], none⟩,
    ⟨(some 16), none, (.call 40), [(.t 12), (.t 14), (.t 15)], none⟩,
    ⟨(some 17), none, (.p (.bin .xor)), [(.t 11), (.t 16)], none⟩,
    ⟨(some 18), none, (.p .mv), [(.t 0)], none⟩,
    ⟨(some 19), none, (.p (.arrIdx 3 1)), [(.t 4), (.c (.int .i64 (.ofNat 2)))], none⟩,
    ⟨(some 20), none, (.l (.load none)), [(.t 19)], some (0, 2)⟩,
    ⟨(some 21), none, (.p .mv), [(.t 2)], none⟩,
    ⟨(some 22), none, (.call 40), [(.t 18), (.t 20), (.t 21)], none⟩,
    ⟨(some 23), none, (.p (.bin .xor)), [(.t 17), (.t 22)], none⟩,
    ⟨(some 6), none, (.p .mv), [(.t 23)], none⟩])
  (.keep [6] (.keep [6] .ret))))),
  [(.t 6)]⟩
def s36 (call : CallK) (N : Nat) (a0 a1 a2 : V) (H : Heap) (τ : Tape) (q : KV) : Ans :=
  effK (eBox [a1] H τ) fun v0 H1 τ2 =>
  someK (pArrIdx 3 1 [v0, (.int .i64 (.ofNat 0))]) fun v3 =>
  someK (lLoad1 [v3] H1) fun v4 =>
  call 40 [a0, v4, a2] H1 τ2 fun v5 H6 τ7 =>
  someK (pArrIdx 3 1 [v0, (.int .i64 (.ofNat 1))]) fun v8 =>
  someK (lLoad1 [v8] H6) fun v9 =>
  call 40 [a0, v9, a2] H6 τ7 fun v10 H11 τ12 =>
  binK .xor v5 v10 fun v13 =>
  someK (pArrIdx 3 1 [v0, (.int .i64 (.ofNat 2))]) fun v14 =>
  someK (lLoad1 [v14] H11) fun v15 =>
  call 40 [a0, v15, a2] H11 τ12 fun v16 H17 τ18 =>
  binK .xor v13 v16 fun v19 =>
  bif chkLoads [H1, H6, H11, H17] (((.load none), [v14], 0, 2) :: (((.load none), [v8], 0, 1) :: [])) then
  q v19 H17 τ18
  else none
theorem s36_eq (call : CallK) (N : Nat) (a0 a1 a2 : V) (H : Heap) (τ : Tape) (q : KV) : s36 call N a0 a1 a2 H τ q = funK call N fn36 [a0, a1, a2] H τ q := by kernel_rfl
def e36 (call : CallK) (N : Nat) (vs : List V) (H : Heap) (τ : Tape) (q : KV) : Ans := match vs with | [a0, a1, a2] => s36 call N a0 a1 a2 H τ q | _ => none
theorem e36_ok : EntOk fn36 e36 := by
  intro call N vs H τ q r h
  unfold e36 at h
  split at h
  · rw [s36_eq] at h; exact h
  · cases h
theorem e36_nat : EntNat e36 := by
  intro c hn N vs H τ q
  unfold e36
  split
  · rw [s36_eq, s36_eq]; exact funK_ent hn _ _ _ _ _ _
  · rfl
/-- ostiary/ostiaryref8.times -/
def fn37 : Fun := ⟨4,
  (.seq (.reg [⟨(some 4), none, (.e .box), [(.t 0)], none⟩,
    ⟨(some 6), none, (.e .box), [(.t 2)], none⟩,
    ⟨(some 8), none, (.e (.alloc (repl 16 [(.int .u64 (.ofNat 0))]))), [], none⟩])
  (.keep [1, 3, 4, 6, 8] (.seq (.reg [⟨(some 9), none, (.e (.alloc (repl 16 [(.int .u64 (.ofNat 0))]))), [], none⟩])
  (.keep [1, 3, 4, 6, 8, 9] (.seq (.seq (.reg [⟨(some 10), none, (.p .mv), [(.c (.int .i64 (.ofNat 0)))], none⟩])
  (.keep [1, 3, 4, 6, 8, 9, 10] (.block 0
   (.loop
    (.keep [1, 3, 4, 6, 8, 9, 10] (.seq (.seq (.reg [⟨(some 14), none, (.p .mv), [(.t 10)], none⟩,
      ⟨(some 15), none, (.p .mv), [(.t 1)], none⟩,
      ⟨(some 16), none, (.p (.bin .lss)), [(.t 14), (.t 15)], none⟩])
    (.keep [1, 3, 4, 6, 8, 9, 10, 16] (.cond (.t 16)
     .skip
     (.keep [8, 9] (.exit 0)))))
    (.keep [1, 3, 4, 6, 8, 9, 10] (.seq (.block 1
     (.seq (.reg [⟨(some 11), none, (.p .mv), [(.c (.int .u64 (.ofNat 0)))], none⟩])
     (.keep [1, 3, 4, 6, 8, 9, 10, 11] (.seq (.seq (.reg [⟨(some 12), none, (.p .mv), [(.c (.int .i64 (.ofNat 0)))], none⟩])
     (.keep [1, 3, 4, 6, 8, 9, 10, 11, 12] (.block 2
      (.loop
       (.keep [1, 3, 4, 6, 8, 9, 10, 11, 12] (.seq (.seq (.reg [⟨(some 19), none, (.p .mv), [(.t 12)], none⟩,
         ⟨(some 20), none, (.p .mv), [(.t 3)], none⟩,
         ⟨(some 21), none, (.p (.bin .lss)), [(.t 19), (.t 20)], none⟩])
       (.keep [1, 3, 4, 6, 8, 9, 10, 11, 12, 21] (.cond (.t 21)
        .skip
        (.keep [1, 3, 4, 6, 8, 9, 10, 11] (.exit 2)))))
       (.keep [1, 3, 4, 6, 8, 9, 10, 11, 12] (.seq (.block 3
        (.seq (.draw [⟨(some 24), none, (.p .mv), [(.t 10)], none⟩,
          ⟨(some 25), none, (.p .mv), [(.t 12)], none⟩,
          ⟨(some 26), none, (.p (.bin .add)), [(.t 24), (.t 25)], none⟩,
          ⟨(some 27), none, (.p (.arrIdx 16 1)), [(.t 9), (.t 26)], none⟩,
          ⟨(some 28), none, (.l (.load none)), [(.t 27)], none⟩,
          ⟨(some 29), none, (.p .mv), [(.t 10)], none⟩,
          ⟨(some 30), none, (.p (.arrIdx 16 1)), [(.t 4), (.t 29)], none⟩,
          ⟨(some 31), none, (.l (.load none)), [(.t 30)], none⟩,
          ⟨(some 32), none, (.p .mv), [(.t 12)], none⟩,
          ⟨(some 33), none, (.p (.arrIdx 16 1)), [(.t 6), (.t 32)], none⟩,
          ⟨(some 34), none, (.l (.load none)), [(.t 33)], none⟩,
          ⟨(some 35), none, (.p (.bin .mul)), [(.t 31), (.t 34)], none⟩,
          ⟨(some 36), none, (.p (.bin .add)), [(.t 28), (.t 35)], none⟩,
          ⟨(some 37), none, (.p .mv), [(.t 11)], none⟩,
          ⟨(some 38), none, (.p (.bin .add)), [(.t 36), (.t 37)], none⟩,
          ⟨(some 13), none, (.p .mv), [(.t 38)], none⟩])
        (.keep [1, 3, 4, 6, 8, 9, 10, 12, 13] (.seq (.reg [⟨(some 39), none, (.p .mv), [(.t 10)], none⟩,
          ⟨(some 40), none, (.p .mv), [(.t 12)], none⟩,
          ⟨(some 41), none, (.p (.bin .add)), [(.t 39), (.t 40)], none⟩,
          ⟨(some 42), none, (.p .mv), [(.t 13)], none⟩,
          ⟨(some 43), none, (.p (.bin .and)), [(.t 42), (.c (.int .u64 (.ofNat 65535)))], none⟩,
          ⟨(some 44), none, (.p (.arrIdx 16 1)), [(.t 9), (.t 41)], none⟩,
          ⟨none, none, (.e (.store 1)), [(.t 44), (.t 43)], none⟩])
        (.keep [1, 3, 4, 6, 8, 9, 10, 12, 13] (.reg [⟨(some 45), none, (.p .mv), [(.t 13)], none⟩,
          ⟨(some 46), none, (.p (.bin .shr)), [(.t 45), (.c (.int .u64 (.ofNat 16)))], none⟩,
          ⟨(some 11), none, (.p .mv), [(.t 46)], none⟩]))))))
       (.keep [1, 3, 4, 6, 8, 9, 10, 11, 12] (.reg [⟨(some 22), none, (.p .mv), [(.t 12)], none⟩,
         ⟨(some 23), none, (.p (.bin .add)), [(.t 22), (.c (.int .i64 (.ofNat 1)))], none⟩,
         ⟨(some 12), none, (.p .mv), [(.t 23)], none⟩]))))))))))
     (.keep [1, 3, 4, 6, 8, 9, 10, 11] (.reg [⟨(some 47), none, (.p .mv), [(.t 10)], none⟩,
       ⟨(some 48), none, (.p .mv), [(.t 3)], none⟩,
       ⟨(some 49), none, (.p (.bin .add)), [(.t 47), (.t 48)], none⟩,
       ⟨(some 50), none, (.p .mv), [(.t 10)], none⟩,
       ⟨(some 51), none, (.p .mv), [(.t 3)], none⟩,
       ⟨(some 52), none, (.p (.bin .add)), [(.t 50), (.t 51)], none⟩,
       ⟨(some 53), none, (.p (.arrIdx 16 1)), [(.t 9), (.t 52)], none⟩,
       ⟨(some 54), none, (.l (.load none)), [(.t 53)], none⟩,
       ⟨(some 55), none, (.p .mv), [(.t 11)], none⟩,
       ⟨(some 56), none, (.p (.bin .add)), [(.t 54), (.t 55)], none⟩,
       ⟨(some 57), none, (.p (.arrIdx 16 1)), [(.t 9), (.t 49)], none⟩,
       ⟨none, none, (.e (.store 1)), [(.t 57), (.t 56)], none⟩]))))))
    (.keep [1, 3, 4, 6, 8, 9, 10] (.reg [⟨(some 17), none, (.p .mv), [(.t 10)], none⟩,
      ⟨(some 18), none, (.p (.bin .add)), [(.t 17), (.c (.int .i64 (.ofNat 1)))], none⟩,
      ⟨(some 10), none, (.p .mv), [(.t 18)], none⟩]))))))))))
  (.keep [8, 9] (.seq (.reg [⟨(some 58), none, (.l (.load (some 16))), [(.t 9)], none⟩,
    ⟨none, none, (.e (.store 16)), [(.t 8), (.t 58)], none⟩])
  (.keep [8] (.keep [8] .ret))))))))),
  [(.cell 8 (some 16))]⟩
def s37_j0 (call : CallK) (N : Nat) (q : KV) (st : St) (τ : Tape) : Ans :=
  match st with
  | ⟨fr, H⟩ =>
  getK fr 8 fun t8 =>
  getK fr 9 fun t9 =>
  someK (lLoadN 16 [t9] H) fun v12 =>
  effK (eStore 16 [t8, v12] H τ) fun v13 H14 τ15 =>
  someK (results ⟨(T.set .leaf 8 t8), H14⟩ [(.cell 8 (some 16))]) fun v => q v H14 τ15
def s37_j2 (call : CallK) (N : Nat) (k : KC) (st : St) (τ : Tape) : Ans :=
  match st with
  | ⟨fr, H⟩ =>
  getK fr 1 fun t1 =>
  getK fr 3 fun t3 =>
  getK fr 4 fun t4 =>
  getK fr 6 fun t6 =>
  getK fr 8 fun t8 =>
  getK fr 9 fun t9 =>
  getK fr 10 fun t10 =>
  binK .add t10 (.int .i64 (.ofNat 1)) fun v17 =>
  k .normal ⟨(T.set (T.set (T.set (T.set (T.set (T.set (T.set (T.set (T.set (T.set .leaf 1 t1) 3 t3) 4 t4) 6 t6) 8 t8) 9 t9) 10 t10) 17 t10) 18 v17) 10 v17), H⟩ τ
def s37_j3 (call : CallK) (N : Nat) (k : KC) (st : St) (τ : Tape) : Ans :=
  match st with
  | ⟨fr, H⟩ =>
  getK fr 1 fun t1 =>
  getK fr 3 fun t3 =>
  getK fr 4 fun t4 =>
  getK fr 6 fun t6 =>
  getK fr 8 fun t8 =>
  getK fr 9 fun t9 =>
  getK fr 10 fun t10 =>
  getK fr 11 fun t11 =>
  binK .add t10 t3 fun v18 =>
  binK .add t10 t3 fun v19 =>
  someK (pArrIdx 16 1 [t9, v19]) fun v20 =>
  someK (lLoad1 [v20] H) fun v21 =>
  binK .add v21 t11 fun v22 =>
  someK (pArrIdx 16 1 [t9, v18]) fun v23 =>
  effK (eStore 1 [v23, v22] H τ) fun v24 H25 τ26 =>
  s37_j2 call N k ⟨(T.set (T.set (T.set (T.set (T.set (T.set (T.set (T.set (T.set (T.set (T.set (T.set (T.set (T.set (T.set (T.set (T.set (T.set (T.set .leaf 1 t1) 3 t3) 4 t4) 6 t6) 8 t8) 9 t9) 10 t10) 11 t11) 47 t10) 48 t3) 49 v18) 50 t10) 51 t3) 52 v19) 53 v20) 54 v21) 55 t11) 56 v22) 57 v23), H25⟩ τ26
def s37_l4 (call : CallK) (N : Nat) (st : St) (τ : Tape) (k : KC) : Ans :=
  match st with
  | ⟨fr, H⟩ =>
  getK fr 1 fun t1 =>
  getK fr 3 fun t3 =>
  getK fr 4 fun t4 =>
  getK fr 6 fun t6 =>
  getK fr 8 fun t8 =>
  getK fr 9 fun t9 =>
  getK fr 10 fun t10 =>
  getK fr 11 fun t11 =>
  getK fr 12 fun t12 =>
  binK .lss t12 t3 fun v27 =>
  condK v27
    (binK .add t10 t12 fun v28 =>
  someK (pArrIdx 16 1 [t9, v28]) fun v29 =>
  someK (lLoad1 [v29] H) fun v30 =>
  someK (pArrIdx 16 1 [t4, t10]) fun v31 =>
  someK (lLoad1 [v31] H) fun v32 =>
  someK (pArrIdx 16 1 [t6, t12]) fun v33 =>
  someK (lLoad1 [v33] H) fun v34 =>
  binK .mul v32 v34 fun v35 =>
  binK .add v30 v35 fun v36 =>
  binK .add v36 t11 fun v37 =>
  binK .add t10 t12 fun v38 =>
  binK .and v37 (.int .u64 (.ofNat 65535)) fun v39 =>
  someK (pArrIdx 16 1 [t9, v38]) fun v40 =>
  effK (eStore 1 [v40, v39] H τ) fun v41 H42 τ43 =>
  binK .shr v37 (.int .u64 (.ofNat 16)) fun v44 =>
  binK .add t12 (.int .i64 (.ofNat 1)) fun v45 =>
  k .normal ⟨(T.set (T.set (T.set (T.set (T.set (T.set (T.set (T.set (T.set (T.set (T.set (T.set .leaf 1 t1) 3 t3) 4 t4) 6 t6) 8 t8) 9 t9) 10 t10) 11 v44) 12 t12) 22 t12) 23 v45) 12 v45), H42⟩ τ43)
    (k (.exit 2) ⟨(T.set (T.set (T.set (T.set (T.set (T.set (T.set (T.set .leaf 1 t1) 3 t3) 4 t4) 6 t6) 8 t8) 9 t9) 10 t10) 11 t11), H⟩ τ)
def s37_l1 (call : CallK) (N : Nat) (st : St) (τ : Tape) (k : KC) : Ans :=
  match st with
  | ⟨fr, H⟩ =>
  getK fr 1 fun t1 =>
  getK fr 3 fun t3 =>
  getK fr 4 fun t4 =>
  getK fr 6 fun t6 =>
  getK fr 8 fun t8 =>
  getK fr 9 fun t9 =>
  getK fr 10 fun t10 =>
  binK .lss t10 t1 fun v16 =>
  condK v16
    (loopK (s37_l4 call N) N ⟨(T.set (T.set (T.set (T.set (T.set (T.set (T.set (T.set (T.set .leaf 1 t1) 3 t3) 4 t4) 6 t6) 8 t8) 9 t9) 10 t10) 11 (.int .u64 (.ofNat 0))) 12 (.int .i64 (.ofNat 0))), H⟩ τ (blockK 2 (seqK (s37_j3 call N k) (blockK 1 (seqK (s37_j2 call N k) k)))))
    (k (.exit 0) ⟨(T.set (T.set .leaf 8 t8) 9 t9), H⟩ τ)
def s37 (call : CallK) (N : Nat) (a0 a1 a2 a3 : V) (H : Heap) (τ : Tape) (q : KV) : Ans :=
  effK (eBox [a0] H τ) fun v0 H1 τ2 =>
  effK (eBox [a2] H1 τ2) fun v3 H4 τ5 =>
  effK (eAlloc (repl 16 [(.int .u64 (.ofNat 0))]) [] H4 τ5) fun v6 H7 τ8 =>
  effK (eAlloc (repl 16 [(.int .u64 (.ofNat 0))]) [] H7 τ8) fun v9 H10 τ11 =>
  loopK (s37_l1 call N) N ⟨(T.set (T.set (T.set (T.set (T.set (T.set (T.set .leaf 1 a1) 3 a3) 4 v0) 6 v3) 8 v6) 9 v9) 10 (.int .i64 (.ofNat 0))), H10⟩ τ11 (blockK 0 (seqK (s37_j0 call N q) (endK [(.cell 8 (some 16))] q)))
theorem s37_eq (call : CallK) (N : Nat) (a0 a1 a2 a3 : V) (H : Heap) (τ : Tape) (q : KV) : s37 call N a0 a1 a2 a3 H τ q = funK call N fn37 [a0, a1, a2, a3] H τ q := by kernel_rfl
def e37 (call : CallK) (N : Nat) (vs : List V) (H : Heap) (τ : Tape) (q : KV) : Ans := match vs with | [a0, a1, a2, a3] => s37 call N a0 a1 a2 a3 H τ q | _ => none
theorem e37_ok : EntOk fn37 e37 := by
  intro call N vs H τ q r h
  unfold e37 at h
  split at h
  · rw [s37_eq] at h; exact h
  · cases h
theorem e37_nat : EntNat e37 := by
  intro c hn N vs H τ q
  unfold e37
  split
  · rw [s37_eq, s37_eq]; exact funK_ent hn _ _ _ _ _ _
  · rfl
/-- (ostiary/ostiaryref8.word).turn -/
def fn38 : Fun := ⟨3,
  (.seq (.reg [⟨(some 3), none, (.e .box), [(.t 0)], none⟩,
    ⟨(some 6), none, (.p .mv), [(.c (.int .u64 (.ofNat 0)))], none⟩])
  (.keep [1, 2, 3] (.seq (.reg [⟨(some 7), none, (.l (.load (some 1))), [(.t 3)], none⟩,
    ⟨(some 8), none, (.p .mv), [(.t 1)], none⟩,
    ⟨(some 9), none, (.p .mv), [(.t 2)], none⟩,
    ⟨(some 10), none, (.p (.bin .shr)), [(.t 8), (.t 9)], none⟩,
    ⟨(some 11), none, (.p .mv), [(.t 1)], none⟩,
    ⟨(some 12), none, (.p (.fieldAddr 0)), [(.t 3)], none⟩,
    ⟨(some 13), none, (.l (.load none)), [(.t 12)], none⟩,
    ⟨(some 14), none, (.p .mv), [(.t 2)], none⟩,
    ⟨(some 15), none, (.p (.bin .sub)), [(.t 13), (.t 14)], none⟩,
    ⟨(some 16), none, (.p (.bin .shl)), [(.t 11), (.t 15)], none⟩,
    ⟨(some 17), none, (.p (.bin .or)), [(.t 10), (.t 16)], none⟩,
    ⟨(some 18), none, (.call 31), [(.t 7), (.t 17)], none⟩,
    ⟨(some 6), none, (.p .mv), [(.t 18)], none⟩])
  (.keep [6] (.keep [6] .ret))))),
  [(.t 6)]⟩
def s38 (call : CallK) (N : Nat) (a0 a1 a2 : V) (H : Heap) (τ : Tape) (q : KV) : Ans :=
  effK (eBox [a0] H τ) fun v0 H1 τ2 =>
  someK (lLoadN 1 [v0] H1) fun v3 =>
  binK .shr a1 a2 fun v4 =>
  someK (pFieldAddr 0 [v0]) fun v5 =>
  someK (lLoad1 [v5] H1) fun v6 =>
  binK .sub v6 a2 fun v7 =>
  binK .shl a1 v7 fun v8 =>
  binK .or v4 v8 fun v9 =>
  call 31 [v3, v9] H1 τ2 fun v10 H11 τ12 =>
  q v10 H11 τ12
theorem s38_eq (call : CallK) (N : Nat) (a0 a1 a2 : V) (H : Heap) (τ : Tape) (q : KV) : s38 call N a0 a1 a2 H τ q = funK call N fn38 [a0, a1, a2] H τ q := by kernel_rfl
def e38 (call : CallK) (N : Nat) (vs : List V) (H : Heap) (τ : Tape) (q : KV) : Ans := match vs with | [a0, a1, a2] => s38 call N a0 a1 a2 H τ q | _ => none
theorem e38_ok : EntOk fn38 e38 := by
  intro call N vs H τ q r h
  unfold e38 at h
  split at h
  · rw [s38_eq] at h; exact h
  · cases h
theorem e38_nat : EntNat e38 := by
  intro c hn N vs H τ q
  unfold e38
  split
  · rw [s38_eq, s38_eq]; exact funK_ent hn _ _ _ _ _ _
  · rfl
/-- ostiary/digest.right[uint32] -/
def fn39 : Fun := ⟨3,
  (.seq (.reg [⟨(some 6), none, (.p .mv), [(.c (.int .u32 (.ofNat 0)))], none⟩])
  (.keep [0, 1, 2] (.seq (.draw [⟨(some 7), none, (.p .mv), [(.t 0)], none⟩,
    ⟨(some 8), none, (.p .mv), [(.t 1)], none⟩,
    ⟨(some 9), none, (.p (.bin .shr)), [(.t 7), (.t 8)], none⟩,
    ⟨(some 10), none, (.p .mv), [(.t 0)], none⟩,
    ⟨(some 11), none, (.p .mv), [(.t 2)], none⟩,
    ⟨(some 12), none, (.p .mv), [(.t 1)], none⟩,
    ⟨(some 13), none, (.p (.bin .sub)), [(.t 11), (.t 12)], none⟩,
    ⟨(some 14), none, (.p (.bin .shl)), [(.t 10), (.t 13)], none⟩,
    ⟨(some 15), none, (.p (.bin .or)), [(.t 9), (.t 14)], none⟩,
    ⟨(some 6), none, (.p .mv), [(.t 15)], none⟩])
  (.keep [6] (.keep [6] .ret))))),
  [(.t 6)]⟩
def s39 (call : CallK) (N : Nat) (a0 a1 a2 : V) (H : Heap) (τ : Tape) (q : KV) : Ans :=
  binK .shr a0 a1 fun v0 =>
  binK .sub a2 a1 fun v1 =>
  binK .shl a0 v1 fun v2 =>
  binK .or v0 v2 fun v3 =>
  q v3 H τ
theorem s39_eq (call : CallK) (N : Nat) (a0 a1 a2 : V) (H : Heap) (τ : Tape) (q : KV) : s39 call N a0 a1 a2 H τ q = funK call N fn39 [a0, a1, a2] H τ q := by kernel_rfl
def e39 (call : CallK) (N : Nat) (vs : List V) (H : Heap) (τ : Tape) (q : KV) : Ans := match vs with | [a0, a1, a2] => s39 call N a0 a1 a2 H τ q | _ => none
theorem e39_ok : EntOk fn39 e39 := by
  intro call N vs H τ q r h
  unfold e39 at h
  split at h
  · rw [s39_eq] at h; exact h
  · cases h
theorem e39_nat : EntNat e39 := by
  intro c hn N vs H τ q
  unfold e39
  split
  · rw [s39_eq, s39_eq]; exact funK_ent hn _ _ _ _ _ _
  · rfl
/-- ostiary/digest.right[uint64] -/
def fn40 : Fun := ⟨3,
  (.seq (.reg [⟨(some 6), none, (.p .mv), [(.c (.int .u64 (.ofNat 0)))], none⟩])
  (.keep [0, 1, 2] (.seq (.draw [⟨(some 7), none, (.p .mv), [(.t 0)], none⟩,
    ⟨(some 8), none, (.p .mv), [(.t 1)], none⟩,
    ⟨(some 9), none, (.p (.bin .shr)), [(.t 7), (.t 8)], none⟩,
    ⟨(some 10), none, (.p .mv), [(.t 0)], none⟩,
    ⟨(some 11), none, (.p .mv), [(.t 2)], none⟩,
    ⟨(some 12), none, (.p .mv), [(.t 1)], none⟩,
    ⟨(some 13), none, (.p (.bin .sub)), [(.t 11), (.t 12)], none⟩,
    ⟨(some 14), none, (.p (.bin .shl)), [(.t 10), (.t 13)], none⟩,
    ⟨(some 15), none, (.p (.bin .or)), [(.t 9), (.t 14)], none⟩,
    ⟨(some 6), none, (.p .mv), [(.t 15)], none⟩])
  (.keep [6] (.keep [6] .ret))))),
  [(.t 6)]⟩
def s40 (call : CallK) (N : Nat) (a0 a1 a2 : V) (H : Heap) (τ : Tape) (q : KV) : Ans :=
  binK .shr a0 a1 fun v0 =>
  binK .sub a2 a1 fun v1 =>
  binK .shl a0 v1 fun v2 =>
  binK .or v0 v2 fun v3 =>
  q v3 H τ
theorem s40_eq (call : CallK) (N : Nat) (a0 a1 a2 : V) (H : Heap) (τ : Tape) (q : KV) : s40 call N a0 a1 a2 H τ q = funK call N fn40 [a0, a1, a2] H τ q := by kernel_rfl
def e40 (call : CallK) (N : Nat) (vs : List V) (H : Heap) (τ : Tape) (q : KV) : Ans := match vs with | [a0, a1, a2] => s40 call N a0 a1 a2 H τ q | _ => none
theorem e40_ok : EntOk fn40 e40 := by
  intro call N vs H τ q r h
  unfold e40 at h
  split at h
  · rw [s40_eq] at h; exact h
  · cases h
theorem e40_nat : EntNat e40 := by
  intro c hn N vs H τ q
  unfold e40
  split
  · rw [s40_eq, s40_eq]; exact funK_ent hn _ _ _ _ _ _
  · rfl
def tabF : T Def := (.node none (.node none (.node none (.node (some (.fn fn7)) (.node (some (.fn fn15)) (.node (some (.fn fn31)) .leaf .leaf) .leaf) (.node (some (.fn fn23)) (.node (some (.fn fn39)) .leaf .leaf) .leaf)) (.node (some (.fn fn11)) (.node (some (.fn fn19)) (.node (some (.fn fn35)) .leaf .leaf) .leaf) (.node (some (.fn fn27)) .leaf .leaf))) (.node (some (.fn fn5)) (.node (some (.fn fn9)) (.node (some (.fn fn17)) (.node (some (.fn fn33)) .leaf .leaf) .leaf) (.node (some (.fn fn25)) .leaf .leaf)) (.node (some (.fn fn13)) (.node (some (.fn fn21)) (.node (some (.fn fn37)) .leaf .leaf) .leaf) (.node (some (.fn fn29)) .leaf .leaf)))) (.node none (.node (some (.fn fn4)) (.node none (.node (some (.fn fn16)) (.node (some (.fn fn32)) .leaf .leaf) .leaf) (.node (some (.fn fn24)) (.node (some (.fn fn40)) .leaf .leaf) .leaf)) (.node (some (.fn fn12)) (.node (some (.fn fn20)) (.node (some (.fn fn36)) .leaf .leaf) .leaf) (.node (some (.fn fn28)) .leaf .leaf))) (.node (some (.fn fn6)) (.node (some (.prim (closedG st0))) (.node (some (.fn fn18)) (.node (some (.fn fn34)) .leaf .leaf) .leaf) (.node (some (.fn fn26)) .leaf .leaf)) (.node (some (.fn fn14)) (.node none (.node (some (.fn fn38)) .leaf .leaf) .leaf) (.node (some (.fn fn30)) .leaf .leaf)))))
def tabE : T Ent := (.node none (.node none (.node none (.node (some e7) (.node (some e15) (.node (some e31) .leaf .leaf) .leaf) (.node (some e23) (.node (some e39) .leaf .leaf) .leaf)) (.node (some e11) (.node (some e19) (.node (some e35) .leaf .leaf) .leaf) (.node (some e27) .leaf .leaf))) (.node (some e5) (.node (some e9) (.node (some e17) (.node (some e33) .leaf .leaf) .leaf) (.node (some e25) .leaf .leaf)) (.node (some e13) (.node (some e21) (.node (some e37) .leaf .leaf) .leaf) (.node (some e29) .leaf .leaf)))) (.node none (.node (some e4) (.node none (.node (some e16) (.node (some e32) .leaf .leaf) .leaf) (.node (some e24) (.node (some e40) .leaf .leaf) .leaf)) (.node (some e12) (.node (some e20) (.node (some e36) .leaf .leaf) .leaf) (.node (some e28) .leaf .leaf))) (.node (some e6) (.node (some (PrimEnt (closedG st0))) (.node (some e18) (.node (some e34) .leaf .leaf) .leaf) (.node (some e26) .leaf .leaf)) (.node (some e14) (.node none (.node (some e38) .leaf .leaf) .leaf) (.node (some e30) .leaf .leaf)))))
theorem tab_ok (N : Nat) : TabOk tabF.get N (tabOf tabE N) := tabOf_okP (E := tabE) (F := tabF) N fun f e h => T.All_get (t := tabE) (P := fun f e => (∃ fn, tabF.get f = some (.fn fn) ∧ EntOk fn e) ∨ (∃ p, tabF.get f = some (.prim p) ∧ e = PrimEnt p)) (.intro trivial (.intro (.intro trivial (.intro (.intro trivial (.intro (.intro (.inl ⟨fn7, rfl, e7_ok⟩) (.intro (.intro (.inl ⟨fn15, rfl, e15_ok⟩) (.intro (.intro (.inl ⟨fn31, rfl, e31_ok⟩) (.intro trivial trivial)) trivial)) (.intro (.inl ⟨fn23, rfl, e23_ok⟩) (.intro (.intro (.inl ⟨fn39, rfl, e39_ok⟩) (.intro trivial trivial)) trivial)))) (.intro (.inl ⟨fn11, rfl, e11_ok⟩) (.intro (.intro (.inl ⟨fn19, rfl, e19_ok⟩) (.intro (.intro (.inl ⟨fn35, rfl, e35_ok⟩) (.intro trivial trivial)) trivial)) (.intro (.inl ⟨fn27, rfl, e27_ok⟩) (.intro trivial trivial)))))) (.intro (.inl ⟨fn5, rfl, e5_ok⟩) (.intro (.intro (.inl ⟨fn9, rfl, e9_ok⟩) (.intro (.intro (.inl ⟨fn17, rfl, e17_ok⟩) (.intro (.intro (.inl ⟨fn33, rfl, e33_ok⟩) (.intro trivial trivial)) trivial)) (.intro (.inl ⟨fn25, rfl, e25_ok⟩) (.intro trivial trivial)))) (.intro (.inl ⟨fn13, rfl, e13_ok⟩) (.intro (.intro (.inl ⟨fn21, rfl, e21_ok⟩) (.intro (.intro (.inl ⟨fn37, rfl, e37_ok⟩) (.intro trivial trivial)) trivial)) (.intro (.inl ⟨fn29, rfl, e29_ok⟩) (.intro trivial trivial)))))))) (.intro trivial (.intro (.intro (.inl ⟨fn4, rfl, e4_ok⟩) (.intro (.intro trivial (.intro (.intro (.inl ⟨fn16, rfl, e16_ok⟩) (.intro (.intro (.inl ⟨fn32, rfl, e32_ok⟩) (.intro trivial trivial)) trivial)) (.intro (.inl ⟨fn24, rfl, e24_ok⟩) (.intro (.intro (.inl ⟨fn40, rfl, e40_ok⟩) (.intro trivial trivial)) trivial)))) (.intro (.inl ⟨fn12, rfl, e12_ok⟩) (.intro (.intro (.inl ⟨fn20, rfl, e20_ok⟩) (.intro (.intro (.inl ⟨fn36, rfl, e36_ok⟩) (.intro trivial trivial)) trivial)) (.intro (.inl ⟨fn28, rfl, e28_ok⟩) (.intro trivial trivial)))))) (.intro (.inl ⟨fn6, rfl, e6_ok⟩) (.intro (.intro (.inr ⟨(closedG st0), rfl, rfl⟩) (.intro (.intro (.inl ⟨fn18, rfl, e18_ok⟩) (.intro (.intro (.inl ⟨fn34, rfl, e34_ok⟩) (.intro trivial trivial)) trivial)) (.intro (.inl ⟨fn26, rfl, e26_ok⟩) (.intro trivial trivial)))) (.intro (.inl ⟨fn14, rfl, e14_ok⟩) (.intro (.intro trivial (.intro (.intro (.inl ⟨fn38, rfl, e38_ok⟩) (.intro trivial trivial)) trivial)) (.intro (.inl ⟨fn30, rfl, e30_ok⟩) (.intro trivial trivial)))))))))) h
theorem tab_nat (N d : Nat) : CallNat (callK (tabOf tabE N) d) := callK_nat N (fun f e h => T.All_get (t := tabE) (P := fun _ e => EntNat e) (.intro trivial (.intro (.intro trivial (.intro (.intro trivial (.intro (.intro e7_nat (.intro (.intro e15_nat (.intro (.intro e31_nat (.intro trivial trivial)) trivial)) (.intro e23_nat (.intro (.intro e39_nat (.intro trivial trivial)) trivial)))) (.intro e11_nat (.intro (.intro e19_nat (.intro (.intro e35_nat (.intro trivial trivial)) trivial)) (.intro e27_nat (.intro trivial trivial)))))) (.intro e5_nat (.intro (.intro e9_nat (.intro (.intro e17_nat (.intro (.intro e33_nat (.intro trivial trivial)) trivial)) (.intro e25_nat (.intro trivial trivial)))) (.intro e13_nat (.intro (.intro e21_nat (.intro (.intro e37_nat (.intro trivial trivial)) trivial)) (.intro e29_nat (.intro trivial trivial)))))))) (.intro trivial (.intro (.intro e4_nat (.intro (.intro trivial (.intro (.intro e16_nat (.intro (.intro e32_nat (.intro trivial trivial)) trivial)) (.intro e24_nat (.intro (.intro e40_nat (.intro trivial trivial)) trivial)))) (.intro e12_nat (.intro (.intro e20_nat (.intro (.intro e36_nat (.intro trivial trivial)) trivial)) (.intro e28_nat (.intro trivial trivial)))))) (.intro e6_nat (.intro (.intro (PrimEnt_nat (closedG st0)) (.intro (.intro e18_nat (.intro (.intro e34_nat (.intro trivial trivial)) trivial)) (.intro e26_nat (.intro trivial trivial)))) (.intro e14_nat (.intro (.intro trivial (.intro (.intro e38_nat (.intro trivial trivial)) trivial)) (.intro e30_nat (.intro trivial trivial)))))))))) h) d
def tabFk : T Def := (.node none (.node none (.node none (.node (some (.fn fn7)) .leaf (.node none (.node (some (.fn fn39)) .leaf .leaf) .leaf)) (.node none (.node none (.node (some (.fn fn35)) .leaf .leaf) .leaf) .leaf)) (.node none (.node (some (.fn fn9)) (.node none (.node (some (.fn fn33)) .leaf .leaf) .leaf) .leaf) (.node none (.node (some (.fn fn21)) .leaf .leaf) (.node (some (.fn fn29)) .leaf .leaf)))) (.node none (.node none (.node (some (.fn fn8)) .leaf (.node none (.node (some (.fn fn40)) .leaf .leaf) .leaf)) (.node none (.node (some (.fn fn20)) (.node (some (.fn fn36)) .leaf .leaf) .leaf) (.node (some (.fn fn28)) .leaf .leaf))) (.node none (.node (some (.fn fn10)) (.node none (.node (some (.fn fn34)) .leaf .leaf) .leaf) .leaf) (.node none (.node (some (.fn fn22)) .leaf .leaf) .leaf))))
def tabEk : T Ent := (.node none (.node none (.node none (.node (some e7) .leaf (.node none (.node (some e39) .leaf .leaf) .leaf)) (.node none (.node none (.node (some e35) .leaf .leaf) .leaf) .leaf)) (.node none (.node (some e9) (.node none (.node (some e33) .leaf .leaf) .leaf) .leaf) (.node none (.node (some e21) .leaf .leaf) (.node (some e29) .leaf .leaf)))) (.node none (.node none (.node (some e8) .leaf (.node none (.node (some e40) .leaf .leaf) .leaf)) (.node none (.node (some e20) (.node (some e36) .leaf .leaf) .leaf) (.node (some e28) .leaf .leaf))) (.node none (.node (some e10) (.node none (.node (some e34) .leaf .leaf) .leaf) .leaf) (.node none (.node (some e22) .leaf .leaf) .leaf))))
theorem tabk_ok (N : Nat) : TabOk tabFk.get N (tabOf tabEk N) := tabOf_okP (E := tabEk) (F := tabFk) N fun f e h => T.All_get (t := tabEk) (P := fun f e => (∃ fn, tabFk.get f = some (.fn fn) ∧ EntOk fn e) ∨ (∃ p, tabFk.get f = some (.prim p) ∧ e = PrimEnt p)) (.intro trivial (.intro (.intro trivial (.intro (.intro trivial (.intro (.intro (.inl ⟨fn7, rfl, e7_ok⟩) (.intro trivial (.intro trivial (.intro (.intro (.inl ⟨fn39, rfl, e39_ok⟩) (.intro trivial trivial)) trivial)))) (.intro trivial (.intro (.intro trivial (.intro (.intro (.inl ⟨fn35, rfl, e35_ok⟩) (.intro trivial trivial)) trivial)) trivial)))) (.intro trivial (.intro (.intro (.inl ⟨fn9, rfl, e9_ok⟩) (.intro (.intro trivial (.intro (.intro (.inl ⟨fn33, rfl, e33_ok⟩) (.intro trivial trivial)) trivial)) trivial)) (.intro trivial (.intro (.intro (.inl ⟨fn21, rfl, e21_ok⟩) (.intro trivial trivial)) (.intro (.inl ⟨fn29, rfl, e29_ok⟩) (.intro trivial trivial)))))))) (.intro trivial (.intro (.intro trivial (.intro (.intro (.inl ⟨fn8, rfl, e8_ok⟩) (.intro trivial (.intro trivial (.intro (.intro (.inl ⟨fn40, rfl, e40_ok⟩) (.intro trivial trivial)) trivial)))) (.intro trivial (.intro (.intro (.inl ⟨fn20, rfl, e20_ok⟩) (.intro (.intro (.inl ⟨fn36, rfl, e36_ok⟩) (.intro trivial trivial)) trivial)) (.intro (.inl ⟨fn28, rfl, e28_ok⟩) (.intro trivial trivial)))))) (.intro trivial (.intro (.intro (.inl ⟨fn10, rfl, e10_ok⟩) (.intro (.intro trivial (.intro (.intro (.inl ⟨fn34, rfl, e34_ok⟩) (.intro trivial trivial)) trivial)) trivial)) (.intro trivial (.intro (.intro (.inl ⟨fn22, rfl, e22_ok⟩) (.intro trivial trivial)) trivial)))))))) h
theorem tabk_nat (N d : Nat) : CallNat (callK (tabOf tabEk N) d) := callK_nat N (fun f e h => T.All_get (t := tabEk) (P := fun _ e => EntNat e) (.intro trivial (.intro (.intro trivial (.intro (.intro trivial (.intro (.intro e7_nat (.intro trivial (.intro trivial (.intro (.intro e39_nat (.intro trivial trivial)) trivial)))) (.intro trivial (.intro (.intro trivial (.intro (.intro e35_nat (.intro trivial trivial)) trivial)) trivial)))) (.intro trivial (.intro (.intro e9_nat (.intro (.intro trivial (.intro (.intro e33_nat (.intro trivial trivial)) trivial)) trivial)) (.intro trivial (.intro (.intro e21_nat (.intro trivial trivial)) (.intro e29_nat (.intro trivial trivial)))))))) (.intro trivial (.intro (.intro trivial (.intro (.intro e8_nat (.intro trivial (.intro trivial (.intro (.intro e40_nat (.intro trivial trivial)) trivial)))) (.intro trivial (.intro (.intro e20_nat (.intro (.intro e36_nat (.intro trivial trivial)) trivial)) (.intro e28_nat (.intro trivial trivial)))))) (.intro trivial (.intro (.intro e10_nat (.intro (.intro trivial (.intro (.intro e34_nat (.intro trivial trivial)) trivial)) trivial)) (.intro trivial (.intro (.intro e22_nat (.intro trivial trivial)) trivial)))))))) h) d
end Go.Am.AmTrydDig
