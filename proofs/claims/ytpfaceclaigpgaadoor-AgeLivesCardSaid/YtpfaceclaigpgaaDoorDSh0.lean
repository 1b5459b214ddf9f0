/- The abstract machine's texts for the law AgeBefore: printed functions of the program, and what they are shown to be. -/
import Derived.Test.YtpfaceclaigpgaaDoorAm35
import Derived.KernelRfl
namespace Go.Am.AmTrydAge
set_option maxRecDepth 1000000
set_option linter.unusedVariables false
/-- ostiary/ostiarylaw16.AgeBefore -/
def fn5 : Fun := ⟨4,
  (.seq (.reg [⟨(some 8), none, (.p .mv), [(.c (.bool false))], none⟩])
  (.keep [0, 1, 2, 3] (.seq (.reg [⟨(some 10), none, (.p .mv), [(.t 0)], none⟩,
    ⟨(some 11), none, (.call 28), [(.t 10), (.c (.int .i64 (.ofNat 10))), (.c (.int .i64 (.ofNat 100)))], none⟩,
    ⟨(some 0), none, (.p .mv), [(.t 11)], none⟩])
  (.keep [0, 1, 2, 3] (.seq (.seq (.reg [⟨(some 12), none, (.p .mv), [(.t 3)], none⟩,
    ⟨(some 13), none, (.p .mv), [(.t 2)], none⟩,
    ⟨(some 14), none, (.p (.bin .gtr)), [(.t 12), (.t 13)], none⟩])
  (.keep [0, 1, 2, 3, 14] (.cond (.t 14)
   (.reg [⟨(some 15), none, (.p .mv), [(.t 2)], none⟩,
     ⟨(some 16), none, (.p .mv), [(.t 3)], none⟩,
     ⟨(some 3), none, (.p .mv), [(.t 15)], none⟩,
     ⟨(some 2), none, (.p .mv), [(.t 16)], none⟩])
   .skip)))
  (.keep [0, 1, 2, 3] (.seq (.seq (.reg [⟨(some 17), none, (.p .mv), [(.t 0)], none⟩,
    ⟨(some 18), none, (.p .mv), [(.t 1)], none⟩,
    ⟨(some 19), none, (.p .mv), [(.t 3)], none⟩,
    ⟨(some 20), none, (.call 29), [(.t 17), (.t 18), (.t 19)], none⟩,
    ⟨(some 21), none, (.p .mv), [(.t 0)], none⟩,
    ⟨(some 22), none, (.p .mv), [(.t 1)], none⟩,
    ⟨(some 23), none, (.p .mv), [(.t 2)], none⟩,
    ⟨(some 24), none, (.call 29), [(.t 21), (.t 22), (.t 23)], none⟩,
    ⟨(some 25), none, (.p (.bin .gtr)), [(.t 20), (.t 24)], none⟩,
    ⟨(some 26), none, (.p .mv), [(.t 25)], none⟩,
    ⟨(some 27), some (26, false), (.p .mv), [(.t 0)], none⟩,
    ⟨(some 28), some (26, false), (.p .mv), [(.t 1)], none⟩,
    ⟨(some 29), some (26, false), (.p .mv), [(.t 3)], none⟩,
    ⟨(some 30), some (26, false), (.call 29), [(.t 27), (.t 28), (.t 29)], none⟩,
    ⟨(some 31), some (26, false), (.p (.bin .lss)), [(.t 30), (.c (.int .i64 (.ofNat 0)))], none⟩,
    ⟨(some 32), none, (.p .pick), [(.t 26), (.c (.bool true)), (.t 31)], none⟩,
    ⟨(some 33), none, (.p .mv), [(.t 32)], none⟩,
    ⟨(some 34), some (33, false), (.p .mv), [(.t 0)], none⟩,
    ⟨(some 35), some (33, false), (.p .mv), [(.t 1)], none⟩,
    ⟨(some 36), some (33, false), (.p .mv), [(.t 2)], none⟩,
    ⟨(some 37), some (33, false), (.call 30), [(.t 34), (.t 35), (.t 36)], none⟩,
    ⟨(some 38), some (33, false), (.p .mv), [(.t 37)], none⟩,
    ⟨(some 39), some (38, true), (.p .mv), [(.t 0)], none⟩,
    ⟨(some 40), some (38, true), (.p .mv), [(.t 1)], none⟩,
    ⟨(some 41), some (38, true), (.p .mv), [(.t 3)], none⟩,
    ⟨(some 42), some (38, true), (.call 30), [(.t 39), (.t 40), (.t 41)], none⟩,
    ⟨(some 43), some (38, true), (.p (.un .not)), [(.t 42)], none⟩,
    ⟨(some 44), some (33, false), (.p .pick), [(.t 38), (.t 43), (.c (.bool false))], none⟩,
    ⟨(some 45), none, (.p .pick), [(.t 33), (.c (.bool true)), (.t 44)], none⟩])
  (.keep [1, 2, 45] (.cond (.t 45)
   (.seq (.reg [⟨(some 8), none, (.p .mv), [(.c (.bool false))], none⟩])
   (.keep [8] (.keep [8] .ret)))
   .skip)))
  (.keep [1, 2] (.seq (.reg [⟨(some 46), none, (.p .mv), [(.t 1)], none⟩,
    ⟨(some 47), none, (.p .mv), [(.t 2)], none⟩,
    ⟨(some 48), none, (.call 31), [(.t 46), (.t 47)], none⟩,
    ⟨(some 9), none, (.p .mv), [(.t 48)], none⟩])
  (.keep [1, 2, 9] (.seq (.reg [⟨(some 49), none, (.p .mv), [(.t 9)], none⟩,
    ⟨(some 50), none, (.p (.bin .geq)), [(.t 49), (.c (.int .i64 (.ofNat 0)))], none⟩,
    ⟨(some 51), none, (.p .mv), [(.t 50)], none⟩,
    ⟨(some 52), some (51, true), (.p .mv), [(.t 9)], none⟩,
    ⟨(some 53), some (51, true), (.p .mv), [(.t 2)], none⟩,
    ⟨(some 54), some (51, true), (.p .mv), [(.t 1)], none⟩,
    ⟨(some 55), some (51, true), (.call 31), [(.t 53), (.t 54)], none⟩,
    ⟨(some 56), some (51, true), (.p (.bin .eql)), [(.t 52), (.t 55)], none⟩,
    ⟨(some 57), none, (.p .pick), [(.t 51), (.t 56), (.c (.bool false))], none⟩,
    ⟨(some 58), none, (.p .mv), [(.t 57)], none⟩,
    ⟨(some 59), some (58, true), (.p .mv), [(.t 1)], none⟩,
    ⟨(some 60), some (58, true), (.p (.bin .lss)), [(.t 59), (.c (.int .i64 (.ofNat 0)))], none⟩,
    ⟨(some 61), some (58, true), (.p .mv), [(.t 60)], none⟩,
    ⟨(some 62), some (61, false), (.p .mv), [(.t 2)], none⟩,
    ⟨(some 63), some (61, false), (.p (.bin .lss)), [(.t 62), (.c (.int .i64 (.ofNat 0)))], none⟩,
    ⟨(some 64), some (58, true), (.p .pick), [(.t 61), (.c (.bool true)), (.t 63)], none⟩,
    ⟨(some 65), some (58, true), (.p .mv), [(.t 64)], none⟩,
    ⟨(some 66), some (65, false), (.p .mv), [(.t 9)], none⟩,
    ⟨(some 67), some (65, false), (.p .mv), [(.t 1)], none⟩,
    ⟨(some 68), some (65, false), (.p (.bin .geq)), [(.t 66), (.t 67)], none⟩,
    ⟨(some 69), some (65, false), (.p .mv), [(.t 68)], none⟩,
    ⟨(some 70), some (69, true), (.p .mv), [(.t 9)], none⟩,
    ⟨(some 71), some (69, true), (.p .mv), [(.t 2)], none⟩,
    ⟨(some 72), some (69, true), (.p (.bin .geq)), [(.t 70), (.t 71)], none⟩,
    ⟨(some 73), some (65, false), (.p .pick), [(.t 69), (.t 72), (.c (.bool false))], none⟩,
    ⟨(some 74), some (58, true), (.p .pick), [(.t 65), (.c (.bool true)), (.t 73)], none⟩,
    ⟨(some 75), none, (.p .pick), [(.t 58), (.t 74), (.c (.bool false))], none⟩,
    ⟨(some 76), none, (.p .mv), [(.t 75)], none⟩,
    ⟨(some 77), some (76, true), (.call 32), [], none⟩,
    ⟨(some 78), none, (.p .pick), [(.t 76), (.t 77), (.c (.bool false))], none⟩,
    ⟨(some 8), none, (.p .mv), [(.t 78)], none⟩])
  (.keep [8] (.keep [8] .ret))))))))))))),
  [(.t 8)]⟩
def s5_j0 (call : CallK) (N : Nat) (q : KV) (st : St) (τ : Tape) : Ans :=
  match st with
  | ⟨fr, H⟩ =>
  getK fr 0 fun t0 =>
  getK fr 1 fun t1 =>
  getK fr 2 fun t2 =>
  getK fr 3 fun t3 =>
  call 29 [t0, t1, t3] H τ fun v4 H5 τ6 =>
  call 29 [t0, t1, t2] H5 τ6 fun v7 H8 τ9 =>
  binK .gtr v4 v7 fun v10 =>
  gK v10 false (fun q' => q' t0 H8 τ9) H8 τ9 fun v11 H12 τ13 =>
  gK v10 false (fun q' => q' t1 H12 τ13) H12 τ13 fun v14 H15 τ16 =>
  gK v10 false (fun q' => q' t3 H15 τ16) H15 τ16 fun v17 H18 τ19 =>
  gK v10 false (fun q' => call 29 [v11, v14, v17] H18 τ19 q') H18 τ19 fun v20 H21 τ22 =>
  gK v10 false (fun q' => binK .lss v20 (.int .i64 (.ofNat 0)) fun v => q' v H21 τ22) H21 τ22 fun v23 H24 τ25 =>
  someK (pPick [v10, (.bool true), v23]) fun v26 =>
  gK v26 false (fun q' => q' t0 H24 τ25) H24 τ25 fun v27 H28 τ29 =>
  gK v26 false (fun q' => q' t1 H28 τ29) H28 τ29 fun v30 H31 τ32 =>
  gK v26 false (fun q' => q' t2 H31 τ32) H31 τ32 fun v33 H34 τ35 =>
  gK v26 false (fun q' => call 30 [v27, v30, v33] H34 τ35 q') H34 τ35 fun v36 H37 τ38 =>
  gK v26 false (fun q' => q' v36 H37 τ38) H37 τ38 fun v39 H40 τ41 =>
  gK v39 true (fun q' => q' t0 H40 τ41) H40 τ41 fun v42 H43 τ44 =>
  gK v39 true (fun q' => q' t1 H43 τ44) H43 τ44 fun v45 H46 τ47 =>
  gK v39 true (fun q' => q' t3 H46 τ47) H46 τ47 fun v48 H49 τ50 =>
  gK v39 true (fun q' => call 30 [v42, v45, v48] H49 τ50 q') H49 τ50 fun v51 H52 τ53 =>
  gK v39 true (fun q' => unK .not v51 fun v => q' v H52 τ53) H52 τ53 fun v54 H55 τ56 =>
  gK v26 false (fun q' => someK (pPick [v39, v54, (.bool false)]) fun v => q' v H55 τ56) H55 τ56 fun v57 H58 τ59 =>
  someK (pPick [v26, (.bool true), v57]) fun v60 =>
  condK v60
    (q (.bool false) H58 τ59)
    (call 31 [t1, t2] H58 τ59 fun v61 H62 τ63 =>
  binK .geq v61 (.int .i64 (.ofNat 0)) fun v64 =>
  gK v64 true (fun q' => q' v61 H62 τ63) H62 τ63 fun v65 H66 τ67 =>
  gK v64 true (fun q' => q' t2 H66 τ67) H66 τ67 fun v68 H69 τ70 =>
  gK v64 true (fun q' => q' t1 H69 τ70) H69 τ70 fun v71 H72 τ73 =>
  gK v64 true (fun q' => call 31 [v68, v71] H72 τ73 q') H72 τ73 fun v74 H75 τ76 =>
  gK v64 true (fun q' => binK .eql v65 v74 fun v => q' v H75 τ76) H75 τ76 fun v77 H78 τ79 =>
  someK (pPick [v64, v77, (.bool false)]) fun v80 =>
  gK v80 true (fun q' => q' t1 H78 τ79) H78 τ79 fun v81 H82 τ83 =>
  gK v80 true (fun q' => binK .lss v81 (.int .i64 (.ofNat 0)) fun v => q' v H82 τ83) H82 τ83 fun v84 H85 τ86 =>
  gK v80 true (fun q' => q' v84 H85 τ86) H85 τ86 fun v87 H88 τ89 =>
  gK v87 false (fun q' => q' t2 H88 τ89) H88 τ89 fun v90 H91 τ92 =>
  gK v87 false (fun q' => binK .lss v90 (.int .i64 (.ofNat 0)) fun v => q' v H91 τ92) H91 τ92 fun v93 H94 τ95 =>
  gK v80 true (fun q' => someK (pPick [v87, (.bool true), v93]) fun v => q' v H94 τ95) H94 τ95 fun v96 H97 τ98 =>
  gK v80 true (fun q' => q' v96 H97 τ98) H97 τ98 fun v99 H100 τ101 =>
  gK v99 false (fun q' => q' v61 H100 τ101) H100 τ101 fun v102 H103 τ104 =>
  gK v99 false (fun q' => q' t1 H103 τ104) H103 τ104 fun v105 H106 τ107 =>
  gK v99 false (fun q' => binK .geq v102 v105 fun v => q' v H106 τ107) H106 τ107 fun v108 H109 τ110 =>
  gK v99 false (fun q' => q' v108 H109 τ110) H109 τ110 fun v111 H112 τ113 =>
  gK v111 true (fun q' => q' v61 H112 τ113) H112 τ113 fun v114 H115 τ116 =>
  gK v111 true (fun q' => q' t2 H115 τ116) H115 τ116 fun v117 H118 τ119 =>
  gK v111 true (fun q' => binK .geq v114 v117 fun v => q' v H118 τ119) H118 τ119 fun v120 H121 τ122 =>
  gK v99 false (fun q' => someK (pPick [v111, v120, (.bool false)]) fun v => q' v H121 τ122) H121 τ122 fun v123 H124 τ125 =>
  gK v80 true (fun q' => someK (pPick [v99, (.bool true), v123]) fun v => q' v H124 τ125) H124 τ125 fun v126 H127 τ128 =>
  someK (pPick [v80, v126, (.bool false)]) fun v129 =>
  gK v129 true (fun q' => call 32 [] H127 τ128 q') H127 τ128 fun v130 H131 τ132 =>
  someK (pPick [v129, v130, (.bool false)]) fun v133 =>
  q v133 H131 τ132)
def s5 (call : CallK) (N : Nat) (a0 a1 a2 a3 : V) (H : Heap) (τ : Tape) (q : KV) : Ans :=
  call 28 [a0, (.int .i64 (.ofNat 10)), (.int .i64 (.ofNat 100))] H τ fun v0 H1 τ2 =>
  binK .gtr a3 a2 fun v3 =>
  condK v3
    (s5_j0 call N q ⟨(T.set (T.set (T.set (T.set (T.set (T.set (T.set (T.set (T.set .leaf 0 v0) 1 a1) 2 a2) 3 a3) 14 v3) 15 a2) 16 a3) 3 a2) 2 a3), H1⟩ τ2)
    (s5_j0 call N q ⟨(T.set (T.set (T.set (T.set (T.set .leaf 0 v0) 1 a1) 2 a2) 3 a3) 14 v3), H1⟩ τ2)
theorem s5_eq (call : CallK) (N : Nat) (a0 a1 a2 a3 : V) (H : Heap) (τ : Tape) (q : KV) : s5 call N a0 a1 a2 a3 H τ q = funK call N fn5 [a0, a1, a2, a3] H τ q := by kernel_rfl
def e5 (call : CallK) (N : Nat) (vs : List V) (H : Heap) (τ : Tape) (q : KV) : Ans := match vs with | [a0, a1, a2, a3] => s5 call N a0 a1 a2 a3 H τ q | _ => none
theorem e5_ok : EntOk fn5 e5 := by
  intro call N vs H τ q r h
  unfold e5 at h
  split at h
  · rw [s5_eq] at h; exact h
  · cases h
theorem e5_nat : EntNat e5 := by
  intro c hn N vs H τ q
  unfold e5
  split
  · rw [s5_eq, s5_eq]; exact funK_ent hn _ _ _ _ _ _
  · rfl
/-- ostiary/ostiarylaw16.AgeLives -/
def fn6 : Fun := ⟨4,
  (.seq (.reg [⟨(some 8), none, (.p .mv), [(.c (.bool false))], none⟩])
  (.keep [0, 1, 2, 3] (.seq (.reg [⟨(some 12), none, (.p .mv), [(.t 0)], none⟩,
    ⟨(some 13), none, (.p (.bin .rem)), [(.t 12), (.c (.int .i64 (.ofNat 5000)))], none⟩,
    ⟨(some 14), none, (.call 33), [(.t 13), (.c (.int .i64 (.ofNat 0))), (.c (.int .i64 (.ofNat 4000)))], none⟩,
    ⟨(some 0), none, (.p .mv), [(.t 14)], none⟩])
  (.keep [0, 1, 2, 3] (.seq (.reg [⟨(some 15), none, (.p .mv), [(.t 1)], none⟩,
    ⟨(some 16), none, (.p (.bin .rem)), [(.t 15), (.c (.int .i64 (.ofNat 5000)))], none⟩,
    ⟨(some 17), none, (.call 33), [(.t 16), (.c (.int .i64 (.ofNat 0))), (.c (.int .i64 (.ofNat 4000)))], none⟩,
    ⟨(some 1), none, (.p .mv), [(.t 17)], none⟩])
  (.keep [0, 1, 2, 3] (.seq (.reg [⟨(some 18), none, (.p .mv), [(.t 2)], none⟩,
    ⟨(some 19), none, (.p (.bin .rem)), [(.t 18), (.c (.int .i64 (.ofNat 5000)))], none⟩,
    ⟨(some 20), none, (.call 33), [(.t 19), (.c (.int .i64 (.ofNat 0))), (.c (.int .i64 (.ofNat 4000)))], none⟩,
    ⟨(some 2), none, (.p .mv), [(.t 20)], none⟩])
  (.keep [0, 1, 2, 3] (.seq (.reg [⟨(some 21), none, (.p .mv), [(.t 0)], none⟩,
    ⟨(some 22), none, (.call 34), [(.t 21)], none⟩,
    ⟨(some 23), none, (.p (.bin .add)), [(.c (.str (bs [109, 97, 120, 45, 97, 103, 101, 61]))), (.t 22)], none⟩,
    ⟨(some 9), none, (.p .mv), [(.t 23)], none⟩])
  (.keep [0, 1, 2, 3, 9] (.seq (.seq (.reg [⟨(some 24), none, (.p .mv), [(.t 3)], none⟩])
  (.keep [0, 1, 2, 9, 24] (.cond (.t 24)
   (.reg [⟨(some 25), none, (.p .mv), [(.t 0)], none⟩,
     ⟨(some 26), none, (.call 34), [(.t 25)], none⟩,
     ⟨(some 27), none, (.p (.bin .add)), [(.c (.str (bs [80, 117, 98, 108, 105, 99, 44, 32, 77, 97, 120, 45, 65, 103, 101, 61, 34]))), (.t 26)], none⟩,
     ⟨(some 28), none, (.p (.bin .add)), [(.t 27), (.c (.str (bs [34])))], none⟩,
     ⟨(some 9), none, (.p .mv), [(.t 28)], none⟩])
   .skip)))
  (.keep [0, 1, 2, 9] (.seq (.reg [⟨(some 29), none, (.p .mv), [(.t 9)], none⟩,
    ⟨(some 30), none, (.call 35), [(.t 29)], none⟩,
    ⟨(some 31), none, (.p .mv), [(.t 1)], none⟩,
    ⟨(some 32), none, (.call 34), [(.t 31)], none⟩,
    ⟨(some 33), none, (.p (.build [(.str []), (.str [])] [(0, 1), (1, 1)])), [(.c (.str (bs [65, 103, 101]))), (.t 32)], none⟩,
    ⟨(some 34), none, (.e (.buildSlice 1 2 [(.str []), (.str [])] [(0, 2)])), [(.t 33)], none⟩,
    ⟨(some 35), none, (.e (.append 2 32)), [(.t 30), (.t 34)], none⟩,
    ⟨(some 10), none, (.p .mv), [(.t 35)], none⟩])
  (.keep [0, 1, 2, 10] (.seq (.reg [⟨(some 36), none, (.p .mv), [(.t 0)], none⟩,
    ⟨(some 37), none, (.p .mv), [(.t 1)], none⟩,
    ⟨(some 38), none, (.p (.bin .sub)), [(.t 36), (.t 37)], none⟩,
    ⟨(some 11), none, (.p .mv), [(.t 38)], none⟩])
  (.keep [0, 2, 10, 11] (.seq (.seq (.reg [⟨(some 39), none, (.p .mv), [(.t 11)], none⟩,
    ⟨(some 40), none, (.p (.bin .leq)), [(.t 39), (.c (.int .i64 (.ofNat 0)))], none⟩])
  (.keep [0, 2, 10, 11, 40] (.cond (.t 40)
   (.seq (.reg [⟨(some 41), none, (.p .mv), [(.t 10)], none⟩,
     ⟨(some 42), none, (.p .mv), [(.t 2)], none⟩,
     ⟨(some 43), none, (.p .mv), [(.t 2)], none⟩,
     ⟨(some 44), none, (.call 30), [(.t 41), (.t 42), (.t 43)], none⟩,
     ⟨(some 45), none, (.p (.un .not)), [(.t 44)], none⟩,
     ⟨(some 46), none, (.p .mv), [(.t 45)], none⟩,
     ⟨(some 47), some (46, true), (.call 32), [], none⟩,
     ⟨(some 48), none, (.p .pick), [(.t 46), (.t 47), (.c (.bool false))], none⟩,
     ⟨(some 8), none, (.p .mv), [(.t 48)], none⟩])
   (.keep [8] (.keep [8] .ret)))
   .skip)))
  (.keep [0, 2, 10, 11] (.seq (.reg [⟨(some 49), none, (.p .mv), [(.t 10)], none⟩,
    ⟨(some 50), none, (.p .mv), [(.t 2)], none⟩,
    ⟨(some 51), none, (.p .mv), [(.t 2)], none⟩,
    ⟨(some 52), none, (.p .mv), [(.t 11)], none⟩,
    ⟨(some 53), none, (.p (.bin .add)), [(.t 51), (.t 52)], none⟩,
    ⟨(some 54), none, (.p (.bin .sub)), [(.t 53), (.c (.int .i64 (.ofNat 1)))], none⟩,
    ⟨(some 55), none, (.call 30), [(.t 49), (.t 50), (.t 54)], none⟩,
    ⟨(some 56), none, (.p .mv), [(.t 55)], none⟩,
    ⟨(some 57), some (56, true), (.p .mv), [(.t 10)], none⟩,
    ⟨(some 58), some (56, true), (.p .mv), [(.t 2)], none⟩,
    ⟨(some 59), some (56, true), (.p .mv), [(.t 2)], none⟩,
    ⟨(some 60), some (56, true), (.p .mv), [(.t 11)], none⟩,
    ⟨(some 61), some (56, true), (.p (.bin .add)), [(.t 59), (.t 60)], none⟩,
    ⟨(some 62), some (56, true), (.call 30), [(.t 57), (.t 58), (.t 61)], none⟩,
    ⟨(some 63), some (56, true), (.p (.un .not)), [(.t 62)], none⟩,
    ⟨(some 64), none, (.p .pick), [(.t 56), (.t 63), (.c (.bool false))], none⟩,
    ⟨(some 65), none, (.p .mv), [(.t 64)], none⟩,
    ⟨(some 66), some (65, true), (.p .mv), [(.t 10)], none⟩,
    ⟨(some 67), some (65, true), (.p .mv), [(.t 2)], none⟩,
    ⟨(some 68), some (65, true), (.p .mv), [(.t 2)], none⟩,
    ⟨(some 69), some (65, true), (.p .mv), [(.t 11)], none⟩,
    ⟨(some 70), some (65, true), (.p (.bin .add)), [(.t 68), (.t 69)], none⟩,
    ⟨(some 71), some (65, true), (.call 29), [(.t 66), (.t 67), (.t 70)], none⟩,
    ⟨(some 72), some (65, true), (.p .mv), [(.t 0)], none⟩,
    ⟨(some 73), some (65, true), (.p (.bin .eql)), [(.t 71), (.t 72)], none⟩,
    ⟨(some 74), none, (.p .pick), [(.t 65), (.t 73), (.c (.bool false))], none⟩,
    ⟨(some 75), none, (.p .mv), [(.t 74)], none⟩,
    ⟨(some 76), some (75, true), (.call 32), [], none⟩,
    ⟨(some 77), none, (.p .pick), [(.t 75), (.t 76), (.c (.bool false))], none⟩,
    ⟨(some 8), none, (.p .mv), [(.t 77)], none⟩])
  (.keep [8] (.keep [8] .ret))))))))))))))))))))),
  [(.t 8)]⟩
def s6_j0 (call : CallK) (N : Nat) (q : KV) (st : St) (τ : Tape) : Ans :=
  match st with
  | ⟨fr, H⟩ =>
  getK fr 0 fun t0 =>
  getK fr 1 fun t1 =>
  getK fr 2 fun t2 =>
  getK fr 9 fun t9 =>
  call 35 [t9] H τ fun v16 H17 τ18 =>
  call 34 [t1] H17 τ18 fun v19 H20 τ21 =>
  someK (pBuild [(.str []), (.str [])] [(0, 1), (1, 1)] [(.str (bs [65, 103, 101])), v19]) fun v22 =>
  effK (eBuildSlice 1 2 [(.str []), (.str [])] [(0, 2)] [v22] H20 τ21) fun v23 H24 τ25 =>
  effK (eAppend 2 32 [v16, v23] H24 τ25) fun v26 H27 τ28 =>
  binK .sub t0 t1 fun v29 =>
  binK .leq v29 (.int .i64 (.ofNat 0)) fun v30 =>
  condK v30
    (call 30 [v26, t2, t2] H27 τ28 fun v31 H32 τ33 =>
  unK .not v31 fun v34 =>
  gK v34 true (fun q' => call 32 [] H32 τ33 q') H32 τ33 fun v35 H36 τ37 =>
  someK (pPick [v34, v35, (.bool false)]) fun v38 =>
  q v38 H36 τ37)
    (binK .add t2 v29 fun v39 =>
  binK .sub v39 (.int .i64 (.ofNat 1)) fun v40 =>
  call 30 [v26, t2, v40] H27 τ28 fun v41 H42 τ43 =>
  gK v41 true (fun q' => q' v26 H42 τ43) H42 τ43 fun v44 H45 τ46 =>
  gK v41 true (fun q' => q' t2 H45 τ46) H45 τ46 fun v47 H48 τ49 =>
  gK v41 true (fun q' => q' t2 H48 τ49) H48 τ49 fun v50 H51 τ52 =>
  gK v41 true (fun q' => q' v29 H51 τ52) H51 τ52 fun v53 H54 τ55 =>
  gK v41 true (fun q' => binK .add v50 v53 fun v => q' v H54 τ55) H54 τ55 fun v56 H57 τ58 =>
  gK v41 true (fun q' => call 30 [v44, v47, v56] H57 τ58 q') H57 τ58 fun v59 H60 τ61 =>
  gK v41 true (fun q' => unK .not v59 fun v => q' v H60 τ61) H60 τ61 fun v62 H63 τ64 =>
  someK (pPick [v41, v62, (.bool false)]) fun v65 =>
  gK v65 true (fun q' => q' v26 H63 τ64) H63 τ64 fun v66 H67 τ68 =>
  gK v65 true (fun q' => q' t2 H67 τ68) H67 τ68 fun v69 H70 τ71 =>
  gK v65 true (fun q' => q' t2 H70 τ71) H70 τ71 fun v72 H73 τ74 =>
  gK v65 true (fun q' => q' v29 H73 τ74) H73 τ74 fun v75 H76 τ77 =>
  gK v65 true (fun q' => binK .add v72 v75 fun v => q' v H76 τ77) H76 τ77 fun v78 H79 τ80 =>
  gK v65 true (fun q' => call 29 [v66, v69, v78] H79 τ80 q') H79 τ80 fun v81 H82 τ83 =>
  gK v65 true (fun q' => q' t0 H82 τ83) H82 τ83 fun v84 H85 τ86 =>
  gK v65 true (fun q' => binK .eql v81 v84 fun v => q' v H85 τ86) H85 τ86 fun v87 H88 τ89 =>
  someK (pPick [v65, v87, (.bool false)]) fun v90 =>
  gK v90 true (fun q' => call 32 [] H88 τ89 q') H88 τ89 fun v91 H92 τ93 =>
  someK (pPick [v90, v91, (.bool false)]) fun v94 =>
  q v94 H92 τ93)
def s6 (call : CallK) (N : Nat) (a0 a1 a2 a3 : V) (H : Heap) (τ : Tape) (q : KV) : Ans :=
  binK .rem a0 (.int .i64 (.ofNat 5000)) fun v0 =>
  call 33 [v0, (.int .i64 (.ofNat 0)), (.int .i64 (.ofNat 4000))] H τ fun v1 H2 τ3 =>
  binK .rem a1 (.int .i64 (.ofNat 5000)) fun v4 =>
  call 33 [v4, (.int .i64 (.ofNat 0)), (.int .i64 (.ofNat 4000))] H2 τ3 fun v5 H6 τ7 =>
  binK .rem a2 (.int .i64 (.ofNat 5000)) fun v8 =>
  call 33 [v8, (.int .i64 (.ofNat 0)), (.int .i64 (.ofNat 4000))] H6 τ7 fun v9 H10 τ11 =>
  call 34 [v1] H10 τ11 fun v12 H13 τ14 =>
  binK .add (.str (bs [109, 97, 120, 45, 97, 103, 101, 61])) v12 fun v15 =>
  condK a3
    (call 34 [v1] H13 τ14 fun v95 H96 τ97 =>
  binK .add (.str (bs [80, 117, 98, 108, 105, 99, 44, 32, 77, 97, 120, 45, 65, 103, 101, 61, 34])) v95 fun v98 =>
  binK .add v98 (.str (bs [34])) fun v99 =>
  s6_j0 call N q ⟨(T.set (T.set (T.set (T.set (T.set (T.set (T.set (T.set (T.set (T.set .leaf 0 v1) 1 v5) 2 v9) 9 v15) 24 a3) 25 v1) 26 v95) 27 v98) 28 v99) 9 v99), H96⟩ τ97)
    (s6_j0 call N q ⟨(T.set (T.set (T.set (T.set (T.set .leaf 0 v1) 1 v5) 2 v9) 9 v15) 24 a3), H13⟩ τ14)
theorem s6_eq (call : CallK) (N : Nat) (a0 a1 a2 a3 : V) (H : Heap) (τ : Tape) (q : KV) : s6 call N a0 a1 a2 a3 H τ q = funK call N fn6 [a0, a1, a2, a3] H τ q := by kernel_rfl
def e6 (call : CallK) (N : Nat) (vs : List V) (H : Heap) (τ : Tape) (q : KV) : Ans := match vs with | [a0, a1, a2, a3] => s6 call N a0 a1 a2 a3 H τ q | _ => none
theorem e6_ok : EntOk fn6 e6 := by
  intro call N vs H τ q r h
  unfold e6 at h
  split at h
  · rw [s6_eq] at h; exact h
  · cases h
theorem e6_nat : EntNat e6 := by
  intro c hn N vs H τ q
  unfold e6
  split
  · rw [s6_eq, s6_eq]; exact funK_ent hn _ _ _ _ _ _
  · rfl
/-- ostiary/ostiarykeep.Few -/
def fn14 : Fun := ⟨2,
  (.seq (.reg [⟨(some 4), none, (.p .mv), [(.c (.str []))], none⟩])
  (.keep [0, 1] (.seq (.seq (.reg [⟨(some 5), none, (.p .mv), [(.t 0)], none⟩,
    ⟨(some 6), none, (.p .lenS), [(.t 5)], none⟩,
    ⟨(some 7), none, (.p .mv), [(.t 1)], none⟩,
    ⟨(some 8), none, (.p (.bin .gtr)), [(.t 6), (.t 7)], none⟩])
  (.keep [0, 1, 8] (.cond (.t 8)
   (.seq (.reg [⟨(some 9), none, (.p .mv), [(.t 0)], none⟩,
     ⟨(some 10), none, (.p .mv), [(.t 1)], none⟩,
     ⟨(some 11), none, (.p (.strSlice false true)), [(.t 9), (.t 10)], none⟩,
     ⟨(some 4), none, (.p .mv), [(.t 11)], none⟩])
   (.keep [4] (.keep [4] .ret)))
   .skip)))
  (.keep [0] (.seq (.reg [⟨(some 12), none, (.p .mv), [(.t 0)], none⟩,
    ⟨(some 4), none, (.p .mv), [(.t 12)], none⟩])
  (.keep [4] (.keep [4] .ret))))))),
  [(.t 4)]⟩
def s14 (call : CallK) (N : Nat) (a0 a1 : V) (H : Heap) (τ : Tape) (q : KV) : Ans :=
  someK (pLenS [a0]) fun v0 =>
  binK .gtr v0 a1 fun v1 =>
  condK v1
    (someK (pStrSlice false true [a0, a1]) fun v2 =>
  q v2 H τ)
    (q a0 H τ)
theorem s14_eq (call : CallK) (N : Nat) (a0 a1 : V) (H : Heap) (τ : Tape) (q : KV) : s14 call N a0 a1 H τ q = funK call N fn14 [a0, a1] H τ q := by kernel_rfl
def e14 (call : CallK) (N : Nat) (vs : List V) (H : Heap) (τ : Tape) (q : KV) : Ans := match vs with | [a0, a1] => s14 call N a0 a1 H τ q | _ => none
theorem e14_ok : EntOk fn14 e14 := by
  intro call N vs H τ q r h
  unfold e14 at h
  split at h
  · rw [s14_eq] at h; exact h
  · cases h
theorem e14_nat : EntNat e14 := by
  intro c hn N vs H τ q
  unfold e14
  split
  · rw [s14_eq, s14_eq]; exact funK_ent hn _ _ _ _ _ _
  · rfl
/-- ostiary/ostiarykeep.FewHeaders -/
def fn28 : Fun := ⟨3,
  (.seq (.reg [⟨(some 6), none, (.p .mv), [(.c .nils)], none⟩])
  (.keep [0, 1, 2] (.seq (.reg [⟨(some 7), none, (.p .mv), [(.c .nils)], none⟩])
  (.keep [0, 1, 2, 7] (.seq (.seq (.reg [⟨(some 8), none, (.p .mv), [(.c (.int .i64 (.ofNat 0)))], none⟩])
  (.keep [0, 1, 2, 7, 8] (.block 0
   (.loop
    (.keep [0, 1, 2, 7, 8] (.seq (.seq (.reg [⟨(some 9), none, (.p .mv), [(.t 8)], none⟩,
      ⟨(some 10), none, (.p .mv), [(.t 0)], none⟩,
      ⟨(some 11), none, (.p .len), [(.t 10)], none⟩,
      ⟨(some 12), none, (.p (.bin .lss)), [(.t 9), (.t 11)], none⟩,
      ⟨(some 13), none, (.p .mv), [(.t 12)], none⟩,
      ⟨(some 14), some (13, true), (.p .mv), [(.t 8)], none⟩,
      ⟨(some 15), some (13, true), (.p .mv), [(.t 1)], none⟩,
      ⟨(some 16), some (13, true), (.p (.bin .lss)), [(.t 14), (.t 15)], none⟩,
      ⟨(some 17), none, (.p .pick), [(.t 13), (.t 16), (.c (.bool false))], none⟩])
    (.keep [0, 1, 2, 7, 8, 17] (.cond (.t 17)
     .skip
     (.keep [7] (.exit 0)))))
    (.keep [0, 1, 2, 7, 8] (.seq (.block 1
     (.draw [⟨(some 20), none, (.p .mv), [(.t 7)], none⟩,
       ⟨(some 21), none, (.p .mv), [(.t 0)], none⟩,
       ⟨(some 22), none, (.p .mv), [(.t 8)], none⟩,
       ⟨(some 23), none, (.p (.slIdx 2)), [(.t 21), (.t 22)], none⟩,
       ⟨(some 24), none, (.p (.fieldAddr 0)), [(.t 23)], none⟩,
       ⟨(some 25), none, (.l (.load none)), [(.t 24)], none⟩,
       ⟨(some 26), none, (.p .mv), [(.t 2)], none⟩,
       ⟨(some 27), none, (.call 14), [(.t 25), (.t 26)], none⟩,
       ⟨(some 28), none, (.p .mv), [(.t 0)], none⟩,
       ⟨(some 29), none, (.p .mv), [(.t 8)], none⟩,
       ⟨(some 30), none, (.p (.slIdx 2)), [(.t 28), (.t 29)], none⟩,
       ⟨(some 31), none, (.p (.fieldAddr 1)), [(.t 30)], none⟩,
       ⟨(some 32), none, (.l (.load none)), [(.t 31)], some (0, 1)⟩,
       ⟨(some 33), none, (.p .mv), [(.t 2)], none⟩,
       ⟨(some 34), none, (.call 14), [(.t 32), (.t 33)], none⟩,
       ⟨(some 35), none, (.p (.build [(.str []), (.str [])] [(0, 1), (1, 1)])), [(.t 27), (.t 34)], none⟩,
       ⟨(some 36), none, (.e (.buildSlice 1 2 [(.str []), (.str [])] [(0, 2)])), [(.t 35)], none⟩,
       ⟨(some 37), none, (.e (.append 2 32)), [(.t 20), (.t 36)], none⟩,
       ⟨(some 7), none, (.p .mv), [(.t 37)], none⟩]))
    (.keep [0, 1, 2, 7, 8] (.reg [⟨(some 18), none, (.p .mv), [(.t 8)], none⟩,
      ⟨(some 19), none, (.p (.bin .add)), [(.t 18), (.c (.int .i64 (.ofNat 1)))], none⟩,
      ⟨(some 8), none, (.p .mv), [(.t 19)], none⟩]))))))))))
  (.keep [7] (.seq (.reg [⟨(some 38), none, (.p .mv), [(.t 7)], none⟩,
    ⟨(some 6), none, (.p .mv), [(.t 38)], none⟩])
  (.keep [6] (.keep [6] .ret))))))))),
  [(.t 6)]⟩
def s28_j0 (call : CallK) (N : Nat) (q : KV) (st : St) (τ : Tape) : Ans :=
  match st with
  | ⟨fr, H⟩ =>
  getK fr 7 fun t7 =>
  q t7 H τ
def s28_l1 (call : CallK) (N : Nat) (st : St) (τ : Tape) (k : KC) : Ans :=
  match st with
  | ⟨fr, H⟩ =>
  getK fr 0 fun t0 =>
  getK fr 1 fun t1 =>
  getK fr 2 fun t2 =>
  getK fr 7 fun t7 =>
  getK fr 8 fun t8 =>
  someK (pLen [t0]) fun v0 =>
  binK .lss t8 v0 fun v1 =>
  gK v1 true (fun q' => q' t8 H τ) H τ fun v2 H3 τ4 =>
  gK v1 true (fun q' => q' t1 H3 τ4) H3 τ4 fun v5 H6 τ7 =>
  gK v1 true (fun q' => binK .lss v2 v5 fun v => q' v H6 τ7) H6 τ7 fun v8 H9 τ10 =>
  someK (pPick [v1, v8, (.bool false)]) fun v11 =>
  condK v11
    (someK (pSlIdx 2 [t0, t8]) fun v12 =>
  someK (pFieldAddr 0 [v12]) fun v13 =>
  someK (lLoad1 [v13] H9) fun v14 =>
  call 14 [v14, t2] H9 τ10 fun v15 H16 τ17 =>
  someK (pSlIdx 2 [t0, t8]) fun v18 =>
  someK (pFieldAddr 1 [v18]) fun v19 =>
  someK (lLoad1 [v19] H16) fun v20 =>
  call 14 [v20, t2] H16 τ17 fun v21 H22 τ23 =>
  someK (pBuild [(.str []), (.str [])] [(0, 1), (1, 1)] [v15, v21]) fun v24 =>
  effK (eBuildSlice 1 2 [(.str []), (.str [])] [(0, 2)] [v24] H22 τ23) fun v25 H26 τ27 =>
  effK (eAppend 2 32 [t7, v25] H26 τ27) fun v28 H29 τ30 =>
  bif chkLoads [H9, H16, H22, H26, H29] (((.load none), [v19], 0, 1) :: []) then
  binK .add t8 (.int .i64 (.ofNat 1)) fun v31 =>
  k .normal ⟨(T.set (T.set (T.set (T.set (T.set (T.set (T.set (T.set .leaf 0 t0) 1 t1) 2 t2) 7 v28) 8 t8) 18 t8) 19 v31) 8 v31), H29⟩ τ30
  else none)
    (k (.exit 0) ⟨(T.set .leaf 7 t7), H9⟩ τ10)
def s28 (call : CallK) (N : Nat) (a0 a1 a2 : V) (H : Heap) (τ : Tape) (q : KV) : Ans :=
  loopK (s28_l1 call N) N ⟨(T.set (T.set (T.set (T.set (T.set .leaf 0 a0) 1 a1) 2 a2) 7 .nils) 8 (.int .i64 (.ofNat 0))), H⟩ τ (blockK 0 (seqK (s28_j0 call N q) (endK [(.t 6)] q)))
theorem s28_eq (call : CallK) (N : Nat) (a0 a1 a2 : V) (H : Heap) (τ : Tape) (q : KV) : s28 call N a0 a1 a2 H τ q = funK call N fn28 [a0, a1, a2] H τ q := by kernel_rfl
def e28 (call : CallK) (N : Nat) (vs : List V) (H : Heap) (τ : Tape) (q : KV) : Ans := match vs with | [a0, a1, a2] => s28 call N a0 a1 a2 H τ q | _ => none
theorem e28_ok : EntOk fn28 e28 := by
  intro call N vs H τ q r h
  unfold e28 at h
  split at h
  · rw [s28_eq] at h; exact h
  · cases h
theorem e28_nat : EntNat e28 := by
  intro c hn N vs H τ q
  unfold e28
  split
  · rw [s28_eq, s28_eq]; exact funK_ent hn _ _ _ _ _ _
  · rfl
/-- ostiary/age.Age -/
def fn29 : Fun := ⟨3,
  (.seq (.reg [⟨(some 6), none, (.p .mv), [(.c (.int .i64 (.ofNat 0)))], none⟩])
  (.keep [0, 1, 2] (.seq (.reg [⟨(some 12), none, (.p .mv), [(.t 0)], none⟩,
    ⟨(some 13), none, (.call 78), [(.t 12), (.c (.str (bs [97, 103, 101])))], none⟩,
    ⟨(some 11), none, (.p .mv), [(.t 13)], none⟩,
    ⟨(some 14), none, (.p (.extract 0)), [(.t 11)], none⟩,
    ⟨(some 15), none, (.p (.extract 1)), [(.t 11)], none⟩,
    ⟨(some 7), none, (.p .mv), [(.t 14)], none⟩,
    ⟨(some 8), none, (.p .mv), [(.t 15)], none⟩])
  (.keep [1, 2, 7] (.seq (.reg [⟨(some 17), none, (.p .mv), [(.t 7)], none⟩,
    ⟨(some 18), none, (.call 80), [(.t 17)], none⟩,
    ⟨(some 19), none, (.call 79), [(.t 18)], none⟩,
    ⟨(some 16), none, (.p .mv), [(.t 19)], none⟩,
    ⟨(some 20), none, (.p (.extract 0)), [(.t 16)], none⟩,
    ⟨(some 21), none, (.p (.extract 1)), [(.t 16)], none⟩,
    ⟨(some 9), none, (.p .mv), [(.t 20)], none⟩,
    ⟨(some 10), none, (.p .mv), [(.t 21)], none⟩])
  (.keep [1, 2, 9] (.seq (.reg [⟨(some 22), none, (.p .mv), [(.t 9)], none⟩,
    ⟨(some 23), none, (.p .mv), [(.t 1)], none⟩,
    ⟨(some 24), none, (.p .mv), [(.t 2)], none⟩,
    ⟨(some 25), none, (.call 81), [(.t 23), (.t 24)], none⟩,
    ⟨(some 26), none, (.call 31), [(.t 22), (.t 25)], none⟩,
    ⟨(some 6), none, (.p .mv), [(.t 26)], none⟩])
  (.keep [6] (.keep [6] .ret))))))))),
  [(.t 6)]⟩
def s29 (call : CallK) (N : Nat) (a0 a1 a2 : V) (H : Heap) (τ : Tape) (q : KV) : Ans :=
  call 78 [a0, (.str (bs [97, 103, 101]))] H τ fun v0 H1 τ2 =>
  someK (pExtract 0 [v0]) fun v3 =>
  someK (pExtract 1 [v0]) fun v4 =>
  call 80 [v3] H1 τ2 fun v5 H6 τ7 =>
  call 79 [v5] H6 τ7 fun v8 H9 τ10 =>
  someK (pExtract 0 [v8]) fun v11 =>
  someK (pExtract 1 [v8]) fun v12 =>
  call 81 [a1, a2] H9 τ10 fun v13 H14 τ15 =>
  call 31 [v11, v13] H14 τ15 fun v16 H17 τ18 =>
  q v16 H17 τ18
theorem s29_eq (call : CallK) (N : Nat) (a0 a1 a2 : V) (H : Heap) (τ : Tape) (q : KV) : s29 call N a0 a1 a2 H τ q = funK call N fn29 [a0, a1, a2] H τ q := by kernel_rfl
def e29 (call : CallK) (N : Nat) (vs : List V) (H : Heap) (τ : Tape) (q : KV) : Ans := match vs with | [a0, a1, a2] => s29 call N a0 a1 a2 H τ q | _ => none
theorem e29_ok : EntOk fn29 e29 := by
  intro call N vs H τ q r h
  unfold e29 at h
  split at h
  · rw [s29_eq] at h; exact h
  · cases h
theorem e29_nat : EntNat e29 := by
  intro c hn N vs H τ q
  unfold e29
  split
  · rw [s29_eq, s29_eq]; exact funK_ent hn _ _ _ _ _ _
  · rfl
/-- ostiary/age.Fresh -/
def fn30 : Fun := ⟨3,
  (.seq (.reg [⟨(some 6), none, (.p .mv), [(.c (.bool false))], none⟩])
  (.keep [0, 1, 2] (.seq (.reg [⟨(some 8), none, (.p .mv), [(.t 0)], none⟩,
    ⟨(some 9), none, (.call 53), [(.t 8)], none⟩,
    ⟨(some 7), none, (.e (.alloc [(.bool false), (.bool false), (.int .i64 (.ofNat 0))])), [], none⟩,
    ⟨none, none, (.e (.store 3)), [(.t 7), (.t 9)], none⟩])
  (.keep [0, 1, 2, 7] (.seq (.draw [⟨(some 10), none, (.p (.fieldAddr 1)), [(.t 7)], none⟩,
    ⟨(some 11), none, (.l (.load none)), [(.t 10)], none⟩,
    ⟨(some 12), none, (.p (.un .not)), [(.t 11)], none⟩,
    ⟨(some 13), none, (.p .mv), [(.t 12)], none⟩,
    ⟨(some 14), some (13, true), (.p (.fieldAddr 2)), [(.t 7)], none⟩,
    ⟨(some 15), some (13, true), (.l (.load none)), [(.t 14)], some (0, 1)⟩,
    ⟨(some 16), some (13, true), (.p .mv), [(.t 0)], none⟩,
    ⟨(some 17), some (13, true), (.p .mv), [(.t 1)], none⟩,
    ⟨(some 18), some (13, true), (.p .mv), [(.t 2)], none⟩,
    ⟨(some 19), some (13, true), (.call 29), [(.t 16), (.t 17), (.t 18)], none⟩,
    ⟨(some 20), some (13, true), (.p (.bin .gtr)), [(.t 15), (.t 19)], none⟩,
    ⟨(some 21), none, (.p .pick), [(.t 13), (.t 20), (.c (.bool false))], none⟩,
    ⟨(some 6), none, (.p .mv), [(.t 21)], none⟩])
  (.keep [6] (.keep [6] .ret))))))),
  [(.t 6)]⟩
def s30 (call : CallK) (N : Nat) (a0 a1 a2 : V) (H : Heap) (τ : Tape) (q : KV) : Ans :=
  call 53 [a0] H τ fun v0 H1 τ2 =>
  effK (eAlloc [(.bool false), (.bool false), (.int .i64 (.ofNat 0))] [] H1 τ2) fun v3 H4 τ5 =>
  effK (eStore 3 [v3, v0] H4 τ5) fun v6 H7 τ8 =>
  someK (pFieldAddr 1 [v3]) fun v9 =>
  someK (lLoad1 [v9] H7) fun v10 =>
  unK .not v10 fun v11 =>
  gK v11 true (fun q' => someK (pFieldAddr 2 [v3]) fun v => q' v H7 τ8) H7 τ8 fun v12 H13 τ14 =>
  gK v11 true (fun q' => someK (lLoad1 [v12] H13) fun v => q' v H13 τ14) H13 τ14 fun v15 H16 τ17 =>
  gK v11 true (fun q' => q' a0 H16 τ17) H16 τ17 fun v18 H19 τ20 =>
  gK v11 true (fun q' => q' a1 H19 τ20) H19 τ20 fun v21 H22 τ23 =>
  gK v11 true (fun q' => q' a2 H22 τ23) H22 τ23 fun v24 H25 τ26 =>
  gK v11 true (fun q' => call 29 [v18, v21, v24] H25 τ26 q') H25 τ26 fun v27 H28 τ29 =>
  gK v11 true (fun q' => binK .gtr v15 v27 fun v => q' v H28 τ29) H28 τ29 fun v30 H31 τ32 =>
  someK (pPick [v11, v30, (.bool false)]) fun v33 =>
  bif chkLoads [H7, H28] (match wantsV v11 true with | some true => (((.load none), [v12], 0, 1) :: []) | _ => []) then
  q v33 H31 τ32
  else none
theorem s30_eq (call : CallK) (N : Nat) (a0 a1 a2 : V) (H : Heap) (τ : Tape) (q : KV) : s30 call N a0 a1 a2 H τ q = funK call N fn30 [a0, a1, a2] H τ q := by kernel_rfl
def e30 (call : CallK) (N : Nat) (vs : List V) (H : Heap) (τ : Tape) (q : KV) : Ans := match vs with | [a0, a1, a2] => s30 call N a0 a1 a2 H τ q | _ => none
theorem e30_ok : EntOk fn30 e30 := by
  intro call N vs H τ q r h
  unfold e30 at h
  split at h
  · rw [s30_eq] at h; exact h
  · cases h
theorem e30_nat : EntNat e30 := by
  intro c hn N vs H τ q
  unfold e30
  split
  · rw [s30_eq, s30_eq]; exact funK_ent hn _ _ _ _ _ _
  · rfl
/-- ostiary/age.Add -/
def fn31 : Fun := ⟨2,
  (.seq (.reg [⟨(some 4), none, (.p .mv), [(.c (.int .i64 (.ofNat 0)))], none⟩])
  (.keep [0, 1] (.seq (.block 0
   (.seq (.reg [⟨(some 6), none, (.p .mv), [(.t 1)], none⟩,
     ⟨(some 7), none, (.p (.bin .gtr)), [(.t 6), (.c (.int .i64 (.ofNat 0)))], none⟩,
     ⟨(some 8), none, (.p .mv), [(.t 7)], none⟩,
     ⟨(some 9), some (8, true), (.p .mv), [(.t 0)], none⟩,
     ⟨(some 10), some (8, true), (.p .mv), [(.t 1)], none⟩,
     ⟨(some 11), some (8, true), (.p (.bin .sub)), [(.c (.int .i64 (.ofNat 9223372036854775807))), (.t 10)], none⟩,
     ⟨(some 12), some (8, true), (.p (.bin .gtr)), [(.t 9), (.t 11)], none⟩,
     ⟨(some 13), none, (.p .pick), [(.t 8), (.t 12), (.c (.bool false))], none⟩,
     ⟨(some 5), none, (.p .mv), [(.t 13)], none⟩])
   (.keep [0, 1, 5] (.cond (.t 5)
    (.seq (.reg [⟨(some 4), none, (.p .mv), [(.c (.int .i64 (.ofNat 9223372036854775807)))], none⟩])
    (.keep [4] (.keep [4] .ret)))
    (.seq (.reg [⟨(some 15), none, (.p .mv), [(.t 1)], none⟩,
      ⟨(some 16), none, (.p (.bin .lss)), [(.t 15), (.c (.int .i64 (.ofNat 0)))], none⟩,
      ⟨(some 17), none, (.p .mv), [(.t 16)], none⟩,
      ⟨(some 18), some (17, true), (.p .mv), [(.t 0)], none⟩,
      ⟨(some 19), some (17, true), (.p .mv), [(.t 1)], none⟩,
      ⟨(some 20), some (17, true), (.p (.bin .sub)), [(.c (.int .i64 (.negSucc 9223372036854775807))), (.t 19)], none⟩,
      ⟨(some 21), some (17, true), (.p (.bin .lss)), [(.t 18), (.t 20)], none⟩,
      ⟨(some 22), none, (.p .pick), [(.t 17), (.t 21), (.c (.bool false))], none⟩,
      ⟨(some 14), none, (.p .mv), [(.t 22)], none⟩])
    (.keep [0, 1, 14] (.cond (.t 14)
     (.seq (.reg [⟨(some 4), none, (.p .mv), [(.c (.int .i64 (.ofNat 0)))], none⟩])
     (.keep [4] (.keep [4] .ret)))
     .skip)))))))
  (.keep [0, 1] (.seq (.reg [⟨(some 23), none, (.p .mv), [(.t 0)], none⟩,
    ⟨(some 24), none, (.p .mv), [(.t 1)], none⟩,
    ⟨(some 25), none, (.p (.bin .add)), [(.t 23), (.t 24)], none⟩,
    ⟨(some 26), none, (.p .max2), [(.t 25), (.c (.int .i64 (.ofNat 0)))], none⟩,
    ⟨(some 4), none, (.p .mv), [(.t 26)], none⟩])
  (.keep [4] (.keep [4] .ret))))))),
  [(.t 4)]⟩
def s31 (call : CallK) (N : Nat) (a0 a1 : V) (H : Heap) (τ : Tape) (q : KV) : Ans :=
  binK .gtr a1 (.int .i64 (.ofNat 0)) fun v0 =>
  gK v0 true (fun q' => q' a0 H τ) H τ fun v1 H2 τ3 =>
  gK v0 true (fun q' => q' a1 H2 τ3) H2 τ3 fun v4 H5 τ6 =>
  gK v0 true (fun q' => binK .sub (.int .i64 (.ofNat 9223372036854775807)) v4 fun v => q' v H5 τ6) H5 τ6 fun v7 H8 τ9 =>
  gK v0 true (fun q' => binK .gtr v1 v7 fun v => q' v H8 τ9) H8 τ9 fun v10 H11 τ12 =>
  someK (pPick [v0, v10, (.bool false)]) fun v13 =>
  condK v13
    (q (.int .i64 (.ofNat 9223372036854775807)) H11 τ12)
    (binK .lss a1 (.int .i64 (.ofNat 0)) fun v14 =>
  gK v14 true (fun q' => q' a0 H11 τ12) H11 τ12 fun v15 H16 τ17 =>
  gK v14 true (fun q' => q' a1 H16 τ17) H16 τ17 fun v18 H19 τ20 =>
  gK v14 true (fun q' => binK .sub (.int .i64 (.negSucc 9223372036854775807)) v18 fun v => q' v H19 τ20) H19 τ20 fun v21 H22 τ23 =>
  gK v14 true (fun q' => binK .lss v15 v21 fun v => q' v H22 τ23) H22 τ23 fun v24 H25 τ26 =>
  someK (pPick [v14, v24, (.bool false)]) fun v27 =>
  condK v27
    (q (.int .i64 (.ofNat 0)) H25 τ26)
    (binK .add a0 a1 fun v28 =>
  someK (pMax [v28, (.int .i64 (.ofNat 0))]) fun v29 =>
  q v29 H25 τ26))
theorem s31_eq (call : CallK) (N : Nat) (a0 a1 : V) (H : Heap) (τ : Tape) (q : KV) : s31 call N a0 a1 H τ q = funK call N fn31 [a0, a1] H τ q := by kernel_rfl
def e31 (call : CallK) (N : Nat) (vs : List V) (H : Heap) (τ : Tape) (q : KV) : Ans := match vs with | [a0, a1] => s31 call N a0 a1 H τ q | _ => none
theorem e31_ok : EntOk fn31 e31 := by
  intro call N vs H τ q r h
  unfold e31 at h
  split at h
  · rw [s31_eq] at h; exact h
  · cases h
theorem e31_nat : EntNat e31 := by
  intro c hn N vs H τ q
  unfold e31
  split
  · rw [s31_eq, s31_eq]; exact funK_ent hn _ _ _ _ _ _
  · rfl
/-- ostiary/ostiarylaw16.known -/
def fn32 : Fun := ⟨0,
  (.seq (.reg [⟨(some 0), none, (.p .mv), [(.c (.bool false))], none⟩])
  (.keep [] (.seq (.reg [⟨(some 1), none, (.call 35), [(.c (.str (bs [77, 97, 120, 45, 65, 103, 101, 61, 34, 53, 34, 44, 32, 110, 111, 45, 99, 97, 99, 104, 101, 61, 120])))], none⟩,
    ⟨(some 2), none, (.call 53), [(.t 1)], none⟩,
    ⟨(some 3), none, (.p (.build [(.bool false), (.bool false), (.int .i64 (.ofNat 0))] [(1, 1), (2, 1)])), [(.c (.bool true)), (.c (.int .i64 (.ofNat 5)))], none⟩,
    ⟨(some 4), none, (.p (.eq false (.flat [.bool, .bool, .int]))), [(.t 2), (.t 3)], none⟩,
    ⟨(some 5), none, (.p .mv), [(.t 4)], none⟩,
    ⟨(some 6), some (5, true), (.call 35), [(.c (.str (bs [109, 97, 120, 45, 97, 103, 101, 61, 53])))], none⟩,
    ⟨(some 7), some (5, true), (.call 30), [(.t 6), (.c (.int .i64 (.ofNat 0))), (.c (.int .i64 (.ofNat 4)))], none⟩,
    ⟨(some 8), none, (.p .pick), [(.t 5), (.t 7), (.c (.bool false))], none⟩,
    ⟨(some 9), none, (.p .mv), [(.t 8)], none⟩,
    ⟨(some 10), some (9, true), (.call 35), [(.c (.str (bs [109, 97, 120, 45, 97, 103, 101, 61, 53])))], none⟩,
    ⟨(some 11), some (9, true), (.call 30), [(.t 10), (.c (.int .i64 (.ofNat 0))), (.c (.int .i64 (.ofNat 5)))], none⟩,
    ⟨(some 12), some (9, true), (.p (.un .not)), [(.t 11)], none⟩,
    ⟨(some 13), none, (.p .pick), [(.t 9), (.t 12), (.c (.bool false))], none⟩,
    ⟨(some 0), none, (.p .mv), [(.t 13)], none⟩])
  (.keep [0] (.keep [0] .ret))))),
  [(.t 0)]⟩
def s32 (call : CallK) (N : Nat) (H : Heap) (τ : Tape) (q : KV) : Ans :=
  call 35 [(.str (bs [77, 97, 120, 45, 65, 103, 101, 61, 34, 53, 34, 44, 32, 110, 111, 45, 99, 97, 99, 104, 101, 61, 120]))] H τ fun v0 H1 τ2 =>
  call 53 [v0] H1 τ2 fun v3 H4 τ5 =>
  someK (pBuild [(.bool false), (.bool false), (.int .i64 (.ofNat 0))] [(1, 1), (2, 1)] [(.bool true), (.int .i64 (.ofNat 5))]) fun v6 =>
  someK (pEq false (.flat [.bool, .bool, .int]) [v3, v6]) fun v7 =>
  gK v7 true (fun q' => call 35 [(.str (bs [109, 97, 120, 45, 97, 103, 101, 61, 53]))] H4 τ5 q') H4 τ5 fun v8 H9 τ10 =>
  gK v7 true (fun q' => call 30 [v8, (.int .i64 (.ofNat 0)), (.int .i64 (.ofNat 4))] H9 τ10 q') H9 τ10 fun v11 H12 τ13 =>
  someK (pPick [v7, v11, (.bool false)]) fun v14 =>
  gK v14 true (fun q' => call 35 [(.str (bs [109, 97, 120, 45, 97, 103, 101, 61, 53]))] H12 τ13 q') H12 τ13 fun v15 H16 τ17 =>
  gK v14 true (fun q' => call 30 [v15, (.int .i64 (.ofNat 0)), (.int .i64 (.ofNat 5))] H16 τ17 q') H16 τ17 fun v18 H19 τ20 =>
  gK v14 true (fun q' => unK .not v18 fun v => q' v H19 τ20) H19 τ20 fun v21 H22 τ23 =>
  someK (pPick [v14, v21, (.bool false)]) fun v24 =>
  q v24 H22 τ23
theorem s32_eq (call : CallK) (N : Nat) (H : Heap) (τ : Tape) (q : KV) : s32 call N  H τ q = funK call N fn32 [] H τ q := by kernel_rfl
def e32 (call : CallK) (N : Nat) (vs : List V) (H : Heap) (τ : Tape) (q : KV) : Ans := match vs with | [] => s32 call N  H τ q | _ => none
theorem e32_ok : EntOk fn32 e32 := by
  intro call N vs H τ q r h
  unfold e32 at h
  split at h
  · rw [s32_eq] at h; exact h
  · cases h
theorem e32_nat : EntNat e32 := by
  intro c hn N vs H τ q
  unfold e32
  split
  · rw [s32_eq, s32_eq]; exact funK_ent hn _ _ _ _ _ _
  · rfl
/-- ostiary/ostiarybook.Within -/
def fn33 : Fun := ⟨3,
  (.seq (.reg [⟨(some 6), none, (.p .mv), [(.c (.int .i64 (.ofNat 0)))], none⟩])
  (.keep [0, 1, 2] (.seq (.reg [⟨(some 7), none, (.p .mv), [(.t 0)], none⟩,
    ⟨(some 8), none, (.p .mv), [(.t 2)], none⟩,
    ⟨(some 9), none, (.p .mv), [(.t 1)], none⟩,
    ⟨(some 10), none, (.p (.bin .sub)), [(.t 8), (.t 9)], none⟩,
    ⟨(some 11), none, (.p (.bin .add)), [(.t 10), (.c (.int .i64 (.ofNat 1)))], none⟩,
    ⟨(some 12), none, (.p (.bin .rem)), [(.t 7), (.t 11)], none⟩,
    ⟨(some 0), none, (.p .mv), [(.t 12)], none⟩])
  (.keep [0, 1, 2] (.seq (.seq (.reg [⟨(some 13), none, (.p .mv), [(.t 0)], none⟩,
    ⟨(some 14), none, (.p (.bin .lss)), [(.t 13), (.c (.int .i64 (.ofNat 0)))], none⟩])
  (.keep [0, 1, 2, 14] (.cond (.t 14)
   (.reg [⟨(some 15), none, (.p .mv), [(.t 0)], none⟩,
     ⟨(some 16), none, (.p .mv), [(.t 2)], none⟩,
     ⟨(some 17), none, (.p (.bin .add)), [(.t 15), (.t 16)], none⟩,
     ⟨(some 18), none, (.p .mv), [(.t 1)], none⟩,
     ⟨(some 19), none, (.p (.bin .sub)), [(.t 17), (.t 18)], none⟩,
     ⟨(some 20), none, (.p (.bin .add)), [(.t 19), (.c (.int .i64 (.ofNat 1)))], none⟩,
     ⟨(some 0), none, (.p .mv), [(.t 20)], none⟩])
   .skip)))
  (.keep [0, 1] (.seq (.reg [⟨(some 21), none, (.p .mv), [(.t 1)], none⟩,
    ⟨(some 22), none, (.p .mv), [(.t 0)], none⟩,
    ⟨(some 23), none, (.p (.bin .add)), [(.t 21), (.t 22)], none⟩,
    ⟨(some 6), none, (.p .mv), [(.t 23)], none⟩])
  (.keep [6] (.keep [6] .ret))))))))),
  [(.t 6)]⟩
def s33_j0 (call : CallK) (N : Nat) (q : KV) (st : St) (τ : Tape) : Ans :=
  match st with
  | ⟨fr, H⟩ =>
  getK fr 0 fun t0 =>
  getK fr 1 fun t1 =>
  binK .add t1 t0 fun v4 =>
  q v4 H τ
def s33 (call : CallK) (N : Nat) (a0 a1 a2 : V) (H : Heap) (τ : Tape) (q : KV) : Ans :=
  binK .sub a2 a1 fun v0 =>
  binK .add v0 (.int .i64 (.ofNat 1)) fun v1 =>
  binK .rem a0 v1 fun v2 =>
  binK .lss v2 (.int .i64 (.ofNat 0)) fun v3 =>
  condK v3
    (binK .add v2 a2 fun v5 =>
  binK .sub v5 a1 fun v6 =>
  binK .add v6 (.int .i64 (.ofNat 1)) fun v7 =>
  s33_j0 call N q ⟨(T.set (T.set (T.set (T.set (T.set (T.set (T.set (T.set (T.set (T.set (T.set .leaf 0 v2) 1 a1) 2 a2) 14 v3) 15 v2) 16 a2) 17 v5) 18 a1) 19 v6) 20 v7) 0 v7), H⟩ τ)
    (s33_j0 call N q ⟨(T.set (T.set (T.set (T.set .leaf 0 v2) 1 a1) 2 a2) 14 v3), H⟩ τ)
theorem s33_eq (call : CallK) (N : Nat) (a0 a1 a2 : V) (H : Heap) (τ : Tape) (q : KV) : s33 call N a0 a1 a2 H τ q = funK call N fn33 [a0, a1, a2] H τ q := by kernel_rfl
def e33 (call : CallK) (N : Nat) (vs : List V) (H : Heap) (τ : Tape) (q : KV) : Ans := match vs with | [a0, a1, a2] => s33 call N a0 a1 a2 H τ q | _ => none
theorem e33_ok : EntOk fn33 e33 := by
  intro call N vs H τ q r h
  unfold e33 at h
  split at h
  · rw [s33_eq] at h; exact h
  · cases h
theorem e33_nat : EntNat e33 := by
  intro c hn N vs H τ q
  unfold e33
  split
  · rw [s33_eq, s33_eq]; exact funK_ent hn _ _ _ _ _ _
  · rfl
/-- ostiary/ostiarylaw16.digits -/
def fn34 : Fun := ⟨1,
  (.seq (.reg [⟨(some 2), none, (.p .mv), [(.c (.str []))], none⟩])
  (.keep [0] (.seq (.reg [⟨(some 3), none, (.p .mv), [(.c (.str []))], none⟩])
  (.keep [0, 3] (.seq (.block 0
   (.loop
    (.keep [0, 3] (.seq (.seq (.reg [⟨(some 5), none, (.p .mv), [(.t 0)], none⟩,
      ⟨(some 6), none, (.p (.bin .gtr)), [(.t 5), (.c (.int .i64 (.ofNat 0)))], none⟩,
      ⟨(some 7), none, (.p .mv), [(.t 6)], none⟩,
      ⟨(some 8), some (7, false), (.p .mv), [(.t 3)], none⟩,
      ⟨(some 9), some (7, false), (.p (.bin .eql)), [(.t 8), (.c (.str []))], none⟩,
      ⟨(some 10), none, (.p .pick), [(.t 7), (.c (.bool true)), (.t 9)], none⟩])
    (.keep [0, 3, 10] (.cond (.t 10)
     .skip
     (.keep [3] (.exit 0)))))
    (.keep [0, 3] (.block 1
     (.seq (.reg [⟨(some 11), none, (.p .mv), [(.t 0)], none⟩,
       ⟨(some 12), none, (.p (.bin .rem)), [(.t 11), (.c (.int .i64 (.ofNat 10)))], none⟩,
       ⟨(some 4), none, (.p .mv), [(.t 12)], none⟩])
     (.keep [0, 3, 4] (.seq (.reg [⟨(some 13), none, (.p .mv), [(.t 4)], none⟩,
       ⟨(some 14), none, (.p .mv), [(.t 4)], none⟩,
       ⟨(some 15), none, (.p (.bin .add)), [(.t 14), (.c (.int .i64 (.ofNat 1)))], none⟩,
       ⟨(some 16), none, (.p (.strSlice true true)), [(.c (.str (bs [48, 49, 50, 51, 52, 53, 54, 55, 56, 57]))), (.t 13), (.t 15)], none⟩,
       ⟨(some 17), none, (.p .mv), [(.t 3)], none⟩,
       ⟨(some 18), none, (.p (.bin .add)), [(.t 16), (.t 17)], none⟩,
       ⟨(some 3), none, (.p .mv), [(.t 18)], none⟩])
     (.keep [0, 3] (.reg [⟨(some 19), none, (.p .mv), [(.t 0)], none⟩,
       ⟨(some 20), none, (.p (.bin .quo)), [(.t 19), (.c (.int .i64 (.ofNat 10)))], none⟩,
       ⟨(some 0), none, (.p .mv), [(.t 20)], none⟩])))))))))))
  (.keep [3] (.seq (.reg [⟨(some 21), none, (.p .mv), [(.t 3)], none⟩,
    ⟨(some 2), none, (.p .mv), [(.t 21)], none⟩])
  (.keep [2] (.keep [2] .ret))))))))),
  [(.t 2)]⟩
def s34_j0 (call : CallK) (N : Nat) (q : KV) (st : St) (τ : Tape) : Ans :=
  match st with
  | ⟨fr, H⟩ =>
  getK fr 3 fun t3 =>
  q t3 H τ
def s34_l1 (call : CallK) (N : Nat) (st : St) (τ : Tape) (k : KC) : Ans :=
  match st with
  | ⟨fr, H⟩ =>
  getK fr 0 fun t0 =>
  getK fr 3 fun t3 =>
  binK .gtr t0 (.int .i64 (.ofNat 0)) fun v0 =>
  gK v0 false (fun q' => q' t3 H τ) H τ fun v1 H2 τ3 =>
  gK v0 false (fun q' => binK .eql v1 (.str []) fun v => q' v H2 τ3) H2 τ3 fun v4 H5 τ6 =>
  someK (pPick [v0, (.bool true), v4]) fun v7 =>
  condK v7
    (binK .rem t0 (.int .i64 (.ofNat 10)) fun v8 =>
  binK .add v8 (.int .i64 (.ofNat 1)) fun v9 =>
  someK (pStrSlice true true [(.str (bs [48, 49, 50, 51, 52, 53, 54, 55, 56, 57])), v8, v9]) fun v10 =>
  binK .add v10 t3 fun v11 =>
  binK .quo t0 (.int .i64 (.ofNat 10)) fun v12 =>
  k .normal ⟨(T.set (T.set (T.set (T.set (T.set .leaf 0 t0) 3 v11) 19 t0) 20 v12) 0 v12), H5⟩ τ6)
    (k (.exit 0) ⟨(T.set .leaf 3 t3), H5⟩ τ6)
def s34 (call : CallK) (N : Nat) (a0 : V) (H : Heap) (τ : Tape) (q : KV) : Ans :=
  loopK (s34_l1 call N) N ⟨(T.set (T.set .leaf 0 a0) 3 (.str [])), H⟩ τ (blockK 0 (seqK (s34_j0 call N q) (endK [(.t 2)] q)))
theorem s34_eq (call : CallK) (N : Nat) (a0 : V) (H : Heap) (τ : Tape) (q : KV) : s34 call N a0 H τ q = funK call N fn34 [a0] H τ q := by kernel_rfl
def e34 (call : CallK) (N : Nat) (vs : List V) (H : Heap) (τ : Tape) (q : KV) : Ans := match vs with | [a0] => s34 call N a0 H τ q | _ => none
theorem e34_ok : EntOk fn34 e34 := by
  intro call N vs H τ q r h
  unfold e34 at h
  split at h
  · rw [s34_eq] at h; exact h
  · cases h
theorem e34_nat : EntNat e34 := by
  intro c hn N vs H τ q
  unfold e34
  split
  · rw [s34_eq, s34_eq]; exact funK_ent hn _ _ _ _ _ _
  · rfl
/-- ostiary/ostiarylaw16.cc -/
def fn35 : Fun := ⟨1,
  (.seq (.reg [⟨(some 2), none, (.p .mv), [(.c .nils)], none⟩])
  (.keep [0] (.seq (.reg [⟨(some 3), none, (.p .mv), [(.t 0)], none⟩,
    ⟨(some 4), none, (.p (.build [(.str []), (.str [])] [(0, 1), (1, 1)])), [(.c (.str (bs [67, 97, 99, 104, 101, 45, 67, 111, 110, 116, 114, 111, 108]))), (.t 3)], none⟩,
    ⟨(some 5), none, (.e (.buildSlice 1 2 [(.str []), (.str [])] [(0, 2)])), [(.t 4)], none⟩,
    ⟨(some 2), none, (.p .mv), [(.t 5)], none⟩])
  (.keep [2] (.keep [2] .ret))))),
  [(.t 2)]⟩
def s35 (call : CallK) (N : Nat) (a0 : V) (H : Heap) (τ : Tape) (q : KV) : Ans :=
  someK (pBuild [(.str []), (.str [])] [(0, 1), (1, 1)] [(.str (bs [67, 97, 99, 104, 101, 45, 67, 111, 110, 116, 114, 111, 108])), a0]) fun v0 =>
  effK (eBuildSlice 1 2 [(.str []), (.str [])] [(0, 2)] [v0] H τ) fun v1 H2 τ3 =>
  q v1 H2 τ3
theorem s35_eq (call : CallK) (N : Nat) (a0 : V) (H : Heap) (τ : Tape) (q : KV) : s35 call N a0 H τ q = funK call N fn35 [a0] H τ q := by kernel_rfl
def e35 (call : CallK) (N : Nat) (vs : List V) (H : Heap) (τ : Tape) (q : KV) : Ans := match vs with | [a0] => s35 call N a0 H τ q | _ => none
theorem e35_ok : EntOk fn35 e35 := by
  intro call N vs H τ q r h
  unfold e35 at h
  split at h
  · rw [s35_eq] at h; exact h
  · cases h
theorem e35_nat : EntNat e35 := by
  intro c hn N vs H τ q
  unfold e35
  split
  · rw [s35_eq, s35_eq]; exact funK_ent hn _ _ _ _ _ _
  · rfl
/-- ostiary/age.Parse -/
def fn53 : Fun := ⟨1,
  (.seq (.reg [⟨(some 2), none, (.e (.alloc [(.bool false), (.bool false), (.int .i64 (.ofNat 0))])), [], none⟩])
  (.keep [0, 2] (.seq (.reg [⟨(some 12), none, (.p (.build [(.bool false), (.bool false), (.int .i64 (.ofNat 0))] [(2, 1)])), [(.c (.int .i64 (.negSucc 0)))], none⟩,
    ⟨(some 3), none, (.e (.alloc [(.bool false), (.bool false), (.int .i64 (.ofNat 0))])), [], none⟩,
    ⟨none, none, (.e (.store 3)), [(.t 3), (.t 12)], none⟩])
  (.keep [0, 2, 3] (.seq (.reg [⟨(some 14), none, (.p .mv), [(.t 0)], none⟩,
    ⟨(some 15), none, (.call 91), [(.t 14), (.c (.str (bs [99, 97, 99, 104, 101, 45, 99, 111, 110, 116, 114, 111, 108])))], none⟩,
    ⟨(some 13), none, (.p .mv), [(.t 15)], none⟩,
    ⟨(some 16), none, (.p (.extract 0)), [(.t 13)], none⟩,
    ⟨(some 17), none, (.p (.extract 1)), [(.t 13)], none⟩,
    ⟨(some 4), none, (.p .mv), [(.t 16)], none⟩,
    ⟨(some 5), none, (.p .mv), [(.t 17)], none⟩])
  (.keep [2, 3, 4] (.seq (.seq (.reg [⟨(some 18), none, (.p .mv), [(.t 4)], none⟩,
    ⟨(some 19), none, (.p .len), [(.t 18)], none⟩,
    ⟨(some 20), none, (.p .mv), [(.c (.int .i64 (.ofNat 0)))], none⟩])
  (.keep [2, 3, 18, 19, 20] (.block 0
   (.loop
    (.keep [2, 3, 18, 19, 20] (.seq (.reg [⟨(some 21), none, (.p (.bin .lss)), [(.t 20), (.t 19)], none⟩])
    (.keep [2, 3, 18, 19, 20, 21] (.seq (.cond (.t 21)
     .skip
     (.keep [2, 3] (.exit 0)))
    (.keep [2, 3, 18, 19, 20] (.seq (.block 1
     (.seq (.reg [⟨(some 22), none, (.p (.slIdx 1)), [(.t 18), (.t 20)], none⟩,
       ⟨(some 23), none, (.l (.load none)), [(.t 22)], none⟩,
       ⟨(some 7), none, (.p .mv), [(.t 23)], none⟩])
     (.keep [2, 3, 7, 18, 19, 20] (.seq (.reg [⟨(some 25), none, (.p .mv), [(.t 7)], none⟩,
       ⟨(some 26), none, (.call 95), [(.t 25)], none⟩,
       ⟨(some 24), none, (.p .mv), [(.t 26)], none⟩,
       ⟨(some 27), none, (.p (.extract 0)), [(.t 24)], none⟩,
       ⟨(some 28), none, (.p (.extract 1)), [(.t 24)], none⟩,
       ⟨(some 8), none, (.p .mv), [(.t 27)], none⟩,
       ⟨(some 9), none, (.p .mv), [(.t 28)], none⟩])
     (.keep [2, 3, 8, 9, 18, 19, 20] (.seq (.reg [⟨(some 29), none, (.p .mv), [(.t 8)], none⟩])
     (.keep [2, 3, 9, 18, 19, 20, 29] (.block 2
      (.seq (.reg [⟨(some 31), none, (.p (.bin .eql)), [(.t 29), (.c (.str (bs [110, 111, 45, 115, 116, 111, 114, 101])))], none⟩,
        ⟨(some 30), none, (.p .mv), [(.t 31)], none⟩])
      (.keep [2, 3, 9, 18, 19, 20, 29, 30] (.cond (.t 30)
       (.reg [⟨(some 32), none, (.p (.fieldAddr 0)), [(.t 3)], none⟩,
         ⟨none, none, (.e (.store 1)), [(.t 32), (.c (.bool true))], none⟩])
       (.seq (.reg [⟨(some 34), none, (.p (.bin .eql)), [(.t 29), (.c (.str (bs [110, 111, 45, 99, 97, 99, 104, 101])))], none⟩,
         ⟨(some 33), none, (.p .mv), [(.t 34)], none⟩])
       (.keep [2, 3, 9, 18, 19, 20, 29, 33] (.cond (.t 33)
        (.reg [⟨(some 35), none, (.p (.fieldAddr 1)), [(.t 3)], none⟩,
          ⟨none, none, (.e (.store 1)), [(.t 35), (.c (.bool true))], none⟩])
        (.seq (.reg [⟨(some 37), none, (.p (.bin .eql)), [(.t 29), (.c (.str (bs [109, 97, 120, 45, 97, 103, 101])))], none⟩,
          ⟨(some 36), none, (.p .mv), [(.t 37)], none⟩])
        (.keep [2, 3, 9, 18, 19, 20, 36] (.cond (.t 36)
         (.seq (.reg [⟨(some 39), none, (.p .mv), [(.t 9)], none⟩,
           ⟨(some 40), none, (.call 79), [(.t 39)], none⟩,
           ⟨(some 38), none, (.p .mv), [(.t 40)], none⟩,
           ⟨(some 41), none, (.p (.extract 0)), [(.t 38)], none⟩,
           ⟨(some 42), none, (.p (.extract 1)), [(.t 38)], none⟩,
           ⟨(some 10), none, (.p .mv), [(.t 41)], none⟩,
           ⟨(some 11), none, (.p .mv), [(.t 42)], none⟩])
         (.keep [2, 3, 10, 11, 18, 19, 20] (.seq (.reg [⟨(some 43), none, (.p .mv), [(.t 11)], none⟩,
           ⟨(some 44), none, (.p .mv), [(.t 43)], none⟩,
           ⟨(some 45), some (44, true), (.p (.fieldAddr 2)), [(.t 3)], none⟩,
           ⟨(some 46), some (44, true), (.l (.load none)), [(.t 45)], none⟩,
           ⟨(some 47), some (44, true), (.p (.bin .lss)), [(.t 46), (.c (.int .i64 (.ofNat 0)))], none⟩,
           ⟨(some 48), none, (.p .pick), [(.t 44), (.t 47), (.c (.bool false))], none⟩])
         (.keep [2, 3, 10, 18, 19, 20, 48] (.cond (.t 48)
          (.reg [⟨(some 49), none, (.p .mv), [(.t 10)], none⟩,
            ⟨(some 50), none, (.p (.fieldAddr 2)), [(.t 3)], none⟩,
            ⟨none, none, (.e (.store 1)), [(.t 50), (.t 49)], none⟩])
          .skip)))))
         .skip)))))))))))))))))
    (.keep [2, 3, 18, 19, 20] (.reg [⟨(some 51), none, (.p (.bin .add)), [(.t 20), (.c (.int .i64 (.ofNat 1)))], none⟩,
      ⟨(some 20), none, (.p .mv), [(.t 51)], none⟩]))))))))))))
  (.keep [2, 3] (.seq (.reg [⟨(some 52), none, (.l (.load (some 3))), [(.t 3)], none⟩,
    ⟨none, none, (.e (.store 3)), [(.t 2), (.t 52)], none⟩])
  (.keep [2] (.keep [2] .ret))))))))))),
  [(.cell 2 (some 3))]⟩
def s53_j0 (call : CallK) (N : Nat) (q : KV) (st : St) (τ : Tape) : Ans :=
  match st with
  | ⟨fr, H⟩ =>
  getK fr 2 fun t2 =>
  getK fr 3 fun t3 =>
  someK (lLoadN 3 [t3] H) fun v16 =>
  effK (eStore 3 [t2, v16] H τ) fun v17 H18 τ19 =>
  someK (results ⟨(T.set .leaf 2 t2), H18⟩ [(.cell 2 (some 3))]) fun v => q v H18 τ19
def s53_j2 (call : CallK) (N : Nat) (k : KC) (st : St) (τ : Tape) : Ans :=
  match st with
  | ⟨fr, H⟩ =>
  getK fr 2 fun t2 =>
  getK fr 3 fun t3 =>
  getK fr 18 fun t18 =>
  getK fr 19 fun t19 =>
  getK fr 20 fun t20 =>
  binK .add t20 (.int .i64 (.ofNat 1)) fun v21 =>
  k .normal ⟨(T.set (T.set (T.set (T.set (T.set (T.set (T.set .leaf 2 t2) 3 t3) 18 t18) 19 t19) 20 t20) 51 v21) 20 v21), H⟩ τ
def s53_l1 (call : CallK) (N : Nat) (st : St) (τ : Tape) (k : KC) : Ans :=
  match st with
  | ⟨fr, H⟩ =>
  getK fr 2 fun t2 =>
  getK fr 3 fun t3 =>
  getK fr 18 fun t18 =>
  getK fr 19 fun t19 =>
  getK fr 20 fun t20 =>
  binK .lss t20 t19 fun v20 =>
  condK v20
    (someK (pSlIdx 1 [t18, t20]) fun v22 =>
  someK (lLoad1 [v22] H) fun v23 =>
  call 95 [v23] H τ fun v24 H25 τ26 =>
  someK (pExtract 0 [v24]) fun v27 =>
  someK (pExtract 1 [v24]) fun v28 =>
  binK .eql v27 (.str (bs [110, 111, 45, 115, 116, 111, 114, 101])) fun v29 =>
  condK v29
    (someK (pFieldAddr 0 [t3]) fun v30 =>
  effK (eStore 1 [v30, (.bool true)] H25 τ26) fun v31 H32 τ33 =>
  s53_j2 call N k ⟨(T.set (T.set (T.set (T.set (T.set (T.set (T.set (T.set (T.set .leaf 2 t2) 3 t3) 9 v28) 18 t18) 19 t19) 20 t20) 29 v27) 30 v29) 32 v30), H32⟩ τ33)
    (binK .eql v27 (.str (bs [110, 111, 45, 99, 97, 99, 104, 101])) fun v34 =>
  condK v34
    (someK (pFieldAddr 1 [t3]) fun v35 =>
  effK (eStore 1 [v35, (.bool true)] H25 τ26) fun v36 H37 τ38 =>
  s53_j2 call N k ⟨(T.set (T.set (T.set (T.set (T.set (T.set (T.set (T.set (T.set .leaf 2 t2) 3 t3) 9 v28) 18 t18) 19 t19) 20 t20) 29 v27) 33 v34) 35 v35), H37⟩ τ38)
    (binK .eql v27 (.str (bs [109, 97, 120, 45, 97, 103, 101])) fun v39 =>
  condK v39
    (call 79 [v28] H25 τ26 fun v40 H41 τ42 =>
  someK (pExtract 0 [v40]) fun v43 =>
  someK (pExtract 1 [v40]) fun v44 =>
  gK v44 true (fun q' => someK (pFieldAddr 2 [t3]) fun v => q' v H41 τ42) H41 τ42 fun v45 H46 τ47 =>
  gK v44 true (fun q' => someK (lLoad1 [v45] H46) fun v => q' v H46 τ47) H46 τ47 fun v48 H49 τ50 =>
  gK v44 true (fun q' => binK .lss v48 (.int .i64 (.ofNat 0)) fun v => q' v H49 τ50) H49 τ50 fun v51 H52 τ53 =>
  someK (pPick [v44, v51, (.bool false)]) fun v54 =>
  condK v54
    (someK (pFieldAddr 2 [t3]) fun v55 =>
  effK (eStore 1 [v55, v43] H52 τ53) fun v56 H57 τ58 =>
  s53_j2 call N k ⟨(T.set (T.set (T.set (T.set (T.set (T.set (T.set (T.set (T.set .leaf 2 t2) 3 t3) 10 v43) 18 t18) 19 t19) 20 t20) 48 v54) 49 v43) 50 v55), H57⟩ τ58)
    (s53_j2 call N k ⟨(T.set (T.set (T.set (T.set (T.set (T.set (T.set .leaf 2 t2) 3 t3) 10 v43) 18 t18) 19 t19) 20 t20) 48 v54), H52⟩ τ53))
    (s53_j2 call N k ⟨(T.set (T.set (T.set (T.set (T.set (T.set (T.set .leaf 2 t2) 3 t3) 9 v28) 18 t18) 19 t19) 20 t20) 36 v39), H25⟩ τ26))))
    (k (.exit 0) ⟨(T.set (T.set .leaf 2 t2) 3 t3), H⟩ τ)
def s53 (call : CallK) (N : Nat) (a0 : V) (H : Heap) (τ : Tape) (q : KV) : Ans :=
  effK (eAlloc [(.bool false), (.bool false), (.int .i64 (.ofNat 0))] [] H τ) fun v0 H1 τ2 =>
  someK (pBuild [(.bool false), (.bool false), (.int .i64 (.ofNat 0))] [(2, 1)] [(.int .i64 (.negSucc 0))]) fun v3 =>
  effK (eAlloc [(.bool false), (.bool false), (.int .i64 (.ofNat 0))] [] H1 τ2) fun v4 H5 τ6 =>
  effK (eStore 3 [v4, v3] H5 τ6) fun v7 H8 τ9 =>
  call 91 [a0, (.str (bs [99, 97, 99, 104, 101, 45, 99, 111, 110, 116, 114, 111, 108]))] H8 τ9 fun v10 H11 τ12 =>
  someK (pExtract 0 [v10]) fun v13 =>
  someK (pExtract 1 [v10]) fun v14 =>
  someK (pLen [v13]) fun v15 =>
  loopK (s53_l1 call N) N ⟨(T.set (T.set (T.set (T.set (T.set .leaf 2 v0) 3 v4) 18 v13) 19 v15) 20 (.int .i64 (.ofNat 0))), H11⟩ τ12 (blockK 0 (seqK (s53_j0 call N q) (endK [(.cell 2 (some 3))] q)))
theorem s53_eq (call : CallK) (N : Nat) (a0 : V) (H : Heap) (τ : Tape) (q : KV) : s53 call N a0 H τ q = funK call N fn53 [a0] H τ q := by kernel_rfl
def e53 (call : CallK) (N : Nat) (vs : List V) (H : Heap) (τ : Tape) (q : KV) : Ans := match vs with | [a0] => s53 call N a0 H τ q | _ => none
theorem e53_ok : EntOk fn53 e53 := by
  intro call N vs H τ q r h
  unfold e53 at h
  split at h
  · rw [s53_eq] at h; exact h
  · cases h
theorem e53_nat : EntNat e53 := by
  intro c hn N vs H τ q
  unfold e53
  split
  · rw [s53_eq, s53_eq]; exact funK_ent hn _ _ _ _ _ _
  · rfl
/-- strings.ContainsRune -/
def fn61 : Fun := ⟨2,
  (.seq (.reg [⟨(some 4), none, (.p .mv), [(.c (.bool false))], none⟩])
  (.keep [0, 1] (.seq (.reg [⟨(some 5), none, (.p .mv), [(.t 0)], none⟩,
    ⟨(some 6), none, (.p .mv), [(.t 1)], none⟩,
    ⟨(some 7), none, (.call 102), [(.t 5), (.t 6)], none⟩,
    ⟨(some 8), none, (.p (.bin .geq)), [(.t 7), (.c (.int .i64 (.ofNat 0)))], none⟩,
    ⟨(some 4), none, (.p .mv), [(.t 8)], none⟩])
  (.keep [4] (.keep [4] .ret))))),
  [(.t 4)]⟩
def s61 (call : CallK) (N : Nat) (a0 a1 : V) (H : Heap) (τ : Tape) (q : KV) : Ans :=
  call 102 [a0, a1] H τ fun v0 H1 τ2 =>
  binK .geq v0 (.int .i64 (.ofNat 0)) fun v3 =>
  q v3 H1 τ2
theorem s61_eq (call : CallK) (N : Nat) (a0 a1 : V) (H : Heap) (τ : Tape) (q : KV) : s61 call N a0 a1 H τ q = funK call N fn61 [a0, a1] H τ q := by kernel_rfl
def e61 (call : CallK) (N : Nat) (vs : List V) (H : Heap) (τ : Tape) (q : KV) : Ans := match vs with | [a0, a1] => s61 call N a0 a1 H τ q | _ => none
theorem e61_ok : EntOk fn61 e61 := by
  intro call N vs H τ q r h
  unfold e61 at h
  split at h
  · rw [s61_eq] at h; exact h
  · cases h
theorem e61_nat : EntNat e61 := by
  intro c hn N vs H τ q
  unfold e61
  split
  · rw [s61_eq, s61_eq]; exact funK_ent hn _ _ _ _ _ _
  · rfl
/-- strings.Cut -/
def fn62 : Fun := ⟨2,
  (.seq (.reg [⟨(some 4), none, (.p .mv), [(.c (.str []))], none⟩,
    ⟨(some 5), none, (.p .mv), [(.c (.str []))], none⟩,
    ⟨(some 6), none, (.p .mv), [(.c (.bool false))], none⟩])
  (.keep [0, 1] (.seq (.reg [⟨(some 7), none, (.p .mv), [(.t 0)], none⟩,
    ⟨(some 8), none, (.p .mv), [(.t 1)], none⟩,
    ⟨(some 9), none, (.call 103), [(.t 7), (.t 8)], none⟩,
    ⟨(some 10), none, (.p (.extract 0)), [(.t 9)], none⟩,
    ⟨(some 11), none, (.p (.extract 1)), [(.t 9)], none⟩,
    ⟨(some 12), none, (.p (.extract 2)), [(.t 9)], none⟩,
    ⟨(some 4), none, (.p .mv), [(.t 10)], none⟩,
    ⟨(some 5), none, (.p .mv), [(.t 11)], none⟩,
    ⟨(some 6), none, (.p .mv), [(.t 12)], none⟩])
  (.keep [4, 5, 6] (.keep [4, 5, 6] .ret))))),
  [(.t 4), (.t 5), (.t 6)]⟩
def s62 (call : CallK) (N : Nat) (a0 a1 : V) (H : Heap) (τ : Tape) (q : KV) : Ans :=
  call 103 [a0, a1] H τ fun v0 H1 τ2 =>
  someK (pExtract 0 [v0]) fun v3 =>
  someK (pExtract 1 [v0]) fun v4 =>
  someK (pExtract 2 [v0]) fun v5 =>
  q (.tup [v3, v4, v5]) H1 τ2
theorem s62_eq (call : CallK) (N : Nat) (a0 a1 : V) (H : Heap) (τ : Tape) (q : KV) : s62 call N a0 a1 H τ q = funK call N fn62 [a0, a1] H τ q := by kernel_rfl
def e62 (call : CallK) (N : Nat) (vs : List V) (H : Heap) (τ : Tape) (q : KV) : Ans := match vs with | [a0, a1] => s62 call N a0 a1 H τ q | _ => none
theorem e62_ok : EntOk fn62 e62 := by
  intro call N vs H τ q r h
  unfold e62 at h
  split at h
  · rw [s62_eq] at h; exact h
  · cases h
theorem e62_nat : EntNat e62 := by
  intro c hn N vs H τ q
  unfold e62
  split
  · rw [s62_eq, s62_eq]; exact funK_ent hn _ _ _ _ _ _
  · rfl
/-- ostiary/headers.Get -/
def fn78 : Fun := ⟨2,
  (.seq (.reg [⟨(some 4), none, (.p .mv), [(.c (.str []))], none⟩,
    ⟨(some 5), none, (.p .mv), [(.c (.bool false))], none⟩])
  (.keep [0, 1] (.seq (.reg [⟨(some 6), none, (.p .mv), [(.c .nils)], none⟩])
  (.keep [0, 1, 6] (.seq (.seq (.reg [⟨(some 9), none, (.p .mv), [(.t 0)], none⟩,
    ⟨(some 10), none, (.p .len), [(.t 9)], none⟩,
    ⟨(some 11), none, (.p .mv), [(.c (.int .i64 (.ofNat 0)))], none⟩])
  (.keep [1, 6, 9, 10, 11] (.block 0
   (.loop
    (.keep [1, 6, 9, 10, 11] (.seq (.reg [⟨(some 12), none, (.p (.bin .lss)), [(.t 11), (.t 10)], none⟩])
    (.keep [1, 6, 9, 10, 11, 12] (.seq (.cond (.t 12)
     .skip
     (.keep [6] (.exit 0)))
    (.keep [1, 6, 9, 10, 11] (.seq (.block 1
     (.seq (.reg [⟨(some 13), none, (.p (.slIdx 2)), [(.t 9), (.t 11)], none⟩,
       ⟨(some 14), none, (.l (.load (some 2))), [(.t 13)], none⟩,
       ⟨(some 8), none, (.e (.alloc [(.str []), (.str [])])), [], none⟩,
       ⟨none, none, (.e (.store 2)), [(.t 8), (.t 14)], none⟩])
     (.keep [1, 6, 8, 9, 10, 11] (.seq (.reg [⟨(some 15), none, (.l (.load (some 2))), [(.t 8)], none⟩,
       ⟨(some 16), none, (.p .mv), [(.t 1)], none⟩,
       ⟨(some 17), none, (.call 112), [(.t 15), (.t 16)], none⟩])
     (.keep [1, 6, 8, 9, 10, 11, 17] (.cond (.t 17)
      (.reg [⟨(some 18), none, (.p .mv), [(.t 6)], none⟩,
        ⟨(some 19), none, (.p (.fieldAddr 1)), [(.t 8)], none⟩,
        ⟨(some 20), none, (.l (.load none)), [(.t 19)], none⟩,
        ⟨(some 21), none, (.e (.buildSlice 1 1 [(.str [])] [(0, 1)])), [(.t 20)], none⟩,
        ⟨(some 22), none, (.e (.append 1 16)), [(.t 18), (.t 21)], none⟩,
        ⟨(some 6), none, (.p .mv), [(.t 22)], none⟩])
      .skip))))))
    (.keep [1, 6, 9, 10, 11] (.reg [⟨(some 23), none, (.p (.bin .add)), [(.t 11), (.c (.int .i64 (.ofNat 1)))], none⟩,
      ⟨(some 11), none, (.p .mv), [(.t 23)], none⟩]))))))))))))
  (.keep [6] (.seq (.reg [⟨(some 24), none, (.p .mv), [(.t 6)], none⟩,
    ⟨(some 25), none, (.call 113), [(.t 24), (.c (.str (bs [44, 32])))], none⟩,
    ⟨(some 26), none, (.p .mv), [(.t 6)], none⟩,
    ⟨(some 27), none, (.p .len), [(.t 26)], none⟩,
    ⟨(some 28), none, (.p (.bin .gtr)), [(.t 27), (.c (.int .i64 (.ofNat 0)))], none⟩,
    ⟨(some 4), none, (.p .mv), [(.t 25)], none⟩,
    ⟨(some 5), none, (.p .mv), [(.t 28)], none⟩])
  (.keep [4, 5] (.keep [4, 5] .ret))))))))),
  [(.t 4), (.t 5)]⟩
def s78_j0 (call : CallK) (N : Nat) (q : KV) (st : St) (τ : Tape) : Ans :=
  match st with
  | ⟨fr, H⟩ =>
  getK fr 6 fun t6 =>
  call 113 [t6, (.str (bs [44, 32]))] H τ fun v1 H2 τ3 =>
  someK (pLen [t6]) fun v4 =>
  binK .gtr v4 (.int .i64 (.ofNat 0)) fun v5 =>
  q (.tup [v1, v5]) H2 τ3
def s78_j2 (call : CallK) (N : Nat) (k : KC) (st : St) (τ : Tape) : Ans :=
  match st with
  | ⟨fr, H⟩ =>
  getK fr 1 fun t1 =>
  getK fr 6 fun t6 =>
  getK fr 9 fun t9 =>
  getK fr 10 fun t10 =>
  getK fr 11 fun t11 =>
  binK .add t11 (.int .i64 (.ofNat 1)) fun v7 =>
  k .normal ⟨(T.set (T.set (T.set (T.set (T.set (T.set (T.set .leaf 1 t1) 6 t6) 9 t9) 10 t10) 11 t11) 23 v7) 11 v7), H⟩ τ
def s78_l1 (call : CallK) (N : Nat) (st : St) (τ : Tape) (k : KC) : Ans :=
  match st with
  | ⟨fr, H⟩ =>
  getK fr 1 fun t1 =>
  getK fr 6 fun t6 =>
  getK fr 9 fun t9 =>
  getK fr 10 fun t10 =>
  getK fr 11 fun t11 =>
  binK .lss t11 t10 fun v6 =>
  condK v6
    (someK (pSlIdx 2 [t9, t11]) fun v8 =>
  someK (lLoadN 2 [v8] H) fun v9 =>
  effK (eAlloc [(.str []), (.str [])] [] H τ) fun v10 H11 τ12 =>
  effK (eStore 2 [v10, v9] H11 τ12) fun v13 H14 τ15 =>
  someK (lLoadN 2 [v10] H14) fun v16 =>
  call 112 [v16, t1] H14 τ15 fun v17 H18 τ19 =>
  condK v17
    (someK (pFieldAddr 1 [v10]) fun v20 =>
  someK (lLoad1 [v20] H18) fun v21 =>
  effK (eBuildSlice 1 1 [(.str [])] [(0, 1)] [v21] H18 τ19) fun v22 H23 τ24 =>
  effK (eAppend 1 16 [t6, v22] H23 τ24) fun v25 H26 τ27 =>
  s78_j2 call N k ⟨(T.set (T.set (T.set (T.set (T.set (T.set (T.set (T.set (T.set (T.set (T.set (T.set (T.set .leaf 1 t1) 6 t6) 8 v10) 9 t9) 10 t10) 11 t11) 17 v17) 18 t6) 19 v20) 20 v21) 21 v22) 22 v25) 6 v25), H26⟩ τ27)
    (s78_j2 call N k ⟨(T.set (T.set (T.set (T.set (T.set (T.set (T.set .leaf 1 t1) 6 t6) 8 v10) 9 t9) 10 t10) 11 t11) 17 v17), H18⟩ τ19))
    (k (.exit 0) ⟨(T.set .leaf 6 t6), H⟩ τ)
def s78 (call : CallK) (N : Nat) (a0 a1 : V) (H : Heap) (τ : Tape) (q : KV) : Ans :=
  someK (pLen [a0]) fun v0 =>
  loopK (s78_l1 call N) N ⟨(T.set (T.set (T.set (T.set (T.set .leaf 1 a1) 6 .nils) 9 a0) 10 v0) 11 (.int .i64 (.ofNat 0))), H⟩ τ (blockK 0 (seqK (s78_j0 call N q) (endK [(.t 4), (.t 5)] q)))
theorem s78_eq (call : CallK) (N : Nat) (a0 a1 : V) (H : Heap) (τ : Tape) (q : KV) : s78 call N a0 a1 H τ q = funK call N fn78 [a0, a1] H τ q := by kernel_rfl
def e78 (call : CallK) (N : Nat) (vs : List V) (H : Heap) (τ : Tape) (q : KV) : Ans := match vs with | [a0, a1] => s78 call N a0 a1 H τ q | _ => none
theorem e78_ok : EntOk fn78 e78 := by
  intro call N vs H τ q r h
  unfold e78 at h
  split at h
  · rw [s78_eq] at h; exact h
  · cases h
theorem e78_nat : EntNat e78 := by
  intro c hn N vs H τ q
  unfold e78
  split
  · rw [s78_eq, s78_eq]; exact funK_ent hn _ _ _ _ _ _
  · rfl
/-- ostiary/infra.Int -/
def fn79 : Fun := ⟨1,
  (.seq (.reg [⟨(some 2), none, (.p .mv), [(.c (.int .i64 (.ofNat 0)))], none⟩,
    ⟨(some 3), none, (.p .mv), [(.c (.bool false))], none⟩])
  (.keep [0] (.seq (.reg [⟨(some 4), none, (.p .mv), [(.c (.int .i64 (.ofNat 0)))], none⟩])
  (.keep [0, 4] (.seq (.seq (.reg [⟨(some 8), none, (.p .mv), [(.t 0)], none⟩,
    ⟨(some 9), none, (.p .lenS), [(.t 8)], none⟩,
    ⟨(some 10), none, (.p .mv), [(.c (.int .i64 (.ofNat 0)))], none⟩])
  (.keep [0, 4, 9, 10] (.block 0
   (.loop
    (.keep [0, 4, 9, 10] (.seq (.reg [⟨(some 11), none, (.p (.bin .lss)), [(.t 10), (.t 9)], none⟩])
    (.keep [0, 4, 9, 10, 11] (.seq (.cond (.t 11)
     .skip
     (.keep [0, 4] (.exit 0)))
    (.keep [0, 4, 9, 10] (.seq (.block 1
     (.seq (.reg [⟨(some 12), none, (.p .mv), [(.t 10)], none⟩,
       ⟨(some 5), none, (.p .mv), [(.t 12)], none⟩])
     (.keep [0, 4, 5, 9, 10] (.seq (.reg [⟨(some 13), none, (.p .mv), [(.t 0)], none⟩,
       ⟨(some 14), none, (.p .mv), [(.t 5)], none⟩,
       ⟨(some 15), none, (.p .strIndex), [(.t 13), (.t 14)], none⟩,
       ⟨(some 6), none, (.p .mv), [(.t 15)], none⟩])
     (.keep [0, 4, 6, 9, 10] (.seq (.seq (.reg [⟨(some 16), none, (.p .mv), [(.t 6)], none⟩,
       ⟨(some 17), none, (.p (.bin .lss)), [(.t 16), (.c (.int .u8 (.ofNat 48)))], none⟩,
       ⟨(some 18), none, (.p .mv), [(.t 17)], none⟩,
       ⟨(some 19), some (18, false), (.p .mv), [(.t 6)], none⟩,
       ⟨(some 20), some (18, false), (.p (.bin .gtr)), [(.t 19), (.c (.int .u8 (.ofNat 57)))], none⟩,
       ⟨(some 21), none, (.p .pick), [(.t 18), (.c (.bool true)), (.t 20)], none⟩])
     (.keep [0, 4, 6, 9, 10, 21] (.cond (.t 21)
      (.seq (.reg [⟨(some 2), none, (.p .mv), [(.c (.int .i64 (.ofNat 0)))], none⟩,
        ⟨(some 3), none, (.p .mv), [(.c (.bool false))], none⟩])
      (.keep [2, 3] (.keep [2, 3] .ret)))
      .skip)))
     (.keep [0, 4, 6, 9, 10] (.seq (.reg [⟨(some 22), none, (.p .mv), [(.t 6)], none⟩,
       ⟨(some 23), none, (.p (.bin .sub)), [(.t 22), (.c (.int .u8 (.ofNat 48)))], none⟩,
       ⟨(some 24), none, (.p (.toInt .i64)), [(.t 23)], none⟩,
       ⟨(some 7), none, (.p .mv), [(.t 24)], none⟩])
     (.keep [0, 4, 7, 9, 10] (.seq (.seq (.reg [⟨(some 25), none, (.p .mv), [(.t 4)], none⟩,
       ⟨(some 26), none, (.p .mv), [(.t 7)], none⟩,
       ⟨(some 27), none, (.p (.bin .sub)), [(.c (.int .i64 (.ofNat 9223372036854775807))), (.t 26)], none⟩,
       ⟨(some 28), none, (.p (.bin .quo)), [(.t 27), (.c (.int .i64 (.ofNat 10)))], none⟩,
       ⟨(some 29), none, (.p (.bin .gtr)), [(.t 25), (.t 28)], none⟩])
     (.keep [0, 4, 7, 9, 10, 29] (.cond (.t 29)
      (.seq (.reg [⟨(some 4), none, (.p .mv), [(.c (.int .i64 (.ofNat 9223372036854775807)))], none⟩])
      (.keep [0, 4, 9, 10] (.keep [0, 4, 9, 10] (.exit 1))))
      .skip)))
     (.keep [0, 4, 7, 9, 10] (.reg [⟨(some 30), none, (.p .mv), [(.t 4)], none⟩,
       ⟨(some 31), none, (.p (.bin .mul)), [(.t 30), (.c (.int .i64 (.ofNat 10)))], none⟩,
       ⟨(some 32), none, (.p .mv), [(.t 7)], none⟩,
       ⟨(some 33), none, (.p (.bin .add)), [(.t 31), (.t 32)], none⟩,
       ⟨(some 4), none, (.p .mv), [(.t 33)], none⟩]))))))))))))
    (.keep [0, 4, 9, 10] (.reg [⟨(some 34), none, (.p (.bin .add)), [(.t 10), (.c (.int .i64 (.ofNat 1)))], none⟩,
      ⟨(some 10), none, (.p .mv), [(.t 34)], none⟩]))))))))))))
  (.keep [0, 4] (.seq (.reg [⟨(some 35), none, (.p .mv), [(.t 4)], none⟩,
    ⟨(some 36), none, (.p .mv), [(.t 0)], none⟩,
    ⟨(some 37), none, (.p .lenS), [(.t 36)], none⟩,
    ⟨(some 38), none, (.p (.bin .gtr)), [(.t 37), (.c (.int .i64 (.ofNat 0)))], none⟩,
    ⟨(some 2), none, (.p .mv), [(.t 35)], none⟩,
    ⟨(some 3), none, (.p .mv), [(.t 38)], none⟩])
  (.keep [2, 3] (.keep [2, 3] .ret))))))))),
  [(.t 2), (.t 3)]⟩
def s79_j0 (call : CallK) (N : Nat) (q : KV) (st : St) (τ : Tape) : Ans :=
  match st with
  | ⟨fr, H⟩ =>
  getK fr 0 fun t0 =>
  getK fr 4 fun t4 =>
  someK (pLenS [t0]) fun v1 =>
  binK .gtr v1 (.int .i64 (.ofNat 0)) fun v2 =>
  q (.tup [t4, v2]) H τ
def s79_j2 (call : CallK) (N : Nat) (k : KC) (st : St) (τ : Tape) : Ans :=
  match st with
  | ⟨fr, H⟩ =>
  getK fr 0 fun t0 =>
  getK fr 4 fun t4 =>
  getK fr 9 fun t9 =>
  getK fr 10 fun t10 =>
  binK .add t10 (.int .i64 (.ofNat 1)) fun v4 =>
  k .normal ⟨(T.set (T.set (T.set (T.set (T.set (T.set .leaf 0 t0) 4 t4) 9 t9) 10 t10) 34 v4) 10 v4), H⟩ τ
def s79_l1 (call : CallK) (N : Nat) (st : St) (τ : Tape) (k : KC) : Ans :=
  match st with
  | ⟨fr, H⟩ =>
  getK fr 0 fun t0 =>
  getK fr 4 fun t4 =>
  getK fr 9 fun t9 =>
  getK fr 10 fun t10 =>
  binK .lss t10 t9 fun v3 =>
  condK v3
    (someK (pStrIndex [t0, t10]) fun v5 =>
  binK .lss v5 (.int .u8 (.ofNat 48)) fun v6 =>
  gK v6 false (fun q' => q' v5 H τ) H τ fun v7 H8 τ9 =>
  gK v6 false (fun q' => binK .gtr v7 (.int .u8 (.ofNat 57)) fun v => q' v H8 τ9) H8 τ9 fun v10 H11 τ12 =>
  someK (pPick [v6, (.bool true), v10]) fun v13 =>
  condK v13
    (k .ret ⟨(T.set (T.set .leaf 2 (.int .i64 (.ofNat 0))) 3 (.bool false)), H11⟩ τ12)
    (binK .sub v5 (.int .u8 (.ofNat 48)) fun v14 =>
  toIntK .i64 v14 fun v15 =>
  binK .sub (.int .i64 (.ofNat 9223372036854775807)) v15 fun v16 =>
  binK .quo v16 (.int .i64 (.ofNat 10)) fun v17 =>
  binK .gtr t4 v17 fun v18 =>
  condK v18
    (s79_j2 call N k ⟨(T.set (T.set (T.set (T.set .leaf 0 t0) 4 (.int .i64 (.ofNat 9223372036854775807))) 9 t9) 10 t10), H11⟩ τ12)
    (binK .mul t4 (.int .i64 (.ofNat 10)) fun v19 =>
  binK .add v19 v15 fun v20 =>
  s79_j2 call N k ⟨(T.set (T.set (T.set (T.set (T.set (T.set (T.set (T.set (T.set (T.set .leaf 0 t0) 4 t4) 7 v15) 9 t9) 10 t10) 30 t4) 31 v19) 32 v15) 33 v20) 4 v20), H11⟩ τ12)))
    (k (.exit 0) ⟨(T.set (T.set .leaf 0 t0) 4 t4), H⟩ τ)
def s79 (call : CallK) (N : Nat) (a0 : V) (H : Heap) (τ : Tape) (q : KV) : Ans :=
  someK (pLenS [a0]) fun v0 =>
  loopK (s79_l1 call N) N ⟨(T.set (T.set (T.set (T.set .leaf 0 a0) 4 (.int .i64 (.ofNat 0))) 9 v0) 10 (.int .i64 (.ofNat 0))), H⟩ τ (blockK 0 (seqK (s79_j0 call N q) (endK [(.t 2), (.t 3)] q)))
theorem s79_eq (call : CallK) (N : Nat) (a0 : V) (H : Heap) (τ : Tape) (q : KV) : s79 call N a0 H τ q = funK call N fn79 [a0] H τ q := by kernel_rfl
def e79 (call : CallK) (N : Nat) (vs : List V) (H : Heap) (τ : Tape) (q : KV) : Ans := match vs with | [a0] => s79 call N a0 H τ q | _ => none
theorem e79_ok : EntOk fn79 e79 := by
  intro call N vs H τ q r h
  unfold e79 at h
  split at h
  · rw [s79_eq] at h; exact h
  · cases h
theorem e79_nat : EntNat e79 := by
  intro c hn N vs H τ q
  unfold e79
  split
  · rw [s79_eq, s79_eq]; exact funK_ent hn _ _ _ _ _ _
  · rfl
/-- ostiary/infra.Strip -/
def fn80 : Fun := ⟨1,
  (.seq (.reg [⟨(some 2), none, (.p .mv), [(.c (.str []))], none⟩])
  (.keep [0] (.seq (.reg [⟨(some 3), none, (.p .mv), [(.t 0)], none⟩,
    ⟨(some 4), none, (.call 114), [(.t 3), (.c (.str (bs [9, 10, 12, 13, 32])))], none⟩,
    ⟨(some 2), none, (.p .mv), [(.t 4)], none⟩])
  (.keep [2] (.keep [2] .ret))))),
  [(.t 2)]⟩
def s80 (call : CallK) (N : Nat) (a0 : V) (H : Heap) (τ : Tape) (q : KV) : Ans :=
  call 114 [a0, (.str (bs [9, 10, 12, 13, 32]))] H τ fun v0 H1 τ2 =>
  q v0 H1 τ2
theorem s80_eq (call : CallK) (N : Nat) (a0 : V) (H : Heap) (τ : Tape) (q : KV) : s80 call N a0 H τ q = funK call N fn80 [a0] H τ q := by kernel_rfl
def e80 (call : CallK) (N : Nat) (vs : List V) (H : Heap) (τ : Tape) (q : KV) : Ans := match vs with | [a0] => s80 call N a0 H τ q | _ => none
theorem e80_ok : EntOk fn80 e80 := by
  intro call N vs H τ q r h
  unfold e80 at h
  split at h
  · rw [s80_eq] at h; exact h
  · cases h
theorem e80_nat : EntNat e80 := by
  intro c hn N vs H τ q
  unfold e80
  split
  · rw [s80_eq, s80_eq]; exact funK_ent hn _ _ _ _ _ _
  · rfl
/-- ostiary/age.since -/
def fn81 : Fun := ⟨2,
  (.seq (.reg [⟨(some 4), none, (.p .mv), [(.c (.int .i64 (.ofNat 0)))], none⟩])
  (.keep [0, 1] (.seq (.block 0
   (.seq (.reg [⟨(some 6), none, (.p .mv), [(.t 1)], none⟩,
     ⟨(some 7), none, (.p .mv), [(.t 0)], none⟩,
     ⟨(some 8), none, (.p (.bin .leq)), [(.t 6), (.t 7)], none⟩,
     ⟨(some 5), none, (.p .mv), [(.t 8)], none⟩])
   (.keep [0, 1, 5] (.cond (.t 5)
    (.seq (.reg [⟨(some 4), none, (.p .mv), [(.c (.int .i64 (.ofNat 0)))], none⟩])
    (.keep [4] (.keep [4] .ret)))
    (.seq (.reg [⟨(some 10), none, (.p .mv), [(.t 0)], none⟩,
      ⟨(some 11), none, (.p (.bin .lss)), [(.t 10), (.c (.int .i64 (.ofNat 0)))], none⟩,
      ⟨(some 12), none, (.p .mv), [(.t 11)], none⟩,
      ⟨(some 13), some (12, true), (.p .mv), [(.t 1)], none⟩,
      ⟨(some 14), some (12, true), (.p .mv), [(.t 0)], none⟩,
      ⟨(some 15), some (12, true), (.p (.bin .add)), [(.c (.int .i64 (.ofNat 9223372036854775807))), (.t 14)], none⟩,
      ⟨(some 16), some (12, true), (.p (.bin .gtr)), [(.t 13), (.t 15)], none⟩,
      ⟨(some 17), none, (.p .pick), [(.t 12), (.t 16), (.c (.bool false))], none⟩,
      ⟨(some 9), none, (.p .mv), [(.t 17)], none⟩])
    (.keep [0, 1, 9] (.cond (.t 9)
     (.seq (.reg [⟨(some 4), none, (.p .mv), [(.c (.int .i64 (.ofNat 9223372036854775807)))], none⟩])
     (.keep [4] (.keep [4] .ret)))
     .skip)))))))
  (.keep [0, 1] (.seq (.reg [⟨(some 18), none, (.p .mv), [(.t 1)], none⟩,
    ⟨(some 19), none, (.p .mv), [(.t 0)], none⟩,
    ⟨(some 20), none, (.p (.bin .sub)), [(.t 18), (.t 19)], none⟩,
    ⟨(some 4), none, (.p .mv), [(.t 20)], none⟩])
  (.keep [4] (.keep [4] .ret))))))),
  [(.t 4)]⟩
def s81 (call : CallK) (N : Nat) (a0 a1 : V) (H : Heap) (τ : Tape) (q : KV) : Ans :=
  binK .leq a1 a0 fun v0 =>
  condK v0
    (q (.int .i64 (.ofNat 0)) H τ)
    (binK .lss a0 (.int .i64 (.ofNat 0)) fun v1 =>
  gK v1 true (fun q' => q' a1 H τ) H τ fun v2 H3 τ4 =>
  gK v1 true (fun q' => q' a0 H3 τ4) H3 τ4 fun v5 H6 τ7 =>
  gK v1 true (fun q' => binK .add (.int .i64 (.ofNat 9223372036854775807)) v5 fun v => q' v H6 τ7) H6 τ7 fun v8 H9 τ10 =>
  gK v1 true (fun q' => binK .gtr v2 v8 fun v => q' v H9 τ10) H9 τ10 fun v11 H12 τ13 =>
  someK (pPick [v1, v11, (.bool false)]) fun v14 =>
  condK v14
    (q (.int .i64 (.ofNat 9223372036854775807)) H12 τ13)
    (binK .sub a1 a0 fun v15 =>
  q v15 H12 τ13))
theorem s81_eq (call : CallK) (N : Nat) (a0 a1 : V) (H : Heap) (τ : Tape) (q : KV) : s81 call N a0 a1 H τ q = funK call N fn81 [a0, a1] H τ q := by kernel_rfl
def e81 (call : CallK) (N : Nat) (vs : List V) (H : Heap) (τ : Tape) (q : KV) : Ans := match vs with | [a0, a1] => s81 call N a0 a1 H τ q | _ => none
theorem e81_ok : EntOk fn81 e81 := by
  intro call N vs H τ q r h
  unfold e81 at h
  split at h
  · rw [s81_eq] at h; exact h
  · cases h
theorem e81_nat : EntNat e81 := by
  intro c hn N vs H τ q
  unfold e81
  split
  · rw [s81_eq, s81_eq]; exact funK_ent hn _ _ _ _ _ _
  · rfl
/-- ostiary/headers.Split -/
def fn91 : Fun := ⟨2,
  (.seq (.reg [⟨(some 4), none, (.p .mv), [(.c .nils)], none⟩,
    ⟨(some 5), none, (.p .mv), [(.c (.bool false))], none⟩])
  (.keep [0, 1] (.seq (.reg [⟨(some 13), none, (.p .mv), [(.t 0)], none⟩,
    ⟨(some 14), none, (.p .mv), [(.t 1)], none⟩,
    ⟨(some 15), none, (.call 78), [(.t 13), (.t 14)], none⟩,
    ⟨(some 12), none, (.p .mv), [(.t 15)], none⟩,
    ⟨(some 16), none, (.p (.extract 0)), [(.t 12)], none⟩,
    ⟨(some 17), none, (.p (.extract 1)), [(.t 12)], none⟩,
    ⟨(some 6), none, (.p .mv), [(.t 16)], none⟩,
    ⟨(some 7), none, (.p .mv), [(.t 17)], none⟩])
  (.keep [6, 7] (.seq (.seq (.reg [⟨(some 18), none, (.p .mv), [(.t 7)], none⟩,
    ⟨(some 19), none, (.p (.un .not)), [(.t 18)], none⟩])
  (.keep [6, 19] (.cond (.t 19)
   (.seq (.reg [⟨(some 4), none, (.p .mv), [(.c .nils)], none⟩,
     ⟨(some 5), none, (.p .mv), [(.c (.bool false))], none⟩])
   (.keep [4, 5] (.keep [4, 5] .ret)))
   .skip)))
  (.keep [6] (.seq (.reg [⟨(some 8), none, (.p .mv), [(.c .nils)], none⟩])
  (.keep [6, 8] (.seq (.reg [⟨(some 9), none, (.p .mv), [(.c (.bool false))], none⟩,
    ⟨(some 10), none, (.p .mv), [(.c (.int .i64 (.ofNat 0)))], none⟩])
  (.keep [6, 8, 9, 10] (.seq (.seq (.reg [⟨(some 11), none, (.p .mv), [(.c (.int .i64 (.ofNat 0)))], none⟩])
  (.keep [6, 8, 9, 10, 11] (.block 0
   (.loop
    (.keep [6, 8, 9, 10, 11] (.seq (.seq (.reg [⟨(some 20), none, (.p .mv), [(.t 11)], none⟩,
      ⟨(some 21), none, (.p .mv), [(.t 6)], none⟩,
      ⟨(some 22), none, (.p .lenS), [(.t 21)], none⟩,
      ⟨(some 23), none, (.p (.bin .lss)), [(.t 20), (.t 22)], none⟩])
    (.keep [6, 8, 9, 10, 11, 23] (.cond (.t 23)
     .skip
     (.keep [6, 8, 10] (.exit 0)))))
    (.keep [6, 8, 9, 10, 11] (.seq (.block 1
     (.block 2
      (.seq (.reg [⟨(some 27), none, (.p .mv), [(.t 6)], none⟩,
        ⟨(some 28), none, (.p .mv), [(.t 11)], none⟩,
        ⟨(some 29), none, (.p .strIndex), [(.t 27), (.t 28)], none⟩,
        ⟨(some 30), none, (.p (.bin .eql)), [(.t 29), (.c (.int .u8 (.ofNat 34)))], none⟩,
        ⟨(some 26), none, (.p .mv), [(.t 30)], none⟩])
      (.keep [6, 8, 9, 10, 11, 26] (.cond (.t 26)
       (.reg [⟨(some 31), none, (.p .mv), [(.t 9)], none⟩,
         ⟨(some 32), none, (.p (.un .not)), [(.t 31)], none⟩,
         ⟨(some 9), none, (.p .mv), [(.t 32)], none⟩])
       (.seq (.reg [⟨(some 34), none, (.p .mv), [(.t 9)], none⟩,
         ⟨(some 35), none, (.p .mv), [(.t 34)], none⟩,
         ⟨(some 36), some (35, true), (.p .mv), [(.t 6)], none⟩,
         ⟨(some 37), some (35, true), (.p .mv), [(.t 11)], none⟩,
         ⟨(some 38), some (35, true), (.p .strIndex), [(.t 36), (.t 37)], none⟩,
         ⟨(some 39), some (35, true), (.p (.bin .eql)), [(.t 38), (.c (.int .u8 (.ofNat 92)))], none⟩,
         ⟨(some 40), none, (.p .pick), [(.t 35), (.t 39), (.c (.bool false))], none⟩,
         ⟨(some 33), none, (.p .mv), [(.t 40)], none⟩])
       (.keep [6, 8, 9, 10, 11, 33] (.cond (.t 33)
        (.reg [⟨(some 41), none, (.p .mv), [(.t 11)], none⟩,
          ⟨(some 42), none, (.p (.bin .add)), [(.t 41), (.c (.int .i64 (.ofNat 1)))], none⟩,
          ⟨(some 11), none, (.p .mv), [(.t 42)], none⟩])
        (.seq (.reg [⟨(some 44), none, (.p .mv), [(.t 9)], none⟩,
          ⟨(some 45), none, (.p (.un .not)), [(.t 44)], none⟩,
          ⟨(some 46), none, (.p .mv), [(.t 45)], none⟩,
          ⟨(some 47), some (46, true), (.p .mv), [(.t 6)], none⟩,
          ⟨(some 48), some (46, true), (.p .mv), [(.t 11)], none⟩,
          ⟨(some 49), some (46, true), (.p .strIndex), [(.t 47), (.t 48)], none⟩,
          ⟨(some 50), some (46, true), (.p (.bin .eql)), [(.t 49), (.c (.int .u8 (.ofNat 44)))], none⟩,
          ⟨(some 51), none, (.p .pick), [(.t 46), (.t 50), (.c (.bool false))], none⟩,
          ⟨(some 43), none, (.p .mv), [(.t 51)], none⟩])
        (.keep [6, 8, 9, 10, 11, 43] (.cond (.t 43)
         (.seq (.reg [⟨(some 52), none, (.p .mv), [(.t 8)], none⟩,
           ⟨(some 53), none, (.p .mv), [(.t 6)], none⟩,
           ⟨(some 54), none, (.p .mv), [(.t 10)], none⟩,
           ⟨(some 55), none, (.p .mv), [(.t 11)], none⟩,
           ⟨(some 56), none, (.p (.strSlice true true)), [(.t 53), (.t 54), (.t 55)], none⟩,
           ⟨(some 57), none, (.call 114), [(.t 56), (.c (.str (bs [9, 32])))], none⟩,
           ⟨(some 58), none, (.e (.buildSlice 1 1 [(.str [])] [(0, 1)])), [(.t 57)], none⟩,
           ⟨(some 59), none, (.e (.append 1 16)), [(.t 52), (.t 58)], none⟩,
           ⟨(some 8), none, (.p .mv), [(.t 59)], none⟩])
         (.keep [6, 8, 9, 11] (.reg [⟨(some 60), none, (.p .mv), [(.t 11)], none⟩,
           ⟨(some 61), none, (.p (.bin .add)), [(.t 60), (.c (.int .i64 (.ofNat 1)))], none⟩,
           ⟨(some 10), none, (.p .mv), [(.t 61)], none⟩])))
         .skip)))))))))))
    (.keep [6, 8, 9, 10, 11] (.reg [⟨(some 24), none, (.p .mv), [(.t 11)], none⟩,
      ⟨(some 25), none, (.p (.bin .add)), [(.t 24), (.c (.int .i64 (.ofNat 1)))], none⟩,
      ⟨(some 11), none, (.p .mv), [(.t 25)], none⟩]))))))))))
  (.keep [6, 8, 10] (.seq (.reg [⟨(some 62), none, (.p .mv), [(.t 8)], none⟩,
    ⟨(some 63), none, (.p .mv), [(.t 6)], none⟩,
    ⟨(some 64), none, (.p .mv), [(.t 10)], none⟩,
    ⟨(some 65), none, (.p (.strSlice true false)), [(.t 63), (.t 64)], none⟩,
    ⟨(some 66), none, (.call 114), [(.t 65), (.c (.str (bs [9, 32])))], none⟩,
    ⟨(some 67), none, (.e (.buildSlice 1 1 [(.str [])] [(0, 1)])), [(.t 66)], none⟩,
    ⟨(some 68), none, (.e (.append 1 16)), [(.t 62), (.t 67)], none⟩,
    ⟨(some 4), none, (.p .mv), [(.t 68)], none⟩,
    ⟨(some 5), none, (.p .mv), [(.c (.bool true))], none⟩])
  (.keep [4, 5] (.keep [4, 5] .ret))))))))))))))),
  [(.t 4), (.t 5)]⟩
def s91_j0 (call : CallK) (N : Nat) (q : KV) (st : St) (τ : Tape) : Ans :=
  match st with
  | ⟨fr, H⟩ =>
  getK fr 6 fun t6 =>
  getK fr 8 fun t8 =>
  getK fr 10 fun t10 =>
  someK (pStrSlice true false [t6, t10]) fun v6 =>
  call 114 [v6, (.str (bs [9, 32]))] H τ fun v7 H8 τ9 =>
  effK (eBuildSlice 1 1 [(.str [])] [(0, 1)] [v7] H8 τ9) fun v10 H11 τ12 =>
  effK (eAppend 1 16 [t8, v10] H11 τ12) fun v13 H14 τ15 =>
  q (.tup [v13, (.bool true)]) H14 τ15
def s91_j2 (call : CallK) (N : Nat) (k : KC) (st : St) (τ : Tape) : Ans :=
  match st with
  | ⟨fr, H⟩ =>
  getK fr 6 fun t6 =>
  getK fr 8 fun t8 =>
  getK fr 9 fun t9 =>
  getK fr 10 fun t10 =>
  getK fr 11 fun t11 =>
  binK .add t11 (.int .i64 (.ofNat 1)) fun v18 =>
  k .normal ⟨(T.set (T.set (T.set (T.set (T.set (T.set (T.set (T.set .leaf 6 t6) 8 t8) 9 t9) 10 t10) 11 t11) 24 t11) 25 v18) 11 v18), H⟩ τ
def s91_l1 (call : CallK) (N : Nat) (st : St) (τ : Tape) (k : KC) : Ans :=
  match st with
  | ⟨fr, H⟩ =>
  getK fr 6 fun t6 =>
  getK fr 8 fun t8 =>
  getK fr 9 fun t9 =>
  getK fr 10 fun t10 =>
  getK fr 11 fun t11 =>
  someK (pLenS [t6]) fun v16 =>
  binK .lss t11 v16 fun v17 =>
  condK v17
    (someK (pStrIndex [t6, t11]) fun v19 =>
  binK .eql v19 (.int .u8 (.ofNat 34)) fun v20 =>
  condK v20
    (unK .not t9 fun v21 =>
  s91_j2 call N k ⟨(T.set (T.set (T.set (T.set (T.set (T.set (T.set (T.set (T.set .leaf 6 t6) 8 t8) 9 t9) 10 t10) 11 t11) 26 v20) 31 t9) 32 v21) 9 v21), H⟩ τ)
    (gK t9 true (fun q' => q' t6 H τ) H τ fun v22 H23 τ24 =>
  gK t9 true (fun q' => q' t11 H23 τ24) H23 τ24 fun v25 H26 τ27 =>
  gK t9 true (fun q' => someK (pStrIndex [v22, v25]) fun v => q' v H26 τ27) H26 τ27 fun v28 H29 τ30 =>
  gK t9 true (fun q' => binK .eql v28 (.int .u8 (.ofNat 92)) fun v => q' v H29 τ30) H29 τ30 fun v31 H32 τ33 =>
  someK (pPick [t9, v31, (.bool false)]) fun v34 =>
  condK v34
    (binK .add t11 (.int .i64 (.ofNat 1)) fun v35 =>
  s91_j2 call N k ⟨(T.set (T.set (T.set (T.set (T.set (T.set (T.set (T.set (T.set .leaf 6 t6) 8 t8) 9 t9) 10 t10) 11 t11) 33 v34) 41 t11) 42 v35) 11 v35), H32⟩ τ33)
    (unK .not t9 fun v36 =>
  gK v36 true (fun q' => q' t6 H32 τ33) H32 τ33 fun v37 H38 τ39 =>
  gK v36 true (fun q' => q' t11 H38 τ39) H38 τ39 fun v40 H41 τ42 =>
  gK v36 true (fun q' => someK (pStrIndex [v37, v40]) fun v => q' v H41 τ42) H41 τ42 fun v43 H44 τ45 =>
  gK v36 true (fun q' => binK .eql v43 (.int .u8 (.ofNat 44)) fun v => q' v H44 τ45) H44 τ45 fun v46 H47 τ48 =>
  someK (pPick [v36, v46, (.bool false)]) fun v49 =>
  condK v49
    (someK (pStrSlice true true [t6, t10, t11]) fun v50 =>
  call 114 [v50, (.str (bs [9, 32]))] H47 τ48 fun v51 H52 τ53 =>
  effK (eBuildSlice 1 1 [(.str [])] [(0, 1)] [v51] H52 τ53) fun v54 H55 τ56 =>
  effK (eAppend 1 16 [t8, v54] H55 τ56) fun v57 H58 τ59 =>
  binK .add t11 (.int .i64 (.ofNat 1)) fun v60 =>
  s91_j2 call N k ⟨(T.set (T.set (T.set (T.set (T.set (T.set (T.set .leaf 6 t6) 8 v57) 9 t9) 11 t11) 60 t11) 61 v60) 10 v60), H58⟩ τ59)
    (s91_j2 call N k ⟨(T.set (T.set (T.set (T.set (T.set (T.set .leaf 6 t6) 8 t8) 9 t9) 10 t10) 11 t11) 43 v49), H47⟩ τ48))))
    (k (.exit 0) ⟨(T.set (T.set (T.set .leaf 6 t6) 8 t8) 10 t10), H⟩ τ)
def s91 (call : CallK) (N : Nat) (a0 a1 : V) (H : Heap) (τ : Tape) (q : KV) : Ans :=
  call 78 [a0, a1] H τ fun v0 H1 τ2 =>
  someK (pExtract 0 [v0]) fun v3 =>
  someK (pExtract 1 [v0]) fun v4 =>
  unK .not v4 fun v5 =>
  condK v5
    (q (.tup [.nils, (.bool false)]) H1 τ2)
    (loopK (s91_l1 call N) N ⟨(T.set (T.set (T.set (T.set (T.set .leaf 6 v3) 8 .nils) 9 (.bool false)) 10 (.int .i64 (.ofNat 0))) 11 (.int .i64 (.ofNat 0))), H1⟩ τ2 (blockK 0 (seqK (s91_j0 call N q) (endK [(.t 4), (.t 5)] q))))
theorem s91_eq (call : CallK) (N : Nat) (a0 a1 : V) (H : Heap) (τ : Tape) (q : KV) : s91 call N a0 a1 H τ q = funK call N fn91 [a0, a1] H τ q := by kernel_rfl
def e91 (call : CallK) (N : Nat) (vs : List V) (H : Heap) (τ : Tape) (q : KV) : Ans := match vs with | [a0, a1] => s91 call N a0 a1 H τ q | _ => none
theorem e91_ok : EntOk fn91 e91 := by
  intro call N vs H τ q r h
  unfold e91 at h
  split at h
  · rw [s91_eq] at h; exact h
  · cases h
theorem e91_nat : EntNat e91 := by
  intro c hn N vs H τ q
  unfold e91
  split
  · rw [s91_eq, s91_eq]; exact funK_ent hn _ _ _ _ _ _
  · rfl
/-- ostiary/infra.Lower -/
def fn92 : Fun := ⟨1,
  (.seq (.reg [⟨(some 2), none, (.p .mv), [(.c (.str []))], none⟩])
  (.keep [0] (.seq (.reg [⟨(some 3), none, (.p .mv), [(.t 0)], none⟩,
    ⟨(some 4), none, (.call 120), [(.t 3), (.c (.func 121 [] []))], none⟩,
    ⟨(some 2), none, (.p .mv), [(.t 4)], none⟩])
  (.keep [2] (.keep [2] .ret))))),
  [(.t 2)]⟩
def s92 (call : CallK) (N : Nat) (a0 : V) (H : Heap) (τ : Tape) (q : KV) : Ans :=
  call 120 [a0, (.func 121 [] [])] H τ fun v0 H1 τ2 =>
  q v0 H1 τ2
theorem s92_eq (call : CallK) (N : Nat) (a0 : V) (H : Heap) (τ : Tape) (q : KV) : s92 call N a0 H τ q = funK call N fn92 [a0] H τ q := by kernel_rfl
def e92 (call : CallK) (N : Nat) (vs : List V) (H : Heap) (τ : Tape) (q : KV) : Ans := match vs with | [a0] => s92 call N a0 H τ q | _ => none
theorem e92_ok : EntOk fn92 e92 := by
  intro call N vs H τ q r h
  unfold e92 at h
  split at h
  · rw [s92_eq] at h; exact h
  · cases h
theorem e92_nat : EntNat e92 := by
  intro c hn N vs H τ q
  unfold e92
  split
  · rw [s92_eq, s92_eq]; exact funK_ent hn _ _ _ _ _ _
  · rfl
/-- ostiary/age.piece -/
def fn95 : Fun := ⟨1,
  (.seq (.reg [⟨(some 2), none, (.p .mv), [(.c (.str []))], none⟩,
    ⟨(some 3), none, (.p .mv), [(.c (.str []))], none⟩])
  (.keep [0] (.seq (.reg [⟨(some 8), none, (.p .mv), [(.t 0)], none⟩,
    ⟨(some 9), none, (.call 62), [(.t 8), (.c (.str (bs [61])))], none⟩,
    ⟨(some 7), none, (.p .mv), [(.t 9)], none⟩,
    ⟨(some 10), none, (.p (.extract 0)), [(.t 7)], none⟩,
    ⟨(some 11), none, (.p (.extract 1)), [(.t 7)], none⟩,
    ⟨(some 12), none, (.p (.extract 2)), [(.t 7)], none⟩,
    ⟨(some 4), none, (.p .mv), [(.t 10)], none⟩,
    ⟨(some 5), none, (.p .mv), [(.t 11)], none⟩,
    ⟨(some 6), none, (.p .mv), [(.t 12)], none⟩])
  (.keep [4, 5] (.seq (.reg [⟨(some 13), none, (.p .mv), [(.t 5)], none⟩,
    ⟨(some 14), none, (.call 80), [(.t 13)], none⟩,
    ⟨(some 5), none, (.p .mv), [(.t 14)], none⟩])
  (.keep [4, 5] (.seq (.seq (.reg [⟨(some 15), none, (.p .mv), [(.t 5)], none⟩,
    ⟨(some 16), none, (.p .lenS), [(.t 15)], none⟩,
    ⟨(some 17), none, (.p (.bin .gtr)), [(.t 16), (.c (.int .i64 (.ofNat 1)))], none⟩,
    ⟨(some 18), none, (.p .mv), [(.t 17)], none⟩,
    ⟨(some 19), some (18, true), (.p .mv), [(.t 5)], none⟩,
    ⟨(some 20), some (18, true), (.p .strIndex), [(.t 19), (.c (.int .i64 (.ofNat 0)))], none⟩,
    ⟨(some 21), some (18, true), (.p (.bin .eql)), [(.t 20), (.c (.int .u8 (.ofNat 34)))], none⟩,
    ⟨(some 22), none, (.p .pick), [(.t 18), (.t 21), (.c (.bool false))], none⟩,
    ⟨(some 23), none, (.p .mv), [(.t 22)], none⟩,
    ⟨(some 24), some (23, true), (.p .mv), [(.t 5)], none⟩,
    ⟨(some 25), some (23, true), (.p .mv), [(.t 5)], none⟩,
    ⟨(some 26), some (23, true), (.p .lenS), [(.t 25)], none⟩,
    ⟨(some 27), some (23, true), (.p (.bin .sub)), [(.t 26), (.c (.int .i64 (.ofNat 1)))], none⟩,
    ⟨(some 28), some (23, true), (.p .strIndex), [(.t 24), (.t 27)], none⟩,
    ⟨(some 29), some (23, true), (.p (.bin .eql)), [(.t 28), (.c (.int .u8 (.ofNat 34)))], none⟩,
    ⟨(some 30), none, (.p .pick), [(.t 23), (.t 29), (.c (.bool false))], none⟩])
  (.keep [4, 5, 30] (.cond (.t 30)
   (.reg [⟨(some 31), none, (.p .mv), [(.t 5)], none⟩,
     ⟨(some 32), none, (.p .mv), [(.t 5)], none⟩,
     ⟨(some 33), none, (.p .lenS), [(.t 32)], none⟩,
     ⟨(some 34), none, (.p (.bin .sub)), [(.t 33), (.c (.int .i64 (.ofNat 1)))], none⟩,
     ⟨(some 35), none, (.p (.strSlice true true)), [(.t 31), (.c (.int .i64 (.ofNat 1))), (.t 34)], none⟩,
     ⟨(some 5), none, (.p .mv), [(.t 35)], none⟩])
   .skip)))
  (.keep [4, 5] (.seq (.reg [⟨(some 36), none, (.p .mv), [(.t 4)], none⟩,
    ⟨(some 37), none, (.call 80), [(.t 36)], none⟩,
    ⟨(some 38), none, (.call 92), [(.t 37)], none⟩,
    ⟨(some 39), none, (.p .mv), [(.t 5)], none⟩,
    ⟨(some 2), none, (.p .mv), [(.t 38)], none⟩,
    ⟨(some 3), none, (.p .mv), [(.t 39)], none⟩])
  (.keep [2, 3] (.keep [2, 3] .ret))))))))))),
  [(.t 2), (.t 3)]⟩
def s95_j0 (call : CallK) (N : Nat) (q : KV) (st : St) (τ : Tape) : Ans :=
  match st with
  | ⟨fr, H⟩ =>
  getK fr 4 fun t4 =>
  getK fr 5 fun t5 =>
  call 80 [t4] H τ fun v40 H41 τ42 =>
  call 92 [v40] H41 τ42 fun v43 H44 τ45 =>
  q (.tup [v43, t5]) H44 τ45
def s95 (call : CallK) (N : Nat) (a0 : V) (H : Heap) (τ : Tape) (q : KV) : Ans :=
  call 62 [a0, (.str (bs [61]))] H τ fun v0 H1 τ2 =>
  someK (pExtract 0 [v0]) fun v3 =>
  someK (pExtract 1 [v0]) fun v4 =>
  someK (pExtract 2 [v0]) fun v5 =>
  call 80 [v4] H1 τ2 fun v6 H7 τ8 =>
  someK (pLenS [v6]) fun v9 =>
  binK .gtr v9 (.int .i64 (.ofNat 1)) fun v10 =>
  gK v10 true (fun q' => q' v6 H7 τ8) H7 τ8 fun v11 H12 τ13 =>
  gK v10 true (fun q' => someK (pStrIndex [v11, (.int .i64 (.ofNat 0))]) fun v => q' v H12 τ13) H12 τ13 fun v14 H15 τ16 =>
  gK v10 true (fun q' => binK .eql v14 (.int .u8 (.ofNat 34)) fun v => q' v H15 τ16) H15 τ16 fun v17 H18 τ19 =>
  someK (pPick [v10, v17, (.bool false)]) fun v20 =>
  gK v20 true (fun q' => q' v6 H18 τ19) H18 τ19 fun v21 H22 τ23 =>
  gK v20 true (fun q' => q' v6 H22 τ23) H22 τ23 fun v24 H25 τ26 =>
  gK v20 true (fun q' => someK (pLenS [v24]) fun v => q' v H25 τ26) H25 τ26 fun v27 H28 τ29 =>
  gK v20 true (fun q' => binK .sub v27 (.int .i64 (.ofNat 1)) fun v => q' v H28 τ29) H28 τ29 fun v30 H31 τ32 =>
  gK v20 true (fun q' => someK (pStrIndex [v21, v30]) fun v => q' v H31 τ32) H31 τ32 fun v33 H34 τ35 =>
  gK v20 true (fun q' => binK .eql v33 (.int .u8 (.ofNat 34)) fun v => q' v H34 τ35) H34 τ35 fun v36 H37 τ38 =>
  someK (pPick [v20, v36, (.bool false)]) fun v39 =>
  condK v39
    (someK (pLenS [v6]) fun v46 =>
  binK .sub v46 (.int .i64 (.ofNat 1)) fun v47 =>
  someK (pStrSlice true true [v6, (.int .i64 (.ofNat 1)), v47]) fun v48 =>
  s95_j0 call N q ⟨(T.set (T.set (T.set (T.set (T.set (T.set (T.set (T.set (T.set .leaf 4 v3) 5 v6) 30 v39) 31 v6) 32 v6) 33 v46) 34 v47) 35 v48) 5 v48), H37⟩ τ38)
    (s95_j0 call N q ⟨(T.set (T.set (T.set .leaf 4 v3) 5 v6) 30 v39), H37⟩ τ38)
theorem s95_eq (call : CallK) (N : Nat) (a0 : V) (H : Heap) (τ : Tape) (q : KV) : s95 call N a0 H τ q = funK call N fn95 [a0] H τ q := by kernel_rfl
def e95 (call : CallK) (N : Nat) (vs : List V) (H : Heap) (τ : Tape) (q : KV) : Ans := match vs with | [a0] => s95 call N a0 H τ q | _ => none
theorem e95_ok : EntOk fn95 e95 := by
  intro call N vs H τ q r h
  unfold e95 at h
  split at h
  · rw [s95_eq] at h; exact h
  · cases h
theorem e95_nat : EntNat e95 := by
  intro c hn N vs H τ q
  unfold e95
  split
  · rw [s95_eq, s95_eq]; exact funK_ent hn _ _ _ _ _ _
  · rfl
/-- strings.IndexRune -/
def fn102 : Fun := ⟨2,
  (.seq (.reg [⟨(some 4), none, (.p .mv), [(.c (.int .i64 (.ofNat 0)))], none⟩])
  (.keep [0, 1] (.block 0
   (.seq (.reg [⟨(some 161), none, (.p .mv), [(.t 1)], none⟩,
     ⟨(some 162), none, (.p (.bin .leq)), [(.c (.int .i32 (.ofNat 0))), (.t 161)], none⟩,
     ⟨(some 163), none, (.p .mv), [(.t 162)], none⟩,
     ⟨(some 164), some (163, true), (.p .mv), [(.t 1)], none⟩,
     ⟨(some 165), some (163, true), (.p (.bin .lss)), [(.t 164), (.c (.int .i32 (.ofNat 128)))], none⟩,
     ⟨(some 166), none, (.p .pick), [(.t 163), (.t 165), (.c (.bool false))], none⟩,
     ⟨(some 160), none, (.p .mv), [(.t 166)], none⟩])
   (.keep [0, 1, 160] (.cond (.t 160)
    (.seq (.reg [⟨(some 167), none, (.p .mv), [(.t 0)], none⟩,
      ⟨(some 168), none, (.p .mv), [(.t 1)], none⟩,
      ⟨(some 169), none, (.p (.toInt .u8)), [(.t 168)], none⟩,
      ⟨(some 170), none, (.call 105), [(.t 167), (.t 169)], none⟩,
      ⟨(some 4), none, (.p .mv), [(.t 170)], none⟩])
    (.keep [4] (.keep [4] .ret)))
    (.seq (.reg [⟨(some 172), none, (.p .mv), [(.t 1)], none⟩,
      ⟨(some 173), none, (.p (.bin .eql)), [(.t 172), (.c (.int .i32 (.ofNat 65533)))], none⟩,
      ⟨(some 171), none, (.p .mv), [(.t 173)], none⟩])
    (.keep [0, 1, 171] (.cond (.t 171)
     (.seq (.seq (.reg [⟨(some 174), none, (.p .mv), [(.t 0)], none⟩,
       ⟨(some 175), none, (.e .range), [(.t 174)], none⟩])
     (.keep [175] (.block 9
      (.loop
       (.keep [175] (.seq (.reg [⟨(some 176), none, (.e .next), [(.t 175)], none⟩,
         ⟨(some 177), none, (.p (.extract 0)), [(.t 176)], none⟩])
       (.keep [175, 176, 177] (.seq (.cond (.t 177)
        .skip
        (.keep [] (.exit 9)))
       (.keep [175, 176] (.block 10
        (.seq (.reg [⟨(some 178), none, (.p (.extract 1)), [(.t 176)], none⟩,
          ⟨(some 179), none, (.p (.extract 2)), [(.t 176)], none⟩,
          ⟨(some 5), none, (.p .mv), [(.t 178)], none⟩,
          ⟨(some 6), none, (.p .mv), [(.t 179)], none⟩])
        (.keep [5, 6, 175] (.seq (.reg [⟨(some 180), none, (.p .mv), [(.t 6)], none⟩,
          ⟨(some 181), none, (.p (.bin .eql)), [(.t 180), (.c (.int .i32 (.ofNat 65533)))], none⟩])
        (.keep [5, 175, 181] (.cond (.t 181)
         (.seq (.reg [⟨(some 182), none, (.p .mv), [(.t 5)], none⟩,
           ⟨(some 4), none, (.p .mv), [(.t 182)], none⟩])
         (.keep [4] (.keep [4] .ret)))
         .skip)))))))))))))))
     (.keep [] (.seq (.reg [⟨(some 4), none, (.p .mv), [(.c (.int .i64 (.negSucc 0)))], none⟩])
     (.keep [4] (.keep [4] .ret)))))
     (.seq (.reg [⟨(some 184), none, (.p .mv), [(.t 1)], none⟩,
       ⟨(some 185), none, (.call 127), [(.t 184)], none⟩,
       ⟨(some 186), none, (.p (.un .not)), [(.t 185)], none⟩,
       ⟨(some 183), none, (.p .mv), [(.t 186)], none⟩])
     (.keep [0, 1, 183] (.cond (.t 183)
      (.seq (.reg [⟨(some 4), none, (.p .mv), [(.c (.int .i64 (.negSucc 0)))], none⟩])
      (.keep [4] (.keep [4] .ret)))
      (.scope (.seq (.reg [⟨(some 17), none, (.p .mv), [(.t 1)], none⟩,
        ⟨(some 18), none, (.p .runeStr), [(.t 17)], none⟩,
        ⟨(some 7), none, (.p .mv), [(.t 18)], none⟩])
      (.keep [0, 7] (.seq (.reg [⟨(some 19), none, (.p .mv), [(.t 7)], none⟩,
        ⟨(some 20), none, (.p .lenS), [(.t 19)], none⟩,
        ⟨(some 21), none, (.p (.bin .sub)), [(.t 20), (.c (.int .i64 (.ofNat 1)))], none⟩,
        ⟨(some 8), none, (.p .mv), [(.t 21)], none⟩])
      (.keep [0, 7, 8] (.seq (.reg [⟨(some 22), none, (.p .mv), [(.t 8)], none⟩,
        ⟨(some 9), none, (.p .mv), [(.t 22)], none⟩])
      (.keep [0, 7, 8, 9] (.seq (.reg [⟨(some 10), none, (.p .mv), [(.c (.int .i64 (.ofNat 0)))], none⟩])
      (.keep [0, 7, 8, 9] (.seq (.block 1
       (.loop
        (.keep [0, 7, 8, 9] (.seq (.seq (.reg [⟨(some 23), none, (.p .mv), [(.t 9)], none⟩,
          ⟨(some 24), none, (.p .mv), [(.t 0)], none⟩,
          ⟨(some 25), none, (.p .lenS), [(.t 24)], none⟩,
          ⟨(some 26), none, (.p (.bin .lss)), [(.t 23), (.t 25)], none⟩])
        (.keep [0, 7, 8, 9, 26] (.cond (.t 26)
         .skip
         (.keep [] (.exit 1)))))
        (.keep [0, 7, 8, 9] (.block 2
         (.scope (.seq (.seq (.draw [⟨(some 27), none, (.p .mv), [(.t 0)], none⟩,
           ⟨(some 28), none, (.p .mv), [(.t 9)], none⟩,
           ⟨(some 29), none, (.p .strIndex), [(.t 27), (.t 28)], none⟩,
           ⟨(some 30), none, (.p .mv), [(.t 7)], none⟩,
           ⟨(some 31), none, (.p .mv), [(.t 8)], none⟩,
           ⟨(some 32), none, (.p .strIndex), [(.t 30), (.t 31)], none⟩,
           ⟨(some 33), none, (.p (.bin .neq)), [(.t 29), (.t 32)], none⟩])
         (.keep [0, 7, 8, 9, 33] (.cond (.t 33)
          (.seq (.draw [⟨(some 34), none, (.p .mv), [(.t 0)], none⟩,
            ⟨(some 35), none, (.p .mv), [(.t 9)], none⟩,
            ⟨(some 36), none, (.p (.bin .add)), [(.t 35), (.c (.int .i64 (.ofNat 1)))], none⟩,
            ⟨(some 37), none, (.p (.strSlice true false)), [(.t 34), (.t 36)], none⟩,
            ⟨(some 38), none, (.p .mv), [(.t 7)], none⟩,
            ⟨(some 39), none, (.p .mv), [(.t 8)], none⟩,
            ⟨(some 40), none, (.p .strIndex), [(.t 38), (.t 39)], none⟩,
            ⟨(some 41), none, (.call 105), [(.t 37), (.t 40)], none⟩,
            ⟨(some 11), none, (.p .mv), [(.t 41)], none⟩])
          (.keep [0, 7, 8, 9, 11] (.seq (.seq (.reg [⟨(some 42), none, (.p .mv), [(.t 11)], none⟩,
            ⟨(some 43), none, (.p (.bin .lss)), [(.t 42), (.c (.int .i64 (.ofNat 0)))], none⟩])
          (.keep [0, 7, 8, 9, 11, 43] (.cond (.t 43)
           (.seq (.reg [⟨(some 4), none, (.p .mv), [(.c (.int .i64 (.negSucc 0)))], none⟩])
           (.keep [4] (.keep [4] .ret)))
           .skip)))
          (.keep [0, 7, 8, 9, 11] (.reg [⟨(some 44), none, (.p .mv), [(.t 9)], none⟩,
            ⟨(some 45), none, (.p .mv), [(.t 11)], none⟩,
            ⟨(some 46), none, (.p (.bin .add)), [(.t 45), (.c (.int .i64 (.ofNat 1)))], none⟩,
            ⟨(some 47), none, (.p (.bin .add)), [(.t 44), (.t 46)], none⟩,
            ⟨(some 9), none, (.p .mv), [(.t 47)], none⟩])))))
          .skip)))
         (.keep [0, 7, 8, 9] (.seq (.seq (.reg [⟨(some 12), none, (.p .mv), [(.c (.int .i64 (.ofNat 1)))], none⟩])
         (.keep [0, 7, 8, 9, 12] (.block 3
          (.loop
           (.keep [0, 7, 8, 9, 12] (.seq (.seq (.reg [⟨(some 48), none, (.p .mv), [(.t 12)], none⟩,
             ⟨(some 49), none, (.p .mv), [(.t 7)], none⟩,
             ⟨(some 50), none, (.p .lenS), [(.t 49)], none⟩,
             ⟨(some 51), none, (.p (.bin .lss)), [(.t 48), (.t 50)], none⟩])
           (.keep [0, 7, 8, 9, 12, 51] (.cond (.t 51)
            .skip
            (.keep [8, 9] (.exit 3)))))
           (.keep [0, 7, 8, 9, 12] (.seq (.block 4
            (.seq (.draw [⟨(some 54), none, (.p .mv), [(.t 0)], none⟩,
              ⟨(some 55), none, (.p .mv), [(.t 9)], none⟩,
              ⟨(some 56), none, (.p .mv), [(.t 12)], none⟩,
              ⟨(some 57), none, (.p (.bin .sub)), [(.t 55), (.t 56)], none⟩,
              ⟨(some 58), none, (.p .strIndex), [(.t 54), (.t 57)], none⟩,
              ⟨(some 59), none, (.p .mv), [(.t 7)], none⟩,
              ⟨(some 60), none, (.p .mv), [(.t 8)], none⟩,
              ⟨(some 61), none, (.p .mv), [(.t 12)], none⟩,
              ⟨(some 62), none, (.p (.bin .sub)), [(.t 60), (.t 61)], none⟩,
              ⟨(some 63), none, (.p .strIndex), [(.t 59), (.t 62)], none⟩,
              ⟨(some 64), none, (.p (.bin .neq)), [(.t 58), (.t 63)], none⟩])
            (.keep [0, 7, 8, 9, 12, 64] (.cond (.t 64)
             .bad
             .skip))))
           (.keep [0, 7, 8, 9, 12] (.reg [⟨(some 52), none, (.p .mv), [(.t 12)], none⟩,
             ⟨(some 53), none, (.p (.bin .add)), [(.t 52), (.c (.int .i64 (.ofNat 1)))], none⟩,
             ⟨(some 12), none, (.p .mv), [(.t 53)], none⟩]))))))))))
         (.keep [8, 9] (.seq (.seq (.reg [⟨(some 65), none, (.p .mv), [(.t 9)], none⟩,
           ⟨(some 66), none, (.p .mv), [(.t 8)], none⟩,
           ⟨(some 67), none, (.p (.bin .sub)), [(.t 65), (.t 66)], none⟩,
           ⟨(some 4), none, (.p .mv), [(.t 67)], none⟩])
         (.keep [4] (.keep [4] .ret)))
         (.keep [0, 7, 8, 9, 10] (.seq .skip
         (.keep [0, 7, 8, 9, 10] (.seq (.reg [⟨(some 68), none, (.p .mv), [(.t 10)], none⟩,
           ⟨(some 69), none, (.p (.bin .add)), [(.t 68), (.c (.int .i64 (.ofNat 1)))], none⟩,
           ⟨(some 10), none, (.p .mv), [(.t 69)], none⟩])
         (.keep [0, 7, 8, 9, 10] (.seq (.reg [⟨(some 70), none, (.p .mv), [(.t 9)], none⟩,
           ⟨(some 71), none, (.p (.bin .add)), [(.t 70), (.c (.int .i64 (.ofNat 1)))], none⟩,
           ⟨(some 9), none, (.p .mv), [(.t 71)], none⟩])
         (.keep [0, 7, 8, 9, 10] (.seq (.reg [⟨(some 72), none, (.p .mv), [(.c (.bool true))], none⟩,
           ⟨(some 73), some (72, true), (.p .mv), [(.t 10)], none⟩,
           ⟨(some 74), some (72, true), (.p .mv), [(.t 9)], none⟩,
           ⟨(some 75), some (72, true), (.call 128), [(.t 74)], none⟩,
           ⟨(some 76), some (72, true), (.p (.bin .gtr)), [(.t 73), (.t 75)], none⟩,
           ⟨(some 77), none, (.p .pick), [(.t 72), (.t 76), (.c (.bool false))], none⟩,
           ⟨(some 78), none, (.p .mv), [(.t 77)], none⟩,
           ⟨(some 79), some (78, true), (.p .mv), [(.t 9)], none⟩,
           ⟨(some 80), some (78, true), (.p .mv), [(.t 0)], none⟩,
           ⟨(some 81), some (78, true), (.p .lenS), [(.t 80)], none⟩,
           ⟨(some 82), some (78, true), (.p (.bin .lss)), [(.t 79), (.t 81)], none⟩,
           ⟨(some 83), none, (.p .pick), [(.t 78), (.t 82), (.c (.bool false))], none⟩,
           ⟨(some 84), none, (.p .mv), [(.t 83)], none⟩,
           ⟨(some 85), some (84, false), (.p .mv), [(.c (.bool false))], none⟩,
           ⟨(some 86), some (85, true), (.p .mv), [(.t 10)], none⟩,
           ⟨(some 87), some (85, true), (.p .mv), [(.t 9)], none⟩,
           ⟨(some 88), some (85, true), (.p (.bin .shr)), [(.t 87), (.c (.int .u64 (.ofNat 4)))], none⟩,
           ⟨(some 89), some (85, true), (.p (.bin .add)), [(.c (.int .i64 (.ofNat 4))), (.t 88)], none⟩,
           ⟨(some 90), some (85, true), (.p (.bin .geq)), [(.t 86), (.t 89)], none⟩,
           ⟨(some 91), some (84, false), (.p .pick), [(.t 85), (.t 90), (.c (.bool false))], none⟩,
           ⟨(some 92), some (84, false), (.p .mv), [(.t 91)], none⟩,
           ⟨(some 93), some (92, true), (.p .mv), [(.t 9)], none⟩,
           ⟨(some 94), some (92, true), (.p .mv), [(.t 0)], none⟩,
           ⟨(some 95), some (92, true), (.p .lenS), [(.t 94)], none⟩,
           ⟨(some 96), some (92, true), (.p (.bin .lss)), [(.t 93), (.t 95)], none⟩,
           ⟨(some 97), some (84, false), (.p .pick), [(.t 92), (.t 96), (.c (.bool false))], none⟩,
           ⟨(some 98), none, (.p .pick), [(.t 84), (.c (.bool true)), (.t 97)], none⟩])
         (.keep [0, 7, 8, 9, 98] (.cond (.t 98)
          .bad
          .skip))))))))))))))))))))))
      (.keep [] (.seq (.seq (.reg [⟨(some 4), none, (.p .mv), [(.c (.int .i64 (.negSucc 0)))], none⟩])
      (.keep [4] (.keep [4] .ret)))
      (.keep [0, 7, 8, 9] (.seq .skip
      (.keep [0, 7, 8, 9] (.seq (.cond (.c (.bool true))
       (.seq .bad
       (.keep [8, 9, 13] (.seq (.reg [⟨(some 107), none, (.p .mv), [(.t 13)], none⟩,
         ⟨(some 108), none, (.p (.bin .geq)), [(.t 107), (.c (.int .i64 (.ofNat 0)))], none⟩])
       (.keep [8, 9, 13, 108] (.cond (.t 108)
        (.seq (.reg [⟨(some 109), none, (.p .mv), [(.t 9)], none⟩,
          ⟨(some 110), none, (.p .mv), [(.t 13)], none⟩,
          ⟨(some 111), none, (.p (.bin .add)), [(.t 109), (.t 110)], none⟩,
          ⟨(some 112), none, (.p .mv), [(.t 8)], none⟩,
          ⟨(some 113), none, (.p (.bin .sub)), [(.t 111), (.t 112)], none⟩,
          ⟨(some 4), none, (.p .mv), [(.t 113)], none⟩])
        (.keep [4] (.keep [4] .ret)))
        .skip)))))
       (.scope (.seq (.reg [⟨(some 114), none, (.p .mv), [(.t 7)], none⟩,
         ⟨(some 115), none, (.p .mv), [(.t 8)], none⟩,
         ⟨(some 116), none, (.p .strIndex), [(.t 114), (.t 115)], none⟩,
         ⟨(some 14), none, (.p .mv), [(.t 116)], none⟩])
       (.keep [0, 7, 8, 9, 14] (.seq (.reg [⟨(some 117), none, (.p .mv), [(.t 7)], none⟩,
         ⟨(some 118), none, (.p .mv), [(.t 8)], none⟩,
         ⟨(some 119), none, (.p (.bin .sub)), [(.t 118), (.c (.int .i64 (.ofNat 1)))], none⟩,
         ⟨(some 120), none, (.p .strIndex), [(.t 117), (.t 119)], none⟩,
         ⟨(some 15), none, (.p .mv), [(.t 120)], none⟩])
       (.keep [0, 7, 8, 9, 14, 15] (.seq .skip
       (.keep [0, 7, 8, 9, 14, 15] (.block 5
        (.loop
         (.keep [0, 7, 8, 9, 14, 15] (.seq (.seq (.reg [⟨(some 121), none, (.p .mv), [(.t 9)], none⟩,
           ⟨(some 122), none, (.p .mv), [(.t 0)], none⟩,
           ⟨(some 123), none, (.p .lenS), [(.t 122)], none⟩,
           ⟨(some 124), none, (.p (.bin .lss)), [(.t 121), (.t 123)], none⟩])
         (.keep [0, 7, 8, 9, 14, 15, 124] (.cond (.t 124)
          .skip
          (.keep [] (.exit 5)))))
         (.keep [0, 7, 8, 9, 14, 15] (.seq (.block 6
          (.seq (.reg [⟨(some 127), none, (.p .mv), [(.t 0)], none⟩,
            ⟨(some 128), none, (.p .mv), [(.t 9)], none⟩,
            ⟨(some 129), none, (.p .strIndex), [(.t 127), (.t 128)], none⟩,
            ⟨(some 130), none, (.p .mv), [(.t 14)], none⟩,
            ⟨(some 131), none, (.p (.bin .eql)), [(.t 129), (.t 130)], none⟩,
            ⟨(some 132), none, (.p .mv), [(.t 131)], none⟩,
            ⟨(some 133), some (132, true), (.p .mv), [(.t 0)], none⟩,
            ⟨(some 134), some (132, true), (.p .mv), [(.t 9)], none⟩,
            ⟨(some 135), some (132, true), (.p (.bin .sub)), [(.t 134), (.c (.int .i64 (.ofNat 1)))], none⟩,
            ⟨(some 136), some (132, true), (.p .strIndex), [(.t 133), (.t 135)], none⟩,
            ⟨(some 137), some (132, true), (.p .mv), [(.t 15)], none⟩,
            ⟨(some 138), some (132, true), (.p (.bin .eql)), [(.t 136), (.t 137)], none⟩,
            ⟨(some 139), none, (.p .pick), [(.t 132), (.t 138), (.c (.bool false))], none⟩])
          (.keep [0, 7, 8, 9, 14, 15, 139] (.cond (.t 139)
           (.seq (.seq (.reg [⟨(some 16), none, (.p .mv), [(.c (.int .i64 (.ofNat 2)))], none⟩])
           (.keep [0, 7, 8, 9, 14, 15, 16] (.block 7
            (.loop
             (.keep [0, 7, 8, 9, 14, 15, 16] (.seq (.seq (.reg [⟨(some 140), none, (.p .mv), [(.t 16)], none⟩,
               ⟨(some 141), none, (.p .mv), [(.t 7)], none⟩,
               ⟨(some 142), none, (.p .lenS), [(.t 141)], none⟩,
               ⟨(some 143), none, (.p (.bin .lss)), [(.t 140), (.t 142)], none⟩])
             (.keep [0, 7, 8, 9, 14, 15, 16, 143] (.cond (.t 143)
              .skip
              (.keep [8, 9] (.exit 7)))))
             (.keep [0, 7, 8, 9, 14, 15, 16] (.seq (.block 8
              (.seq (.draw [⟨(some 146), none, (.p .mv), [(.t 0)], none⟩,
                ⟨(some 147), none, (.p .mv), [(.t 9)], none⟩,
                ⟨(some 148), none, (.p .mv), [(.t 16)], none⟩,
                ⟨(some 149), none, (.p (.bin .sub)), [(.t 147), (.t 148)], none⟩,
                ⟨(some 150), none, (.p .strIndex), [(.t 146), (.t 149)], none⟩,
                ⟨(some 151), none, (.p .mv), [(.t 7)], none⟩,
                ⟨(some 152), none, (.p .mv), [(.t 8)], none⟩,
                ⟨(some 153), none, (.p .mv), [(.t 16)], none⟩,
                ⟨(some 154), none, (.p (.bin .sub)), [(.t 152), (.t 153)], none⟩,
                ⟨(some 155), none, (.p .strIndex), [(.t 151), (.t 154)], none⟩,
                ⟨(some 156), none, (.p (.bin .neq)), [(.t 150), (.t 155)], none⟩])
              (.keep [0, 7, 8, 9, 14, 15, 16, 156] (.cond (.t 156)
               (.keep [0, 7, 8, 9, 14, 15] (.exit 6))
               .skip))))
             (.keep [0, 7, 8, 9, 14, 15, 16] (.reg [⟨(some 144), none, (.p .mv), [(.t 16)], none⟩,
               ⟨(some 145), none, (.p (.bin .add)), [(.t 144), (.c (.int .i64 (.ofNat 1)))], none⟩,
               ⟨(some 16), none, (.p .mv), [(.t 145)], none⟩]))))))))))
           (.keep [8, 9] (.seq (.reg [⟨(some 157), none, (.p .mv), [(.t 9)], none⟩,
             ⟨(some 158), none, (.p .mv), [(.t 8)], none⟩,
             ⟨(some 159), none, (.p (.bin .sub)), [(.t 157), (.t 158)], none⟩,
             ⟨(some 4), none, (.p .mv), [(.t 159)], none⟩])
           (.keep [4] (.keep [4] .ret)))))
           .skip))))
         (.keep [0, 7, 8, 9, 14, 15] (.reg [⟨(some 125), none, (.p .mv), [(.t 9)], none⟩,
           ⟨(some 126), none, (.p (.bin .add)), [(.t 125), (.c (.int .i64 (.ofNat 1)))], none⟩,
           ⟨(some 9), none, (.p .mv), [(.t 126)], none⟩]))))))))))))))))
      (.keep [] (.seq (.reg [⟨(some 4), none, (.p .mv), [(.c (.int .i64 (.negSucc 0)))], none⟩])
      (.keep [4] (.keep [4] .ret)))))))))))))))))))))))))))))))),
  [(.t 4)]⟩
def s102_j0 (call : CallK) (N : Nat) (q : KV) (st : St) (τ : Tape) : Ans :=
  match st with
  | ⟨fr, H⟩ =>
  q (.int .i64 (.negSucc 0)) H τ
def s102_l1 (call : CallK) (N : Nat) (st : St) (τ : Tape) (k : KC) : Ans :=
  match st with
  | ⟨fr, H⟩ =>
  getK fr 175 fun t175 =>
  effK (eNext [t175] H τ) fun v16 H17 τ18 =>
  someK (pExtract 0 [v16]) fun v19 =>
  condK v19
    (someK (pExtract 1 [v16]) fun v20 =>
  someK (pExtract 2 [v16]) fun v21 =>
  binK .eql v21 (.int .i32 (.ofNat 65533)) fun v22 =>
  condK v22
    (k .ret ⟨(T.set .leaf 4 v20), H17⟩ τ18)
    (k .normal ⟨(T.set (T.set (T.set .leaf 5 v20) 175 t175) 181 v22), H17⟩ τ18))
    (k (.exit 9) ⟨.leaf, H17⟩ τ18)
def s102_j2 (call : CallK) (N : Nat) (q : KV) (st : St) (τ : Tape) : Ans :=
  match st with
  | ⟨fr, H⟩ =>
  q (.int .i64 (.negSucc 0)) H τ
def s102_j5 (call : CallK) (N : Nat) (k : KC) (st : St) (τ : Tape) : Ans :=
  match st with
  | ⟨fr, H⟩ =>
  getK fr 8 fun t8 =>
  getK fr 9 fun t9 =>
  binK .sub t9 t8 fun v35 =>
  k .ret ⟨(T.set .leaf 4 v35), H⟩ τ
def s102_l6 (call : CallK) (N : Nat) (st : St) (τ : Tape) (k : KC) : Ans :=
  match st with
  | ⟨fr, H⟩ =>
  getK fr 0 fun t0 =>
  getK fr 7 fun t7 =>
  getK fr 8 fun t8 =>
  getK fr 9 fun t9 =>
  getK fr 12 fun t12 =>
  someK (pLenS [t7]) fun v36 =>
  binK .lss t12 v36 fun v37 =>
  condK v37
    (binK .sub t9 t12 fun v38 =>
  someK (pStrIndex [t0, v38]) fun v39 =>
  binK .sub t8 t12 fun v40 =>
  someK (pStrIndex [t7, v40]) fun v41 =>
  binK .neq v39 v41 fun v42 =>
  condK v42
    (none)
    (binK .add t12 (.int .i64 (.ofNat 1)) fun v43 =>
  k .normal ⟨(T.set (T.set (T.set (T.set (T.set (T.set (T.set (T.set .leaf 0 t0) 7 t7) 8 t8) 9 t9) 12 t12) 52 t12) 53 v43) 12 v43), H⟩ τ))
    (k (.exit 3) ⟨(T.set (T.set .leaf 8 t8) 9 t9), H⟩ τ)
def s102_j4 (call : CallK) (N : Nat) (k : KC) (st : St) (τ : Tape) : Ans :=
  match st with
  | ⟨fr, H⟩ =>
  getK fr 0 fun t0 =>
  getK fr 7 fun t7 =>
  getK fr 8 fun t8 =>
  getK fr 9 fun t9 =>
  loopK (s102_l6 call N) N ⟨(T.set (T.set (T.set (T.set (T.set .leaf 0 t0) 7 t7) 8 t8) 9 t9) 12 (.int .i64 (.ofNat 1))), H⟩ τ (blockK 3 (seqK (s102_j5 call N k) (blockK 2 k)))
def s102_l3 (call : CallK) (N : Nat) (st : St) (τ : Tape) (k : KC) : Ans :=
  match st with
  | ⟨fr, H⟩ =>
  getK fr 0 fun t0 =>
  getK fr 7 fun t7 =>
  getK fr 8 fun t8 =>
  getK fr 9 fun t9 =>
  someK (pLenS [t0]) fun v30 =>
  binK .lss t9 v30 fun v31 =>
  condK v31
    (someK (pStrIndex [t0, t9]) fun v32 =>
  someK (pStrIndex [t7, t8]) fun v33 =>
  binK .neq v32 v33 fun v34 =>
  condK v34
    (binK .add t9 (.int .i64 (.ofNat 1)) fun v44 =>
  someK (pStrSlice true false [t0, v44]) fun v45 =>
  someK (pStrIndex [t7, t8]) fun v46 =>
  call 105 [v45, v46] H τ fun v47 H48 τ49 =>
  binK .lss v47 (.int .i64 (.ofNat 0)) fun v50 =>
  condK v50
    (k .ret ⟨(T.set .leaf 4 (.int .i64 (.negSucc 0))), H48⟩ τ49)
    (binK .add v47 (.int .i64 (.ofNat 1)) fun v51 =>
  binK .add t9 v51 fun v52 =>
  s102_j4 call N k ⟨(T.set (T.set (T.set (T.set (T.set (T.set (T.set (T.set (T.set (T.set .leaf 0 t0) 7 t7) 8 t8) 9 t9) 11 v47) 44 t9) 45 v47) 46 v51) 47 v52) 9 v52), H48⟩ τ49))
    (s102_j4 call N k ⟨(T.set (T.set (T.set (T.set (T.set .leaf 0 t0) 7 t7) 8 t8) 9 t9) 33 v34), H⟩ τ))
    (k (.exit 1) ⟨.leaf, H⟩ τ)
def s102 (call : CallK) (N : Nat) (a0 a1 : V) (H : Heap) (τ : Tape) (q : KV) : Ans :=
  binK .leq (.int .i32 (.ofNat 0)) a1 fun v0 =>
  gK v0 true (fun q' => q' a1 H τ) H τ fun v1 H2 τ3 =>
  gK v0 true (fun q' => binK .lss v1 (.int .i32 (.ofNat 128)) fun v => q' v H2 τ3) H2 τ3 fun v4 H5 τ6 =>
  someK (pPick [v0, v4, (.bool false)]) fun v7 =>
  condK v7
    (toIntK .u8 a1 fun v8 =>
  call 105 [a0, v8] H5 τ6 fun v9 H10 τ11 =>
  q v9 H10 τ11)
    (binK .eql a1 (.int .i32 (.ofNat 65533)) fun v12 =>
  condK v12
    (effK (eRange [a0] H5 τ6) fun v13 H14 τ15 =>
  loopK (s102_l1 call N) N ⟨(T.set .leaf 175 v13), H14⟩ τ15 (blockK 9 (seqK (s102_j0 call N q) (blockK 0 (endK [(.t 4)] q)))))
    (call 127 [a1] H5 τ6 fun v23 H24 τ25 =>
  unK .not v23 fun v26 =>
  condK v26
    (q (.int .i64 (.negSucc 0)) H24 τ25)
    (someK (pRuneStr [a1]) fun v27 =>
  someK (pLenS [v27]) fun v28 =>
  binK .sub v28 (.int .i64 (.ofNat 1)) fun v29 =>
  loopK (s102_l3 call N) N ⟨(T.set (T.set (T.set (T.set .leaf 0 a0) 7 v27) 8 v29) 9 v29), H24⟩ τ25 (blockK 1 (seqK (s102_j2 call N q) (blockK 0 (endK [(.t 4)] q)))))))
theorem s102_eq (call : CallK) (N : Nat) (a0 a1 : V) (H : Heap) (τ : Tape) (q : KV) : s102 call N a0 a1 H τ q = funK call N fn102 [a0, a1] H τ q := by kernel_rfl
def e102 (call : CallK) (N : Nat) (vs : List V) (H : Heap) (τ : Tape) (q : KV) : Ans := match vs with | [a0, a1] => s102 call N a0 a1 H τ q | _ => none
theorem e102_ok : EntOk fn102 e102 := by
  intro call N vs H τ q r h
  unfold e102 at h
  split at h
  · rw [s102_eq] at h; exact h
  · cases h
theorem e102_nat : EntNat e102 := by
  intro c hn N vs H τ q
  unfold e102
  split
  · rw [s102_eq, s102_eq]; exact funK_ent hn _ _ _ _ _ _
  · rfl
/-- internal/stringslite.Cut -/
def fn103 : Fun := ⟨2,
  (.seq (.reg [⟨(some 4), none, (.p .mv), [(.c (.str []))], none⟩,
    ⟨(some 5), none, (.p .mv), [(.c (.str []))], none⟩,
    ⟨(some 6), none, (.p .mv), [(.c (.bool false))], none⟩])
  (.keep [0, 1] (.seq (.seq (.reg [⟨(some 8), none, (.p .mv), [(.t 0)], none⟩,
    ⟨(some 9), none, (.p .mv), [(.t 1)], none⟩,
    ⟨(some 10), none, (.call 130), [(.t 8), (.t 9)], none⟩,
    ⟨(some 7), none, (.p .mv), [(.t 10)], none⟩])
  (.keep [0, 1, 7] (.seq (.reg [⟨(some 11), none, (.p .mv), [(.t 7)], none⟩,
    ⟨(some 12), none, (.p (.bin .geq)), [(.t 11), (.c (.int .i64 (.ofNat 0)))], none⟩])
  (.keep [0, 1, 7, 12] (.cond (.t 12)
   (.seq (.draw [⟨(some 13), none, (.p .mv), [(.t 0)], none⟩,
     ⟨(some 14), none, (.p .mv), [(.t 7)], none⟩,
     ⟨(some 15), none, (.p (.strSlice false true)), [(.t 13), (.t 14)], none⟩,
     ⟨(some 16), none, (.p .mv), [(.t 0)], none⟩,
     ⟨(some 17), none, (.p .mv), [(.t 7)], none⟩,
     ⟨(some 18), none, (.p .mv), [(.t 1)], none⟩,
     ⟨(some 19), none, (.p .lenS), [(.t 18)], none⟩,
     ⟨(some 20), none, (.p (.bin .add)), [(.t 17), (.t 19)], none⟩,
     ⟨(some 21), none, (.p (.strSlice true false)), [(.t 16), (.t 20)], none⟩,
     ⟨(some 4), none, (.p .mv), [(.t 15)], none⟩,
     ⟨(some 5), none, (.p .mv), [(.t 21)], none⟩,
     ⟨(some 6), none, (.p .mv), [(.c (.bool true))], none⟩])
   (.keep [4, 5, 6] (.keep [4, 5, 6] .ret)))
   .skip)))))
  (.keep [0] (.seq (.reg [⟨(some 22), none, (.p .mv), [(.t 0)], none⟩,
    ⟨(some 4), none, (.p .mv), [(.t 22)], none⟩,
    ⟨(some 5), none, (.p .mv), [(.c (.str []))], none⟩,
    ⟨(some 6), none, (.p .mv), [(.c (.bool false))], none⟩])
  (.keep [4, 5, 6] (.keep [4, 5, 6] .ret))))))),
  [(.t 4), (.t 5), (.t 6)]⟩
def s103 (call : CallK) (N : Nat) (a0 a1 : V) (H : Heap) (τ : Tape) (q : KV) : Ans :=
  call 130 [a0, a1] H τ fun v0 H1 τ2 =>
  binK .geq v0 (.int .i64 (.ofNat 0)) fun v3 =>
  condK v3
    (someK (pStrSlice false true [a0, v0]) fun v4 =>
  someK (pLenS [a1]) fun v5 =>
  binK .add v0 v5 fun v6 =>
  someK (pStrSlice true false [a0, v6]) fun v7 =>
  q (.tup [v4, v7, (.bool true)]) H1 τ2)
    (q (.tup [a0, (.str []), (.bool false)]) H1 τ2)
theorem s103_eq (call : CallK) (N : Nat) (a0 a1 : V) (H : Heap) (τ : Tape) (q : KV) : s103 call N a0 a1 H τ q = funK call N fn103 [a0, a1] H τ q := by kernel_rfl
def e103 (call : CallK) (N : Nat) (vs : List V) (H : Heap) (τ : Tape) (q : KV) : Ans := match vs with | [a0, a1] => s103 call N a0 a1 H τ q | _ => none
theorem e103_ok : EntOk fn103 e103 := by
  intro call N vs H τ q r h
  unfold e103 at h
  split at h
  · rw [s103_eq] at h; exact h
  · cases h
theorem e103_nat : EntNat e103 := by
  intro c hn N vs H τ q
  unfold e103
  split
  · rw [s103_eq, s103_eq]; exact funK_ent hn _ _ _ _ _ _
  · rfl
/-- strings.IndexByte -/
def fn105 : Fun := ⟨2,
  (.seq (.reg [⟨(some 4), none, (.p .mv), [(.c (.int .i64 (.ofNat 0)))], none⟩])
  (.keep [0, 1] (.seq (.reg [⟨(some 5), none, (.p .mv), [(.t 0)], none⟩,
    ⟨(some 6), none, (.p .mv), [(.t 1)], none⟩,
    ⟨(some 7), none, (.call 131), [(.t 5), (.t 6)], none⟩,
    ⟨(some 4), none, (.p .mv), [(.t 7)], none⟩])
  (.keep [4] (.keep [4] .ret))))),
  [(.t 4)]⟩
def s105 (call : CallK) (N : Nat) (a0 a1 : V) (H : Heap) (τ : Tape) (q : KV) : Ans :=
  call 131 [a0, a1] H τ fun v0 H1 τ2 =>
  q v0 H1 τ2
theorem s105_eq (call : CallK) (N : Nat) (a0 a1 : V) (H : Heap) (τ : Tape) (q : KV) : s105 call N a0 a1 H τ q = funK call N fn105 [a0, a1] H τ q := by kernel_rfl
def e105 (call : CallK) (N : Nat) (vs : List V) (H : Heap) (τ : Tape) (q : KV) : Ans := match vs with | [a0, a1] => s105 call N a0 a1 H τ q | _ => none
theorem e105_ok : EntOk fn105 e105 := by
  intro call N vs H τ q r h
  unfold e105 at h
  split at h
  · rw [s105_eq] at h; exact h
  · cases h
theorem e105_nat : EntNat e105 := by
  intro c hn N vs H τ q
  unfold e105
  split
  · rw [s105_eq, s105_eq]; exact funK_ent hn _ _ _ _ _ _
  · rfl
/-- ostiary/headers.is -/
def fn112 : Fun := ⟨2,
  (.seq (.reg [⟨(some 2), none, (.e .box), [(.t 0)], none⟩,
    ⟨(some 4), none, (.p .mv), [(.c (.bool false))], none⟩])
  (.keep [1, 2] (.seq (.reg [⟨(some 5), none, (.p (.fieldAddr 0)), [(.t 2)], none⟩,
    ⟨(some 6), none, (.l (.load none)), [(.t 5)], none⟩,
    ⟨(some 7), none, (.call 92), [(.t 6)], none⟩,
    ⟨(some 8), none, (.p .mv), [(.t 1)], none⟩,
    ⟨(some 9), none, (.call 92), [(.t 8)], none⟩,
    ⟨(some 10), none, (.p (.bin .eql)), [(.t 7), (.t 9)], none⟩,
    ⟨(some 4), none, (.p .mv), [(.t 10)], none⟩])
  (.keep [4] (.keep [4] .ret))))),
  [(.t 4)]⟩
def s112 (call : CallK) (N : Nat) (a0 a1 : V) (H : Heap) (τ : Tape) (q : KV) : Ans :=
  effK (eBox [a0] H τ) fun v0 H1 τ2 =>
  someK (pFieldAddr 0 [v0]) fun v3 =>
  someK (lLoad1 [v3] H1) fun v4 =>
  call 92 [v4] H1 τ2 fun v5 H6 τ7 =>
  call 92 [a1] H6 τ7 fun v8 H9 τ10 =>
  binK .eql v5 v8 fun v11 =>
  q v11 H9 τ10
theorem s112_eq (call : CallK) (N : Nat) (a0 a1 : V) (H : Heap) (τ : Tape) (q : KV) : s112 call N a0 a1 H τ q = funK call N fn112 [a0, a1] H τ q := by kernel_rfl
def e112 (call : CallK) (N : Nat) (vs : List V) (H : Heap) (τ : Tape) (q : KV) : Ans := match vs with | [a0, a1] => s112 call N a0 a1 H τ q | _ => none
theorem e112_ok : EntOk fn112 e112 := by
  intro call N vs H τ q r h
  unfold e112 at h
  split at h
  · rw [s112_eq] at h; exact h
  · cases h
theorem e112_nat : EntNat e112 := by
  intro c hn N vs H τ q
  unfold e112
  split
  · rw [s112_eq, s112_eq]; exact funK_ent hn _ _ _ _ _ _
  · rfl
/-- strings.Trim -/
def fn114 : Fun := ⟨2,
  (.seq (.reg [⟨(some 4), none, (.p .mv), [(.c (.str []))], none⟩])
  (.keep [0, 1] (.seq (.seq (.reg [⟨(some 7), none, (.p .mv), [(.t 0)], none⟩,
    ⟨(some 8), none, (.p (.bin .eql)), [(.t 7), (.c (.str []))], none⟩,
    ⟨(some 9), none, (.p .mv), [(.t 8)], none⟩,
    ⟨(some 10), some (9, false), (.p .mv), [(.t 1)], none⟩,
    ⟨(some 11), some (9, false), (.p (.bin .eql)), [(.t 10), (.c (.str []))], none⟩,
    ⟨(some 12), none, (.p .pick), [(.t 9), (.c (.bool true)), (.t 11)], none⟩])
  (.keep [0, 1, 12] (.cond (.t 12)
   (.seq (.reg [⟨(some 13), none, (.p .mv), [(.t 0)], none⟩,
     ⟨(some 4), none, (.p .mv), [(.t 13)], none⟩])
   (.keep [4] (.keep [4] .ret)))
   .skip)))
  (.keep [0, 1] (.seq (.seq (.reg [⟨(some 14), none, (.p .mv), [(.t 1)], none⟩,
    ⟨(some 15), none, (.p .lenS), [(.t 14)], none⟩,
    ⟨(some 16), none, (.p (.bin .eql)), [(.t 15), (.c (.int .i64 (.ofNat 1)))], none⟩,
    ⟨(some 17), none, (.p .mv), [(.t 16)], none⟩,
    ⟨(some 18), some (17, true), (.p .mv), [(.t 1)], none⟩,
    ⟨(some 19), some (17, true), (.p .strIndex), [(.t 18), (.c (.int .i64 (.ofNat 0)))], none⟩,
    ⟨(some 20), some (17, true), (.p (.bin .lss)), [(.t 19), (.c (.int .u8 (.ofNat 128)))], none⟩,
    ⟨(some 21), none, (.p .pick), [(.t 17), (.t 20), (.c (.bool false))], none⟩])
  (.keep [0, 1, 21] (.cond (.t 21)
   (.seq (.draw [⟨(some 22), none, (.p .mv), [(.t 0)], none⟩,
     ⟨(some 23), none, (.p .mv), [(.t 1)], none⟩,
     ⟨(some 24), none, (.p .strIndex), [(.t 23), (.c (.int .i64 (.ofNat 0)))], none⟩,
     ⟨(some 25), none, (.call 141), [(.t 22), (.t 24)], none⟩,
     ⟨(some 26), none, (.p .mv), [(.t 1)], none⟩,
     ⟨(some 27), none, (.p .strIndex), [(.t 26), (.c (.int .i64 (.ofNat 0)))], none⟩,
     ⟨(some 28), none, (.call 140), [(.t 25), (.t 27)], none⟩,
     ⟨(some 4), none, (.p .mv), [(.t 28)], none⟩])
   (.keep [4] (.keep [4] .ret)))
   .skip)))
  (.keep [0, 1] (.seq (.seq (.reg [⟨(some 30), none, (.p .mv), [(.t 1)], none⟩,
    ⟨(some 31), none, (.call 142), [(.t 30)], none⟩,
    ⟨(some 29), none, (.p .mv), [(.t 31)], none⟩,
    ⟨(some 32), none, (.p (.extract 0)), [(.t 29)], none⟩,
    ⟨(some 33), none, (.p (.extract 1)), [(.t 29)], none⟩,
    ⟨(some 5), none, (.e (.alloc (repl 256 [(.bool false)]))), [], none⟩,
    ⟨none, none, (.e (.store 256)), [(.t 5), (.t 32)], none⟩,
    ⟨(some 6), none, (.p .mv), [(.t 33)], none⟩])
  (.keep [0, 1, 5, 6] (.seq (.reg [⟨(some 34), none, (.p .mv), [(.t 6)], none⟩])
  (.keep [0, 1, 5, 34] (.cond (.t 34)
   (.seq (.reg [⟨(some 35), none, (.p .mv), [(.t 0)], none⟩,
     ⟨(some 36), none, (.call 144), [(.t 35), (.t 5)], none⟩,
     ⟨(some 37), none, (.call 143), [(.t 36), (.t 5)], none⟩,
     ⟨(some 4), none, (.p .mv), [(.t 37)], none⟩])
   (.keep [4] (.keep [4] .ret)))
   .skip)))))
  (.keep [0, 1] (.seq (.reg [⟨(some 38), none, (.p .mv), [(.t 0)], none⟩,
    ⟨(some 39), none, (.p .mv), [(.t 1)], none⟩,
    ⟨(some 40), none, (.call 146), [(.t 38), (.t 39)], none⟩,
    ⟨(some 41), none, (.p .mv), [(.t 1)], none⟩,
    ⟨(some 42), none, (.call 145), [(.t 40), (.t 41)], none⟩,
    ⟨(some 4), none, (.p .mv), [(.t 42)], none⟩])
  (.keep [4] (.keep [4] .ret))))))))))),
  [(.t 4)]⟩
def s114 (call : CallK) (N : Nat) (a0 a1 : V) (H : Heap) (τ : Tape) (q : KV) : Ans :=
  binK .eql a0 (.str []) fun v0 =>
  gK v0 false (fun q' => q' a1 H τ) H τ fun v1 H2 τ3 =>
  gK v0 false (fun q' => binK .eql v1 (.str []) fun v => q' v H2 τ3) H2 τ3 fun v4 H5 τ6 =>
  someK (pPick [v0, (.bool true), v4]) fun v7 =>
  condK v7
    (q a0 H5 τ6)
    (someK (pLenS [a1]) fun v8 =>
  binK .eql v8 (.int .i64 (.ofNat 1)) fun v9 =>
  gK v9 true (fun q' => q' a1 H5 τ6) H5 τ6 fun v10 H11 τ12 =>
  gK v9 true (fun q' => someK (pStrIndex [v10, (.int .i64 (.ofNat 0))]) fun v => q' v H11 τ12) H11 τ12 fun v13 H14 τ15 =>
  gK v9 true (fun q' => binK .lss v13 (.int .u8 (.ofNat 128)) fun v => q' v H14 τ15) H14 τ15 fun v16 H17 τ18 =>
  someK (pPick [v9, v16, (.bool false)]) fun v19 =>
  condK v19
    (someK (pStrIndex [a1, (.int .i64 (.ofNat 0))]) fun v20 =>
  call 141 [a0, v20] H17 τ18 fun v21 H22 τ23 =>
  someK (pStrIndex [a1, (.int .i64 (.ofNat 0))]) fun v24 =>
  call 140 [v21, v24] H22 τ23 fun v25 H26 τ27 =>
  q v25 H26 τ27)
    (call 142 [a1] H17 τ18 fun v28 H29 τ30 =>
  someK (pExtract 0 [v28]) fun v31 =>
  someK (pExtract 1 [v28]) fun v32 =>
  effK (eAlloc (repl 256 [(.bool false)]) [] H29 τ30) fun v33 H34 τ35 =>
  effK (eStore 256 [v33, v31] H34 τ35) fun v36 H37 τ38 =>
  condK v32
    (call 144 [a0, v33] H37 τ38 fun v39 H40 τ41 =>
  call 143 [v39, v33] H40 τ41 fun v42 H43 τ44 =>
  q v42 H43 τ44)
    (call 146 [a0, a1] H37 τ38 fun v45 H46 τ47 =>
  call 145 [v45, a1] H46 τ47 fun v48 H49 τ50 =>
  q v48 H49 τ50)))
theorem s114_eq (call : CallK) (N : Nat) (a0 a1 : V) (H : Heap) (τ : Tape) (q : KV) : s114 call N a0 a1 H τ q = funK call N fn114 [a0, a1] H τ q := by kernel_rfl
def e114 (call : CallK) (N : Nat) (vs : List V) (H : Heap) (τ : Tape) (q : KV) : Ans := match vs with | [a0, a1] => s114 call N a0 a1 H τ q | _ => none
theorem e114_ok : EntOk fn114 e114 := by
  intro call N vs H τ q r h
  unfold e114 at h
  split at h
  · rw [s114_eq] at h; exact h
  · cases h
theorem e114_nat : EntNat e114 := by
  intro c hn N vs H τ q
  unfold e114
  split
  · rw [s114_eq, s114_eq]; exact funK_ent hn _ _ _ _ _ _
  · rfl
/-- ostiary/infra.mapped -/
def fn120 : Fun := ⟨2,
  (.seq (.reg [⟨(some 4), none, (.p .mv), [(.c (.str []))], none⟩])
  (.keep [0, 1] (.seq (.reg [⟨(some 8), none, (.p .mv), [(.t 0)], none⟩,
    ⟨(some 9), none, (.e .strBytes), [(.t 8)], none⟩,
    ⟨(some 5), none, (.p .mv), [(.t 9)], none⟩])
  (.keep [1, 5] (.seq (.seq (.reg [⟨(some 10), none, (.p .mv), [(.t 5)], none⟩,
    ⟨(some 11), none, (.p .len), [(.t 10)], none⟩,
    ⟨(some 12), none, (.p .mv), [(.c (.int .i64 (.ofNat 0)))], none⟩])
  (.keep [1, 5, 10, 11, 12] (.block 0
   (.loop
    (.keep [1, 5, 10, 11, 12] (.seq (.reg [⟨(some 13), none, (.p (.bin .lss)), [(.t 12), (.t 11)], none⟩])
    (.keep [1, 5, 10, 11, 12, 13] (.seq (.cond (.t 13)
     .skip
     (.keep [5] (.exit 0)))
    (.keep [1, 5, 10, 11, 12] (.seq (.block 1
     (.seq (.reg [⟨(some 14), none, (.p .mv), [(.t 12)], none⟩,
       ⟨(some 15), none, (.p (.slIdx 1)), [(.t 10), (.t 12)], none⟩,
       ⟨(some 16), none, (.l (.load none)), [(.t 15)], none⟩,
       ⟨(some 6), none, (.p .mv), [(.t 14)], none⟩,
       ⟨(some 7), none, (.p .mv), [(.t 16)], none⟩])
     (.keep [1, 5, 6, 7, 10, 11, 12] (.reg [⟨(some 17), none, (.p .mv), [(.t 5)], none⟩,
       ⟨(some 18), none, (.p .mv), [(.t 6)], none⟩,
       ⟨(some 19), none, (.p .mv), [(.t 1)], none⟩,
       ⟨(some 20), none, (.p .mv), [(.t 7)], none⟩,
       ⟨(some 21), none, .callv, [(.t 19), (.t 20)], none⟩,
       ⟨(some 22), none, (.p (.slIdx 1)), [(.t 17), (.t 18)], none⟩,
       ⟨none, none, (.e (.store 1)), [(.t 22), (.t 21)], none⟩]))))
    (.keep [1, 5, 10, 11, 12] (.reg [⟨(some 23), none, (.p (.bin .add)), [(.t 12), (.c (.int .i64 (.ofNat 1)))], none⟩,
      ⟨(some 12), none, (.p .mv), [(.t 23)], none⟩]))))))))))))
  (.keep [5] (.seq (.reg [⟨(some 24), none, (.p .mv), [(.t 5)], none⟩,
    ⟨(some 25), none, (.l .bytesStr), [(.t 24)], none⟩,
    ⟨(some 4), none, (.p .mv), [(.t 25)], none⟩])
  (.keep [4] (.keep [4] .ret))))))))),
  [(.t 4)]⟩
def s120_j0 (call : CallK) (N : Nat) (q : KV) (st : St) (τ : Tape) : Ans :=
  match st with
  | ⟨fr, H⟩ =>
  getK fr 5 fun t5 =>
  someK (lBytesStr [t5] H) fun v4 =>
  q v4 H τ
def s120_l1 (call : CallK) (N : Nat) (st : St) (τ : Tape) (k : KC) : Ans :=
  match st with
  | ⟨fr, H⟩ =>
  getK fr 1 fun t1 =>
  getK fr 5 fun t5 =>
  getK fr 10 fun t10 =>
  getK fr 11 fun t11 =>
  getK fr 12 fun t12 =>
  binK .lss t12 t11 fun v5 =>
  condK v5
    (someK (pSlIdx 1 [t10, t12]) fun v6 =>
  someK (lLoad1 [v6] H) fun v7 =>
  opK call .callv [t1, v7] H τ fun v8 H9 τ10 =>
  someK (pSlIdx 1 [t5, t12]) fun v11 =>
  effK (eStore 1 [v11, v8] H9 τ10) fun v12 H13 τ14 =>
  binK .add t12 (.int .i64 (.ofNat 1)) fun v15 =>
  k .normal ⟨(T.set (T.set (T.set (T.set (T.set (T.set (T.set .leaf 1 t1) 5 t5) 10 t10) 11 t11) 12 t12) 23 v15) 12 v15), H13⟩ τ14)
    (k (.exit 0) ⟨(T.set .leaf 5 t5), H⟩ τ)
def s120 (call : CallK) (N : Nat) (a0 a1 : V) (H : Heap) (τ : Tape) (q : KV) : Ans :=
  effK (eStrBytes [a0] H τ) fun v0 H1 τ2 =>
  someK (pLen [v0]) fun v3 =>
  loopK (s120_l1 call N) N ⟨(T.set (T.set (T.set (T.set (T.set .leaf 1 a1) 5 v0) 10 v0) 11 v3) 12 (.int .i64 (.ofNat 0))), H1⟩ τ2 (blockK 0 (seqK (s120_j0 call N q) (endK [(.t 4)] q)))
theorem s120_eq (call : CallK) (N : Nat) (a0 a1 : V) (H : Heap) (τ : Tape) (q : KV) : s120 call N a0 a1 H τ q = funK call N fn120 [a0, a1] H τ q := by kernel_rfl
def e120 (call : CallK) (N : Nat) (vs : List V) (H : Heap) (τ : Tape) (q : KV) : Ans := match vs with | [a0, a1] => s120 call N a0 a1 H τ q | _ => none
theorem e120_ok : EntOk fn120 e120 := by
  intro call N vs H τ q r h
  unfold e120 at h
  split at h
  · rw [s120_eq] at h; exact h
  · cases h
theorem e120_nat : EntNat e120 := by
  intro c hn N vs H τ q
  unfold e120
  split
  · rw [s120_eq, s120_eq]; exact funK_ent hn _ _ _ _ _ _
  · rfl
/-- ostiary/infra.Lower$1 -/
def fn121 : Fun := ⟨1,
  (.seq (.reg [⟨(some 2), none, (.p .mv), [(.c (.int .u8 (.ofNat 0)))], none⟩])
  (.keep [0] (.seq (.seq (.reg [⟨(some 3), none, (.p .mv), [(.t 0)], none⟩,
    ⟨(some 4), none, (.p (.bin .geq)), [(.t 3), (.c (.int .u8 (.ofNat 65)))], none⟩,
    ⟨(some 5), none, (.p .mv), [(.t 4)], none⟩,
    ⟨(some 6), some (5, true), (.p .mv), [(.t 0)], none⟩,
    ⟨(some 7), some (5, true), (.p (.bin .leq)), [(.t 6), (.c (.int .u8 (.ofNat 90)))], none⟩,
    ⟨(some 8), none, (.p .pick), [(.t 5), (.t 7), (.c (.bool false))], none⟩])
  (.keep [0, 8] (.cond (.t 8)
   (.reg [⟨(some 9), none, (.p .mv), [(.t 0)], none⟩,
     ⟨(some 10), none, (.p (.bin .add)), [(.t 9), (.c (.int .u8 (.ofNat 32)))], none⟩,
     ⟨(some 0), none, (.p .mv), [(.t 10)], none⟩])
   .skip)))
  (.keep [0] (.seq (.reg [⟨(some 11), none, (.p .mv), [(.t 0)], none⟩,
    ⟨(some 2), none, (.p .mv), [(.t 11)], none⟩])
  (.keep [2] (.keep [2] .ret))))))),
  [(.t 2)]⟩
def s121_j0 (call : CallK) (N : Nat) (q : KV) (st : St) (τ : Tape) : Ans :=
  match st with
  | ⟨fr, H⟩ =>
  getK fr 0 fun t0 =>
  q t0 H τ
def s121 (call : CallK) (N : Nat) (a0 : V) (H : Heap) (τ : Tape) (q : KV) : Ans :=
  binK .geq a0 (.int .u8 (.ofNat 65)) fun v0 =>
  gK v0 true (fun q' => q' a0 H τ) H τ fun v1 H2 τ3 =>
  gK v0 true (fun q' => binK .leq v1 (.int .u8 (.ofNat 90)) fun v => q' v H2 τ3) H2 τ3 fun v4 H5 τ6 =>
  someK (pPick [v0, v4, (.bool false)]) fun v7 =>
  condK v7
    (binK .add a0 (.int .u8 (.ofNat 32)) fun v8 =>
  s121_j0 call N q ⟨(T.set (T.set (T.set (T.set (T.set .leaf 0 a0) 8 v7) 9 a0) 10 v8) 0 v8), H5⟩ τ6)
    (s121_j0 call N q ⟨(T.set (T.set .leaf 0 a0) 8 v7), H5⟩ τ6)
theorem s121_eq (call : CallK) (N : Nat) (a0 : V) (H : Heap) (τ : Tape) (q : KV) : s121 call N a0 H τ q = funK call N fn121 [a0] H τ q := by kernel_rfl
def e121 (call : CallK) (N : Nat) (vs : List V) (H : Heap) (τ : Tape) (q : KV) : Ans := match vs with | [a0] => s121 call N a0 H τ q | _ => none
theorem e121_ok : EntOk fn121 e121 := by
  intro call N vs H τ q r h
  unfold e121 at h
  split at h
  · rw [s121_eq] at h; exact h
  · cases h
theorem e121_nat : EntNat e121 := by
  intro c hn N vs H τ q
  unfold e121
  split
  · rw [s121_eq, s121_eq]; exact funK_ent hn _ _ _ _ _ _
  · rfl
/-- unicode/utf8.ValidRune -/
def fn127 : Fun := ⟨1,
  (.seq (.reg [⟨(some 2), none, (.p .mv), [(.c (.bool false))], none⟩])
  (.keep [0] (.seq (.block 0
   (.seq (.reg [⟨(some 4), none, (.p .mv), [(.t 0)], none⟩,
     ⟨(some 5), none, (.p (.bin .leq)), [(.c (.int .i32 (.ofNat 0))), (.t 4)], none⟩,
     ⟨(some 6), none, (.p .mv), [(.t 5)], none⟩,
     ⟨(some 7), some (6, true), (.p .mv), [(.t 0)], none⟩,
     ⟨(some 8), some (6, true), (.p (.bin .lss)), [(.t 7), (.c (.int .i32 (.ofNat 55296)))], none⟩,
     ⟨(some 9), none, (.p .pick), [(.t 6), (.t 8), (.c (.bool false))], none⟩,
     ⟨(some 3), none, (.p .mv), [(.t 9)], none⟩])
   (.keep [0, 3] (.cond (.t 3)
    (.seq (.reg [⟨(some 2), none, (.p .mv), [(.c (.bool true))], none⟩])
    (.keep [2] (.keep [2] .ret)))
    (.seq (.reg [⟨(some 11), none, (.p .mv), [(.t 0)], none⟩,
      ⟨(some 12), none, (.p (.bin .lss)), [(.c (.int .i32 (.ofNat 57343))), (.t 11)], none⟩,
      ⟨(some 13), none, (.p .mv), [(.t 12)], none⟩,
      ⟨(some 14), some (13, true), (.p .mv), [(.t 0)], none⟩,
      ⟨(some 15), some (13, true), (.p (.bin .leq)), [(.t 14), (.c (.int .i32 (.ofNat 1114111)))], none⟩,
      ⟨(some 16), none, (.p .pick), [(.t 13), (.t 15), (.c (.bool false))], none⟩,
      ⟨(some 10), none, (.p .mv), [(.t 16)], none⟩])
    (.keep [10] (.cond (.t 10)
     (.seq (.reg [⟨(some 2), none, (.p .mv), [(.c (.bool true))], none⟩])
     (.keep [2] (.keep [2] .ret)))
     .skip)))))))
  (.keep [] (.seq (.reg [⟨(some 2), none, (.p .mv), [(.c (.bool false))], none⟩])
  (.keep [2] (.keep [2] .ret))))))),
  [(.t 2)]⟩
def s127 (call : CallK) (N : Nat) (a0 : V) (H : Heap) (τ : Tape) (q : KV) : Ans :=
  binK .leq (.int .i32 (.ofNat 0)) a0 fun v0 =>
  gK v0 true (fun q' => q' a0 H τ) H τ fun v1 H2 τ3 =>
  gK v0 true (fun q' => binK .lss v1 (.int .i32 (.ofNat 55296)) fun v => q' v H2 τ3) H2 τ3 fun v4 H5 τ6 =>
  someK (pPick [v0, v4, (.bool false)]) fun v7 =>
  condK v7
    (q (.bool true) H5 τ6)
    (binK .lss (.int .i32 (.ofNat 57343)) a0 fun v8 =>
  gK v8 true (fun q' => q' a0 H5 τ6) H5 τ6 fun v9 H10 τ11 =>
  gK v8 true (fun q' => binK .leq v9 (.int .i32 (.ofNat 1114111)) fun v => q' v H10 τ11) H10 τ11 fun v12 H13 τ14 =>
  someK (pPick [v8, v12, (.bool false)]) fun v15 =>
  condK v15
    (q (.bool true) H13 τ14)
    (q (.bool false) H13 τ14))
theorem s127_eq (call : CallK) (N : Nat) (a0 : V) (H : Heap) (τ : Tape) (q : KV) : s127 call N a0 H τ q = funK call N fn127 [a0] H τ q := by kernel_rfl
def e127 (call : CallK) (N : Nat) (vs : List V) (H : Heap) (τ : Tape) (q : KV) : Ans := match vs with | [a0] => s127 call N a0 H τ q | _ => none
theorem e127_ok : EntOk fn127 e127 := by
  intro call N vs H τ q r h
  unfold e127 at h
  split at h
  · rw [s127_eq] at h; exact h
  · cases h
theorem e127_nat : EntNat e127 := by
  intro c hn N vs H τ q
  unfold e127
  split
  · rw [s127_eq, s127_eq]; exact funK_ent hn _ _ _ _ _ _
  · rfl
/-- internal/bytealg.Cutover -/
def fn128 : Fun := ⟨1,
  (.seq (.reg [⟨(some 2), none, (.p .mv), [(.c (.int .i64 (.ofNat 0)))], none⟩])
  (.keep [0] (.seq (.reg [⟨(some 3), none, (.p .mv), [(.t 0)], none⟩,
    ⟨(some 4), none, (.p (.bin .add)), [(.t 3), (.c (.int .i64 (.ofNat 16)))], none⟩,
    ⟨(some 5), none, (.p (.bin .quo)), [(.t 4), (.c (.int .i64 (.ofNat 8)))], none⟩,
    ⟨(some 2), none, (.p .mv), [(.t 5)], none⟩])
  (.keep [2] (.keep [2] .ret))))),
  [(.t 2)]⟩
def s128 (call : CallK) (N : Nat) (a0 : V) (H : Heap) (τ : Tape) (q : KV) : Ans :=
  binK .add a0 (.int .i64 (.ofNat 16)) fun v0 =>
  binK .quo v0 (.int .i64 (.ofNat 8)) fun v1 =>
  q v1 H τ
theorem s128_eq (call : CallK) (N : Nat) (a0 : V) (H : Heap) (τ : Tape) (q : KV) : s128 call N a0 H τ q = funK call N fn128 [a0] H τ q := by kernel_rfl
def e128 (call : CallK) (N : Nat) (vs : List V) (H : Heap) (τ : Tape) (q : KV) : Ans := match vs with | [a0] => s128 call N a0 H τ q | _ => none
theorem e128_ok : EntOk fn128 e128 := by
  intro call N vs H τ q r h
  unfold e128 at h
  split at h
  · rw [s128_eq] at h; exact h
  · cases h
theorem e128_nat : EntNat e128 := by
  intro c hn N vs H τ q
  unfold e128
  split
  · rw [s128_eq, s128_eq]; exact funK_ent hn _ _ _ _ _ _
  · rfl
/-- internal/stringslite.Index -/
def fn130 : Fun := ⟨2,
  (.seq (.reg [⟨(some 4), none, (.p .mv), [(.c (.int .i64 (.ofNat 0)))], none⟩])
  (.keep [0, 1] (.seq (.reg [⟨(some 14), none, (.p .mv), [(.t 1)], none⟩,
    ⟨(some 15), none, (.p .lenS), [(.t 14)], none⟩,
    ⟨(some 5), none, (.p .mv), [(.t 15)], none⟩])
  (.keep [0, 1, 5] (.seq (.block 0
   (.seq (.reg [⟨(some 17), none, (.p .mv), [(.t 5)], none⟩,
     ⟨(some 18), none, (.p (.bin .eql)), [(.t 17), (.c (.int .i64 (.ofNat 0)))], none⟩,
     ⟨(some 19), none, (.p .mv), [(.t 18)], none⟩,
     ⟨(some 20), some (19, false), (.p .mv), [(.t 1)], none⟩,
     ⟨(some 21), some (19, false), (.p .mv), [(.t 0)], none⟩,
     ⟨(some 22), some (19, false), (.p (.bin .eql)), [(.t 20), (.t 21)], none⟩,
     ⟨(some 23), none, (.p .pick), [(.t 19), (.c (.bool true)), (.t 22)], none⟩,
     ⟨(some 16), none, (.p .mv), [(.t 23)], none⟩])
   (.keep [0, 1, 5, 16] (.cond (.t 16)
    (.seq (.reg [⟨(some 4), none, (.p .mv), [(.c (.int .i64 (.ofNat 0)))], none⟩])
    (.keep [4] (.keep [4] .ret)))
    (.seq (.reg [⟨(some 25), none, (.p .mv), [(.t 5)], none⟩,
      ⟨(some 26), none, (.p (.bin .eql)), [(.t 25), (.c (.int .i64 (.ofNat 1)))], none⟩,
      ⟨(some 24), none, (.p .mv), [(.t 26)], none⟩])
    (.keep [0, 1, 5, 24] (.cond (.t 24)
     (.seq (.reg [⟨(some 27), none, (.p .mv), [(.t 0)], none⟩,
       ⟨(some 28), none, (.p .mv), [(.t 1)], none⟩,
       ⟨(some 29), none, (.p .strIndex), [(.t 28), (.c (.int .i64 (.ofNat 0)))], none⟩,
       ⟨(some 30), none, (.call 131), [(.t 27), (.t 29)], none⟩,
       ⟨(some 4), none, (.p .mv), [(.t 30)], none⟩])
     (.keep [4] (.keep [4] .ret)))
     (.seq (.reg [⟨(some 32), none, (.p .mv), [(.t 5)], none⟩,
       ⟨(some 33), none, (.p .mv), [(.t 0)], none⟩,
       ⟨(some 34), none, (.p .lenS), [(.t 33)], none⟩,
       ⟨(some 35), none, (.p (.bin .geq)), [(.t 32), (.t 34)], none⟩,
       ⟨(some 31), none, (.p .mv), [(.t 35)], none⟩])
     (.keep [0, 1, 5, 31] (.cond (.t 31)
      (.seq (.reg [⟨(some 4), none, (.p .mv), [(.c (.int .i64 (.negSucc 0)))], none⟩])
      (.keep [4] (.keep [4] .ret)))
      (.seq (.reg [⟨(some 37), none, (.p .mv), [(.t 5)], none⟩,
        ⟨(some 38), none, (.l (.load none)), [(.c (.ptr 5 0))], none⟩,
        ⟨(some 39), none, (.p (.bin .leq)), [(.t 37), (.t 38)], none⟩,
        ⟨(some 40), none, (.p .mv), [(.t 39)], none⟩,
        ⟨(some 41), some (40, true), (.p .mv), [(.t 0)], none⟩,
        ⟨(some 42), some (40, true), (.p .lenS), [(.t 41)], none⟩,
        ⟨(some 43), some (40, true), (.p (.bin .leq)), [(.t 42), (.c (.int .i64 (.ofNat 64)))], none⟩,
        ⟨(some 44), none, (.p .pick), [(.t 40), (.t 43), (.c (.bool false))], none⟩,
        ⟨(some 36), none, (.p .mv), [(.t 44)], none⟩])
      (.keep [0, 1, 5, 36] (.cond (.t 36)
       (.seq .bad
       (.keep [4] (.keep [4] .ret)))
       .skip)))))))))))))
  (.keep [0, 1, 5] (.seq (.reg [⟨(some 48), none, (.p .mv), [(.t 1)], none⟩,
    ⟨(some 49), none, (.p .strIndex), [(.t 48), (.c (.int .i64 (.ofNat 0)))], none⟩,
    ⟨(some 6), none, (.p .mv), [(.t 49)], none⟩])
  (.keep [0, 1, 5, 6] (.seq (.reg [⟨(some 50), none, (.p .mv), [(.t 1)], none⟩,
    ⟨(some 51), none, (.p .strIndex), [(.t 50), (.c (.int .i64 (.ofNat 1)))], none⟩,
    ⟨(some 7), none, (.p .mv), [(.t 51)], none⟩])
  (.keep [0, 1, 5, 6, 7] (.seq (.reg [⟨(some 8), none, (.p .mv), [(.c (.int .i64 (.ofNat 0)))], none⟩])
  (.keep [0, 1, 5, 6, 7, 8] (.seq (.reg [⟨(some 52), none, (.p .mv), [(.t 0)], none⟩,
    ⟨(some 53), none, (.p .lenS), [(.t 52)], none⟩,
    ⟨(some 54), none, (.p .mv), [(.t 5)], none⟩,
    ⟨(some 55), none, (.p (.bin .sub)), [(.t 53), (.t 54)], none⟩,
    ⟨(some 56), none, (.p (.bin .add)), [(.t 55), (.c (.int .i64 (.ofNat 1)))], none⟩,
    ⟨(some 9), none, (.p .mv), [(.t 56)], none⟩])
  (.keep [0, 1, 5, 6, 7, 8, 9] (.seq (.reg [⟨(some 10), none, (.p .mv), [(.c (.int .i64 (.ofNat 0)))], none⟩])
  (.keep [0, 1, 5, 6, 7, 8, 9, 10] (.seq (.block 1
   (.loop
    (.keep [0, 1, 5, 6, 7, 8, 9, 10] (.seq (.seq (.reg [⟨(some 57), none, (.p .mv), [(.t 8)], none⟩,
      ⟨(some 58), none, (.p .mv), [(.t 9)], none⟩,
      ⟨(some 59), none, (.p (.bin .lss)), [(.t 57), (.t 58)], none⟩])
    (.keep [0, 1, 5, 6, 7, 8, 9, 10, 59] (.cond (.t 59)
     .skip
     (.keep [] (.exit 1)))))
    (.keep [0, 1, 5, 6, 7, 8, 9, 10] (.block 2
     (.seq (.seq (.reg [⟨(some 60), none, (.p .mv), [(.t 0)], none⟩,
       ⟨(some 61), none, (.p .mv), [(.t 8)], none⟩,
       ⟨(some 62), none, (.p .strIndex), [(.t 60), (.t 61)], none⟩,
       ⟨(some 63), none, (.p .mv), [(.t 6)], none⟩,
       ⟨(some 64), none, (.p (.bin .neq)), [(.t 62), (.t 63)], none⟩])
     (.keep [0, 1, 5, 6, 7, 8, 9, 10, 64] (.cond (.t 64)
      (.seq (.reg [⟨(some 65), none, (.p .mv), [(.t 0)], none⟩,
        ⟨(some 66), none, (.p .mv), [(.t 8)], none⟩,
        ⟨(some 67), none, (.p (.bin .add)), [(.t 66), (.c (.int .i64 (.ofNat 1)))], none⟩,
        ⟨(some 68), none, (.p .mv), [(.t 9)], none⟩,
        ⟨(some 69), none, (.p (.strSlice true true)), [(.t 65), (.t 67), (.t 68)], none⟩,
        ⟨(some 70), none, (.p .mv), [(.t 6)], none⟩,
        ⟨(some 71), none, (.call 131), [(.t 69), (.t 70)], none⟩,
        ⟨(some 11), none, (.p .mv), [(.t 71)], none⟩])
      (.keep [0, 1, 5, 6, 7, 8, 9, 10, 11] (.seq (.seq (.reg [⟨(some 72), none, (.p .mv), [(.t 11)], none⟩,
        ⟨(some 73), none, (.p (.bin .lss)), [(.t 72), (.c (.int .i64 (.ofNat 0)))], none⟩])
      (.keep [0, 1, 5, 6, 7, 8, 9, 10, 11, 73] (.cond (.t 73)
       (.seq (.reg [⟨(some 4), none, (.p .mv), [(.c (.int .i64 (.negSucc 0)))], none⟩])
       (.keep [4] (.keep [4] .ret)))
       .skip)))
      (.keep [0, 1, 5, 6, 7, 8, 9, 10, 11] (.reg [⟨(some 74), none, (.p .mv), [(.t 8)], none⟩,
        ⟨(some 75), none, (.p .mv), [(.t 11)], none⟩,
        ⟨(some 76), none, (.p (.bin .add)), [(.t 75), (.c (.int .i64 (.ofNat 1)))], none⟩,
        ⟨(some 77), none, (.p (.bin .add)), [(.t 74), (.t 76)], none⟩,
        ⟨(some 8), none, (.p .mv), [(.t 77)], none⟩])))))
      .skip)))
     (.keep [0, 1, 5, 6, 7, 8, 9, 10] (.seq (.seq (.reg [⟨(some 78), none, (.p .mv), [(.t 0)], none⟩,
       ⟨(some 79), none, (.p .mv), [(.t 8)], none⟩,
       ⟨(some 80), none, (.p (.bin .add)), [(.t 79), (.c (.int .i64 (.ofNat 1)))], none⟩,
       ⟨(some 81), none, (.p .strIndex), [(.t 78), (.t 80)], none⟩,
       ⟨(some 82), none, (.p .mv), [(.t 7)], none⟩,
       ⟨(some 83), none, (.p (.bin .eql)), [(.t 81), (.t 82)], none⟩,
       ⟨(some 84), none, (.p .mv), [(.t 83)], none⟩,
       ⟨(some 85), some (84, true), (.p .mv), [(.t 0)], none⟩,
       ⟨(some 86), some (84, true), (.p .mv), [(.t 8)], none⟩,
       ⟨(some 87), some (84, true), (.p .mv), [(.t 8)], none⟩,
       ⟨(some 88), some (84, true), (.p .mv), [(.t 5)], none⟩,
       ⟨(some 89), some (84, true), (.p (.bin .add)), [(.t 87), (.t 88)], none⟩,
       ⟨(some 90), some (84, true), (.p (.strSlice true true)), [(.t 85), (.t 86), (.t 89)], none⟩,
       ⟨(some 91), some (84, true), (.p .mv), [(.t 1)], none⟩,
       ⟨(some 92), some (84, true), (.p (.bin .eql)), [(.t 90), (.t 91)], none⟩,
       ⟨(some 93), none, (.p .pick), [(.t 84), (.t 92), (.c (.bool false))], none⟩])
     (.keep [0, 1, 5, 6, 7, 8, 9, 10, 93] (.cond (.t 93)
      (.seq (.reg [⟨(some 94), none, (.p .mv), [(.t 8)], none⟩,
        ⟨(some 4), none, (.p .mv), [(.t 94)], none⟩])
      (.keep [4] (.keep [4] .ret)))
      .skip)))
     (.keep [0, 1, 5, 6, 7, 8, 9, 10] (.seq (.reg [⟨(some 95), none, (.p .mv), [(.t 8)], none⟩,
       ⟨(some 96), none, (.p (.bin .add)), [(.t 95), (.c (.int .i64 (.ofNat 1)))], none⟩,
       ⟨(some 8), none, (.p .mv), [(.t 96)], none⟩])
     (.keep [0, 1, 5, 6, 7, 8, 9, 10] (.seq (.reg [⟨(some 97), none, (.p .mv), [(.t 10)], none⟩,
       ⟨(some 98), none, (.p (.bin .add)), [(.t 97), (.c (.int .i64 (.ofNat 1)))], none⟩,
       ⟨(some 10), none, (.p .mv), [(.t 98)], none⟩])
     (.keep [0, 1, 5, 6, 7, 8, 9, 10] (.seq (.reg [⟨(some 99), none, (.p .mv), [(.t 5)], none⟩,
       ⟨(some 100), none, (.l (.load none)), [(.c (.ptr 5 0))], none⟩,
       ⟨(some 101), none, (.p (.bin .leq)), [(.t 99), (.t 100)], none⟩,
       ⟨(some 102), none, (.p .mv), [(.t 101)], none⟩,
       ⟨(some 103), some (102, true), (.p .mv), [(.t 10)], none⟩,
       ⟨(some 104), some (102, true), (.p .mv), [(.t 8)], none⟩,
       ⟨(some 105), some (102, true), (.call 128), [(.t 104)], none⟩,
       ⟨(some 106), some (102, true), (.p (.bin .gtr)), [(.t 103), (.t 105)], none⟩,
       ⟨(some 107), none, (.p .pick), [(.t 102), (.t 106), (.c (.bool false))], none⟩])
     (.keep [0, 1, 5, 6, 7, 8, 9, 10, 107] (.cond (.t 107)
      (.seq .bad
      (.keep [8, 12] (.seq (.seq (.reg [⟨(some 113), none, (.p .mv), [(.t 12)], none⟩,
        ⟨(some 114), none, (.p (.bin .geq)), [(.t 113), (.c (.int .i64 (.ofNat 0)))], none⟩])
      (.keep [8, 12, 114] (.cond (.t 114)
       (.seq (.reg [⟨(some 115), none, (.p .mv), [(.t 12)], none⟩,
         ⟨(some 116), none, (.p .mv), [(.t 8)], none⟩,
         ⟨(some 117), none, (.p (.bin .add)), [(.t 115), (.t 116)], none⟩,
         ⟨(some 4), none, (.p .mv), [(.t 117)], none⟩])
       (.keep [4] (.keep [4] .ret)))
       .skip)))
      (.keep [] (.seq (.reg [⟨(some 4), none, (.p .mv), [(.c (.int .i64 (.negSucc 0)))], none⟩])
      (.keep [4] (.keep [4] .ret)))))))
      (.seq (.reg [⟨(some 118), none, (.p .mv), [(.t 5)], none⟩,
        ⟨(some 119), none, (.l (.load none)), [(.c (.ptr 5 0))], none⟩,
        ⟨(some 120), none, (.p (.bin .gtr)), [(.t 118), (.t 119)], none⟩,
        ⟨(some 121), none, (.p .mv), [(.t 120)], none⟩,
        ⟨(some 122), some (121, true), (.p .mv), [(.t 10)], none⟩,
        ⟨(some 123), some (121, true), (.p .mv), [(.t 8)], none⟩,
        ⟨(some 124), some (121, true), (.p (.bin .shr)), [(.t 123), (.c (.int .u64 (.ofNat 4)))], none⟩,
        ⟨(some 125), some (121, true), (.p (.bin .add)), [(.c (.int .i64 (.ofNat 4))), (.t 124)], none⟩,
        ⟨(some 126), some (121, true), (.p (.bin .geq)), [(.t 122), (.t 125)], none⟩,
        ⟨(some 127), none, (.p .pick), [(.t 121), (.t 126), (.c (.bool false))], none⟩,
        ⟨(some 128), none, (.p .mv), [(.t 127)], none⟩,
        ⟨(some 129), some (128, true), (.p .mv), [(.t 8)], none⟩,
        ⟨(some 130), some (128, true), (.p .mv), [(.t 9)], none⟩,
        ⟨(some 131), some (128, true), (.p (.bin .lss)), [(.t 129), (.t 130)], none⟩,
        ⟨(some 132), none, (.p .pick), [(.t 128), (.t 131), (.c (.bool false))], none⟩])
      (.keep [0, 1, 5, 6, 7, 8, 9, 10, 132] (.cond (.t 132)
       (.seq (.reg [⟨(some 133), none, (.p .mv), [(.t 0)], none⟩,
         ⟨(some 134), none, (.p .mv), [(.t 8)], none⟩,
         ⟨(some 135), none, (.p (.strSlice true false)), [(.t 133), (.t 134)], none⟩,
         ⟨(some 136), none, (.p .mv), [(.t 1)], none⟩,
         ⟨(some 137), none, (.call 162), [(.t 135), (.t 136)], none⟩,
         ⟨(some 13), none, (.p .mv), [(.t 137)], none⟩])
       (.keep [8, 13] (.seq (.seq (.reg [⟨(some 138), none, (.p .mv), [(.t 13)], none⟩,
         ⟨(some 139), none, (.p (.bin .lss)), [(.t 138), (.c (.int .i64 (.ofNat 0)))], none⟩])
       (.keep [8, 13, 139] (.cond (.t 139)
        (.seq (.reg [⟨(some 4), none, (.p .mv), [(.c (.int .i64 (.negSucc 0)))], none⟩])
        (.keep [4] (.keep [4] .ret)))
        .skip)))
       (.keep [8, 13] (.seq (.reg [⟨(some 140), none, (.p .mv), [(.t 8)], none⟩,
         ⟨(some 141), none, (.p .mv), [(.t 13)], none⟩,
         ⟨(some 142), none, (.p (.bin .add)), [(.t 140), (.t 141)], none⟩,
         ⟨(some 4), none, (.p .mv), [(.t 142)], none⟩])
       (.keep [4] (.keep [4] .ret)))))))
       .skip))))))))))))))))))))
  (.keep [] (.seq (.reg [⟨(some 4), none, (.p .mv), [(.c (.int .i64 (.negSucc 0)))], none⟩])
  (.keep [4] (.keep [4] .ret))))))))))))))))))))),
  [(.t 4)]⟩
def s130_j0 (call : CallK) (N : Nat) (q : KV) (st : St) (τ : Tape) : Ans :=
  match st with
  | ⟨fr, H⟩ =>
  q (.int .i64 (.negSucc 0)) H τ
def s130_j2 (call : CallK) (N : Nat) (k : KC) (st : St) (τ : Tape) : Ans :=
  match st with
  | ⟨fr, H⟩ =>
  getK fr 0 fun t0 =>
  getK fr 1 fun t1 =>
  getK fr 5 fun t5 =>
  getK fr 6 fun t6 =>
  getK fr 7 fun t7 =>
  getK fr 8 fun t8 =>
  getK fr 9 fun t9 =>
  getK fr 10 fun t10 =>
  binK .add t8 (.int .i64 (.ofNat 1)) fun v39 =>
  someK (pStrIndex [t0, v39]) fun v40 =>
  binK .eql v40 t7 fun v41 =>
  gK v41 true (fun q' => q' t0 H τ) H τ fun v42 H43 τ44 =>
  gK v41 true (fun q' => q' t8 H43 τ44) H43 τ44 fun v45 H46 τ47 =>
  gK v41 true (fun q' => q' t8 H46 τ47) H46 τ47 fun v48 H49 τ50 =>
  gK v41 true (fun q' => q' t5 H49 τ50) H49 τ50 fun v51 H52 τ53 =>
  gK v41 true (fun q' => binK .add v48 v51 fun v => q' v H52 τ53) H52 τ53 fun v54 H55 τ56 =>
  gK v41 true (fun q' => someK (pStrSlice true true [v42, v45, v54]) fun v => q' v H55 τ56) H55 τ56 fun v57 H58 τ59 =>
  gK v41 true (fun q' => q' t1 H58 τ59) H58 τ59 fun v60 H61 τ62 =>
  gK v41 true (fun q' => binK .eql v57 v60 fun v => q' v H61 τ62) H61 τ62 fun v63 H64 τ65 =>
  someK (pPick [v41, v63, (.bool false)]) fun v66 =>
  condK v66
    (k .ret ⟨(T.set .leaf 4 t8), H64⟩ τ65)
    (binK .add t8 (.int .i64 (.ofNat 1)) fun v67 =>
  binK .add t10 (.int .i64 (.ofNat 1)) fun v68 =>
  someK (lLoad1 [(.ptr 5 0)] H64) fun v69 =>
  binK .leq t5 v69 fun v70 =>
  gK v70 true (fun q' => q' v68 H64 τ65) H64 τ65 fun v71 H72 τ73 =>
  gK v70 true (fun q' => q' v67 H72 τ73) H72 τ73 fun v74 H75 τ76 =>
  gK v70 true (fun q' => call 128 [v74] H75 τ76 q') H75 τ76 fun v77 H78 τ79 =>
  gK v70 true (fun q' => binK .gtr v71 v77 fun v => q' v H78 τ79) H78 τ79 fun v80 H81 τ82 =>
  someK (pPick [v70, v80, (.bool false)]) fun v83 =>
  condK v83
    (none)
    (someK (lLoad1 [(.ptr 5 0)] H81) fun v84 =>
  binK .gtr t5 v84 fun v85 =>
  gK v85 true (fun q' => q' v68 H81 τ82) H81 τ82 fun v86 H87 τ88 =>
  gK v85 true (fun q' => q' v67 H87 τ88) H87 τ88 fun v89 H90 τ91 =>
  gK v85 true (fun q' => binK .shr v89 (.int .u64 (.ofNat 4)) fun v => q' v H90 τ91) H90 τ91 fun v92 H93 τ94 =>
  gK v85 true (fun q' => binK .add (.int .i64 (.ofNat 4)) v92 fun v => q' v H93 τ94) H93 τ94 fun v95 H96 τ97 =>
  gK v85 true (fun q' => binK .geq v86 v95 fun v => q' v H96 τ97) H96 τ97 fun v98 H99 τ100 =>
  someK (pPick [v85, v98, (.bool false)]) fun v101 =>
  gK v101 true (fun q' => q' v67 H99 τ100) H99 τ100 fun v102 H103 τ104 =>
  gK v101 true (fun q' => q' t9 H103 τ104) H103 τ104 fun v105 H106 τ107 =>
  gK v101 true (fun q' => binK .lss v102 v105 fun v => q' v H106 τ107) H106 τ107 fun v108 H109 τ110 =>
  someK (pPick [v101, v108, (.bool false)]) fun v111 =>
  condK v111
    (someK (pStrSlice true false [t0, v67]) fun v112 =>
  call 162 [v112, t1] H109 τ110 fun v113 H114 τ115 =>
  binK .lss v113 (.int .i64 (.ofNat 0)) fun v116 =>
  condK v116
    (k .ret ⟨(T.set .leaf 4 (.int .i64 (.negSucc 0))), H114⟩ τ115)
    (binK .add v67 v113 fun v117 =>
  k .ret ⟨(T.set .leaf 4 v117), H114⟩ τ115))
    (k .normal ⟨(T.set (T.set (T.set (T.set (T.set (T.set (T.set (T.set (T.set .leaf 0 t0) 1 t1) 5 t5) 6 t6) 7 t7) 8 v67) 9 t9) 10 v68) 132 v111), H109⟩ τ110)))
def s130_l1 (call : CallK) (N : Nat) (st : St) (τ : Tape) (k : KC) : Ans :=
  match st with
  | ⟨fr, H⟩ =>
  getK fr 0 fun t0 =>
  getK fr 1 fun t1 =>
  getK fr 5 fun t5 =>
  getK fr 6 fun t6 =>
  getK fr 7 fun t7 =>
  getK fr 8 fun t8 =>
  getK fr 9 fun t9 =>
  getK fr 10 fun t10 =>
  binK .lss t8 t9 fun v36 =>
  condK v36
    (someK (pStrIndex [t0, t8]) fun v37 =>
  binK .neq v37 t6 fun v38 =>
  condK v38
    (binK .add t8 (.int .i64 (.ofNat 1)) fun v118 =>
  someK (pStrSlice true true [t0, v118, t9]) fun v119 =>
  call 131 [v119, t6] H τ fun v120 H121 τ122 =>
  binK .lss v120 (.int .i64 (.ofNat 0)) fun v123 =>
  condK v123
    (k .ret ⟨(T.set .leaf 4 (.int .i64 (.negSucc 0))), H121⟩ τ122)
    (binK .add v120 (.int .i64 (.ofNat 1)) fun v124 =>
  binK .add t8 v124 fun v125 =>
  s130_j2 call N k ⟨(T.set (T.set (T.set (T.set (T.set (T.set (T.set (T.set (T.set (T.set (T.set (T.set (T.set (T.set .leaf 0 t0) 1 t1) 5 t5) 6 t6) 7 t7) 8 t8) 9 t9) 10 t10) 11 v120) 74 t8) 75 v120) 76 v124) 77 v125) 8 v125), H121⟩ τ122))
    (s130_j2 call N k ⟨(T.set (T.set (T.set (T.set (T.set (T.set (T.set (T.set (T.set .leaf 0 t0) 1 t1) 5 t5) 6 t6) 7 t7) 8 t8) 9 t9) 10 t10) 64 v38), H⟩ τ))
    (k (.exit 1) ⟨.leaf, H⟩ τ)
def s130 (call : CallK) (N : Nat) (a0 a1 : V) (H : Heap) (τ : Tape) (q : KV) : Ans :=
  someK (pLenS [a1]) fun v0 =>
  binK .eql v0 (.int .i64 (.ofNat 0)) fun v1 =>
  gK v1 false (fun q' => q' a1 H τ) H τ fun v2 H3 τ4 =>
  gK v1 false (fun q' => q' a0 H3 τ4) H3 τ4 fun v5 H6 τ7 =>
  gK v1 false (fun q' => binK .eql v2 v5 fun v => q' v H6 τ7) H6 τ7 fun v8 H9 τ10 =>
  someK (pPick [v1, (.bool true), v8]) fun v11 =>
  condK v11
    (q (.int .i64 (.ofNat 0)) H9 τ10)
    (binK .eql v0 (.int .i64 (.ofNat 1)) fun v12 =>
  condK v12
    (someK (pStrIndex [a1, (.int .i64 (.ofNat 0))]) fun v13 =>
  call 131 [a0, v13] H9 τ10 fun v14 H15 τ16 =>
  q v14 H15 τ16)
    (someK (pLenS [a0]) fun v17 =>
  binK .geq v0 v17 fun v18 =>
  condK v18
    (q (.int .i64 (.negSucc 0)) H9 τ10)
    (someK (lLoad1 [(.ptr 5 0)] H9) fun v19 =>
  binK .leq v0 v19 fun v20 =>
  gK v20 true (fun q' => q' a0 H9 τ10) H9 τ10 fun v21 H22 τ23 =>
  gK v20 true (fun q' => someK (pLenS [v21]) fun v => q' v H22 τ23) H22 τ23 fun v24 H25 τ26 =>
  gK v20 true (fun q' => binK .leq v24 (.int .i64 (.ofNat 64)) fun v => q' v H25 τ26) H25 τ26 fun v27 H28 τ29 =>
  someK (pPick [v20, v27, (.bool false)]) fun v30 =>
  condK v30
    (none)
    (someK (pStrIndex [a1, (.int .i64 (.ofNat 0))]) fun v31 =>
  someK (pStrIndex [a1, (.int .i64 (.ofNat 1))]) fun v32 =>
  someK (pLenS [a0]) fun v33 =>
  binK .sub v33 v0 fun v34 =>
  binK .add v34 (.int .i64 (.ofNat 1)) fun v35 =>
  loopK (s130_l1 call N) N ⟨(T.set (T.set (T.set (T.set (T.set (T.set (T.set (T.set .leaf 0 a0) 1 a1) 5 v0) 6 v31) 7 v32) 8 (.int .i64 (.ofNat 0))) 9 v35) 10 (.int .i64 (.ofNat 0))), H28⟩ τ29 (blockK 1 (seqK (s130_j0 call N q) (endK [(.t 4)] q)))))))
theorem s130_eq (call : CallK) (N : Nat) (a0 a1 : V) (H : Heap) (τ : Tape) (q : KV) : s130 call N a0 a1 H τ q = funK call N fn130 [a0, a1] H τ q := by kernel_rfl
def e130 (call : CallK) (N : Nat) (vs : List V) (H : Heap) (τ : Tape) (q : KV) : Ans := match vs with | [a0, a1] => s130 call N a0 a1 H τ q | _ => none
theorem e130_ok : EntOk fn130 e130 := by
  intro call N vs H τ q r h
  unfold e130 at h
  split at h
  · rw [s130_eq] at h; exact h
  · cases h
theorem e130_nat : EntNat e130 := by
  intro c hn N vs H τ q
  unfold e130
  split
  · rw [s130_eq, s130_eq]; exact funK_ent hn _ _ _ _ _ _
  · rfl
/-- strings.trimLeftByte -/
def fn140 : Fun := ⟨2,
  (.seq (.reg [⟨(some 4), none, (.p .mv), [(.c (.str []))], none⟩])
  (.keep [0, 1] (.seq (.block 0
   (.loop
    (.keep [0, 1] (.seq (.seq (.reg [⟨(some 5), none, (.p .mv), [(.t 0)], none⟩,
      ⟨(some 6), none, (.p .lenS), [(.t 5)], none⟩,
      ⟨(some 7), none, (.p (.bin .gtr)), [(.t 6), (.c (.int .i64 (.ofNat 0)))], none⟩,
      ⟨(some 8), none, (.p .mv), [(.t 7)], none⟩,
      ⟨(some 9), some (8, true), (.p .mv), [(.t 0)], none⟩,
      ⟨(some 10), some (8, true), (.p .strIndex), [(.t 9), (.c (.int .i64 (.ofNat 0)))], none⟩,
      ⟨(some 11), some (8, true), (.p .mv), [(.t 1)], none⟩,
      ⟨(some 12), some (8, true), (.p (.bin .eql)), [(.t 10), (.t 11)], none⟩,
      ⟨(some 13), none, (.p .pick), [(.t 8), (.t 12), (.c (.bool false))], none⟩])
    (.keep [0, 1, 13] (.cond (.t 13)
     .skip
     (.keep [0] (.exit 0)))))
    (.keep [0, 1] (.block 1
     (.reg [⟨(some 14), none, (.p .mv), [(.t 0)], none⟩,
       ⟨(some 15), none, (.p (.strSlice true false)), [(.t 14), (.c (.int .i64 (.ofNat 1)))], none⟩,
       ⟨(some 0), none, (.p .mv), [(.t 15)], none⟩])))))))
  (.keep [0] (.seq (.reg [⟨(some 16), none, (.p .mv), [(.t 0)], none⟩,
    ⟨(some 4), none, (.p .mv), [(.t 16)], none⟩])
  (.keep [4] (.keep [4] .ret))))))),
  [(.t 4)]⟩
def s140_j0 (call : CallK) (N : Nat) (q : KV) (st : St) (τ : Tape) : Ans :=
  match st with
  | ⟨fr, H⟩ =>
  getK fr 0 fun t0 =>
  q t0 H τ
def s140_l1 (call : CallK) (N : Nat) (st : St) (τ : Tape) (k : KC) : Ans :=
  match st with
  | ⟨fr, H⟩ =>
  getK fr 0 fun t0 =>
  getK fr 1 fun t1 =>
  someK (pLenS [t0]) fun v0 =>
  binK .gtr v0 (.int .i64 (.ofNat 0)) fun v1 =>
  gK v1 true (fun q' => q' t0 H τ) H τ fun v2 H3 τ4 =>
  gK v1 true (fun q' => someK (pStrIndex [v2, (.int .i64 (.ofNat 0))]) fun v => q' v H3 τ4) H3 τ4 fun v5 H6 τ7 =>
  gK v1 true (fun q' => q' t1 H6 τ7) H6 τ7 fun v8 H9 τ10 =>
  gK v1 true (fun q' => binK .eql v5 v8 fun v => q' v H9 τ10) H9 τ10 fun v11 H12 τ13 =>
  someK (pPick [v1, v11, (.bool false)]) fun v14 =>
  condK v14
    (someK (pStrSlice true false [t0, (.int .i64 (.ofNat 1))]) fun v15 =>
  k .normal ⟨(T.set (T.set (T.set (T.set (T.set .leaf 0 t0) 1 t1) 14 t0) 15 v15) 0 v15), H12⟩ τ13)
    (k (.exit 0) ⟨(T.set .leaf 0 t0), H12⟩ τ13)
def s140 (call : CallK) (N : Nat) (a0 a1 : V) (H : Heap) (τ : Tape) (q : KV) : Ans :=
  loopK (s140_l1 call N) N ⟨(T.set (T.set .leaf 0 a0) 1 a1), H⟩ τ (blockK 0 (seqK (s140_j0 call N q) (endK [(.t 4)] q)))
theorem s140_eq (call : CallK) (N : Nat) (a0 a1 : V) (H : Heap) (τ : Tape) (q : KV) : s140 call N a0 a1 H τ q = funK call N fn140 [a0, a1] H τ q := by kernel_rfl
def e140 (call : CallK) (N : Nat) (vs : List V) (H : Heap) (τ : Tape) (q : KV) : Ans := match vs with | [a0, a1] => s140 call N a0 a1 H τ q | _ => none
theorem e140_ok : EntOk fn140 e140 := by
  intro call N vs H τ q r h
  unfold e140 at h
  split at h
  · rw [s140_eq] at h; exact h
  · cases h
theorem e140_nat : EntNat e140 := by
  intro c hn N vs H τ q
  unfold e140
  split
  · rw [s140_eq, s140_eq]; exact funK_ent hn _ _ _ _ _ _
  · rfl
/-- strings.trimRightByte -/
def fn141 : Fun := ⟨2,
  (.seq (.reg [⟨(some 4), none, (.p .mv), [(.c (.str []))], none⟩])
  (.keep [0, 1] (.seq (.block 0
   (.loop
    (.keep [0, 1] (.seq (.seq (.reg [⟨(some 5), none, (.p .mv), [(.t 0)], none⟩,
      ⟨(some 6), none, (.p .lenS), [(.t 5)], none⟩,
      ⟨(some 7), none, (.p (.bin .gtr)), [(.t 6), (.c (.int .i64 (.ofNat 0)))], none⟩,
      ⟨(some 8), none, (.p .mv), [(.t 7)], none⟩,
      ⟨(some 9), some (8, true), (.p .mv), [(.t 0)], none⟩,
      ⟨(some 10), some (8, true), (.p .mv), [(.t 0)], none⟩,
      ⟨(some 11), some (8, true), (.p .lenS), [(.t 10)], none⟩,
      ⟨(some 12), some (8, true), (.p (.bin .sub)), [(.t 11), (.c (.int .i64 (.ofNat 1)))], none⟩,
      ⟨(some 13), some (8, true), (.p .strIndex), [(.t 9), (.t 12)], none⟩,
      ⟨(some 14), some (8, true), (.p .mv), [(.t 1)], none⟩,
      ⟨(some 15), some (8, true), (.p (.bin .eql)), [(.t 13), (.t 14)], none⟩,
      ⟨(some 16), none, (.p .pick), [(.t 8), (.t 15), (.c (.bool false))], none⟩])
    (.keep [0, 1, 16] (.cond (.t 16)
     .skip
     (.keep [0] (.exit 0)))))
    (.keep [0, 1] (.block 1
     (.reg [⟨(some 17), none, (.p .mv), [(.t 0)], none⟩,
       ⟨(some 18), none, (.p .mv), [(.t 0)], none⟩,
       ⟨(some 19), none, (.p .lenS), [(.t 18)], none⟩,
       ⟨(some 20), none, (.p (.bin .sub)), [(.t 19), (.c (.int .i64 (.ofNat 1)))], none⟩,
       ⟨(some 21), none, (.p (.strSlice false true)), [(.t 17), (.t 20)], none⟩,
       ⟨(some 0), none, (.p .mv), [(.t 21)], none⟩])))))))
  (.keep [0] (.seq (.reg [⟨(some 22), none, (.p .mv), [(.t 0)], none⟩,
    ⟨(some 4), none, (.p .mv), [(.t 22)], none⟩])
  (.keep [4] (.keep [4] .ret))))))),
  [(.t 4)]⟩
def s141_j0 (call : CallK) (N : Nat) (q : KV) (st : St) (τ : Tape) : Ans :=
  match st with
  | ⟨fr, H⟩ =>
  getK fr 0 fun t0 =>
  q t0 H τ
def s141_l1 (call : CallK) (N : Nat) (st : St) (τ : Tape) (k : KC) : Ans :=
  match st with
  | ⟨fr, H⟩ =>
  getK fr 0 fun t0 =>
  getK fr 1 fun t1 =>
  someK (pLenS [t0]) fun v0 =>
  binK .gtr v0 (.int .i64 (.ofNat 0)) fun v1 =>
  gK v1 true (fun q' => q' t0 H τ) H τ fun v2 H3 τ4 =>
  gK v1 true (fun q' => q' t0 H3 τ4) H3 τ4 fun v5 H6 τ7 =>
  gK v1 true (fun q' => someK (pLenS [v5]) fun v => q' v H6 τ7) H6 τ7 fun v8 H9 τ10 =>
  gK v1 true (fun q' => binK .sub v8 (.int .i64 (.ofNat 1)) fun v => q' v H9 τ10) H9 τ10 fun v11 H12 τ13 =>
  gK v1 true (fun q' => someK (pStrIndex [v2, v11]) fun v => q' v H12 τ13) H12 τ13 fun v14 H15 τ16 =>
  gK v1 true (fun q' => q' t1 H15 τ16) H15 τ16 fun v17 H18 τ19 =>
  gK v1 true (fun q' => binK .eql v14 v17 fun v => q' v H18 τ19) H18 τ19 fun v20 H21 τ22 =>
  someK (pPick [v1, v20, (.bool false)]) fun v23 =>
  condK v23
    (someK (pLenS [t0]) fun v24 =>
  binK .sub v24 (.int .i64 (.ofNat 1)) fun v25 =>
  someK (pStrSlice false true [t0, v25]) fun v26 =>
  k .normal ⟨(T.set (T.set (T.set (T.set (T.set (T.set (T.set (T.set .leaf 0 t0) 1 t1) 17 t0) 18 t0) 19 v24) 20 v25) 21 v26) 0 v26), H21⟩ τ22)
    (k (.exit 0) ⟨(T.set .leaf 0 t0), H21⟩ τ22)
def s141 (call : CallK) (N : Nat) (a0 a1 : V) (H : Heap) (τ : Tape) (q : KV) : Ans :=
  loopK (s141_l1 call N) N ⟨(T.set (T.set .leaf 0 a0) 1 a1), H⟩ τ (blockK 0 (seqK (s141_j0 call N q) (endK [(.t 4)] q)))
theorem s141_eq (call : CallK) (N : Nat) (a0 a1 : V) (H : Heap) (τ : Tape) (q : KV) : s141 call N a0 a1 H τ q = funK call N fn141 [a0, a1] H τ q := by kernel_rfl
def e141 (call : CallK) (N : Nat) (vs : List V) (H : Heap) (τ : Tape) (q : KV) : Ans := match vs with | [a0, a1] => s141 call N a0 a1 H τ q | _ => none
theorem e141_ok : EntOk fn141 e141 := by
  intro call N vs H τ q r h
  unfold e141 at h
  split at h
  · rw [s141_eq] at h; exact h
  · cases h
theorem e141_nat : EntNat e141 := by
  intro c hn N vs H τ q
  unfold e141
  split
  · rw [s141_eq, s141_eq]; exact funK_ent hn _ _ _ _ _ _
  · rfl
/-- strings.makeASCIISet -/
def fn142 : Fun := ⟨1,
  (.seq (.reg [⟨(some 2), none, (.e (.alloc (repl 256 [(.bool false)]))), [], none⟩,
    ⟨(some 3), none, (.p .mv), [(.c (.bool false))], none⟩])
  (.keep [0, 2] (.seq (.seq (.reg [⟨(some 4), none, (.p .mv), [(.c (.int .i64 (.ofNat 0)))], none⟩])
  (.keep [0, 2, 4] (.block 0
   (.loop
    (.keep [0, 2, 4] (.seq (.seq (.reg [⟨(some 6), none, (.p .mv), [(.t 4)], none⟩,
      ⟨(some 7), none, (.p .mv), [(.t 0)], none⟩,
      ⟨(some 8), none, (.p .lenS), [(.t 7)], none⟩,
      ⟨(some 9), none, (.p (.bin .lss)), [(.t 6), (.t 8)], none⟩])
    (.keep [0, 2, 4, 9] (.cond (.t 9)
     .skip
     (.keep [2] (.exit 0)))))
    (.keep [0, 2, 4] (.seq (.block 1
     (.seq (.reg [⟨(some 12), none, (.p .mv), [(.t 0)], none⟩,
       ⟨(some 13), none, (.p .mv), [(.t 4)], none⟩,
       ⟨(some 14), none, (.p .strIndex), [(.t 12), (.t 13)], none⟩,
       ⟨(some 5), none, (.p .mv), [(.t 14)], none⟩])
     (.keep [0, 2, 4, 5] (.seq (.seq (.reg [⟨(some 15), none, (.p .mv), [(.t 5)], none⟩,
       ⟨(some 16), none, (.p (.bin .geq)), [(.t 15), (.c (.int .u8 (.ofNat 128)))], none⟩])
     (.keep [0, 2, 4, 5, 16] (.cond (.t 16)
      (.seq (.reg [⟨(some 17), none, (.l (.load (some 256))), [(.t 2)], none⟩,
        ⟨none, none, (.e (.store 256)), [(.t 2), (.t 17)], none⟩,
        ⟨(some 3), none, (.p .mv), [(.c (.bool false))], none⟩])
      (.keep [2, 3] (.keep [2, 3] .ret)))
      .skip)))
     (.keep [0, 2, 4, 5] (.reg [⟨(some 18), none, (.p .mv), [(.t 5)], none⟩,
       ⟨(some 19), none, (.p (.arrIdx 256 1)), [(.t 2), (.t 18)], none⟩,
       ⟨none, none, (.e (.store 1)), [(.t 19), (.c (.bool true))], none⟩]))))))
    (.keep [0, 2, 4] (.reg [⟨(some 10), none, (.p .mv), [(.t 4)], none⟩,
      ⟨(some 11), none, (.p (.bin .add)), [(.t 10), (.c (.int .i64 (.ofNat 1)))], none⟩,
      ⟨(some 4), none, (.p .mv), [(.t 11)], none⟩]))))))))))
  (.keep [2] (.seq (.reg [⟨(some 20), none, (.l (.load (some 256))), [(.t 2)], none⟩,
    ⟨none, none, (.e (.store 256)), [(.t 2), (.t 20)], none⟩,
    ⟨(some 3), none, (.p .mv), [(.c (.bool true))], none⟩])
  (.keep [2, 3] (.keep [2, 3] .ret))))))),
  [(.cell 2 (some 256)), (.t 3)]⟩
def s142_j0 (call : CallK) (N : Nat) (q : KV) (st : St) (τ : Tape) : Ans :=
  match st with
  | ⟨fr, H⟩ =>
  getK fr 2 fun t2 =>
  someK (lLoadN 256 [t2] H) fun v3 =>
  effK (eStore 256 [t2, v3] H τ) fun v4 H5 τ6 =>
  someK (results ⟨(T.set (T.set .leaf 2 t2) 3 (.bool true)), H5⟩ [(.cell 2 (some 256)), (.t 3)]) fun v => q v H5 τ6
def s142_l1 (call : CallK) (N : Nat) (st : St) (τ : Tape) (k : KC) : Ans :=
  match st with
  | ⟨fr, H⟩ =>
  getK fr 0 fun t0 =>
  getK fr 2 fun t2 =>
  getK fr 4 fun t4 =>
  someK (pLenS [t0]) fun v7 =>
  binK .lss t4 v7 fun v8 =>
  condK v8
    (someK (pStrIndex [t0, t4]) fun v9 =>
  binK .geq v9 (.int .u8 (.ofNat 128)) fun v10 =>
  condK v10
    (someK (lLoadN 256 [t2] H) fun v11 =>
  effK (eStore 256 [t2, v11] H τ) fun v12 H13 τ14 =>
  k .ret ⟨(T.set (T.set .leaf 2 t2) 3 (.bool false)), H13⟩ τ14)
    (someK (pArrIdx 256 1 [t2, v9]) fun v15 =>
  effK (eStore 1 [v15, (.bool true)] H τ) fun v16 H17 τ18 =>
  binK .add t4 (.int .i64 (.ofNat 1)) fun v19 =>
  k .normal ⟨(T.set (T.set (T.set (T.set (T.set (T.set .leaf 0 t0) 2 t2) 4 t4) 10 t4) 11 v19) 4 v19), H17⟩ τ18))
    (k (.exit 0) ⟨(T.set .leaf 2 t2), H⟩ τ)
def s142 (call : CallK) (N : Nat) (a0 : V) (H : Heap) (τ : Tape) (q : KV) : Ans :=
  effK (eAlloc (repl 256 [(.bool false)]) [] H τ) fun v0 H1 τ2 =>
  loopK (s142_l1 call N) N ⟨(T.set (T.set (T.set .leaf 0 a0) 2 v0) 4 (.int .i64 (.ofNat 0))), H1⟩ τ2 (blockK 0 (seqK (s142_j0 call N q) (endK [(.cell 2 (some 256)), (.t 3)] q)))
theorem s142_eq (call : CallK) (N : Nat) (a0 : V) (H : Heap) (τ : Tape) (q : KV) : s142 call N a0 H τ q = funK call N fn142 [a0] H τ q := by kernel_rfl
def e142 (call : CallK) (N : Nat) (vs : List V) (H : Heap) (τ : Tape) (q : KV) : Ans := match vs with | [a0] => s142 call N a0 H τ q | _ => none
theorem e142_ok : EntOk fn142 e142 := by
  intro call N vs H τ q r h
  unfold e142 at h
  split at h
  · rw [s142_eq] at h; exact h
  · cases h
theorem e142_nat : EntNat e142 := by
  intro c hn N vs H τ q
  unfold e142
  split
  · rw [s142_eq, s142_eq]; exact funK_ent hn _ _ _ _ _ _
  · rfl
/-- strings.trimLeftASCII -/
def fn143 : Fun := ⟨2,
  (.seq (.reg [⟨(some 4), none, (.p .mv), [(.c (.str []))], none⟩])
  (.keep [0, 1] (.seq (.block 0
   (.loop
    (.keep [0, 1] (.seq (.seq (.reg [⟨(some 5), none, (.p .mv), [(.t 0)], none⟩,
      ⟨(some 6), none, (.p .lenS), [(.t 5)], none⟩,
      ⟨(some 7), none, (.p (.bin .gtr)), [(.t 6), (.c (.int .i64 (.ofNat 0)))], none⟩])
    (.keep [0, 1, 7] (.cond (.t 7)
     .skip
     (.keep [0] (.exit 0)))))
    (.keep [0, 1] (.block 1
     (.seq (.seq (.reg [⟨(some 8), none, (.p .mv), [(.t 1)], none⟩,
       ⟨(some 9), none, (.p .mv), [(.t 0)], none⟩,
       ⟨(some 10), none, (.p .strIndex), [(.t 9), (.c (.int .i64 (.ofNat 0)))], none⟩,
       ⟨(some 11), none, (.call 171), [(.t 8), (.t 10)], none⟩,
       ⟨(some 12), none, (.p (.un .not)), [(.t 11)], none⟩])
     (.keep [0, 1, 12] (.cond (.t 12)
      (.keep [0] (.exit 0))
      .skip)))
     (.keep [0, 1] (.reg [⟨(some 13), none, (.p .mv), [(.t 0)], none⟩,
       ⟨(some 14), none, (.p (.strSlice true false)), [(.t 13), (.c (.int .i64 (.ofNat 1)))], none⟩,
       ⟨(some 0), none, (.p .mv), [(.t 14)], none⟩])))))))))
  (.keep [0] (.seq (.reg [⟨(some 15), none, (.p .mv), [(.t 0)], none⟩,
    ⟨(some 4), none, (.p .mv), [(.t 15)], none⟩])
  (.keep [4] (.keep [4] .ret))))))),
  [(.t 4)]⟩
def s143_j0 (call : CallK) (N : Nat) (q : KV) (st : St) (τ : Tape) : Ans :=
  match st with
  | ⟨fr, H⟩ =>
  getK fr 0 fun t0 =>
  q t0 H τ
def s143_l1 (call : CallK) (N : Nat) (st : St) (τ : Tape) (k : KC) : Ans :=
  match st with
  | ⟨fr, H⟩ =>
  getK fr 0 fun t0 =>
  getK fr 1 fun t1 =>
  someK (pLenS [t0]) fun v0 =>
  binK .gtr v0 (.int .i64 (.ofNat 0)) fun v1 =>
  condK v1
    (someK (pStrIndex [t0, (.int .i64 (.ofNat 0))]) fun v2 =>
  call 171 [t1, v2] H τ fun v3 H4 τ5 =>
  unK .not v3 fun v6 =>
  condK v6
    (k (.exit 0) ⟨(T.set .leaf 0 t0), H4⟩ τ5)
    (someK (pStrSlice true false [t0, (.int .i64 (.ofNat 1))]) fun v7 =>
  k .normal ⟨(T.set (T.set (T.set (T.set (T.set .leaf 0 t0) 1 t1) 13 t0) 14 v7) 0 v7), H4⟩ τ5))
    (k (.exit 0) ⟨(T.set .leaf 0 t0), H⟩ τ)
def s143 (call : CallK) (N : Nat) (a0 a1 : V) (H : Heap) (τ : Tape) (q : KV) : Ans :=
  loopK (s143_l1 call N) N ⟨(T.set (T.set .leaf 0 a0) 1 a1), H⟩ τ (blockK 0 (seqK (s143_j0 call N q) (endK [(.t 4)] q)))
theorem s143_eq (call : CallK) (N : Nat) (a0 a1 : V) (H : Heap) (τ : Tape) (q : KV) : s143 call N a0 a1 H τ q = funK call N fn143 [a0, a1] H τ q := by kernel_rfl
def e143 (call : CallK) (N : Nat) (vs : List V) (H : Heap) (τ : Tape) (q : KV) : Ans := match vs with | [a0, a1] => s143 call N a0 a1 H τ q | _ => none
theorem e143_ok : EntOk fn143 e143 := by
  intro call N vs H τ q r h
  unfold e143 at h
  split at h
  · rw [s143_eq] at h; exact h
  · cases h
theorem e143_nat : EntNat e143 := by
  intro c hn N vs H τ q
  unfold e143
  split
  · rw [s143_eq, s143_eq]; exact funK_ent hn _ _ _ _ _ _
  · rfl
/-- strings.trimRightASCII -/
def fn144 : Fun := ⟨2,
  (.seq (.reg [⟨(some 4), none, (.p .mv), [(.c (.str []))], none⟩])
  (.keep [0, 1] (.seq (.block 0
   (.loop
    (.keep [0, 1] (.seq (.seq (.reg [⟨(some 5), none, (.p .mv), [(.t 0)], none⟩,
      ⟨(some 6), none, (.p .lenS), [(.t 5)], none⟩,
      ⟨(some 7), none, (.p (.bin .gtr)), [(.t 6), (.c (.int .i64 (.ofNat 0)))], none⟩])
    (.keep [0, 1, 7] (.cond (.t 7)
     .skip
     (.keep [0] (.exit 0)))))
    (.keep [0, 1] (.block 1
     (.seq (.seq (.reg [⟨(some 8), none, (.p .mv), [(.t 1)], none⟩,
       ⟨(some 9), none, (.p .mv), [(.t 0)], none⟩,
       ⟨(some 10), none, (.p .mv), [(.t 0)], none⟩,
       ⟨(some 11), none, (.p .lenS), [(.t 10)], none⟩,
       ⟨(some 12), none, (.p (.bin .sub)), [(.t 11), (.c (.int .i64 (.ofNat 1)))], none⟩,
       ⟨(some 13), none, (.p .strIndex), [(.t 9), (.t 12)], none⟩,
       ⟨(some 14), none, (.call 171), [(.t 8), (.t 13)], none⟩,
       ⟨(some 15), none, (.p (.un .not)), [(.t 14)], none⟩])
     (.keep [0, 1, 15] (.cond (.t 15)
      (.keep [0] (.exit 0))
      .skip)))
     (.keep [0, 1] (.reg [⟨(some 16), none, (.p .mv), [(.t 0)], none⟩,
       ⟨(some 17), none, (.p .mv), [(.t 0)], none⟩,
       ⟨(some 18), none, (.p .lenS), [(.t 17)], none⟩,
       ⟨(some 19), none, (.p (.bin .sub)), [(.t 18), (.c (.int .i64 (.ofNat 1)))], none⟩,
       ⟨(some 20), none, (.p (.strSlice false true)), [(.t 16), (.t 19)], none⟩,
       ⟨(some 0), none, (.p .mv), [(.t 20)], none⟩])))))))))
  (.keep [0] (.seq (.reg [⟨(some 21), none, (.p .mv), [(.t 0)], none⟩,
    ⟨(some 4), none, (.p .mv), [(.t 21)], none⟩])
  (.keep [4] (.keep [4] .ret))))))),
  [(.t 4)]⟩
def s144_j0 (call : CallK) (N : Nat) (q : KV) (st : St) (τ : Tape) : Ans :=
  match st with
  | ⟨fr, H⟩ =>
  getK fr 0 fun t0 =>
  q t0 H τ
def s144_l1 (call : CallK) (N : Nat) (st : St) (τ : Tape) (k : KC) : Ans :=
  match st with
  | ⟨fr, H⟩ =>
  getK fr 0 fun t0 =>
  getK fr 1 fun t1 =>
  someK (pLenS [t0]) fun v0 =>
  binK .gtr v0 (.int .i64 (.ofNat 0)) fun v1 =>
  condK v1
    (someK (pLenS [t0]) fun v2 =>
  binK .sub v2 (.int .i64 (.ofNat 1)) fun v3 =>
  someK (pStrIndex [t0, v3]) fun v4 =>
  call 171 [t1, v4] H τ fun v5 H6 τ7 =>
  unK .not v5 fun v8 =>
  condK v8
    (k (.exit 0) ⟨(T.set .leaf 0 t0), H6⟩ τ7)
    (someK (pLenS [t0]) fun v9 =>
  binK .sub v9 (.int .i64 (.ofNat 1)) fun v10 =>
  someK (pStrSlice false true [t0, v10]) fun v11 =>
  k .normal ⟨(T.set (T.set (T.set (T.set (T.set (T.set (T.set (T.set .leaf 0 t0) 1 t1) 16 t0) 17 t0) 18 v9) 19 v10) 20 v11) 0 v11), H6⟩ τ7))
    (k (.exit 0) ⟨(T.set .leaf 0 t0), H⟩ τ)
def s144 (call : CallK) (N : Nat) (a0 a1 : V) (H : Heap) (τ : Tape) (q : KV) : Ans :=
  loopK (s144_l1 call N) N ⟨(T.set (T.set .leaf 0 a0) 1 a1), H⟩ τ (blockK 0 (seqK (s144_j0 call N q) (endK [(.t 4)] q)))
theorem s144_eq (call : CallK) (N : Nat) (a0 a1 : V) (H : Heap) (τ : Tape) (q : KV) : s144 call N a0 a1 H τ q = funK call N fn144 [a0, a1] H τ q := by kernel_rfl
def e144 (call : CallK) (N : Nat) (vs : List V) (H : Heap) (τ : Tape) (q : KV) : Ans := match vs with | [a0, a1] => s144 call N a0 a1 H τ q | _ => none
theorem e144_ok : EntOk fn144 e144 := by
  intro call N vs H τ q r h
  unfold e144 at h
  split at h
  · rw [s144_eq] at h; exact h
  · cases h
theorem e144_nat : EntNat e144 := by
  intro c hn N vs H τ q
  unfold e144
  split
  · rw [s144_eq, s144_eq]; exact funK_ent hn _ _ _ _ _ _
  · rfl
end Go.Am.AmTrydAge
