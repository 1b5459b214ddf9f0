/- The abstract machine's texts for the law IntegrityNumbers: printed functions of the program, and what they are shown to be. -/
import Derived.Test.YtpfaceclaigpgaaDoorAm30
import Derived.KernelRfl
namespace Go.Am.AmTrydIntegrityNumbers
set_option maxRecDepth 1000000
set_option linter.unusedVariables false
/-- ostiary/ostiarylaw9.IntegrityNumbers -/
def fn7 : Fun := ⟨0,
  (.seq (.reg [⟨(some 0), none, (.p .mv), [(.c (.bool false))], none⟩])
  (.keep [] (.seq (.reg [⟨(some 6), none, (.e (.buildSlice 3 1 [(.int .u8 (.ofNat 0)), (.int .u8 (.ofNat 0)), (.int .u8 (.ofNat 0))] [(0, 1), (1, 1), (2, 1)])), [(.c (.int .u8 (.ofNat 97))), (.c (.int .u8 (.ofNat 98))), (.c (.int .u8 (.ofNat 99)))], none⟩,
    ⟨(some 7), none, (.e .mark), [(.t 6)], none⟩,
    ⟨(some 8), none, (.call 36), [(.c (.int .i64 (.ofNat 256))), (.t 7)], none⟩,
    ⟨(some 5), none, (.p .mv), [(.t 8)], none⟩,
    ⟨(some 9), none, (.p (.extract 0)), [(.t 5)], none⟩,
    ⟨(some 10), none, (.p (.extract 1)), [(.t 5)], none⟩,
    ⟨(some 1), none, (.p .mv), [(.t 9)], none⟩,
    ⟨(some 2), none, (.p .mv), [(.t 10)], none⟩])
  (.keep [1, 2] (.seq (.reg [⟨(some 12), none, (.call 36), [(.c (.int .i64 (.ofNat 5))), (.c .nils)], none⟩,
    ⟨(some 11), none, (.p .mv), [(.t 12)], none⟩,
    ⟨(some 13), none, (.p (.extract 0)), [(.t 11)], none⟩,
    ⟨(some 14), none, (.p (.extract 1)), [(.t 11)], none⟩,
    ⟨(some 3), none, (.p .mv), [(.t 13)], none⟩,
    ⟨(some 4), none, (.p .mv), [(.t 14)], none⟩])
  (.keep [1, 2, 4] (.seq (.reg [⟨(some 15), none, (.call 21), [(.c (.str (bs [109, 100, 53, 45, 120]))), (.c .nils)], none⟩,
    ⟨(some 16), none, (.p .mv), [(.t 15)], none⟩,
    ⟨(some 17), some (16, true), (.call 16), [(.c (.str (bs [115, 104, 97, 50, 53, 54])))], none⟩,
    ⟨(some 18), some (16, true), (.p .len), [(.t 17)], none⟩,
    ⟨(some 19), some (16, true), (.p (.bin .eql)), [(.t 18), (.c (.int .i64 (.ofNat 0)))], none⟩,
    ⟨(some 20), none, (.p .pick), [(.t 16), (.t 19), (.c (.bool false))], none⟩,
    ⟨(some 21), none, (.p .mv), [(.t 20)], none⟩,
    ⟨(some 22), some (21, true), (.p .mv), [(.t 1)], none⟩,
    ⟨(some 23), some (21, true), (.p (.bin .eql)), [(.t 22), (.c (.str (bs [115, 104, 97, 50, 53, 54, 45, 117, 110, 103, 87, 118, 52, 56, 66, 122, 43, 112, 66, 81, 85, 68, 101, 88, 97, 52, 105, 73, 55, 65, 68, 89, 97, 79, 87, 70, 51, 113, 99, 116, 66, 68, 47, 89, 102, 73, 65, 70, 97, 48, 61])))], none⟩,
    ⟨(some 24), none, (.p .pick), [(.t 21), (.t 23), (.c (.bool false))], none⟩,
    ⟨(some 25), none, (.p .mv), [(.t 24)], none⟩,
    ⟨(some 26), some (25, true), (.p .mv), [(.t 2)], none⟩,
    ⟨(some 27), some (25, true), (.p (.bin .eql)), [(.t 26), (.c (.int .i64 (.ofNat 0)))], none⟩,
    ⟨(some 28), none, (.p .pick), [(.t 25), (.t 27), (.c (.bool false))], none⟩,
    ⟨(some 29), none, (.p .mv), [(.t 28)], none⟩,
    ⟨(some 30), some (29, true), (.p .mv), [(.t 4)], none⟩,
    ⟨(some 31), some (29, true), (.p (.bin .eql)), [(.t 30), (.c (.int .i64 (.ofNat 1)))], none⟩,
    ⟨(some 32), none, (.p .pick), [(.t 29), (.t 31), (.c (.bool false))], none⟩,
    ⟨(some 33), none, (.p .mv), [(.t 32)], none⟩,
    ⟨(some 34), some (33, true), (.p .mv), [(.t 1)], none⟩,
    ⟨(some 35), some (33, true), (.e (.buildSlice 3 1 [(.int .u8 (.ofNat 0)), (.int .u8 (.ofNat 0)), (.int .u8 (.ofNat 0))] [(0, 1), (1, 1), (2, 1)])), [(.c (.int .u8 (.ofNat 97))), (.c (.int .u8 (.ofNat 98))), (.c (.int .u8 (.ofNat 99)))], none⟩,
    ⟨(some 36), some (33, true), (.e .mark), [(.t 35)], none⟩,
    ⟨(some 37), some (33, true), (.call 21), [(.t 34), (.t 36)], none⟩,
    ⟨(some 38), none, (.p .pick), [(.t 33), (.t 37), (.c (.bool false))], none⟩,
    ⟨(some 39), none, (.p .mv), [(.t 38)], none⟩,
    ⟨(some 40), some (39, true), (.p .mv), [(.t 1)], none⟩,
    ⟨(some 41), some (39, true), (.e (.buildSlice 3 1 [(.int .u8 (.ofNat 0)), (.int .u8 (.ofNat 0)), (.int .u8 (.ofNat 0))] [(0, 1), (1, 1), (2, 1)])), [(.c (.int .u8 (.ofNat 97))), (.c (.int .u8 (.ofNat 98))), (.c (.int .u8 (.ofNat 100)))], none⟩,
    ⟨(some 42), some (39, true), (.e .mark), [(.t 41)], none⟩,
    ⟨(some 43), some (39, true), (.call 21), [(.t 40), (.t 42)], none⟩,
    ⟨(some 44), some (39, true), (.p (.un .not)), [(.t 43)], none⟩,
    ⟨(some 45), none, (.p .pick), [(.t 39), (.t 44), (.c (.bool false))], none⟩,
    ⟨(some 46), none, (.p .mv), [(.t 45)], none⟩,
    ⟨(some 47), some (46, true), (.call 19), [(.c .nils)], none⟩,
    ⟨(some 48), some (46, true), (.p .len), [(.t 47)], none⟩,
    ⟨(some 49), some (46, true), (.p (.bin .eql)), [(.t 48), (.c (.int .i64 (.ofNat 0)))], none⟩,
    ⟨(some 50), none, (.p .pick), [(.t 46), (.t 49), (.c (.bool false))], none⟩,
    ⟨(some 51), none, (.p .mv), [(.t 50)], none⟩,
    ⟨(some 52), some (51, true), (.call 24), [], none⟩,
    ⟨(some 53), none, (.p .pick), [(.t 51), (.t 52), (.c (.bool false))], none⟩,
    ⟨(some 0), none, (.p .mv), [(.t 53)], none⟩])
  (.keep [0] (.keep [0] .ret))))))))),
  [(.t 0)]⟩
def s7 (call : CallK) (N : Nat) (H : Heap) (τ : Tape) (q : KV) : Ans :=
  effK (eBuildSlice 3 1 [(.int .u8 (.ofNat 0)), (.int .u8 (.ofNat 0)), (.int .u8 (.ofNat 0))] [(0, 1), (1, 1), (2, 1)] [(.int .u8 (.ofNat 97)), (.int .u8 (.ofNat 98)), (.int .u8 (.ofNat 99))] H τ) fun v0 H1 τ2 =>
  effK (eMark [v0] H1 τ2) fun v3 H4 τ5 =>
  call 36 [(.int .i64 (.ofNat 256)), v3] H4 τ5 fun v6 H7 τ8 =>
  someK (pExtract 0 [v6]) fun v9 =>
  someK (pExtract 1 [v6]) fun v10 =>
  call 36 [(.int .i64 (.ofNat 5)), .nils] H7 τ8 fun v11 H12 τ13 =>
  someK (pExtract 0 [v11]) fun v14 =>
  someK (pExtract 1 [v11]) fun v15 =>
  call 21 [(.str (bs [109, 100, 53, 45, 120])), .nils] H12 τ13 fun v16 H17 τ18 =>
  gK v16 true (fun q' => call 16 [(.str (bs [115, 104, 97, 50, 53, 54]))] H17 τ18 q') H17 τ18 fun v19 H20 τ21 =>
  gK v16 true (fun q' => someK (pLen [v19]) fun v => q' v H20 τ21) H20 τ21 fun v22 H23 τ24 =>
  gK v16 true (fun q' => binK .eql v22 (.int .i64 (.ofNat 0)) fun v => q' v H23 τ24) H23 τ24 fun v25 H26 τ27 =>
  someK (pPick [v16, v25, (.bool false)]) fun v28 =>
  gK v28 true (fun q' => q' v9 H26 τ27) H26 τ27 fun v29 H30 τ31 =>
  gK v28 true (fun q' => binK .eql v29 (.str (bs [115, 104, 97, 50, 53, 54, 45, 117, 110, 103, 87, 118, 52, 56, 66, 122, 43, 112, 66, 81, 85, 68, 101, 88, 97, 52, 105, 73, 55, 65, 68, 89, 97, 79, 87, 70, 51, 113, 99, 116, 66, 68, 47, 89, 102, 73, 65, 70, 97, 48, 61])) fun v => q' v H30 τ31) H30 τ31 fun v32 H33 τ34 =>
  someK (pPick [v28, v32, (.bool false)]) fun v35 =>
  gK v35 true (fun q' => q' v10 H33 τ34) H33 τ34 fun v36 H37 τ38 =>
  gK v35 true (fun q' => binK .eql v36 (.int .i64 (.ofNat 0)) fun v => q' v H37 τ38) H37 τ38 fun v39 H40 τ41 =>
  someK (pPick [v35, v39, (.bool false)]) fun v42 =>
  gK v42 true (fun q' => q' v15 H40 τ41) H40 τ41 fun v43 H44 τ45 =>
  gK v42 true (fun q' => binK .eql v43 (.int .i64 (.ofNat 1)) fun v => q' v H44 τ45) H44 τ45 fun v46 H47 τ48 =>
  someK (pPick [v42, v46, (.bool false)]) fun v49 =>
  gK v49 true (fun q' => q' v9 H47 τ48) H47 τ48 fun v50 H51 τ52 =>
  gK v49 true (fun q' => effK (eBuildSlice 3 1 [(.int .u8 (.ofNat 0)), (.int .u8 (.ofNat 0)), (.int .u8 (.ofNat 0))] [(0, 1), (1, 1), (2, 1)] [(.int .u8 (.ofNat 97)), (.int .u8 (.ofNat 98)), (.int .u8 (.ofNat 99))] H51 τ52) q') H51 τ52 fun v53 H54 τ55 =>
  gK v49 true (fun q' => effK (eMark [v53] H54 τ55) q') H54 τ55 fun v56 H57 τ58 =>
  gK v49 true (fun q' => call 21 [v50, v56] H57 τ58 q') H57 τ58 fun v59 H60 τ61 =>
  someK (pPick [v49, v59, (.bool false)]) fun v62 =>
  gK v62 true (fun q' => q' v9 H60 τ61) H60 τ61 fun v63 H64 τ65 =>
  gK v62 true (fun q' => effK (eBuildSlice 3 1 [(.int .u8 (.ofNat 0)), (.int .u8 (.ofNat 0)), (.int .u8 (.ofNat 0))] [(0, 1), (1, 1), (2, 1)] [(.int .u8 (.ofNat 97)), (.int .u8 (.ofNat 98)), (.int .u8 (.ofNat 100))] H64 τ65) q') H64 τ65 fun v66 H67 τ68 =>
  gK v62 true (fun q' => effK (eMark [v66] H67 τ68) q') H67 τ68 fun v69 H70 τ71 =>
  gK v62 true (fun q' => call 21 [v63, v69] H70 τ71 q') H70 τ71 fun v72 H73 τ74 =>
  gK v62 true (fun q' => unK .not v72 fun v => q' v H73 τ74) H73 τ74 fun v75 H76 τ77 =>
  someK (pPick [v62, v75, (.bool false)]) fun v78 =>
  gK v78 true (fun q' => call 19 [.nils] H76 τ77 q') H76 τ77 fun v79 H80 τ81 =>
  gK v78 true (fun q' => someK (pLen [v79]) fun v => q' v H80 τ81) H80 τ81 fun v82 H83 τ84 =>
  gK v78 true (fun q' => binK .eql v82 (.int .i64 (.ofNat 0)) fun v => q' v H83 τ84) H83 τ84 fun v85 H86 τ87 =>
  someK (pPick [v78, v85, (.bool false)]) fun v88 =>
  gK v88 true (fun q' => call 24 [] H86 τ87 q') H86 τ87 fun v89 H90 τ91 =>
  someK (pPick [v88, v89, (.bool false)]) fun v92 =>
  q v92 H90 τ91
theorem s7_eq (call : CallK) (N : Nat) (H : Heap) (τ : Tape) (q : KV) : s7 call N  H τ q = funK call N fn7 [] H τ q := by kernel_rfl
def e7 (call : CallK) (N : Nat) (vs : List V) (H : Heap) (τ : Tape) (q : KV) : Ans := match vs with | [] => s7 call N  H τ q | _ => none
theorem e7_ok : EntOk fn7 e7 := by
  intro call N vs H τ q r h
  unfold e7 at h
  split at h
  · rw [s7_eq] at h; exact h
  · cases h
/-- ostiary/integrity.Parse -/
def fn16 : Fun := ⟨1,
  (.seq (.reg [⟨(some 2), none, (.p .mv), [(.c .nils)], none⟩])
  (.keep [0] (.seq (.reg [⟨(some 3), none, (.p .mv), [(.c .nils)], none⟩])
  (.keep [0, 3] (.seq (.seq (.reg [⟨(some 13), none, (.p .mv), [(.t 0)], none⟩,
    ⟨(some 14), none, (.call 59), [(.t 13), (.c (.func 60 [] []))], none⟩,
    ⟨(some 15), none, (.p .len), [(.t 14)], none⟩,
    ⟨(some 16), none, (.p .mv), [(.c (.int .i64 (.ofNat 0)))], none⟩])
  (.keep [3, 14, 15, 16] (.block 0
   (.loop
    (.keep [3, 14, 15, 16] (.seq (.reg [⟨(some 17), none, (.p (.bin .lss)), [(.t 16), (.t 15)], none⟩])
    (.keep [3, 14, 15, 16, 17] (.seq (.cond (.t 17)
     .skip
     (.keep [3] (.exit 0)))
    (.keep [3, 14, 15, 16] (.seq (.block 1
     (.seq (.reg [⟨(some 18), none, (.p (.slIdx 1)), [(.t 14), (.t 16)], none⟩,
       ⟨(some 19), none, (.l (.load none)), [(.t 18)], none⟩,
       ⟨(some 5), none, (.p .mv), [(.t 19)], none⟩])
     (.keep [3, 5, 14, 15, 16] (.seq (.reg [⟨(some 21), none, (.p .mv), [(.t 5)], none⟩,
       ⟨(some 22), none, (.call 62), [(.t 21), (.c (.str (bs [63])))], none⟩,
       ⟨(some 20), none, (.p .mv), [(.t 22)], none⟩,
       ⟨(some 23), none, (.p (.extract 0)), [(.t 20)], none⟩,
       ⟨(some 24), none, (.p (.extract 1)), [(.t 20)], none⟩,
       ⟨(some 25), none, (.p (.extract 2)), [(.t 20)], none⟩,
       ⟨(some 6), none, (.p .mv), [(.t 23)], none⟩,
       ⟨(some 7), none, (.p .mv), [(.t 24)], none⟩,
       ⟨(some 8), none, (.p .mv), [(.t 25)], none⟩])
     (.keep [3, 6, 7, 14, 15, 16] (.seq (.reg [⟨(some 27), none, (.p .mv), [(.t 6)], none⟩,
       ⟨(some 28), none, (.call 62), [(.t 27), (.c (.str (bs [45])))], none⟩,
       ⟨(some 26), none, (.p .mv), [(.t 28)], none⟩,
       ⟨(some 29), none, (.p (.extract 0)), [(.t 26)], none⟩,
       ⟨(some 30), none, (.p (.extract 1)), [(.t 26)], none⟩,
       ⟨(some 31), none, (.p (.extract 2)), [(.t 26)], none⟩,
       ⟨(some 9), none, (.p .mv), [(.t 29)], none⟩,
       ⟨(some 10), none, (.p .mv), [(.t 30)], none⟩,
       ⟨(some 11), none, (.p .mv), [(.t 31)], none⟩])
     (.keep [3, 7, 9, 10, 11, 14, 15, 16] (.seq (.reg [⟨(some 32), none, (.p .mv), [(.t 9)], none⟩,
       ⟨(some 33), none, (.call 63), [(.t 32)], none⟩,
       ⟨(some 12), none, (.p .mv), [(.t 33)], none⟩])
     (.keep [3, 7, 10, 11, 12, 14, 15, 16] (.seq (.reg [⟨(some 34), none, (.p .mv), [(.t 11)], none⟩,
       ⟨(some 35), none, (.p .mv), [(.t 34)], none⟩,
       ⟨(some 36), some (35, true), (.p .mv), [(.t 12)], none⟩,
       ⟨(some 37), some (35, true), (.p (.bin .gtr)), [(.t 36), (.c (.int .i64 (.ofNat 0)))], none⟩,
       ⟨(some 38), none, (.p .pick), [(.t 35), (.t 37), (.c (.bool false))], none⟩])
     (.keep [3, 7, 10, 12, 14, 15, 16, 38] (.cond (.t 38)
      (.reg [⟨(some 39), none, (.p .mv), [(.t 3)], none⟩,
        ⟨(some 40), none, (.p .mv), [(.t 12)], none⟩,
        ⟨(some 41), none, (.p .mv), [(.t 10)], none⟩,
        ⟨(some 42), none, (.p .mv), [(.t 7)], none⟩,
        ⟨(some 43), none, (.p (.build [(.int .i64 (.ofNat 0)), (.str []), (.str [])] [(0, 1), (1, 1), (2, 1)])), [(.t 40), (.t 41), (.t 42)], none⟩,
        ⟨(some 44), none, (.e (.buildSlice 1 3 [(.int .i64 (.ofNat 0)), (.str []), (.str [])] [(0, 3)])), [(.t 43)], none⟩,
        ⟨(some 45), none, (.e (.append 3 40)), [(.t 39), (.t 44)], none⟩,
        ⟨(some 3), none, (.p .mv), [(.t 45)], none⟩])
      .skip))))))))))))
    (.keep [3, 14, 15, 16] (.reg [⟨(some 46), none, (.p (.bin .add)), [(.t 16), (.c (.int .i64 (.ofNat 1)))], none⟩,
      ⟨(some 16), none, (.p .mv), [(.t 46)], none⟩]))))))))))))
  (.keep [3] (.seq (.reg [⟨(some 47), none, (.p .mv), [(.t 3)], none⟩,
    ⟨(some 2), none, (.p .mv), [(.t 47)], none⟩])
  (.keep [2] (.keep [2] .ret))))))))),
  [(.t 2)]⟩
def s16_j0 (call : CallK) (N : Nat) (q : KV) (st : St) (τ : Tape) : Ans :=
  match st with
  | ⟨fr, H⟩ =>
  getK fr 3 fun t3 =>
  q t3 H τ
def s16_j2 (call : CallK) (N : Nat) (k : KC) (st : St) (τ : Tape) : Ans :=
  match st with
  | ⟨fr, H⟩ =>
  getK fr 3 fun t3 =>
  getK fr 14 fun t14 =>
  getK fr 15 fun t15 =>
  getK fr 16 fun t16 =>
  binK .add t16 (.int .i64 (.ofNat 1)) fun v5 =>
  k .normal ⟨(T.set (T.set (T.set (T.set (T.set (T.set .leaf 3 t3) 14 t14) 15 t15) 16 t16) 46 v5) 16 v5), H⟩ τ
def s16_l1 (call : CallK) (N : Nat) (st : St) (τ : Tape) (k : KC) : Ans :=
  match st with
  | ⟨fr, H⟩ =>
  getK fr 3 fun t3 =>
  getK fr 14 fun t14 =>
  getK fr 15 fun t15 =>
  getK fr 16 fun t16 =>
  binK .lss t16 t15 fun v4 =>
  condK v4
    (someK (pSlIdx 1 [t14, t16]) fun v6 =>
  someK (lLoad1 [v6] H) fun v7 =>
  call 62 [v7, (.str (bs [63]))] H τ fun v8 H9 τ10 =>
  someK (pExtract 0 [v8]) fun v11 =>
  someK (pExtract 1 [v8]) fun v12 =>
  someK (pExtract 2 [v8]) fun v13 =>
  call 62 [v11, (.str (bs [45]))] H9 τ10 fun v14 H15 τ16 =>
  someK (pExtract 0 [v14]) fun v17 =>
  someK (pExtract 1 [v14]) fun v18 =>
  someK (pExtract 2 [v14]) fun v19 =>
  call 63 [v17] H15 τ16 fun v20 H21 τ22 =>
  gK v19 true (fun q' => q' v20 H21 τ22) H21 τ22 fun v23 H24 τ25 =>
  gK v19 true (fun q' => binK .gtr v23 (.int .i64 (.ofNat 0)) fun v => q' v H24 τ25) H24 τ25 fun v26 H27 τ28 =>
  someK (pPick [v19, v26, (.bool false)]) fun v29 =>
  condK v29
    (someK (pBuild [(.int .i64 (.ofNat 0)), (.str []), (.str [])] [(0, 1), (1, 1), (2, 1)] [v20, v18, v12]) fun v30 =>
  effK (eBuildSlice 1 3 [(.int .i64 (.ofNat 0)), (.str []), (.str [])] [(0, 3)] [v30] H27 τ28) fun v31 H32 τ33 =>
  effK (eAppend 3 40 [t3, v31] H32 τ33) fun v34 H35 τ36 =>
  s16_j2 call N k ⟨(T.set (T.set (T.set (T.set (T.set (T.set (T.set (T.set (T.set (T.set (T.set (T.set (T.set (T.set (T.set (T.set .leaf 3 t3) 7 v12) 10 v18) 12 v20) 14 t14) 15 t15) 16 t16) 38 v29) 39 t3) 40 v20) 41 v18) 42 v12) 43 v30) 44 v31) 45 v34) 3 v34), H35⟩ τ36)
    (s16_j2 call N k ⟨(T.set (T.set (T.set (T.set (T.set (T.set (T.set (T.set .leaf 3 t3) 7 v12) 10 v18) 12 v20) 14 t14) 15 t15) 16 t16) 38 v29), H27⟩ τ28))
    (k (.exit 0) ⟨(T.set .leaf 3 t3), H⟩ τ)
def s16 (call : CallK) (N : Nat) (a0 : V) (H : Heap) (τ : Tape) (q : KV) : Ans :=
  call 59 [a0, (.func 60 [] [])] H τ fun v0 H1 τ2 =>
  someK (pLen [v0]) fun v3 =>
  loopK (s16_l1 call N) N ⟨(T.set (T.set (T.set (T.set .leaf 3 .nils) 14 v0) 15 v3) 16 (.int .i64 (.ofNat 0))), H1⟩ τ2 (blockK 0 (seqK (s16_j0 call N q) (endK [(.t 2)] q)))
theorem s16_eq (call : CallK) (N : Nat) (a0 : V) (H : Heap) (τ : Tape) (q : KV) : s16 call N a0 H τ q = funK call N fn16 [a0] H τ q := by kernel_rfl
def e16 (call : CallK) (N : Nat) (vs : List V) (H : Heap) (τ : Tape) (q : KV) : Ans := match vs with | [a0] => s16 call N a0 H τ q | _ => none
theorem e16_ok : EntOk fn16 e16 := by
  intro call N vs H τ q r h
  unfold e16 at h
  split at h
  · rw [s16_eq] at h; exact h
  · cases h
/-- ostiary/ostiarylaw9.same -/
def fn18 : Fun := ⟨2,
  (.seq (.reg [⟨(some 4), none, (.p .mv), [(.c (.bool false))], none⟩])
  (.keep [0, 1] (.seq (.seq (.reg [⟨(some 6), none, (.p .mv), [(.t 0)], none⟩,
    ⟨(some 7), none, (.p .len), [(.t 6)], none⟩,
    ⟨(some 8), none, (.p .mv), [(.t 1)], none⟩,
    ⟨(some 9), none, (.p .len), [(.t 8)], none⟩,
    ⟨(some 10), none, (.p (.bin .neq)), [(.t 7), (.t 9)], none⟩])
  (.keep [0, 1, 10] (.cond (.t 10)
   (.seq (.reg [⟨(some 4), none, (.p .mv), [(.c (.bool false))], none⟩])
   (.keep [4] (.keep [4] .ret)))
   .skip)))
  (.keep [0, 1] (.seq (.seq (.reg [⟨(some 5), none, (.p .mv), [(.c (.int .i64 (.ofNat 0)))], none⟩])
  (.keep [0, 1, 5] (.block 0
   (.loop
    (.keep [0, 1, 5] (.seq (.seq (.reg [⟨(some 11), none, (.p .mv), [(.t 5)], none⟩,
      ⟨(some 12), none, (.p .mv), [(.t 0)], none⟩,
      ⟨(some 13), none, (.p .len), [(.t 12)], none⟩,
      ⟨(some 14), none, (.p (.bin .lss)), [(.t 11), (.t 13)], none⟩])
    (.keep [0, 1, 5, 14] (.cond (.t 14)
     .skip
     (.keep [] (.exit 0)))))
    (.keep [0, 1, 5] (.seq (.block 1
     (.seq (.draw [⟨(some 17), none, (.p .mv), [(.t 0)], none⟩,
       ⟨(some 18), none, (.p .mv), [(.t 5)], none⟩,
       ⟨(some 19), none, (.p (.slIdx 3)), [(.t 17), (.t 18)], none⟩,
       ⟨(some 20), none, (.l (.load (some 3))), [(.t 19)], none⟩,
       ⟨(some 21), none, (.p .mv), [(.t 1)], none⟩,
       ⟨(some 22), none, (.p .mv), [(.t 5)], none⟩,
       ⟨(some 23), none, (.p (.slIdx 3)), [(.t 21), (.t 22)], none⟩,
       ⟨(some 24), none, (.p (.fieldAddr 0)), [(.t 23)], none⟩,
       ⟨(some 25), none, (.l (.load none)), [(.t 24)], none⟩,
       ⟨(some 26), none, (.p .mv), [(.t 1)], none⟩,
       ⟨(some 27), none, (.p .mv), [(.t 5)], none⟩,
       ⟨(some 28), none, (.p (.slIdx 3)), [(.t 26), (.t 27)], none⟩,
       ⟨(some 29), none, (.p (.fieldAddr 1)), [(.t 28)], none⟩,
       ⟨(some 30), none, (.l (.load none)), [(.t 29)], none⟩,
       ⟨(some 31), none, (.p .mv), [(.t 1)], none⟩,
       ⟨(some 32), none, (.p .mv), [(.t 5)], none⟩,
       ⟨(some 33), none, (.p (.slIdx 3)), [(.t 31), (.t 32)], none⟩,
       ⟨(some 34), none, (.p (.fieldAddr 2)), [(.t 33)], none⟩,
       ⟨(some 35), none, (.l (.load none)), [(.t 34)], none⟩,
       ⟨(some 36), none, (.p (.build [(.int .i64 (.ofNat 0)), (.str []), (.str [])] [(0, 1), (1, 1), (2, 1)])), [(.t 25), (.t 30), (.t 35)], none⟩,
       ⟨(some 37), none, (.p (.eq true (.flat [.int, .str, .str]))), [(.t 20), (.t 36)], none⟩])
     (.keep [0, 1, 5, 37] (.cond (.t 37)
      (.seq (.reg [⟨(some 4), none, (.p .mv), [(.c (.bool false))], none⟩])
      (.keep [4] (.keep [4] .ret)))
      .skip))))
    (.keep [0, 1, 5] (.reg [⟨(some 15), none, (.p .mv), [(.t 5)], none⟩,
      ⟨(some 16), none, (.p (.bin .add)), [(.t 15), (.c (.int .i64 (.ofNat 1)))], none⟩,
      ⟨(some 5), none, (.p .mv), [(.t 16)], none⟩]))))))))))
  (.keep [] (.seq (.reg [⟨(some 4), none, (.p .mv), [(.c (.bool true))], none⟩])
  (.keep [4] (.keep [4] .ret))))))))),
  [(.t 4)]⟩
def s18_j0 (call : CallK) (N : Nat) (q : KV) (st : St) (τ : Tape) : Ans :=
  match st with
  | ⟨fr, H⟩ =>
  q (.bool true) H τ
def s18_l1 (call : CallK) (N : Nat) (st : St) (τ : Tape) (k : KC) : Ans :=
  match st with
  | ⟨fr, H⟩ =>
  getK fr 0 fun t0 =>
  getK fr 1 fun t1 =>
  getK fr 5 fun t5 =>
  someK (pLen [t0]) fun v3 =>
  binK .lss t5 v3 fun v4 =>
  condK v4
    (someK (pSlIdx 3 [t0, t5]) fun v5 =>
  someK (lLoadN 3 [v5] H) fun v6 =>
  someK (pSlIdx 3 [t1, t5]) fun v7 =>
  someK (pFieldAddr 0 [v7]) fun v8 =>
  someK (lLoad1 [v8] H) fun v9 =>
  someK (pSlIdx 3 [t1, t5]) fun v10 =>
  someK (pFieldAddr 1 [v10]) fun v11 =>
  someK (lLoad1 [v11] H) fun v12 =>
  someK (pSlIdx 3 [t1, t5]) fun v13 =>
  someK (pFieldAddr 2 [v13]) fun v14 =>
  someK (lLoad1 [v14] H) fun v15 =>
  someK (pBuild [(.int .i64 (.ofNat 0)), (.str []), (.str [])] [(0, 1), (1, 1), (2, 1)] [v9, v12, v15]) fun v16 =>
  someK (pEq true (.flat [.int, .str, .str]) [v6, v16]) fun v17 =>
  condK v17
    (k .ret ⟨(T.set .leaf 4 (.bool false)), H⟩ τ)
    (binK .add t5 (.int .i64 (.ofNat 1)) fun v18 =>
  k .normal ⟨(T.set (T.set (T.set (T.set (T.set (T.set .leaf 0 t0) 1 t1) 5 t5) 15 t5) 16 v18) 5 v18), H⟩ τ))
    (k (.exit 0) ⟨.leaf, H⟩ τ)
def s18 (call : CallK) (N : Nat) (a0 a1 : V) (H : Heap) (τ : Tape) (q : KV) : Ans :=
  someK (pLen [a0]) fun v0 =>
  someK (pLen [a1]) fun v1 =>
  binK .neq v0 v1 fun v2 =>
  condK v2
    (q (.bool false) H τ)
    (loopK (s18_l1 call N) N ⟨(T.set (T.set (T.set .leaf 0 a0) 1 a1) 5 (.int .i64 (.ofNat 0))), H⟩ τ (blockK 0 (seqK (s18_j0 call N q) (endK [(.t 4)] q))))
theorem s18_eq (call : CallK) (N : Nat) (a0 a1 : V) (H : Heap) (τ : Tape) (q : KV) : s18 call N a0 a1 H τ q = funK call N fn18 [a0, a1] H τ q := by kernel_rfl
def e18 (call : CallK) (N : Nat) (vs : List V) (H : Heap) (τ : Tape) (q : KV) : Ans := match vs with | [a0, a1] => s18 call N a0 a1 H τ q | _ => none
theorem e18_ok : EntOk fn18 e18 := by
  intro call N vs H τ q r h
  unfold e18 at h
  split at h
  · rw [s18_eq] at h; exact h
  · cases h
/-- ostiary/integrity.Strongest -/
def fn19 : Fun := ⟨1,
  (.seq (.reg [⟨(some 2), none, (.p .mv), [(.c .nils)], none⟩])
  (.keep [0] (.seq (.reg [⟨(some 3), none, (.e (.alloc [(.int .i64 (.ofNat 0))])), [], none⟩,
    ⟨none, none, (.e (.store 1)), [(.t 3), (.c (.int .i64 (.ofNat 0)))], none⟩])
  (.keep [0, 3] (.seq (.seq (.reg [⟨(some 6), none, (.p .mv), [(.t 0)], none⟩,
    ⟨(some 7), none, (.p .len), [(.t 6)], none⟩,
    ⟨(some 8), none, (.p .mv), [(.c (.int .i64 (.ofNat 0)))], none⟩])
  (.keep [0, 3, 6, 7, 8] (.block 0
   (.loop
    (.keep [0, 3, 6, 7, 8] (.seq (.reg [⟨(some 9), none, (.p (.bin .lss)), [(.t 8), (.t 7)], none⟩])
    (.keep [0, 3, 6, 7, 8, 9] (.seq (.cond (.t 9)
     .skip
     (.keep [0, 3] (.exit 0)))
    (.keep [0, 3, 6, 7, 8] (.seq (.block 1
     (.seq (.reg [⟨(some 10), none, (.p .mv), [(.t 8)], none⟩,
       ⟨(some 11), none, (.p (.slIdx 3)), [(.t 6), (.t 8)], none⟩,
       ⟨(some 12), none, (.l (.load (some 3))), [(.t 11)], none⟩,
       ⟨(some 5), none, (.e (.alloc [(.int .i64 (.ofNat 0)), (.str []), (.str [])])), [], none⟩,
       ⟨(some 4), none, (.p .mv), [(.t 10)], none⟩,
       ⟨none, none, (.e (.store 3)), [(.t 5), (.t 12)], none⟩])
     (.keep [0, 3, 4, 5, 6, 7, 8] (.seq (.reg [⟨(some 13), none, (.p .mv), [(.t 4)], none⟩,
       ⟨(some 14), none, (.p (.bin .eql)), [(.t 13), (.c (.int .i64 (.ofNat 0)))], none⟩,
       ⟨(some 15), none, (.p .mv), [(.t 14)], none⟩,
       ⟨(some 16), some (15, false), (.p (.fieldAddr 0)), [(.t 5)], none⟩,
       ⟨(some 17), some (15, false), (.l (.load none)), [(.t 16)], none⟩,
       ⟨(some 18), some (15, false), (.l (.load none)), [(.t 3)], none⟩,
       ⟨(some 19), some (15, false), (.p (.bin .gtr)), [(.t 17), (.t 18)], none⟩,
       ⟨(some 20), none, (.p .pick), [(.t 15), (.c (.bool true)), (.t 19)], none⟩])
     (.keep [0, 3, 5, 6, 7, 8, 20] (.cond (.t 20)
      (.reg [⟨(some 21), none, (.p (.fieldAddr 0)), [(.t 5)], none⟩,
        ⟨(some 22), none, (.l (.load none)), [(.t 21)], none⟩,
        ⟨none, none, (.e (.store 1)), [(.t 3), (.t 22)], none⟩])
      .skip))))))
    (.keep [0, 3, 6, 7, 8] (.reg [⟨(some 23), none, (.p (.bin .add)), [(.t 8), (.c (.int .i64 (.ofNat 1)))], none⟩,
      ⟨(some 8), none, (.p .mv), [(.t 23)], none⟩]))))))))))))
  (.keep [0, 3] (.seq (.reg [⟨(some 24), none, (.p .mv), [(.t 0)], none⟩,
    ⟨(some 25), none, (.p (.mkFunc 68 0)), [(.t 3)], none⟩,
    ⟨(some 26), none, (.call 67), [(.t 24), (.t 25)], none⟩,
    ⟨(some 2), none, (.p .mv), [(.t 26)], none⟩])
  (.keep [2] (.keep [2] .ret))))))))),
  [(.t 2)]⟩
def s19_j0 (call : CallK) (N : Nat) (q : KV) (st : St) (τ : Tape) : Ans :=
  match st with
  | ⟨fr, H⟩ =>
  getK fr 0 fun t0 =>
  getK fr 3 fun t3 =>
  someK (some (V.func 68 (List.take 0 [t3]) (List.drop 0 [t3]))) fun v7 =>
  call 67 [t0, v7] H τ fun v8 H9 τ10 =>
  q v8 H9 τ10
def s19_j2 (call : CallK) (N : Nat) (k : KC) (st : St) (τ : Tape) : Ans :=
  match st with
  | ⟨fr, H⟩ =>
  getK fr 0 fun t0 =>
  getK fr 3 fun t3 =>
  getK fr 6 fun t6 =>
  getK fr 7 fun t7 =>
  getK fr 8 fun t8 =>
  binK .add t8 (.int .i64 (.ofNat 1)) fun v12 =>
  k .normal ⟨(T.set (T.set (T.set (T.set (T.set (T.set (T.set .leaf 0 t0) 3 t3) 6 t6) 7 t7) 8 t8) 23 v12) 8 v12), H⟩ τ
def s19_l1 (call : CallK) (N : Nat) (st : St) (τ : Tape) (k : KC) : Ans :=
  match st with
  | ⟨fr, H⟩ =>
  getK fr 0 fun t0 =>
  getK fr 3 fun t3 =>
  getK fr 6 fun t6 =>
  getK fr 7 fun t7 =>
  getK fr 8 fun t8 =>
  binK .lss t8 t7 fun v11 =>
  condK v11
    (someK (pSlIdx 3 [t6, t8]) fun v13 =>
  someK (lLoadN 3 [v13] H) fun v14 =>
  effK (eAlloc [(.int .i64 (.ofNat 0)), (.str []), (.str [])] [] H τ) fun v15 H16 τ17 =>
  effK (eStore 3 [v15, v14] H16 τ17) fun v18 H19 τ20 =>
  binK .eql t8 (.int .i64 (.ofNat 0)) fun v21 =>
  gK v21 false (fun q' => someK (pFieldAddr 0 [v15]) fun v => q' v H19 τ20) H19 τ20 fun v22 H23 τ24 =>
  gK v21 false (fun q' => someK (lLoad1 [v22] H23) fun v => q' v H23 τ24) H23 τ24 fun v25 H26 τ27 =>
  gK v21 false (fun q' => someK (lLoad1 [t3] H26) fun v => q' v H26 τ27) H26 τ27 fun v28 H29 τ30 =>
  gK v21 false (fun q' => binK .gtr v25 v28 fun v => q' v H29 τ30) H29 τ30 fun v31 H32 τ33 =>
  someK (pPick [v21, (.bool true), v31]) fun v34 =>
  condK v34
    (someK (pFieldAddr 0 [v15]) fun v35 =>
  someK (lLoad1 [v35] H32) fun v36 =>
  effK (eStore 1 [t3, v36] H32 τ33) fun v37 H38 τ39 =>
  s19_j2 call N k ⟨(T.set (T.set (T.set (T.set (T.set (T.set (T.set (T.set (T.set .leaf 0 t0) 3 t3) 5 v15) 6 t6) 7 t7) 8 t8) 20 v34) 21 v35) 22 v36), H38⟩ τ39)
    (s19_j2 call N k ⟨(T.set (T.set (T.set (T.set (T.set (T.set (T.set .leaf 0 t0) 3 t3) 5 v15) 6 t6) 7 t7) 8 t8) 20 v34), H32⟩ τ33))
    (k (.exit 0) ⟨(T.set (T.set .leaf 0 t0) 3 t3), H⟩ τ)
def s19 (call : CallK) (N : Nat) (a0 : V) (H : Heap) (τ : Tape) (q : KV) : Ans :=
  effK (eAlloc [(.int .i64 (.ofNat 0))] [] H τ) fun v0 H1 τ2 =>
  effK (eStore 1 [v0, (.int .i64 (.ofNat 0))] H1 τ2) fun v3 H4 τ5 =>
  someK (pLen [a0]) fun v6 =>
  loopK (s19_l1 call N) N ⟨(T.set (T.set (T.set (T.set (T.set .leaf 0 a0) 3 v0) 6 a0) 7 v6) 8 (.int .i64 (.ofNat 0))), H4⟩ τ5 (blockK 0 (seqK (s19_j0 call N q) (endK [(.t 2)] q)))
theorem s19_eq (call : CallK) (N : Nat) (a0 : V) (H : Heap) (τ : Tape) (q : KV) : s19 call N a0 H τ q = funK call N fn19 [a0] H τ q := by kernel_rfl
def e19 (call : CallK) (N : Nat) (vs : List V) (H : Heap) (τ : Tape) (q : KV) : Ans := match vs with | [a0] => s19 call N a0 H τ q | _ => none
theorem e19_ok : EntOk fn19 e19 := by
  intro call N vs H τ q r h
  unfold e19 at h
  split at h
  · rw [s19_eq] at h; exact h
  · cases h
/-- ostiary/integrity.Holds -/
def fn21 : Fun := ⟨2,
  (.seq (.reg [⟨(some 3), none, (.e .box), [(.t 1)], none⟩,
    ⟨(some 4), none, (.p .mv), [(.c (.bool false))], none⟩])
  (.keep [0, 3] (.seq (.reg [⟨(some 7), none, (.p .mv), [(.t 0)], none⟩,
    ⟨(some 8), none, (.call 16), [(.t 7)], none⟩,
    ⟨(some 5), none, (.p .mv), [(.t 8)], none⟩])
  (.keep [3, 5] (.seq (.reg [⟨(some 9), none, (.p .mv), [(.t 5)], none⟩,
    ⟨(some 10), none, (.call 19), [(.t 9)], none⟩,
    ⟨(some 11), none, (.p (.mkFunc 69 0)), [(.t 3)], none⟩,
    ⟨(some 12), none, (.call 67), [(.t 10), (.t 11)], none⟩,
    ⟨(some 6), none, (.p .mv), [(.t 12)], none⟩])
  (.keep [5, 6] (.seq (.reg [⟨(some 13), none, (.p .mv), [(.t 5)], none⟩,
    ⟨(some 14), none, (.p .len), [(.t 13)], none⟩,
    ⟨(some 15), none, (.p (.bin .eql)), [(.t 14), (.c (.int .i64 (.ofNat 0)))], none⟩,
    ⟨(some 16), none, (.p .mv), [(.t 15)], none⟩,
    ⟨(some 17), some (16, false), (.p .mv), [(.t 6)], none⟩,
    ⟨(some 18), some (16, false), (.p .len), [(.t 17)], none⟩,
    ⟨(some 19), some (16, false), (.p (.bin .gtr)), [(.t 18), (.c (.int .i64 (.ofNat 0)))], none⟩,
    ⟨(some 20), none, (.p .pick), [(.t 16), (.c (.bool true)), (.t 19)], none⟩,
    ⟨(some 4), none, (.p .mv), [(.t 20)], none⟩])
  (.keep [4] (.keep [4] .ret))))))))),
  [(.t 4)]⟩
def s21 (call : CallK) (N : Nat) (a0 a1 : V) (H : Heap) (τ : Tape) (q : KV) : Ans :=
  effK (eBox [a1] H τ) fun v0 H1 τ2 =>
  call 16 [a0] H1 τ2 fun v3 H4 τ5 =>
  call 19 [v3] H4 τ5 fun v6 H7 τ8 =>
  someK (some (V.func 69 (List.take 0 [v0]) (List.drop 0 [v0]))) fun v9 =>
  call 67 [v6, v9] H7 τ8 fun v10 H11 τ12 =>
  someK (pLen [v3]) fun v13 =>
  binK .eql v13 (.int .i64 (.ofNat 0)) fun v14 =>
  gK v14 false (fun q' => q' v10 H11 τ12) H11 τ12 fun v15 H16 τ17 =>
  gK v14 false (fun q' => someK (pLen [v15]) fun v => q' v H16 τ17) H16 τ17 fun v18 H19 τ20 =>
  gK v14 false (fun q' => binK .gtr v18 (.int .i64 (.ofNat 0)) fun v => q' v H19 τ20) H19 τ20 fun v21 H22 τ23 =>
  someK (pPick [v14, (.bool true), v21]) fun v24 =>
  q v24 H22 τ23
theorem s21_eq (call : CallK) (N : Nat) (a0 a1 : V) (H : Heap) (τ : Tape) (q : KV) : s21 call N a0 a1 H τ q = funK call N fn21 [a0, a1] H τ q := by kernel_rfl
def e21 (call : CallK) (N : Nat) (vs : List V) (H : Heap) (τ : Tape) (q : KV) : Ans := match vs with | [a0, a1] => s21 call N a0 a1 H τ q | _ => none
theorem e21_ok : EntOk fn21 e21 := by
  intro call N vs H τ q r h
  unfold e21 at h
  split at h
  · rw [s21_eq] at h; exact h
  · cases h
/-- ostiary/ostiarylaw9.known -/
def fn24 : Fun := ⟨0,
  (.seq (.reg [⟨(some 0), none, (.p .mv), [(.c (.bool false))], none⟩])
  (.keep [] (.seq (.reg [⟨(some 1), none, (.call 16), [(.c (.str (bs [115, 104, 97, 50, 53, 54, 45, 97, 63, 98, 32, 83, 72, 65, 53, 49, 50, 45, 99, 32, 109, 100, 53, 45, 100])))], none⟩,
    ⟨(some 2), none, (.p (.build [(.int .i64 (.ofNat 0)), (.str []), (.str [])] [(0, 1), (1, 1), (2, 1)])), [(.c (.int .i64 (.ofNat 256))), (.c (.str (bs [97]))), (.c (.str (bs [98])))], none⟩,
    ⟨(some 3), none, (.p (.build [(.int .i64 (.ofNat 0)), (.str []), (.str [])] [(0, 1), (1, 1)])), [(.c (.int .i64 (.ofNat 512))), (.c (.str (bs [99])))], none⟩,
    ⟨(some 4), none, (.e (.buildSlice 2 3 [(.int .i64 (.ofNat 0)), (.str []), (.str []), (.int .i64 (.ofNat 0)), (.str []), (.str [])] [(0, 3), (3, 3)])), [(.t 2), (.t 3)], none⟩,
    ⟨(some 5), none, (.call 18), [(.t 1), (.t 4)], none⟩,
    ⟨(some 6), none, (.p .mv), [(.t 5)], none⟩,
    ⟨(some 7), some (6, true), (.call 21), [(.c (.str [])), (.c .nils)], none⟩,
    ⟨(some 8), none, (.p .pick), [(.t 6), (.t 7), (.c (.bool false))], none⟩,
    ⟨(some 9), none, (.p .mv), [(.t 8)], none⟩,
    ⟨(some 10), some (9, true), (.call 21), [(.c (.str (bs [115, 104, 97, 50, 53, 54, 45]))), (.c .nils)], none⟩,
    ⟨(some 11), some (9, true), (.p (.un .not)), [(.t 10)], none⟩,
    ⟨(some 12), none, (.p .pick), [(.t 9), (.t 11), (.c (.bool false))], none⟩,
    ⟨(some 0), none, (.p .mv), [(.t 12)], none⟩])
  (.keep [0] (.keep [0] .ret))))),
  [(.t 0)]⟩
def s24 (call : CallK) (N : Nat) (H : Heap) (τ : Tape) (q : KV) : Ans :=
  call 16 [(.str (bs [115, 104, 97, 50, 53, 54, 45, 97, 63, 98, 32, 83, 72, 65, 53, 49, 50, 45, 99, 32, 109, 100, 53, 45, 100]))] H τ fun v0 H1 τ2 =>
  someK (pBuild [(.int .i64 (.ofNat 0)), (.str []), (.str [])] [(0, 1), (1, 1), (2, 1)] [(.int .i64 (.ofNat 256)), (.str (bs [97])), (.str (bs [98]))]) fun v3 =>
  someK (pBuild [(.int .i64 (.ofNat 0)), (.str []), (.str [])] [(0, 1), (1, 1)] [(.int .i64 (.ofNat 512)), (.str (bs [99]))]) fun v4 =>
  effK (eBuildSlice 2 3 [(.int .i64 (.ofNat 0)), (.str []), (.str []), (.int .i64 (.ofNat 0)), (.str []), (.str [])] [(0, 3), (3, 3)] [v3, v4] H1 τ2) fun v5 H6 τ7 =>
  call 18 [v0, v5] H6 τ7 fun v8 H9 τ10 =>
  gK v8 true (fun q' => call 21 [(.str []), .nils] H9 τ10 q') H9 τ10 fun v11 H12 τ13 =>
  someK (pPick [v8, v11, (.bool false)]) fun v14 =>
  gK v14 true (fun q' => call 21 [(.str (bs [115, 104, 97, 50, 53, 54, 45])), .nils] H12 τ13 q') H12 τ13 fun v15 H16 τ17 =>
  gK v14 true (fun q' => unK .not v15 fun v => q' v H16 τ17) H16 τ17 fun v18 H19 τ20 =>
  someK (pPick [v14, v18, (.bool false)]) fun v21 =>
  q v21 H19 τ20
theorem s24_eq (call : CallK) (N : Nat) (H : Heap) (τ : Tape) (q : KV) : s24 call N  H τ q = funK call N fn24 [] H τ q := by kernel_rfl
def e24 (call : CallK) (N : Nat) (vs : List V) (H : Heap) (τ : Tape) (q : KV) : Ans := match vs with | [] => s24 call N  H τ q | _ => none
theorem e24_ok : EntOk fn24 e24 := by
  intro call N vs H τ q r h
  unfold e24 at h
  split at h
  · rw [s24_eq] at h; exact h
  · cases h
/-- ostiary/integrity.Make -/
def fn36 : Fun := ⟨2,
  (.seq (.reg [⟨(some 4), none, (.p .mv), [(.c (.str []))], none⟩,
    ⟨(some 5), none, (.p .mv), [(.c (.int .i64 (.ofNat 0)))], none⟩])
  (.keep [0, 1] (.seq (.reg [⟨(some 9), none, (.p .mv), [(.t 0)], none⟩,
    ⟨(some 10), none, (.p .mv), [(.t 1)], none⟩,
    ⟨(some 11), none, (.call 71), [(.t 9), (.t 10)], none⟩,
    ⟨(some 8), none, (.p .mv), [(.t 11)], none⟩,
    ⟨(some 12), none, (.p (.extract 0)), [(.t 8)], none⟩,
    ⟨(some 13), none, (.p (.extract 1)), [(.t 8)], none⟩,
    ⟨(some 6), none, (.p .mv), [(.t 12)], none⟩,
    ⟨(some 7), none, (.p .mv), [(.t 13)], none⟩])
  (.keep [0, 6, 7] (.seq (.seq (.reg [⟨(some 14), none, (.p .mv), [(.t 7)], none⟩,
    ⟨(some 15), none, (.p (.bin .neq)), [(.t 14), (.c (.int .i64 (.ofNat 0)))], none⟩])
  (.keep [0, 6, 7, 15] (.cond (.t 15)
   (.seq (.reg [⟨(some 16), none, (.p .mv), [(.t 7)], none⟩,
     ⟨(some 4), none, (.p .mv), [(.c (.str []))], none⟩,
     ⟨(some 5), none, (.p .mv), [(.t 16)], none⟩])
   (.keep [4, 5] (.keep [4, 5] .ret)))
   .skip)))
  (.keep [0, 6] (.seq (.reg [⟨(some 17), none, (.p .mv), [(.t 0)], none⟩,
    ⟨(some 18), none, (.call 82), [(.t 17)], none⟩,
    ⟨(some 19), none, (.p (.bin .add)), [(.c (.str (bs [115, 104, 97]))), (.t 18)], none⟩,
    ⟨(some 20), none, (.p (.bin .add)), [(.t 19), (.c (.str (bs [45])))], none⟩,
    ⟨(some 21), none, (.p .mv), [(.t 6)], none⟩,
    ⟨(some 22), none, (.call 83), [(.t 21)], none⟩,
    ⟨(some 23), none, (.p (.bin .add)), [(.t 20), (.t 22)], none⟩,
    ⟨(some 4), none, (.p .mv), [(.t 23)], none⟩,
    ⟨(some 5), none, (.p .mv), [(.c (.int .i64 (.ofNat 0)))], none⟩])
  (.keep [4, 5] (.keep [4, 5] .ret))))))))),
  [(.t 4), (.t 5)]⟩
def s36 (call : CallK) (N : Nat) (a0 a1 : V) (H : Heap) (τ : Tape) (q : KV) : Ans :=
  call 71 [a0, a1] H τ fun v0 H1 τ2 =>
  someK (pExtract 0 [v0]) fun v3 =>
  someK (pExtract 1 [v0]) fun v4 =>
  binK .neq v4 (.int .i64 (.ofNat 0)) fun v5 =>
  condK v5
    (q (.tup [(.str []), v4]) H1 τ2)
    (call 82 [a0] H1 τ2 fun v6 H7 τ8 =>
  binK .add (.str (bs [115, 104, 97])) v6 fun v9 =>
  binK .add v9 (.str (bs [45])) fun v10 =>
  call 83 [v3] H7 τ8 fun v11 H12 τ13 =>
  binK .add v10 v11 fun v14 =>
  q (.tup [v14, (.int .i64 (.ofNat 0))]) H12 τ13)
theorem s36_eq (call : CallK) (N : Nat) (a0 a1 : V) (H : Heap) (τ : Tape) (q : KV) : s36 call N a0 a1 H τ q = funK call N fn36 [a0, a1] H τ q := by kernel_rfl
def e36 (call : CallK) (N : Nat) (vs : List V) (H : Heap) (τ : Tape) (q : KV) : Ans := match vs with | [a0, a1] => s36 call N a0 a1 H τ q | _ => none
theorem e36_ok : EntOk fn36 e36 := by
  intro call N vs H τ q r h
  unfold e36 at h
  split at h
  · rw [s36_eq] at h; exact h
  · cases h
/-- strings.FieldsFunc -/
def fn59 : Fun := ⟨2,
  (.seq (.reg [⟨(some 4), none, (.p .mv), [(.c .nils)], none⟩])
  (.keep [0, 1] (.seq (.reg [⟨(some 12), none, (.e (.makeSlice 2 16 [(.int .i64 (.ofNat 0)), (.int .i64 (.ofNat 0))])), [(.c (.int .i64 (.ofNat 0))), (.c (.int .i64 (.ofNat 32)))], none⟩,
    ⟨(some 5), none, (.p .mv), [(.t 12)], none⟩])
  (.keep [0, 1, 5] (.seq (.reg [⟨(some 6), none, (.p .mv), [(.c (.int .i64 (.negSucc 0)))], none⟩])
  (.keep [0, 1, 5, 6] (.seq (.seq (.reg [⟨(some 13), none, (.p .mv), [(.t 0)], none⟩,
    ⟨(some 14), none, (.e .range), [(.t 13)], none⟩])
  (.keep [0, 1, 5, 6, 14] (.block 0
   (.loop
    (.keep [0, 1, 5, 6, 14] (.seq (.reg [⟨(some 15), none, (.e .next), [(.t 14)], none⟩,
      ⟨(some 16), none, (.p (.extract 0)), [(.t 15)], none⟩])
    (.keep [0, 1, 5, 6, 14, 15, 16] (.seq (.cond (.t 16)
     .skip
     (.keep [0, 5, 6] (.exit 0)))
    (.keep [0, 1, 5, 6, 14, 15] (.block 1
     (.seq (.reg [⟨(some 17), none, (.p (.extract 1)), [(.t 15)], none⟩,
       ⟨(some 18), none, (.p (.extract 2)), [(.t 15)], none⟩,
       ⟨(some 7), none, (.p .mv), [(.t 17)], none⟩,
       ⟨(some 8), none, (.p .mv), [(.t 18)], none⟩])
     (.keep [0, 1, 5, 6, 7, 8, 14] (.seq (.reg [⟨(some 19), none, (.p .mv), [(.t 1)], none⟩,
       ⟨(some 20), none, (.p .mv), [(.t 8)], none⟩,
       ⟨(some 21), none, .callv, [(.t 19), (.t 20)], none⟩])
     (.keep [0, 1, 5, 6, 7, 14, 21] (.cond (.t 21)
      (.seq (.reg [⟨(some 22), none, (.p .mv), [(.t 6)], none⟩,
        ⟨(some 23), none, (.p (.bin .geq)), [(.t 22), (.c (.int .i64 (.ofNat 0)))], none⟩])
      (.keep [0, 1, 5, 6, 7, 14, 23] (.cond (.t 23)
       (.seq (.reg [⟨(some 24), none, (.p .mv), [(.t 5)], none⟩,
         ⟨(some 25), none, (.p .mv), [(.t 6)], none⟩,
         ⟨(some 26), none, (.p .mv), [(.t 7)], none⟩,
         ⟨(some 27), none, (.p (.build [(.int .i64 (.ofNat 0)), (.int .i64 (.ofNat 0))] [(0, 1), (1, 1)])), [(.t 25), (.t 26)], none⟩,
         ⟨(some 28), none, (.e (.buildSlice 1 2 [(.int .i64 (.ofNat 0)), (.int .i64 (.ofNat 0))] [(0, 2)])), [(.t 27)], none⟩,
         ⟨(some 29), none, (.e (.append 2 16)), [(.t 24), (.t 28)], none⟩,
         ⟨(some 5), none, (.p .mv), [(.t 29)], none⟩])
       (.keep [0, 1, 5, 6, 14] (.reg [⟨(some 30), none, (.p .mv), [(.t 6)], none⟩,
         ⟨(some 31), none, (.p (.un .xor)), [(.t 30)], none⟩,
         ⟨(some 6), none, (.p .mv), [(.t 31)], none⟩])))
       .skip)))
      (.seq (.reg [⟨(some 32), none, (.p .mv), [(.t 6)], none⟩,
        ⟨(some 33), none, (.p (.bin .lss)), [(.t 32), (.c (.int .i64 (.ofNat 0)))], none⟩])
      (.keep [0, 1, 5, 6, 7, 14, 33] (.cond (.t 33)
       (.reg [⟨(some 34), none, (.p .mv), [(.t 7)], none⟩,
         ⟨(some 6), none, (.p .mv), [(.t 34)], none⟩])
       .skip))))))))))))))))))
  (.keep [0, 5, 6] (.seq (.seq (.reg [⟨(some 35), none, (.p .mv), [(.t 6)], none⟩,
    ⟨(some 36), none, (.p (.bin .geq)), [(.t 35), (.c (.int .i64 (.ofNat 0)))], none⟩])
  (.keep [0, 5, 6, 36] (.cond (.t 36)
   (.reg [⟨(some 37), none, (.p .mv), [(.t 5)], none⟩,
     ⟨(some 38), none, (.p .mv), [(.t 6)], none⟩,
     ⟨(some 39), none, (.p .mv), [(.t 0)], none⟩,
     ⟨(some 40), none, (.p .lenS), [(.t 39)], none⟩,
     ⟨(some 41), none, (.p (.build [(.int .i64 (.ofNat 0)), (.int .i64 (.ofNat 0))] [(0, 1), (1, 1)])), [(.t 38), (.t 40)], none⟩,
     ⟨(some 42), none, (.e (.buildSlice 1 2 [(.int .i64 (.ofNat 0)), (.int .i64 (.ofNat 0))] [(0, 2)])), [(.t 41)], none⟩,
     ⟨(some 43), none, (.e (.append 2 16)), [(.t 37), (.t 42)], none⟩,
     ⟨(some 5), none, (.p .mv), [(.t 43)], none⟩])
   .skip)))
  (.keep [0, 5] (.seq (.reg [⟨(some 44), none, (.p .mv), [(.t 5)], none⟩,
    ⟨(some 45), none, (.p .len), [(.t 44)], none⟩,
    ⟨(some 46), none, (.e (.makeSlice 1 16 [(.str [])])), [(.t 45), (.t 45)], none⟩,
    ⟨(some 9), none, (.p .mv), [(.t 46)], none⟩])
  (.keep [0, 5, 9] (.seq (.seq (.reg [⟨(some 47), none, (.p .mv), [(.t 5)], none⟩,
    ⟨(some 48), none, (.p .len), [(.t 47)], none⟩,
    ⟨(some 49), none, (.p .mv), [(.c (.int .i64 (.ofNat 0)))], none⟩])
  (.keep [0, 9, 47, 48, 49] (.block 2
   (.loop
    (.keep [0, 9, 47, 48, 49] (.seq (.reg [⟨(some 50), none, (.p (.bin .lss)), [(.t 49), (.t 48)], none⟩])
    (.keep [0, 9, 47, 48, 49, 50] (.seq (.cond (.t 50)
     .skip
     (.keep [9] (.exit 2)))
    (.keep [0, 9, 47, 48, 49] (.seq (.block 3
     (.seq (.reg [⟨(some 51), none, (.p .mv), [(.t 49)], none⟩,
       ⟨(some 52), none, (.p (.slIdx 2)), [(.t 47), (.t 49)], none⟩,
       ⟨(some 53), none, (.l (.load (some 2))), [(.t 52)], none⟩,
       ⟨(some 11), none, (.e (.alloc [(.int .i64 (.ofNat 0)), (.int .i64 (.ofNat 0))])), [], none⟩,
       ⟨(some 10), none, (.p .mv), [(.t 51)], none⟩,
       ⟨none, none, (.e (.store 2)), [(.t 11), (.t 53)], none⟩])
     (.keep [0, 9, 10, 11, 47, 48, 49] (.reg [⟨(some 54), none, (.p .mv), [(.t 9)], none⟩,
       ⟨(some 55), none, (.p .mv), [(.t 10)], none⟩,
       ⟨(some 56), none, (.p .mv), [(.t 0)], none⟩,
       ⟨(some 57), none, (.p (.fieldAddr 0)), [(.t 11)], none⟩,
       ⟨(some 58), none, (.l (.load none)), [(.t 57)], none⟩,
       ⟨(some 59), none, (.p (.fieldAddr 1)), [(.t 11)], none⟩,
       ⟨(some 60), none, (.l (.load none)), [(.t 59)], none⟩,
       ⟨(some 61), none, (.p (.strSlice true true)), [(.t 56), (.t 58), (.t 60)], none⟩,
       ⟨(some 62), none, (.p (.slIdx 1)), [(.t 54), (.t 55)], none⟩,
       ⟨none, none, (.e (.store 1)), [(.t 62), (.t 61)], none⟩]))))
    (.keep [0, 9, 47, 48, 49] (.reg [⟨(some 63), none, (.p (.bin .add)), [(.t 49), (.c (.int .i64 (.ofNat 1)))], none⟩,
      ⟨(some 49), none, (.p .mv), [(.t 63)], none⟩]))))))))))))
  (.keep [9] (.seq (.reg [⟨(some 64), none, (.p .mv), [(.t 9)], none⟩,
    ⟨(some 4), none, (.p .mv), [(.t 64)], none⟩])
  (.keep [4] (.keep [4] .ret))))))))))))))))),
  [(.t 4)]⟩
def s59_j2 (call : CallK) (N : Nat) (q : KV) (st : St) (τ : Tape) : Ans :=
  match st with
  | ⟨fr, H⟩ =>
  getK fr 9 fun t9 =>
  q t9 H τ
def s59_l3 (call : CallK) (N : Nat) (st : St) (τ : Tape) (k : KC) : Ans :=
  match st with
  | ⟨fr, H⟩ =>
  getK fr 0 fun t0 =>
  getK fr 9 fun t9 =>
  getK fr 47 fun t47 =>
  getK fr 48 fun t48 =>
  getK fr 49 fun t49 =>
  binK .lss t49 t48 fun v12 =>
  condK v12
    (someK (pSlIdx 2 [t47, t49]) fun v13 =>
  someK (lLoadN 2 [v13] H) fun v14 =>
  effK (eAlloc [(.int .i64 (.ofNat 0)), (.int .i64 (.ofNat 0))] [] H τ) fun v15 H16 τ17 =>
  effK (eStore 2 [v15, v14] H16 τ17) fun v18 H19 τ20 =>
  someK (pFieldAddr 0 [v15]) fun v21 =>
  someK (lLoad1 [v21] H19) fun v22 =>
  someK (pFieldAddr 1 [v15]) fun v23 =>
  someK (lLoad1 [v23] H19) fun v24 =>
  someK (pStrSlice true true [t0, v22, v24]) fun v25 =>
  someK (pSlIdx 1 [t9, t49]) fun v26 =>
  effK (eStore 1 [v26, v25] H19 τ20) fun v27 H28 τ29 =>
  binK .add t49 (.int .i64 (.ofNat 1)) fun v30 =>
  k .normal ⟨(T.set (T.set (T.set (T.set (T.set (T.set (T.set .leaf 0 t0) 9 t9) 47 t47) 48 t48) 49 t49) 63 v30) 49 v30), H28⟩ τ29)
    (k (.exit 2) ⟨(T.set .leaf 9 t9), H⟩ τ)
def s59_j1 (call : CallK) (N : Nat) (q : KV) (st : St) (τ : Tape) : Ans :=
  match st with
  | ⟨fr, H⟩ =>
  getK fr 0 fun t0 =>
  getK fr 5 fun t5 =>
  someK (pLen [t5]) fun v7 =>
  effK (eMakeSlice 1 16 [(.str [])] [v7, v7] H τ) fun v8 H9 τ10 =>
  someK (pLen [t5]) fun v11 =>
  loopK (s59_l3 call N) N ⟨(T.set (T.set (T.set (T.set (T.set .leaf 0 t0) 9 v8) 47 t5) 48 v11) 49 (.int .i64 (.ofNat 0))), H9⟩ τ10 (blockK 2 (seqK (s59_j2 call N q) (endK [(.t 4)] q)))
def s59_j0 (call : CallK) (N : Nat) (q : KV) (st : St) (τ : Tape) : Ans :=
  match st with
  | ⟨fr, H⟩ =>
  getK fr 0 fun t0 =>
  getK fr 5 fun t5 =>
  getK fr 6 fun t6 =>
  binK .geq t6 (.int .i64 (.ofNat 0)) fun v6 =>
  condK v6
    (someK (pLenS [t0]) fun v31 =>
  someK (pBuild [(.int .i64 (.ofNat 0)), (.int .i64 (.ofNat 0))] [(0, 1), (1, 1)] [t6, v31]) fun v32 =>
  effK (eBuildSlice 1 2 [(.int .i64 (.ofNat 0)), (.int .i64 (.ofNat 0))] [(0, 2)] [v32] H τ) fun v33 H34 τ35 =>
  effK (eAppend 2 16 [t5, v33] H34 τ35) fun v36 H37 τ38 =>
  s59_j1 call N q ⟨(T.set (T.set (T.set (T.set (T.set (T.set (T.set (T.set (T.set (T.set (T.set (T.set .leaf 0 t0) 5 t5) 6 t6) 36 v6) 37 t5) 38 t6) 39 t0) 40 v31) 41 v32) 42 v33) 43 v36) 5 v36), H37⟩ τ38)
    (s59_j1 call N q ⟨(T.set (T.set (T.set (T.set .leaf 0 t0) 5 t5) 6 t6) 36 v6), H⟩ τ)
def s59_l4 (call : CallK) (N : Nat) (st : St) (τ : Tape) (k : KC) : Ans :=
  match st with
  | ⟨fr, H⟩ =>
  getK fr 0 fun t0 =>
  getK fr 1 fun t1 =>
  getK fr 5 fun t5 =>
  getK fr 6 fun t6 =>
  getK fr 14 fun t14 =>
  effK (eNext [t14] H τ) fun v39 H40 τ41 =>
  someK (pExtract 0 [v39]) fun v42 =>
  condK v42
    (someK (pExtract 1 [v39]) fun v43 =>
  someK (pExtract 2 [v39]) fun v44 =>
  opK call .callv [t1, v44] H40 τ41 fun v45 H46 τ47 =>
  condK v45
    (binK .geq t6 (.int .i64 (.ofNat 0)) fun v48 =>
  condK v48
    (someK (pBuild [(.int .i64 (.ofNat 0)), (.int .i64 (.ofNat 0))] [(0, 1), (1, 1)] [t6, v43]) fun v49 =>
  effK (eBuildSlice 1 2 [(.int .i64 (.ofNat 0)), (.int .i64 (.ofNat 0))] [(0, 2)] [v49] H46 τ47) fun v50 H51 τ52 =>
  effK (eAppend 2 16 [t5, v50] H51 τ52) fun v53 H54 τ55 =>
  unK .xor t6 fun v56 =>
  k .normal ⟨(T.set (T.set (T.set (T.set (T.set (T.set (T.set (T.set .leaf 0 t0) 1 t1) 5 v53) 6 t6) 14 t14) 30 t6) 31 v56) 6 v56), H54⟩ τ55)
    (k .normal ⟨(T.set (T.set (T.set (T.set (T.set (T.set (T.set .leaf 0 t0) 1 t1) 5 t5) 6 t6) 7 v43) 14 t14) 23 v48), H46⟩ τ47))
    (binK .lss t6 (.int .i64 (.ofNat 0)) fun v57 =>
  condK v57
    (k .normal ⟨(T.set (T.set (T.set (T.set (T.set (T.set (T.set (T.set (T.set .leaf 0 t0) 1 t1) 5 t5) 6 t6) 7 v43) 14 t14) 33 v57) 34 v43) 6 v43), H46⟩ τ47)
    (k .normal ⟨(T.set (T.set (T.set (T.set (T.set (T.set (T.set .leaf 0 t0) 1 t1) 5 t5) 6 t6) 7 v43) 14 t14) 33 v57), H46⟩ τ47)))
    (k (.exit 0) ⟨(T.set (T.set (T.set .leaf 0 t0) 5 t5) 6 t6), H40⟩ τ41)
def s59 (call : CallK) (N : Nat) (a0 a1 : V) (H : Heap) (τ : Tape) (q : KV) : Ans :=
  effK (eMakeSlice 2 16 [(.int .i64 (.ofNat 0)), (.int .i64 (.ofNat 0))] [(.int .i64 (.ofNat 0)), (.int .i64 (.ofNat 32))] H τ) fun v0 H1 τ2 =>
  effK (eRange [a0] H1 τ2) fun v3 H4 τ5 =>
  loopK (s59_l4 call N) N ⟨(T.set (T.set (T.set (T.set (T.set .leaf 0 a0) 1 a1) 5 v0) 6 (.int .i64 (.negSucc 0))) 14 v3), H4⟩ τ5 (blockK 0 (seqK (s59_j0 call N q) (endK [(.t 4)] q)))
theorem s59_eq (call : CallK) (N : Nat) (a0 a1 : V) (H : Heap) (τ : Tape) (q : KV) : s59 call N a0 a1 H τ q = funK call N fn59 [a0, a1] H τ q := by kernel_rfl
def e59 (call : CallK) (N : Nat) (vs : List V) (H : Heap) (τ : Tape) (q : KV) : Ans := match vs with | [a0, a1] => s59 call N a0 a1 H τ q | _ => none
theorem e59_ok : EntOk fn59 e59 := by
  intro call N vs H τ q r h
  unfold e59 at h
  split at h
  · rw [s59_eq] at h; exact h
  · cases h
/-- ostiary/integrity.Parse$1 -/
def fn60 : Fun := ⟨1,
  (.seq (.reg [⟨(some 2), none, (.p .mv), [(.c (.bool false))], none⟩])
  (.keep [0] (.seq (.reg [⟨(some 3), none, (.p .mv), [(.t 0)], none⟩,
    ⟨(some 4), none, (.call 61), [(.c (.str (bs [9, 10, 12, 13, 32]))), (.t 3)], none⟩,
    ⟨(some 2), none, (.p .mv), [(.t 4)], none⟩])
  (.keep [2] (.keep [2] .ret))))),
  [(.t 2)]⟩
def s60 (call : CallK) (N : Nat) (a0 : V) (H : Heap) (τ : Tape) (q : KV) : Ans :=
  call 61 [(.str (bs [9, 10, 12, 13, 32])), a0] H τ fun v0 H1 τ2 =>
  q v0 H1 τ2
theorem s60_eq (call : CallK) (N : Nat) (a0 : V) (H : Heap) (τ : Tape) (q : KV) : s60 call N a0 H τ q = funK call N fn60 [a0] H τ q := by kernel_rfl
def e60 (call : CallK) (N : Nat) (vs : List V) (H : Heap) (τ : Tape) (q : KV) : Ans := match vs with | [a0] => s60 call N a0 H τ q | _ => none
theorem e60_ok : EntOk fn60 e60 := by
  intro call N vs H τ q r h
  unfold e60 at h
  split at h
  · rw [s60_eq] at h; exact h
  · cases h
/-- strings.ContainsRune -/
def fn61 : Fun := ⟨2,
  (.seq (.reg [⟨(some 4), none, (.p .mv), [(.c (.bool false))], none⟩])
  (.keep [0, 1] (.seq (.reg [⟨(some 5), none, (.p .mv), [(.t 0)], none⟩,
    ⟨(some 6), none, (.p .mv), [(.t 1)], none⟩,
    ⟨(some 7), none, (.call 102), [(.t 5), (.t 6)], none⟩,
    ⟨(some 8), none, (.p (.bin .geq)), [(.t 7), (.c (.int .i64 (.ofNat 0)))], none⟩,
    ⟨(some 4), none, (.p .mv), [(.t 8)], none⟩])
  (.keep [4] (.keep [4] .ret))))),
  [(.t 4)]⟩
def s61 (call : CallK) (N : Nat) (a0 a1 : V) (H : Heap) (τ : Tape) (q : KV) : Ans :=
  call 102 [a0, a1] H τ fun v0 H1 τ2 =>
  binK .geq v0 (.int .i64 (.ofNat 0)) fun v3 =>
  q v3 H1 τ2
theorem s61_eq (call : CallK) (N : Nat) (a0 a1 : V) (H : Heap) (τ : Tape) (q : KV) : s61 call N a0 a1 H τ q = funK call N fn61 [a0, a1] H τ q := by kernel_rfl
def e61 (call : CallK) (N : Nat) (vs : List V) (H : Heap) (τ : Tape) (q : KV) : Ans := match vs with | [a0, a1] => s61 call N a0 a1 H τ q | _ => none
theorem e61_ok : EntOk fn61 e61 := by
  intro call N vs H τ q r h
  unfold e61 at h
  split at h
  · rw [s61_eq] at h; exact h
  · cases h
/-- strings.Cut -/
def fn62 : Fun := ⟨2,
  (.seq (.reg [⟨(some 4), none, (.p .mv), [(.c (.str []))], none⟩,
    ⟨(some 5), none, (.p .mv), [(.c (.str []))], none⟩,
    ⟨(some 6), none, (.p .mv), [(.c (.bool false))], none⟩])
  (.keep [0, 1] (.seq (.reg [⟨(some 7), none, (.p .mv), [(.t 0)], none⟩,
    ⟨(some 8), none, (.p .mv), [(.t 1)], none⟩,
    ⟨(some 9), none, (.call 103), [(.t 7), (.t 8)], none⟩,
    ⟨(some 10), none, (.p (.extract 0)), [(.t 9)], none⟩,
    ⟨(some 11), none, (.p (.extract 1)), [(.t 9)], none⟩,
    ⟨(some 12), none, (.p (.extract 2)), [(.t 9)], none⟩,
    ⟨(some 4), none, (.p .mv), [(.t 10)], none⟩,
    ⟨(some 5), none, (.p .mv), [(.t 11)], none⟩,
    ⟨(some 6), none, (.p .mv), [(.t 12)], none⟩])
  (.keep [4, 5, 6] (.keep [4, 5, 6] .ret))))),
  [(.t 4), (.t 5), (.t 6)]⟩
def s62 (call : CallK) (N : Nat) (a0 a1 : V) (H : Heap) (τ : Tape) (q : KV) : Ans :=
  call 103 [a0, a1] H τ fun v0 H1 τ2 =>
  someK (pExtract 0 [v0]) fun v3 =>
  someK (pExtract 1 [v0]) fun v4 =>
  someK (pExtract 2 [v0]) fun v5 =>
  q (.tup [v3, v4, v5]) H1 τ2
theorem s62_eq (call : CallK) (N : Nat) (a0 a1 : V) (H : Heap) (τ : Tape) (q : KV) : s62 call N a0 a1 H τ q = funK call N fn62 [a0, a1] H τ q := by kernel_rfl
def e62 (call : CallK) (N : Nat) (vs : List V) (H : Heap) (τ : Tape) (q : KV) : Ans := match vs with | [a0, a1] => s62 call N a0 a1 H τ q | _ => none
theorem e62_ok : EntOk fn62 e62 := by
  intro call N vs H τ q r h
  unfold e62 at h
  split at h
  · rw [s62_eq] at h; exact h
  · cases h
/-- ostiary/integrity.bits -/
def fn63 : Fun := ⟨1,
  (.seq (.reg [⟨(some 2), none, (.p .mv), [(.c (.int .i64 (.ofNat 0)))], none⟩])
  (.keep [0] (.seq (.seq (.reg [⟨(some 3), none, (.p .mv), [(.t 0)], none⟩,
    ⟨(some 4), none, (.call 92), [(.t 3)], none⟩])
  (.keep [4] (.block 0
   (.seq (.reg [⟨(some 6), none, (.p (.bin .eql)), [(.t 4), (.c (.str (bs [115, 104, 97, 50, 53, 54])))], none⟩,
     ⟨(some 5), none, (.p .mv), [(.t 6)], none⟩])
   (.keep [4, 5] (.cond (.t 5)
    (.seq (.reg [⟨(some 2), none, (.p .mv), [(.c (.int .i64 (.ofNat 256)))], none⟩])
    (.keep [2] (.keep [2] .ret)))
    (.seq (.reg [⟨(some 8), none, (.p (.bin .eql)), [(.t 4), (.c (.str (bs [115, 104, 97, 51, 56, 52])))], none⟩,
      ⟨(some 7), none, (.p .mv), [(.t 8)], none⟩])
    (.keep [4, 7] (.cond (.t 7)
     (.seq (.reg [⟨(some 2), none, (.p .mv), [(.c (.int .i64 (.ofNat 384)))], none⟩])
     (.keep [2] (.keep [2] .ret)))
     (.seq (.reg [⟨(some 10), none, (.p (.bin .eql)), [(.t 4), (.c (.str (bs [115, 104, 97, 53, 49, 50])))], none⟩,
       ⟨(some 9), none, (.p .mv), [(.t 10)], none⟩])
     (.keep [9] (.cond (.t 9)
      (.seq (.reg [⟨(some 2), none, (.p .mv), [(.c (.int .i64 (.ofNat 512)))], none⟩])
      (.keep [2] (.keep [2] .ret)))
      .skip))))))))))))
  (.keep [] (.seq (.reg [⟨(some 2), none, (.p .mv), [(.c (.int .i64 (.ofNat 0)))], none⟩])
  (.keep [2] (.keep [2] .ret))))))),
  [(.t 2)]⟩
def s63 (call : CallK) (N : Nat) (a0 : V) (H : Heap) (τ : Tape) (q : KV) : Ans :=
  call 92 [a0] H τ fun v0 H1 τ2 =>
  binK .eql v0 (.str (bs [115, 104, 97, 50, 53, 54])) fun v3 =>
  condK v3
    (q (.int .i64 (.ofNat 256)) H1 τ2)
    (binK .eql v0 (.str (bs [115, 104, 97, 51, 56, 52])) fun v4 =>
  condK v4
    (q (.int .i64 (.ofNat 384)) H1 τ2)
    (binK .eql v0 (.str (bs [115, 104, 97, 53, 49, 50])) fun v5 =>
  condK v5
    (q (.int .i64 (.ofNat 512)) H1 τ2)
    (q (.int .i64 (.ofNat 0)) H1 τ2)))
theorem s63_eq (call : CallK) (N : Nat) (a0 : V) (H : Heap) (τ : Tape) (q : KV) : s63 call N a0 H τ q = funK call N fn63 [a0] H τ q := by kernel_rfl
def e63 (call : CallK) (N : Nat) (vs : List V) (H : Heap) (τ : Tape) (q : KV) : Ans := match vs with | [a0] => s63 call N a0 H τ q | _ => none
theorem e63_ok : EntOk fn63 e63 := by
  intro call N vs H τ q r h
  unfold e63 at h
  split at h
  · rw [s63_eq] at h; exact h
  · cases h
/-- ostiary/integrity.chosen -/
def fn67 : Fun := ⟨2,
  (.seq (.reg [⟨(some 4), none, (.p .mv), [(.c .nils)], none⟩])
  (.keep [0, 1] (.seq (.reg [⟨(some 5), none, (.p .mv), [(.c .nils)], none⟩])
  (.keep [0, 1, 5] (.seq (.seq (.reg [⟨(some 8), none, (.p .mv), [(.t 0)], none⟩,
    ⟨(some 9), none, (.p .len), [(.t 8)], none⟩,
    ⟨(some 10), none, (.p .mv), [(.c (.int .i64 (.ofNat 0)))], none⟩])
  (.keep [1, 5, 8, 9, 10] (.block 0
   (.loop
    (.keep [1, 5, 8, 9, 10] (.seq (.reg [⟨(some 11), none, (.p (.bin .lss)), [(.t 10), (.t 9)], none⟩])
    (.keep [1, 5, 8, 9, 10, 11] (.seq (.cond (.t 11)
     .skip
     (.keep [5] (.exit 0)))
    (.keep [1, 5, 8, 9, 10] (.seq (.block 1
     (.seq (.reg [⟨(some 12), none, (.p (.slIdx 3)), [(.t 8), (.t 10)], none⟩,
       ⟨(some 13), none, (.l (.load (some 3))), [(.t 12)], none⟩,
       ⟨(some 7), none, (.e (.alloc [(.int .i64 (.ofNat 0)), (.str []), (.str [])])), [], none⟩,
       ⟨none, none, (.e (.store 3)), [(.t 7), (.t 13)], none⟩])
     (.keep [1, 5, 7, 8, 9, 10] (.seq (.reg [⟨(some 14), none, (.p .mv), [(.t 1)], none⟩,
       ⟨(some 15), none, (.l (.load (some 3))), [(.t 7)], none⟩,
       ⟨(some 16), none, .callv, [(.t 14), (.t 15)], none⟩])
     (.keep [1, 5, 7, 8, 9, 10, 16] (.cond (.t 16)
      (.reg [⟨(some 17), none, (.p .mv), [(.t 5)], none⟩,
        ⟨(some 18), none, (.l (.load (some 3))), [(.t 7)], none⟩,
        ⟨(some 19), none, (.e (.buildSlice 1 3 [(.int .i64 (.ofNat 0)), (.str []), (.str [])] [(0, 3)])), [(.t 18)], none⟩,
        ⟨(some 20), none, (.e (.append 3 40)), [(.t 17), (.t 19)], none⟩,
        ⟨(some 5), none, (.p .mv), [(.t 20)], none⟩])
      .skip))))))
    (.keep [1, 5, 8, 9, 10] (.reg [⟨(some 21), none, (.p (.bin .add)), [(.t 10), (.c (.int .i64 (.ofNat 1)))], none⟩,
      ⟨(some 10), none, (.p .mv), [(.t 21)], none⟩]))))))))))))
  (.keep [5] (.seq (.reg [⟨(some 22), none, (.p .mv), [(.t 5)], none⟩,
    ⟨(some 4), none, (.p .mv), [(.t 22)], none⟩])
  (.keep [4] (.keep [4] .ret))))))))),
  [(.t 4)]⟩
def s67_j0 (call : CallK) (N : Nat) (q : KV) (st : St) (τ : Tape) : Ans :=
  match st with
  | ⟨fr, H⟩ =>
  getK fr 5 fun t5 =>
  q t5 H τ
def s67_j2 (call : CallK) (N : Nat) (k : KC) (st : St) (τ : Tape) : Ans :=
  match st with
  | ⟨fr, H⟩ =>
  getK fr 1 fun t1 =>
  getK fr 5 fun t5 =>
  getK fr 8 fun t8 =>
  getK fr 9 fun t9 =>
  getK fr 10 fun t10 =>
  binK .add t10 (.int .i64 (.ofNat 1)) fun v2 =>
  k .normal ⟨(T.set (T.set (T.set (T.set (T.set (T.set (T.set .leaf 1 t1) 5 t5) 8 t8) 9 t9) 10 t10) 21 v2) 10 v2), H⟩ τ
def s67_l1 (call : CallK) (N : Nat) (st : St) (τ : Tape) (k : KC) : Ans :=
  match st with
  | ⟨fr, H⟩ =>
  getK fr 1 fun t1 =>
  getK fr 5 fun t5 =>
  getK fr 8 fun t8 =>
  getK fr 9 fun t9 =>
  getK fr 10 fun t10 =>
  binK .lss t10 t9 fun v1 =>
  condK v1
    (someK (pSlIdx 3 [t8, t10]) fun v3 =>
  someK (lLoadN 3 [v3] H) fun v4 =>
  effK (eAlloc [(.int .i64 (.ofNat 0)), (.str []), (.str [])] [] H τ) fun v5 H6 τ7 =>
  effK (eStore 3 [v5, v4] H6 τ7) fun v8 H9 τ10 =>
  someK (lLoadN 3 [v5] H9) fun v11 =>
  opK call .callv [t1, v11] H9 τ10 fun v12 H13 τ14 =>
  condK v12
    (someK (lLoadN 3 [v5] H13) fun v15 =>
  effK (eBuildSlice 1 3 [(.int .i64 (.ofNat 0)), (.str []), (.str [])] [(0, 3)] [v15] H13 τ14) fun v16 H17 τ18 =>
  effK (eAppend 3 40 [t5, v16] H17 τ18) fun v19 H20 τ21 =>
  s67_j2 call N k ⟨(T.set (T.set (T.set (T.set (T.set (T.set (T.set (T.set (T.set (T.set (T.set (T.set .leaf 1 t1) 5 t5) 7 v5) 8 t8) 9 t9) 10 t10) 16 v12) 17 t5) 18 v15) 19 v16) 20 v19) 5 v19), H20⟩ τ21)
    (s67_j2 call N k ⟨(T.set (T.set (T.set (T.set (T.set (T.set (T.set .leaf 1 t1) 5 t5) 7 v5) 8 t8) 9 t9) 10 t10) 16 v12), H13⟩ τ14))
    (k (.exit 0) ⟨(T.set .leaf 5 t5), H⟩ τ)
def s67 (call : CallK) (N : Nat) (a0 a1 : V) (H : Heap) (τ : Tape) (q : KV) : Ans :=
  someK (pLen [a0]) fun v0 =>
  loopK (s67_l1 call N) N ⟨(T.set (T.set (T.set (T.set (T.set .leaf 1 a1) 5 .nils) 8 a0) 9 v0) 10 (.int .i64 (.ofNat 0))), H⟩ τ (blockK 0 (seqK (s67_j0 call N q) (endK [(.t 4)] q)))
theorem s67_eq (call : CallK) (N : Nat) (a0 a1 : V) (H : Heap) (τ : Tape) (q : KV) : s67 call N a0 a1 H τ q = funK call N fn67 [a0, a1] H τ q := by kernel_rfl
def e67 (call : CallK) (N : Nat) (vs : List V) (H : Heap) (τ : Tape) (q : KV) : Ans := match vs with | [a0, a1] => s67 call N a0 a1 H τ q | _ => none
theorem e67_ok : EntOk fn67 e67 := by
  intro call N vs H τ q r h
  unfold e67 at h
  split at h
  · rw [s67_eq] at h; exact h
  · cases h
/-- ostiary/integrity.Strongest$1 -/
def fn68 : Fun := ⟨2,
  (.seq (.reg [⟨(some 2), none, (.e .box), [(.t 0)], none⟩,
    ⟨(some 3), none, (.p .mv), [(.c (.bool false))], none⟩])
  (.keep [1, 2] (.seq (.reg [⟨(some 4), none, (.p (.fieldAddr 0)), [(.t 2)], none⟩,
    ⟨(some 5), none, (.l (.load none)), [(.t 4)], none⟩,
    ⟨(some 6), none, (.l (.load none)), [(.t 1)], none⟩,
    ⟨(some 7), none, (.p (.bin .eql)), [(.t 5), (.t 6)], none⟩,
    ⟨(some 3), none, (.p .mv), [(.t 7)], none⟩])
  (.keep [3] (.keep [3] .ret))))),
  [(.t 3)]⟩
def s68 (call : CallK) (N : Nat) (a0 a1 : V) (H : Heap) (τ : Tape) (q : KV) : Ans :=
  effK (eBox [a0] H τ) fun v0 H1 τ2 =>
  someK (pFieldAddr 0 [v0]) fun v3 =>
  someK (lLoad1 [v3] H1) fun v4 =>
  someK (lLoad1 [a1] H1) fun v5 =>
  binK .eql v4 v5 fun v6 =>
  q v6 H1 τ2
theorem s68_eq (call : CallK) (N : Nat) (a0 a1 : V) (H : Heap) (τ : Tape) (q : KV) : s68 call N a0 a1 H τ q = funK call N fn68 [a0, a1] H τ q := by kernel_rfl
def e68 (call : CallK) (N : Nat) (vs : List V) (H : Heap) (τ : Tape) (q : KV) : Ans := match vs with | [a0, a1] => s68 call N a0 a1 H τ q | _ => none
theorem e68_ok : EntOk fn68 e68 := by
  intro call N vs H τ q r h
  unfold e68 at h
  split at h
  · rw [s68_eq] at h; exact h
  · cases h
/-- ostiary/integrity.Holds$1 -/
def fn69 : Fun := ⟨2,
  (.seq (.reg [⟨(some 2), none, (.e .box), [(.t 0)], none⟩,
    ⟨(some 3), none, (.p .mv), [(.c (.bool false))], none⟩])
  (.keep [1, 2] (.seq (.reg [⟨(some 9), none, (.p (.fieldAddr 1)), [(.t 2)], none⟩,
    ⟨(some 10), none, (.l (.load none)), [(.t 9)], none⟩,
    ⟨(some 11), none, (.call 70), [(.t 10)], none⟩,
    ⟨(some 8), none, (.p .mv), [(.t 11)], none⟩,
    ⟨(some 12), none, (.p (.extract 0)), [(.t 8)], none⟩,
    ⟨(some 13), none, (.p (.extract 1)), [(.t 8)], none⟩,
    ⟨(some 4), none, (.p .mv), [(.t 12)], none⟩,
    ⟨(some 5), none, (.p .mv), [(.t 13)], none⟩])
  (.keep [1, 2, 4, 5] (.seq (.reg [⟨(some 15), none, (.p (.fieldAddr 0)), [(.t 2)], none⟩,
    ⟨(some 16), none, (.l (.load none)), [(.t 15)], none⟩,
    ⟨(some 17), none, (.l (.load none)), [(.t 1)], none⟩,
    ⟨(some 18), none, (.call 71), [(.t 16), (.t 17)], none⟩,
    ⟨(some 14), none, (.p .mv), [(.t 18)], none⟩,
    ⟨(some 19), none, (.p (.extract 0)), [(.t 14)], none⟩,
    ⟨(some 20), none, (.p (.extract 1)), [(.t 14)], none⟩,
    ⟨(some 6), none, (.p .mv), [(.t 19)], none⟩,
    ⟨(some 7), none, (.p .mv), [(.t 20)], none⟩])
  (.keep [4, 5, 6, 7] (.seq (.reg [⟨(some 21), none, (.p .mv), [(.t 5)], none⟩,
    ⟨(some 22), none, (.p .mv), [(.t 21)], none⟩,
    ⟨(some 23), some (22, true), (.p .mv), [(.t 7)], none⟩,
    ⟨(some 24), some (22, true), (.p (.bin .eql)), [(.t 23), (.c (.int .i64 (.ofNat 0)))], none⟩,
    ⟨(some 25), none, (.p .pick), [(.t 22), (.t 24), (.c (.bool false))], none⟩,
    ⟨(some 26), none, (.p .mv), [(.t 25)], none⟩,
    ⟨(some 27), some (26, true), (.p .mv), [(.t 4)], none⟩,
    ⟨(some 28), some (26, true), (.p .mv), [(.t 6)], none⟩,
    ⟨(some 29), some (26, true), (.call 72), [(.t 27), (.t 28)], none⟩,
    ⟨(some 30), none, (.p .pick), [(.t 26), (.t 29), (.c (.bool false))], none⟩,
    ⟨(some 3), none, (.p .mv), [(.t 30)], none⟩])
  (.keep [3] (.keep [3] .ret))))))))),
  [(.t 3)]⟩
def s69 (call : CallK) (N : Nat) (a0 a1 : V) (H : Heap) (τ : Tape) (q : KV) : Ans :=
  effK (eBox [a0] H τ) fun v0 H1 τ2 =>
  someK (pFieldAddr 1 [v0]) fun v3 =>
  someK (lLoad1 [v3] H1) fun v4 =>
  call 70 [v4] H1 τ2 fun v5 H6 τ7 =>
  someK (pExtract 0 [v5]) fun v8 =>
  someK (pExtract 1 [v5]) fun v9 =>
  someK (pFieldAddr 0 [v0]) fun v10 =>
  someK (lLoad1 [v10] H6) fun v11 =>
  someK (lLoad1 [a1] H6) fun v12 =>
  call 71 [v11, v12] H6 τ7 fun v13 H14 τ15 =>
  someK (pExtract 0 [v13]) fun v16 =>
  someK (pExtract 1 [v13]) fun v17 =>
  gK v9 true (fun q' => q' v17 H14 τ15) H14 τ15 fun v18 H19 τ20 =>
  gK v9 true (fun q' => binK .eql v18 (.int .i64 (.ofNat 0)) fun v => q' v H19 τ20) H19 τ20 fun v21 H22 τ23 =>
  someK (pPick [v9, v21, (.bool false)]) fun v24 =>
  gK v24 true (fun q' => q' v8 H22 τ23) H22 τ23 fun v25 H26 τ27 =>
  gK v24 true (fun q' => q' v16 H26 τ27) H26 τ27 fun v28 H29 τ30 =>
  gK v24 true (fun q' => call 72 [v25, v28] H29 τ30 q') H29 τ30 fun v31 H32 τ33 =>
  someK (pPick [v24, v31, (.bool false)]) fun v34 =>
  q v34 H32 τ33
theorem s69_eq (call : CallK) (N : Nat) (a0 a1 : V) (H : Heap) (τ : Tape) (q : KV) : s69 call N a0 a1 H τ q = funK call N fn69 [a0, a1] H τ q := by kernel_rfl
def e69 (call : CallK) (N : Nat) (vs : List V) (H : Heap) (τ : Tape) (q : KV) : Ans := match vs with | [a0, a1] => s69 call N a0 a1 H τ q | _ => none
theorem e69_ok : EntOk fn69 e69 := by
  intro call N vs H τ q r h
  unfold e69 at h
  split at h
  · rw [s69_eq] at h; exact h
  · cases h
/-- ostiary/infra.Base64 -/
def fn70 : Fun := ⟨1,
  (.seq (.reg [⟨(some 2), none, (.p .mv), [(.c .nils)], none⟩,
    ⟨(some 3), none, (.p .mv), [(.c (.bool false))], none⟩])
  (.keep [0] (.seq (.reg [⟨(some 4), none, (.p .mv), [(.c .nils)], none⟩])
  (.keep [0, 4] (.seq (.seq (.reg [⟨(some 14), none, (.p .mv), [(.t 0)], none⟩,
    ⟨(some 15), none, (.p .lenS), [(.t 14)], none⟩,
    ⟨(some 16), none, (.p .mv), [(.c (.int .i64 (.ofNat 0)))], none⟩])
  (.keep [0, 4, 15, 16] (.block 0
   (.loop
    (.keep [0, 4, 15, 16] (.seq (.reg [⟨(some 17), none, (.p (.bin .lss)), [(.t 16), (.t 15)], none⟩])
    (.keep [0, 4, 15, 16, 17] (.seq (.cond (.t 17)
     .skip
     (.keep [4] (.exit 0)))
    (.keep [0, 4, 15, 16] (.seq (.block 1
     (.seq (.reg [⟨(some 18), none, (.p .mv), [(.t 16)], none⟩,
       ⟨(some 5), none, (.p .mv), [(.t 18)], none⟩])
     (.keep [0, 4, 5, 15, 16] (.seq (.reg [⟨(some 19), none, (.p .mv), [(.t 0)], none⟩,
       ⟨(some 20), none, (.p .mv), [(.t 5)], none⟩,
       ⟨(some 21), none, (.p .strIndex), [(.t 19), (.t 20)], none⟩,
       ⟨(some 22), none, (.call 105), [(.c (.str (bs [9, 10, 12, 13, 32]))), (.t 21)], none⟩,
       ⟨(some 23), none, (.p (.bin .lss)), [(.t 22), (.c (.int .i64 (.ofNat 0)))], none⟩])
     (.keep [0, 4, 5, 15, 16, 23] (.cond (.t 23)
      (.reg [⟨(some 24), none, (.p .mv), [(.t 4)], none⟩,
        ⟨(some 25), none, (.p .mv), [(.t 0)], none⟩,
        ⟨(some 26), none, (.p .mv), [(.t 5)], none⟩,
        ⟨(some 27), none, (.p .strIndex), [(.t 25), (.t 26)], none⟩,
        ⟨(some 28), none, (.e (.buildSlice 1 1 [(.int .u8 (.ofNat 0))] [(0, 1)])), [(.t 27)], none⟩,
        ⟨(some 29), none, (.e (.append 1 1)), [(.t 24), (.t 28)], none⟩,
        ⟨(some 4), none, (.p .mv), [(.t 29)], none⟩])
      .skip))))))
    (.keep [0, 4, 15, 16] (.reg [⟨(some 30), none, (.p (.bin .add)), [(.t 16), (.c (.int .i64 (.ofNat 1)))], none⟩,
      ⟨(some 16), none, (.p .mv), [(.t 30)], none⟩]))))))))))))
  (.keep [4] (.seq (.seq (.reg [⟨(some 31), none, (.p .mv), [(.t 4)], none⟩,
    ⟨(some 32), none, (.p .len), [(.t 31)], none⟩,
    ⟨(some 6), none, (.p .mv), [(.t 32)], none⟩])
  (.keep [4, 6] (.seq (.reg [⟨(some 33), none, (.p .mv), [(.t 6)], none⟩,
    ⟨(some 34), none, (.p (.bin .gtr)), [(.t 33), (.c (.int .i64 (.ofNat 0)))], none⟩,
    ⟨(some 35), none, (.p .mv), [(.t 34)], none⟩,
    ⟨(some 36), some (35, true), (.p .mv), [(.t 6)], none⟩,
    ⟨(some 37), some (35, true), (.p (.bin .rem)), [(.t 36), (.c (.int .i64 (.ofNat 4)))], none⟩,
    ⟨(some 38), some (35, true), (.p (.bin .eql)), [(.t 37), (.c (.int .i64 (.ofNat 0)))], none⟩,
    ⟨(some 39), none, (.p .pick), [(.t 35), (.t 38), (.c (.bool false))], none⟩])
  (.keep [4, 39] (.cond (.t 39)
   (.seq (.reg [⟨(some 7), none, (.p .mv), [(.c (.int .i64 (.ofNat 0)))], none⟩])
   (.keep [4, 7] (.block 2
    (.loop
     (.keep [4, 7] (.seq (.seq (.reg [⟨(some 40), none, (.p .mv), [(.t 7)], none⟩,
       ⟨(some 41), none, (.p (.bin .lss)), [(.t 40), (.c (.int .i64 (.ofNat 2)))], none⟩,
       ⟨(some 42), none, (.p .mv), [(.t 41)], none⟩,
       ⟨(some 43), some (42, true), (.p .mv), [(.t 4)], none⟩,
       ⟨(some 44), some (42, true), (.p .mv), [(.t 4)], none⟩,
       ⟨(some 45), some (42, true), (.p .len), [(.t 44)], none⟩,
       ⟨(some 46), some (42, true), (.p (.bin .sub)), [(.t 45), (.c (.int .i64 (.ofNat 1)))], none⟩,
       ⟨(some 47), some (42, true), (.p (.slIdx 1)), [(.t 43), (.t 46)], none⟩,
       ⟨(some 48), some (42, true), (.l (.load none)), [(.t 47)], none⟩,
       ⟨(some 49), some (42, true), (.p (.bin .eql)), [(.t 48), (.c (.int .u8 (.ofNat 61)))], none⟩,
       ⟨(some 50), none, (.p .pick), [(.t 42), (.t 49), (.c (.bool false))], none⟩])
     (.keep [4, 7, 50] (.cond (.t 50)
      .skip
      (.keep [4] (.exit 2)))))
     (.keep [4, 7] (.seq (.block 3
      (.reg [⟨(some 53), none, (.p .mv), [(.t 4)], none⟩,
        ⟨(some 54), none, (.p .mv), [(.t 4)], none⟩,
        ⟨(some 55), none, (.p .len), [(.t 54)], none⟩,
        ⟨(some 56), none, (.p (.bin .sub)), [(.t 55), (.c (.int .i64 (.ofNat 1)))], none⟩,
        ⟨(some 57), none, (.p (.slSlice 1 false true false)), [(.t 53), (.t 56)], none⟩,
        ⟨(some 4), none, (.p .mv), [(.t 57)], none⟩]))
     (.keep [4, 7] (.reg [⟨(some 51), none, (.p .mv), [(.t 7)], none⟩,
       ⟨(some 52), none, (.p (.bin .add)), [(.t 51), (.c (.int .i64 (.ofNat 1)))], none⟩,
       ⟨(some 7), none, (.p .mv), [(.t 52)], none⟩]))))))))))
   .skip)))))
  (.keep [4] (.seq (.seq (.reg [⟨(some 58), none, (.p .mv), [(.t 4)], none⟩,
    ⟨(some 59), none, (.p .len), [(.t 58)], none⟩,
    ⟨(some 60), none, (.p (.bin .rem)), [(.t 59), (.c (.int .i64 (.ofNat 4)))], none⟩,
    ⟨(some 61), none, (.p (.bin .eql)), [(.t 60), (.c (.int .i64 (.ofNat 1)))], none⟩])
  (.keep [4, 61] (.cond (.t 61)
   (.seq (.reg [⟨(some 2), none, (.p .mv), [(.c .nils)], none⟩,
     ⟨(some 3), none, (.p .mv), [(.c (.bool false))], none⟩])
   (.keep [2, 3] (.keep [2, 3] .ret)))
   .skip)))
  (.keep [4] (.seq (.reg [⟨(some 62), none, (.p .mv), [(.t 4)], none⟩,
    ⟨(some 63), none, (.p .len), [(.t 62)], none⟩,
    ⟨(some 64), none, (.p (.bin .mul)), [(.t 63), (.c (.int .i64 (.ofNat 3)))], none⟩,
    ⟨(some 65), none, (.p (.bin .quo)), [(.t 64), (.c (.int .i64 (.ofNat 4)))], none⟩,
    ⟨(some 66), none, (.e (.makeSlice 1 1 [(.int .u8 (.ofNat 0))])), [(.c (.int .i64 (.ofNat 0))), (.t 65)], none⟩,
    ⟨(some 8), none, (.p .mv), [(.t 66)], none⟩])
  (.keep [4, 8] (.seq (.reg [⟨(some 9), none, (.p .mv), [(.c (.int .i64 (.ofNat 0)))], none⟩,
    ⟨(some 10), none, (.p .mv), [(.c (.int .i64 (.ofNat 0)))], none⟩])
  (.keep [4, 8, 9, 10] (.seq (.seq (.reg [⟨(some 67), none, (.p .mv), [(.t 4)], none⟩,
    ⟨(some 68), none, (.p .len), [(.t 67)], none⟩,
    ⟨(some 69), none, (.p .mv), [(.c (.int .i64 (.ofNat 0)))], none⟩])
  (.keep [8, 9, 10, 67, 68, 69] (.block 4
   (.loop
    (.keep [8, 9, 10, 67, 68, 69] (.seq (.reg [⟨(some 70), none, (.p (.bin .lss)), [(.t 69), (.t 68)], none⟩])
    (.keep [8, 9, 10, 67, 68, 69, 70] (.seq (.cond (.t 70)
     .skip
     (.keep [8] (.exit 4)))
    (.keep [8, 9, 10, 67, 68, 69] (.seq (.block 5
     (.seq (.reg [⟨(some 71), none, (.p (.slIdx 1)), [(.t 67), (.t 69)], none⟩,
       ⟨(some 72), none, (.l (.load none)), [(.t 71)], none⟩,
       ⟨(some 12), none, (.p .mv), [(.t 72)], none⟩])
     (.keep [8, 9, 10, 12, 67, 68, 69] (.seq (.reg [⟨(some 73), none, (.p .mv), [(.t 12)], none⟩,
       ⟨(some 74), none, (.call 105), [(.c (.str (bs [65, 66, 67, 68, 69, 70, 71, 72, 73, 74, 75, 76, 77, 78, 79, 80, 81, 82, 83, 84, 85, 86, 87, 88, 89, 90, 97, 98, 99, 100, 101, 102, 103, 104, 105, 106, 107, 108, 109, 110, 111, 112, 113, 114, 115, 116, 117, 118, 119, 120, 121, 122, 48, 49, 50, 51, 52, 53, 54, 55, 56, 57, 43, 47]))), (.t 73)], none⟩,
       ⟨(some 13), none, (.p .mv), [(.t 74)], none⟩])
     (.keep [8, 9, 10, 13, 67, 68, 69] (.seq (.seq (.reg [⟨(some 75), none, (.p .mv), [(.t 13)], none⟩,
       ⟨(some 76), none, (.p (.bin .lss)), [(.t 75), (.c (.int .i64 (.ofNat 0)))], none⟩])
     (.keep [8, 9, 10, 13, 67, 68, 69, 76] (.cond (.t 76)
      (.seq (.reg [⟨(some 2), none, (.p .mv), [(.c .nils)], none⟩,
        ⟨(some 3), none, (.p .mv), [(.c (.bool false))], none⟩])
      (.keep [2, 3] (.keep [2, 3] .ret)))
      .skip)))
     (.keep [8, 9, 10, 13, 67, 68, 69] (.seq (.reg [⟨(some 77), none, (.p .mv), [(.t 9)], none⟩,
       ⟨(some 78), none, (.p (.bin .shl)), [(.t 77), (.c (.int .u64 (.ofNat 6)))], none⟩,
       ⟨(some 79), none, (.p (.bin .and)), [(.t 78), (.c (.int .i64 (.ofNat 65535)))], none⟩,
       ⟨(some 80), none, (.p .mv), [(.t 13)], none⟩,
       ⟨(some 81), none, (.p (.bin .or)), [(.t 79), (.t 80)], none⟩,
       ⟨(some 82), none, (.p .mv), [(.t 10)], none⟩,
       ⟨(some 83), none, (.p (.bin .add)), [(.t 82), (.c (.int .i64 (.ofNat 6)))], none⟩,
       ⟨(some 9), none, (.p .mv), [(.t 81)], none⟩,
       ⟨(some 10), none, (.p .mv), [(.t 83)], none⟩])
     (.keep [8, 9, 10, 67, 68, 69] (.seq (.reg [⟨(some 84), none, (.p .mv), [(.t 10)], none⟩,
       ⟨(some 85), none, (.p (.bin .geq)), [(.t 84), (.c (.int .i64 (.ofNat 8)))], none⟩])
     (.keep [8, 9, 10, 67, 68, 69, 85] (.cond (.t 85)
      (.seq (.reg [⟨(some 86), none, (.p .mv), [(.t 10)], none⟩,
        ⟨(some 87), none, (.p (.bin .sub)), [(.t 86), (.c (.int .i64 (.ofNat 8)))], none⟩,
        ⟨(some 10), none, (.p .mv), [(.t 87)], none⟩])
      (.keep [8, 9, 10, 67, 68, 69] (.reg [⟨(some 88), none, (.p .mv), [(.t 8)], none⟩,
        ⟨(some 89), none, (.p .mv), [(.t 9)], none⟩,
        ⟨(some 90), none, (.p .mv), [(.t 10)], none⟩,
        ⟨(some 91), none, (.p (.bin .shr)), [(.t 89), (.t 90)], none⟩,
        ⟨(some 92), none, (.p (.toInt .u8)), [(.t 91)], none⟩,
        ⟨(some 93), none, (.e (.buildSlice 1 1 [(.int .u8 (.ofNat 0))] [(0, 1)])), [(.t 92)], none⟩,
        ⟨(some 94), none, (.e (.append 1 1)), [(.t 88), (.t 93)], none⟩,
        ⟨(some 8), none, (.p .mv), [(.t 94)], none⟩])))
      .skip))))))))))))
    (.keep [8, 9, 10, 67, 68, 69] (.reg [⟨(some 95), none, (.p (.bin .add)), [(.t 69), (.c (.int .i64 (.ofNat 1)))], none⟩,
      ⟨(some 69), none, (.p .mv), [(.t 95)], none⟩]))))))))))))
  (.keep [8] (.seq (.reg [⟨(some 96), none, (.p .mv), [(.t 8)], none⟩,
    ⟨(some 2), none, (.p .mv), [(.t 96)], none⟩,
    ⟨(some 3), none, (.p .mv), [(.c (.bool true))], none⟩])
  (.keep [2, 3] (.keep [2, 3] .ret))))))))))))))))))),
  [(.t 2), (.t 3)]⟩
def s70_j2 (call : CallK) (N : Nat) (q : KV) (st : St) (τ : Tape) : Ans :=
  match st with
  | ⟨fr, H⟩ =>
  getK fr 8 fun t8 =>
  q (.tup [t8, (.bool true)]) H τ
def s70_j4 (call : CallK) (N : Nat) (k : KC) (st : St) (τ : Tape) : Ans :=
  match st with
  | ⟨fr, H⟩ =>
  getK fr 8 fun t8 =>
  getK fr 9 fun t9 =>
  getK fr 10 fun t10 =>
  getK fr 67 fun t67 =>
  getK fr 68 fun t68 =>
  getK fr 69 fun t69 =>
  binK .add t69 (.int .i64 (.ofNat 1)) fun v24 =>
  k .normal ⟨(T.set (T.set (T.set (T.set (T.set (T.set (T.set (T.set .leaf 8 t8) 9 t9) 10 t10) 67 t67) 68 t68) 69 t69) 95 v24) 69 v24), H⟩ τ
def s70_l3 (call : CallK) (N : Nat) (st : St) (τ : Tape) (k : KC) : Ans :=
  match st with
  | ⟨fr, H⟩ =>
  getK fr 8 fun t8 =>
  getK fr 9 fun t9 =>
  getK fr 10 fun t10 =>
  getK fr 67 fun t67 =>
  getK fr 68 fun t68 =>
  getK fr 69 fun t69 =>
  binK .lss t69 t68 fun v23 =>
  condK v23
    (someK (pSlIdx 1 [t67, t69]) fun v25 =>
  someK (lLoad1 [v25] H) fun v26 =>
  call 105 [(.str (bs [65, 66, 67, 68, 69, 70, 71, 72, 73, 74, 75, 76, 77, 78, 79, 80, 81, 82, 83, 84, 85, 86, 87, 88, 89, 90, 97, 98, 99, 100, 101, 102, 103, 104, 105, 106, 107, 108, 109, 110, 111, 112, 113, 114, 115, 116, 117, 118, 119, 120, 121, 122, 48, 49, 50, 51, 52, 53, 54, 55, 56, 57, 43, 47])), v26] H τ fun v27 H28 τ29 =>
  binK .lss v27 (.int .i64 (.ofNat 0)) fun v30 =>
  condK v30
    (k .ret ⟨(T.set (T.set .leaf 2 .nils) 3 (.bool false)), H28⟩ τ29)
    (binK .shl t9 (.int .u64 (.ofNat 6)) fun v31 =>
  binK .and v31 (.int .i64 (.ofNat 65535)) fun v32 =>
  binK .or v32 v27 fun v33 =>
  binK .add t10 (.int .i64 (.ofNat 6)) fun v34 =>
  binK .geq v34 (.int .i64 (.ofNat 8)) fun v35 =>
  condK v35
    (binK .sub v34 (.int .i64 (.ofNat 8)) fun v36 =>
  binK .shr v33 v36 fun v37 =>
  toIntK .u8 v37 fun v38 =>
  effK (eBuildSlice 1 1 [(.int .u8 (.ofNat 0))] [(0, 1)] [v38] H28 τ29) fun v39 H40 τ41 =>
  effK (eAppend 1 1 [t8, v39] H40 τ41) fun v42 H43 τ44 =>
  s70_j4 call N k ⟨(T.set (T.set (T.set (T.set (T.set (T.set (T.set (T.set (T.set (T.set (T.set (T.set (T.set (T.set .leaf 8 t8) 9 v33) 10 v36) 67 t67) 68 t68) 69 t69) 88 t8) 89 v33) 90 v36) 91 v37) 92 v38) 93 v39) 94 v42) 8 v42), H43⟩ τ44)
    (s70_j4 call N k ⟨(T.set (T.set (T.set (T.set (T.set (T.set (T.set .leaf 8 t8) 9 v33) 10 v34) 67 t67) 68 t68) 69 t69) 85 v35), H28⟩ τ29)))
    (k (.exit 4) ⟨(T.set .leaf 8 t8), H⟩ τ)
def s70_j1 (call : CallK) (N : Nat) (q : KV) (st : St) (τ : Tape) : Ans :=
  match st with
  | ⟨fr, H⟩ =>
  getK fr 4 fun t4 =>
  someK (pLen [t4]) fun v13 =>
  binK .rem v13 (.int .i64 (.ofNat 4)) fun v14 =>
  binK .eql v14 (.int .i64 (.ofNat 1)) fun v15 =>
  condK v15
    (q (.tup [.nils, (.bool false)]) H τ)
    (someK (pLen [t4]) fun v16 =>
  binK .mul v16 (.int .i64 (.ofNat 3)) fun v17 =>
  binK .quo v17 (.int .i64 (.ofNat 4)) fun v18 =>
  effK (eMakeSlice 1 1 [(.int .u8 (.ofNat 0))] [(.int .i64 (.ofNat 0)), v18] H τ) fun v19 H20 τ21 =>
  someK (pLen [t4]) fun v22 =>
  loopK (s70_l3 call N) N ⟨(T.set (T.set (T.set (T.set (T.set (T.set .leaf 8 v19) 9 (.int .i64 (.ofNat 0))) 10 (.int .i64 (.ofNat 0))) 67 t4) 68 v22) 69 (.int .i64 (.ofNat 0))), H20⟩ τ21 (blockK 4 (seqK (s70_j2 call N q) (endK [(.t 2), (.t 3)] q))))
def s70_l5 (call : CallK) (N : Nat) (st : St) (τ : Tape) (k : KC) : Ans :=
  match st with
  | ⟨fr, H⟩ =>
  getK fr 4 fun t4 =>
  getK fr 7 fun t7 =>
  binK .lss t7 (.int .i64 (.ofNat 2)) fun v45 =>
  gK v45 true (fun q' => q' t4 H τ) H τ fun v46 H47 τ48 =>
  gK v45 true (fun q' => q' t4 H47 τ48) H47 τ48 fun v49 H50 τ51 =>
  gK v45 true (fun q' => someK (pLen [v49]) fun v => q' v H50 τ51) H50 τ51 fun v52 H53 τ54 =>
  gK v45 true (fun q' => binK .sub v52 (.int .i64 (.ofNat 1)) fun v => q' v H53 τ54) H53 τ54 fun v55 H56 τ57 =>
  gK v45 true (fun q' => someK (pSlIdx 1 [v46, v55]) fun v => q' v H56 τ57) H56 τ57 fun v58 H59 τ60 =>
  gK v45 true (fun q' => someK (lLoad1 [v58] H59) fun v => q' v H59 τ60) H59 τ60 fun v61 H62 τ63 =>
  gK v45 true (fun q' => binK .eql v61 (.int .u8 (.ofNat 61)) fun v => q' v H62 τ63) H62 τ63 fun v64 H65 τ66 =>
  someK (pPick [v45, v64, (.bool false)]) fun v67 =>
  condK v67
    (someK (pLen [t4]) fun v68 =>
  binK .sub v68 (.int .i64 (.ofNat 1)) fun v69 =>
  someK (pSlSlice 1 false true false [t4, v69]) fun v70 =>
  binK .add t7 (.int .i64 (.ofNat 1)) fun v71 =>
  k .normal ⟨(T.set (T.set (T.set (T.set (T.set .leaf 4 v70) 7 t7) 51 t7) 52 v71) 7 v71), H65⟩ τ66)
    (k (.exit 2) ⟨(T.set .leaf 4 t4), H65⟩ τ66)
def s70_j0 (call : CallK) (N : Nat) (q : KV) (st : St) (τ : Tape) : Ans :=
  match st with
  | ⟨fr, H⟩ =>
  getK fr 4 fun t4 =>
  someK (pLen [t4]) fun v1 =>
  binK .gtr v1 (.int .i64 (.ofNat 0)) fun v2 =>
  gK v2 true (fun q' => q' v1 H τ) H τ fun v3 H4 τ5 =>
  gK v2 true (fun q' => binK .rem v3 (.int .i64 (.ofNat 4)) fun v => q' v H4 τ5) H4 τ5 fun v6 H7 τ8 =>
  gK v2 true (fun q' => binK .eql v6 (.int .i64 (.ofNat 0)) fun v => q' v H7 τ8) H7 τ8 fun v9 H10 τ11 =>
  someK (pPick [v2, v9, (.bool false)]) fun v12 =>
  condK v12
    (loopK (s70_l5 call N) N ⟨(T.set (T.set .leaf 4 t4) 7 (.int .i64 (.ofNat 0))), H10⟩ τ11 (blockK 2 (seqK (s70_j1 call N q) (endK [(.t 2), (.t 3)] q))))
    (s70_j1 call N q ⟨(T.set (T.set .leaf 4 t4) 39 v12), H10⟩ τ11)
def s70_j7 (call : CallK) (N : Nat) (k : KC) (st : St) (τ : Tape) : Ans :=
  match st with
  | ⟨fr, H⟩ =>
  getK fr 0 fun t0 =>
  getK fr 4 fun t4 =>
  getK fr 15 fun t15 =>
  getK fr 16 fun t16 =>
  binK .add t16 (.int .i64 (.ofNat 1)) fun v73 =>
  k .normal ⟨(T.set (T.set (T.set (T.set (T.set (T.set .leaf 0 t0) 4 t4) 15 t15) 16 t16) 30 v73) 16 v73), H⟩ τ
def s70_l6 (call : CallK) (N : Nat) (st : St) (τ : Tape) (k : KC) : Ans :=
  match st with
  | ⟨fr, H⟩ =>
  getK fr 0 fun t0 =>
  getK fr 4 fun t4 =>
  getK fr 15 fun t15 =>
  getK fr 16 fun t16 =>
  binK .lss t16 t15 fun v72 =>
  condK v72
    (someK (pStrIndex [t0, t16]) fun v74 =>
  call 105 [(.str (bs [9, 10, 12, 13, 32])), v74] H τ fun v75 H76 τ77 =>
  binK .lss v75 (.int .i64 (.ofNat 0)) fun v78 =>
  condK v78
    (someK (pStrIndex [t0, t16]) fun v79 =>
  effK (eBuildSlice 1 1 [(.int .u8 (.ofNat 0))] [(0, 1)] [v79] H76 τ77) fun v80 H81 τ82 =>
  effK (eAppend 1 1 [t4, v80] H81 τ82) fun v83 H84 τ85 =>
  s70_j7 call N k ⟨(T.set (T.set (T.set (T.set (T.set (T.set (T.set (T.set (T.set (T.set (T.set (T.set (T.set .leaf 0 t0) 4 t4) 5 t16) 15 t15) 16 t16) 23 v78) 24 t4) 25 t0) 26 t16) 27 v79) 28 v80) 29 v83) 4 v83), H84⟩ τ85)
    (s70_j7 call N k ⟨(T.set (T.set (T.set (T.set (T.set (T.set .leaf 0 t0) 4 t4) 5 t16) 15 t15) 16 t16) 23 v78), H76⟩ τ77))
    (k (.exit 0) ⟨(T.set .leaf 4 t4), H⟩ τ)
def s70 (call : CallK) (N : Nat) (a0 : V) (H : Heap) (τ : Tape) (q : KV) : Ans :=
  someK (pLenS [a0]) fun v0 =>
  loopK (s70_l6 call N) N ⟨(T.set (T.set (T.set (T.set .leaf 0 a0) 4 .nils) 15 v0) 16 (.int .i64 (.ofNat 0))), H⟩ τ (blockK 0 (seqK (s70_j0 call N q) (endK [(.t 2), (.t 3)] q)))
theorem s70_eq (call : CallK) (N : Nat) (a0 : V) (H : Heap) (τ : Tape) (q : KV) : s70 call N a0 H τ q = funK call N fn70 [a0] H τ q := by kernel_rfl
def e70 (call : CallK) (N : Nat) (vs : List V) (H : Heap) (τ : Tape) (q : KV) : Ans := match vs with | [a0] => s70 call N a0 H τ q | _ => none
theorem e70_ok : EntOk fn70 e70 := by
  intro call N vs H τ q r h
  unfold e70 at h
  split at h
  · rw [s70_eq] at h; exact h
  · cases h
/-- ostiary/digest.Sum -/
def fn71 : Fun := ⟨2,
  (.seq (.reg [⟨(some 4), none, (.p .mv), [(.c .nils)], none⟩,
    ⟨(some 5), none, (.p .mv), [(.c (.int .i64 (.ofNat 0)))], none⟩])
  (.keep [0, 1] (.seq (.seq (.reg [⟨(some 6), none, (.p .mv), [(.t 0)], none⟩])
  (.keep [1, 6] (.block 0
   (.seq (.reg [⟨(some 8), none, (.p (.bin .eql)), [(.t 6), (.c (.int .i64 (.ofNat 256)))], none⟩,
     ⟨(some 7), none, (.p .mv), [(.t 8)], none⟩])
   (.keep [1, 6, 7] (.cond (.t 7)
    (.seq (.reg [⟨(some 9), none, (.l (.load (some 17))), [(.c (.ptr 0 0))], none⟩,
      ⟨(some 10), none, (.l (.load (some 8))), [(.c (.ptr 1 0))], none⟩,
      ⟨(some 11), none, (.p .mv), [(.t 1)], none⟩,
      ⟨(some 12), none, (.call 106), [(.t 9), (.t 10), (.t 11)], none⟩,
      ⟨(some 4), none, (.p .mv), [(.t 12)], none⟩,
      ⟨(some 5), none, (.p .mv), [(.c (.int .i64 (.ofNat 0)))], none⟩])
    (.keep [4, 5] (.keep [4, 5] .ret)))
    (.seq (.reg [⟨(some 14), none, (.p (.bin .eql)), [(.t 6), (.c (.int .i64 (.ofNat 384)))], none⟩,
      ⟨(some 13), none, (.p .mv), [(.t 14)], none⟩])
    (.keep [1, 6, 13] (.cond (.t 13)
     (.seq (.reg [⟨(some 15), none, (.l (.load (some 17))), [(.c (.ptr 2 0))], none⟩,
       ⟨(some 16), none, (.l (.load (some 8))), [(.c (.ptr 3 0))], none⟩,
       ⟨(some 17), none, (.p .mv), [(.t 1)], none⟩,
       ⟨(some 18), none, (.call 107), [(.t 15), (.t 16), (.t 17)], none⟩,
       ⟨(some 19), none, (.p (.slSlice 1 false true true)), [(.t 18), (.c (.int .i64 (.ofNat 48))), (.c (.int .i64 (.ofNat 48)))], none⟩,
       ⟨(some 4), none, (.p .mv), [(.t 19)], none⟩,
       ⟨(some 5), none, (.p .mv), [(.c (.int .i64 (.ofNat 0)))], none⟩])
     (.keep [4, 5] (.keep [4, 5] .ret)))
     (.seq (.reg [⟨(some 21), none, (.p (.bin .eql)), [(.t 6), (.c (.int .i64 (.ofNat 512)))], none⟩,
       ⟨(some 20), none, (.p .mv), [(.t 21)], none⟩])
     (.keep [1, 20] (.cond (.t 20)
      (.seq (.reg [⟨(some 22), none, (.l (.load (some 17))), [(.c (.ptr 2 0))], none⟩,
        ⟨(some 23), none, (.l (.load (some 8))), [(.c (.ptr 4 0))], none⟩,
        ⟨(some 24), none, (.p .mv), [(.t 1)], none⟩,
        ⟨(some 25), none, (.call 107), [(.t 22), (.t 23), (.t 24)], none⟩,
        ⟨(some 4), none, (.p .mv), [(.t 25)], none⟩,
        ⟨(some 5), none, (.p .mv), [(.c (.int .i64 (.ofNat 0)))], none⟩])
      (.keep [4, 5] (.keep [4, 5] .ret)))
      .skip))))))))))))
  (.keep [] (.seq (.reg [⟨(some 4), none, (.p .mv), [(.c .nils)], none⟩,
    ⟨(some 5), none, (.p .mv), [(.c (.int .i64 (.ofNat 1)))], none⟩])
  (.keep [4, 5] (.keep [4, 5] .ret))))))),
  [(.t 4), (.t 5)]⟩
def s71 (call : CallK) (N : Nat) (a0 a1 : V) (H : Heap) (τ : Tape) (q : KV) : Ans :=
  binK .eql a0 (.int .i64 (.ofNat 256)) fun v0 =>
  condK v0
    (someK (lLoadN 17 [(.ptr 0 0)] H) fun v1 =>
  someK (lLoadN 8 [(.ptr 1 0)] H) fun v2 =>
  call 106 [v1, v2, a1] H τ fun v3 H4 τ5 =>
  q (.tup [v3, (.int .i64 (.ofNat 0))]) H4 τ5)
    (binK .eql a0 (.int .i64 (.ofNat 384)) fun v6 =>
  condK v6
    (someK (lLoadN 17 [(.ptr 2 0)] H) fun v7 =>
  someK (lLoadN 8 [(.ptr 3 0)] H) fun v8 =>
  call 107 [v7, v8, a1] H τ fun v9 H10 τ11 =>
  someK (pSlSlice 1 false true true [v9, (.int .i64 (.ofNat 48)), (.int .i64 (.ofNat 48))]) fun v12 =>
  q (.tup [v12, (.int .i64 (.ofNat 0))]) H10 τ11)
    (binK .eql a0 (.int .i64 (.ofNat 512)) fun v13 =>
  condK v13
    (someK (lLoadN 17 [(.ptr 2 0)] H) fun v14 =>
  someK (lLoadN 8 [(.ptr 4 0)] H) fun v15 =>
  call 107 [v14, v15, a1] H τ fun v16 H17 τ18 =>
  q (.tup [v16, (.int .i64 (.ofNat 0))]) H17 τ18)
    (q (.tup [.nils, (.int .i64 (.ofNat 1))]) H τ)))
theorem s71_eq (call : CallK) (N : Nat) (a0 a1 : V) (H : Heap) (τ : Tape) (q : KV) : s71 call N a0 a1 H τ q = funK call N fn71 [a0, a1] H τ q := by kernel_rfl
def e71 (call : CallK) (N : Nat) (vs : List V) (H : Heap) (τ : Tape) (q : KV) : Ans := match vs with | [a0, a1] => s71 call N a0 a1 H τ q | _ => none
theorem e71_ok : EntOk fn71 e71 := by
  intro call N vs H τ q r h
  unfold e71 at h
  split at h
  · rw [s71_eq] at h; exact h
  · cases h
/-- ostiary/digest.Same -/
def fn72 : Fun := ⟨2,
  (.seq (.reg [⟨(some 4), none, (.p .mv), [(.c (.bool false))], none⟩])
  (.keep [0, 1] (.seq (.seq (.reg [⟨(some 7), none, (.p .mv), [(.t 0)], none⟩,
    ⟨(some 8), none, (.p .len), [(.t 7)], none⟩,
    ⟨(some 9), none, (.p .mv), [(.t 1)], none⟩,
    ⟨(some 10), none, (.p .len), [(.t 9)], none⟩,
    ⟨(some 11), none, (.p (.bin .neq)), [(.t 8), (.t 10)], none⟩])
  (.keep [0, 1, 11] (.cond (.t 11)
   (.seq (.reg [⟨(some 4), none, (.p .mv), [(.c (.bool false))], none⟩])
   (.keep [4] (.keep [4] .ret)))
   .skip)))
  (.keep [0, 1] (.seq (.reg [⟨(some 5), none, (.p .mv), [(.c (.int .u8 (.ofNat 0)))], none⟩])
  (.keep [0, 1, 5] (.seq (.seq (.reg [⟨(some 12), none, (.p .mv), [(.t 0)], none⟩,
    ⟨(some 13), none, (.p .len), [(.t 12)], none⟩,
    ⟨(some 14), none, (.p .mv), [(.c (.int .i64 (.ofNat 0)))], none⟩])
  (.keep [0, 1, 5, 13, 14] (.block 0
   (.loop
    (.keep [0, 1, 5, 13, 14] (.seq (.reg [⟨(some 15), none, (.p (.bin .lss)), [(.t 14), (.t 13)], none⟩])
    (.keep [0, 1, 5, 13, 14, 15] (.seq (.cond (.t 15)
     .skip
     (.keep [5] (.exit 0)))
    (.keep [0, 1, 5, 13, 14] (.seq (.block 1
     (.seq (.reg [⟨(some 16), none, (.p .mv), [(.t 14)], none⟩,
       ⟨(some 6), none, (.p .mv), [(.t 16)], none⟩])
     (.keep [0, 1, 5, 6, 13, 14] (.draw [⟨(some 17), none, (.p .mv), [(.t 5)], none⟩,
       ⟨(some 18), none, (.p .mv), [(.t 0)], none⟩,
       ⟨(some 19), none, (.p .mv), [(.t 6)], none⟩,
       ⟨(some 20), none, (.p (.slIdx 1)), [(.t 18), (.t 19)], none⟩,
       ⟨(some 21), none, (.l (.load none)), [(.t 20)], none⟩,
       ⟨(some 22), none, (.p .mv), [(.t 1)], none⟩,
       ⟨(some 23), none, (.p .mv), [(.t 6)], none⟩,
       ⟨(some 24), none, (.p (.slIdx 1)), [(.t 22), (.t 23)], none⟩,
       ⟨(some 25), none, (.l (.load none)), [(.t 24)], none⟩,
       ⟨(some 26), none, (.p (.bin .xor)), [(.t 21), (.t 25)], none⟩,
       ⟨(some 27), none, (.p (.bin .or)), [(.t 17), (.t 26)], none⟩,
       ⟨(some 5), none, (.p .mv), [(.t 27)], none⟩]))))
    (.keep [0, 1, 5, 13, 14] (.reg [⟨(some 28), none, (.p (.bin .add)), [(.t 14), (.c (.int .i64 (.ofNat 1)))], none⟩,
      ⟨(some 14), none, (.p .mv), [(.t 28)], none⟩]))))))))))))
  (.keep [5] (.seq (.reg [⟨(some 29), none, (.p .mv), [(.t 5)], none⟩,
    ⟨(some 30), none, (.p (.bin .eql)), [(.t 29), (.c (.int .u8 (.ofNat 0)))], none⟩,
    ⟨(some 4), none, (.p .mv), [(.t 30)], none⟩])
  (.keep [4] (.keep [4] .ret))))))))))),
  [(.t 4)]⟩
def s72_j0 (call : CallK) (N : Nat) (q : KV) (st : St) (τ : Tape) : Ans :=
  match st with
  | ⟨fr, H⟩ =>
  getK fr 5 fun t5 =>
  binK .eql t5 (.int .u8 (.ofNat 0)) fun v4 =>
  q v4 H τ
def s72_l1 (call : CallK) (N : Nat) (st : St) (τ : Tape) (k : KC) : Ans :=
  match st with
  | ⟨fr, H⟩ =>
  getK fr 0 fun t0 =>
  getK fr 1 fun t1 =>
  getK fr 5 fun t5 =>
  getK fr 13 fun t13 =>
  getK fr 14 fun t14 =>
  binK .lss t14 t13 fun v5 =>
  condK v5
    (someK (pSlIdx 1 [t0, t14]) fun v6 =>
  someK (lLoad1 [v6] H) fun v7 =>
  someK (pSlIdx 1 [t1, t14]) fun v8 =>
  someK (lLoad1 [v8] H) fun v9 =>
  binK .xor v7 v9 fun v10 =>
  binK .or t5 v10 fun v11 =>
  binK .add t14 (.int .i64 (.ofNat 1)) fun v12 =>
  k .normal ⟨(T.set (T.set (T.set (T.set (T.set (T.set (T.set .leaf 0 t0) 1 t1) 5 v11) 13 t13) 14 t14) 28 v12) 14 v12), H⟩ τ)
    (k (.exit 0) ⟨(T.set .leaf 5 t5), H⟩ τ)
def s72 (call : CallK) (N : Nat) (a0 a1 : V) (H : Heap) (τ : Tape) (q : KV) : Ans :=
  someK (pLen [a0]) fun v0 =>
  someK (pLen [a1]) fun v1 =>
  binK .neq v0 v1 fun v2 =>
  condK v2
    (q (.bool false) H τ)
    (someK (pLen [a0]) fun v3 =>
  loopK (s72_l1 call N) N ⟨(T.set (T.set (T.set (T.set (T.set .leaf 0 a0) 1 a1) 5 (.int .u8 (.ofNat 0))) 13 v3) 14 (.int .i64 (.ofNat 0))), H⟩ τ (blockK 0 (seqK (s72_j0 call N q) (endK [(.t 4)] q))))
theorem s72_eq (call : CallK) (N : Nat) (a0 a1 : V) (H : Heap) (τ : Tape) (q : KV) : s72 call N a0 a1 H τ q = funK call N fn72 [a0, a1] H τ q := by kernel_rfl
def e72 (call : CallK) (N : Nat) (vs : List V) (H : Heap) (τ : Tape) (q : KV) : Ans := match vs with | [a0, a1] => s72 call N a0 a1 H τ q | _ => none
theorem e72_ok : EntOk fn72 e72 := by
  intro call N vs H τ q r h
  unfold e72 at h
  split at h
  · rw [s72_eq] at h; exact h
  · cases h
/-- strconv.Itoa -/
def fn82 : Fun := ⟨1,
  (.seq (.reg [⟨(some 2), none, (.p .mv), [(.c (.str []))], none⟩])
  (.keep [0] (.seq (.reg [⟨(some 3), none, (.p .mv), [(.t 0)], none⟩,
    ⟨(some 4), none, (.call 115), [(.t 3)], none⟩,
    ⟨(some 2), none, (.p .mv), [(.t 4)], none⟩])
  (.keep [2] (.keep [2] .ret))))),
  [(.t 2)]⟩
def s82 (call : CallK) (N : Nat) (a0 : V) (H : Heap) (τ : Tape) (q : KV) : Ans :=
  call 115 [a0] H τ fun v0 H1 τ2 =>
  q v0 H1 τ2
theorem s82_eq (call : CallK) (N : Nat) (a0 : V) (H : Heap) (τ : Tape) (q : KV) : s82 call N a0 H τ q = funK call N fn82 [a0] H τ q := by kernel_rfl
def e82 (call : CallK) (N : Nat) (vs : List V) (H : Heap) (τ : Tape) (q : KV) : Ans := match vs with | [a0] => s82 call N a0 H τ q | _ => none
theorem e82_ok : EntOk fn82 e82 := by
  intro call N vs H τ q r h
  unfold e82 at h
  split at h
  · rw [s82_eq] at h; exact h
  · cases h
/-- ostiary/infra.Encode64 -/
def fn83 : Fun := ⟨1,
  (.seq (.reg [⟨(some 2), none, (.p .mv), [(.c (.str []))], none⟩])
  (.keep [0] (.seq (.reg [⟨(some 3), none, (.p .mv), [(.c .nils)], none⟩])
  (.keep [0, 3] (.seq (.block 0
   (.loop
    (.keep [0, 3] (.seq (.seq (.reg [⟨(some 8), none, (.p .mv), [(.t 0)], none⟩,
      ⟨(some 9), none, (.p .len), [(.t 8)], none⟩,
      ⟨(some 10), none, (.p (.bin .gtr)), [(.t 9), (.c (.int .i64 (.ofNat 0)))], none⟩])
    (.keep [0, 3, 10] (.cond (.t 10)
     .skip
     (.keep [3] (.exit 0)))))
    (.keep [0, 3] (.seq (.block 1
     (.seq (.reg [⟨(some 4), none, (.e (.alloc [(.int .u8 (.ofNat 0)), (.int .u8 (.ofNat 0)), (.int .u8 (.ofNat 0))])), [], none⟩])
     (.keep [0, 3, 4] (.seq (.reg [⟨(some 16), none, (.p (.arrSlice 3 1 false false false)), [(.t 4)], none⟩,
       ⟨(some 17), none, (.p .mv), [(.t 0)], none⟩,
       ⟨(some 18), none, (.e (.copy 1)), [(.t 16), (.t 17)], none⟩,
       ⟨(some 5), none, (.p .mv), [(.t 18)], none⟩])
     (.keep [0, 3, 4, 5] (.seq (.reg [⟨(some 19), none, (.p (.arrIdx 3 1)), [(.t 4), (.c (.int .i64 (.ofNat 0)))], none⟩,
       ⟨(some 20), none, (.l (.load none)), [(.t 19)], none⟩,
       ⟨(some 21), none, (.p (.toInt .i64)), [(.t 20)], none⟩,
       ⟨(some 22), none, (.p (.bin .shl)), [(.t 21), (.c (.int .u64 (.ofNat 16)))], none⟩,
       ⟨(some 23), none, (.p (.arrIdx 3 1)), [(.t 4), (.c (.int .i64 (.ofNat 1)))], none⟩,
       ⟨(some 24), none, (.l (.load none)), [(.t 23)], none⟩,
       ⟨(some 25), none, (.p (.toInt .i64)), [(.t 24)], none⟩,
       ⟨(some 26), none, (.p (.bin .shl)), [(.t 25), (.c (.int .u64 (.ofNat 8)))], none⟩,
       ⟨(some 27), none, (.p (.bin .or)), [(.t 22), (.t 26)], none⟩,
       ⟨(some 28), none, (.p (.arrIdx 3 1)), [(.t 4), (.c (.int .i64 (.ofNat 2)))], none⟩,
       ⟨(some 29), none, (.l (.load none)), [(.t 28)], none⟩,
       ⟨(some 30), none, (.p (.toInt .i64)), [(.t 29)], none⟩,
       ⟨(some 31), none, (.p (.bin .or)), [(.t 27), (.t 30)], none⟩,
       ⟨(some 6), none, (.p .mv), [(.t 31)], none⟩])
     (.keep [0, 3, 5, 6] (.seq (.reg [⟨(some 32), none, (.p .mv), [(.c (.int .i64 (.ofNat 0)))], none⟩])
     (.keep [0, 3, 5, 6, 32] (.block 2
      (.loop
       (.keep [0, 3, 5, 6, 32] (.seq (.reg [⟨(some 33), none, (.p (.bin .lss)), [(.t 32), (.c (.int .i64 (.ofNat 4)))], none⟩])
       (.keep [0, 3, 5, 6, 32, 33] (.seq (.cond (.t 33)
        .skip
        (.keep [0, 3] (.exit 2)))
       (.keep [0, 3, 5, 6, 32] (.seq (.block 3
        (.seq (.reg [⟨(some 34), none, (.p .mv), [(.t 32)], none⟩,
          ⟨(some 7), none, (.p .mv), [(.t 34)], none⟩])
        (.keep [0, 3, 5, 6, 7, 32] (.seq (.seq (.reg [⟨(some 35), none, (.p .mv), [(.t 7)], none⟩,
          ⟨(some 36), none, (.p .mv), [(.t 5)], none⟩,
          ⟨(some 37), none, (.p (.bin .gtr)), [(.t 35), (.t 36)], none⟩])
        (.keep [0, 3, 5, 6, 7, 32, 37] (.cond (.t 37)
         (.seq (.reg [⟨(some 38), none, (.p .mv), [(.t 3)], none⟩,
           ⟨(some 39), none, (.e (.buildSlice 1 1 [(.int .u8 (.ofNat 0))] [(0, 1)])), [(.c (.int .u8 (.ofNat 61)))], none⟩,
           ⟨(some 40), none, (.e (.append 1 1)), [(.t 38), (.t 39)], none⟩,
           ⟨(some 3), none, (.p .mv), [(.t 40)], none⟩])
         (.keep [0, 3, 5, 6, 32] (.keep [0, 3, 5, 6, 32] (.exit 3))))
         .skip)))
        (.keep [0, 3, 5, 6, 7, 32] (.reg [⟨(some 41), none, (.p .mv), [(.t 3)], none⟩,
          ⟨(some 42), none, (.p .mv), [(.t 6)], none⟩,
          ⟨(some 43), none, (.p .mv), [(.t 7)], none⟩,
          ⟨(some 44), none, (.p (.bin .mul)), [(.c (.int .i64 (.ofNat 6))), (.t 43)], none⟩,
          ⟨(some 45), none, (.p (.bin .sub)), [(.c (.int .i64 (.ofNat 18))), (.t 44)], none⟩,
          ⟨(some 46), none, (.p (.bin .shr)), [(.t 42), (.t 45)], none⟩,
          ⟨(some 47), none, (.p (.bin .and)), [(.t 46), (.c (.int .i64 (.ofNat 63)))], none⟩,
          ⟨(some 48), none, (.p .strIndex), [(.c (.str (bs [65, 66, 67, 68, 69, 70, 71, 72, 73, 74, 75, 76, 77, 78, 79, 80, 81, 82, 83, 84, 85, 86, 87, 88, 89, 90, 97, 98, 99, 100, 101, 102, 103, 104, 105, 106, 107, 108, 109, 110, 111, 112, 113, 114, 115, 116, 117, 118, 119, 120, 121, 122, 48, 49, 50, 51, 52, 53, 54, 55, 56, 57, 43, 47]))), (.t 47)], none⟩,
          ⟨(some 49), none, (.e (.buildSlice 1 1 [(.int .u8 (.ofNat 0))] [(0, 1)])), [(.t 48)], none⟩,
          ⟨(some 50), none, (.e (.append 1 1)), [(.t 41), (.t 49)], none⟩,
          ⟨(some 3), none, (.p .mv), [(.t 50)], none⟩]))))))
       (.keep [0, 3, 5, 6, 32] (.reg [⟨(some 51), none, (.p (.bin .add)), [(.t 32), (.c (.int .i64 (.ofNat 1)))], none⟩,
         ⟨(some 32), none, (.p .mv), [(.t 51)], none⟩])))))))))))))))))))
    (.keep [0, 3] (.reg [⟨(some 11), none, (.p .mv), [(.t 0)], none⟩,
      ⟨(some 12), none, (.p .mv), [(.t 0)], none⟩,
      ⟨(some 13), none, (.p .len), [(.t 12)], none⟩,
      ⟨(some 14), none, (.p .min2), [(.c (.int .i64 (.ofNat 3))), (.t 13)], none⟩,
      ⟨(some 15), none, (.p (.slSlice 1 true false false)), [(.t 11), (.t 14)], none⟩,
      ⟨(some 0), none, (.p .mv), [(.t 15)], none⟩]))))))))
  (.keep [3] (.seq (.reg [⟨(some 52), none, (.p .mv), [(.t 3)], none⟩,
    ⟨(some 53), none, (.l .bytesStr), [(.t 52)], none⟩,
    ⟨(some 2), none, (.p .mv), [(.t 53)], none⟩])
  (.keep [2] (.keep [2] .ret))))))))),
  [(.t 2)]⟩
def s83_j0 (call : CallK) (N : Nat) (q : KV) (st : St) (τ : Tape) : Ans :=
  match st with
  | ⟨fr, H⟩ =>
  getK fr 3 fun t3 =>
  someK (lBytesStr [t3] H) fun v0 =>
  q v0 H τ
def s83_j2 (call : CallK) (N : Nat) (k : KC) (st : St) (τ : Tape) : Ans :=
  match st with
  | ⟨fr, H⟩ =>
  getK fr 0 fun t0 =>
  getK fr 3 fun t3 =>
  someK (pLen [t0]) fun v3 =>
  someK (pMin [(.int .i64 (.ofNat 3)), v3]) fun v4 =>
  someK (pSlSlice 1 true false false [t0, v4]) fun v5 =>
  k .normal ⟨(T.set (T.set (T.set (T.set (T.set (T.set (T.set (T.set .leaf 0 t0) 3 t3) 11 t0) 12 t0) 13 v3) 14 v4) 15 v5) 0 v5), H⟩ τ
def s83_j4 (call : CallK) (N : Nat) (k : KC) (st : St) (τ : Tape) : Ans :=
  match st with
  | ⟨fr, H⟩ =>
  getK fr 0 fun t0 =>
  getK fr 3 fun t3 =>
  getK fr 5 fun t5 =>
  getK fr 6 fun t6 =>
  getK fr 32 fun t32 =>
  binK .add t32 (.int .i64 (.ofNat 1)) fun v27 =>
  k .normal ⟨(T.set (T.set (T.set (T.set (T.set (T.set (T.set .leaf 0 t0) 3 t3) 5 t5) 6 t6) 32 t32) 51 v27) 32 v27), H⟩ τ
def s83_l3 (call : CallK) (N : Nat) (st : St) (τ : Tape) (k : KC) : Ans :=
  match st with
  | ⟨fr, H⟩ =>
  getK fr 0 fun t0 =>
  getK fr 3 fun t3 =>
  getK fr 5 fun t5 =>
  getK fr 6 fun t6 =>
  getK fr 32 fun t32 =>
  binK .lss t32 (.int .i64 (.ofNat 4)) fun v26 =>
  condK v26
    (binK .gtr t32 t5 fun v28 =>
  condK v28
    (effK (eBuildSlice 1 1 [(.int .u8 (.ofNat 0))] [(0, 1)] [(.int .u8 (.ofNat 61))] H τ) fun v29 H30 τ31 =>
  effK (eAppend 1 1 [t3, v29] H30 τ31) fun v32 H33 τ34 =>
  s83_j4 call N k ⟨(T.set (T.set (T.set (T.set (T.set .leaf 0 t0) 3 v32) 5 t5) 6 t6) 32 t32), H33⟩ τ34)
    (binK .mul (.int .i64 (.ofNat 6)) t32 fun v35 =>
  binK .sub (.int .i64 (.ofNat 18)) v35 fun v36 =>
  binK .shr t6 v36 fun v37 =>
  binK .and v37 (.int .i64 (.ofNat 63)) fun v38 =>
  someK (pStrIndex [(.str (bs [65, 66, 67, 68, 69, 70, 71, 72, 73, 74, 75, 76, 77, 78, 79, 80, 81, 82, 83, 84, 85, 86, 87, 88, 89, 90, 97, 98, 99, 100, 101, 102, 103, 104, 105, 106, 107, 108, 109, 110, 111, 112, 113, 114, 115, 116, 117, 118, 119, 120, 121, 122, 48, 49, 50, 51, 52, 53, 54, 55, 56, 57, 43, 47])), v38]) fun v39 =>
  effK (eBuildSlice 1 1 [(.int .u8 (.ofNat 0))] [(0, 1)] [v39] H τ) fun v40 H41 τ42 =>
  effK (eAppend 1 1 [t3, v40] H41 τ42) fun v43 H44 τ45 =>
  s83_j4 call N k ⟨(T.set (T.set (T.set (T.set (T.set (T.set (T.set (T.set (T.set (T.set (T.set (T.set (T.set (T.set (T.set (T.set (T.set .leaf 0 t0) 3 t3) 5 t5) 6 t6) 7 t32) 32 t32) 41 t3) 42 t6) 43 t32) 44 v35) 45 v36) 46 v37) 47 v38) 48 v39) 49 v40) 50 v43) 3 v43), H44⟩ τ45))
    (k (.exit 2) ⟨(T.set (T.set .leaf 0 t0) 3 t3), H⟩ τ)
def s83_l1 (call : CallK) (N : Nat) (st : St) (τ : Tape) (k : KC) : Ans :=
  match st with
  | ⟨fr, H⟩ =>
  getK fr 0 fun t0 =>
  getK fr 3 fun t3 =>
  someK (pLen [t0]) fun v1 =>
  binK .gtr v1 (.int .i64 (.ofNat 0)) fun v2 =>
  condK v2
    (effK (eAlloc [(.int .u8 (.ofNat 0)), (.int .u8 (.ofNat 0)), (.int .u8 (.ofNat 0))] [] H τ) fun v6 H7 τ8 =>
  someK (pArrSlice 3 1 false false false [v6]) fun v9 =>
  effK (eCopy 1 [v9, t0] H7 τ8) fun v10 H11 τ12 =>
  someK (pArrIdx 3 1 [v6, (.int .i64 (.ofNat 0))]) fun v13 =>
  someK (lLoad1 [v13] H11) fun v14 =>
  toIntK .i64 v14 fun v15 =>
  binK .shl v15 (.int .u64 (.ofNat 16)) fun v16 =>
  someK (pArrIdx 3 1 [v6, (.int .i64 (.ofNat 1))]) fun v17 =>
  someK (lLoad1 [v17] H11) fun v18 =>
  toIntK .i64 v18 fun v19 =>
  binK .shl v19 (.int .u64 (.ofNat 8)) fun v20 =>
  binK .or v16 v20 fun v21 =>
  someK (pArrIdx 3 1 [v6, (.int .i64 (.ofNat 2))]) fun v22 =>
  someK (lLoad1 [v22] H11) fun v23 =>
  toIntK .i64 v23 fun v24 =>
  binK .or v21 v24 fun v25 =>
  loopK (s83_l3 call N) N ⟨(T.set (T.set (T.set (T.set (T.set .leaf 0 t0) 3 t3) 5 v10) 6 v25) 32 (.int .i64 (.ofNat 0))), H11⟩ τ12 (blockK 2 (blockK 1 (seqK (s83_j2 call N k) k))))
    (k (.exit 0) ⟨(T.set .leaf 3 t3), H⟩ τ)
def s83 (call : CallK) (N : Nat) (a0 : V) (H : Heap) (τ : Tape) (q : KV) : Ans :=
  loopK (s83_l1 call N) N ⟨(T.set (T.set .leaf 0 a0) 3 .nils), H⟩ τ (blockK 0 (seqK (s83_j0 call N q) (endK [(.t 2)] q)))
theorem s83_eq (call : CallK) (N : Nat) (a0 : V) (H : Heap) (τ : Tape) (q : KV) : s83 call N a0 H τ q = funK call N fn83 [a0] H τ q := by kernel_rfl
def e83 (call : CallK) (N : Nat) (vs : List V) (H : Heap) (τ : Tape) (q : KV) : Ans := match vs with | [a0] => s83 call N a0 H τ q | _ => none
theorem e83_ok : EntOk fn83 e83 := by
  intro call N vs H τ q r h
  unfold e83 at h
  split at h
  · rw [s83_eq] at h; exact h
  · cases h
/-- ostiary/infra.Lower -/
def fn92 : Fun := ⟨1,
  (.seq (.reg [⟨(some 2), none, (.p .mv), [(.c (.str []))], none⟩])
  (.keep [0] (.seq (.reg [⟨(some 3), none, (.p .mv), [(.t 0)], none⟩,
    ⟨(some 4), none, (.call 120), [(.t 3), (.c (.func 121 [] []))], none⟩,
    ⟨(some 2), none, (.p .mv), [(.t 4)], none⟩])
  (.keep [2] (.keep [2] .ret))))),
  [(.t 2)]⟩
def s92 (call : CallK) (N : Nat) (a0 : V) (H : Heap) (τ : Tape) (q : KV) : Ans :=
  call 120 [a0, (.func 121 [] [])] H τ fun v0 H1 τ2 =>
  q v0 H1 τ2
theorem s92_eq (call : CallK) (N : Nat) (a0 : V) (H : Heap) (τ : Tape) (q : KV) : s92 call N a0 H τ q = funK call N fn92 [a0] H τ q := by kernel_rfl
def e92 (call : CallK) (N : Nat) (vs : List V) (H : Heap) (τ : Tape) (q : KV) : Ans := match vs with | [a0] => s92 call N a0 H τ q | _ => none
theorem e92_ok : EntOk fn92 e92 := by
  intro call N vs H τ q r h
  unfold e92 at h
  split at h
  · rw [s92_eq] at h; exact h
  · cases h
/-- strings.IndexRune -/
def fn102 : Fun := ⟨2,
  (.seq (.reg [⟨(some 4), none, (.p .mv), [(.c (.int .i64 (.ofNat 0)))], none⟩])
  (.keep [0, 1] (.block 0
   (.seq (.reg [⟨(some 161), none, (.p .mv), [(.t 1)], none⟩,
     ⟨(some 162), none, (.p (.bin .leq)), [(.c (.int .i32 (.ofNat 0))), (.t 161)], none⟩,
     ⟨(some 163), none, (.p .mv), [(.t 162)], none⟩,
     ⟨(some 164), some (163, true), (.p .mv), [(.t 1)], none⟩,
     ⟨(some 165), some (163, true), (.p (.bin .lss)), [(.t 164), (.c (.int .i32 (.ofNat 128)))], none⟩,
     ⟨(some 166), none, (.p .pick), [(.t 163), (.t 165), (.c (.bool false))], none⟩,
     ⟨(some 160), none, (.p .mv), [(.t 166)], none⟩])
   (.keep [0, 1, 160] (.cond (.t 160)
    (.seq (.reg [⟨(some 167), none, (.p .mv), [(.t 0)], none⟩,
      ⟨(some 168), none, (.p .mv), [(.t 1)], none⟩,
      ⟨(some 169), none, (.p (.toInt .u8)), [(.t 168)], none⟩,
      ⟨(some 170), none, (.call 105), [(.t 167), (.t 169)], none⟩,
      ⟨(some 4), none, (.p .mv), [(.t 170)], none⟩])
    (.keep [4] (.keep [4] .ret)))
    (.seq (.reg [⟨(some 172), none, (.p .mv), [(.t 1)], none⟩,
      ⟨(some 173), none, (.p (.bin .eql)), [(.t 172), (.c (.int .i32 (.ofNat 65533)))], none⟩,
      ⟨(some 171), none, (.p .mv), [(.t 173)], none⟩])
    (.keep [0, 1, 171] (.cond (.t 171)
     (.seq (.seq (.reg [⟨(some 174), none, (.p .mv), [(.t 0)], none⟩,
       ⟨(some 175), none, (.e .range), [(.t 174)], none⟩])
     (.keep [175] (.block 9
      (.loop
       (.keep [175] (.seq (.reg [⟨(some 176), none, (.e .next), [(.t 175)], none⟩,
         ⟨(some 177), none, (.p (.extract 0)), [(.t 176)], none⟩])
       (.keep [175, 176, 177] (.seq (.cond (.t 177)
        .skip
        (.keep [] (.exit 9)))
       (.keep [175, 176] (.block 10
        (.seq (.reg [⟨(some 178), none, (.p (.extract 1)), [(.t 176)], none⟩,
          ⟨(some 179), none, (.p (.extract 2)), [(.t 176)], none⟩,
          ⟨(some 5), none, (.p .mv), [(.t 178)], none⟩,
          ⟨(some 6), none, (.p .mv), [(.t 179)], none⟩])
        (.keep [5, 6, 175] (.seq (.reg [⟨(some 180), none, (.p .mv), [(.t 6)], none⟩,
          ⟨(some 181), none, (.p (.bin .eql)), [(.t 180), (.c (.int .i32 (.ofNat 65533)))], none⟩])
        (.keep [5, 175, 181] (.cond (.t 181)
         (.seq (.reg [⟨(some 182), none, (.p .mv), [(.t 5)], none⟩,
           ⟨(some 4), none, (.p .mv), [(.t 182)], none⟩])
         (.keep [4] (.keep [4] .ret)))
         .skip)))))))))))))))
     (.keep [] (.seq (.reg [⟨(some 4), none, (.p .mv), [(.c (.int .i64 (.negSucc 0)))], none⟩])
     (.keep [4] (.keep [4] .ret)))))
     (.seq (.reg [⟨(some 184), none, (.p .mv), [(.t 1)], none⟩,
       ⟨(some 185), none, (.call 127), [(.t 184)], none⟩,
       ⟨(some 186), none, (.p (.un .not)), [(.t 185)], none⟩,
       ⟨(some 183), none, (.p .mv), [(.t 186)], none⟩])
     (.keep [0, 1, 183] (.cond (.t 183)
      (.seq (.reg [⟨(some 4), none, (.p .mv), [(.c (.int .i64 (.negSucc 0)))], none⟩])
      (.keep [4] (.keep [4] .ret)))
      (.scope (.seq (.reg [⟨(some 17), none, (.p .mv), [(.t 1)], none⟩,
        ⟨(some 18), none, (.p .runeStr), [(.t 17)], none⟩,
        ⟨(some 7), none, (.p .mv), [(.t 18)], none⟩])
      (.keep [0, 7] (.seq (.reg [⟨(some 19), none, (.p .mv), [(.t 7)], none⟩,
        ⟨(some 20), none, (.p .lenS), [(.t 19)], none⟩,
        ⟨(some 21), none, (.p (.bin .sub)), [(.t 20), (.c (.int .i64 (.ofNat 1)))], none⟩,
        ⟨(some 8), none, (.p .mv), [(.t 21)], none⟩])
      (.keep [0, 7, 8] (.seq (.reg [⟨(some 22), none, (.p .mv), [(.t 8)], none⟩,
        ⟨(some 9), none, (.p .mv), [(.t 22)], none⟩])
      (.keep [0, 7, 8, 9] (.seq (.reg [⟨(some 10), none, (.p .mv), [(.c (.int .i64 (.ofNat 0)))], none⟩])
      (.keep [0, 7, 8, 9] (.seq (.block 1
       (.loop
        (.keep [0, 7, 8, 9] (.seq (.seq (.reg [⟨(some 23), none, (.p .mv), [(.t 9)], none⟩,
          ⟨(some 24), none, (.p .mv), [(.t 0)], none⟩,
          ⟨(some 25), none, (.p .lenS), [(.t 24)], none⟩,
          ⟨(some 26), none, (.p (.bin .lss)), [(.t 23), (.t 25)], none⟩])
        (.keep [0, 7, 8, 9, 26] (.cond (.t 26)
         .skip
         (.keep [] (.exit 1)))))
        (.keep [0, 7, 8, 9] (.block 2
         (.scope (.seq (.seq (.draw [⟨(some 27), none, (.p .mv), [(.t 0)], none⟩,
           ⟨(some 28), none, (.p .mv), [(.t 9)], none⟩,
           ⟨(some 29), none, (.p .strIndex), [(.t 27), (.t 28)], none⟩,
           ⟨(some 30), none, (.p .mv), [(.t 7)], none⟩,
           ⟨(some 31), none, (.p .mv), [(.t 8)], none⟩,
           ⟨(some 32), none, (.p .strIndex), [(.t 30), (.t 31)], none⟩,
           ⟨(some 33), none, (.p (.bin .neq)), [(.t 29), (.t 32)], none⟩])
         (.keep [0, 7, 8, 9, 33] (.cond (.t 33)
          (.seq (.draw [⟨(some 34), none, (.p .mv), [(.t 0)], none⟩,
            ⟨(some 35), none, (.p .mv), [(.t 9)], none⟩,
            ⟨(some 36), none, (.p (.bin .add)), [(.t 35), (.c (.int .i64 (.ofNat 1)))], none⟩,
            ⟨(some 37), none, (.p (.strSlice true false)), [(.t 34), (.t 36)], none⟩,
            ⟨(some 38), none, (.p .mv), [(.t 7)], none⟩,
            ⟨(some 39), none, (.p .mv), [(.t 8)], none⟩,
            ⟨(some 40), none, (.p .strIndex), [(.t 38), (.t 39)], none⟩,
            ⟨(some 41), none, (.call 105), [(.t 37), (.t 40)], none⟩,
            ⟨(some 11), none, (.p .mv), [(.t 41)], none⟩])
          (.keep [0, 7, 8, 9, 11] (.seq (.seq (.reg [⟨(some 42), none, (.p .mv), [(.t 11)], none⟩,
            ⟨(some 43), none, (.p (.bin .lss)), [(.t 42), (.c (.int .i64 (.ofNat 0)))], none⟩])
          (.keep [0, 7, 8, 9, 11, 43] (.cond (.t 43)
           (.seq (.reg [⟨(some 4), none, (.p .mv), [(.c (.int .i64 (.negSucc 0)))], none⟩])
           (.keep [4] (.keep [4] .ret)))
           .skip)))
          (.keep [0, 7, 8, 9, 11] (.reg [⟨(some 44), none, (.p .mv), [(.t 9)], none⟩,
            ⟨(some 45), none, (.p .mv), [(.t 11)], none⟩,
            ⟨(some 46), none, (.p (.bin .add)), [(.t 45), (.c (.int .i64 (.ofNat 1)))], none⟩,
            ⟨(some 47), none, (.p (.bin .add)), [(.t 44), (.t 46)], none⟩,
            ⟨(some 9), none, (.p .mv), [(.t 47)], none⟩])))))
          .skip)))
         (.keep [0, 7, 8, 9] (.seq (.seq (.reg [⟨(some 12), none, (.p .mv), [(.c (.int .i64 (.ofNat 1)))], none⟩])
         (.keep [0, 7, 8, 9, 12] (.block 3
          (.loop
           (.keep [0, 7, 8, 9, 12] (.seq (.seq (.reg [⟨(some 48), none, (.p .mv), [(.t 12)], none⟩,
             ⟨(some 49), none, (.p .mv), [(.t 7)], none⟩,
             ⟨(some 50), none, (.p .lenS), [(.t 49)], none⟩,
             ⟨(some 51), none, (.p (.bin .lss)), [(.t 48), (.t 50)], none⟩])
           (.keep [0, 7, 8, 9, 12, 51] (.cond (.t 51)
            .skip
            (.keep [8, 9] (.exit 3)))))
           (.keep [0, 7, 8, 9, 12] (.seq (.block 4
            (.seq (.draw [⟨(some 54), none, (.p .mv), [(.t 0)], none⟩,
              ⟨(some 55), none, (.p .mv), [(.t 9)], none⟩,
              ⟨(some 56), none, (.p .mv), [(.t 12)], none⟩,
              ⟨(some 57), none, (.p (.bin .sub)), [(.t 55), (.t 56)], none⟩,
              ⟨(some 58), none, (.p .strIndex), [(.t 54), (.t 57)], none⟩,
              ⟨(some 59), none, (.p .mv), [(.t 7)], none⟩,
              ⟨(some 60), none, (.p .mv), [(.t 8)], none⟩,
              ⟨(some 61), none, (.p .mv), [(.t 12)], none⟩,
              ⟨(some 62), none, (.p (.bin .sub)), [(.t 60), (.t 61)], none⟩,
              ⟨(some 63), none, (.p .strIndex), [(.t 59), (.t 62)], none⟩,
              ⟨(some 64), none, (.p (.bin .neq)), [(.t 58), (.t 63)], none⟩])
            (.keep [0, 7, 8, 9, 12, 64] (.cond (.t 64)
             .bad
             .skip))))
           (.keep [0, 7, 8, 9, 12] (.reg [⟨(some 52), none, (.p .mv), [(.t 12)], none⟩,
             ⟨(some 53), none, (.p (.bin .add)), [(.t 52), (.c (.int .i64 (.ofNat 1)))], none⟩,
             ⟨(some 12), none, (.p .mv), [(.t 53)], none⟩]))))))))))
         (.keep [8, 9] (.seq (.seq (.reg [⟨(some 65), none, (.p .mv), [(.t 9)], none⟩,
           ⟨(some 66), none, (.p .mv), [(.t 8)], none⟩,
           ⟨(some 67), none, (.p (.bin .sub)), [(.t 65), (.t 66)], none⟩,
           ⟨(some 4), none, (.p .mv), [(.t 67)], none⟩])
         (.keep [4] (.keep [4] .ret)))
         (.keep [0, 7, 8, 9, 10] (.seq .skip
         (.keep [0, 7, 8, 9, 10] (.seq (.reg [⟨(some 68), none, (.p .mv), [(.t 10)], none⟩,
           ⟨(some 69), none, (.p (.bin .add)), [(.t 68), (.c (.int .i64 (.ofNat 1)))], none⟩,
           ⟨(some 10), none, (.p .mv), [(.t 69)], none⟩])
         (.keep [0, 7, 8, 9, 10] (.seq (.reg [⟨(some 70), none, (.p .mv), [(.t 9)], none⟩,
           ⟨(some 71), none, (.p (.bin .add)), [(.t 70), (.c (.int .i64 (.ofNat 1)))], none⟩,
           ⟨(some 9), none, (.p .mv), [(.t 71)], none⟩])
         (.keep [0, 7, 8, 9, 10] (.seq (.reg [⟨(some 72), none, (.p .mv), [(.c (.bool true))], none⟩,
           ⟨(some 73), some (72, true), (.p .mv), [(.t 10)], none⟩,
           ⟨(some 74), some (72, true), (.p .mv), [(.t 9)], none⟩,
           ⟨(some 75), some (72, true), (.call 128), [(.t 74)], none⟩,
           ⟨(some 76), some (72, true), (.p (.bin .gtr)), [(.t 73), (.t 75)], none⟩,
           ⟨(some 77), none, (.p .pick), [(.t 72), (.t 76), (.c (.bool false))], none⟩,
           ⟨(some 78), none, (.p .mv), [(.t 77)], none⟩,
           ⟨(some 79), some (78, true), (.p .mv), [(.t 9)], none⟩,
           ⟨(some 80), some (78, true), (.p .mv), [(.t 0)], none⟩,
           ⟨(some 81), some (78, true), (.p .lenS), [(.t 80)], none⟩,
           ⟨(some 82), some (78, true), (.p (.bin .lss)), [(.t 79), (.t 81)], none⟩,
           ⟨(some 83), none, (.p .pick), [(.t 78), (.t 82), (.c (.bool false))], none⟩,
           ⟨(some 84), none, (.p .mv), [(.t 83)], none⟩,
           ⟨(some 85), some (84, false), (.p .mv), [(.c (.bool false))], none⟩,
           ⟨(some 86), some (85, true), (.p .mv), [(.t 10)], none⟩,
           ⟨(some 87), some (85, true), (.p .mv), [(.t 9)], none⟩,
           ⟨(some 88), some (85, true), (.p (.bin .shr)), [(.t 87), (.c (.int .u64 (.ofNat 4)))], none⟩,
           ⟨(some 89), some (85, true), (.p (.bin .add)), [(.c (.int .i64 (.ofNat 4))), (.t 88)], none⟩,
           ⟨(some 90), some (85, true), (.p (.bin .geq)), [(.t 86), (.t 89)], none⟩,
           ⟨(some 91), some (84, false), (.p .pick), [(.t 85), (.t 90), (.c (.bool false))], none⟩,
           ⟨(some 92), some (84, false), (.p .mv), [(.t 91)], none⟩,
           ⟨(some 93), some (92, true), (.p .mv), [(.t 9)], none⟩,
           ⟨(some 94), some (92, true), (.p .mv), [(.t 0)], none⟩,
           ⟨(some 95), some (92, true), (.p .lenS), [(.t 94)], none⟩,
           ⟨(some 96), some (92, true), (.p (.bin .lss)), [(.t 93), (.t 95)], none⟩,
           ⟨(some 97), some (84, false), (.p .pick), [(.t 92), (.t 96), (.c (.bool false))], none⟩,
           ⟨(some 98), none, (.p .pick), [(.t 84), (.c (.bool true)), (.t 97)], none⟩])
         (.keep [0, 7, 8, 9, 98] (.cond (.t 98)
          .bad
          .skip))))))))))))))))))))))
      (.keep [] (.seq (.seq (.reg [⟨(some 4), none, (.p .mv), [(.c (.int .i64 (.negSucc 0)))], none⟩])
      (.keep [4] (.keep [4] .ret)))
      (.keep [0, 7, 8, 9] (.seq .skip
      (.keep [0, 7, 8, 9] (.seq (.cond (.c (.bool true))
       (.seq .bad
       (.keep [8, 9, 13] (.seq (.reg [⟨(some 107), none, (.p .mv), [(.t 13)], none⟩,
         ⟨(some 108), none, (.p (.bin .geq)), [(.t 107), (.c (.int .i64 (.ofNat 0)))], none⟩])
       (.keep [8, 9, 13, 108] (.cond (.t 108)
        (.seq (.reg [⟨(some 109), none, (.p .mv), [(.t 9)], none⟩,
          ⟨(some 110), none, (.p .mv), [(.t 13)], none⟩,
          ⟨(some 111), none, (.p (.bin .add)), [(.t 109), (.t 110)], none⟩,
          ⟨(some 112), none, (.p .mv), [(.t 8)], none⟩,
          ⟨(some 113), none, (.p (.bin .sub)), [(.t 111), (.t 112)], none⟩,
          ⟨(some 4), none, (.p .mv), [(.t 113)], none⟩])
        (.keep [4] (.keep [4] .ret)))
        .skip)))))
       (.scope (.seq (.reg [⟨(some 114), none, (.p .mv), [(.t 7)], none⟩,
         ⟨(some 115), none, (.p .mv), [(.t 8)], none⟩,
         ⟨(some 116), none, (.p .strIndex), [(.t 114), (.t 115)], none⟩,
         ⟨(some 14), none, (.p .mv), [(.t 116)], none⟩])
       (.keep [0, 7, 8, 9, 14] (.seq (.reg [⟨(some 117), none, (.p .mv), [(.t 7)], none⟩,
         ⟨(some 118), none, (.p .mv), [(.t 8)], none⟩,
         ⟨(some 119), none, (.p (.bin .sub)), [(.t 118), (.c (.int .i64 (.ofNat 1)))], none⟩,
         ⟨(some 120), none, (.p .strIndex), [(.t 117), (.t 119)], none⟩,
         ⟨(some 15), none, (.p .mv), [(.t 120)], none⟩])
       (.keep [0, 7, 8, 9, 14, 15] (.seq .skip
       (.keep [0, 7, 8, 9, 14, 15] (.block 5
        (.loop
         (.keep [0, 7, 8, 9, 14, 15] (.seq (.seq (.reg [⟨(some 121), none, (.p .mv), [(.t 9)], none⟩,
           ⟨(some 122), none, (.p .mv), [(.t 0)], none⟩,
           ⟨(some 123), none, (.p .lenS), [(.t 122)], none⟩,
           ⟨(some 124), none, (.p (.bin .lss)), [(.t 121), (.t 123)], none⟩])
         (.keep [0, 7, 8, 9, 14, 15, 124] (.cond (.t 124)
          .skip
          (.keep [] (.exit 5)))))
         (.keep [0, 7, 8, 9, 14, 15] (.seq (.block 6
          (.seq (.reg [⟨(some 127), none, (.p .mv), [(.t 0)], none⟩,
            ⟨(some 128), none, (.p .mv), [(.t 9)], none⟩,
            ⟨(some 129), none, (.p .strIndex), [(.t 127), (.t 128)], none⟩,
            ⟨(some 130), none, (.p .mv), [(.t 14)], none⟩,
            ⟨(some 131), none, (.p (.bin .eql)), [(.t 129), (.t 130)], none⟩,
            ⟨(some 132), none, (.p .mv), [(.t 131)], none⟩,
            ⟨(some 133), some (132, true), (.p .mv), [(.t 0)], none⟩,
            ⟨(some 134), some (132, true), (.p .mv), [(.t 9)], none⟩,
            ⟨(some 135), some (132, true), (.p (.bin .sub)), [(.t 134), (.c (.int .i64 (.ofNat 1)))], none⟩,
            ⟨(some 136), some (132, true), (.p .strIndex), [(.t 133), (.t 135)], none⟩,
            ⟨(some 137), some (132, true), (.p .mv), [(.t 15)], none⟩,
            ⟨(some 138), some (132, true), (.p (.bin .eql)), [(.t 136), (.t 137)], none⟩,
            ⟨(some 139), none, (.p .pick), [(.t 132), (.t 138), (.c (.bool false))], none⟩])
          (.keep [0, 7, 8, 9, 14, 15, 139] (.cond (.t 139)
           (.seq (.seq (.reg [⟨(some 16), none, (.p .mv), [(.c (.int .i64 (.ofNat 2)))], none⟩])
           (.keep [0, 7, 8, 9, 14, 15, 16] (.block 7
            (.loop
             (.keep [0, 7, 8, 9, 14, 15, 16] (.seq (.seq (.reg [⟨(some 140), none, (.p .mv), [(.t 16)], none⟩,
               ⟨(some 141), none, (.p .mv), [(.t 7)], none⟩,
               ⟨(some 142), none, (.p .lenS), [(.t 141)], none⟩,
               ⟨(some 143), none, (.p (.bin .lss)), [(.t 140), (.t 142)], none⟩])
             (.keep [0, 7, 8, 9, 14, 15, 16, 143] (.cond (.t 143)
              .skip
              (.keep [8, 9] (.exit 7)))))
             (.keep [0, 7, 8, 9, 14, 15, 16] (.seq (.block 8
              (.seq (.draw [⟨(some 146), none, (.p .mv), [(.t 0)], none⟩,
                ⟨(some 147), none, (.p .mv), [(.t 9)], none⟩,
                ⟨(some 148), none, (.p .mv), [(.t 16)], none⟩,
                ⟨(some 149), none, (.p (.bin .sub)), [(.t 147), (.t 148)], none⟩,
                ⟨(some 150), none, (.p .strIndex), [(.t 146), (.t 149)], none⟩,
                ⟨(some 151), none, (.p .mv), [(.t 7)], none⟩,
                ⟨(some 152), none, (.p .mv), [(.t 8)], none⟩,
                ⟨(some 153), none, (.p .mv), [(.t 16)], none⟩,
                ⟨(some 154), none, (.p (.bin .sub)), [(.t 152), (.t 153)], none⟩,
                ⟨(some 155), none, (.p .strIndex), [(.t 151), (.t 154)], none⟩,
                ⟨(some 156), none, (.p (.bin .neq)), [(.t 150), (.t 155)], none⟩])
              (.keep [0, 7, 8, 9, 14, 15, 16, 156] (.cond (.t 156)
               (.keep [0, 7, 8, 9, 14, 15] (.exit 6))
               .skip))))
             (.keep [0, 7, 8, 9, 14, 15, 16] (.reg [⟨(some 144), none, (.p .mv), [(.t 16)], none⟩,
               ⟨(some 145), none, (.p (.bin .add)), [(.t 144), (.c (.int .i64 (.ofNat 1)))], none⟩,
               ⟨(some 16), none, (.p .mv), [(.t 145)], none⟩]))))))))))
           (.keep [8, 9] (.seq (.reg [⟨(some 157), none, (.p .mv), [(.t 9)], none⟩,
             ⟨(some 158), none, (.p .mv), [(.t 8)], none⟩,
             ⟨(some 159), none, (.p (.bin .sub)), [(.t 157), (.t 158)], none⟩,
             ⟨(some 4), none, (.p .mv), [(.t 159)], none⟩])
           (.keep [4] (.keep [4] .ret)))))
           .skip))))
         (.keep [0, 7, 8, 9, 14, 15] (.reg [⟨(some 125), none, (.p .mv), [(.t 9)], none⟩,
           ⟨(some 126), none, (.p (.bin .add)), [(.t 125), (.c (.int .i64 (.ofNat 1)))], none⟩,
           ⟨(some 9), none, (.p .mv), [(.t 126)], none⟩]))))))))))))))))
      (.keep [] (.seq (.reg [⟨(some 4), none, (.p .mv), [(.c (.int .i64 (.negSucc 0)))], none⟩])
      (.keep [4] (.keep [4] .ret)))))))))))))))))))))))))))))))),
  [(.t 4)]⟩
def s102_j0 (call : CallK) (N : Nat) (q : KV) (st : St) (τ : Tape) : Ans :=
  match st with
  | ⟨fr, H⟩ =>
  q (.int .i64 (.negSucc 0)) H τ
def s102_l1 (call : CallK) (N : Nat) (st : St) (τ : Tape) (k : KC) : Ans :=
  match st with
  | ⟨fr, H⟩ =>
  getK fr 175 fun t175 =>
  effK (eNext [t175] H τ) fun v16 H17 τ18 =>
  someK (pExtract 0 [v16]) fun v19 =>
  condK v19
    (someK (pExtract 1 [v16]) fun v20 =>
  someK (pExtract 2 [v16]) fun v21 =>
  binK .eql v21 (.int .i32 (.ofNat 65533)) fun v22 =>
  condK v22
    (k .ret ⟨(T.set .leaf 4 v20), H17⟩ τ18)
    (k .normal ⟨(T.set (T.set (T.set .leaf 5 v20) 175 t175) 181 v22), H17⟩ τ18))
    (k (.exit 9) ⟨.leaf, H17⟩ τ18)
def s102_j2 (call : CallK) (N : Nat) (q : KV) (st : St) (τ : Tape) : Ans :=
  match st with
  | ⟨fr, H⟩ =>
  q (.int .i64 (.negSucc 0)) H τ
def s102_j5 (call : CallK) (N : Nat) (k : KC) (st : St) (τ : Tape) : Ans :=
  match st with
  | ⟨fr, H⟩ =>
  getK fr 8 fun t8 =>
  getK fr 9 fun t9 =>
  binK .sub t9 t8 fun v35 =>
  k .ret ⟨(T.set .leaf 4 v35), H⟩ τ
def s102_l6 (call : CallK) (N : Nat) (st : St) (τ : Tape) (k : KC) : Ans :=
  match st with
  | ⟨fr, H⟩ =>
  getK fr 0 fun t0 =>
  getK fr 7 fun t7 =>
  getK fr 8 fun t8 =>
  getK fr 9 fun t9 =>
  getK fr 12 fun t12 =>
  someK (pLenS [t7]) fun v36 =>
  binK .lss t12 v36 fun v37 =>
  condK v37
    (binK .sub t9 t12 fun v38 =>
  someK (pStrIndex [t0, v38]) fun v39 =>
  binK .sub t8 t12 fun v40 =>
  someK (pStrIndex [t7, v40]) fun v41 =>
  binK .neq v39 v41 fun v42 =>
  condK v42
    (none)
    (binK .add t12 (.int .i64 (.ofNat 1)) fun v43 =>
  k .normal ⟨(T.set (T.set (T.set (T.set (T.set (T.set (T.set (T.set .leaf 0 t0) 7 t7) 8 t8) 9 t9) 12 t12) 52 t12) 53 v43) 12 v43), H⟩ τ))
    (k (.exit 3) ⟨(T.set (T.set .leaf 8 t8) 9 t9), H⟩ τ)
def s102_j4 (call : CallK) (N : Nat) (k : KC) (st : St) (τ : Tape) : Ans :=
  match st with
  | ⟨fr, H⟩ =>
  getK fr 0 fun t0 =>
  getK fr 7 fun t7 =>
  getK fr 8 fun t8 =>
  getK fr 9 fun t9 =>
  loopK (s102_l6 call N) N ⟨(T.set (T.set (T.set (T.set (T.set .leaf 0 t0) 7 t7) 8 t8) 9 t9) 12 (.int .i64 (.ofNat 1))), H⟩ τ (blockK 3 (seqK (s102_j5 call N k) (blockK 2 k)))
def s102_l3 (call : CallK) (N : Nat) (st : St) (τ : Tape) (k : KC) : Ans :=
  match st with
  | ⟨fr, H⟩ =>
  getK fr 0 fun t0 =>
  getK fr 7 fun t7 =>
  getK fr 8 fun t8 =>
  getK fr 9 fun t9 =>
  someK (pLenS [t0]) fun v30 =>
  binK .lss t9 v30 fun v31 =>
  condK v31
    (someK (pStrIndex [t0, t9]) fun v32 =>
  someK (pStrIndex [t7, t8]) fun v33 =>
  binK .neq v32 v33 fun v34 =>
  condK v34
    (binK .add t9 (.int .i64 (.ofNat 1)) fun v44 =>
  someK (pStrSlice true false [t0, v44]) fun v45 =>
  someK (pStrIndex [t7, t8]) fun v46 =>
  call 105 [v45, v46] H τ fun v47 H48 τ49 =>
  binK .lss v47 (.int .i64 (.ofNat 0)) fun v50 =>
  condK v50
    (k .ret ⟨(T.set .leaf 4 (.int .i64 (.negSucc 0))), H48⟩ τ49)
    (binK .add v47 (.int .i64 (.ofNat 1)) fun v51 =>
  binK .add t9 v51 fun v52 =>
  s102_j4 call N k ⟨(T.set (T.set (T.set (T.set (T.set (T.set (T.set (T.set (T.set (T.set .leaf 0 t0) 7 t7) 8 t8) 9 t9) 11 v47) 44 t9) 45 v47) 46 v51) 47 v52) 9 v52), H48⟩ τ49))
    (s102_j4 call N k ⟨(T.set (T.set (T.set (T.set (T.set .leaf 0 t0) 7 t7) 8 t8) 9 t9) 33 v34), H⟩ τ))
    (k (.exit 1) ⟨.leaf, H⟩ τ)
def s102 (call : CallK) (N : Nat) (a0 a1 : V) (H : Heap) (τ : Tape) (q : KV) : Ans :=
  binK .leq (.int .i32 (.ofNat 0)) a1 fun v0 =>
  gK v0 true (fun q' => q' a1 H τ) H τ fun v1 H2 τ3 =>
  gK v0 true (fun q' => binK .lss v1 (.int .i32 (.ofNat 128)) fun v => q' v H2 τ3) H2 τ3 fun v4 H5 τ6 =>
  someK (pPick [v0, v4, (.bool false)]) fun v7 =>
  condK v7
    (toIntK .u8 a1 fun v8 =>
  call 105 [a0, v8] H5 τ6 fun v9 H10 τ11 =>
  q v9 H10 τ11)
    (binK .eql a1 (.int .i32 (.ofNat 65533)) fun v12 =>
  condK v12
    (effK (eRange [a0] H5 τ6) fun v13 H14 τ15 =>
  loopK (s102_l1 call N) N ⟨(T.set .leaf 175 v13), H14⟩ τ15 (blockK 9 (seqK (s102_j0 call N q) (blockK 0 (endK [(.t 4)] q)))))
    (call 127 [a1] H5 τ6 fun v23 H24 τ25 =>
  unK .not v23 fun v26 =>
  condK v26
    (q (.int .i64 (.negSucc 0)) H24 τ25)
    (someK (pRuneStr [a1]) fun v27 =>
  someK (pLenS [v27]) fun v28 =>
  binK .sub v28 (.int .i64 (.ofNat 1)) fun v29 =>
  loopK (s102_l3 call N) N ⟨(T.set (T.set (T.set (T.set .leaf 0 a0) 7 v27) 8 v29) 9 v29), H24⟩ τ25 (blockK 1 (seqK (s102_j2 call N q) (blockK 0 (endK [(.t 4)] q)))))))
theorem s102_eq (call : CallK) (N : Nat) (a0 a1 : V) (H : Heap) (τ : Tape) (q : KV) : s102 call N a0 a1 H τ q = funK call N fn102 [a0, a1] H τ q := by kernel_rfl
def e102 (call : CallK) (N : Nat) (vs : List V) (H : Heap) (τ : Tape) (q : KV) : Ans := match vs with | [a0, a1] => s102 call N a0 a1 H τ q | _ => none
theorem e102_ok : EntOk fn102 e102 := by
  intro call N vs H τ q r h
  unfold e102 at h
  split at h
  · rw [s102_eq] at h; exact h
  · cases h
/-- internal/stringslite.Cut -/
def fn103 : Fun := ⟨2,
  (.seq (.reg [⟨(some 4), none, (.p .mv), [(.c (.str []))], none⟩,
    ⟨(some 5), none, (.p .mv), [(.c (.str []))], none⟩,
    ⟨(some 6), none, (.p .mv), [(.c (.bool false))], none⟩])
  (.keep [0, 1] (.seq (.seq (.reg [⟨(some 8), none, (.p .mv), [(.t 0)], none⟩,
    ⟨(some 9), none, (.p .mv), [(.t 1)], none⟩,
    ⟨(some 10), none, (.call 130), [(.t 8), (.t 9)], none⟩,
    ⟨(some 7), none, (.p .mv), [(.t 10)], none⟩])
  (.keep [0, 1, 7] (.seq (.reg [⟨(some 11), none, (.p .mv), [(.t 7)], none⟩,
    ⟨(some 12), none, (.p (.bin .geq)), [(.t 11), (.c (.int .i64 (.ofNat 0)))], none⟩])
  (.keep [0, 1, 7, 12] (.cond (.t 12)
   (.seq (.draw [⟨(some 13), none, (.p .mv), [(.t 0)], none⟩,
     ⟨(some 14), none, (.p .mv), [(.t 7)], none⟩,
     ⟨(some 15), none, (.p (.strSlice false true)), [(.t 13), (.t 14)], none⟩,
     ⟨(some 16), none, (.p .mv), [(.t 0)], none⟩,
     ⟨(some 17), none, (.p .mv), [(.t 7)], none⟩,
     ⟨(some 18), none, (.p .mv), [(.t 1)], none⟩,
     ⟨(some 19), none, (.p .lenS), [(.t 18)], none⟩,
     ⟨(some 20), none, (.p (.bin .add)), [(.t 17), (.t 19)], none⟩,
     ⟨(some 21), none, (.p (.strSlice true false)), [(.t 16), (.t 20)], none⟩,
     ⟨(some 4), none, (.p .mv), [(.t 15)], none⟩,
     ⟨(some 5), none, (.p .mv), [(.t 21)], none⟩,
     ⟨(some 6), none, (.p .mv), [(.c (.bool true))], none⟩])
   (.keep [4, 5, 6] (.keep [4, 5, 6] .ret)))
   .skip)))))
  (.keep [0] (.seq (.reg [⟨(some 22), none, (.p .mv), [(.t 0)], none⟩,
    ⟨(some 4), none, (.p .mv), [(.t 22)], none⟩,
    ⟨(some 5), none, (.p .mv), [(.c (.str []))], none⟩,
    ⟨(some 6), none, (.p .mv), [(.c (.bool false))], none⟩])
  (.keep [4, 5, 6] (.keep [4, 5, 6] .ret))))))),
  [(.t 4), (.t 5), (.t 6)]⟩
def s103 (call : CallK) (N : Nat) (a0 a1 : V) (H : Heap) (τ : Tape) (q : KV) : Ans :=
  call 130 [a0, a1] H τ fun v0 H1 τ2 =>
  binK .geq v0 (.int .i64 (.ofNat 0)) fun v3 =>
  condK v3
    (someK (pStrSlice false true [a0, v0]) fun v4 =>
  someK (pLenS [a1]) fun v5 =>
  binK .add v0 v5 fun v6 =>
  someK (pStrSlice true false [a0, v6]) fun v7 =>
  q (.tup [v4, v7, (.bool true)]) H1 τ2)
    (q (.tup [a0, (.str []), (.bool false)]) H1 τ2)
theorem s103_eq (call : CallK) (N : Nat) (a0 a1 : V) (H : Heap) (τ : Tape) (q : KV) : s103 call N a0 a1 H τ q = funK call N fn103 [a0, a1] H τ q := by kernel_rfl
def e103 (call : CallK) (N : Nat) (vs : List V) (H : Heap) (τ : Tape) (q : KV) : Ans := match vs with | [a0, a1] => s103 call N a0 a1 H τ q | _ => none
theorem e103_ok : EntOk fn103 e103 := by
  intro call N vs H τ q r h
  unfold e103 at h
  split at h
  · rw [s103_eq] at h; exact h
  · cases h
/-- strings.IndexByte -/
def fn105 : Fun := ⟨2,
  (.seq (.reg [⟨(some 4), none, (.p .mv), [(.c (.int .i64 (.ofNat 0)))], none⟩])
  (.keep [0, 1] (.seq (.reg [⟨(some 5), none, (.p .mv), [(.t 0)], none⟩,
    ⟨(some 6), none, (.p .mv), [(.t 1)], none⟩,
    ⟨(some 7), none, (.call 131), [(.t 5), (.t 6)], none⟩,
    ⟨(some 4), none, (.p .mv), [(.t 7)], none⟩])
  (.keep [4] (.keep [4] .ret))))),
  [(.t 4)]⟩
def s105 (call : CallK) (N : Nat) (a0 a1 : V) (H : Heap) (τ : Tape) (q : KV) : Ans :=
  call 131 [a0, a1] H τ fun v0 H1 τ2 =>
  q v0 H1 τ2
theorem s105_eq (call : CallK) (N : Nat) (a0 a1 : V) (H : Heap) (τ : Tape) (q : KV) : s105 call N a0 a1 H τ q = funK call N fn105 [a0, a1] H τ q := by kernel_rfl
def e105 (call : CallK) (N : Nat) (vs : List V) (H : Heap) (τ : Tape) (q : KV) : Ans := match vs with | [a0, a1] => s105 call N a0 a1 H τ q | _ => none
theorem e105_ok : EntOk fn105 e105 := by
  intro call N vs H τ q r h
  unfold e105 at h
  split at h
  · rw [s105_eq] at h; exact h
  · cases h
/-- ostiary/digest.hash[uint32] -/
def fn106 : Fun := ⟨3,
  (.seq (.reg [⟨(some 3), none, (.e .box), [(.t 0)], none⟩,
    ⟨(some 4), none, (.e .box), [(.t 1)], none⟩,
    ⟨(some 6), none, (.p .mv), [(.c .nils)], none⟩])
  (.keep [2, 3, 4] (.seq (.draw [⟨(some 17), none, (.p .mv), [(.t 2)], none⟩,
    ⟨(some 18), none, (.p .len), [(.t 17)], none⟩,
    ⟨(some 19), none, (.p (.fieldAddr 14)), [(.t 3)], none⟩,
    ⟨(some 20), none, (.l (.load none)), [(.t 19)], none⟩,
    ⟨(some 21), none, (.p (.bin .quo)), [(.t 18), (.t 20)], none⟩,
    ⟨(some 22), none, (.p (.fieldAddr 14)), [(.t 3)], none⟩,
    ⟨(some 23), none, (.l (.load none)), [(.t 22)], none⟩,
    ⟨(some 24), none, (.p (.bin .mul)), [(.t 21), (.t 23)], none⟩,
    ⟨(some 7), none, (.p .mv), [(.t 24)], none⟩])
  (.keep [2, 3, 4, 7] (.seq (.seq (.reg [⟨(some 8), none, (.p .mv), [(.c (.int .i64 (.ofNat 0)))], none⟩])
  (.keep [2, 3, 4, 7, 8] (.block 0
   (.loop
    (.keep [2, 3, 4, 7, 8] (.seq (.seq (.reg [⟨(some 25), none, (.p .mv), [(.t 8)], none⟩,
      ⟨(some 26), none, (.p .mv), [(.t 7)], none⟩,
      ⟨(some 27), none, (.p (.bin .lss)), [(.t 25), (.t 26)], none⟩])
    (.keep [2, 3, 4, 7, 8, 27] (.cond (.t 27)
     .skip
     (.keep [2, 3, 4, 7] (.exit 0)))))
    (.keep [2, 3, 4, 7, 8] (.seq (.block 1
     (.reg [⟨(some 32), none, (.p .mv), [(.t 2)], none⟩,
       ⟨(some 33), none, (.p .mv), [(.t 8)], none⟩,
       ⟨(some 34), none, (.p (.slSlice 1 true false false)), [(.t 32), (.t 33)], none⟩,
       ⟨(some 35), none, (.call 132), [(.t 3), (.t 4), (.t 34)], none⟩]))
    (.keep [2, 3, 4, 7, 8] (.reg [⟨(some 28), none, (.p .mv), [(.t 8)], none⟩,
      ⟨(some 29), none, (.p (.fieldAddr 14)), [(.t 3)], none⟩,
      ⟨(some 30), none, (.l (.load none)), [(.t 29)], none⟩,
      ⟨(some 31), none, (.p (.bin .add)), [(.t 28), (.t 30)], none⟩,
      ⟨(some 8), none, (.p .mv), [(.t 31)], none⟩]))))))))))
  (.keep [2, 3, 4, 7] (.seq (.reg [⟨(some 36), none, (.e (.buildSlice 0 1 [] [])), [], none⟩,
    ⟨(some 37), none, (.p .mv), [(.t 2)], none⟩,
    ⟨(some 38), none, (.p .mv), [(.t 7)], none⟩,
    ⟨(some 39), none, (.p (.slSlice 1 true false false)), [(.t 37), (.t 38)], none⟩,
    ⟨(some 40), none, (.e (.append 1 1)), [(.t 36), (.t 39)], none⟩,
    ⟨(some 41), none, (.e (.buildSlice 1 1 [(.int .u8 (.ofNat 0))] [(0, 1)])), [(.c (.int .u8 (.ofNat 128)))], none⟩,
    ⟨(some 42), none, (.e (.append 1 1)), [(.t 40), (.t 41)], none⟩,
    ⟨(some 9), none, (.p .mv), [(.t 42)], none⟩])
  (.keep [2, 3, 4, 9] (.seq (.block 2
   (.loop
    (.keep [2, 3, 4, 9] (.seq (.seq (.reg [⟨(some 43), none, (.p .mv), [(.t 9)], none⟩,
      ⟨(some 44), none, (.p .len), [(.t 43)], none⟩,
      ⟨(some 45), none, (.p (.fieldAddr 15)), [(.t 3)], none⟩,
      ⟨(some 46), none, (.l (.load none)), [(.t 45)], none⟩,
      ⟨(some 47), none, (.p (.bin .add)), [(.t 44), (.t 46)], none⟩,
      ⟨(some 48), none, (.p (.fieldAddr 14)), [(.t 3)], none⟩,
      ⟨(some 49), none, (.l (.load none)), [(.t 48)], none⟩,
      ⟨(some 50), none, (.p (.bin .rem)), [(.t 47), (.t 49)], none⟩,
      ⟨(some 51), none, (.p (.bin .neq)), [(.t 50), (.c (.int .i64 (.ofNat 0)))], none⟩])
    (.keep [2, 3, 4, 9, 51] (.cond (.t 51)
     .skip
     (.keep [2, 3, 4, 9] (.exit 2)))))
    (.keep [2, 3, 4, 9] (.block 3
     (.reg [⟨(some 52), none, (.p .mv), [(.t 9)], none⟩,
       ⟨(some 53), none, (.e (.buildSlice 1 1 [(.int .u8 (.ofNat 0))] [(0, 1)])), [(.c (.int .u8 (.ofNat 0)))], none⟩,
       ⟨(some 54), none, (.e (.append 1 1)), [(.t 52), (.t 53)], none⟩,
       ⟨(some 9), none, (.p .mv), [(.t 54)], none⟩])))))))
  (.keep [2, 3, 4, 9] (.seq (.seq (.reg [⟨(some 55), none, (.p (.fieldAddr 15)), [(.t 3)], none⟩,
    ⟨(some 56), none, (.l (.load none)), [(.t 55)], none⟩,
    ⟨(some 57), none, (.p (.bin .sub)), [(.t 56), (.c (.int .i64 (.ofNat 1)))], none⟩,
    ⟨(some 10), none, (.p .mv), [(.t 57)], none⟩])
  (.keep [2, 3, 4, 9, 10] (.block 4
   (.loop
    (.keep [2, 3, 4, 9, 10] (.seq (.seq (.reg [⟨(some 58), none, (.p .mv), [(.t 10)], none⟩,
      ⟨(some 59), none, (.p (.bin .geq)), [(.t 58), (.c (.int .i64 (.ofNat 0)))], none⟩])
    (.keep [2, 3, 4, 9, 10, 59] (.cond (.t 59)
     .skip
     (.keep [3, 4, 9] (.exit 4)))))
    (.keep [2, 3, 4, 9, 10] (.seq (.block 5
     (.seq (.reg [⟨(some 11), none, (.p .mv), [(.c (.int .u8 (.ofNat 0)))], none⟩])
     (.keep [2, 3, 4, 9, 10, 11] (.seq (.seq (.reg [⟨(some 62), none, (.p .mv), [(.t 10)], none⟩,
       ⟨(some 63), none, (.p (.bin .lss)), [(.t 62), (.c (.int .i64 (.ofNat 8)))], none⟩])
     (.keep [2, 3, 4, 9, 10, 11, 63] (.cond (.t 63)
      (.reg [⟨(some 64), none, (.p .mv), [(.t 2)], none⟩,
        ⟨(some 65), none, (.p .len), [(.t 64)], none⟩,
        ⟨(some 66), none, (.p (.toInt .u64)), [(.t 65)], none⟩,
        ⟨(some 67), none, (.p (.bin .mul)), [(.t 66), (.c (.int .u64 (.ofNat 8)))], none⟩,
        ⟨(some 68), none, (.p .mv), [(.t 10)], none⟩,
        ⟨(some 69), none, (.p (.bin .mul)), [(.c (.int .i64 (.ofNat 8))), (.t 68)], none⟩,
        ⟨(some 70), none, (.p (.bin .shr)), [(.t 67), (.t 69)], none⟩,
        ⟨(some 71), none, (.p (.toInt .u8)), [(.t 70)], none⟩,
        ⟨(some 11), none, (.p .mv), [(.t 71)], none⟩])
      .skip)))
     (.keep [2, 3, 4, 9, 10, 11] (.reg [⟨(some 72), none, (.p .mv), [(.t 9)], none⟩,
       ⟨(some 73), none, (.p .mv), [(.t 11)], none⟩,
       ⟨(some 74), none, (.e (.buildSlice 1 1 [(.int .u8 (.ofNat 0))] [(0, 1)])), [(.t 73)], none⟩,
       ⟨(some 75), none, (.e (.append 1 1)), [(.t 72), (.t 74)], none⟩,
       ⟨(some 9), none, (.p .mv), [(.t 75)], none⟩]))))))
    (.keep [2, 3, 4, 9, 10] (.reg [⟨(some 60), none, (.p .mv), [(.t 10)], none⟩,
      ⟨(some 61), none, (.p (.bin .sub)), [(.t 60), (.c (.int .i64 (.ofNat 1)))], none⟩,
      ⟨(some 10), none, (.p .mv), [(.t 61)], none⟩]))))))))))
  (.keep [3, 4, 9] (.seq (.seq (.reg [⟨(some 12), none, (.p .mv), [(.c (.int .i64 (.ofNat 0)))], none⟩])
  (.keep [3, 4, 9, 12] (.block 6
   (.loop
    (.keep [3, 4, 9, 12] (.seq (.seq (.reg [⟨(some 76), none, (.p .mv), [(.t 12)], none⟩,
      ⟨(some 77), none, (.p .mv), [(.t 9)], none⟩,
      ⟨(some 78), none, (.p .len), [(.t 77)], none⟩,
      ⟨(some 79), none, (.p (.bin .lss)), [(.t 76), (.t 78)], none⟩])
    (.keep [3, 4, 9, 12, 79] (.cond (.t 79)
     .skip
     (.keep [3, 4] (.exit 6)))))
    (.keep [3, 4, 9, 12] (.seq (.block 7
     (.reg [⟨(some 84), none, (.p .mv), [(.t 9)], none⟩,
       ⟨(some 85), none, (.p .mv), [(.t 12)], none⟩,
       ⟨(some 86), none, (.p (.slSlice 1 true false false)), [(.t 84), (.t 85)], none⟩,
       ⟨(some 87), none, (.call 132), [(.t 3), (.t 4), (.t 86)], none⟩]))
    (.keep [3, 4, 9, 12] (.reg [⟨(some 80), none, (.p .mv), [(.t 12)], none⟩,
      ⟨(some 81), none, (.p (.fieldAddr 14)), [(.t 3)], none⟩,
      ⟨(some 82), none, (.l (.load none)), [(.t 81)], none⟩,
      ⟨(some 83), none, (.p (.bin .add)), [(.t 80), (.t 82)], none⟩,
      ⟨(some 12), none, (.p .mv), [(.t 83)], none⟩]))))))))))
  (.keep [3, 4] (.seq (.reg [⟨(some 13), none, (.p .mv), [(.c .nils)], none⟩])
  (.keep [3, 4, 13] (.seq (.seq (.reg [⟨(some 88), none, (.l (.load (some 8))), [(.t 4)], none⟩,
    ⟨(some 89), none, (.p .mv), [(.c (.int .i64 (.ofNat 0)))], none⟩])
  (.keep [3, 13, 88, 89] (.block 8
   (.loop
    (.keep [3, 13, 88, 89] (.seq (.reg [⟨(some 90), none, (.p (.bin .lss)), [(.t 89), (.c (.int .i64 (.ofNat 8)))], none⟩])
    (.keep [3, 13, 88, 89, 90] (.seq (.cond (.t 90)
     .skip
     (.keep [13] (.exit 8)))
    (.keep [3, 13, 88, 89] (.seq (.block 9
     (.seq (.reg [⟨(some 91), none, (.p (.arrIndex 8 1 false)), [(.t 88), (.t 89)], none⟩,
       ⟨(some 15), none, (.p .mv), [(.t 91)], none⟩])
     (.keep [3, 13, 15, 88, 89] (.seq (.reg [⟨(some 92), none, (.p (.fieldAddr 0)), [(.t 3)], none⟩,
       ⟨(some 93), none, (.l (.load none)), [(.t 92)], none⟩,
       ⟨(some 94), none, (.p (.bin .sub)), [(.t 93), (.c (.int .i64 (.ofNat 8)))], none⟩,
       ⟨(some 16), none, (.p .mv), [(.t 94)], none⟩])
     (.keep [3, 13, 15, 16, 88, 89] (.block 10
      (.loop
       (.keep [3, 13, 15, 16, 88, 89] (.seq (.seq (.reg [⟨(some 95), none, (.p .mv), [(.t 16)], none⟩,
         ⟨(some 96), none, (.p (.bin .geq)), [(.t 95), (.c (.int .i64 (.ofNat 0)))], none⟩])
       (.keep [3, 13, 15, 16, 88, 89, 96] (.cond (.t 96)
        .skip
        (.keep [3, 13, 88, 89] (.exit 10)))))
       (.keep [3, 13, 15, 16, 88, 89] (.seq (.block 11
        (.reg [⟨(some 99), none, (.p .mv), [(.t 13)], none⟩,
          ⟨(some 100), none, (.p .mv), [(.t 15)], none⟩,
          ⟨(some 101), none, (.p .mv), [(.t 16)], none⟩,
          ⟨(some 102), none, (.p (.bin .shr)), [(.t 100), (.t 101)], none⟩,
          ⟨(some 103), none, (.p (.toInt .u8)), [(.t 102)], none⟩,
          ⟨(some 104), none, (.e (.buildSlice 1 1 [(.int .u8 (.ofNat 0))] [(0, 1)])), [(.t 103)], none⟩,
          ⟨(some 105), none, (.e (.append 1 1)), [(.t 99), (.t 104)], none⟩,
          ⟨(some 13), none, (.p .mv), [(.t 105)], none⟩]))
       (.keep [3, 13, 15, 16, 88, 89] (.reg [⟨(some 97), none, (.p .mv), [(.t 16)], none⟩,
         ⟨(some 98), none, (.p (.bin .sub)), [(.t 97), (.c (.int .i64 (.ofNat 8)))], none⟩,
         ⟨(some 16), none, (.p .mv), [(.t 98)], none⟩])))))))))))))
    (.keep [3, 13, 88, 89] (.reg [⟨(some 106), none, (.p (.bin .add)), [(.t 89), (.c (.int .i64 (.ofNat 1)))], none⟩,
      ⟨(some 89), none, (.p .mv), [(.t 106)], none⟩]))))))))))))
  (.keep [13] (.seq (.reg [⟨(some 107), none, (.p .mv), [(.t 13)], none⟩,
    ⟨(some 6), none, (.p .mv), [(.t 107)], none⟩])
  (.keep [6] (.keep [6] .ret))))))))))))))))))))),
  [(.t 6)]⟩
def s106_j4 (call : CallK) (N : Nat) (q : KV) (st : St) (τ : Tape) : Ans :=
  match st with
  | ⟨fr, H⟩ =>
  getK fr 13 fun t13 =>
  q t13 H τ
def s106_j6 (call : CallK) (N : Nat) (k : KC) (st : St) (τ : Tape) : Ans :=
  match st with
  | ⟨fr, H⟩ =>
  getK fr 3 fun t3 =>
  getK fr 13 fun t13 =>
  getK fr 88 fun t88 =>
  getK fr 89 fun t89 =>
  binK .add t89 (.int .i64 (.ofNat 1)) fun v31 =>
  k .normal ⟨(T.set (T.set (T.set (T.set (T.set (T.set .leaf 3 t3) 13 t13) 88 t88) 89 t89) 106 v31) 89 v31), H⟩ τ
def s106_l7 (call : CallK) (N : Nat) (st : St) (τ : Tape) (k : KC) : Ans :=
  match st with
  | ⟨fr, H⟩ =>
  getK fr 3 fun t3 =>
  getK fr 13 fun t13 =>
  getK fr 15 fun t15 =>
  getK fr 16 fun t16 =>
  getK fr 88 fun t88 =>
  getK fr 89 fun t89 =>
  binK .geq t16 (.int .i64 (.ofNat 0)) fun v36 =>
  condK v36
    (binK .shr t15 t16 fun v37 =>
  toIntK .u8 v37 fun v38 =>
  effK (eBuildSlice 1 1 [(.int .u8 (.ofNat 0))] [(0, 1)] [v38] H τ) fun v39 H40 τ41 =>
  effK (eAppend 1 1 [t13, v39] H40 τ41) fun v42 H43 τ44 =>
  binK .sub t16 (.int .i64 (.ofNat 8)) fun v45 =>
  k .normal ⟨(T.set (T.set (T.set (T.set (T.set (T.set (T.set (T.set (T.set .leaf 3 t3) 13 v42) 15 t15) 16 t16) 88 t88) 89 t89) 97 t16) 98 v45) 16 v45), H43⟩ τ44)
    (k (.exit 10) ⟨(T.set (T.set (T.set (T.set .leaf 3 t3) 13 t13) 88 t88) 89 t89), H⟩ τ)
def s106_l5 (call : CallK) (N : Nat) (st : St) (τ : Tape) (k : KC) : Ans :=
  match st with
  | ⟨fr, H⟩ =>
  getK fr 3 fun t3 =>
  getK fr 13 fun t13 =>
  getK fr 88 fun t88 =>
  getK fr 89 fun t89 =>
  binK .lss t89 (.int .i64 (.ofNat 8)) fun v30 =>
  condK v30
    (someK (pArrIndex 8 1 false [t88, t89]) fun v32 =>
  someK (pFieldAddr 0 [t3]) fun v33 =>
  someK (lLoad1 [v33] H) fun v34 =>
  binK .sub v34 (.int .i64 (.ofNat 8)) fun v35 =>
  loopK (s106_l7 call N) N ⟨(T.set (T.set (T.set (T.set (T.set (T.set .leaf 3 t3) 13 t13) 15 v32) 16 v35) 88 t88) 89 t89), H⟩ τ (blockK 10 (blockK 9 (seqK (s106_j6 call N k) k))))
    (k (.exit 8) ⟨(T.set .leaf 13 t13), H⟩ τ)
def s106_j3 (call : CallK) (N : Nat) (q : KV) (st : St) (τ : Tape) : Ans :=
  match st with
  | ⟨fr, H⟩ =>
  getK fr 3 fun t3 =>
  getK fr 4 fun t4 =>
  someK (lLoadN 8 [t4] H) fun v29 =>
  loopK (s106_l5 call N) N ⟨(T.set (T.set (T.set (T.set .leaf 3 t3) 13 .nils) 88 v29) 89 (.int .i64 (.ofNat 0))), H⟩ τ (blockK 8 (seqK (s106_j4 call N q) (endK [(.t 6)] q)))
def s106_l8 (call : CallK) (N : Nat) (st : St) (τ : Tape) (k : KC) : Ans :=
  match st with
  | ⟨fr, H⟩ =>
  getK fr 3 fun t3 =>
  getK fr 4 fun t4 =>
  getK fr 9 fun t9 =>
  getK fr 12 fun t12 =>
  someK (pLen [t9]) fun v46 =>
  binK .lss t12 v46 fun v47 =>
  condK v47
    (someK (pSlSlice 1 true false false [t9, t12]) fun v48 =>
  call 132 [t3, t4, v48] H τ fun v49 H50 τ51 =>
  someK (pFieldAddr 14 [t3]) fun v52 =>
  someK (lLoad1 [v52] H50) fun v53 =>
  binK .add t12 v53 fun v54 =>
  k .normal ⟨(T.set (T.set (T.set (T.set (T.set (T.set (T.set (T.set (T.set .leaf 3 t3) 4 t4) 9 t9) 12 t12) 80 t12) 81 v52) 82 v53) 83 v54) 12 v54), H50⟩ τ51)
    (k (.exit 6) ⟨(T.set (T.set .leaf 3 t3) 4 t4), H⟩ τ)
def s106_j2 (call : CallK) (N : Nat) (q : KV) (st : St) (τ : Tape) : Ans :=
  match st with
  | ⟨fr, H⟩ =>
  getK fr 3 fun t3 =>
  getK fr 4 fun t4 =>
  getK fr 9 fun t9 =>
  loopK (s106_l8 call N) N ⟨(T.set (T.set (T.set (T.set .leaf 3 t3) 4 t4) 9 t9) 12 (.int .i64 (.ofNat 0))), H⟩ τ (blockK 6 (seqK (s106_j3 call N q) (endK [(.t 6)] q)))
def s106_j10 (call : CallK) (N : Nat) (k : KC) (st : St) (τ : Tape) : Ans :=
  match st with
  | ⟨fr, H⟩ =>
  getK fr 2 fun t2 =>
  getK fr 3 fun t3 =>
  getK fr 4 fun t4 =>
  getK fr 9 fun t9 =>
  getK fr 10 fun t10 =>
  binK .sub t10 (.int .i64 (.ofNat 1)) fun v57 =>
  k .normal ⟨(T.set (T.set (T.set (T.set (T.set (T.set (T.set (T.set .leaf 2 t2) 3 t3) 4 t4) 9 t9) 10 t10) 60 t10) 61 v57) 10 v57), H⟩ τ
def s106_j11 (call : CallK) (N : Nat) (k : KC) (st : St) (τ : Tape) : Ans :=
  match st with
  | ⟨fr, H⟩ =>
  getK fr 2 fun t2 =>
  getK fr 3 fun t3 =>
  getK fr 4 fun t4 =>
  getK fr 9 fun t9 =>
  getK fr 10 fun t10 =>
  getK fr 11 fun t11 =>
  effK (eBuildSlice 1 1 [(.int .u8 (.ofNat 0))] [(0, 1)] [t11] H τ) fun v58 H59 τ60 =>
  effK (eAppend 1 1 [t9, v58] H59 τ60) fun v61 H62 τ63 =>
  s106_j10 call N k ⟨(T.set (T.set (T.set (T.set (T.set (T.set (T.set (T.set (T.set (T.set (T.set .leaf 2 t2) 3 t3) 4 t4) 9 t9) 10 t10) 11 t11) 72 t9) 73 t11) 74 v58) 75 v61) 9 v61), H62⟩ τ63
def s106_l9 (call : CallK) (N : Nat) (st : St) (τ : Tape) (k : KC) : Ans :=
  match st with
  | ⟨fr, H⟩ =>
  getK fr 2 fun t2 =>
  getK fr 3 fun t3 =>
  getK fr 4 fun t4 =>
  getK fr 9 fun t9 =>
  getK fr 10 fun t10 =>
  binK .geq t10 (.int .i64 (.ofNat 0)) fun v55 =>
  condK v55
    (binK .lss t10 (.int .i64 (.ofNat 8)) fun v56 =>
  condK v56
    (someK (pLen [t2]) fun v64 =>
  toIntK .u64 v64 fun v65 =>
  binK .mul v65 (.int .u64 (.ofNat 8)) fun v66 =>
  binK .mul (.int .i64 (.ofNat 8)) t10 fun v67 =>
  binK .shr v66 v67 fun v68 =>
  toIntK .u8 v68 fun v69 =>
  s106_j11 call N k ⟨(T.set (T.set (T.set (T.set (T.set (T.set (T.set (T.set (T.set (T.set (T.set (T.set (T.set (T.set (T.set (T.set .leaf 2 t2) 3 t3) 4 t4) 9 t9) 10 t10) 11 (.int .u8 (.ofNat 0))) 63 v56) 64 t2) 65 v64) 66 v65) 67 v66) 68 t10) 69 v67) 70 v68) 71 v69) 11 v69), H⟩ τ)
    (s106_j11 call N k ⟨(T.set (T.set (T.set (T.set (T.set (T.set (T.set .leaf 2 t2) 3 t3) 4 t4) 9 t9) 10 t10) 11 (.int .u8 (.ofNat 0))) 63 v56), H⟩ τ))
    (k (.exit 4) ⟨(T.set (T.set (T.set .leaf 3 t3) 4 t4) 9 t9), H⟩ τ)
def s106_j1 (call : CallK) (N : Nat) (q : KV) (st : St) (τ : Tape) : Ans :=
  match st with
  | ⟨fr, H⟩ =>
  getK fr 2 fun t2 =>
  getK fr 3 fun t3 =>
  getK fr 4 fun t4 =>
  getK fr 9 fun t9 =>
  someK (pFieldAddr 15 [t3]) fun v26 =>
  someK (lLoad1 [v26] H) fun v27 =>
  binK .sub v27 (.int .i64 (.ofNat 1)) fun v28 =>
  loopK (s106_l9 call N) N ⟨(T.set (T.set (T.set (T.set (T.set .leaf 2 t2) 3 t3) 4 t4) 9 t9) 10 v28), H⟩ τ (blockK 4 (seqK (s106_j2 call N q) (endK [(.t 6)] q)))
def s106_l12 (call : CallK) (N : Nat) (st : St) (τ : Tape) (k : KC) : Ans :=
  match st with
  | ⟨fr, H⟩ =>
  getK fr 2 fun t2 =>
  getK fr 3 fun t3 =>
  getK fr 4 fun t4 =>
  getK fr 9 fun t9 =>
  someK (pLen [t9]) fun v70 =>
  someK (pFieldAddr 15 [t3]) fun v71 =>
  someK (lLoad1 [v71] H) fun v72 =>
  binK .add v70 v72 fun v73 =>
  someK (pFieldAddr 14 [t3]) fun v74 =>
  someK (lLoad1 [v74] H) fun v75 =>
  binK .rem v73 v75 fun v76 =>
  binK .neq v76 (.int .i64 (.ofNat 0)) fun v77 =>
  condK v77
    (effK (eBuildSlice 1 1 [(.int .u8 (.ofNat 0))] [(0, 1)] [(.int .u8 (.ofNat 0))] H τ) fun v78 H79 τ80 =>
  effK (eAppend 1 1 [t9, v78] H79 τ80) fun v81 H82 τ83 =>
  k .normal ⟨(T.set (T.set (T.set (T.set (T.set (T.set (T.set (T.set .leaf 2 t2) 3 t3) 4 t4) 9 t9) 52 t9) 53 v78) 54 v81) 9 v81), H82⟩ τ83)
    (k (.exit 2) ⟨(T.set (T.set (T.set (T.set .leaf 2 t2) 3 t3) 4 t4) 9 t9), H⟩ τ)
def s106_j0 (call : CallK) (N : Nat) (q : KV) (st : St) (τ : Tape) : Ans :=
  match st with
  | ⟨fr, H⟩ =>
  getK fr 2 fun t2 =>
  getK fr 3 fun t3 =>
  getK fr 4 fun t4 =>
  getK fr 7 fun t7 =>
  effK (eBuildSlice 0 1 [] [] [] H τ) fun v13 H14 τ15 =>
  someK (pSlSlice 1 true false false [t2, t7]) fun v16 =>
  effK (eAppend 1 1 [v13, v16] H14 τ15) fun v17 H18 τ19 =>
  effK (eBuildSlice 1 1 [(.int .u8 (.ofNat 0))] [(0, 1)] [(.int .u8 (.ofNat 128))] H18 τ19) fun v20 H21 τ22 =>
  effK (eAppend 1 1 [v17, v20] H21 τ22) fun v23 H24 τ25 =>
  loopK (s106_l12 call N) N ⟨(T.set (T.set (T.set (T.set .leaf 2 t2) 3 t3) 4 t4) 9 v23), H24⟩ τ25 (blockK 2 (seqK (s106_j1 call N q) (endK [(.t 6)] q)))
def s106_l13 (call : CallK) (N : Nat) (st : St) (τ : Tape) (k : KC) : Ans :=
  match st with
  | ⟨fr, H⟩ =>
  getK fr 2 fun t2 =>
  getK fr 3 fun t3 =>
  getK fr 4 fun t4 =>
  getK fr 7 fun t7 =>
  getK fr 8 fun t8 =>
  binK .lss t8 t7 fun v84 =>
  condK v84
    (someK (pSlSlice 1 true false false [t2, t8]) fun v85 =>
  call 132 [t3, t4, v85] H τ fun v86 H87 τ88 =>
  someK (pFieldAddr 14 [t3]) fun v89 =>
  someK (lLoad1 [v89] H87) fun v90 =>
  binK .add t8 v90 fun v91 =>
  k .normal ⟨(T.set (T.set (T.set (T.set (T.set (T.set (T.set (T.set (T.set (T.set .leaf 2 t2) 3 t3) 4 t4) 7 t7) 8 t8) 28 t8) 29 v89) 30 v90) 31 v91) 8 v91), H87⟩ τ88)
    (k (.exit 0) ⟨(T.set (T.set (T.set (T.set .leaf 2 t2) 3 t3) 4 t4) 7 t7), H⟩ τ)
def s106 (call : CallK) (N : Nat) (a0 a1 a2 : V) (H : Heap) (τ : Tape) (q : KV) : Ans :=
  effK (eBox [a0] H τ) fun v0 H1 τ2 =>
  effK (eBox [a1] H1 τ2) fun v3 H4 τ5 =>
  someK (pLen [a2]) fun v6 =>
  someK (pFieldAddr 14 [v0]) fun v7 =>
  someK (lLoad1 [v7] H4) fun v8 =>
  binK .quo v6 v8 fun v9 =>
  someK (pFieldAddr 14 [v0]) fun v10 =>
  someK (lLoad1 [v10] H4) fun v11 =>
  binK .mul v9 v11 fun v12 =>
  loopK (s106_l13 call N) N ⟨(T.set (T.set (T.set (T.set (T.set .leaf 2 a2) 3 v0) 4 v3) 7 v12) 8 (.int .i64 (.ofNat 0))), H4⟩ τ5 (blockK 0 (seqK (s106_j0 call N q) (endK [(.t 6)] q)))
theorem s106_eq (call : CallK) (N : Nat) (a0 a1 a2 : V) (H : Heap) (τ : Tape) (q : KV) : s106 call N a0 a1 a2 H τ q = funK call N fn106 [a0, a1, a2] H τ q := by kernel_rfl
def e106 (call : CallK) (N : Nat) (vs : List V) (H : Heap) (τ : Tape) (q : KV) : Ans := match vs with | [a0, a1, a2] => s106 call N a0 a1 a2 H τ q | _ => none
theorem e106_ok : EntOk fn106 e106 := by
  intro call N vs H τ q r h
  unfold e106 at h
  split at h
  · rw [s106_eq] at h; exact h
  · cases h
/-- ostiary/digest.hash[uint64] -/
def fn107 : Fun := ⟨3,
  (.seq (.reg [⟨(some 3), none, (.e .box), [(.t 0)], none⟩,
    ⟨(some 4), none, (.e .box), [(.t 1)], none⟩,
    ⟨(some 6), none, (.p .mv), [(.c .nils)], none⟩])
  (.keep [2, 3, 4] (.seq (.draw [⟨(some 17), none, (.p .mv), [(.t 2)], none⟩,
    ⟨(some 18), none, (.p .len), [(.t 17)], none⟩,
    ⟨(some 19), none, (.p (.fieldAddr 14)), [(.t 3)], none⟩,
    ⟨(some 20), none, (.l (.load none)), [(.t 19)], none⟩,
    ⟨(some 21), none, (.p (.bin .quo)), [(.t 18), (.t 20)], none⟩,
    ⟨(some 22), none, (.p (.fieldAddr 14)), [(.t 3)], none⟩,
    ⟨(some 23), none, (.l (.load none)), [(.t 22)], none⟩,
    ⟨(some 24), none, (.p (.bin .mul)), [(.t 21), (.t 23)], none⟩,
    ⟨(some 7), none, (.p .mv), [(.t 24)], none⟩])
  (.keep [2, 3, 4, 7] (.seq (.seq (.reg [⟨(some 8), none, (.p .mv), [(.c (.int .i64 (.ofNat 0)))], none⟩])
  (.keep [2, 3, 4, 7, 8] (.block 0
   (.loop
    (.keep [2, 3, 4, 7, 8] (.seq (.seq (.reg [⟨(some 25), none, (.p .mv), [(.t 8)], none⟩,
      ⟨(some 26), none, (.p .mv), [(.t 7)], none⟩,
      ⟨(some 27), none, (.p (.bin .lss)), [(.t 25), (.t 26)], none⟩])
    (.keep [2, 3, 4, 7, 8, 27] (.cond (.t 27)
     .skip
     (.keep [2, 3, 4, 7] (.exit 0)))))
    (.keep [2, 3, 4, 7, 8] (.seq (.block 1
     (.reg [⟨(some 32), none, (.p .mv), [(.t 2)], none⟩,
       ⟨(some 33), none, (.p .mv), [(.t 8)], none⟩,
       ⟨(some 34), none, (.p (.slSlice 1 true false false)), [(.t 32), (.t 33)], none⟩,
       ⟨(some 35), none, (.call 133), [(.t 3), (.t 4), (.t 34)], none⟩]))
    (.keep [2, 3, 4, 7, 8] (.reg [⟨(some 28), none, (.p .mv), [(.t 8)], none⟩,
      ⟨(some 29), none, (.p (.fieldAddr 14)), [(.t 3)], none⟩,
      ⟨(some 30), none, (.l (.load none)), [(.t 29)], none⟩,
      ⟨(some 31), none, (.p (.bin .add)), [(.t 28), (.t 30)], none⟩,
      ⟨(some 8), none, (.p .mv), [(.t 31)], none⟩]))))))))))
  (.keep [2, 3, 4, 7] (.seq (.reg [⟨(some 36), none, (.e (.buildSlice 0 1 [] [])), [], none⟩,
    ⟨(some 37), none, (.p .mv), [(.t 2)], none⟩,
    ⟨(some 38), none, (.p .mv), [(.t 7)], none⟩,
    ⟨(some 39), none, (.p (.slSlice 1 true false false)), [(.t 37), (.t 38)], none⟩,
    ⟨(some 40), none, (.e (.append 1 1)), [(.t 36), (.t 39)], none⟩,
    ⟨(some 41), none, (.e (.buildSlice 1 1 [(.int .u8 (.ofNat 0))] [(0, 1)])), [(.c (.int .u8 (.ofNat 128)))], none⟩,
    ⟨(some 42), none, (.e (.append 1 1)), [(.t 40), (.t 41)], none⟩,
    ⟨(some 9), none, (.p .mv), [(.t 42)], none⟩])
  (.keep [2, 3, 4, 9] (.seq (.block 2
   (.loop
    (.keep [2, 3, 4, 9] (.seq (.seq (.reg [⟨(some 43), none, (.p .mv), [(.t 9)], none⟩,
      ⟨(some 44), none, (.p .len), [(.t 43)], none⟩,
      ⟨(some 45), none, (.p (.fieldAddr 15)), [(.t 3)], none⟩,
      ⟨(some 46), none, (.l (.load none)), [(.t 45)], none⟩,
      ⟨(some 47), none, (.p (.bin .add)), [(.t 44), (.t 46)], none⟩,
      ⟨(some 48), none, (.p (.fieldAddr 14)), [(.t 3)], none⟩,
      ⟨(some 49), none, (.l (.load none)), [(.t 48)], none⟩,
      ⟨(some 50), none, (.p (.bin .rem)), [(.t 47), (.t 49)], none⟩,
      ⟨(some 51), none, (.p (.bin .neq)), [(.t 50), (.c (.int .i64 (.ofNat 0)))], none⟩])
    (.keep [2, 3, 4, 9, 51] (.cond (.t 51)
     .skip
     (.keep [2, 3, 4, 9] (.exit 2)))))
    (.keep [2, 3, 4, 9] (.block 3
     (.reg [⟨(some 52), none, (.p .mv), [(.t 9)], none⟩,
       ⟨(some 53), none, (.e (.buildSlice 1 1 [(.int .u8 (.ofNat 0))] [(0, 1)])), [(.c (.int .u8 (.ofNat 0)))], none⟩,
       ⟨(some 54), none, (.e (.append 1 1)), [(.t 52), (.t 53)], none⟩,
       ⟨(some 9), none, (.p .mv), [(.t 54)], none⟩])))))))
  (.keep [2, 3, 4, 9] (.seq (.seq (.reg [⟨(some 55), none, (.p (.fieldAddr 15)), [(.t 3)], none⟩,
    ⟨(some 56), none, (.l (.load none)), [(.t 55)], none⟩,
    ⟨(some 57), none, (.p (.bin .sub)), [(.t 56), (.c (.int .i64 (.ofNat 1)))], none⟩,
    ⟨(some 10), none, (.p .mv), [(.t 57)], none⟩])
  (.keep [2, 3, 4, 9, 10] (.block 4
   (.loop
    (.keep [2, 3, 4, 9, 10] (.seq (.seq (.reg [⟨(some 58), none, (.p .mv), [(.t 10)], none⟩,
      ⟨(some 59), none, (.p (.bin .geq)), [(.t 58), (.c (.int .i64 (.ofNat 0)))], none⟩])
    (.keep [2, 3, 4, 9, 10, 59] (.cond (.t 59)
     .skip
     (.keep [3, 4, 9] (.exit 4)))))
    (.keep [2, 3, 4, 9, 10] (.seq (.block 5
     (.seq (.reg [⟨(some 11), none, (.p .mv), [(.c (.int .u8 (.ofNat 0)))], none⟩])
     (.keep [2, 3, 4, 9, 10, 11] (.seq (.seq (.reg [⟨(some 62), none, (.p .mv), [(.t 10)], none⟩,
       ⟨(some 63), none, (.p (.bin .lss)), [(.t 62), (.c (.int .i64 (.ofNat 8)))], none⟩])
     (.keep [2, 3, 4, 9, 10, 11, 63] (.cond (.t 63)
      (.reg [⟨(some 64), none, (.p .mv), [(.t 2)], none⟩,
        ⟨(some 65), none, (.p .len), [(.t 64)], none⟩,
        ⟨(some 66), none, (.p (.toInt .u64)), [(.t 65)], none⟩,
        ⟨(some 67), none, (.p (.bin .mul)), [(.t 66), (.c (.int .u64 (.ofNat 8)))], none⟩,
        ⟨(some 68), none, (.p .mv), [(.t 10)], none⟩,
        ⟨(some 69), none, (.p (.bin .mul)), [(.c (.int .i64 (.ofNat 8))), (.t 68)], none⟩,
        ⟨(some 70), none, (.p (.bin .shr)), [(.t 67), (.t 69)], none⟩,
        ⟨(some 71), none, (.p (.toInt .u8)), [(.t 70)], none⟩,
        ⟨(some 11), none, (.p .mv), [(.t 71)], none⟩])
      .skip)))
     (.keep [2, 3, 4, 9, 10, 11] (.reg [⟨(some 72), none, (.p .mv), [(.t 9)], none⟩,
       ⟨(some 73), none, (.p .mv), [(.t 11)], none⟩,
       ⟨(some 74), none, (.e (.buildSlice 1 1 [(.int .u8 (.ofNat 0))] [(0, 1)])), [(.t 73)], none⟩,
       ⟨(some 75), none, (.e (.append 1 1)), [(.t 72), (.t 74)], none⟩,
       ⟨(some 9), none, (.p .mv), [(.t 75)], none⟩]))))))
    (.keep [2, 3, 4, 9, 10] (.reg [⟨(some 60), none, (.p .mv), [(.t 10)], none⟩,
      ⟨(some 61), none, (.p (.bin .sub)), [(.t 60), (.c (.int .i64 (.ofNat 1)))], none⟩,
      ⟨(some 10), none, (.p .mv), [(.t 61)], none⟩]))))))))))
  (.keep [3, 4, 9] (.seq (.seq (.reg [⟨(some 12), none, (.p .mv), [(.c (.int .i64 (.ofNat 0)))], none⟩])
  (.keep [3, 4, 9, 12] (.block 6
   (.loop
    (.keep [3, 4, 9, 12] (.seq (.seq (.reg [⟨(some 76), none, (.p .mv), [(.t 12)], none⟩,
      ⟨(some 77), none, (.p .mv), [(.t 9)], none⟩,
      ⟨(some 78), none, (.p .len), [(.t 77)], none⟩,
      ⟨(some 79), none, (.p (.bin .lss)), [(.t 76), (.t 78)], none⟩])
    (.keep [3, 4, 9, 12, 79] (.cond (.t 79)
     .skip
     (.keep [3, 4] (.exit 6)))))
    (.keep [3, 4, 9, 12] (.seq (.block 7
     (.reg [⟨(some 84), none, (.p .mv), [(.t 9)], none⟩,
       ⟨(some 85), none, (.p .mv), [(.t 12)], none⟩,
       ⟨(some 86), none, (.p (.slSlice 1 true false false)), [(.t 84), (.t 85)], none⟩,
       ⟨(some 87), none, (.call 133), [(.t 3), (.t 4), (.t 86)], none⟩]))
    (.keep [3, 4, 9, 12] (.reg [⟨(some 80), none, (.p .mv), [(.t 12)], none⟩,
      ⟨(some 81), none, (.p (.fieldAddr 14)), [(.t 3)], none⟩,
      ⟨(some 82), none, (.l (.load none)), [(.t 81)], none⟩,
      ⟨(some 83), none, (.p (.bin .add)), [(.t 80), (.t 82)], none⟩,
      ⟨(some 12), none, (.p .mv), [(.t 83)], none⟩]))))))))))
  (.keep [3, 4] (.seq (.reg [⟨(some 13), none, (.p .mv), [(.c .nils)], none⟩])
  (.keep [3, 4, 13] (.seq (.seq (.reg [⟨(some 88), none, (.l (.load (some 8))), [(.t 4)], none⟩,
    ⟨(some 89), none, (.p .mv), [(.c (.int .i64 (.ofNat 0)))], none⟩])
  (.keep [3, 13, 88, 89] (.block 8
   (.loop
    (.keep [3, 13, 88, 89] (.seq (.reg [⟨(some 90), none, (.p (.bin .lss)), [(.t 89), (.c (.int .i64 (.ofNat 8)))], none⟩])
    (.keep [3, 13, 88, 89, 90] (.seq (.cond (.t 90)
     .skip
     (.keep [13] (.exit 8)))
    (.keep [3, 13, 88, 89] (.seq (.block 9
     (.seq (.reg [⟨(some 91), none, (.p (.arrIndex 8 1 false)), [(.t 88), (.t 89)], none⟩,
       ⟨(some 15), none, (.p .mv), [(.t 91)], none⟩])
     (.keep [3, 13, 15, 88, 89] (.seq (.reg [⟨(some 92), none, (.p (.fieldAddr 0)), [(.t 3)], none⟩,
       ⟨(some 93), none, (.l (.load none)), [(.t 92)], none⟩,
       ⟨(some 94), none, (.p (.bin .sub)), [(.t 93), (.c (.int .i64 (.ofNat 8)))], none⟩,
       ⟨(some 16), none, (.p .mv), [(.t 94)], none⟩])
     (.keep [3, 13, 15, 16, 88, 89] (.block 10
      (.loop
       (.keep [3, 13, 15, 16, 88, 89] (.seq (.seq (.reg [⟨(some 95), none, (.p .mv), [(.t 16)], none⟩,
         ⟨(some 96), none, (.p (.bin .geq)), [(.t 95), (.c (.int .i64 (.ofNat 0)))], none⟩])
       (.keep [3, 13, 15, 16, 88, 89, 96] (.cond (.t 96)
        .skip
        (.keep [3, 13, 88, 89] (.exit 10)))))
       (.keep [3, 13, 15, 16, 88, 89] (.seq (.block 11
        (.reg [⟨(some 99), none, (.p .mv), [(.t 13)], none⟩,
          ⟨(some 100), none, (.p .mv), [(.t 15)], none⟩,
          ⟨(some 101), none, (.p .mv), [(.t 16)], none⟩,
          ⟨(some 102), none, (.p (.bin .shr)), [(.t 100), (.t 101)], none⟩,
          ⟨(some 103), none, (.p (.toInt .u8)), [(.t 102)], none⟩,
          ⟨(some 104), none, (.e (.buildSlice 1 1 [(.int .u8 (.ofNat 0))] [(0, 1)])), [(.t 103)], none⟩,
          ⟨(some 105), none, (.e (.append 1 1)), [(.t 99), (.t 104)], none⟩,
          ⟨(some 13), none, (.p .mv), [(.t 105)], none⟩]))
       (.keep [3, 13, 15, 16, 88, 89] (.reg [⟨(some 97), none, (.p .mv), [(.t 16)], none⟩,
         ⟨(some 98), none, (.p (.bin .sub)), [(.t 97), (.c (.int .i64 (.ofNat 8)))], none⟩,
         ⟨(some 16), none, (.p .mv), [(.t 98)], none⟩])))))))))))))
    (.keep [3, 13, 88, 89] (.reg [⟨(some 106), none, (.p (.bin .add)), [(.t 89), (.c (.int .i64 (.ofNat 1)))], none⟩,
      ⟨(some 89), none, (.p .mv), [(.t 106)], none⟩]))))))))))))
  (.keep [13] (.seq (.reg [⟨(some 107), none, (.p .mv), [(.t 13)], none⟩,
    ⟨(some 6), none, (.p .mv), [(.t 107)], none⟩])
  (.keep [6] (.keep [6] .ret))))))))))))))))))))),
  [(.t 6)]⟩
def s107_j4 (call : CallK) (N : Nat) (q : KV) (st : St) (τ : Tape) : Ans :=
  match st with
  | ⟨fr, H⟩ =>
  getK fr 13 fun t13 =>
  q t13 H τ
def s107_j6 (call : CallK) (N : Nat) (k : KC) (st : St) (τ : Tape) : Ans :=
  match st with
  | ⟨fr, H⟩ =>
  getK fr 3 fun t3 =>
  getK fr 13 fun t13 =>
  getK fr 88 fun t88 =>
  getK fr 89 fun t89 =>
  binK .add t89 (.int .i64 (.ofNat 1)) fun v31 =>
  k .normal ⟨(T.set (T.set (T.set (T.set (T.set (T.set .leaf 3 t3) 13 t13) 88 t88) 89 t89) 106 v31) 89 v31), H⟩ τ
def s107_l7 (call : CallK) (N : Nat) (st : St) (τ : Tape) (k : KC) : Ans :=
  match st with
  | ⟨fr, H⟩ =>
  getK fr 3 fun t3 =>
  getK fr 13 fun t13 =>
  getK fr 15 fun t15 =>
  getK fr 16 fun t16 =>
  getK fr 88 fun t88 =>
  getK fr 89 fun t89 =>
  binK .geq t16 (.int .i64 (.ofNat 0)) fun v36 =>
  condK v36
    (binK .shr t15 t16 fun v37 =>
  toIntK .u8 v37 fun v38 =>
  effK (eBuildSlice 1 1 [(.int .u8 (.ofNat 0))] [(0, 1)] [v38] H τ) fun v39 H40 τ41 =>
  effK (eAppend 1 1 [t13, v39] H40 τ41) fun v42 H43 τ44 =>
  binK .sub t16 (.int .i64 (.ofNat 8)) fun v45 =>
  k .normal ⟨(T.set (T.set (T.set (T.set (T.set (T.set (T.set (T.set (T.set .leaf 3 t3) 13 v42) 15 t15) 16 t16) 88 t88) 89 t89) 97 t16) 98 v45) 16 v45), H43⟩ τ44)
    (k (.exit 10) ⟨(T.set (T.set (T.set (T.set .leaf 3 t3) 13 t13) 88 t88) 89 t89), H⟩ τ)
def s107_l5 (call : CallK) (N : Nat) (st : St) (τ : Tape) (k : KC) : Ans :=
  match st with
  | ⟨fr, H⟩ =>
  getK fr 3 fun t3 =>
  getK fr 13 fun t13 =>
  getK fr 88 fun t88 =>
  getK fr 89 fun t89 =>
  binK .lss t89 (.int .i64 (.ofNat 8)) fun v30 =>
  condK v30
    (someK (pArrIndex 8 1 false [t88, t89]) fun v32 =>
  someK (pFieldAddr 0 [t3]) fun v33 =>
  someK (lLoad1 [v33] H) fun v34 =>
  binK .sub v34 (.int .i64 (.ofNat 8)) fun v35 =>
  loopK (s107_l7 call N) N ⟨(T.set (T.set (T.set (T.set (T.set (T.set .leaf 3 t3) 13 t13) 15 v32) 16 v35) 88 t88) 89 t89), H⟩ τ (blockK 10 (blockK 9 (seqK (s107_j6 call N k) k))))
    (k (.exit 8) ⟨(T.set .leaf 13 t13), H⟩ τ)
def s107_j3 (call : CallK) (N : Nat) (q : KV) (st : St) (τ : Tape) : Ans :=
  match st with
  | ⟨fr, H⟩ =>
  getK fr 3 fun t3 =>
  getK fr 4 fun t4 =>
  someK (lLoadN 8 [t4] H) fun v29 =>
  loopK (s107_l5 call N) N ⟨(T.set (T.set (T.set (T.set .leaf 3 t3) 13 .nils) 88 v29) 89 (.int .i64 (.ofNat 0))), H⟩ τ (blockK 8 (seqK (s107_j4 call N q) (endK [(.t 6)] q)))
def s107_l8 (call : CallK) (N : Nat) (st : St) (τ : Tape) (k : KC) : Ans :=
  match st with
  | ⟨fr, H⟩ =>
  getK fr 3 fun t3 =>
  getK fr 4 fun t4 =>
  getK fr 9 fun t9 =>
  getK fr 12 fun t12 =>
  someK (pLen [t9]) fun v46 =>
  binK .lss t12 v46 fun v47 =>
  condK v47
    (someK (pSlSlice 1 true false false [t9, t12]) fun v48 =>
  call 133 [t3, t4, v48] H τ fun v49 H50 τ51 =>
  someK (pFieldAddr 14 [t3]) fun v52 =>
  someK (lLoad1 [v52] H50) fun v53 =>
  binK .add t12 v53 fun v54 =>
  k .normal ⟨(T.set (T.set (T.set (T.set (T.set (T.set (T.set (T.set (T.set .leaf 3 t3) 4 t4) 9 t9) 12 t12) 80 t12) 81 v52) 82 v53) 83 v54) 12 v54), H50⟩ τ51)
    (k (.exit 6) ⟨(T.set (T.set .leaf 3 t3) 4 t4), H⟩ τ)
def s107_j2 (call : CallK) (N : Nat) (q : KV) (st : St) (τ : Tape) : Ans :=
  match st with
  | ⟨fr, H⟩ =>
  getK fr 3 fun t3 =>
  getK fr 4 fun t4 =>
  getK fr 9 fun t9 =>
  loopK (s107_l8 call N) N ⟨(T.set (T.set (T.set (T.set .leaf 3 t3) 4 t4) 9 t9) 12 (.int .i64 (.ofNat 0))), H⟩ τ (blockK 6 (seqK (s107_j3 call N q) (endK [(.t 6)] q)))
def s107_j10 (call : CallK) (N : Nat) (k : KC) (st : St) (τ : Tape) : Ans :=
  match st with
  | ⟨fr, H⟩ =>
  getK fr 2 fun t2 =>
  getK fr 3 fun t3 =>
  getK fr 4 fun t4 =>
  getK fr 9 fun t9 =>
  getK fr 10 fun t10 =>
  binK .sub t10 (.int .i64 (.ofNat 1)) fun v57 =>
  k .normal ⟨(T.set (T.set (T.set (T.set (T.set (T.set (T.set (T.set .leaf 2 t2) 3 t3) 4 t4) 9 t9) 10 t10) 60 t10) 61 v57) 10 v57), H⟩ τ
def s107_j11 (call : CallK) (N : Nat) (k : KC) (st : St) (τ : Tape) : Ans :=
  match st with
  | ⟨fr, H⟩ =>
  getK fr 2 fun t2 =>
  getK fr 3 fun t3 =>
  getK fr 4 fun t4 =>
  getK fr 9 fun t9 =>
  getK fr 10 fun t10 =>
  getK fr 11 fun t11 =>
  effK (eBuildSlice 1 1 [(.int .u8 (.ofNat 0))] [(0, 1)] [t11] H τ) fun v58 H59 τ60 =>
  effK (eAppend 1 1 [t9, v58] H59 τ60) fun v61 H62 τ63 =>
  s107_j10 call N k ⟨(T.set (T.set (T.set (T.set (T.set (T.set (T.set (T.set (T.set (T.set (T.set .leaf 2 t2) 3 t3) 4 t4) 9 t9) 10 t10) 11 t11) 72 t9) 73 t11) 74 v58) 75 v61) 9 v61), H62⟩ τ63
def s107_l9 (call : CallK) (N : Nat) (st : St) (τ : Tape) (k : KC) : Ans :=
  match st with
  | ⟨fr, H⟩ =>
  getK fr 2 fun t2 =>
  getK fr 3 fun t3 =>
  getK fr 4 fun t4 =>
  getK fr 9 fun t9 =>
  getK fr 10 fun t10 =>
  binK .geq t10 (.int .i64 (.ofNat 0)) fun v55 =>
  condK v55
    (binK .lss t10 (.int .i64 (.ofNat 8)) fun v56 =>
  condK v56
    (someK (pLen [t2]) fun v64 =>
  toIntK .u64 v64 fun v65 =>
  binK .mul v65 (.int .u64 (.ofNat 8)) fun v66 =>
  binK .mul (.int .i64 (.ofNat 8)) t10 fun v67 =>
  binK .shr v66 v67 fun v68 =>
  toIntK .u8 v68 fun v69 =>
  s107_j11 call N k ⟨(T.set (T.set (T.set (T.set (T.set (T.set (T.set (T.set (T.set (T.set (T.set (T.set (T.set (T.set (T.set (T.set .leaf 2 t2) 3 t3) 4 t4) 9 t9) 10 t10) 11 (.int .u8 (.ofNat 0))) 63 v56) 64 t2) 65 v64) 66 v65) 67 v66) 68 t10) 69 v67) 70 v68) 71 v69) 11 v69), H⟩ τ)
    (s107_j11 call N k ⟨(T.set (T.set (T.set (T.set (T.set (T.set (T.set .leaf 2 t2) 3 t3) 4 t4) 9 t9) 10 t10) 11 (.int .u8 (.ofNat 0))) 63 v56), H⟩ τ))
    (k (.exit 4) ⟨(T.set (T.set (T.set .leaf 3 t3) 4 t4) 9 t9), H⟩ τ)
def s107_j1 (call : CallK) (N : Nat) (q : KV) (st : St) (τ : Tape) : Ans :=
  match st with
  | ⟨fr, H⟩ =>
  getK fr 2 fun t2 =>
  getK fr 3 fun t3 =>
  getK fr 4 fun t4 =>
  getK fr 9 fun t9 =>
  someK (pFieldAddr 15 [t3]) fun v26 =>
  someK (lLoad1 [v26] H) fun v27 =>
  binK .sub v27 (.int .i64 (.ofNat 1)) fun v28 =>
  loopK (s107_l9 call N) N ⟨(T.set (T.set (T.set (T.set (T.set .leaf 2 t2) 3 t3) 4 t4) 9 t9) 10 v28), H⟩ τ (blockK 4 (seqK (s107_j2 call N q) (endK [(.t 6)] q)))
def s107_l12 (call : CallK) (N : Nat) (st : St) (τ : Tape) (k : KC) : Ans :=
  match st with
  | ⟨fr, H⟩ =>
  getK fr 2 fun t2 =>
  getK fr 3 fun t3 =>
  getK fr 4 fun t4 =>
  getK fr 9 fun t9 =>
  someK (pLen [t9]) fun v70 =>
  someK (pFieldAddr 15 [t3]) fun v71 =>
  someK (lLoad1 [v71] H) fun v72 =>
  binK .add v70 v72 fun v73 =>
  someK (pFieldAddr 14 [t3]) fun v74 =>
  someK (lLoad1 [v74] H) fun v75 =>
  binK .rem v73 v75 fun v76 =>
  binK .neq v76 (.int .i64 (.ofNat 0)) fun v77 =>
  condK v77
    (effK (eBuildSlice 1 1 [(.int .u8 (.ofNat 0))] [(0, 1)] [(.int .u8 (.ofNat 0))] H τ) fun v78 H79 τ80 =>
  effK (eAppend 1 1 [t9, v78] H79 τ80) fun v81 H82 τ83 =>
  k .normal ⟨(T.set (T.set (T.set (T.set (T.set (T.set (T.set (T.set .leaf 2 t2) 3 t3) 4 t4) 9 t9) 52 t9) 53 v78) 54 v81) 9 v81), H82⟩ τ83)
    (k (.exit 2) ⟨(T.set (T.set (T.set (T.set .leaf 2 t2) 3 t3) 4 t4) 9 t9), H⟩ τ)
def s107_j0 (call : CallK) (N : Nat) (q : KV) (st : St) (τ : Tape) : Ans :=
  match st with
  | ⟨fr, H⟩ =>
  getK fr 2 fun t2 =>
  getK fr 3 fun t3 =>
  getK fr 4 fun t4 =>
  getK fr 7 fun t7 =>
  effK (eBuildSlice 0 1 [] [] [] H τ) fun v13 H14 τ15 =>
  someK (pSlSlice 1 true false false [t2, t7]) fun v16 =>
  effK (eAppend 1 1 [v13, v16] H14 τ15) fun v17 H18 τ19 =>
  effK (eBuildSlice 1 1 [(.int .u8 (.ofNat 0))] [(0, 1)] [(.int .u8 (.ofNat 128))] H18 τ19) fun v20 H21 τ22 =>
  effK (eAppend 1 1 [v17, v20] H21 τ22) fun v23 H24 τ25 =>
  loopK (s107_l12 call N) N ⟨(T.set (T.set (T.set (T.set .leaf 2 t2) 3 t3) 4 t4) 9 v23), H24⟩ τ25 (blockK 2 (seqK (s107_j1 call N q) (endK [(.t 6)] q)))
def s107_l13 (call : CallK) (N : Nat) (st : St) (τ : Tape) (k : KC) : Ans :=
  match st with
  | ⟨fr, H⟩ =>
  getK fr 2 fun t2 =>
  getK fr 3 fun t3 =>
  getK fr 4 fun t4 =>
  getK fr 7 fun t7 =>
  getK fr 8 fun t8 =>
  binK .lss t8 t7 fun v84 =>
  condK v84
    (someK (pSlSlice 1 true false false [t2, t8]) fun v85 =>
  call 133 [t3, t4, v85] H τ fun v86 H87 τ88 =>
  someK (pFieldAddr 14 [t3]) fun v89 =>
  someK (lLoad1 [v89] H87) fun v90 =>
  binK .add t8 v90 fun v91 =>
  k .normal ⟨(T.set (T.set (T.set (T.set (T.set (T.set (T.set (T.set (T.set (T.set .leaf 2 t2) 3 t3) 4 t4) 7 t7) 8 t8) 28 t8) 29 v89) 30 v90) 31 v91) 8 v91), H87⟩ τ88)
    (k (.exit 0) ⟨(T.set (T.set (T.set (T.set .leaf 2 t2) 3 t3) 4 t4) 7 t7), H⟩ τ)
def s107 (call : CallK) (N : Nat) (a0 a1 a2 : V) (H : Heap) (τ : Tape) (q : KV) : Ans :=
  effK (eBox [a0] H τ) fun v0 H1 τ2 =>
  effK (eBox [a1] H1 τ2) fun v3 H4 τ5 =>
  someK (pLen [a2]) fun v6 =>
  someK (pFieldAddr 14 [v0]) fun v7 =>
  someK (lLoad1 [v7] H4) fun v8 =>
  binK .quo v6 v8 fun v9 =>
  someK (pFieldAddr 14 [v0]) fun v10 =>
  someK (lLoad1 [v10] H4) fun v11 =>
  binK .mul v9 v11 fun v12 =>
  loopK (s107_l13 call N) N ⟨(T.set (T.set (T.set (T.set (T.set .leaf 2 a2) 3 v0) 4 v3) 7 v12) 8 (.int .i64 (.ofNat 0))), H4⟩ τ5 (blockK 0 (seqK (s107_j0 call N q) (endK [(.t 6)] q)))
theorem s107_eq (call : CallK) (N : Nat) (a0 a1 a2 : V) (H : Heap) (τ : Tape) (q : KV) : s107 call N a0 a1 a2 H τ q = funK call N fn107 [a0, a1, a2] H τ q := by kernel_rfl
def e107 (call : CallK) (N : Nat) (vs : List V) (H : Heap) (τ : Tape) (q : KV) : Ans := match vs with | [a0, a1, a2] => s107 call N a0 a1 a2 H τ q | _ => none
theorem e107_ok : EntOk fn107 e107 := by
  intro call N vs H τ q r h
  unfold e107 at h
  split at h
  · rw [s107_eq] at h; exact h
  · cases h
/-- internal/strconv.Itoa -/
def fn115 : Fun := ⟨1,
  (.seq (.reg [⟨(some 2), none, (.p .mv), [(.c (.str []))], none⟩])
  (.keep [0] (.seq (.reg [⟨(some 3), none, (.p .mv), [(.t 0)], none⟩,
    ⟨(some 4), none, (.call 147), [(.t 3), (.c (.int .i64 (.ofNat 10)))], none⟩,
    ⟨(some 2), none, (.p .mv), [(.t 4)], none⟩])
  (.keep [2] (.keep [2] .ret))))),
  [(.t 2)]⟩
def s115 (call : CallK) (N : Nat) (a0 : V) (H : Heap) (τ : Tape) (q : KV) : Ans :=
  call 147 [a0, (.int .i64 (.ofNat 10))] H τ fun v0 H1 τ2 =>
  q v0 H1 τ2
theorem s115_eq (call : CallK) (N : Nat) (a0 : V) (H : Heap) (τ : Tape) (q : KV) : s115 call N a0 H τ q = funK call N fn115 [a0] H τ q := by kernel_rfl
def e115 (call : CallK) (N : Nat) (vs : List V) (H : Heap) (τ : Tape) (q : KV) : Ans := match vs with | [a0] => s115 call N a0 H τ q | _ => none
theorem e115_ok : EntOk fn115 e115 := by
  intro call N vs H τ q r h
  unfold e115 at h
  split at h
  · rw [s115_eq] at h; exact h
  · cases h
/-- ostiary/infra.mapped -/
def fn120 : Fun := ⟨2,
  (.seq (.reg [⟨(some 4), none, (.p .mv), [(.c (.str []))], none⟩])
  (.keep [0, 1] (.seq (.reg [⟨(some 8), none, (.p .mv), [(.t 0)], none⟩,
    ⟨(some 9), none, (.e .strBytes), [(.t 8)], none⟩,
    ⟨(some 5), none, (.p .mv), [(.t 9)], none⟩])
  (.keep [1, 5] (.seq (.seq (.reg [⟨(some 10), none, (.p .mv), [(.t 5)], none⟩,
    ⟨(some 11), none, (.p .len), [(.t 10)], none⟩,
    ⟨(some 12), none, (.p .mv), [(.c (.int .i64 (.ofNat 0)))], none⟩])
  (.keep [1, 5, 10, 11, 12] (.block 0
   (.loop
    (.keep [1, 5, 10, 11, 12] (.seq (.reg [⟨(some 13), none, (.p (.bin .lss)), [(.t 12), (.t 11)], none⟩])
    (.keep [1, 5, 10, 11, 12, 13] (.seq (.cond (.t 13)
     .skip
     (.keep [5] (.exit 0)))
    (.keep [1, 5, 10, 11, 12] (.seq (.block 1
     (.seq (.reg [⟨(some 14), none, (.p .mv), [(.t 12)], none⟩,
       ⟨(some 15), none, (.p (.slIdx 1)), [(.t 10), (.t 12)], none⟩,
       ⟨(some 16), none, (.l (.load none)), [(.t 15)], none⟩,
       ⟨(some 6), none, (.p .mv), [(.t 14)], none⟩,
       ⟨(some 7), none, (.p .mv), [(.t 16)], none⟩])
     (.keep [1, 5, 6, 7, 10, 11, 12] (.reg [⟨(some 17), none, (.p .mv), [(.t 5)], none⟩,
       ⟨(some 18), none, (.p .mv), [(.t 6)], none⟩,
       ⟨(some 19), none, (.p .mv), [(.t 1)], none⟩,
       ⟨(some 20), none, (.p .mv), [(.t 7)], none⟩,
       ⟨(some 21), none, .callv, [(.t 19), (.t 20)], none⟩,
       ⟨(some 22), none, (.p (.slIdx 1)), [(.t 17), (.t 18)], none⟩,
       ⟨none, none, (.e (.store 1)), [(.t 22), (.t 21)], none⟩]))))
    (.keep [1, 5, 10, 11, 12] (.reg [⟨(some 23), none, (.p (.bin .add)), [(.t 12), (.c (.int .i64 (.ofNat 1)))], none⟩,
      ⟨(some 12), none, (.p .mv), [(.t 23)], none⟩]))))))))))))
  (.keep [5] (.seq (.reg [⟨(some 24), none, (.p .mv), [(.t 5)], none⟩,
    ⟨(some 25), none, (.l .bytesStr), [(.t 24)], none⟩,
    ⟨(some 4), none, (.p .mv), [(.t 25)], none⟩])
  (.keep [4] (.keep [4] .ret))))))))),
  [(.t 4)]⟩
def s120_j0 (call : CallK) (N : Nat) (q : KV) (st : St) (τ : Tape) : Ans :=
  match st with
  | ⟨fr, H⟩ =>
  getK fr 5 fun t5 =>
  someK (lBytesStr [t5] H) fun v4 =>
  q v4 H τ
def s120_l1 (call : CallK) (N : Nat) (st : St) (τ : Tape) (k : KC) : Ans :=
  match st with
  | ⟨fr, H⟩ =>
  getK fr 1 fun t1 =>
  getK fr 5 fun t5 =>
  getK fr 10 fun t10 =>
  getK fr 11 fun t11 =>
  getK fr 12 fun t12 =>
  binK .lss t12 t11 fun v5 =>
  condK v5
    (someK (pSlIdx 1 [t10, t12]) fun v6 =>
  someK (lLoad1 [v6] H) fun v7 =>
  opK call .callv [t1, v7] H τ fun v8 H9 τ10 =>
  someK (pSlIdx 1 [t5, t12]) fun v11 =>
  effK (eStore 1 [v11, v8] H9 τ10) fun v12 H13 τ14 =>
  binK .add t12 (.int .i64 (.ofNat 1)) fun v15 =>
  k .normal ⟨(T.set (T.set (T.set (T.set (T.set (T.set (T.set .leaf 1 t1) 5 t5) 10 t10) 11 t11) 12 t12) 23 v15) 12 v15), H13⟩ τ14)
    (k (.exit 0) ⟨(T.set .leaf 5 t5), H⟩ τ)
def s120 (call : CallK) (N : Nat) (a0 a1 : V) (H : Heap) (τ : Tape) (q : KV) : Ans :=
  effK (eStrBytes [a0] H τ) fun v0 H1 τ2 =>
  someK (pLen [v0]) fun v3 =>
  loopK (s120_l1 call N) N ⟨(T.set (T.set (T.set (T.set (T.set .leaf 1 a1) 5 v0) 10 v0) 11 v3) 12 (.int .i64 (.ofNat 0))), H1⟩ τ2 (blockK 0 (seqK (s120_j0 call N q) (endK [(.t 4)] q)))
theorem s120_eq (call : CallK) (N : Nat) (a0 a1 : V) (H : Heap) (τ : Tape) (q : KV) : s120 call N a0 a1 H τ q = funK call N fn120 [a0, a1] H τ q := by kernel_rfl
def e120 (call : CallK) (N : Nat) (vs : List V) (H : Heap) (τ : Tape) (q : KV) : Ans := match vs with | [a0, a1] => s120 call N a0 a1 H τ q | _ => none
theorem e120_ok : EntOk fn120 e120 := by
  intro call N vs H τ q r h
  unfold e120 at h
  split at h
  · rw [s120_eq] at h; exact h
  · cases h
/-- ostiary/infra.Lower$1 -/
def fn121 : Fun := ⟨1,
  (.seq (.reg [⟨(some 2), none, (.p .mv), [(.c (.int .u8 (.ofNat 0)))], none⟩])
  (.keep [0] (.seq (.seq (.reg [⟨(some 3), none, (.p .mv), [(.t 0)], none⟩,
    ⟨(some 4), none, (.p (.bin .geq)), [(.t 3), (.c (.int .u8 (.ofNat 65)))], none⟩,
    ⟨(some 5), none, (.p .mv), [(.t 4)], none⟩,
    ⟨(some 6), some (5, true), (.p .mv), [(.t 0)], none⟩,
    ⟨(some 7), some (5, true), (.p (.bin .leq)), [(.t 6), (.c (.int .u8 (.ofNat 90)))], none⟩,
    ⟨(some 8), none, (.p .pick), [(.t 5), (.t 7), (.c (.bool false))], none⟩])
  (.keep [0, 8] (.cond (.t 8)
   (.reg [⟨(some 9), none, (.p .mv), [(.t 0)], none⟩,
     ⟨(some 10), none, (.p (.bin .add)), [(.t 9), (.c (.int .u8 (.ofNat 32)))], none⟩,
     ⟨(some 0), none, (.p .mv), [(.t 10)], none⟩])
   .skip)))
  (.keep [0] (.seq (.reg [⟨(some 11), none, (.p .mv), [(.t 0)], none⟩,
    ⟨(some 2), none, (.p .mv), [(.t 11)], none⟩])
  (.keep [2] (.keep [2] .ret))))))),
  [(.t 2)]⟩
def s121_j0 (call : CallK) (N : Nat) (q : KV) (st : St) (τ : Tape) : Ans :=
  match st with
  | ⟨fr, H⟩ =>
  getK fr 0 fun t0 =>
  q t0 H τ
def s121 (call : CallK) (N : Nat) (a0 : V) (H : Heap) (τ : Tape) (q : KV) : Ans :=
  binK .geq a0 (.int .u8 (.ofNat 65)) fun v0 =>
  gK v0 true (fun q' => q' a0 H τ) H τ fun v1 H2 τ3 =>
  gK v0 true (fun q' => binK .leq v1 (.int .u8 (.ofNat 90)) fun v => q' v H2 τ3) H2 τ3 fun v4 H5 τ6 =>
  someK (pPick [v0, v4, (.bool false)]) fun v7 =>
  condK v7
    (binK .add a0 (.int .u8 (.ofNat 32)) fun v8 =>
  s121_j0 call N q ⟨(T.set (T.set (T.set (T.set (T.set .leaf 0 a0) 8 v7) 9 a0) 10 v8) 0 v8), H5⟩ τ6)
    (s121_j0 call N q ⟨(T.set (T.set .leaf 0 a0) 8 v7), H5⟩ τ6)
theorem s121_eq (call : CallK) (N : Nat) (a0 : V) (H : Heap) (τ : Tape) (q : KV) : s121 call N a0 H τ q = funK call N fn121 [a0] H τ q := by kernel_rfl
def e121 (call : CallK) (N : Nat) (vs : List V) (H : Heap) (τ : Tape) (q : KV) : Ans := match vs with | [a0] => s121 call N a0 H τ q | _ => none
theorem e121_ok : EntOk fn121 e121 := by
  intro call N vs H τ q r h
  unfold e121 at h
  split at h
  · rw [s121_eq] at h; exact h
  · cases h
/-- unicode/utf8.ValidRune -/
def fn127 : Fun := ⟨1,
  (.seq (.reg [⟨(some 2), none, (.p .mv), [(.c (.bool false))], none⟩])
  (.keep [0] (.seq (.block 0
   (.seq (.reg [⟨(some 4), none, (.p .mv), [(.t 0)], none⟩,
     ⟨(some 5), none, (.p (.bin .leq)), [(.c (.int .i32 (.ofNat 0))), (.t 4)], none⟩,
     ⟨(some 6), none, (.p .mv), [(.t 5)], none⟩,
     ⟨(some 7), some (6, true), (.p .mv), [(.t 0)], none⟩,
     ⟨(some 8), some (6, true), (.p (.bin .lss)), [(.t 7), (.c (.int .i32 (.ofNat 55296)))], none⟩,
     ⟨(some 9), none, (.p .pick), [(.t 6), (.t 8), (.c (.bool false))], none⟩,
     ⟨(some 3), none, (.p .mv), [(.t 9)], none⟩])
   (.keep [0, 3] (.cond (.t 3)
    (.seq (.reg [⟨(some 2), none, (.p .mv), [(.c (.bool true))], none⟩])
    (.keep [2] (.keep [2] .ret)))
    (.seq (.reg [⟨(some 11), none, (.p .mv), [(.t 0)], none⟩,
      ⟨(some 12), none, (.p (.bin .lss)), [(.c (.int .i32 (.ofNat 57343))), (.t 11)], none⟩,
      ⟨(some 13), none, (.p .mv), [(.t 12)], none⟩,
      ⟨(some 14), some (13, true), (.p .mv), [(.t 0)], none⟩,
      ⟨(some 15), some (13, true), (.p (.bin .leq)), [(.t 14), (.c (.int .i32 (.ofNat 1114111)))], none⟩,
      ⟨(some 16), none, (.p .pick), [(.t 13), (.t 15), (.c (.bool false))], none⟩,
      ⟨(some 10), none, (.p .mv), [(.t 16)], none⟩])
    (.keep [10] (.cond (.t 10)
     (.seq (.reg [⟨(some 2), none, (.p .mv), [(.c (.bool true))], none⟩])
     (.keep [2] (.keep [2] .ret)))
     .skip)))))))
  (.keep [] (.seq (.reg [⟨(some 2), none, (.p .mv), [(.c (.bool false))], none⟩])
  (.keep [2] (.keep [2] .ret))))))),
  [(.t 2)]⟩
def s127 (call : CallK) (N : Nat) (a0 : V) (H : Heap) (τ : Tape) (q : KV) : Ans :=
  binK .leq (.int .i32 (.ofNat 0)) a0 fun v0 =>
  gK v0 true (fun q' => q' a0 H τ) H τ fun v1 H2 τ3 =>
  gK v0 true (fun q' => binK .lss v1 (.int .i32 (.ofNat 55296)) fun v => q' v H2 τ3) H2 τ3 fun v4 H5 τ6 =>
  someK (pPick [v0, v4, (.bool false)]) fun v7 =>
  condK v7
    (q (.bool true) H5 τ6)
    (binK .lss (.int .i32 (.ofNat 57343)) a0 fun v8 =>
  gK v8 true (fun q' => q' a0 H5 τ6) H5 τ6 fun v9 H10 τ11 =>
  gK v8 true (fun q' => binK .leq v9 (.int .i32 (.ofNat 1114111)) fun v => q' v H10 τ11) H10 τ11 fun v12 H13 τ14 =>
  someK (pPick [v8, v12, (.bool false)]) fun v15 =>
  condK v15
    (q (.bool true) H13 τ14)
    (q (.bool false) H13 τ14))
theorem s127_eq (call : CallK) (N : Nat) (a0 : V) (H : Heap) (τ : Tape) (q : KV) : s127 call N a0 H τ q = funK call N fn127 [a0] H τ q := by kernel_rfl
def e127 (call : CallK) (N : Nat) (vs : List V) (H : Heap) (τ : Tape) (q : KV) : Ans := match vs with | [a0] => s127 call N a0 H τ q | _ => none
theorem e127_ok : EntOk fn127 e127 := by
  intro call N vs H τ q r h
  unfold e127 at h
  split at h
  · rw [s127_eq] at h; exact h
  · cases h
/-- internal/bytealg.Cutover -/
def fn128 : Fun := ⟨1,
  (.seq (.reg [⟨(some 2), none, (.p .mv), [(.c (.int .i64 (.ofNat 0)))], none⟩])
  (.keep [0] (.seq (.reg [⟨(some 3), none, (.p .mv), [(.t 0)], none⟩,
    ⟨(some 4), none, (.p (.bin .add)), [(.t 3), (.c (.int .i64 (.ofNat 16)))], none⟩,
    ⟨(some 5), none, (.p (.bin .quo)), [(.t 4), (.c (.int .i64 (.ofNat 8)))], none⟩,
    ⟨(some 2), none, (.p .mv), [(.t 5)], none⟩])
  (.keep [2] (.keep [2] .ret))))),
  [(.t 2)]⟩
def s128 (call : CallK) (N : Nat) (a0 : V) (H : Heap) (τ : Tape) (q : KV) : Ans :=
  binK .add a0 (.int .i64 (.ofNat 16)) fun v0 =>
  binK .quo v0 (.int .i64 (.ofNat 8)) fun v1 =>
  q v1 H τ
theorem s128_eq (call : CallK) (N : Nat) (a0 : V) (H : Heap) (τ : Tape) (q : KV) : s128 call N a0 H τ q = funK call N fn128 [a0] H τ q := by kernel_rfl
def e128 (call : CallK) (N : Nat) (vs : List V) (H : Heap) (τ : Tape) (q : KV) : Ans := match vs with | [a0] => s128 call N a0 H τ q | _ => none
theorem e128_ok : EntOk fn128 e128 := by
  intro call N vs H τ q r h
  unfold e128 at h
  split at h
  · rw [s128_eq] at h; exact h
  · cases h
end Go.Am.AmTrydIntegrityNumbers
