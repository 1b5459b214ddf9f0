/- The abstract machine's texts for the law DigestNumbers: printed functions of the program, and what they are shown to be. -/
import Derived.Test.YtbiimljinilefaaDoorAm28
import Derived.KernelRfl
namespace D8
open Go Go.Am
set_option maxRecDepth 1000000
set_option linter.unusedVariables false
/-- ostiary/ostiarylaw8.DigestNumbers -/
def fn3 : Fun := ⟨0,
  (.seq (.reg [⟨(some 0), none, (.p .mv), [(.c (.bool false))], none⟩])
  (.keep [] (.seq (.reg [⟨(some 6), none, (.call 7), [(.c (.int .i64 (.ofNat 1))), (.c .nils)], none⟩,
    ⟨(some 5), none, (.p .mv), [(.t 6)], none⟩,
    ⟨(some 7), none, (.p (.extract 0)), [(.t 5)], none⟩,
    ⟨(some 8), none, (.p (.extract 1)), [(.t 5)], none⟩,
    ⟨(some 1), none, (.p .mv), [(.t 7)], none⟩,
    ⟨(some 2), none, (.p .mv), [(.t 8)], none⟩])
  (.keep [2] (.seq (.reg [⟨(some 10), none, (.call 7), [(.c (.int .i64 (.ofNat 0))), (.c .nils)], none⟩,
    ⟨(some 9), none, (.p .mv), [(.t 10)], none⟩,
    ⟨(some 11), none, (.p (.extract 0)), [(.t 9)], none⟩,
    ⟨(some 12), none, (.p (.extract 1)), [(.t 9)], none⟩,
    ⟨(some 3), none, (.p .mv), [(.t 11)], none⟩,
    ⟨(some 4), none, (.p .mv), [(.t 12)], none⟩])
  (.keep [2, 4] (.seq (.reg [⟨(some 13), none, (.call 8), [(.c (.int .i64 (.ofNat 512))), (.c (.str (bs [97, 98, 99])))], none⟩,
    ⟨(some 14), none, (.p (.bin .eql)), [(.t 13), (.c (.str (bs [100, 100, 97, 102, 51, 53, 97, 49, 57, 51, 54, 49, 55, 97, 98, 97, 99, 99, 52, 49, 55, 51, 52, 57, 97, 101, 50, 48, 52, 49, 51, 49, 49, 50, 101, 54, 102, 97, 52, 101, 56, 57, 97, 57, 55, 101, 97, 50, 48, 97, 57, 101, 101, 101, 101, 54, 52, 98, 53, 53, 100, 51, 57, 97, 50, 49, 57, 50, 57, 57, 50, 97, 50, 55, 52, 102, 99, 49, 97, 56, 51, 54, 98, 97, 51, 99, 50, 51, 97, 51, 102, 101, 101, 98, 98, 100, 52, 53, 52, 100, 52, 52, 50, 51, 54, 52, 51, 99, 101, 56, 48, 101, 50, 97, 57, 97, 99, 57, 52, 102, 97, 53, 52, 99, 97, 52, 57, 102])))], none⟩,
    ⟨(some 15), none, (.p .mv), [(.t 14)], none⟩,
    ⟨(some 16), some (15, true), (.call 8), [(.c (.int .i64 (.ofNat 384))), (.c (.str (bs [97, 98, 99])))], none⟩,
    ⟨(some 17), some (15, true), (.p (.bin .eql)), [(.t 16), (.c (.str (bs [99, 98, 48, 48, 55, 53, 51, 102, 52, 53, 97, 51, 53, 101, 56, 98, 98, 53, 97, 48, 51, 100, 54, 57, 57, 97, 99, 54, 53, 48, 48, 55, 50, 55, 50, 99, 51, 50, 97, 98, 48, 101, 100, 101, 100, 49, 54, 51, 49, 97, 56, 98, 54, 48, 53, 97, 52, 51, 102, 102, 53, 98, 101, 100, 56, 48, 56, 54, 48, 55, 50, 98, 97, 49, 101, 55, 99, 99, 50, 51, 53, 56, 98, 97, 101, 99, 97, 49, 51, 52, 99, 56, 50, 53, 97, 55])))], none⟩,
    ⟨(some 18), none, (.p .pick), [(.t 15), (.t 17), (.c (.bool false))], none⟩,
    ⟨(some 19), none, (.p .mv), [(.t 18)], none⟩,
    ⟨(some 20), some (19, true), (.call 8), [(.c (.int .i64 (.ofNat 256))), (.c (.str []))], none⟩,
    ⟨(some 21), some (19, true), (.p (.bin .eql)), [(.t 20), (.c (.str (bs [101, 51, 98, 48, 99, 52, 52, 50, 57, 56, 102, 99, 49, 99, 49, 52, 57, 97, 102, 98, 102, 52, 99, 56, 57, 57, 54, 102, 98, 57, 50, 52, 50, 55, 97, 101, 52, 49, 101, 52, 54, 52, 57, 98, 57, 51, 52, 99, 97, 52, 57, 53, 57, 57, 49, 98, 55, 56, 53, 50, 98, 56, 53, 53])))], none⟩,
    ⟨(some 22), none, (.p .pick), [(.t 19), (.t 21), (.c (.bool false))], none⟩,
    ⟨(some 23), none, (.p .mv), [(.t 22)], none⟩,
    ⟨(some 24), some (23, true), (.p .mv), [(.t 2)], none⟩,
    ⟨(some 25), some (23, true), (.p (.bin .eql)), [(.t 24), (.c (.int .i64 (.ofNat 1)))], none⟩,
    ⟨(some 26), none, (.p .pick), [(.t 23), (.t 25), (.c (.bool false))], none⟩,
    ⟨(some 27), none, (.p .mv), [(.t 26)], none⟩,
    ⟨(some 28), some (27, true), (.p .mv), [(.t 4)], none⟩,
    ⟨(some 29), some (27, true), (.p (.bin .eql)), [(.t 28), (.c (.int .i64 (.ofNat 1)))], none⟩,
    ⟨(some 30), none, (.p .pick), [(.t 27), (.t 29), (.c (.bool false))], none⟩,
    ⟨(some 31), none, (.p .mv), [(.t 30)], none⟩,
    ⟨(some 32), some (31, true), (.call 9), [(.c .nils), (.c .nils)], none⟩,
    ⟨(some 33), none, (.p .pick), [(.t 31), (.t 32), (.c (.bool false))], none⟩,
    ⟨(some 34), none, (.p .mv), [(.t 33)], none⟩,
    ⟨(some 35), some (34, true), (.e (.buildSlice 1 1 [(.int .u8 (.ofNat 0))] [(0, 1)])), [(.c (.int .u8 (.ofNat 0)))], none⟩,
    ⟨(some 36), some (34, true), (.call 9), [(.c .nils), (.t 35)], none⟩,
    ⟨(some 37), some (34, true), (.p (.un .not)), [(.t 36)], none⟩,
    ⟨(some 38), none, (.p .pick), [(.t 34), (.t 37), (.c (.bool false))], none⟩,
    ⟨(some 39), none, (.p .mv), [(.t 38)], none⟩,
    ⟨(some 40), some (39, true), (.call 10), [], none⟩,
    ⟨(some 41), none, (.p .pick), [(.t 39), (.t 40), (.c (.bool false))], none⟩,
    ⟨(some 0), none, (.p .mv), [(.t 41)], none⟩])
  (.keep [0] (.keep [0] .ret))))))))),
  [(.t 0)]⟩
def s3 (call : CallK) (N : Nat) (H : Heap) (τ : Tape) (q : KV) : Ans :=
  call 7 [(.int .i64 (.ofNat 1)), .nils] H τ fun v0 H1 τ2 =>
  someK (pExtract 0 [v0]) fun v3 =>
  someK (pExtract 1 [v0]) fun v4 =>
  call 7 [(.int .i64 (.ofNat 0)), .nils] H1 τ2 fun v5 H6 τ7 =>
  someK (pExtract 0 [v5]) fun v8 =>
  someK (pExtract 1 [v5]) fun v9 =>
  call 8 [(.int .i64 (.ofNat 512)), (.str (bs [97, 98, 99]))] H6 τ7 fun v10 H11 τ12 =>
  binK .eql v10 (.str (bs [100, 100, 97, 102, 51, 53, 97, 49, 57, 51, 54, 49, 55, 97, 98, 97, 99, 99, 52, 49, 55, 51, 52, 57, 97, 101, 50, 48, 52, 49, 51, 49, 49, 50, 101, 54, 102, 97, 52, 101, 56, 57, 97, 57, 55, 101, 97, 50, 48, 97, 57, 101, 101, 101, 101, 54, 52, 98, 53, 53, 100, 51, 57, 97, 50, 49, 57, 50, 57, 57, 50, 97, 50, 55, 52, 102, 99, 49, 97, 56, 51, 54, 98, 97, 51, 99, 50, 51, 97, 51, 102, 101, 101, 98, 98, 100, 52, 53, 52, 100, 52, 52, 50, 51, 54, 52, 51, 99, 101, 56, 48, 101, 50, 97, 57, 97, 99, 57, 52, 102, 97, 53, 52, 99, 97, 52, 57, 102])) fun v13 =>
  gK v13 true (fun q' => call 8 [(.int .i64 (.ofNat 384)), (.str (bs [97, 98, 99]))] H11 τ12 q') H11 τ12 fun v14 H15 τ16 =>
  gK v13 true (fun q' => binK .eql v14 (.str (bs [99, 98, 48, 48, 55, 53, 51, 102, 52, 53, 97, 51, 53, 101, 56, 98, 98, 53, 97, 48, 51, 100, 54, 57, 57, 97, 99, 54, 53, 48, 48, 55, 50, 55, 50, 99, 51, 50, 97, 98, 48, 101, 100, 101, 100, 49, 54, 51, 49, 97, 56, 98, 54, 48, 53, 97, 52, 51, 102, 102, 53, 98, 101, 100, 56, 48, 56, 54, 48, 55, 50, 98, 97, 49, 101, 55, 99, 99, 50, 51, 53, 56, 98, 97, 101, 99, 97, 49, 51, 52, 99, 56, 50, 53, 97, 55])) fun v => q' v H15 τ16) H15 τ16 fun v17 H18 τ19 =>
  someK (pPick [v13, v17, (.bool false)]) fun v20 =>
  gK v20 true (fun q' => call 8 [(.int .i64 (.ofNat 256)), (.str [])] H18 τ19 q') H18 τ19 fun v21 H22 τ23 =>
  gK v20 true (fun q' => binK .eql v21 (.str (bs [101, 51, 98, 48, 99, 52, 52, 50, 57, 56, 102, 99, 49, 99, 49, 52, 57, 97, 102, 98, 102, 52, 99, 56, 57, 57, 54, 102, 98, 57, 50, 52, 50, 55, 97, 101, 52, 49, 101, 52, 54, 52, 57, 98, 57, 51, 52, 99, 97, 52, 57, 53, 57, 57, 49, 98, 55, 56, 53, 50, 98, 56, 53, 53])) fun v => q' v H22 τ23) H22 τ23 fun v24 H25 τ26 =>
  someK (pPick [v20, v24, (.bool false)]) fun v27 =>
  gK v27 true (fun q' => q' v4 H25 τ26) H25 τ26 fun v28 H29 τ30 =>
  gK v27 true (fun q' => binK .eql v28 (.int .i64 (.ofNat 1)) fun v => q' v H29 τ30) H29 τ30 fun v31 H32 τ33 =>
  someK (pPick [v27, v31, (.bool false)]) fun v34 =>
  gK v34 true (fun q' => q' v9 H32 τ33) H32 τ33 fun v35 H36 τ37 =>
  gK v34 true (fun q' => binK .eql v35 (.int .i64 (.ofNat 1)) fun v => q' v H36 τ37) H36 τ37 fun v38 H39 τ40 =>
  someK (pPick [v34, v38, (.bool false)]) fun v41 =>
  gK v41 true (fun q' => call 9 [.nils, .nils] H39 τ40 q') H39 τ40 fun v42 H43 τ44 =>
  someK (pPick [v41, v42, (.bool false)]) fun v45 =>
  gK v45 true (fun q' => effK (eBuildSlice 1 1 [(.int .u8 (.ofNat 0))] [(0, 1)] [(.int .u8 (.ofNat 0))] H43 τ44) q') H43 τ44 fun v46 H47 τ48 =>
  gK v45 true (fun q' => call 9 [.nils, v46] H47 τ48 q') H47 τ48 fun v49 H50 τ51 =>
  gK v45 true (fun q' => unK .not v49 fun v => q' v H50 τ51) H50 τ51 fun v52 H53 τ54 =>
  someK (pPick [v45, v52, (.bool false)]) fun v55 =>
  gK v55 true (fun q' => call 10 [] H53 τ54 q') H53 τ54 fun v56 H57 τ58 =>
  someK (pPick [v55, v56, (.bool false)]) fun v59 =>
  q v59 H57 τ58
theorem s3_eq (call : CallK) (N : Nat) (H : Heap) (τ : Tape) (q : KV) : s3 call N  H τ q = funK call N fn3 [] H τ q := by kernel_rfl
def e3 (call : CallK) (N : Nat) (vs : List V) (H : Heap) (τ : Tape) (q : KV) : Ans := match vs with | [] => s3 call N  H τ q | _ => none
theorem e3_ok : EntOk fn3 e3 := by
  intro call N vs H τ q r h
  unfold e3 at h
  split at h
  · rw [s3_eq] at h; exact h
  · cases h
/-- ostiary/digest.Sum -/
def fn7 : Fun := ⟨2,
  (.seq (.reg [⟨(some 4), none, (.p .mv), [(.c .nils)], none⟩,
    ⟨(some 5), none, (.p .mv), [(.c (.int .i64 (.ofNat 0)))], none⟩])
  (.keep [0, 1] (.seq (.seq (.reg [⟨(some 6), none, (.p .mv), [(.t 0)], none⟩])
  (.keep [1, 6] (.block 0
   (.seq (.reg [⟨(some 8), none, (.p (.bin .eql)), [(.t 6), (.c (.int .i64 (.ofNat 256)))], none⟩,
     ⟨(some 7), none, (.p .mv), [(.t 8)], none⟩])
   (.keep [1, 6, 7] (.cond (.t 7)
    (.seq (.reg [⟨(some 9), none, (.l (.load (some 17))), [(.c (.ptr 0 0))], none⟩,
      ⟨(some 10), none, (.l (.load (some 8))), [(.c (.ptr 1 0))], none⟩,
      ⟨(some 11), none, (.p .mv), [(.t 1)], none⟩,
      ⟨(some 12), none, (.call 20), [(.t 9), (.t 10), (.t 11)], none⟩,
      ⟨(some 4), none, (.p .mv), [(.t 12)], none⟩,
      ⟨(some 5), none, (.p .mv), [(.c (.int .i64 (.ofNat 0)))], none⟩])
    (.keep [4, 5] (.keep [4, 5] .ret)))
    (.seq (.reg [⟨(some 14), none, (.p (.bin .eql)), [(.t 6), (.c (.int .i64 (.ofNat 384)))], none⟩,
      ⟨(some 13), none, (.p .mv), [(.t 14)], none⟩])
    (.keep [1, 6, 13] (.cond (.t 13)
     (.seq (.reg [⟨(some 15), none, (.l (.load (some 17))), [(.c (.ptr 2 0))], none⟩,
       ⟨(some 16), none, (.l (.load (some 8))), [(.c (.ptr 3 0))], none⟩,
       ⟨(some 17), none, (.p .mv), [(.t 1)], none⟩,
       ⟨(some 18), none, (.call 21), [(.t 15), (.t 16), (.t 17)], none⟩,
       ⟨(some 19), none, (.p (.slSlice 1 false true true)), [(.t 18), (.c (.int .i64 (.ofNat 48))), (.c (.int .i64 (.ofNat 48)))], none⟩,
       ⟨(some 4), none, (.p .mv), [(.t 19)], none⟩,
       ⟨(some 5), none, (.p .mv), [(.c (.int .i64 (.ofNat 0)))], none⟩])
     (.keep [4, 5] (.keep [4, 5] .ret)))
     (.seq (.reg [⟨(some 21), none, (.p (.bin .eql)), [(.t 6), (.c (.int .i64 (.ofNat 512)))], none⟩,
       ⟨(some 20), none, (.p .mv), [(.t 21)], none⟩])
     (.keep [1, 20] (.cond (.t 20)
      (.seq (.reg [⟨(some 22), none, (.l (.load (some 17))), [(.c (.ptr 2 0))], none⟩,
        ⟨(some 23), none, (.l (.load (some 8))), [(.c (.ptr 4 0))], none⟩,
        ⟨(some 24), none, (.p .mv), [(.t 1)], none⟩,
        ⟨(some 25), none, (.call 21), [(.t 22), (.t 23), (.t 24)], none⟩,
        ⟨(some 4), none, (.p .mv), [(.t 25)], none⟩,
        ⟨(some 5), none, (.p .mv), [(.c (.int .i64 (.ofNat 0)))], none⟩])
      (.keep [4, 5] (.keep [4, 5] .ret)))
      .skip))))))))))))
  (.keep [] (.seq (.reg [⟨(some 4), none, (.p .mv), [(.c .nils)], none⟩,
    ⟨(some 5), none, (.p .mv), [(.c (.int .i64 (.ofNat 1)))], none⟩])
  (.keep [4, 5] (.keep [4, 5] .ret))))))),
  [(.t 4), (.t 5)]⟩
def s7 (call : CallK) (N : Nat) (a0 a1 : V) (H : Heap) (τ : Tape) (q : KV) : Ans :=
  binK .eql a0 (.int .i64 (.ofNat 256)) fun v0 =>
  condK v0
    (someK (lLoadN 17 [(.ptr 0 0)] H) fun v1 =>
  someK (lLoadN 8 [(.ptr 1 0)] H) fun v2 =>
  call 20 [v1, v2, a1] H τ fun v3 H4 τ5 =>
  q (.tup [v3, (.int .i64 (.ofNat 0))]) H4 τ5)
    (binK .eql a0 (.int .i64 (.ofNat 384)) fun v6 =>
  condK v6
    (someK (lLoadN 17 [(.ptr 2 0)] H) fun v7 =>
  someK (lLoadN 8 [(.ptr 3 0)] H) fun v8 =>
  call 21 [v7, v8, a1] H τ fun v9 H10 τ11 =>
  someK (pSlSlice 1 false true true [v9, (.int .i64 (.ofNat 48)), (.int .i64 (.ofNat 48))]) fun v12 =>
  q (.tup [v12, (.int .i64 (.ofNat 0))]) H10 τ11)
    (binK .eql a0 (.int .i64 (.ofNat 512)) fun v13 =>
  condK v13
    (someK (lLoadN 17 [(.ptr 2 0)] H) fun v14 =>
  someK (lLoadN 8 [(.ptr 4 0)] H) fun v15 =>
  call 21 [v14, v15, a1] H τ fun v16 H17 τ18 =>
  q (.tup [v16, (.int .i64 (.ofNat 0))]) H17 τ18)
    (q (.tup [.nils, (.int .i64 (.ofNat 1))]) H τ)))
theorem s7_eq (call : CallK) (N : Nat) (a0 a1 : V) (H : Heap) (τ : Tape) (q : KV) : s7 call N a0 a1 H τ q = funK call N fn7 [a0, a1] H τ q := by kernel_rfl
def e7 (call : CallK) (N : Nat) (vs : List V) (H : Heap) (τ : Tape) (q : KV) : Ans := match vs with | [a0, a1] => s7 call N a0 a1 H τ q | _ => none
theorem e7_ok : EntOk fn7 e7 := by
  intro call N vs H τ q r h
  unfold e7 at h
  split at h
  · rw [s7_eq] at h; exact h
  · cases h
/-- ostiary/ostiarylaw8.sum -/
def fn8 : Fun := ⟨2,
  (.seq (.reg [⟨(some 4), none, (.p .mv), [(.c (.str []))], none⟩])
  (.keep [0, 1] (.seq (.reg [⟨(some 8), none, (.p .mv), [(.t 0)], none⟩,
    ⟨(some 9), none, (.p .mv), [(.t 1)], none⟩,
    ⟨(some 10), none, (.e .strBytes), [(.t 9)], none⟩,
    ⟨(some 11), none, (.call 7), [(.t 8), (.t 10)], none⟩,
    ⟨(some 7), none, (.p .mv), [(.t 11)], none⟩,
    ⟨(some 12), none, (.p (.extract 0)), [(.t 7)], none⟩,
    ⟨(some 13), none, (.p (.extract 1)), [(.t 7)], none⟩,
    ⟨(some 5), none, (.p .mv), [(.t 12)], none⟩,
    ⟨(some 6), none, (.p .mv), [(.t 13)], none⟩])
  (.keep [5] (.seq (.reg [⟨(some 14), none, (.p .mv), [(.t 5)], none⟩,
    ⟨(some 15), none, (.call 22), [(.t 14)], none⟩,
    ⟨(some 4), none, (.p .mv), [(.t 15)], none⟩])
  (.keep [4] (.keep [4] .ret))))))),
  [(.t 4)]⟩
def s8 (call : CallK) (N : Nat) (a0 a1 : V) (H : Heap) (τ : Tape) (q : KV) : Ans :=
  effK (eStrBytes [a1] H τ) fun v0 H1 τ2 =>
  call 7 [a0, v0] H1 τ2 fun v3 H4 τ5 =>
  someK (pExtract 0 [v3]) fun v6 =>
  someK (pExtract 1 [v3]) fun v7 =>
  call 22 [v6] H4 τ5 fun v8 H9 τ10 =>
  q v8 H9 τ10
theorem s8_eq (call : CallK) (N : Nat) (a0 a1 : V) (H : Heap) (τ : Tape) (q : KV) : s8 call N a0 a1 H τ q = funK call N fn8 [a0, a1] H τ q := by kernel_rfl
def e8 (call : CallK) (N : Nat) (vs : List V) (H : Heap) (τ : Tape) (q : KV) : Ans := match vs with | [a0, a1] => s8 call N a0 a1 H τ q | _ => none
theorem e8_ok : EntOk fn8 e8 := by
  intro call N vs H τ q r h
  unfold e8 at h
  split at h
  · rw [s8_eq] at h; exact h
  · cases h
/-- ostiary/digest.Same -/
def fn9 : Fun := ⟨2,
  (.seq (.reg [⟨(some 4), none, (.p .mv), [(.c (.bool false))], none⟩])
  (.keep [0, 1] (.seq (.seq (.reg [⟨(some 7), none, (.p .mv), [(.t 0)], none⟩,
    ⟨(some 8), none, (.p .len), [(.t 7)], none⟩,
    ⟨(some 9), none, (.p .mv), [(.t 1)], none⟩,
    ⟨(some 10), none, (.p .len), [(.t 9)], none⟩,
    ⟨(some 11), none, (.p (.bin .neq)), [(.t 8), (.t 10)], none⟩])
  (.keep [0, 1, 11] (.cond (.t 11)
   (.seq (.reg [⟨(some 4), none, (.p .mv), [(.c (.bool false))], none⟩])
   (.keep [4] (.keep [4] .ret)))
   .skip)))
  (.keep [0, 1] (.seq (.reg [⟨(some 5), none, (.p .mv), [(.c (.int .u8 (.ofNat 0)))], none⟩])
  (.keep [0, 1, 5] (.seq (.seq (.reg [⟨(some 12), none, (.p .mv), [(.t 0)], none⟩,
    ⟨(some 13), none, (.p .len), [(.t 12)], none⟩,
    ⟨(some 14), none, (.p .mv), [(.c (.int .i64 (.ofNat 0)))], none⟩])
  (.keep [0, 1, 5, 13, 14] (.block 0
   (.loop
    (.keep [0, 1, 5, 13, 14] (.seq (.reg [⟨(some 15), none, (.p (.bin .lss)), [(.t 14), (.t 13)], none⟩])
    (.keep [0, 1, 5, 13, 14, 15] (.seq (.cond (.t 15)
     .skip
     (.keep [5] (.exit 0)))
    (.keep [0, 1, 5, 13, 14] (.seq (.block 1
     (.seq (.reg [⟨(some 16), none, (.p .mv), [(.t 14)], none⟩,
       ⟨(some 6), none, (.p .mv), [(.t 16)], none⟩])
     (.keep [0, 1, 5, 6, 13, 14] (.draw [⟨(some 17), none, (.p .mv), [(.t 5)], none⟩,
       ⟨(some 18), none, (.p .mv), [(.t 0)], none⟩,
       ⟨(some 19), none, (.p .mv), [(.t 6)], none⟩,
       ⟨(some 20), none, (.p (.slIdx 1)), [(.t 18), (.t 19)], none⟩,
       ⟨(some 21), none, (.l (.load none)), [(.t 20)], none⟩,
       ⟨(some 22), none, (.p .mv), [(.t 1)], none⟩,
       ⟨(some 23), none, (.p .mv), [(.t 6)], none⟩,
       ⟨(some 24), none, (.p (.slIdx 1)), [(.t 22), (.t 23)], none⟩,
       ⟨(some 25), none, (.l (.load none)), [(.t 24)], none⟩,
       ⟨(some 26), none, (.p (.bin .xor)), [(.t 21), (.t 25)], none⟩,
       ⟨(some 27), none, (.p (.bin .or)), [(.t 17), (.t 26)], none⟩,
       ⟨(some 5), none, (.p .mv), [(.t 27)], none⟩]))))
    (.keep [0, 1, 5, 13, 14] (.reg [⟨(some 28), none, (.p (.bin .add)), [(.t 14), (.c (.int .i64 (.ofNat 1)))], none⟩,
      ⟨(some 14), none, (.p .mv), [(.t 28)], none⟩]))))))))))))
  (.keep [5] (.seq (.reg [⟨(some 29), none, (.p .mv), [(.t 5)], none⟩,
    ⟨(some 30), none, (.p (.bin .eql)), [(.t 29), (.c (.int .u8 (.ofNat 0)))], none⟩,
    ⟨(some 4), none, (.p .mv), [(.t 30)], none⟩])
  (.keep [4] (.keep [4] .ret))))))))))),
  [(.t 4)]⟩
def s9_j0 (call : CallK) (N : Nat) (q : KV) (st : St) (τ : Tape) : Ans :=
  match st with
  | ⟨fr, H⟩ =>
  getK fr 5 fun t5 =>
  binK .eql t5 (.int .u8 (.ofNat 0)) fun v4 =>
  q v4 H τ
def s9_l1 (call : CallK) (N : Nat) (st : St) (τ : Tape) (k : KC) : Ans :=
  match st with
  | ⟨fr, H⟩ =>
  getK fr 0 fun t0 =>
  getK fr 1 fun t1 =>
  getK fr 5 fun t5 =>
  getK fr 13 fun t13 =>
  getK fr 14 fun t14 =>
  binK .lss t14 t13 fun v5 =>
  condK v5
    (someK (pSlIdx 1 [t0, t14]) fun v6 =>
  someK (lLoad1 [v6] H) fun v7 =>
  someK (pSlIdx 1 [t1, t14]) fun v8 =>
  someK (lLoad1 [v8] H) fun v9 =>
  binK .xor v7 v9 fun v10 =>
  binK .or t5 v10 fun v11 =>
  binK .add t14 (.int .i64 (.ofNat 1)) fun v12 =>
  k .normal ⟨(T.set (T.set (T.set (T.set (T.set (T.set (T.set .leaf 0 t0) 1 t1) 5 v11) 13 t13) 14 t14) 28 v12) 14 v12), H⟩ τ)
    (k (.exit 0) ⟨(T.set .leaf 5 t5), H⟩ τ)
def s9 (call : CallK) (N : Nat) (a0 a1 : V) (H : Heap) (τ : Tape) (q : KV) : Ans :=
  someK (pLen [a0]) fun v0 =>
  someK (pLen [a1]) fun v1 =>
  binK .neq v0 v1 fun v2 =>
  condK v2
    (q (.bool false) H τ)
    (someK (pLen [a0]) fun v3 =>
  loopK (s9_l1 call N) N ⟨(T.set (T.set (T.set (T.set (T.set .leaf 0 a0) 1 a1) 5 (.int .u8 (.ofNat 0))) 13 v3) 14 (.int .i64 (.ofNat 0))), H⟩ τ (blockK 0 (seqK (s9_j0 call N q) (endK [(.t 4)] q))))
theorem s9_eq (call : CallK) (N : Nat) (a0 a1 : V) (H : Heap) (τ : Tape) (q : KV) : s9 call N a0 a1 H τ q = funK call N fn9 [a0, a1] H τ q := by kernel_rfl
def e9 (call : CallK) (N : Nat) (vs : List V) (H : Heap) (τ : Tape) (q : KV) : Ans := match vs with | [a0, a1] => s9 call N a0 a1 H τ q | _ => none
theorem e9_ok : EntOk fn9 e9 := by
  intro call N vs H τ q r h
  unfold e9 at h
  split at h
  · rw [s9_eq] at h; exact h
  · cases h
/-- ostiary/ostiarylaw8.known -/
def fn10 : Fun := ⟨0,
  (.seq (.reg [⟨(some 0), none, (.p .mv), [(.c (.bool false))], none⟩])
  (.keep [] (.seq (.reg [⟨(some 1), none, (.call 8), [(.c (.int .i64 (.ofNat 256))), (.c (.str (bs [97, 98, 99])))], none⟩,
    ⟨(some 2), none, (.p (.bin .eql)), [(.t 1), (.c (.str (bs [98, 97, 55, 56, 49, 54, 98, 102, 56, 102, 48, 49, 99, 102, 101, 97, 52, 49, 52, 49, 52, 48, 100, 101, 53, 100, 97, 101, 50, 50, 50, 51, 98, 48, 48, 51, 54, 49, 97, 51, 57, 54, 49, 55, 55, 97, 57, 99, 98, 52, 49, 48, 102, 102, 54, 49, 102, 50, 48, 48, 49, 53, 97, 100])))], none⟩,
    ⟨(some 3), none, (.p .mv), [(.t 2)], none⟩,
    ⟨(some 4), some (3, true), (.e (.buildSlice 1 1 [(.int .u8 (.ofNat 0))] [(0, 1)])), [(.c (.int .u8 (.ofNat 97)))], none⟩,
    ⟨(some 5), some (3, true), (.e .mark), [(.t 4)], none⟩,
    ⟨(some 6), some (3, true), (.e (.buildSlice 1 1 [(.int .u8 (.ofNat 0))] [(0, 1)])), [(.c (.int .u8 (.ofNat 97)))], none⟩,
    ⟨(some 7), some (3, true), (.e .mark), [(.t 6)], none⟩,
    ⟨(some 8), some (3, true), (.call 9), [(.t 5), (.t 7)], none⟩,
    ⟨(some 9), none, (.p .pick), [(.t 3), (.t 8), (.c (.bool false))], none⟩,
    ⟨(some 10), none, (.p .mv), [(.t 9)], none⟩,
    ⟨(some 11), some (10, true), (.e (.buildSlice 1 1 [(.int .u8 (.ofNat 0))] [(0, 1)])), [(.c (.int .u8 (.ofNat 97)))], none⟩,
    ⟨(some 12), some (10, true), (.e .mark), [(.t 11)], none⟩,
    ⟨(some 13), some (10, true), (.e (.buildSlice 1 1 [(.int .u8 (.ofNat 0))] [(0, 1)])), [(.c (.int .u8 (.ofNat 98)))], none⟩,
    ⟨(some 14), some (10, true), (.e .mark), [(.t 13)], none⟩,
    ⟨(some 15), some (10, true), (.call 9), [(.t 12), (.t 14)], none⟩,
    ⟨(some 16), some (10, true), (.p (.un .not)), [(.t 15)], none⟩,
    ⟨(some 17), none, (.p .pick), [(.t 10), (.t 16), (.c (.bool false))], none⟩,
    ⟨(some 0), none, (.p .mv), [(.t 17)], none⟩])
  (.keep [0] (.keep [0] .ret))))),
  [(.t 0)]⟩
def s10 (call : CallK) (N : Nat) (H : Heap) (τ : Tape) (q : KV) : Ans :=
  call 8 [(.int .i64 (.ofNat 256)), (.str (bs [97, 98, 99]))] H τ fun v0 H1 τ2 =>
  binK .eql v0 (.str (bs [98, 97, 55, 56, 49, 54, 98, 102, 56, 102, 48, 49, 99, 102, 101, 97, 52, 49, 52, 49, 52, 48, 100, 101, 53, 100, 97, 101, 50, 50, 50, 51, 98, 48, 48, 51, 54, 49, 97, 51, 57, 54, 49, 55, 55, 97, 57, 99, 98, 52, 49, 48, 102, 102, 54, 49, 102, 50, 48, 48, 49, 53, 97, 100])) fun v3 =>
  gK v3 true (fun q' => effK (eBuildSlice 1 1 [(.int .u8 (.ofNat 0))] [(0, 1)] [(.int .u8 (.ofNat 97))] H1 τ2) q') H1 τ2 fun v4 H5 τ6 =>
  gK v3 true (fun q' => effK (eMark [v4] H5 τ6) q') H5 τ6 fun v7 H8 τ9 =>
  gK v3 true (fun q' => effK (eBuildSlice 1 1 [(.int .u8 (.ofNat 0))] [(0, 1)] [(.int .u8 (.ofNat 97))] H8 τ9) q') H8 τ9 fun v10 H11 τ12 =>
  gK v3 true (fun q' => effK (eMark [v10] H11 τ12) q') H11 τ12 fun v13 H14 τ15 =>
  gK v3 true (fun q' => call 9 [v7, v13] H14 τ15 q') H14 τ15 fun v16 H17 τ18 =>
  someK (pPick [v3, v16, (.bool false)]) fun v19 =>
  gK v19 true (fun q' => effK (eBuildSlice 1 1 [(.int .u8 (.ofNat 0))] [(0, 1)] [(.int .u8 (.ofNat 97))] H17 τ18) q') H17 τ18 fun v20 H21 τ22 =>
  gK v19 true (fun q' => effK (eMark [v20] H21 τ22) q') H21 τ22 fun v23 H24 τ25 =>
  gK v19 true (fun q' => effK (eBuildSlice 1 1 [(.int .u8 (.ofNat 0))] [(0, 1)] [(.int .u8 (.ofNat 98))] H24 τ25) q') H24 τ25 fun v26 H27 τ28 =>
  gK v19 true (fun q' => effK (eMark [v26] H27 τ28) q') H27 τ28 fun v29 H30 τ31 =>
  gK v19 true (fun q' => call 9 [v23, v29] H30 τ31 q') H30 τ31 fun v32 H33 τ34 =>
  gK v19 true (fun q' => unK .not v32 fun v => q' v H33 τ34) H33 τ34 fun v35 H36 τ37 =>
  someK (pPick [v19, v35, (.bool false)]) fun v38 =>
  q v38 H36 τ37
theorem s10_eq (call : CallK) (N : Nat) (H : Heap) (τ : Tape) (q : KV) : s10 call N  H τ q = funK call N fn10 [] H τ q := by kernel_rfl
def e10 (call : CallK) (N : Nat) (vs : List V) (H : Heap) (τ : Tape) (q : KV) : Ans := match vs with | [] => s10 call N  H τ q | _ => none
theorem e10_ok : EntOk fn10 e10 := by
  intro call N vs H τ q r h
  unfold e10 at h
  split at h
  · rw [s10_eq] at h; exact h
  · cases h
/-- ostiary/digest.hash[uint32] -/
def fn20 : Fun := ⟨3,
  (.seq (.reg [⟨(some 3), none, (.e .box), [(.t 0)], none⟩,
    ⟨(some 4), none, (.e .box), [(.t 1)], none⟩,
    ⟨(some 6), none, (.p .mv), [(.c .nils)], none⟩])
  (.keep [2, 3, 4] (.seq (.draw [⟨(some 17), none, (.p .mv), [(.t 2)], none⟩,
    ⟨(some 18), none, (.p .len), [(.t 17)], none⟩,
    ⟨(some 19), none, (.p (.fieldAddr 14)), [(.t 3)], none⟩,
    ⟨(some 20), none, (.l (.load none)), [(.t 19)], none⟩,
    ⟨(some 21), none, (.p (.bin .quo)), [(.t 18), (.t 20)], none⟩,
    ⟨(some 22), none, (.p (.fieldAddr 14)), [(.t 3)], none⟩,
    ⟨(some 23), none, (.l (.load none)), [(.t 22)], none⟩,
    ⟨(some 24), none, (.p (.bin .mul)), [(.t 21), (.t 23)], none⟩,
    ⟨(some 7), none, (.p .mv), [(.t 24)], none⟩])
  (.keep [2, 3, 4, 7] (.seq (.seq (.reg [⟨(some 8), none, (.p .mv), [(.c (.int .i64 (.ofNat 0)))], none⟩])
  (.keep [2, 3, 4, 7, 8] (.block 0
   (.loop
    (.keep [2, 3, 4, 7, 8] (.seq (.seq (.reg [⟨(some 25), none, (.p .mv), [(.t 8)], none⟩,
      ⟨(some 26), none, (.p .mv), [(.t 7)], none⟩,
      ⟨(some 27), none, (.p (.bin .lss)), [(.t 25), (.t 26)], none⟩])
    (.keep [2, 3, 4, 7, 8, 27] (.cond (.t 27)
     .skip
     (.keep [2, 3, 4, 7] (.exit 0)))))
    (.keep [2, 3, 4, 7, 8] (.seq (.block 1
     (.reg [⟨(some 32), none, (.p .mv), [(.t 2)], none⟩,
       ⟨(some 33), none, (.p .mv), [(.t 8)], none⟩,
       ⟨(some 34), none, (.p (.slSlice 1 true false false)), [(.t 32), (.t 33)], none⟩,
       ⟨(some 35), none, (.call 28), [(.t 3), (.t 4), (.t 34)], none⟩]))
    (.keep [2, 3, 4, 7, 8] (.reg [⟨(some 28), none, (.p .mv), [(.t 8)], none⟩,
      ⟨(some 29), none, (.p (.fieldAddr 14)), [(.t 3)], none⟩,
      ⟨(some 30), none, (.l (.load none)), [(.t 29)], none⟩,
      ⟨(some 31), none, (.p (.bin .add)), [(.t 28), (.t 30)], none⟩,
      ⟨(some 8), none, (.p .mv), [(.t 31)], none⟩]))))))))))
  (.keep [2, 3, 4, 7] (.seq (.reg [⟨(some 36), none, (.e (.buildSlice 0 1 [] [])), [], none⟩,
    ⟨(some 37), none, (.p .mv), [(.t 2)], none⟩,
    ⟨(some 38), none, (.p .mv), [(.t 7)], none⟩,
    ⟨(some 39), none, (.p (.slSlice 1 true false false)), [(.t 37), (.t 38)], none⟩,
    ⟨(some 40), none, (.e (.append 1 1)), [(.t 36), (.t 39)], none⟩,
    ⟨(some 41), none, (.e (.buildSlice 1 1 [(.int .u8 (.ofNat 0))] [(0, 1)])), [(.c (.int .u8 (.ofNat 128)))], none⟩,
    ⟨(some 42), none, (.e (.append 1 1)), [(.t 40), (.t 41)], none⟩,
    ⟨(some 9), none, (.p .mv), [(.t 42)], none⟩])
  (.keep [2, 3, 4, 9] (.seq (.block 2
   (.loop
    (.keep [2, 3, 4, 9] (.seq (.seq (.reg [⟨(some 43), none, (.p .mv), [(.t 9)], none⟩,
      ⟨(some 44), none, (.p .len), [(.t 43)], none⟩,
      ⟨(some 45), none, (.p (.fieldAddr 15)), [(.t 3)], none⟩,
      ⟨(some 46), none, (.l (.load none)), [(.t 45)], none⟩,
      ⟨(some 47), none, (.p (.bin .add)), [(.t 44), (.t 46)], none⟩,
      ⟨(some 48), none, (.p (.fieldAddr 14)), [(.t 3)], none⟩,
      ⟨(some 49), none, (.l (.load none)), [(.t 48)], none⟩,
      ⟨(some 50), none, (.p (.bin .rem)), [(.t 47), (.t 49)], none⟩,
      ⟨(some 51), none, (.p (.bin .neq)), [(.t 50), (.c (.int .i64 (.ofNat 0)))], none⟩])
    (.keep [2, 3, 4, 9, 51] (.cond (.t 51)
     .skip
     (.keep [2, 3, 4, 9] (.exit 2)))))
    (.keep [2, 3, 4, 9] (.block 3
     (.reg [⟨(some 52), none, (.p .mv), [(.t 9)], none⟩,
       ⟨(some 53), none, (.e (.buildSlice 1 1 [(.int .u8 (.ofNat 0))] [(0, 1)])), [(.c (.int .u8 (.ofNat 0)))], none⟩,
       ⟨(some 54), none, (.e (.append 1 1)), [(.t 52), (.t 53)], none⟩,
       ⟨(some 9), none, (.p .mv), [(.t 54)], none⟩])))))))
  (.keep [2, 3, 4, 9] (.seq (.seq (.reg [⟨(some 55), none, (.p (.fieldAddr 15)), [(.t 3)], none⟩,
    ⟨(some 56), none, (.l (.load none)), [(.t 55)], none⟩,
    ⟨(some 57), none, (.p (.bin .sub)), [(.t 56), (.c (.int .i64 (.ofNat 1)))], none⟩,
    ⟨(some 10), none, (.p .mv), [(.t 57)], none⟩])
  (.keep [2, 3, 4, 9, 10] (.block 4
   (.loop
    (.keep [2, 3, 4, 9, 10] (.seq (.seq (.reg [⟨(some 58), none, (.p .mv), [(.t 10)], none⟩,
      ⟨(some 59), none, (.p (.bin .geq)), [(.t 58), (.c (.int .i64 (.ofNat 0)))], none⟩])
    (.keep [2, 3, 4, 9, 10, 59] (.cond (.t 59)
     .skip
     (.keep [3, 4, 9] (.exit 4)))))
    (.keep [2, 3, 4, 9, 10] (.seq (.block 5
     (.seq (.reg [⟨(some 11), none, (.p .mv), [(.c (.int .u8 (.ofNat 0)))], none⟩])
     (.keep [2, 3, 4, 9, 10, 11] (.seq (.seq (.reg [⟨(some 62), none, (.p .mv), [(.t 10)], none⟩,
       ⟨(some 63), none, (.p (.bin .lss)), [(.t 62), (.c (.int .i64 (.ofNat 8)))], none⟩])
     (.keep [2, 3, 4, 9, 10, 11, 63] (.cond (.t 63)
      (.reg [⟨(some 64), none, (.p .mv), [(.t 2)], none⟩,
        ⟨(some 65), none, (.p .len), [(.t 64)], none⟩,
        ⟨(some 66), none, (.p (.toInt .u64)), [(.t 65)], none⟩,
        ⟨(some 67), none, (.p (.bin .mul)), [(.t 66), (.c (.int .u64 (.ofNat 8)))], none⟩,
        ⟨(some 68), none, (.p .mv), [(.t 10)], none⟩,
        ⟨(some 69), none, (.p (.bin .mul)), [(.c (.int .i64 (.ofNat 8))), (.t 68)], none⟩,
        ⟨(some 70), none, (.p (.bin .shr)), [(.t 67), (.t 69)], none⟩,
        ⟨(some 71), none, (.p (.toInt .u8)), [(.t 70)], none⟩,
        ⟨(some 11), none, (.p .mv), [(.t 71)], none⟩])
      .skip)))
     (.keep [2, 3, 4, 9, 10, 11] (.reg [⟨(some 72), none, (.p .mv), [(.t 9)], none⟩,
       ⟨(some 73), none, (.p .mv), [(.t 11)], none⟩,
       ⟨(some 74), none, (.e (.buildSlice 1 1 [(.int .u8 (.ofNat 0))] [(0, 1)])), [(.t 73)], none⟩,
       ⟨(some 75), none, (.e (.append 1 1)), [(.t 72), (.t 74)], none⟩,
       ⟨(some 9), none, (.p .mv), [(.t 75)], none⟩]))))))
    (.keep [2, 3, 4, 9, 10] (.reg [⟨(some 60), none, (.p .mv), [(.t 10)], none⟩,
      ⟨(some 61), none, (.p (.bin .sub)), [(.t 60), (.c (.int .i64 (.ofNat 1)))], none⟩,
      ⟨(some 10), none, (.p .mv), [(.t 61)], none⟩]))))))))))
  (.keep [3, 4, 9] (.seq (.seq (.reg [⟨(some 12), none, (.p .mv), [(.c (.int .i64 (.ofNat 0)))], none⟩])
  (.keep [3, 4, 9, 12] (.block 6
   (.loop
    (.keep [3, 4, 9, 12] (.seq (.seq (.reg [⟨(some 76), none, (.p .mv), [(.t 12)], none⟩,
      ⟨(some 77), none, (.p .mv), [(.t 9)], none⟩,
      ⟨(some 78), none, (.p .len), [(.t 77)], none⟩,
      ⟨(some 79), none, (.p (.bin .lss)), [(.t 76), (.t 78)], none⟩])
    (.keep [3, 4, 9, 12, 79] (.cond (.t 79)
     .skip
     (.keep [3, 4] (.exit 6)))))
    (.keep [3, 4, 9, 12] (.seq (.block 7
     (.reg [⟨(some 84), none, (.p .mv), [(.t 9)], none⟩,
       ⟨(some 85), none, (.p .mv), [(.t 12)], none⟩,
       ⟨(some 86), none, (.p (.slSlice 1 true false false)), [(.t 84), (.t 85)], none⟩,
       ⟨(some 87), none, (.call 28), [(.t 3), (.t 4), (.t 86)], none⟩]))
    (.keep [3, 4, 9, 12] (.reg [⟨(some 80), none, (.p .mv), [(.t 12)], none⟩,
      ⟨(some 81), none, (.p (.fieldAddr 14)), [(.t 3)], none⟩,
      ⟨(some 82), none, (.l (.load none)), [(.t 81)], none⟩,
      ⟨(some 83), none, (.p (.bin .add)), [(.t 80), (.t 82)], none⟩,
      ⟨(some 12), none, (.p .mv), [(.t 83)], none⟩]))))))))))
  (.keep [3, 4] (.seq (.reg [⟨(some 13), none, (.p .mv), [(.c .nils)], none⟩])
  (.keep [3, 4, 13] (.seq (.seq (.reg [⟨(some 88), none, (.l (.load (some 8))), [(.t 4)], none⟩,
    ⟨(some 89), none, (.p .mv), [(.c (.int .i64 (.ofNat 0)))], none⟩])
  (.keep [3, 13, 88, 89] (.block 8
   (.loop
    (.keep [3, 13, 88, 89] (.seq (.reg [⟨(some 90), none, (.p (.bin .lss)), [(.t 89), (.c (.int .i64 (.ofNat 8)))], none⟩])
    (.keep [3, 13, 88, 89, 90] (.seq (.cond (.t 90)
     .skip
     (.keep [13] (.exit 8)))
    (.keep [3, 13, 88, 89] (.seq (.block 9
     (.seq (.reg [⟨(some 91), none, (.p (.arrIndex 8 1 false)), [(.t 88), (.t 89)], none⟩,
       ⟨(some 15), none, (.p .mv), [(.t 91)], none⟩])
     (.keep [3, 13, 15, 88, 89] (.seq (.reg [⟨(some 92), none, (.p (.fieldAddr 0)), [(.t 3)], none⟩,
       ⟨(some 93), none, (.l (.load none)), [(.t 92)], none⟩,
       ⟨(some 94), none, (.p (.bin .sub)), [(.t 93), (.c (.int .i64 (.ofNat 8)))], none⟩,
       ⟨(some 16), none, (.p .mv), [(.t 94)], none⟩])
     (.keep [3, 13, 15, 16, 88, 89] (.block 10
      (.loop
       (.keep [3, 13, 15, 16, 88, 89] (.seq (.seq (.reg [⟨(some 95), none, (.p .mv), [(.t 16)], none⟩,
         ⟨(some 96), none, (.p (.bin .geq)), [(.t 95), (.c (.int .i64 (.ofNat 0)))], none⟩])
       (.keep [3, 13, 15, 16, 88, 89, 96] (.cond (.t 96)
        .skip
        (.keep [3, 13, 88, 89] (.exit 10)))))
       (.keep [3, 13, 15, 16, 88, 89] (.seq (.block 11
        (.reg [⟨(some 99), none, (.p .mv), [(.t 13)], none⟩,
          ⟨(some 100), none, (.p .mv), [(.t 15)], none⟩,
          ⟨(some 101), none, (.p .mv), [(.t 16)], none⟩,
          ⟨(some 102), none, (.p (.bin .shr)), [(.t 100), (.t 101)], none⟩,
          ⟨(some 103), none, (.p (.toInt .u8)), [(.t 102)], none⟩,
          ⟨(some 104), none, (.e (.buildSlice 1 1 [(.int .u8 (.ofNat 0))] [(0, 1)])), [(.t 103)], none⟩,
          ⟨(some 105), none, (.e (.append 1 1)), [(.t 99), (.t 104)], none⟩,
          ⟨(some 13), none, (.p .mv), [(.t 105)], none⟩]))
       (.keep [3, 13, 15, 16, 88, 89] (.reg [⟨(some 97), none, (.p .mv), [(.t 16)], none⟩,
         ⟨(some 98), none, (.p (.bin .sub)), [(.t 97), (.c (.int .i64 (.ofNat 8)))], none⟩,
         ⟨(some 16), none, (.p .mv), [(.t 98)], none⟩])))))))))))))
    (.keep [3, 13, 88, 89] (.reg [⟨(some 106), none, (.p (.bin .add)), [(.t 89), (.c (.int .i64 (.ofNat 1)))], none⟩,
      ⟨(some 89), none, (.p .mv), [(.t 106)], none⟩]))))))))))))
  (.keep [13] (.seq (.reg [⟨(some 107), none, (.p .mv), [(.t 13)], none⟩,
    ⟨(some 6), none, (.p .mv), [(.t 107)], none⟩])
  (.keep [6] (.keep [6] .ret))))))))))))))))))))),
  [(.t 6)]⟩
def s20_j4 (call : CallK) (N : Nat) (q : KV) (st : St) (τ : Tape) : Ans :=
  match st with
  | ⟨fr, H⟩ =>
  getK fr 13 fun t13 =>
  q t13 H τ
def s20_j6 (call : CallK) (N : Nat) (k : KC) (st : St) (τ : Tape) : Ans :=
  match st with
  | ⟨fr, H⟩ =>
  getK fr 3 fun t3 =>
  getK fr 13 fun t13 =>
  getK fr 88 fun t88 =>
  getK fr 89 fun t89 =>
  binK .add t89 (.int .i64 (.ofNat 1)) fun v31 =>
  k .normal ⟨(T.set (T.set (T.set (T.set (T.set (T.set .leaf 3 t3) 13 t13) 88 t88) 89 t89) 106 v31) 89 v31), H⟩ τ
def s20_l7 (call : CallK) (N : Nat) (st : St) (τ : Tape) (k : KC) : Ans :=
  match st with
  | ⟨fr, H⟩ =>
  getK fr 3 fun t3 =>
  getK fr 13 fun t13 =>
  getK fr 15 fun t15 =>
  getK fr 16 fun t16 =>
  getK fr 88 fun t88 =>
  getK fr 89 fun t89 =>
  binK .geq t16 (.int .i64 (.ofNat 0)) fun v36 =>
  condK v36
    (binK .shr t15 t16 fun v37 =>
  toIntK .u8 v37 fun v38 =>
  effK (eBuildSlice 1 1 [(.int .u8 (.ofNat 0))] [(0, 1)] [v38] H τ) fun v39 H40 τ41 =>
  effK (eAppend 1 1 [t13, v39] H40 τ41) fun v42 H43 τ44 =>
  binK .sub t16 (.int .i64 (.ofNat 8)) fun v45 =>
  k .normal ⟨(T.set (T.set (T.set (T.set (T.set (T.set (T.set (T.set (T.set .leaf 3 t3) 13 v42) 15 t15) 16 t16) 88 t88) 89 t89) 97 t16) 98 v45) 16 v45), H43⟩ τ44)
    (k (.exit 10) ⟨(T.set (T.set (T.set (T.set .leaf 3 t3) 13 t13) 88 t88) 89 t89), H⟩ τ)
def s20_l5 (call : CallK) (N : Nat) (st : St) (τ : Tape) (k : KC) : Ans :=
  match st with
  | ⟨fr, H⟩ =>
  getK fr 3 fun t3 =>
  getK fr 13 fun t13 =>
  getK fr 88 fun t88 =>
  getK fr 89 fun t89 =>
  binK .lss t89 (.int .i64 (.ofNat 8)) fun v30 =>
  condK v30
    (someK (pArrIndex 8 1 false [t88, t89]) fun v32 =>
  someK (pFieldAddr 0 [t3]) fun v33 =>
  someK (lLoad1 [v33] H) fun v34 =>
  binK .sub v34 (.int .i64 (.ofNat 8)) fun v35 =>
  loopK (s20_l7 call N) N ⟨(T.set (T.set (T.set (T.set (T.set (T.set .leaf 3 t3) 13 t13) 15 v32) 16 v35) 88 t88) 89 t89), H⟩ τ (blockK 10 (blockK 9 (seqK (s20_j6 call N k) k))))
    (k (.exit 8) ⟨(T.set .leaf 13 t13), H⟩ τ)
def s20_j3 (call : CallK) (N : Nat) (q : KV) (st : St) (τ : Tape) : Ans :=
  match st with
  | ⟨fr, H⟩ =>
  getK fr 3 fun t3 =>
  getK fr 4 fun t4 =>
  someK (lLoadN 8 [t4] H) fun v29 =>
  loopK (s20_l5 call N) N ⟨(T.set (T.set (T.set (T.set .leaf 3 t3) 13 .nils) 88 v29) 89 (.int .i64 (.ofNat 0))), H⟩ τ (blockK 8 (seqK (s20_j4 call N q) (endK [(.t 6)] q)))
def s20_l8 (call : CallK) (N : Nat) (st : St) (τ : Tape) (k : KC) : Ans :=
  match st with
  | ⟨fr, H⟩ =>
  getK fr 3 fun t3 =>
  getK fr 4 fun t4 =>
  getK fr 9 fun t9 =>
  getK fr 12 fun t12 =>
  someK (pLen [t9]) fun v46 =>
  binK .lss t12 v46 fun v47 =>
  condK v47
    (someK (pSlSlice 1 true false false [t9, t12]) fun v48 =>
  call 28 [t3, t4, v48] H τ fun v49 H50 τ51 =>
  someK (pFieldAddr 14 [t3]) fun v52 =>
  someK (lLoad1 [v52] H50) fun v53 =>
  binK .add t12 v53 fun v54 =>
  k .normal ⟨(T.set (T.set (T.set (T.set (T.set (T.set (T.set (T.set (T.set .leaf 3 t3) 4 t4) 9 t9) 12 t12) 80 t12) 81 v52) 82 v53) 83 v54) 12 v54), H50⟩ τ51)
    (k (.exit 6) ⟨(T.set (T.set .leaf 3 t3) 4 t4), H⟩ τ)
def s20_j2 (call : CallK) (N : Nat) (q : KV) (st : St) (τ : Tape) : Ans :=
  match st with
  | ⟨fr, H⟩ =>
  getK fr 3 fun t3 =>
  getK fr 4 fun t4 =>
  getK fr 9 fun t9 =>
  loopK (s20_l8 call N) N ⟨(T.set (T.set (T.set (T.set .leaf 3 t3) 4 t4) 9 t9) 12 (.int .i64 (.ofNat 0))), H⟩ τ (blockK 6 (seqK (s20_j3 call N q) (endK [(.t 6)] q)))
def s20_j10 (call : CallK) (N : Nat) (k : KC) (st : St) (τ : Tape) : Ans :=
  match st with
  | ⟨fr, H⟩ =>
  getK fr 2 fun t2 =>
  getK fr 3 fun t3 =>
  getK fr 4 fun t4 =>
  getK fr 9 fun t9 =>
  getK fr 10 fun t10 =>
  binK .sub t10 (.int .i64 (.ofNat 1)) fun v57 =>
  k .normal ⟨(T.set (T.set (T.set (T.set (T.set (T.set (T.set (T.set .leaf 2 t2) 3 t3) 4 t4) 9 t9) 10 t10) 60 t10) 61 v57) 10 v57), H⟩ τ
def s20_j11 (call : CallK) (N : Nat) (k : KC) (st : St) (τ : Tape) : Ans :=
  match st with
  | ⟨fr, H⟩ =>
  getK fr 2 fun t2 =>
  getK fr 3 fun t3 =>
  getK fr 4 fun t4 =>
  getK fr 9 fun t9 =>
  getK fr 10 fun t10 =>
  getK fr 11 fun t11 =>
  effK (eBuildSlice 1 1 [(.int .u8 (.ofNat 0))] [(0, 1)] [t11] H τ) fun v58 H59 τ60 =>
  effK (eAppend 1 1 [t9, v58] H59 τ60) fun v61 H62 τ63 =>
  s20_j10 call N k ⟨(T.set (T.set (T.set (T.set (T.set (T.set (T.set (T.set (T.set (T.set (T.set .leaf 2 t2) 3 t3) 4 t4) 9 t9) 10 t10) 11 t11) 72 t9) 73 t11) 74 v58) 75 v61) 9 v61), H62⟩ τ63
def s20_l9 (call : CallK) (N : Nat) (st : St) (τ : Tape) (k : KC) : Ans :=
  match st with
  | ⟨fr, H⟩ =>
  getK fr 2 fun t2 =>
  getK fr 3 fun t3 =>
  getK fr 4 fun t4 =>
  getK fr 9 fun t9 =>
  getK fr 10 fun t10 =>
  binK .geq t10 (.int .i64 (.ofNat 0)) fun v55 =>
  condK v55
    (binK .lss t10 (.int .i64 (.ofNat 8)) fun v56 =>
  condK v56
    (someK (pLen [t2]) fun v64 =>
  toIntK .u64 v64 fun v65 =>
  binK .mul v65 (.int .u64 (.ofNat 8)) fun v66 =>
  binK .mul (.int .i64 (.ofNat 8)) t10 fun v67 =>
  binK .shr v66 v67 fun v68 =>
  toIntK .u8 v68 fun v69 =>
  s20_j11 call N k ⟨(T.set (T.set (T.set (T.set (T.set (T.set (T.set (T.set (T.set (T.set (T.set (T.set (T.set (T.set (T.set (T.set .leaf 2 t2) 3 t3) 4 t4) 9 t9) 10 t10) 11 (.int .u8 (.ofNat 0))) 63 v56) 64 t2) 65 v64) 66 v65) 67 v66) 68 t10) 69 v67) 70 v68) 71 v69) 11 v69), H⟩ τ)
    (s20_j11 call N k ⟨(T.set (T.set (T.set (T.set (T.set (T.set (T.set .leaf 2 t2) 3 t3) 4 t4) 9 t9) 10 t10) 11 (.int .u8 (.ofNat 0))) 63 v56), H⟩ τ))
    (k (.exit 4) ⟨(T.set (T.set (T.set .leaf 3 t3) 4 t4) 9 t9), H⟩ τ)
def s20_j1 (call : CallK) (N : Nat) (q : KV) (st : St) (τ : Tape) : Ans :=
  match st with
  | ⟨fr, H⟩ =>
  getK fr 2 fun t2 =>
  getK fr 3 fun t3 =>
  getK fr 4 fun t4 =>
  getK fr 9 fun t9 =>
  someK (pFieldAddr 15 [t3]) fun v26 =>
  someK (lLoad1 [v26] H) fun v27 =>
  binK .sub v27 (.int .i64 (.ofNat 1)) fun v28 =>
  loopK (s20_l9 call N) N ⟨(T.set (T.set (T.set (T.set (T.set .leaf 2 t2) 3 t3) 4 t4) 9 t9) 10 v28), H⟩ τ (blockK 4 (seqK (s20_j2 call N q) (endK [(.t 6)] q)))
def s20_l12 (call : CallK) (N : Nat) (st : St) (τ : Tape) (k : KC) : Ans :=
  match st with
  | ⟨fr, H⟩ =>
  getK fr 2 fun t2 =>
  getK fr 3 fun t3 =>
  getK fr 4 fun t4 =>
  getK fr 9 fun t9 =>
  someK (pLen [t9]) fun v70 =>
  someK (pFieldAddr 15 [t3]) fun v71 =>
  someK (lLoad1 [v71] H) fun v72 =>
  binK .add v70 v72 fun v73 =>
  someK (pFieldAddr 14 [t3]) fun v74 =>
  someK (lLoad1 [v74] H) fun v75 =>
  binK .rem v73 v75 fun v76 =>
  binK .neq v76 (.int .i64 (.ofNat 0)) fun v77 =>
  condK v77
    (effK (eBuildSlice 1 1 [(.int .u8 (.ofNat 0))] [(0, 1)] [(.int .u8 (.ofNat 0))] H τ) fun v78 H79 τ80 =>
  effK (eAppend 1 1 [t9, v78] H79 τ80) fun v81 H82 τ83 =>
  k .normal ⟨(T.set (T.set (T.set (T.set (T.set (T.set (T.set (T.set .leaf 2 t2) 3 t3) 4 t4) 9 t9) 52 t9) 53 v78) 54 v81) 9 v81), H82⟩ τ83)
    (k (.exit 2) ⟨(T.set (T.set (T.set (T.set .leaf 2 t2) 3 t3) 4 t4) 9 t9), H⟩ τ)
def s20_j0 (call : CallK) (N : Nat) (q : KV) (st : St) (τ : Tape) : Ans :=
  match st with
  | ⟨fr, H⟩ =>
  getK fr 2 fun t2 =>
  getK fr 3 fun t3 =>
  getK fr 4 fun t4 =>
  getK fr 7 fun t7 =>
  effK (eBuildSlice 0 1 [] [] [] H τ) fun v13 H14 τ15 =>
  someK (pSlSlice 1 true false false [t2, t7]) fun v16 =>
  effK (eAppend 1 1 [v13, v16] H14 τ15) fun v17 H18 τ19 =>
  effK (eBuildSlice 1 1 [(.int .u8 (.ofNat 0))] [(0, 1)] [(.int .u8 (.ofNat 128))] H18 τ19) fun v20 H21 τ22 =>
  effK (eAppend 1 1 [v17, v20] H21 τ22) fun v23 H24 τ25 =>
  loopK (s20_l12 call N) N ⟨(T.set (T.set (T.set (T.set .leaf 2 t2) 3 t3) 4 t4) 9 v23), H24⟩ τ25 (blockK 2 (seqK (s20_j1 call N q) (endK [(.t 6)] q)))
def s20_l13 (call : CallK) (N : Nat) (st : St) (τ : Tape) (k : KC) : Ans :=
  match st with
  | ⟨fr, H⟩ =>
  getK fr 2 fun t2 =>
  getK fr 3 fun t3 =>
  getK fr 4 fun t4 =>
  getK fr 7 fun t7 =>
  getK fr 8 fun t8 =>
  binK .lss t8 t7 fun v84 =>
  condK v84
    (someK (pSlSlice 1 true false false [t2, t8]) fun v85 =>
  call 28 [t3, t4, v85] H τ fun v86 H87 τ88 =>
  someK (pFieldAddr 14 [t3]) fun v89 =>
  someK (lLoad1 [v89] H87) fun v90 =>
  binK .add t8 v90 fun v91 =>
  k .normal ⟨(T.set (T.set (T.set (T.set (T.set (T.set (T.set (T.set (T.set (T.set .leaf 2 t2) 3 t3) 4 t4) 7 t7) 8 t8) 28 t8) 29 v89) 30 v90) 31 v91) 8 v91), H87⟩ τ88)
    (k (.exit 0) ⟨(T.set (T.set (T.set (T.set .leaf 2 t2) 3 t3) 4 t4) 7 t7), H⟩ τ)
def s20 (call : CallK) (N : Nat) (a0 a1 a2 : V) (H : Heap) (τ : Tape) (q : KV) : Ans :=
  effK (eBox [a0] H τ) fun v0 H1 τ2 =>
  effK (eBox [a1] H1 τ2) fun v3 H4 τ5 =>
  someK (pLen [a2]) fun v6 =>
  someK (pFieldAddr 14 [v0]) fun v7 =>
  someK (lLoad1 [v7] H4) fun v8 =>
  binK .quo v6 v8 fun v9 =>
  someK (pFieldAddr 14 [v0]) fun v10 =>
  someK (lLoad1 [v10] H4) fun v11 =>
  binK .mul v9 v11 fun v12 =>
  loopK (s20_l13 call N) N ⟨(T.set (T.set (T.set (T.set (T.set .leaf 2 a2) 3 v0) 4 v3) 7 v12) 8 (.int .i64 (.ofNat 0))), H4⟩ τ5 (blockK 0 (seqK (s20_j0 call N q) (endK [(.t 6)] q)))
theorem s20_eq (call : CallK) (N : Nat) (a0 a1 a2 : V) (H : Heap) (τ : Tape) (q : KV) : s20 call N a0 a1 a2 H τ q = funK call N fn20 [a0, a1, a2] H τ q := by kernel_rfl
def e20 (call : CallK) (N : Nat) (vs : List V) (H : Heap) (τ : Tape) (q : KV) : Ans := match vs with | [a0, a1, a2] => s20 call N a0 a1 a2 H τ q | _ => none
theorem e20_ok : EntOk fn20 e20 := by
  intro call N vs H τ q r h
  unfold e20 at h
  split at h
  · rw [s20_eq] at h; exact h
  · cases h
/-- ostiary/digest.hash[uint64] -/
def fn21 : Fun := ⟨3,
  (.seq (.reg [⟨(some 3), none, (.e .box), [(.t 0)], none⟩,
    ⟨(some 4), none, (.e .box), [(.t 1)], none⟩,
    ⟨(some 6), none, (.p .mv), [(.c .nils)], none⟩])
  (.keep [2, 3, 4] (.seq (.draw [⟨(some 17), none, (.p .mv), [(.t 2)], none⟩,
    ⟨(some 18), none, (.p .len), [(.t 17)], none⟩,
    ⟨(some 19), none, (.p (.fieldAddr 14)), [(.t 3)], none⟩,
    ⟨(some 20), none, (.l (.load none)), [(.t 19)], none⟩,
    ⟨(some 21), none, (.p (.bin .quo)), [(.t 18), (.t 20)], none⟩,
    ⟨(some 22), none, (.p (.fieldAddr 14)), [(.t 3)], none⟩,
    ⟨(some 23), none, (.l (.load none)), [(.t 22)], none⟩,
    ⟨(some 24), none, (.p (.bin .mul)), [(.t 21), (.t 23)], none⟩,
    ⟨(some 7), none, (.p .mv), [(.t 24)], none⟩])
  (.keep [2, 3, 4, 7] (.seq (.seq (.reg [⟨(some 8), none, (.p .mv), [(.c (.int .i64 (.ofNat 0)))], none⟩])
  (.keep [2, 3, 4, 7, 8] (.block 0
   (.loop
    (.keep [2, 3, 4, 7, 8] (.seq (.seq (.reg [⟨(some 25), none, (.p .mv), [(.t 8)], none⟩,
      ⟨(some 26), none, (.p .mv), [(.t 7)], none⟩,
      ⟨(some 27), none, (.p (.bin .lss)), [(.t 25), (.t 26)], none⟩])
    (.keep [2, 3, 4, 7, 8, 27] (.cond (.t 27)
     .skip
     (.keep [2, 3, 4, 7] (.exit 0)))))
    (.keep [2, 3, 4, 7, 8] (.seq (.block 1
     (.reg [⟨(some 32), none, (.p .mv), [(.t 2)], none⟩,
       ⟨(some 33), none, (.p .mv), [(.t 8)], none⟩,
       ⟨(some 34), none, (.p (.slSlice 1 true false false)), [(.t 32), (.t 33)], none⟩,
       ⟨(some 35), none, (.call 29), [(.t 3), (.t 4), (.t 34)], none⟩]))
    (.keep [2, 3, 4, 7, 8] (.reg [⟨(some 28), none, (.p .mv), [(.t 8)], none⟩,
      ⟨(some 29), none, (.p (.fieldAddr 14)), [(.t 3)], none⟩,
      ⟨(some 30), none, (.l (.load none)), [(.t 29)], none⟩,
      ⟨(some 31), none, (.p (.bin .add)), [(.t 28), (.t 30)], none⟩,
      ⟨(some 8), none, (.p .mv), [(.t 31)], none⟩]))))))))))
  (.keep [2, 3, 4, 7] (.seq (.reg [⟨(some 36), none, (.e (.buildSlice 0 1 [] [])), [], none⟩,
    ⟨(some 37), none, (.p .mv), [(.t 2)], none⟩,
    ⟨(some 38), none, (.p .mv), [(.t 7)], none⟩,
    ⟨(some 39), none, (.p (.slSlice 1 true false false)), [(.t 37), (.t 38)], none⟩,
    ⟨(some 40), none, (.e (.append 1 1)), [(.t 36), (.t 39)], none⟩,
    ⟨(some 41), none, (.e (.buildSlice 1 1 [(.int .u8 (.ofNat 0))] [(0, 1)])), [(.c (.int .u8 (.ofNat 128)))], none⟩,
    ⟨(some 42), none, (.e (.append 1 1)), [(.t 40), (.t 41)], none⟩,
    ⟨(some 9), none, (.p .mv), [(.t 42)], none⟩])
  (.keep [2, 3, 4, 9] (.seq (.block 2
   (.loop
    (.keep [2, 3, 4, 9] (.seq (.seq (.reg [⟨(some 43), none, (.p .mv), [(.t 9)], none⟩,
      ⟨(some 44), none, (.p .len), [(.t 43)], none⟩,
      ⟨(some 45), none, (.p (.fieldAddr 15)), [(.t 3)], none⟩,
      ⟨(some 46), none, (.l (.load none)), [(.t 45)], none⟩,
      ⟨(some 47), none, (.p (.bin .add)), [(.t 44), (.t 46)], none⟩,
      ⟨(some 48), none, (.p (.fieldAddr 14)), [(.t 3)], none⟩,
      ⟨(some 49), none, (.l (.load none)), [(.t 48)], none⟩,
      ⟨(some 50), none, (.p (.bin .rem)), [(.t 47), (.t 49)], none⟩,
      ⟨(some 51), none, (.p (.bin .neq)), [(.t 50), (.c (.int .i64 (.ofNat 0)))], none⟩])
    (.keep [2, 3, 4, 9, 51] (.cond (.t 51)
     .skip
     (.keep [2, 3, 4, 9] (.exit 2)))))
    (.keep [2, 3, 4, 9] (.block 3
     (.reg [⟨(some 52), none, (.p .mv), [(.t 9)], none⟩,
       ⟨(some 53), none, (.e (.buildSlice 1 1 [(.int .u8 (.ofNat 0))] [(0, 1)])), [(.c (.int .u8 (.ofNat 0)))], none⟩,
       ⟨(some 54), none, (.e (.append 1 1)), [(.t 52), (.t 53)], none⟩,
       ⟨(some 9), none, (.p .mv), [(.t 54)], none⟩])))))))
  (.keep [2, 3, 4, 9] (.seq (.seq (.reg [⟨(some 55), none, (.p (.fieldAddr 15)), [(.t 3)], none⟩,
    ⟨(some 56), none, (.l (.load none)), [(.t 55)], none⟩,
    ⟨(some 57), none, (.p (.bin .sub)), [(.t 56), (.c (.int .i64 (.ofNat 1)))], none⟩,
    ⟨(some 10), none, (.p .mv), [(.t 57)], none⟩])
  (.keep [2, 3, 4, 9, 10] (.block 4
   (.loop
    (.keep [2, 3, 4, 9, 10] (.seq (.seq (.reg [⟨(some 58), none, (.p .mv), [(.t 10)], none⟩,
      ⟨(some 59), none, (.p (.bin .geq)), [(.t 58), (.c (.int .i64 (.ofNat 0)))], none⟩])
    (.keep [2, 3, 4, 9, 10, 59] (.cond (.t 59)
     .skip
     (.keep [3, 4, 9] (.exit 4)))))
    (.keep [2, 3, 4, 9, 10] (.seq (.block 5
     (.seq (.reg [⟨(some 11), none, (.p .mv), [(.c (.int .u8 (.ofNat 0)))], none⟩])
     (.keep [2, 3, 4, 9, 10, 11] (.seq (.seq (.reg [⟨(some 62), none, (.p .mv), [(.t 10)], none⟩,
       ⟨(some 63), none, (.p (.bin .lss)), [(.t 62), (.c (.int .i64 (.ofNat 8)))], none⟩])
     (.keep [2, 3, 4, 9, 10, 11, 63] (.cond (.t 63)
      (.reg [⟨(some 64), none, (.p .mv), [(.t 2)], none⟩,
        ⟨(some 65), none, (.p .len), [(.t 64)], none⟩,
        ⟨(some 66), none, (.p (.toInt .u64)), [(.t 65)], none⟩,
        ⟨(some 67), none, (.p (.bin .mul)), [(.t 66), (.c (.int .u64 (.ofNat 8)))], none⟩,
        ⟨(some 68), none, (.p .mv), [(.t 10)], none⟩,
        ⟨(some 69), none, (.p (.bin .mul)), [(.c (.int .i64 (.ofNat 8))), (.t 68)], none⟩,
        ⟨(some 70), none, (.p (.bin .shr)), [(.t 67), (.t 69)], none⟩,
        ⟨(some 71), none, (.p (.toInt .u8)), [(.t 70)], none⟩,
        ⟨(some 11), none, (.p .mv), [(.t 71)], none⟩])
      .skip)))
     (.keep [2, 3, 4, 9, 10, 11] (.reg [⟨(some 72), none, (.p .mv), [(.t 9)], none⟩,
       ⟨(some 73), none, (.p .mv), [(.t 11)], none⟩,
       ⟨(some 74), none, (.e (.buildSlice 1 1 [(.int .u8 (.ofNat 0))] [(0, 1)])), [(.t 73)], none⟩,
       ⟨(some 75), none, (.e (.append 1 1)), [(.t 72), (.t 74)], none⟩,
       ⟨(some 9), none, (.p .mv), [(.t 75)], none⟩]))))))
    (.keep [2, 3, 4, 9, 10] (.reg [⟨(some 60), none, (.p .mv), [(.t 10)], none⟩,
      ⟨(some 61), none, (.p (.bin .sub)), [(.t 60), (.c (.int .i64 (.ofNat 1)))], none⟩,
      ⟨(some 10), none, (.p .mv), [(.t 61)], none⟩]))))))))))
  (.keep [3, 4, 9] (.seq (.seq (.reg [⟨(some 12), none, (.p .mv), [(.c (.int .i64 (.ofNat 0)))], none⟩])
  (.keep [3, 4, 9, 12] (.block 6
   (.loop
    (.keep [3, 4, 9, 12] (.seq (.seq (.reg [⟨(some 76), none, (.p .mv), [(.t 12)], none⟩,
      ⟨(some 77), none, (.p .mv), [(.t 9)], none⟩,
      ⟨(some 78), none, (.p .len), [(.t 77)], none⟩,
      ⟨(some 79), none, (.p (.bin .lss)), [(.t 76), (.t 78)], none⟩])
    (.keep [3, 4, 9, 12, 79] (.cond (.t 79)
     .skip
     (.keep [3, 4] (.exit 6)))))
    (.keep [3, 4, 9, 12] (.seq (.block 7
     (.reg [⟨(some 84), none, (.p .mv), [(.t 9)], none⟩,
       ⟨(some 85), none, (.p .mv), [(.t 12)], none⟩,
       ⟨(some 86), none, (.p (.slSlice 1 true false false)), [(.t 84), (.t 85)], none⟩,
       ⟨(some 87), none, (.call 29), [(.t 3), (.t 4), (.t 86)], none⟩]))
    (.keep [3, 4, 9, 12] (.reg [⟨(some 80), none, (.p .mv), [(.t 12)], none⟩,
      ⟨(some 81), none, (.p (.fieldAddr 14)), [(.t 3)], none⟩,
      ⟨(some 82), none, (.l (.load none)), [(.t 81)], none⟩,
      ⟨(some 83), none, (.p (.bin .add)), [(.t 80), (.t 82)], none⟩,
      ⟨(some 12), none, (.p .mv), [(.t 83)], none⟩]))))))))))
  (.keep [3, 4] (.seq (.reg [⟨(some 13), none, (.p .mv), [(.c .nils)], none⟩])
  (.keep [3, 4, 13] (.seq (.seq (.reg [⟨(some 88), none, (.l (.load (some 8))), [(.t 4)], none⟩,
    ⟨(some 89), none, (.p .mv), [(.c (.int .i64 (.ofNat 0)))], none⟩])
  (.keep [3, 13, 88, 89] (.block 8
   (.loop
    (.keep [3, 13, 88, 89] (.seq (.reg [⟨(some 90), none, (.p (.bin .lss)), [(.t 89), (.c (.int .i64 (.ofNat 8)))], none⟩])
    (.keep [3, 13, 88, 89, 90] (.seq (.cond (.t 90)
     .skip
     (.keep [13] (.exit 8)))
    (.keep [3, 13, 88, 89] (.seq (.block 9
     (.seq (.reg [⟨(some 91), none, (.p (.arrIndex 8 1 false)), [(.t 88), (.t 89)], none⟩,
       ⟨(some 15), none, (.p .mv), [(.t 91)], none⟩])
     (.keep [3, 13, 15, 88, 89] (.seq (.reg [⟨(some 92), none, (.p (.fieldAddr 0)), [(.t 3)], none⟩,
       ⟨(some 93), none, (.l (.load none)), [(.t 92)], none⟩,
       ⟨(some 94), none, (.p (.bin .sub)), [(.t 93), (.c (.int .i64 (.ofNat 8)))], none⟩,
       ⟨(some 16), none, (.p .mv), [(.t 94)], none⟩])
     (.keep [3, 13, 15, 16, 88, 89] (.block 10
      (.loop
       (.keep [3, 13, 15, 16, 88, 89] (.seq (.seq (.reg [⟨(some 95), none, (.p .mv), [(.t 16)], none⟩,
         ⟨(some 96), none, (.p (.bin .geq)), [(.t 95), (.c (.int .i64 (.ofNat 0)))], none⟩])
       (.keep [3, 13, 15, 16, 88, 89, 96] (.cond (.t 96)
        .skip
        (.keep [3, 13, 88, 89] (.exit 10)))))
       (.keep [3, 13, 15, 16, 88, 89] (.seq (.block 11
        (.reg [⟨(some 99), none, (.p .mv), [(.t 13)], none⟩,
          ⟨(some 100), none, (.p .mv), [(.t 15)], none⟩,
          ⟨(some 101), none, (.p .mv), [(.t 16)], none⟩,
          ⟨(some 102), none, (.p (.bin .shr)), [(.t 100), (.t 101)], none⟩,
          ⟨(some 103), none, (.p (.toInt .u8)), [(.t 102)], none⟩,
          ⟨(some 104), none, (.e (.buildSlice 1 1 [(.int .u8 (.ofNat 0))] [(0, 1)])), [(.t 103)], none⟩,
          ⟨(some 105), none, (.e (.append 1 1)), [(.t 99), (.t 104)], none⟩,
          ⟨(some 13), none, (.p .mv), [(.t 105)], none⟩]))
       (.keep [3, 13, 15, 16, 88, 89] (.reg [⟨(some 97), none, (.p .mv), [(.t 16)], none⟩,
         ⟨(some 98), none, (.p (.bin .sub)), [(.t 97), (.c (.int .i64 (.ofNat 8)))], none⟩,
         ⟨(some 16), none, (.p .mv), [(.t 98)], none⟩])))))))))))))
    (.keep [3, 13, 88, 89] (.reg [⟨(some 106), none, (.p (.bin .add)), [(.t 89), (.c (.int .i64 (.ofNat 1)))], none⟩,
      ⟨(some 89), none, (.p .mv), [(.t 106)], none⟩]))))))))))))
  (.keep [13] (.seq (.reg [⟨(some 107), none, (.p .mv), [(.t 13)], none⟩,
    ⟨(some 6), none, (.p .mv), [(.t 107)], none⟩])
  (.keep [6] (.keep [6] .ret))))))))))))))))))))),
  [(.t 6)]⟩
def s21_j4 (call : CallK) (N : Nat) (q : KV) (st : St) (τ : Tape) : Ans :=
  match st with
  | ⟨fr, H⟩ =>
  getK fr 13 fun t13 =>
  q t13 H τ
def s21_j6 (call : CallK) (N : Nat) (k : KC) (st : St) (τ : Tape) : Ans :=
  match st with
  | ⟨fr, H⟩ =>
  getK fr 3 fun t3 =>
  getK fr 13 fun t13 =>
  getK fr 88 fun t88 =>
  getK fr 89 fun t89 =>
  binK .add t89 (.int .i64 (.ofNat 1)) fun v31 =>
  k .normal ⟨(T.set (T.set (T.set (T.set (T.set (T.set .leaf 3 t3) 13 t13) 88 t88) 89 t89) 106 v31) 89 v31), H⟩ τ
def s21_l7 (call : CallK) (N : Nat) (st : St) (τ : Tape) (k : KC) : Ans :=
  match st with
  | ⟨fr, H⟩ =>
  getK fr 3 fun t3 =>
  getK fr 13 fun t13 =>
  getK fr 15 fun t15 =>
  getK fr 16 fun t16 =>
  getK fr 88 fun t88 =>
  getK fr 89 fun t89 =>
  binK .geq t16 (.int .i64 (.ofNat 0)) fun v36 =>
  condK v36
    (binK .shr t15 t16 fun v37 =>
  toIntK .u8 v37 fun v38 =>
  effK (eBuildSlice 1 1 [(.int .u8 (.ofNat 0))] [(0, 1)] [v38] H τ) fun v39 H40 τ41 =>
  effK (eAppend 1 1 [t13, v39] H40 τ41) fun v42 H43 τ44 =>
  binK .sub t16 (.int .i64 (.ofNat 8)) fun v45 =>
  k .normal ⟨(T.set (T.set (T.set (T.set (T.set (T.set (T.set (T.set (T.set .leaf 3 t3) 13 v42) 15 t15) 16 t16) 88 t88) 89 t89) 97 t16) 98 v45) 16 v45), H43⟩ τ44)
    (k (.exit 10) ⟨(T.set (T.set (T.set (T.set .leaf 3 t3) 13 t13) 88 t88) 89 t89), H⟩ τ)
def s21_l5 (call : CallK) (N : Nat) (st : St) (τ : Tape) (k : KC) : Ans :=
  match st with
  | ⟨fr, H⟩ =>
  getK fr 3 fun t3 =>
  getK fr 13 fun t13 =>
  getK fr 88 fun t88 =>
  getK fr 89 fun t89 =>
  binK .lss t89 (.int .i64 (.ofNat 8)) fun v30 =>
  condK v30
    (someK (pArrIndex 8 1 false [t88, t89]) fun v32 =>
  someK (pFieldAddr 0 [t3]) fun v33 =>
  someK (lLoad1 [v33] H) fun v34 =>
  binK .sub v34 (.int .i64 (.ofNat 8)) fun v35 =>
  loopK (s21_l7 call N) N ⟨(T.set (T.set (T.set (T.set (T.set (T.set .leaf 3 t3) 13 t13) 15 v32) 16 v35) 88 t88) 89 t89), H⟩ τ (blockK 10 (blockK 9 (seqK (s21_j6 call N k) k))))
    (k (.exit 8) ⟨(T.set .leaf 13 t13), H⟩ τ)
def s21_j3 (call : CallK) (N : Nat) (q : KV) (st : St) (τ : Tape) : Ans :=
  match st with
  | ⟨fr, H⟩ =>
  getK fr 3 fun t3 =>
  getK fr 4 fun t4 =>
  someK (lLoadN 8 [t4] H) fun v29 =>
  loopK (s21_l5 call N) N ⟨(T.set (T.set (T.set (T.set .leaf 3 t3) 13 .nils) 88 v29) 89 (.int .i64 (.ofNat 0))), H⟩ τ (blockK 8 (seqK (s21_j4 call N q) (endK [(.t 6)] q)))
def s21_l8 (call : CallK) (N : Nat) (st : St) (τ : Tape) (k : KC) : Ans :=
  match st with
  | ⟨fr, H⟩ =>
  getK fr 3 fun t3 =>
  getK fr 4 fun t4 =>
  getK fr 9 fun t9 =>
  getK fr 12 fun t12 =>
  someK (pLen [t9]) fun v46 =>
  binK .lss t12 v46 fun v47 =>
  condK v47
    (someK (pSlSlice 1 true false false [t9, t12]) fun v48 =>
  call 29 [t3, t4, v48] H τ fun v49 H50 τ51 =>
  someK (pFieldAddr 14 [t3]) fun v52 =>
  someK (lLoad1 [v52] H50) fun v53 =>
  binK .add t12 v53 fun v54 =>
  k .normal ⟨(T.set (T.set (T.set (T.set (T.set (T.set (T.set (T.set (T.set .leaf 3 t3) 4 t4) 9 t9) 12 t12) 80 t12) 81 v52) 82 v53) 83 v54) 12 v54), H50⟩ τ51)
    (k (.exit 6) ⟨(T.set (T.set .leaf 3 t3) 4 t4), H⟩ τ)
def s21_j2 (call : CallK) (N : Nat) (q : KV) (st : St) (τ : Tape) : Ans :=
  match st with
  | ⟨fr, H⟩ =>
  getK fr 3 fun t3 =>
  getK fr 4 fun t4 =>
  getK fr 9 fun t9 =>
  loopK (s21_l8 call N) N ⟨(T.set (T.set (T.set (T.set .leaf 3 t3) 4 t4) 9 t9) 12 (.int .i64 (.ofNat 0))), H⟩ τ (blockK 6 (seqK (s21_j3 call N q) (endK [(.t 6)] q)))
def s21_j10 (call : CallK) (N : Nat) (k : KC) (st : St) (τ : Tape) : Ans :=
  match st with
  | ⟨fr, H⟩ =>
  getK fr 2 fun t2 =>
  getK fr 3 fun t3 =>
  getK fr 4 fun t4 =>
  getK fr 9 fun t9 =>
  getK fr 10 fun t10 =>
  binK .sub t10 (.int .i64 (.ofNat 1)) fun v57 =>
  k .normal ⟨(T.set (T.set (T.set (T.set (T.set (T.set (T.set (T.set .leaf 2 t2) 3 t3) 4 t4) 9 t9) 10 t10) 60 t10) 61 v57) 10 v57), H⟩ τ
def s21_j11 (call : CallK) (N : Nat) (k : KC) (st : St) (τ : Tape) : Ans :=
  match st with
  | ⟨fr, H⟩ =>
  getK fr 2 fun t2 =>
  getK fr 3 fun t3 =>
  getK fr 4 fun t4 =>
  getK fr 9 fun t9 =>
  getK fr 10 fun t10 =>
  getK fr 11 fun t11 =>
  effK (eBuildSlice 1 1 [(.int .u8 (.ofNat 0))] [(0, 1)] [t11] H τ) fun v58 H59 τ60 =>
  effK (eAppend 1 1 [t9, v58] H59 τ60) fun v61 H62 τ63 =>
  s21_j10 call N k ⟨(T.set (T.set (T.set (T.set (T.set (T.set (T.set (T.set (T.set (T.set (T.set .leaf 2 t2) 3 t3) 4 t4) 9 t9) 10 t10) 11 t11) 72 t9) 73 t11) 74 v58) 75 v61) 9 v61), H62⟩ τ63
def s21_l9 (call : CallK) (N : Nat) (st : St) (τ : Tape) (k : KC) : Ans :=
  match st with
  | ⟨fr, H⟩ =>
  getK fr 2 fun t2 =>
  getK fr 3 fun t3 =>
  getK fr 4 fun t4 =>
  getK fr 9 fun t9 =>
  getK fr 10 fun t10 =>
  binK .geq t10 (.int .i64 (.ofNat 0)) fun v55 =>
  condK v55
    (binK .lss t10 (.int .i64 (.ofNat 8)) fun v56 =>
  condK v56
    (someK (pLen [t2]) fun v64 =>
  toIntK .u64 v64 fun v65 =>
  binK .mul v65 (.int .u64 (.ofNat 8)) fun v66 =>
  binK .mul (.int .i64 (.ofNat 8)) t10 fun v67 =>
  binK .shr v66 v67 fun v68 =>
  toIntK .u8 v68 fun v69 =>
  s21_j11 call N k ⟨(T.set (T.set (T.set (T.set (T.set (T.set (T.set (T.set (T.set (T.set (T.set (T.set (T.set (T.set (T.set (T.set .leaf 2 t2) 3 t3) 4 t4) 9 t9) 10 t10) 11 (.int .u8 (.ofNat 0))) 63 v56) 64 t2) 65 v64) 66 v65) 67 v66) 68 t10) 69 v67) 70 v68) 71 v69) 11 v69), H⟩ τ)
    (s21_j11 call N k ⟨(T.set (T.set (T.set (T.set (T.set (T.set (T.set .leaf 2 t2) 3 t3) 4 t4) 9 t9) 10 t10) 11 (.int .u8 (.ofNat 0))) 63 v56), H⟩ τ))
    (k (.exit 4) ⟨(T.set (T.set (T.set .leaf 3 t3) 4 t4) 9 t9), H⟩ τ)
def s21_j1 (call : CallK) (N : Nat) (q : KV) (st : St) (τ : Tape) : Ans :=
  match st with
  | ⟨fr, H⟩ =>
  getK fr 2 fun t2 =>
  getK fr 3 fun t3 =>
  getK fr 4 fun t4 =>
  getK fr 9 fun t9 =>
  someK (pFieldAddr 15 [t3]) fun v26 =>
  someK (lLoad1 [v26] H) fun v27 =>
  binK .sub v27 (.int .i64 (.ofNat 1)) fun v28 =>
  loopK (s21_l9 call N) N ⟨(T.set (T.set (T.set (T.set (T.set .leaf 2 t2) 3 t3) 4 t4) 9 t9) 10 v28), H⟩ τ (blockK 4 (seqK (s21_j2 call N q) (endK [(.t 6)] q)))
def s21_l12 (call : CallK) (N : Nat) (st : St) (τ : Tape) (k : KC) : Ans :=
  match st with
  | ⟨fr, H⟩ =>
  getK fr 2 fun t2 =>
  getK fr 3 fun t3 =>
  getK fr 4 fun t4 =>
  getK fr 9 fun t9 =>
  someK (pLen [t9]) fun v70 =>
  someK (pFieldAddr 15 [t3]) fun v71 =>
  someK (lLoad1 [v71] H) fun v72 =>
  binK .add v70 v72 fun v73 =>
  someK (pFieldAddr 14 [t3]) fun v74 =>
  someK (lLoad1 [v74] H) fun v75 =>
  binK .rem v73 v75 fun v76 =>
  binK .neq v76 (.int .i64 (.ofNat 0)) fun v77 =>
  condK v77
    (effK (eBuildSlice 1 1 [(.int .u8 (.ofNat 0))] [(0, 1)] [(.int .u8 (.ofNat 0))] H τ) fun v78 H79 τ80 =>
  effK (eAppend 1 1 [t9, v78] H79 τ80) fun v81 H82 τ83 =>
  k .normal ⟨(T.set (T.set (T.set (T.set (T.set (T.set (T.set (T.set .leaf 2 t2) 3 t3) 4 t4) 9 t9) 52 t9) 53 v78) 54 v81) 9 v81), H82⟩ τ83)
    (k (.exit 2) ⟨(T.set (T.set (T.set (T.set .leaf 2 t2) 3 t3) 4 t4) 9 t9), H⟩ τ)
def s21_j0 (call : CallK) (N : Nat) (q : KV) (st : St) (τ : Tape) : Ans :=
  match st with
  | ⟨fr, H⟩ =>
  getK fr 2 fun t2 =>
  getK fr 3 fun t3 =>
  getK fr 4 fun t4 =>
  getK fr 7 fun t7 =>
  effK (eBuildSlice 0 1 [] [] [] H τ) fun v13 H14 τ15 =>
  someK (pSlSlice 1 true false false [t2, t7]) fun v16 =>
  effK (eAppend 1 1 [v13, v16] H14 τ15) fun v17 H18 τ19 =>
  effK (eBuildSlice 1 1 [(.int .u8 (.ofNat 0))] [(0, 1)] [(.int .u8 (.ofNat 128))] H18 τ19) fun v20 H21 τ22 =>
  effK (eAppend 1 1 [v17, v20] H21 τ22) fun v23 H24 τ25 =>
  loopK (s21_l12 call N) N ⟨(T.set (T.set (T.set (T.set .leaf 2 t2) 3 t3) 4 t4) 9 v23), H24⟩ τ25 (blockK 2 (seqK (s21_j1 call N q) (endK [(.t 6)] q)))
def s21_l13 (call : CallK) (N : Nat) (st : St) (τ : Tape) (k : KC) : Ans :=
  match st with
  | ⟨fr, H⟩ =>
  getK fr 2 fun t2 =>
  getK fr 3 fun t3 =>
  getK fr 4 fun t4 =>
  getK fr 7 fun t7 =>
  getK fr 8 fun t8 =>
  binK .lss t8 t7 fun v84 =>
  condK v84
    (someK (pSlSlice 1 true false false [t2, t8]) fun v85 =>
  call 29 [t3, t4, v85] H τ fun v86 H87 τ88 =>
  someK (pFieldAddr 14 [t3]) fun v89 =>
  someK (lLoad1 [v89] H87) fun v90 =>
  binK .add t8 v90 fun v91 =>
  k .normal ⟨(T.set (T.set (T.set (T.set (T.set (T.set (T.set (T.set (T.set (T.set .leaf 2 t2) 3 t3) 4 t4) 7 t7) 8 t8) 28 t8) 29 v89) 30 v90) 31 v91) 8 v91), H87⟩ τ88)
    (k (.exit 0) ⟨(T.set (T.set (T.set (T.set .leaf 2 t2) 3 t3) 4 t4) 7 t7), H⟩ τ)
def s21 (call : CallK) (N : Nat) (a0 a1 a2 : V) (H : Heap) (τ : Tape) (q : KV) : Ans :=
  effK (eBox [a0] H τ) fun v0 H1 τ2 =>
  effK (eBox [a1] H1 τ2) fun v3 H4 τ5 =>
  someK (pLen [a2]) fun v6 =>
  someK (pFieldAddr 14 [v0]) fun v7 =>
  someK (lLoad1 [v7] H4) fun v8 =>
  binK .quo v6 v8 fun v9 =>
  someK (pFieldAddr 14 [v0]) fun v10 =>
  someK (lLoad1 [v10] H4) fun v11 =>
  binK .mul v9 v11 fun v12 =>
  loopK (s21_l13 call N) N ⟨(T.set (T.set (T.set (T.set (T.set .leaf 2 a2) 3 v0) 4 v3) 7 v12) 8 (.int .i64 (.ofNat 0))), H4⟩ τ5 (blockK 0 (seqK (s21_j0 call N q) (endK [(.t 6)] q)))
theorem s21_eq (call : CallK) (N : Nat) (a0 a1 a2 : V) (H : Heap) (τ : Tape) (q : KV) : s21 call N a0 a1 a2 H τ q = funK call N fn21 [a0, a1, a2] H τ q := by kernel_rfl
def e21 (call : CallK) (N : Nat) (vs : List V) (H : Heap) (τ : Tape) (q : KV) : Ans := match vs with | [a0, a1, a2] => s21 call N a0 a1 a2 H τ q | _ => none
theorem e21_ok : EntOk fn21 e21 := by
  intro call N vs H τ q r h
  unfold e21 at h
  split at h
  · rw [s21_eq] at h; exact h
  · cases h
/-- ostiary/ostiarylaw8.hex -/
def fn22 : Fun := ⟨1,
  (.seq (.reg [⟨(some 2), none, (.p .mv), [(.c (.str []))], none⟩])
  (.keep [0] (.seq (.reg [⟨(some 3), none, (.p .mv), [(.c (.str []))], none⟩])
  (.keep [0, 3] (.seq (.seq (.reg [⟨(some 4), none, (.p .mv), [(.c (.int .i64 (.ofNat 0)))], none⟩])
  (.keep [0, 3, 4] (.block 0
   (.loop
    (.keep [0, 3, 4] (.seq (.seq (.reg [⟨(some 5), none, (.p .mv), [(.t 4)], none⟩,
      ⟨(some 6), none, (.p .mv), [(.t 0)], none⟩,
      ⟨(some 7), none, (.p .len), [(.t 6)], none⟩,
      ⟨(some 8), none, (.p (.bin .lss)), [(.t 5), (.t 7)], none⟩])
    (.keep [0, 3, 4, 8] (.cond (.t 8)
     .skip
     (.keep [3] (.exit 0)))))
    (.keep [0, 3, 4] (.seq (.block 1
     (.draw [⟨(some 11), none, (.p .mv), [(.t 3)], none⟩,
       ⟨(some 12), none, (.p .mv), [(.t 0)], none⟩,
       ⟨(some 13), none, (.p .mv), [(.t 4)], none⟩,
       ⟨(some 14), none, (.p (.slIdx 1)), [(.t 12), (.t 13)], none⟩,
       ⟨(some 15), none, (.l (.load none)), [(.t 14)], none⟩,
       ⟨(some 16), none, (.p (.bin .shr)), [(.t 15), (.c (.int .u64 (.ofNat 4)))], none⟩,
       ⟨(some 17), none, (.p .mv), [(.t 0)], none⟩,
       ⟨(some 18), none, (.p .mv), [(.t 4)], none⟩,
       ⟨(some 19), none, (.p (.slIdx 1)), [(.t 17), (.t 18)], none⟩,
       ⟨(some 20), none, (.l (.load none)), [(.t 19)], none⟩,
       ⟨(some 21), none, (.p (.bin .shr)), [(.t 20), (.c (.int .u64 (.ofNat 4)))], none⟩,
       ⟨(some 22), none, (.p (.bin .add)), [(.t 21), (.c (.int .u8 (.ofNat 1)))], none⟩,
       ⟨(some 23), none, (.p (.strSlice true true)), [(.c (.str (bs [48, 49, 50, 51, 52, 53, 54, 55, 56, 57, 97, 98, 99, 100, 101, 102]))), (.t 16), (.t 22)], none⟩,
       ⟨(some 24), none, (.p (.bin .add)), [(.t 11), (.t 23)], none⟩,
       ⟨(some 25), none, (.p .mv), [(.t 0)], none⟩,
       ⟨(some 26), none, (.p .mv), [(.t 4)], none⟩,
       ⟨(some 27), none, (.p (.slIdx 1)), [(.t 25), (.t 26)], none⟩,
       ⟨(some 28), none, (.l (.load none)), [(.t 27)], none⟩,
       ⟨(some 29), none, (.p (.bin .and)), [(.t 28), (.c (.int .u8 (.ofNat 15)))], none⟩,
       ⟨(some 30), none, (.p .mv), [(.t 0)], none⟩,
       ⟨(some 31), none, (.p .mv), [(.t 4)], none⟩,
       ⟨(some 32), none, (.p (.slIdx 1)), [(.t 30), (.t 31)], none⟩,
       ⟨(some 33), none, (.l (.load none)), [(.t 32)], none⟩,
       ⟨(some 34), none, (.p (.bin .and)), [(.t 33), (.c (.int .u8 (.ofNat 15)))], none⟩,
       ⟨(some 35), none, (.p (.bin .add)), [(.t 34), (.c (.int .u8 (.ofNat 1)))], none⟩,
       ⟨(some 36), none, (.p (.strSlice true true)), [(.c (.str (bs [48, 49, 50, 51, 52, 53, 54, 55, 56, 57, 97, 98, 99, 100, 101, 102]))), (.t 29), (.t 35)], none⟩,
       ⟨(some 37), none, (.p (.bin .add)), [(.t 24), (.t 36)], none⟩,
       ⟨(some 3), none, (.p .mv), [(.t 37)], none⟩]))
    (.keep [0, 3, 4] (.reg [⟨(some 9), none, (.p .mv), [(.t 4)], none⟩,
      ⟨(some 10), none, (.p (.bin .add)), [(.t 9), (.c (.int .i64 (.ofNat 1)))], none⟩,
      ⟨(some 4), none, (.p .mv), [(.t 10)], none⟩]))))))))))
  (.keep [3] (.seq (.reg [⟨(some 38), none, (.p .mv), [(.t 3)], none⟩,
    ⟨(some 2), none, (.p .mv), [(.t 38)], none⟩])
  (.keep [2] (.keep [2] .ret))))))))),
  [(.t 2)]⟩
def s22_j0 (call : CallK) (N : Nat) (q : KV) (st : St) (τ : Tape) : Ans :=
  match st with
  | ⟨fr, H⟩ =>
  getK fr 3 fun t3 =>
  q t3 H τ
def s22_l1 (call : CallK) (N : Nat) (st : St) (τ : Tape) (k : KC) : Ans :=
  match st with
  | ⟨fr, H⟩ =>
  getK fr 0 fun t0 =>
  getK fr 3 fun t3 =>
  getK fr 4 fun t4 =>
  someK (pLen [t0]) fun v0 =>
  binK .lss t4 v0 fun v1 =>
  condK v1
    (someK (pSlIdx 1 [t0, t4]) fun v2 =>
  someK (lLoad1 [v2] H) fun v3 =>
  binK .shr v3 (.int .u64 (.ofNat 4)) fun v4 =>
  someK (pSlIdx 1 [t0, t4]) fun v5 =>
  someK (lLoad1 [v5] H) fun v6 =>
  binK .shr v6 (.int .u64 (.ofNat 4)) fun v7 =>
  binK .add v7 (.int .u8 (.ofNat 1)) fun v8 =>
  someK (pStrSlice true true [(.str (bs [48, 49, 50, 51, 52, 53, 54, 55, 56, 57, 97, 98, 99, 100, 101, 102])), v4, v8]) fun v9 =>
  binK .add t3 v9 fun v10 =>
  someK (pSlIdx 1 [t0, t4]) fun v11 =>
  someK (lLoad1 [v11] H) fun v12 =>
  binK .and v12 (.int .u8 (.ofNat 15)) fun v13 =>
  someK (pSlIdx 1 [t0, t4]) fun v14 =>
  someK (lLoad1 [v14] H) fun v15 =>
  binK .and v15 (.int .u8 (.ofNat 15)) fun v16 =>
  binK .add v16 (.int .u8 (.ofNat 1)) fun v17 =>
  someK (pStrSlice true true [(.str (bs [48, 49, 50, 51, 52, 53, 54, 55, 56, 57, 97, 98, 99, 100, 101, 102])), v13, v17]) fun v18 =>
  binK .add v10 v18 fun v19 =>
  binK .add t4 (.int .i64 (.ofNat 1)) fun v20 =>
  k .normal ⟨(T.set (T.set (T.set (T.set (T.set (T.set .leaf 0 t0) 3 v19) 4 t4) 9 t4) 10 v20) 4 v20), H⟩ τ)
    (k (.exit 0) ⟨(T.set .leaf 3 t3), H⟩ τ)
def s22 (call : CallK) (N : Nat) (a0 : V) (H : Heap) (τ : Tape) (q : KV) : Ans :=
  loopK (s22_l1 call N) N ⟨(T.set (T.set (T.set .leaf 0 a0) 3 (.str [])) 4 (.int .i64 (.ofNat 0))), H⟩ τ (blockK 0 (seqK (s22_j0 call N q) (endK [(.t 2)] q)))
theorem s22_eq (call : CallK) (N : Nat) (a0 : V) (H : Heap) (τ : Tape) (q : KV) : s22 call N a0 H τ q = funK call N fn22 [a0] H τ q := by kernel_rfl
def e22 (call : CallK) (N : Nat) (vs : List V) (H : Heap) (τ : Tape) (q : KV) : Ans := match vs with | [a0] => s22 call N a0 H τ q | _ => none
theorem e22_ok : EntOk fn22 e22 := by
  intro call N vs H τ q r h
  unfold e22 at h
  split at h
  · rw [s22_eq] at h; exact h
  · cases h
/-- ostiary/digest.mix[uint32] -/
def fn28 : Fun := ⟨3,
  (.seq (.reg [⟨(some 6), none, (.e (.alloc (repl 80 [(.int .u32 (.ofNat 0))]))), [], none⟩])
  (.keep [0, 1, 2, 6] (.seq (.reg [⟨(some 18), none, (.p .mv), [(.t 0)], none⟩,
    ⟨(some 19), none, (.p .nilck), [(.t 18)], none⟩,
    ⟨(some 20), none, (.p (.fieldAddr 0)), [(.t 19)], none⟩,
    ⟨(some 21), none, (.l (.load none)), [(.t 20)], none⟩,
    ⟨(some 22), none, (.p (.bin .quo)), [(.t 21), (.c (.int .i64 (.ofNat 8)))], none⟩,
    ⟨(some 7), none, (.p .mv), [(.t 22)], none⟩])
  (.keep [0, 1, 2, 6, 7] (.seq (.seq (.reg [⟨(some 23), none, (.p .mv), [(.t 0)], none⟩,
    ⟨(some 24), none, (.p .nilck), [(.t 23)], none⟩,
    ⟨(some 25), none, (.p (.fieldAddr 1)), [(.t 24)], none⟩,
    ⟨(some 26), none, (.l (.load none)), [(.t 25)], none⟩,
    ⟨(some 27), none, (.p .mv), [(.c (.int .i64 (.ofNat 0)))], none⟩])
  (.keep [0, 1, 2, 6, 7, 26, 27] (.block 0
   (.loop
    (.keep [0, 1, 2, 6, 7, 26, 27] (.seq (.reg [⟨(some 28), none, (.p (.bin .lss)), [(.t 27), (.t 26)], none⟩])
    (.keep [0, 1, 2, 6, 7, 26, 27, 28] (.seq (.cond (.t 28)
     .skip
     (.keep [0, 1, 6] (.exit 0)))
    (.keep [0, 1, 2, 6, 7, 26, 27] (.seq (.block 1
     (.seq (.reg [⟨(some 29), none, (.p .mv), [(.t 27)], none⟩,
       ⟨(some 8), none, (.p .mv), [(.t 29)], none⟩])
     (.keep [0, 1, 2, 6, 7, 8, 26, 27] (.seq (.seq (.reg [⟨(some 30), none, (.p .mv), [(.t 8)], none⟩,
       ⟨(some 31), none, (.p (.bin .geq)), [(.t 30), (.c (.int .i64 (.ofNat 16)))], none⟩])
     (.keep [0, 1, 2, 6, 7, 8, 26, 27, 31] (.cond (.t 31)
      (.seq (.draw [⟨(some 32), none, (.p .mv), [(.t 8)], none⟩,
        ⟨(some 33), none, (.p .mv), [(.t 8)], none⟩,
        ⟨(some 34), none, (.p (.bin .sub)), [(.t 33), (.c (.int .i64 (.ofNat 2)))], none⟩,
        ⟨(some 35), none, (.p (.arrIdx 80 1)), [(.t 6), (.t 34)], none⟩,
        ⟨(some 36), none, (.l (.load none)), [(.t 35)], none⟩,
        ⟨(some 37), none, (.p .mv), [(.t 0)], none⟩,
        ⟨(some 38), none, (.p .nilck), [(.t 37)], none⟩,
        ⟨(some 39), none, (.p (.fieldAddr 5)), [(.t 38)], none⟩,
        ⟨(some 40), none, (.l (.load (some 3))), [(.t 39)], none⟩,
        ⟨(some 41), none, (.p .mv), [(.t 0)], none⟩,
        ⟨(some 42), none, (.p .nilck), [(.t 41)], none⟩,
        ⟨(some 43), none, (.p (.fieldAddr 0)), [(.t 42)], none⟩,
        ⟨(some 44), none, (.l (.load none)), [(.t 43)], none⟩,
        ⟨(some 45), none, (.call 33), [(.t 36), (.t 40), (.t 44)], none⟩,
        ⟨(some 46), none, (.p .mv), [(.t 8)], none⟩,
        ⟨(some 47), none, (.p (.bin .sub)), [(.t 46), (.c (.int .i64 (.ofNat 7)))], none⟩,
        ⟨(some 48), none, (.p (.arrIdx 80 1)), [(.t 6), (.t 47)], none⟩,
        ⟨(some 49), none, (.l (.load none)), [(.t 48)], some (0, 2)⟩,
        ⟨(some 50), none, (.p (.bin .add)), [(.t 45), (.t 49)], none⟩,
        ⟨(some 51), none, (.p .mv), [(.t 8)], none⟩,
        ⟨(some 52), none, (.p (.bin .sub)), [(.t 51), (.c (.int .i64 (.ofNat 15)))], none⟩,
        ⟨(some 53), none, (.p (.arrIdx 80 1)), [(.t 6), (.t 52)], none⟩,
        ⟨(some 54), none, (.l (.load none)), [(.t 53)], some (0, 1)⟩,
        ⟨(some 55), none, (.p .mv), [(.t 0)], none⟩,
        ⟨(some 56), none, (.p .nilck), [(.t 55)], none⟩,
        ⟨(some 57), none, (.p (.fieldAddr 2)), [(.t 56)], none⟩,
        ⟨(some 58), none, (.l (.load (some 3))), [(.t 57)], some (0, 1)⟩,
        ⟨(some 59), none, (.p .mv), [(.t 0)], none⟩,
        ⟨(some 60), none, (.p .nilck), [(.t 59)], none⟩,
        ⟨(some 61), none, (.p (.fieldAddr 0)), [(.t 60)], none⟩,
        ⟨(some 62), none, (.l (.load none)), [(.t 61)], some (0, 1)⟩,
        ⟨(some 63), none, (.call 33), [(.t 54), (.t 58), (.t 62)], none⟩,
        ⟨(some 64), none, (.p (.bin .add)), [(.t 50), (.t 63)], none⟩,
        ⟨(some 65), none, (.p .mv), [(.t 8)], none⟩,
        ⟨(some 66), none, (.p (.bin .sub)), [(.t 65), (.c (.int .i64 (.ofNat 16)))], none⟩,
        ⟨(some 67), none, (.p (.arrIdx 80 1)), [(.t 6), (.t 66)], none⟩,
        ⟨(some 68), none, (.l (.load none)), [(.t 67)], some (0, 2)⟩,
        ⟨(some 69), none, (.p (.bin .add)), [(.t 64), (.t 68)], none⟩,
        ⟨(some 70), none, (.p (.arrIdx 80 1)), [(.t 6), (.t 32)], none⟩,
        ⟨none, none, (.e (.store 1)), [(.t 70), (.t 69)], none⟩])
      (.keep [0, 1, 2, 6, 7, 26, 27] (.keep [0, 1, 2, 6, 7, 26, 27] (.exit 1))))
      .skip)))
     (.keep [0, 1, 2, 6, 7, 8, 26, 27] (.seq (.reg [⟨(some 71), none, (.p .mv), [(.t 2)], none⟩,
       ⟨(some 72), none, (.p .mv), [(.t 8)], none⟩,
       ⟨(some 73), none, (.p .mv), [(.t 7)], none⟩,
       ⟨(some 74), none, (.p (.bin .mul)), [(.t 72), (.t 73)], none⟩,
       ⟨(some 75), none, (.p .mv), [(.t 8)], none⟩,
       ⟨(some 76), none, (.p (.bin .add)), [(.t 75), (.c (.int .i64 (.ofNat 1)))], none⟩,
       ⟨(some 77), none, (.p .mv), [(.t 7)], none⟩,
       ⟨(some 78), none, (.p (.bin .mul)), [(.t 76), (.t 77)], none⟩,
       ⟨(some 79), none, (.p (.slSlice 1 true true false)), [(.t 71), (.t 74), (.t 78)], none⟩,
       ⟨(some 80), none, (.p .len), [(.t 79)], none⟩,
       ⟨(some 81), none, (.p .mv), [(.c (.int .i64 (.ofNat 0)))], none⟩])
     (.keep [0, 1, 2, 6, 7, 8, 26, 27, 79, 80, 81] (.block 2
      (.loop
       (.keep [0, 1, 2, 6, 7, 8, 26, 27, 79, 80, 81] (.seq (.reg [⟨(some 82), none, (.p (.bin .lss)), [(.t 81), (.t 80)], none⟩])
       (.keep [0, 1, 2, 6, 7, 8, 26, 27, 79, 80, 81, 82] (.seq (.cond (.t 82)
        .skip
        (.keep [0, 1, 2, 6, 7, 26, 27] (.exit 2)))
       (.keep [0, 1, 2, 6, 7, 8, 26, 27, 79, 80, 81] (.seq (.block 3
        (.seq (.reg [⟨(some 83), none, (.p (.slIdx 1)), [(.t 79), (.t 81)], none⟩,
          ⟨(some 84), none, (.l (.load none)), [(.t 83)], none⟩,
          ⟨(some 10), none, (.p .mv), [(.t 84)], none⟩])
        (.keep [0, 1, 2, 6, 7, 8, 10, 26, 27, 79, 80, 81] (.reg [⟨(some 85), none, (.p .mv), [(.t 8)], none⟩,
          ⟨(some 86), none, (.p .mv), [(.t 8)], none⟩,
          ⟨(some 87), none, (.p (.arrIdx 80 1)), [(.t 6), (.t 86)], none⟩,
          ⟨(some 88), none, (.l (.load none)), [(.t 87)], none⟩,
          ⟨(some 89), none, (.p (.bin .shl)), [(.t 88), (.c (.int .u64 (.ofNat 8)))], none⟩,
          ⟨(some 90), none, (.p .mv), [(.t 10)], none⟩,
          ⟨(some 91), none, (.p (.toInt .u32)), [(.t 90)], none⟩,
          ⟨(some 92), none, (.p (.bin .or)), [(.t 89), (.t 91)], none⟩,
          ⟨(some 93), none, (.p (.arrIdx 80 1)), [(.t 6), (.t 85)], none⟩,
          ⟨none, none, (.e (.store 1)), [(.t 93), (.t 92)], none⟩]))))
       (.keep [0, 1, 2, 6, 7, 8, 26, 27, 79, 80, 81] (.reg [⟨(some 94), none, (.p (.bin .add)), [(.t 81), (.c (.int .i64 (.ofNat 1)))], none⟩,
         ⟨(some 81), none, (.p .mv), [(.t 94)], none⟩])))))))))))))))))
    (.keep [0, 1, 2, 6, 7, 26, 27] (.reg [⟨(some 95), none, (.p (.bin .add)), [(.t 27), (.c (.int .i64 (.ofNat 1)))], none⟩,
      ⟨(some 27), none, (.p .mv), [(.t 95)], none⟩]))))))))))))
  (.keep [0, 1, 6] (.seq (.reg [⟨(some 96), none, (.p .mv), [(.t 1)], none⟩,
    ⟨(some 97), none, (.p .nilck), [(.t 96)], none⟩,
    ⟨(some 98), none, (.l (.load (some 8))), [(.t 97)], none⟩,
    ⟨(some 11), none, (.e (.alloc (repl 8 [(.int .u32 (.ofNat 0))]))), [], none⟩,
    ⟨none, none, (.e (.store 8)), [(.t 11), (.t 98)], none⟩])
  (.keep [0, 1, 6, 11] (.seq (.seq (.reg [⟨(some 99), none, (.p .mv), [(.t 0)], none⟩,
    ⟨(some 100), none, (.p .nilck), [(.t 99)], none⟩,
    ⟨(some 101), none, (.p (.fieldAddr 1)), [(.t 100)], none⟩,
    ⟨(some 102), none, (.l (.load none)), [(.t 101)], none⟩,
    ⟨(some 103), none, (.p .mv), [(.c (.int .i64 (.ofNat 0)))], none⟩])
  (.keep [0, 1, 6, 11, 102, 103] (.block 4
   (.loop
    (.keep [0, 1, 6, 11, 102, 103] (.seq (.reg [⟨(some 104), none, (.p (.bin .lss)), [(.t 103), (.t 102)], none⟩])
    (.keep [0, 1, 6, 11, 102, 103, 104] (.seq (.cond (.t 104)
     .skip
     (.keep [1, 11] (.exit 4)))
    (.keep [0, 1, 6, 11, 102, 103] (.seq (.block 5
     (.seq (.reg [⟨(some 105), none, (.p .mv), [(.t 103)], none⟩,
       ⟨(some 12), none, (.p .mv), [(.t 105)], none⟩])
     (.keep [0, 1, 6, 11, 12, 102, 103] (.seq (.reg [⟨(some 106), none, (.p (.arrIdx 8 1)), [(.t 11), (.c (.int .i64 (.ofNat 4)))], none⟩,
       ⟨(some 107), none, (.l (.load none)), [(.t 106)], none⟩,
       ⟨(some 108), none, (.p (.arrIdx 8 1)), [(.t 11), (.c (.int .i64 (.ofNat 5)))], none⟩,
       ⟨(some 109), none, (.l (.load none)), [(.t 108)], none⟩,
       ⟨(some 110), none, (.p (.bin .and)), [(.t 107), (.t 109)], none⟩,
       ⟨(some 111), none, (.p (.arrIdx 8 1)), [(.t 11), (.c (.int .i64 (.ofNat 4)))], none⟩,
       ⟨(some 112), none, (.l (.load none)), [(.t 111)], none⟩,
       ⟨(some 113), none, (.p (.un .xor)), [(.t 112)], none⟩,
       ⟨(some 114), none, (.p (.arrIdx 8 1)), [(.t 11), (.c (.int .i64 (.ofNat 6)))], none⟩,
       ⟨(some 115), none, (.l (.load none)), [(.t 114)], none⟩,
       ⟨(some 116), none, (.p (.bin .and)), [(.t 113), (.t 115)], none⟩,
       ⟨(some 117), none, (.p (.bin .xor)), [(.t 110), (.t 116)], none⟩,
       ⟨(some 13), none, (.p .mv), [(.t 117)], none⟩])
     (.keep [0, 1, 6, 11, 12, 13, 102, 103] (.seq (.reg [⟨(some 118), none, (.p (.arrIdx 8 1)), [(.t 11), (.c (.int .i64 (.ofNat 0)))], none⟩,
       ⟨(some 119), none, (.l (.load none)), [(.t 118)], none⟩,
       ⟨(some 120), none, (.p (.arrIdx 8 1)), [(.t 11), (.c (.int .i64 (.ofNat 1)))], none⟩,
       ⟨(some 121), none, (.l (.load none)), [(.t 120)], none⟩,
       ⟨(some 122), none, (.p (.bin .and)), [(.t 119), (.t 121)], none⟩,
       ⟨(some 123), none, (.p (.arrIdx 8 1)), [(.t 11), (.c (.int .i64 (.ofNat 0)))], none⟩,
       ⟨(some 124), none, (.l (.load none)), [(.t 123)], none⟩,
       ⟨(some 125), none, (.p (.arrIdx 8 1)), [(.t 11), (.c (.int .i64 (.ofNat 2)))], none⟩,
       ⟨(some 126), none, (.l (.load none)), [(.t 125)], none⟩,
       ⟨(some 127), none, (.p (.bin .and)), [(.t 124), (.t 126)], none⟩,
       ⟨(some 128), none, (.p (.bin .xor)), [(.t 122), (.t 127)], none⟩,
       ⟨(some 129), none, (.p (.arrIdx 8 1)), [(.t 11), (.c (.int .i64 (.ofNat 1)))], none⟩,
       ⟨(some 130), none, (.l (.load none)), [(.t 129)], none⟩,
       ⟨(some 131), none, (.p (.arrIdx 8 1)), [(.t 11), (.c (.int .i64 (.ofNat 2)))], none⟩,
       ⟨(some 132), none, (.l (.load none)), [(.t 131)], none⟩,
       ⟨(some 133), none, (.p (.bin .and)), [(.t 130), (.t 132)], none⟩,
       ⟨(some 134), none, (.p (.bin .xor)), [(.t 128), (.t 133)], none⟩,
       ⟨(some 14), none, (.p .mv), [(.t 134)], none⟩])
     (.keep [0, 1, 6, 11, 12, 13, 14, 102, 103] (.seq (.draw [⟨(some 135), none, (.p (.arrIdx 8 1)), [(.t 11), (.c (.int .i64 (.ofNat 7)))], none⟩,
       ⟨(some 136), none, (.l (.load none)), [(.t 135)], some (0, 1)⟩,
       ⟨(some 137), none, (.p (.arrIdx 8 1)), [(.t 11), (.c (.int .i64 (.ofNat 4)))], none⟩,
       ⟨(some 138), none, (.l (.load none)), [(.t 137)], none⟩,
       ⟨(some 139), none, (.p .mv), [(.t 0)], none⟩,
       ⟨(some 140), none, (.p .nilck), [(.t 139)], none⟩,
       ⟨(some 141), none, (.p (.fieldAddr 11)), [(.t 140)], none⟩,
       ⟨(some 142), none, (.l (.load (some 3))), [(.t 141)], none⟩,
       ⟨(some 143), none, (.p .mv), [(.t 0)], none⟩,
       ⟨(some 144), none, (.p .nilck), [(.t 143)], none⟩,
       ⟨(some 145), none, (.p (.fieldAddr 0)), [(.t 144)], none⟩,
       ⟨(some 146), none, (.l (.load none)), [(.t 145)], none⟩,
       ⟨(some 147), none, (.call 34), [(.t 138), (.t 142), (.t 146)], none⟩,
       ⟨(some 148), none, (.p (.bin .add)), [(.t 136), (.t 147)], none⟩,
       ⟨(some 149), none, (.p .mv), [(.t 13)], none⟩,
       ⟨(some 150), none, (.p (.bin .add)), [(.t 148), (.t 149)], none⟩,
       ⟨(some 151), none, (.p .mv), [(.t 12)], none⟩,
       ⟨(some 152), none, (.p (.arrIdx 80 1)), [(.c (.ptr 5 0)), (.t 151)], none⟩,
       ⟨(some 153), none, (.l (.load none)), [(.t 152)], some (0, 1)⟩,
       ⟨(some 154), none, (.p .mv), [(.t 0)], none⟩,
       ⟨(some 155), none, (.p .nilck), [(.t 154)], none⟩,
       ⟨(some 156), none, (.p (.fieldAddr 0)), [(.t 155)], none⟩,
       ⟨(some 157), none, (.l (.load none)), [(.t 156)], some (0, 1)⟩,
       ⟨(some 158), none, (.p (.bin .sub)), [(.c (.int .i64 (.ofNat 64))), (.t 157)], none⟩,
       ⟨(some 159), none, (.p (.bin .shr)), [(.t 153), (.t 158)], none⟩,
       ⟨(some 160), none, (.p (.toInt .u32)), [(.t 159)], none⟩,
       ⟨(some 161), none, (.p (.bin .add)), [(.t 150), (.t 160)], none⟩,
       ⟨(some 162), none, (.p .mv), [(.t 12)], none⟩,
       ⟨(some 163), none, (.p (.arrIdx 80 1)), [(.t 6), (.t 162)], none⟩,
       ⟨(some 164), none, (.l (.load none)), [(.t 163)], some (0, 1)⟩,
       ⟨(some 165), none, (.p (.bin .add)), [(.t 161), (.t 164)], none⟩,
       ⟨(some 15), none, (.p .mv), [(.t 165)], none⟩])
     (.keep [0, 1, 6, 11, 14, 15, 102, 103] (.seq (.draw [⟨(some 166), none, (.p (.arrIdx 8 1)), [(.t 11), (.c (.int .i64 (.ofNat 0)))], none⟩,
       ⟨(some 167), none, (.l (.load none)), [(.t 166)], none⟩,
       ⟨(some 168), none, (.p .mv), [(.t 0)], none⟩,
       ⟨(some 169), none, (.p .nilck), [(.t 168)], none⟩,
       ⟨(some 170), none, (.p (.fieldAddr 8)), [(.t 169)], none⟩,
       ⟨(some 171), none, (.l (.load (some 3))), [(.t 170)], none⟩,
       ⟨(some 172), none, (.p .mv), [(.t 0)], none⟩,
       ⟨(some 173), none, (.p .nilck), [(.t 172)], none⟩,
       ⟨(some 174), none, (.p (.fieldAddr 0)), [(.t 173)], none⟩,
       ⟨(some 175), none, (.l (.load none)), [(.t 174)], none⟩,
       ⟨(some 176), none, (.call 34), [(.t 167), (.t 171), (.t 175)], none⟩,
       ⟨(some 177), none, (.p .mv), [(.t 14)], none⟩,
       ⟨(some 178), none, (.p (.bin .add)), [(.t 176), (.t 177)], none⟩,
       ⟨(some 16), none, (.p .mv), [(.t 178)], none⟩])
     (.keep [0, 1, 6, 11, 15, 16, 102, 103] (.reg [⟨(some 179), none, (.p .mv), [(.t 15)], none⟩,
       ⟨(some 180), none, (.p .mv), [(.t 16)], none⟩,
       ⟨(some 181), none, (.p (.bin .add)), [(.t 179), (.t 180)], none⟩,
       ⟨(some 182), none, (.p (.arrIdx 8 1)), [(.t 11), (.c (.int .i64 (.ofNat 0)))], none⟩,
       ⟨(some 183), none, (.l (.load none)), [(.t 182)], none⟩,
       ⟨(some 184), none, (.p (.arrIdx 8 1)), [(.t 11), (.c (.int .i64 (.ofNat 1)))], none⟩,
       ⟨(some 185), none, (.l (.load none)), [(.t 184)], none⟩,
       ⟨(some 186), none, (.p (.arrIdx 8 1)), [(.t 11), (.c (.int .i64 (.ofNat 2)))], none⟩,
       ⟨(some 187), none, (.l (.load none)), [(.t 186)], none⟩,
       ⟨(some 188), none, (.p (.arrIdx 8 1)), [(.t 11), (.c (.int .i64 (.ofNat 3)))], none⟩,
       ⟨(some 189), none, (.l (.load none)), [(.t 188)], none⟩,
       ⟨(some 190), none, (.p .mv), [(.t 15)], none⟩,
       ⟨(some 191), none, (.p (.bin .add)), [(.t 189), (.t 190)], none⟩,
       ⟨(some 192), none, (.p (.arrIdx 8 1)), [(.t 11), (.c (.int .i64 (.ofNat 4)))], none⟩,
       ⟨(some 193), none, (.l (.load none)), [(.t 192)], none⟩,
       ⟨(some 194), none, (.p (.arrIdx 8 1)), [(.t 11), (.c (.int .i64 (.ofNat 5)))], none⟩,
       ⟨(some 195), none, (.l (.load none)), [(.t 194)], none⟩,
       ⟨(some 196), none, (.p (.arrIdx 8 1)), [(.t 11), (.c (.int .i64 (.ofNat 6)))], none⟩,
       ⟨(some 197), none, (.l (.load none)), [(.t 196)], none⟩,
       ⟨(some 198), none, (.p (.build (repl 8 [(.int .u32 (.ofNat 0))]) [(0, 1), (1, 1), (2, 1), (3, 1), (4, 1), (5, 1), (6, 1), (7, 1)])), [(.t 181), (.t 183), (.t 185), (.t 187), (.t 191), (.t 193), (.t 195), (.t 197)], none⟩,
       ⟨none, none, (.e (.store 8)), [(.t 11), (.t 198)], none⟩]))))))))))))
    (.keep [0, 1, 6, 11, 102, 103] (.reg [⟨(some 199), none, (.p (.bin .add)), [(.t 103), (.c (.int .i64 (.ofNat 1)))], none⟩,
      ⟨(some 103), none, (.p .mv), [(.t 199)], none⟩]))))))))))))
  (.keep [1, 11] (.seq (.reg [⟨(some 200), none, (.p .mv), [(.c (.int .i64 (.ofNat 0)))], none⟩])
  (.keep [1, 11, 200] (.block 6
   (.loop
    (.keep [1, 11, 200] (.seq (.reg [⟨(some 201), none, (.p (.bin .lss)), [(.t 200), (.c (.int .i64 (.ofNat 8)))], none⟩])
    (.keep [1, 11, 200, 201] (.seq (.cond (.t 201)
     .skip
     (.keep [] (.exit 6)))
    (.keep [1, 11, 200] (.seq (.block 7
     (.seq (.reg [⟨(some 202), none, (.p .mv), [(.t 200)], none⟩,
       ⟨(some 17), none, (.p .mv), [(.t 202)], none⟩])
     (.keep [1, 11, 17, 200] (.draw [⟨(some 203), none, (.p .mv), [(.t 1)], none⟩,
       ⟨(some 204), none, (.p .mv), [(.t 17)], none⟩,
       ⟨(some 205), none, (.p .nilck), [(.t 203)], none⟩,
       ⟨(some 206), none, (.p (.arrIdx 8 1)), [(.t 205), (.t 204)], none⟩,
       ⟨(some 207), none, (.l (.load none)), [(.t 206)], none⟩,
       ⟨(some 208), none, (.p .mv), [(.t 17)], none⟩,
       ⟨(some 209), none, (.p (.arrIdx 8 1)), [(.t 11), (.t 208)], none⟩,
       ⟨(some 210), none, (.l (.load none)), [(.t 209)], none⟩,
       ⟨(some 211), none, (.p (.bin .add)), [(.t 207), (.t 210)], none⟩,
       ⟨(some 212), none, (.p .nilck), [(.t 203)], none⟩,
       ⟨(some 213), none, (.p (.arrIdx 8 1)), [(.t 212), (.t 204)], none⟩,
       ⟨none, none, (.e (.store 1)), [(.t 213), (.t 211)], none⟩]))))
    (.keep [1, 11, 200] (.reg [⟨(some 214), none, (.p (.bin .add)), [(.t 200), (.c (.int .i64 (.ofNat 1)))], none⟩,
      ⟨(some 200), none, (.p .mv), [(.t 214)], none⟩])))))))))))))))))))))),
  []⟩
def s28_l2 (call : CallK) (N : Nat) (st : St) (τ : Tape) (k : KC) : Ans :=
  match st with
  | ⟨fr, H⟩ =>
  getK fr 1 fun t1 =>
  getK fr 11 fun t11 =>
  getK fr 200 fun t200 =>
  binK .lss t200 (.int .i64 (.ofNat 8)) fun v21 =>
  condK v21
    (someK (pNilck [t1]) fun v22 =>
  someK (pArrIdx 8 1 [v22, t200]) fun v23 =>
  someK (lLoad1 [v23] H) fun v24 =>
  someK (pArrIdx 8 1 [t11, t200]) fun v25 =>
  someK (lLoad1 [v25] H) fun v26 =>
  binK .add v24 v26 fun v27 =>
  someK (pNilck [t1]) fun v28 =>
  someK (pArrIdx 8 1 [v28, t200]) fun v29 =>
  effK (eStore 1 [v29, v27] H τ) fun v30 H31 τ32 =>
  binK .add t200 (.int .i64 (.ofNat 1)) fun v33 =>
  k .normal ⟨(T.set (T.set (T.set (T.set (T.set .leaf 1 t1) 11 t11) 200 t200) 214 v33) 200 v33), H31⟩ τ32)
    (k (.exit 6) ⟨.leaf, H⟩ τ)
def s28_j1 (call : CallK) (N : Nat) (q : KV) (st : St) (τ : Tape) : Ans :=
  match st with
  | ⟨fr, H⟩ =>
  getK fr 1 fun t1 =>
  getK fr 11 fun t11 =>
  loopK (s28_l2 call N) N ⟨(T.set (T.set (T.set .leaf 1 t1) 11 t11) 200 (.int .i64 (.ofNat 0))), H⟩ τ (blockK 6 (endK [] q))
def s28_l3 (call : CallK) (N : Nat) (st : St) (τ : Tape) (k : KC) : Ans :=
  match st with
  | ⟨fr, H⟩ =>
  getK fr 0 fun t0 =>
  getK fr 1 fun t1 =>
  getK fr 6 fun t6 =>
  getK fr 11 fun t11 =>
  getK fr 102 fun t102 =>
  getK fr 103 fun t103 =>
  binK .lss t103 t102 fun v34 =>
  condK v34
    (someK (pArrIdx 8 1 [t11, (.int .i64 (.ofNat 4))]) fun v35 =>
  someK (lLoad1 [v35] H) fun v36 =>
  someK (pArrIdx 8 1 [t11, (.int .i64 (.ofNat 5))]) fun v37 =>
  someK (lLoad1 [v37] H) fun v38 =>
  binK .and v36 v38 fun v39 =>
  someK (pArrIdx 8 1 [t11, (.int .i64 (.ofNat 4))]) fun v40 =>
  someK (lLoad1 [v40] H) fun v41 =>
  unK .xor v41 fun v42 =>
  someK (pArrIdx 8 1 [t11, (.int .i64 (.ofNat 6))]) fun v43 =>
  someK (lLoad1 [v43] H) fun v44 =>
  binK .and v42 v44 fun v45 =>
  binK .xor v39 v45 fun v46 =>
  someK (pArrIdx 8 1 [t11, (.int .i64 (.ofNat 0))]) fun v47 =>
  someK (lLoad1 [v47] H) fun v48 =>
  someK (pArrIdx 8 1 [t11, (.int .i64 (.ofNat 1))]) fun v49 =>
  someK (lLoad1 [v49] H) fun v50 =>
  binK .and v48 v50 fun v51 =>
  someK (pArrIdx 8 1 [t11, (.int .i64 (.ofNat 0))]) fun v52 =>
  someK (lLoad1 [v52] H) fun v53 =>
  someK (pArrIdx 8 1 [t11, (.int .i64 (.ofNat 2))]) fun v54 =>
  someK (lLoad1 [v54] H) fun v55 =>
  binK .and v53 v55 fun v56 =>
  binK .xor v51 v56 fun v57 =>
  someK (pArrIdx 8 1 [t11, (.int .i64 (.ofNat 1))]) fun v58 =>
  someK (lLoad1 [v58] H) fun v59 =>
  someK (pArrIdx 8 1 [t11, (.int .i64 (.ofNat 2))]) fun v60 =>
  someK (lLoad1 [v60] H) fun v61 =>
  binK .and v59 v61 fun v62 =>
  binK .xor v57 v62 fun v63 =>
  someK (pArrIdx 8 1 [t11, (.int .i64 (.ofNat 7))]) fun v64 =>
  someK (lLoad1 [v64] H) fun v65 =>
  someK (pArrIdx 8 1 [t11, (.int .i64 (.ofNat 4))]) fun v66 =>
  someK (lLoad1 [v66] H) fun v67 =>
  someK (pNilck [t0]) fun v68 =>
  someK (pFieldAddr 11 [v68]) fun v69 =>
  someK (lLoadN 3 [v69] H) fun v70 =>
  someK (pNilck [t0]) fun v71 =>
  someK (pFieldAddr 0 [v71]) fun v72 =>
  someK (lLoad1 [v72] H) fun v73 =>
  call 34 [v67, v70, v73] H τ fun v74 H75 τ76 =>
  binK .add v65 v74 fun v77 =>
  binK .add v77 v46 fun v78 =>
  someK (pArrIdx 80 1 [(.ptr 5 0), t103]) fun v79 =>
  someK (lLoad1 [v79] H75) fun v80 =>
  someK (pNilck [t0]) fun v81 =>
  someK (pFieldAddr 0 [v81]) fun v82 =>
  someK (lLoad1 [v82] H75) fun v83 =>
  binK .sub (.int .i64 (.ofNat 64)) v83 fun v84 =>
  binK .shr v80 v84 fun v85 =>
  toIntK .u32 v85 fun v86 =>
  binK .add v78 v86 fun v87 =>
  someK (pArrIdx 80 1 [t6, t103]) fun v88 =>
  someK (lLoad1 [v88] H75) fun v89 =>
  binK .add v87 v89 fun v90 =>
  bif chkLoads [H, H75] [((.load none), [v88], 0, 1), ((.load none), [v82], 0, 1), ((.load none), [v79], 0, 1), ((.load none), [v64], 0, 1)] then
  someK (pArrIdx 8 1 [t11, (.int .i64 (.ofNat 0))]) fun v91 =>
  someK (lLoad1 [v91] H75) fun v92 =>
  someK (pNilck [t0]) fun v93 =>
  someK (pFieldAddr 8 [v93]) fun v94 =>
  someK (lLoadN 3 [v94] H75) fun v95 =>
  someK (pNilck [t0]) fun v96 =>
  someK (pFieldAddr 0 [v96]) fun v97 =>
  someK (lLoad1 [v97] H75) fun v98 =>
  call 34 [v92, v95, v98] H75 τ76 fun v99 H100 τ101 =>
  binK .add v99 v63 fun v102 =>
  binK .add v90 v102 fun v103 =>
  someK (pArrIdx 8 1 [t11, (.int .i64 (.ofNat 0))]) fun v104 =>
  someK (lLoad1 [v104] H100) fun v105 =>
  someK (pArrIdx 8 1 [t11, (.int .i64 (.ofNat 1))]) fun v106 =>
  someK (lLoad1 [v106] H100) fun v107 =>
  someK (pArrIdx 8 1 [t11, (.int .i64 (.ofNat 2))]) fun v108 =>
  someK (lLoad1 [v108] H100) fun v109 =>
  someK (pArrIdx 8 1 [t11, (.int .i64 (.ofNat 3))]) fun v110 =>
  someK (lLoad1 [v110] H100) fun v111 =>
  binK .add v111 v90 fun v112 =>
  someK (pArrIdx 8 1 [t11, (.int .i64 (.ofNat 4))]) fun v113 =>
  someK (lLoad1 [v113] H100) fun v114 =>
  someK (pArrIdx 8 1 [t11, (.int .i64 (.ofNat 5))]) fun v115 =>
  someK (lLoad1 [v115] H100) fun v116 =>
  someK (pArrIdx 8 1 [t11, (.int .i64 (.ofNat 6))]) fun v117 =>
  someK (lLoad1 [v117] H100) fun v118 =>
  someK (pBuild (repl 8 [(.int .u32 (.ofNat 0))]) [(0, 1), (1, 1), (2, 1), (3, 1), (4, 1), (5, 1), (6, 1), (7, 1)] [v103, v105, v107, v109, v112, v114, v116, v118]) fun v119 =>
  effK (eStore 8 [t11, v119] H100 τ101) fun v120 H121 τ122 =>
  binK .add t103 (.int .i64 (.ofNat 1)) fun v123 =>
  k .normal ⟨(T.set (T.set (T.set (T.set (T.set (T.set (T.set (T.set .leaf 0 t0) 1 t1) 6 t6) 11 t11) 102 t102) 103 t103) 199 v123) 103 v123), H121⟩ τ122
  else none)
    (k (.exit 4) ⟨(T.set (T.set .leaf 1 t1) 11 t11), H⟩ τ)
def s28_j0 (call : CallK) (N : Nat) (q : KV) (st : St) (τ : Tape) : Ans :=
  match st with
  | ⟨fr, H⟩ =>
  getK fr 0 fun t0 =>
  getK fr 1 fun t1 =>
  getK fr 6 fun t6 =>
  someK (pNilck [t1]) fun v10 =>
  someK (lLoadN 8 [v10] H) fun v11 =>
  effK (eAlloc (repl 8 [(.int .u32 (.ofNat 0))]) [] H τ) fun v12 H13 τ14 =>
  effK (eStore 8 [v12, v11] H13 τ14) fun v15 H16 τ17 =>
  someK (pNilck [t0]) fun v18 =>
  someK (pFieldAddr 1 [v18]) fun v19 =>
  someK (lLoad1 [v19] H16) fun v20 =>
  loopK (s28_l3 call N) N ⟨(T.set (T.set (T.set (T.set (T.set (T.set .leaf 0 t0) 1 t1) 6 t6) 11 v12) 102 v20) 103 (.int .i64 (.ofNat 0))), H16⟩ τ17 (blockK 4 (seqK (s28_j1 call N q) (endK [] q)))
def s28_j5 (call : CallK) (N : Nat) (k : KC) (st : St) (τ : Tape) : Ans :=
  match st with
  | ⟨fr, H⟩ =>
  getK fr 0 fun t0 =>
  getK fr 1 fun t1 =>
  getK fr 2 fun t2 =>
  getK fr 6 fun t6 =>
  getK fr 7 fun t7 =>
  getK fr 26 fun t26 =>
  getK fr 27 fun t27 =>
  binK .add t27 (.int .i64 (.ofNat 1)) fun v125 =>
  k .normal ⟨(T.set (T.set (T.set (T.set (T.set (T.set (T.set (T.set (T.set .leaf 0 t0) 1 t1) 2 t2) 6 t6) 7 t7) 26 t26) 27 t27) 95 v125) 27 v125), H⟩ τ
def s28_l6 (call : CallK) (N : Nat) (st : St) (τ : Tape) (k : KC) : Ans :=
  match st with
  | ⟨fr, H⟩ =>
  getK fr 0 fun t0 =>
  getK fr 1 fun t1 =>
  getK fr 2 fun t2 =>
  getK fr 6 fun t6 =>
  getK fr 7 fun t7 =>
  getK fr 8 fun t8 =>
  getK fr 26 fun t26 =>
  getK fr 27 fun t27 =>
  getK fr 79 fun t79 =>
  getK fr 80 fun t80 =>
  getK fr 81 fun t81 =>
  binK .lss t81 t80 fun v169 =>
  condK v169
    (someK (pSlIdx 1 [t79, t81]) fun v170 =>
  someK (lLoad1 [v170] H) fun v171 =>
  someK (pArrIdx 80 1 [t6, t8]) fun v172 =>
  someK (lLoad1 [v172] H) fun v173 =>
  binK .shl v173 (.int .u64 (.ofNat 8)) fun v174 =>
  toIntK .u32 v171 fun v175 =>
  binK .or v174 v175 fun v176 =>
  someK (pArrIdx 80 1 [t6, t8]) fun v177 =>
  effK (eStore 1 [v177, v176] H τ) fun v178 H179 τ180 =>
  binK .add t81 (.int .i64 (.ofNat 1)) fun v181 =>
  k .normal ⟨(T.set (T.set (T.set (T.set (T.set (T.set (T.set (T.set (T.set (T.set (T.set (T.set (T.set .leaf 0 t0) 1 t1) 2 t2) 6 t6) 7 t7) 8 t8) 26 t26) 27 t27) 79 t79) 80 t80) 81 t81) 94 v181) 81 v181), H179⟩ τ180)
    (k (.exit 2) ⟨(T.set (T.set (T.set (T.set (T.set (T.set (T.set .leaf 0 t0) 1 t1) 2 t2) 6 t6) 7 t7) 26 t26) 27 t27), H⟩ τ)
def s28_l4 (call : CallK) (N : Nat) (st : St) (τ : Tape) (k : KC) : Ans :=
  match st with
  | ⟨fr, H⟩ =>
  getK fr 0 fun t0 =>
  getK fr 1 fun t1 =>
  getK fr 2 fun t2 =>
  getK fr 6 fun t6 =>
  getK fr 7 fun t7 =>
  getK fr 26 fun t26 =>
  getK fr 27 fun t27 =>
  binK .lss t27 t26 fun v124 =>
  condK v124
    (binK .geq t27 (.int .i64 (.ofNat 16)) fun v126 =>
  condK v126
    (binK .sub t27 (.int .i64 (.ofNat 2)) fun v127 =>
  someK (pArrIdx 80 1 [t6, v127]) fun v128 =>
  someK (lLoad1 [v128] H) fun v129 =>
  someK (pNilck [t0]) fun v130 =>
  someK (pFieldAddr 5 [v130]) fun v131 =>
  someK (lLoadN 3 [v131] H) fun v132 =>
  someK (pNilck [t0]) fun v133 =>
  someK (pFieldAddr 0 [v133]) fun v134 =>
  someK (lLoad1 [v134] H) fun v135 =>
  call 33 [v129, v132, v135] H τ fun v136 H137 τ138 =>
  binK .sub t27 (.int .i64 (.ofNat 7)) fun v139 =>
  someK (pArrIdx 80 1 [t6, v139]) fun v140 =>
  someK (lLoad1 [v140] H137) fun v141 =>
  binK .add v136 v141 fun v142 =>
  binK .sub t27 (.int .i64 (.ofNat 15)) fun v143 =>
  someK (pArrIdx 80 1 [t6, v143]) fun v144 =>
  someK (lLoad1 [v144] H137) fun v145 =>
  someK (pNilck [t0]) fun v146 =>
  someK (pFieldAddr 2 [v146]) fun v147 =>
  someK (lLoadN 3 [v147] H137) fun v148 =>
  someK (pNilck [t0]) fun v149 =>
  someK (pFieldAddr 0 [v149]) fun v150 =>
  someK (lLoad1 [v150] H137) fun v151 =>
  call 33 [v145, v148, v151] H137 τ138 fun v152 H153 τ154 =>
  binK .add v142 v152 fun v155 =>
  binK .sub t27 (.int .i64 (.ofNat 16)) fun v156 =>
  someK (pArrIdx 80 1 [t6, v156]) fun v157 =>
  someK (lLoad1 [v157] H153) fun v158 =>
  binK .add v155 v158 fun v159 =>
  someK (pArrIdx 80 1 [t6, t27]) fun v160 =>
  effK (eStore 1 [v160, v159] H153 τ154) fun v161 H162 τ163 =>
  bif chkLoads [H, H137, H153, H162] [((.load none), [v157], 0, 2), ((.load none), [v150], 0, 1), ((.load (some 3)), [v147], 0, 1), ((.load none), [v144], 0, 1), ((.load none), [v140], 0, 2)] then
  s28_j5 call N k ⟨(T.set (T.set (T.set (T.set (T.set (T.set (T.set .leaf 0 t0) 1 t1) 2 t2) 6 t6) 7 t7) 26 t26) 27 t27), H162⟩ τ163
  else none)
    (binK .mul t27 t7 fun v164 =>
  binK .add t27 (.int .i64 (.ofNat 1)) fun v165 =>
  binK .mul v165 t7 fun v166 =>
  someK (pSlSlice 1 true true false [t2, v164, v166]) fun v167 =>
  someK (pLen [v167]) fun v168 =>
  loopK (s28_l6 call N) N ⟨(T.set (T.set (T.set (T.set (T.set (T.set (T.set (T.set (T.set (T.set (T.set .leaf 0 t0) 1 t1) 2 t2) 6 t6) 7 t7) 8 t27) 26 t26) 27 t27) 79 v167) 80 v168) 81 (.int .i64 (.ofNat 0))), H⟩ τ (blockK 2 (blockK 1 (seqK (s28_j5 call N k) k)))))
    (k (.exit 0) ⟨(T.set (T.set (T.set .leaf 0 t0) 1 t1) 6 t6), H⟩ τ)
def s28 (call : CallK) (N : Nat) (a0 a1 a2 : V) (H : Heap) (τ : Tape) (q : KV) : Ans :=
  effK (eAlloc (repl 80 [(.int .u32 (.ofNat 0))]) [] H τ) fun v0 H1 τ2 =>
  someK (pNilck [a0]) fun v3 =>
  someK (pFieldAddr 0 [v3]) fun v4 =>
  someK (lLoad1 [v4] H1) fun v5 =>
  binK .quo v5 (.int .i64 (.ofNat 8)) fun v6 =>
  someK (pNilck [a0]) fun v7 =>
  someK (pFieldAddr 1 [v7]) fun v8 =>
  someK (lLoad1 [v8] H1) fun v9 =>
  loopK (s28_l4 call N) N ⟨(T.set (T.set (T.set (T.set (T.set (T.set (T.set .leaf 0 a0) 1 a1) 2 a2) 6 v0) 7 v6) 26 v9) 27 (.int .i64 (.ofNat 0))), H1⟩ τ2 (blockK 0 (seqK (s28_j0 call N q) (endK [] q)))
theorem s28_eq (call : CallK) (N : Nat) (a0 a1 a2 : V) (H : Heap) (τ : Tape) (q : KV) : s28 call N a0 a1 a2 H τ q = funK call N fn28 [a0, a1, a2] H τ q := by kernel_rfl
def e28 (call : CallK) (N : Nat) (vs : List V) (H : Heap) (τ : Tape) (q : KV) : Ans := match vs with | [a0, a1, a2] => s28 call N a0 a1 a2 H τ q | _ => none
theorem e28_ok : EntOk fn28 e28 := by
  intro call N vs H τ q r h
  unfold e28 at h
  split at h
  · rw [s28_eq] at h; exact h
  · cases h
/-- ostiary/digest.mix[uint64] -/
def fn29 : Fun := ⟨3,
  (.seq (.reg [⟨(some 6), none, (.e (.alloc (repl 80 [(.int .u64 (.ofNat 0))]))), [], none⟩])
  (.keep [0, 1, 2, 6] (.seq (.reg [⟨(some 18), none, (.p .mv), [(.t 0)], none⟩,
    ⟨(some 19), none, (.p .nilck), [(.t 18)], none⟩,
    ⟨(some 20), none, (.p (.fieldAddr 0)), [(.t 19)], none⟩,
    ⟨(some 21), none, (.l (.load none)), [(.t 20)], none⟩,
    ⟨(some 22), none, (.p (.bin .quo)), [(.t 21), (.c (.int .i64 (.ofNat 8)))], none⟩,
    ⟨(some 7), none, (.p .mv), [(.t 22)], none⟩])
  (.keep [0, 1, 2, 6, 7] (.seq (.seq (.reg [⟨(some 23), none, (.p .mv), [(.t 0)], none⟩,
    ⟨(some 24), none, (.p .nilck), [(.t 23)], none⟩,
    ⟨(some 25), none, (.p (.fieldAddr 1)), [(.t 24)], none⟩,
    ⟨(some 26), none, (.l (.load none)), [(.t 25)], none⟩,
    ⟨(some 27), none, (.p .mv), [(.c (.int .i64 (.ofNat 0)))], none⟩])
  (.keep [0, 1, 2, 6, 7, 26, 27] (.block 0
   (.loop
    (.keep [0, 1, 2, 6, 7, 26, 27] (.seq (.reg [⟨(some 28), none, (.p (.bin .lss)), [(.t 27), (.t 26)], none⟩])
    (.keep [0, 1, 2, 6, 7, 26, 27, 28] (.seq (.cond (.t 28)
     .skip
     (.keep [0, 1, 6] (.exit 0)))
    (.keep [0, 1, 2, 6, 7, 26, 27] (.seq (.block 1
     (.seq (.reg [⟨(some 29), none, (.p .mv), [(.t 27)], none⟩,
       ⟨(some 8), none, (.p .mv), [(.t 29)], none⟩])
     (.keep [0, 1, 2, 6, 7, 8, 26, 27] (.seq (.seq (.reg [⟨(some 30), none, (.p .mv), [(.t 8)], none⟩,
       ⟨(some 31), none, (.p (.bin .geq)), [(.t 30), (.c (.int .i64 (.ofNat 16)))], none⟩])
     (.keep [0, 1, 2, 6, 7, 8, 26, 27, 31] (.cond (.t 31)
      (.seq (.draw [⟨(some 32), none, (.p .mv), [(.t 8)], none⟩,
        ⟨(some 33), none, (.p .mv), [(.t 8)], none⟩,
        ⟨(some 34), none, (.p (.bin .sub)), [(.t 33), (.c (.int .i64 (.ofNat 2)))], none⟩,
        ⟨(some 35), none, (.p (.arrIdx 80 1)), [(.t 6), (.t 34)], none⟩,
        ⟨(some 36), none, (.l (.load none)), [(.t 35)], none⟩,
        ⟨(some 37), none, (.p .mv), [(.t 0)], none⟩,
        ⟨(some 38), none, (.p .nilck), [(.t 37)], none⟩,
        ⟨(some 39), none, (.p (.fieldAddr 5)), [(.t 38)], none⟩,
        ⟨(some 40), none, (.l (.load (some 3))), [(.t 39)], none⟩,
        ⟨(some 41), none, (.p .mv), [(.t 0)], none⟩,
        ⟨(some 42), none, (.p .nilck), [(.t 41)], none⟩,
        ⟨(some 43), none, (.p (.fieldAddr 0)), [(.t 42)], none⟩,
        ⟨(some 44), none, (.l (.load none)), [(.t 43)], none⟩,
        ⟨(some 45), none, (.call 35), [(.t 36), (.t 40), (.t 44)], none⟩,
        ⟨(some 46), none, (.p .mv), [(.t 8)], none⟩,
        ⟨(some 47), none, (.p (.bin .sub)), [(.t 46), (.c (.int .i64 (.ofNat 7)))], none⟩,
        ⟨(some 48), none, (.p (.arrIdx 80 1)), [(.t 6), (.t 47)], none⟩,
        ⟨(some 49), none, (.l (.load none)), [(.t 48)], some (0, 2)⟩,
        ⟨(some 50), none, (.p (.bin .add)), [(.t 45), (.t 49)], none⟩,
        ⟨(some 51), none, (.p .mv), [(.t 8)], none⟩,
        ⟨(some 52), none, (.p (.bin .sub)), [(.t 51), (.c (.int .i64 (.ofNat 15)))], none⟩,
        ⟨(some 53), none, (.p (.arrIdx 80 1)), [(.t 6), (.t 52)], none⟩,
        ⟨(some 54), none, (.l (.load none)), [(.t 53)], some (0, 1)⟩,
        ⟨(some 55), none, (.p .mv), [(.t 0)], none⟩,
        ⟨(some 56), none, (.p .nilck), [(.t 55)], none⟩,
        ⟨(some 57), none, (.p (.fieldAddr 2)), [(.t 56)], none⟩,
        ⟨(some 58), none, (.l (.load (some 3))), [(.t 57)], some (0, 1)⟩,
        ⟨(some 59), none, (.p .mv), [(.t 0)], none⟩,
        ⟨(some 60), none, (.p .nilck), [(.t 59)], none⟩,
        ⟨(some 61), none, (.p (.fieldAddr 0)), [(.t 60)], none⟩,
        ⟨(some 62), none, (.l (.load none)), [(.t 61)], some (0, 1)⟩,
        ⟨(some 63), none, (.call 35), [(.t 54), (.t 58), (.t 62)], none⟩,
        ⟨(some 64), none, (.p (.bin .add)), [(.t 50), (.t 63)], none⟩,
        ⟨(some 65), none, (.p .mv), [(.t 8)], none⟩,
        ⟨(some 66), none, (.p (.bin .sub)), [(.t 65), (.c (.int .i64 (.ofNat 16)))], none⟩,
        ⟨(some 67), none, (.p (.arrIdx 80 1)), [(.t 6), (.t 66)], none⟩,
        ⟨(some 68), none, (.l (.load none)), [(.t 67)], some (0, 2)⟩,
        ⟨(some 69), none, (.p (.bin .add)), [(.t 64), (.t 68)], none⟩,
        ⟨(some 70), none, (.p (.arrIdx 80 1)), [(.t 6), (.t 32)], none⟩,
        ⟨none, none, (.e (.store 1)), [(.t 70), (.t 69)], none⟩])
      (.keep [0, 1, 2, 6, 7, 26, 27] (.keep [0, 1, 2, 6, 7, 26, 27] (.exit 1))))
      .skip)))
     (.keep [0, 1, 2, 6, 7, 8, 26, 27] (.seq (.reg [⟨(some 71), none, (.p .mv), [(.t 2)], none⟩,
       ⟨(some 72), none, (.p .mv), [(.t 8)], none⟩,
       ⟨(some 73), none, (.p .mv), [(.t 7)], none⟩,
       ⟨(some 74), none, (.p (.bin .mul)), [(.t 72), (.t 73)], none⟩,
       ⟨(some 75), none, (.p .mv), [(.t 8)], none⟩,
       ⟨(some 76), none, (.p (.bin .add)), [(.t 75), (.c (.int .i64 (.ofNat 1)))], none⟩,
       ⟨(some 77), none, (.p .mv), [(.t 7)], none⟩,
       ⟨(some 78), none, (.p (.bin .mul)), [(.t 76), (.t 77)], none⟩,
       ⟨(some 79), none, (.p (.slSlice 1 true true false)), [(.t 71), (.t 74), (.t 78)], none⟩,
       ⟨(some 80), none, (.p .len), [(.t 79)], none⟩,
       ⟨(some 81), none, (.p .mv), [(.c (.int .i64 (.ofNat 0)))], none⟩])
     (.keep [0, 1, 2, 6, 7, 8, 26, 27, 79, 80, 81] (.block 2
      (.loop
       (.keep [0, 1, 2, 6, 7, 8, 26, 27, 79, 80, 81] (.seq (.reg [⟨(some 82), none, (.p (.bin .lss)), [(.t 81), (.t 80)], none⟩])
       (.keep [0, 1, 2, 6, 7, 8, 26, 27, 79, 80, 81, 82] (.seq (.cond (.t 82)
        .skip
        (.keep [0, 1, 2, 6, 7, 26, 27] (.exit 2)))
       (.keep [0, 1, 2, 6, 7, 8, 26, 27, 79, 80, 81] (.seq (.block 3
        (.seq (.reg [⟨(some 83), none, (.p (.slIdx 1)), [(.t 79), (.t 81)], none⟩,
          ⟨(some 84), none, (.l (.load none)), [(.t 83)], none⟩,
          ⟨(some 10), none, (.p .mv), [(.t 84)], none⟩])
        (.keep [0, 1, 2, 6, 7, 8, 10, 26, 27, 79, 80, 81] (.reg [⟨(some 85), none, (.p .mv), [(.t 8)], none⟩,
          ⟨(some 86), none, (.p .mv), [(.t 8)], none⟩,
          ⟨(some 87), none, (.p (.arrIdx 80 1)), [(.t 6), (.t 86)], none⟩,
          ⟨(some 88), none, (.l (.load none)), [(.t 87)], none⟩,
          ⟨(some 89), none, (.p (.bin .shl)), [(.t 88), (.c (.int .u64 (.ofNat 8)))], none⟩,
          ⟨(some 90), none, (.p .mv), [(.t 10)], none⟩,
          ⟨(some 91), none, (.p (.toInt .u64)), [(.t 90)], none⟩,
          ⟨(some 92), none, (.p (.bin .or)), [(.t 89), (.t 91)], none⟩,
          ⟨(some 93), none, (.p (.arrIdx 80 1)), [(.t 6), (.t 85)], none⟩,
          ⟨none, none, (.e (.store 1)), [(.t 93), (.t 92)], none⟩]))))
       (.keep [0, 1, 2, 6, 7, 8, 26, 27, 79, 80, 81] (.reg [⟨(some 94), none, (.p (.bin .add)), [(.t 81), (.c (.int .i64 (.ofNat 1)))], none⟩,
         ⟨(some 81), none, (.p .mv), [(.t 94)], none⟩])))))))))))))))))
    (.keep [0, 1, 2, 6, 7, 26, 27] (.reg [⟨(some 95), none, (.p (.bin .add)), [(.t 27), (.c (.int .i64 (.ofNat 1)))], none⟩,
      ⟨(some 27), none, (.p .mv), [(.t 95)], none⟩]))))))))))))
  (.keep [0, 1, 6] (.seq (.reg [⟨(some 96), none, (.p .mv), [(.t 1)], none⟩,
    ⟨(some 97), none, (.p .nilck), [(.t 96)], none⟩,
    ⟨(some 98), none, (.l (.load (some 8))), [(.t 97)], none⟩,
    ⟨(some 11), none, (.e (.alloc (repl 8 [(.int .u64 (.ofNat 0))]))), [], none⟩,
    ⟨none, none, (.e (.store 8)), [(.t 11), (.t 98)], none⟩])
  (.keep [0, 1, 6, 11] (.seq (.seq (.reg [⟨(some 99), none, (.p .mv), [(.t 0)], none⟩,
    ⟨(some 100), none, (.p .nilck), [(.t 99)], none⟩,
    ⟨(some 101), none, (.p (.fieldAddr 1)), [(.t 100)], none⟩,
    ⟨(some 102), none, (.l (.load none)), [(.t 101)], none⟩,
    ⟨(some 103), none, (.p .mv), [(.c (.int .i64 (.ofNat 0)))], none⟩])
  (.keep [0, 1, 6, 11, 102, 103] (.block 4
   (.loop
    (.keep [0, 1, 6, 11, 102, 103] (.seq (.reg [⟨(some 104), none, (.p (.bin .lss)), [(.t 103), (.t 102)], none⟩])
    (.keep [0, 1, 6, 11, 102, 103, 104] (.seq (.cond (.t 104)
     .skip
     (.keep [1, 11] (.exit 4)))
    (.keep [0, 1, 6, 11, 102, 103] (.seq (.block 5
     (.seq (.reg [⟨(some 105), none, (.p .mv), [(.t 103)], none⟩,
       ⟨(some 12), none, (.p .mv), [(.t 105)], none⟩])
     (.keep [0, 1, 6, 11, 12, 102, 103] (.seq (.reg [⟨(some 106), none, (.p (.arrIdx 8 1)), [(.t 11), (.c (.int .i64 (.ofNat 4)))], none⟩,
       ⟨(some 107), none, (.l (.load none)), [(.t 106)], none⟩,
       ⟨(some 108), none, (.p (.arrIdx 8 1)), [(.t 11), (.c (.int .i64 (.ofNat 5)))], none⟩,
       ⟨(some 109), none, (.l (.load none)), [(.t 108)], none⟩,
       ⟨(some 110), none, (.p (.bin .and)), [(.t 107), (.t 109)], none⟩,
       ⟨(some 111), none, (.p (.arrIdx 8 1)), [(.t 11), (.c (.int .i64 (.ofNat 4)))], none⟩,
       ⟨(some 112), none, (.l (.load none)), [(.t 111)], none⟩,
       ⟨(some 113), none, (.p (.un .xor)), [(.t 112)], none⟩,
       ⟨(some 114), none, (.p (.arrIdx 8 1)), [(.t 11), (.c (.int .i64 (.ofNat 6)))], none⟩,
       ⟨(some 115), none, (.l (.load none)), [(.t 114)], none⟩,
       ⟨(some 116), none, (.p (.bin .and)), [(.t 113), (.t 115)], none⟩,
       ⟨(some 117), none, (.p (.bin .xor)), [(.t 110), (.t 116)], none⟩,
       ⟨(some 13), none, (.p .mv), [(.t 117)], none⟩])
     (.keep [0, 1, 6, 11, 12, 13, 102, 103] (.seq (.reg [⟨(some 118), none, (.p (.arrIdx 8 1)), [(.t 11), (.c (.int .i64 (.ofNat 0)))], none⟩,
       ⟨(some 119), none, (.l (.load none)), [(.t 118)], none⟩,
       ⟨(some 120), none, (.p (.arrIdx 8 1)), [(.t 11), (.c (.int .i64 (.ofNat 1)))], none⟩,
       ⟨(some 121), none, (.l (.load none)), [(.t 120)], none⟩,
       ⟨(some 122), none, (.p (.bin .and)), [(.t 119), (.t 121)], none⟩,
       ⟨(some 123), none, (.p (.arrIdx 8 1)), [(.t 11), (.c (.int .i64 (.ofNat 0)))], none⟩,
       ⟨(some 124), none, (.l (.load none)), [(.t 123)], none⟩,
       ⟨(some 125), none, (.p (.arrIdx 8 1)), [(.t 11), (.c (.int .i64 (.ofNat 2)))], none⟩,
       ⟨(some 126), none, (.l (.load none)), [(.t 125)], none⟩,
       ⟨(some 127), none, (.p (.bin .and)), [(.t 124), (.t 126)], none⟩,
       ⟨(some 128), none, (.p (.bin .xor)), [(.t 122), (.t 127)], none⟩,
       ⟨(some 129), none, (.p (.arrIdx 8 1)), [(.t 11), (.c (.int .i64 (.ofNat 1)))], none⟩,
       ⟨(some 130), none, (.l (.load none)), [(.t 129)], none⟩,
       ⟨(some 131), none, (.p (.arrIdx 8 1)), [(.t 11), (.c (.int .i64 (.ofNat 2)))], none⟩,
       ⟨(some 132), none, (.l (.load none)), [(.t 131)], none⟩,
       ⟨(some 133), none, (.p (.bin .and)), [(.t 130), (.t 132)], none⟩,
       ⟨(some 134), none, (.p (.bin .xor)), [(.t 128), (.t 133)], none⟩,
       ⟨(some 14), none, (.p .mv), [(.t 134)], none⟩])
     (.keep [0, 1, 6, 11, 12, 13, 14, 102, 103] (.seq (.draw [⟨(some 135), none, (.p (.arrIdx 8 1)), [(.t 11), (.c (.int .i64 (.ofNat 7)))], none⟩,
       ⟨(some 136), none, (.l (.load none)), [(.t 135)], some (0, 1)⟩,
       ⟨(some 137), none, (.p (.arrIdx 8 1)), [(.t 11), (.c (.int .i64 (.ofNat 4)))], none⟩,
       ⟨(some 138), none, (.l (.load none)), [(.t 137)], none⟩,
       ⟨(some 139), none, (.p .mv), [(.t 0)], none⟩,
       ⟨(some 140), none, (.p .nilck), [(.t 139)], none⟩,
       ⟨(some 141), none, (.p (.fieldAddr 11)), [(.t 140)], none⟩,
       ⟨(some 142), none, (.l (.load (some 3))), [(.t 141)], none⟩,
       ⟨(some 143), none, (.p .mv), [(.t 0)], none⟩,
       ⟨(some 144), none, (.p .nilck), [(.t 143)], none⟩,
       ⟨(some 145), none, (.p (.fieldAddr 0)), [(.t 144)], none⟩,
       ⟨(some 146), none, (.l (.load none)), [(.t 145)], none⟩,
       ⟨(some 147), none, (.call 36), [(.t 138), (.t 142), (.t 146)], none⟩,
       ⟨(some 148), none, (.p (.bin .add)), [(.t 136), (.t 147)], none⟩,
       ⟨(some 149), none, (.p .mv), [(.t 13)], none⟩,
       ⟨(some 150), none, (.p (.bin .add)), [(.t 148), (.t 149)], none⟩,
       ⟨(some 151), none, (.p .mv), [(.t 12)], none⟩,
       ⟨(some 152), none, (.p (.arrIdx 80 1)), [(.c (.ptr 5 0)), (.t 151)], none⟩,
       ⟨(some 153), none, (.l (.load none)), [(.t 152)], some (0, 1)⟩,
       ⟨(some 154), none, (.p .mv), [(.t 0)], none⟩,
       ⟨(some 155), none, (.p .nilck), [(.t 154)], none⟩,
       ⟨(some 156), none, (.p (.fieldAddr 0)), [(.t 155)], none⟩,
       ⟨(some 157), none, (.l (.load none)), [(.t 156)], some (0, 1)⟩,
       ⟨(some 158), none, (.p (.bin .sub)), [(.c (.int .i64 (.ofNat 64))), (.t 157)], none⟩,
       ⟨(some 159), none, (.p (.bin .shr)), [(.t 153), (.t 158)], none⟩,
       ⟨(some 160), none, (.p (.bin .add)), [(.t 150), (.t 159)], none⟩,
       ⟨(some 161), none, (.p .mv), [(.t 12)], none⟩,
       ⟨(some 162), none, (.p (.arrIdx 80 1)), [(.t 6), (.t 161)], none⟩,
       ⟨(some 163), none, (.l (.load none)), [(.t 162)], some (0, 1)⟩,
       ⟨(some 164), none, (.p (.bin .add)), [(.t 160), (.t 163)], none⟩,
       ⟨(some 15), none, (.p .mv), [(.t 164)], none⟩])
     (.keep [0, 1, 6, 11, 14, 15, 102, 103] (.seq (.draw [⟨(some 165), none, (.p (.arrIdx 8 1)), [(.t 11), (.c (.int .i64 (.ofNat 0)))], none⟩,
       ⟨(some 166), none, (.l (.load none)), [(.t 165)], none⟩,
       ⟨(some 167), none, (.p .mv), [(.t 0)], none⟩,
       ⟨(some 168), none, (.p .nilck), [(.t 167)], none⟩,
       ⟨(some 169), none, (.p (.fieldAddr 8)), [(.t 168)], none⟩,
       ⟨(some 170), none, (.l (.load (some 3))), [(.t 169)], none⟩,
       ⟨(some 171), none, (.p .mv), [(.t 0)], none⟩,
       ⟨(some 172), none, (.p .nilck), [(.t 171)], none⟩,
       ⟨(some 173), none, (.p (.fieldAddr 0)), [(.t 172)], none⟩,
       ⟨(some 174), none, (.l (.load none)), [(.t 173)], none⟩,
       ⟨(some 175), none, (.call 36), [(.t 166), (.t 170), (.t 174)], none⟩,
       ⟨(some 176), none, (.p .mv), [(.t 14)], none⟩,
       ⟨(some 177), none, (.p (.bin .add)), [(.t 175), (.t 176)], none⟩,
       ⟨(some 16), none, (.p .mv), [(.t 177)], none⟩])
     (.keep [0, 1, 6, 11, 15, 16, 102, 103] (.reg [⟨(some 178), none, (.p .mv), [(.t 15)], none⟩,
       ⟨(some 179), none, (.p .mv), [(.t 16)], none⟩,
       ⟨(some 180), none, (.p (.bin .add)), [(.t 178), (.t 179)], none⟩,
       ⟨(some 181), none, (.p (.arrIdx 8 1)), [(.t 11), (.c (.int .i64 (.ofNat 0)))], none⟩,
       ⟨(some 182), none, (.l (.load none)), [(.t 181)], none⟩,
       ⟨(some 183), none, (.p (.arrIdx 8 1)), [(.t 11), (.c (.int .i64 (.ofNat 1)))], none⟩,
       ⟨(some 184), none, (.l (.load none)), [(.t 183)], none⟩,
       ⟨(some 185), none, (.p (.arrIdx 8 1)), [(.t 11), (.c (.int .i64 (.ofNat 2)))], none⟩,
       ⟨(some 186), none, (.l (.load none)), [(.t 185)], none⟩,
       ⟨(some 187), none, (.p (.arrIdx 8 1)), [(.t 11), (.c (.int .i64 (.ofNat 3)))], none⟩,
       ⟨(some 188), none, (.l (.load none)), [(.t 187)], none⟩,
       ⟨(some 189), none, (.p .mv), [(.t 15)], none⟩,
       ⟨(some 190), none, (.p (.bin .add)), [(.t 188), (.t 189)], none⟩,
       ⟨(some 191), none, (.p (.arrIdx 8 1)), [(.t 11), (.c (.int .i64 (.ofNat 4)))], none⟩,
       ⟨(some 192), none, (.l (.load none)), [(.t 191)], none⟩,
       ⟨(some 193), none, (.p (.arrIdx 8 1)), [(.t 11), (.c (.int .i64 (.ofNat 5)))], none⟩,
       ⟨(some 194), none, (.l (.load none)), [(.t 193)], none⟩,
       ⟨(some 195), none, (.p (.arrIdx 8 1)), [(.t 11), (.c (.int .i64 (.ofNat 6)))], none⟩,
       ⟨(some 196), none, (.l (.load none)), [(.t 195)], none⟩,
       ⟨(some 197), none, (.p (.build (repl 8 [(.int .u64 (.ofNat 0))]) [(0, 1), (1, 1), (2, 1), (3, 1), (4, 1), (5, 1), (6, 1), (7, 1)])), [(.t 180), (.t 182), (.t 184), (.t 186), (.t 190), (.t 192), (.t 194), (.t 196)], none⟩,
       ⟨none, none, (.e (.store 8)), [(.t 11), (.t 197)], none⟩]))))))))))))
    (.keep [0, 1, 6, 11, 102, 103] (.reg [⟨(some 198), none, (.p (.bin .add)), [(.t 103), (.c (.int .i64 (.ofNat 1)))], none⟩,
      ⟨(some 103), none, (.p .mv), [(.t 198)], none⟩]))))))))))))
  (.keep [1, 11] (.seq (.reg [⟨(some 199), none, (.p .mv), [(.c (.int .i64 (.ofNat 0)))], none⟩])
  (.keep [1, 11, 199] (.block 6
   (.loop
    (.keep [1, 11, 199] (.seq (.reg [⟨(some 200), none, (.p (.bin .lss)), [(.t 199), (.c (.int .i64 (.ofNat 8)))], none⟩])
    (.keep [1, 11, 199, 200] (.seq (.cond (.t 200)
     .skip
     (.keep [] (.exit 6)))
    (.keep [1, 11, 199] (.seq (.block 7
     (.seq (.reg [⟨(some 201), none, (.p .mv), [(.t 199)], none⟩,
       ⟨(some 17), none, (.p .mv), [(.t 201)], none⟩])
     (.keep [1, 11, 17, 199] (.draw [⟨(some 202), none, (.p .mv), [(.t 1)], none⟩,
       ⟨(some 203), none, (.p .mv), [(.t 17)], none⟩,
       ⟨(some 204), none, (.p .nilck), [(.t 202)], none⟩,
       ⟨(some 205), none, (.p (.arrIdx 8 1)), [(.t 204), (.t 203)], none⟩,
       ⟨(some 206), none, (.l (.load none)), [(.t 205)], none⟩,
       ⟨(some 207), none, (.p .mv), [(.t 17)], none⟩,
       ⟨(some 208), none, (.p (.arrIdx 8 1)), [(.t 11), (.t 207)], none⟩,
       ⟨(some 209), none, (.l (.load none)), [(.t 208)], none⟩,
       ⟨(some 210), none, (.p (.bin .add)), [(.t 206), (.t 209)], none⟩,
       ⟨(some 211), none, (.p .nilck), [(.t 202)], none⟩,
       ⟨(some 212), none, (.p (.arrIdx 8 1)), [(.t 211), (.t 203)], none⟩,
       ⟨none, none, (.e (.store 1)), [(.t 212), (.t 210)], none⟩]))))
    (.keep [1, 11, 199] (.reg [⟨(some 213), none, (.p (.bin .add)), [(.t 199), (.c (.int .i64 (.ofNat 1)))], none⟩,
      ⟨(some 199), none, (.p .mv), [(.t 213)], none⟩])))))))))))))))))))))),
  []⟩
def s29_l2 (call : CallK) (N : Nat) (st : St) (τ : Tape) (k : KC) : Ans :=
  match st with
  | ⟨fr, H⟩ =>
  getK fr 1 fun t1 =>
  getK fr 11 fun t11 =>
  getK fr 199 fun t199 =>
  binK .lss t199 (.int .i64 (.ofNat 8)) fun v21 =>
  condK v21
    (someK (pNilck [t1]) fun v22 =>
  someK (pArrIdx 8 1 [v22, t199]) fun v23 =>
  someK (lLoad1 [v23] H) fun v24 =>
  someK (pArrIdx 8 1 [t11, t199]) fun v25 =>
  someK (lLoad1 [v25] H) fun v26 =>
  binK .add v24 v26 fun v27 =>
  someK (pNilck [t1]) fun v28 =>
  someK (pArrIdx 8 1 [v28, t199]) fun v29 =>
  effK (eStore 1 [v29, v27] H τ) fun v30 H31 τ32 =>
  binK .add t199 (.int .i64 (.ofNat 1)) fun v33 =>
  k .normal ⟨(T.set (T.set (T.set (T.set (T.set .leaf 1 t1) 11 t11) 199 t199) 213 v33) 199 v33), H31⟩ τ32)
    (k (.exit 6) ⟨.leaf, H⟩ τ)
def s29_j1 (call : CallK) (N : Nat) (q : KV) (st : St) (τ : Tape) : Ans :=
  match st with
  | ⟨fr, H⟩ =>
  getK fr 1 fun t1 =>
  getK fr 11 fun t11 =>
  loopK (s29_l2 call N) N ⟨(T.set (T.set (T.set .leaf 1 t1) 11 t11) 199 (.int .i64 (.ofNat 0))), H⟩ τ (blockK 6 (endK [] q))
def s29_l3 (call : CallK) (N : Nat) (st : St) (τ : Tape) (k : KC) : Ans :=
  match st with
  | ⟨fr, H⟩ =>
  getK fr 0 fun t0 =>
  getK fr 1 fun t1 =>
  getK fr 6 fun t6 =>
  getK fr 11 fun t11 =>
  getK fr 102 fun t102 =>
  getK fr 103 fun t103 =>
  binK .lss t103 t102 fun v34 =>
  condK v34
    (someK (pArrIdx 8 1 [t11, (.int .i64 (.ofNat 4))]) fun v35 =>
  someK (lLoad1 [v35] H) fun v36 =>
  someK (pArrIdx 8 1 [t11, (.int .i64 (.ofNat 5))]) fun v37 =>
  someK (lLoad1 [v37] H) fun v38 =>
  binK .and v36 v38 fun v39 =>
  someK (pArrIdx 8 1 [t11, (.int .i64 (.ofNat 4))]) fun v40 =>
  someK (lLoad1 [v40] H) fun v41 =>
  unK .xor v41 fun v42 =>
  someK (pArrIdx 8 1 [t11, (.int .i64 (.ofNat 6))]) fun v43 =>
  someK (lLoad1 [v43] H) fun v44 =>
  binK .and v42 v44 fun v45 =>
  binK .xor v39 v45 fun v46 =>
  someK (pArrIdx 8 1 [t11, (.int .i64 (.ofNat 0))]) fun v47 =>
  someK (lLoad1 [v47] H) fun v48 =>
  someK (pArrIdx 8 1 [t11, (.int .i64 (.ofNat 1))]) fun v49 =>
  someK (lLoad1 [v49] H) fun v50 =>
  binK .and v48 v50 fun v51 =>
  someK (pArrIdx 8 1 [t11, (.int .i64 (.ofNat 0))]) fun v52 =>
  someK (lLoad1 [v52] H) fun v53 =>
  someK (pArrIdx 8 1 [t11, (.int .i64 (.ofNat 2))]) fun v54 =>
  someK (lLoad1 [v54] H) fun v55 =>
  binK .and v53 v55 fun v56 =>
  binK .xor v51 v56 fun v57 =>
  someK (pArrIdx 8 1 [t11, (.int .i64 (.ofNat 1))]) fun v58 =>
  someK (lLoad1 [v58] H) fun v59 =>
  someK (pArrIdx 8 1 [t11, (.int .i64 (.ofNat 2))]) fun v60 =>
  someK (lLoad1 [v60] H) fun v61 =>
  binK .and v59 v61 fun v62 =>
  binK .xor v57 v62 fun v63 =>
  someK (pArrIdx 8 1 [t11, (.int .i64 (.ofNat 7))]) fun v64 =>
  someK (lLoad1 [v64] H) fun v65 =>
  someK (pArrIdx 8 1 [t11, (.int .i64 (.ofNat 4))]) fun v66 =>
  someK (lLoad1 [v66] H) fun v67 =>
  someK (pNilck [t0]) fun v68 =>
  someK (pFieldAddr 11 [v68]) fun v69 =>
  someK (lLoadN 3 [v69] H) fun v70 =>
  someK (pNilck [t0]) fun v71 =>
  someK (pFieldAddr 0 [v71]) fun v72 =>
  someK (lLoad1 [v72] H) fun v73 =>
  call 36 [v67, v70, v73] H τ fun v74 H75 τ76 =>
  binK .add v65 v74 fun v77 =>
  binK .add v77 v46 fun v78 =>
  someK (pArrIdx 80 1 [(.ptr 5 0), t103]) fun v79 =>
  someK (lLoad1 [v79] H75) fun v80 =>
  someK (pNilck [t0]) fun v81 =>
  someK (pFieldAddr 0 [v81]) fun v82 =>
  someK (lLoad1 [v82] H75) fun v83 =>
  binK .sub (.int .i64 (.ofNat 64)) v83 fun v84 =>
  binK .shr v80 v84 fun v85 =>
  binK .add v78 v85 fun v86 =>
  someK (pArrIdx 80 1 [t6, t103]) fun v87 =>
  someK (lLoad1 [v87] H75) fun v88 =>
  binK .add v86 v88 fun v89 =>
  bif chkLoads [H, H75] [((.load none), [v87], 0, 1), ((.load none), [v82], 0, 1), ((.load none), [v79], 0, 1), ((.load none), [v64], 0, 1)] then
  someK (pArrIdx 8 1 [t11, (.int .i64 (.ofNat 0))]) fun v90 =>
  someK (lLoad1 [v90] H75) fun v91 =>
  someK (pNilck [t0]) fun v92 =>
  someK (pFieldAddr 8 [v92]) fun v93 =>
  someK (lLoadN 3 [v93] H75) fun v94 =>
  someK (pNilck [t0]) fun v95 =>
  someK (pFieldAddr 0 [v95]) fun v96 =>
  someK (lLoad1 [v96] H75) fun v97 =>
  call 36 [v91, v94, v97] H75 τ76 fun v98 H99 τ100 =>
  binK .add v98 v63 fun v101 =>
  binK .add v89 v101 fun v102 =>
  someK (pArrIdx 8 1 [t11, (.int .i64 (.ofNat 0))]) fun v103 =>
  someK (lLoad1 [v103] H99) fun v104 =>
  someK (pArrIdx 8 1 [t11, (.int .i64 (.ofNat 1))]) fun v105 =>
  someK (lLoad1 [v105] H99) fun v106 =>
  someK (pArrIdx 8 1 [t11, (.int .i64 (.ofNat 2))]) fun v107 =>
  someK (lLoad1 [v107] H99) fun v108 =>
  someK (pArrIdx 8 1 [t11, (.int .i64 (.ofNat 3))]) fun v109 =>
  someK (lLoad1 [v109] H99) fun v110 =>
  binK .add v110 v89 fun v111 =>
  someK (pArrIdx 8 1 [t11, (.int .i64 (.ofNat 4))]) fun v112 =>
  someK (lLoad1 [v112] H99) fun v113 =>
  someK (pArrIdx 8 1 [t11, (.int .i64 (.ofNat 5))]) fun v114 =>
  someK (lLoad1 [v114] H99) fun v115 =>
  someK (pArrIdx 8 1 [t11, (.int .i64 (.ofNat 6))]) fun v116 =>
  someK (lLoad1 [v116] H99) fun v117 =>
  someK (pBuild (repl 8 [(.int .u64 (.ofNat 0))]) [(0, 1), (1, 1), (2, 1), (3, 1), (4, 1), (5, 1), (6, 1), (7, 1)] [v102, v104, v106, v108, v111, v113, v115, v117]) fun v118 =>
  effK (eStore 8 [t11, v118] H99 τ100) fun v119 H120 τ121 =>
  binK .add t103 (.int .i64 (.ofNat 1)) fun v122 =>
  k .normal ⟨(T.set (T.set (T.set (T.set (T.set (T.set (T.set (T.set .leaf 0 t0) 1 t1) 6 t6) 11 t11) 102 t102) 103 t103) 198 v122) 103 v122), H120⟩ τ121
  else none)
    (k (.exit 4) ⟨(T.set (T.set .leaf 1 t1) 11 t11), H⟩ τ)
def s29_j0 (call : CallK) (N : Nat) (q : KV) (st : St) (τ : Tape) : Ans :=
  match st with
  | ⟨fr, H⟩ =>
  getK fr 0 fun t0 =>
  getK fr 1 fun t1 =>
  getK fr 6 fun t6 =>
  someK (pNilck [t1]) fun v10 =>
  someK (lLoadN 8 [v10] H) fun v11 =>
  effK (eAlloc (repl 8 [(.int .u64 (.ofNat 0))]) [] H τ) fun v12 H13 τ14 =>
  effK (eStore 8 [v12, v11] H13 τ14) fun v15 H16 τ17 =>
  someK (pNilck [t0]) fun v18 =>
  someK (pFieldAddr 1 [v18]) fun v19 =>
  someK (lLoad1 [v19] H16) fun v20 =>
  loopK (s29_l3 call N) N ⟨(T.set (T.set (T.set (T.set (T.set (T.set .leaf 0 t0) 1 t1) 6 t6) 11 v12) 102 v20) 103 (.int .i64 (.ofNat 0))), H16⟩ τ17 (blockK 4 (seqK (s29_j1 call N q) (endK [] q)))
def s29_j5 (call : CallK) (N : Nat) (k : KC) (st : St) (τ : Tape) : Ans :=
  match st with
  | ⟨fr, H⟩ =>
  getK fr 0 fun t0 =>
  getK fr 1 fun t1 =>
  getK fr 2 fun t2 =>
  getK fr 6 fun t6 =>
  getK fr 7 fun t7 =>
  getK fr 26 fun t26 =>
  getK fr 27 fun t27 =>
  binK .add t27 (.int .i64 (.ofNat 1)) fun v124 =>
  k .normal ⟨(T.set (T.set (T.set (T.set (T.set (T.set (T.set (T.set (T.set .leaf 0 t0) 1 t1) 2 t2) 6 t6) 7 t7) 26 t26) 27 t27) 95 v124) 27 v124), H⟩ τ
def s29_l6 (call : CallK) (N : Nat) (st : St) (τ : Tape) (k : KC) : Ans :=
  match st with
  | ⟨fr, H⟩ =>
  getK fr 0 fun t0 =>
  getK fr 1 fun t1 =>
  getK fr 2 fun t2 =>
  getK fr 6 fun t6 =>
  getK fr 7 fun t7 =>
  getK fr 8 fun t8 =>
  getK fr 26 fun t26 =>
  getK fr 27 fun t27 =>
  getK fr 79 fun t79 =>
  getK fr 80 fun t80 =>
  getK fr 81 fun t81 =>
  binK .lss t81 t80 fun v168 =>
  condK v168
    (someK (pSlIdx 1 [t79, t81]) fun v169 =>
  someK (lLoad1 [v169] H) fun v170 =>
  someK (pArrIdx 80 1 [t6, t8]) fun v171 =>
  someK (lLoad1 [v171] H) fun v172 =>
  binK .shl v172 (.int .u64 (.ofNat 8)) fun v173 =>
  toIntK .u64 v170 fun v174 =>
  binK .or v173 v174 fun v175 =>
  someK (pArrIdx 80 1 [t6, t8]) fun v176 =>
  effK (eStore 1 [v176, v175] H τ) fun v177 H178 τ179 =>
  binK .add t81 (.int .i64 (.ofNat 1)) fun v180 =>
  k .normal ⟨(T.set (T.set (T.set (T.set (T.set (T.set (T.set (T.set (T.set (T.set (T.set (T.set (T.set .leaf 0 t0) 1 t1) 2 t2) 6 t6) 7 t7) 8 t8) 26 t26) 27 t27) 79 t79) 80 t80) 81 t81) 94 v180) 81 v180), H178⟩ τ179)
    (k (.exit 2) ⟨(T.set (T.set (T.set (T.set (T.set (T.set (T.set .leaf 0 t0) 1 t1) 2 t2) 6 t6) 7 t7) 26 t26) 27 t27), H⟩ τ)
def s29_l4 (call : CallK) (N : Nat) (st : St) (τ : Tape) (k : KC) : Ans :=
  match st with
  | ⟨fr, H⟩ =>
  getK fr 0 fun t0 =>
  getK fr 1 fun t1 =>
  getK fr 2 fun t2 =>
  getK fr 6 fun t6 =>
  getK fr 7 fun t7 =>
  getK fr 26 fun t26 =>
  getK fr 27 fun t27 =>
  binK .lss t27 t26 fun v123 =>
  condK v123
    (binK .geq t27 (.int .i64 (.ofNat 16)) fun v125 =>
  condK v125
    (binK .sub t27 (.int .i64 (.ofNat 2)) fun v126 =>
  someK (pArrIdx 80 1 [t6, v126]) fun v127 =>
  someK (lLoad1 [v127] H) fun v128 =>
  someK (pNilck [t0]) fun v129 =>
  someK (pFieldAddr 5 [v129]) fun v130 =>
  someK (lLoadN 3 [v130] H) fun v131 =>
  someK (pNilck [t0]) fun v132 =>
  someK (pFieldAddr 0 [v132]) fun v133 =>
  someK (lLoad1 [v133] H) fun v134 =>
  call 35 [v128, v131, v134] H τ fun v135 H136 τ137 =>
  binK .sub t27 (.int .i64 (.ofNat 7)) fun v138 =>
  someK (pArrIdx 80 1 [t6, v138]) fun v139 =>
  someK (lLoad1 [v139] H136) fun v140 =>
  binK .add v135 v140 fun v141 =>
  binK .sub t27 (.int .i64 (.ofNat 15)) fun v142 =>
  someK (pArrIdx 80 1 [t6, v142]) fun v143 =>
  someK (lLoad1 [v143] H136) fun v144 =>
  someK (pNilck [t0]) fun v145 =>
  someK (pFieldAddr 2 [v145]) fun v146 =>
  someK (lLoadN 3 [v146] H136) fun v147 =>
  someK (pNilck [t0]) fun v148 =>
  someK (pFieldAddr 0 [v148]) fun v149 =>
  someK (lLoad1 [v149] H136) fun v150 =>
  call 35 [v144, v147, v150] H136 τ137 fun v151 H152 τ153 =>
  binK .add v141 v151 fun v154 =>
  binK .sub t27 (.int .i64 (.ofNat 16)) fun v155 =>
  someK (pArrIdx 80 1 [t6, v155]) fun v156 =>
  someK (lLoad1 [v156] H152) fun v157 =>
  binK .add v154 v157 fun v158 =>
  someK (pArrIdx 80 1 [t6, t27]) fun v159 =>
  effK (eStore 1 [v159, v158] H152 τ153) fun v160 H161 τ162 =>
  bif chkLoads [H, H136, H152, H161] [((.load none), [v156], 0, 2), ((.load none), [v149], 0, 1), ((.load (some 3)), [v146], 0, 1), ((.load none), [v143], 0, 1), ((.load none), [v139], 0, 2)] then
  s29_j5 call N k ⟨(T.set (T.set (T.set (T.set (T.set (T.set (T.set .leaf 0 t0) 1 t1) 2 t2) 6 t6) 7 t7) 26 t26) 27 t27), H161⟩ τ162
  else none)
    (binK .mul t27 t7 fun v163 =>
  binK .add t27 (.int .i64 (.ofNat 1)) fun v164 =>
  binK .mul v164 t7 fun v165 =>
  someK (pSlSlice 1 true true false [t2, v163, v165]) fun v166 =>
  someK (pLen [v166]) fun v167 =>
  loopK (s29_l6 call N) N ⟨(T.set (T.set (T.set (T.set (T.set (T.set (T.set (T.set (T.set (T.set (T.set .leaf 0 t0) 1 t1) 2 t2) 6 t6) 7 t7) 8 t27) 26 t26) 27 t27) 79 v166) 80 v167) 81 (.int .i64 (.ofNat 0))), H⟩ τ (blockK 2 (blockK 1 (seqK (s29_j5 call N k) k)))))
    (k (.exit 0) ⟨(T.set (T.set (T.set .leaf 0 t0) 1 t1) 6 t6), H⟩ τ)
def s29 (call : CallK) (N : Nat) (a0 a1 a2 : V) (H : Heap) (τ : Tape) (q : KV) : Ans :=
  effK (eAlloc (repl 80 [(.int .u64 (.ofNat 0))]) [] H τ) fun v0 H1 τ2 =>
  someK (pNilck [a0]) fun v3 =>
  someK (pFieldAddr 0 [v3]) fun v4 =>
  someK (lLoad1 [v4] H1) fun v5 =>
  binK .quo v5 (.int .i64 (.ofNat 8)) fun v6 =>
  someK (pNilck [a0]) fun v7 =>
  someK (pFieldAddr 1 [v7]) fun v8 =>
  someK (lLoad1 [v8] H1) fun v9 =>
  loopK (s29_l4 call N) N ⟨(T.set (T.set (T.set (T.set (T.set (T.set (T.set .leaf 0 a0) 1 a1) 2 a2) 6 v0) 7 v6) 26 v9) 27 (.int .i64 (.ofNat 0))), H1⟩ τ2 (blockK 0 (seqK (s29_j0 call N q) (endK [] q)))
theorem s29_eq (call : CallK) (N : Nat) (a0 a1 a2 : V) (H : Heap) (τ : Tape) (q : KV) : s29 call N a0 a1 a2 H τ q = funK call N fn29 [a0, a1, a2] H τ q := by kernel_rfl
def e29 (call : CallK) (N : Nat) (vs : List V) (H : Heap) (τ : Tape) (q : KV) : Ans := match vs with | [a0, a1, a2] => s29 call N a0 a1 a2 H τ q | _ => none
theorem e29_ok : EntOk fn29 e29 := by
  intro call N vs H τ q r h
  unfold e29 at h
  split at h
  · rw [s29_eq] at h; exact h
  · cases h
/-- ostiary/digest.little[uint32] -/
def fn33 : Fun := ⟨3,
  (.seq (.reg [⟨(some 4), none, (.e .box), [(.t 1)], none⟩,
    ⟨(some 6), none, (.p .mv), [(.c (.int .u32 (.ofNat 0)))], none⟩])
  (.keep [0, 2, 4] (.seq (.draw [⟨(some 7), none, (.p .mv), [(.t 0)], none⟩,
    ⟨(some 8), none, (.p (.arrIdx 3 1)), [(.t 4), (.c (.int .i64 (.ofNat 0)))], none⟩,
    ⟨(some 9), none, (.l (.load none)), [(.t 8)], none⟩,
    ⟨(some 10), none, (.p .mv), [(.t 2)], none⟩,
    ⟨(some 11), none, (.call 39), [(.t 7), (.t 9), (.t 10)], none⟩,
    ⟨(some 12), none, (.p .mv), [(.t 0)], none⟩,
    ⟨(some 13), none, (.p (.arrIdx 3 1)), [(.t 4), (.c (.int .i64 (.ofNat 1)))], none⟩,
    ⟨(some 14), none, (.l (.load none)), [(.t 13)], some (0, 1)⟩,
    ⟨(some 15), none, (.p .mv), [(.t 2)], none⟩,
    ⟨(some 16), none, (.call 39), [(.t 12), (.t 14), (.t 15)], none⟩,
    ⟨(some 17), none, (.p (.bin .xor)), [(.t 11), (.t 16)], none⟩,
    ⟨(some 18), none, (.p .mv), [(.t 0)], none⟩,
    ⟨(some 19), none, (.p (.arrIdx 3 1)), [(.t 4), (.c (.int .i64 (.ofNat 2)))], none⟩,
    ⟨(some 20), none, (.l (.load none)), [(.t 19)], some (0, 2)⟩,
    ⟨(some 21), none, (.p (.bin .shr)), [(.t 18), (.t 20)], none⟩,
    ⟨(some 22), none, (.p (.bin .xor)), [(.t 17), (.t 21)], none⟩,
    ⟨(some 6), none, (.p .mv), [(.t 22)], none⟩])
  (.keep [6] (.keep [6] .ret))))),
  [(.t 6)]⟩
def s33 (call : CallK) (N : Nat) (a0 a1 a2 : V) (H : Heap) (τ : Tape) (q : KV) : Ans :=
  effK (eBox [a1] H τ) fun v0 H1 τ2 =>
  someK (pArrIdx 3 1 [v0, (.int .i64 (.ofNat 0))]) fun v3 =>
  someK (lLoad1 [v3] H1) fun v4 =>
  call 39 [a0, v4, a2] H1 τ2 fun v5 H6 τ7 =>
  someK (pArrIdx 3 1 [v0, (.int .i64 (.ofNat 1))]) fun v8 =>
  someK (lLoad1 [v8] H6) fun v9 =>
  call 39 [a0, v9, a2] H6 τ7 fun v10 H11 τ12 =>
  binK .xor v5 v10 fun v13 =>
  someK (pArrIdx 3 1 [v0, (.int .i64 (.ofNat 2))]) fun v14 =>
  someK (lLoad1 [v14] H11) fun v15 =>
  binK .shr a0 v15 fun v16 =>
  binK .xor v13 v16 fun v17 =>
  bif chkLoads [H1, H6, H11] [((.load none), [v14], 0, 2), ((.load none), [v8], 0, 1)] then
  q v17 H11 τ12
  else none
theorem s33_eq (call : CallK) (N : Nat) (a0 a1 a2 : V) (H : Heap) (τ : Tape) (q : KV) : s33 call N a0 a1 a2 H τ q = funK call N fn33 [a0, a1, a2] H τ q := by kernel_rfl
def e33 (call : CallK) (N : Nat) (vs : List V) (H : Heap) (τ : Tape) (q : KV) : Ans := match vs with | [a0, a1, a2] => s33 call N a0 a1 a2 H τ q | _ => none
theorem e33_ok : EntOk fn33 e33 := by
  intro call N vs H τ q r h
  unfold e33 at h
  split at h
  · rw [s33_eq] at h; exact h
  · cases h
/-- ostiary/digest.big[uint32] -/
def fn34 : Fun := ⟨3,
  (.seq (.reg [⟨(some 4), none, (.e .box), [(.t 1)], none⟩,
    ⟨(some 6), none, (.p .mv), [(.c (.int .u32 (.ofNat 0)))], none⟩])
  (.keep [0, 2, 4] (.seq (.draw [⟨(some 7), none, (.p .mv), [(.t 0)], none⟩,
    ⟨(some 8), none, (.p (.arrIdx 3 1)), [(.t 4), (.c (.int .i64 (.ofNat 0)))], none⟩,
    ⟨(some 9), none, (.l (.load none)), [(.t 8)], none⟩,
    ⟨(some 10), none, (.p .mv), [(.t 2)], none⟩,
    ⟨(some 11), none, (.call 39), [(.t 7), (.t 9), (.t 10)], none⟩,
    ⟨(some 12), none, (.p .mv), [(.t 0)], none⟩,
    ⟨(some 13), none, (.p (.arrIdx 3 1)), [(.t 4), (.c (.int .i64 (.ofNat 1)))], none⟩,
    ⟨(some 14), none, (.l (.load none)), [(.t 13)], some (0, 1)⟩,
    ⟨(some 15), none, (.p .mv), [(.t 2)], none⟩,
    ⟨(some 16), none, (.call 39), [(.t 12), (.t 14), (.t 15)], none⟩,
    ⟨(some 17), none, (.p (.bin .xor)), [(.t 11), (.t 16)], none⟩,
    ⟨(some 18), none, (.p .mv), [(.t 0)], none⟩,
    ⟨(some 19), none, (.p (.arrIdx 3 1)), [(.t 4), (.c (.int .i64 (.ofNat 2)))], none⟩,
    ⟨(some 20), none, (.l (.load none)), [(.t 19)], some (0, 2)⟩,
    ⟨(some 21), none, (.p .mv), [(.t 2)], none⟩,
    ⟨(some 22), none, (.call 39), [(.t 18), (.t 20), (.t 21)], none⟩,
    ⟨(some 23), none, (.p (.bin .xor)), [(.t 17), (.t 22)], none⟩,
    ⟨(some 6), none, (.p .mv), [(.t 23)], none⟩])
  (.keep [6] (.keep [6] .ret))))),
  [(.t 6)]⟩
def s34 (call : CallK) (N : Nat) (a0 a1 a2 : V) (H : Heap) (τ : Tape) (q : KV) : Ans :=
  effK (eBox [a1] H τ) fun v0 H1 τ2 =>
  someK (pArrIdx 3 1 [v0, (.int .i64 (.ofNat 0))]) fun v3 =>
  someK (lLoad1 [v3] H1) fun v4 =>
  call 39 [a0, v4, a2] H1 τ2 fun v5 H6 τ7 =>
  someK (pArrIdx 3 1 [v0, (.int .i64 (.ofNat 1))]) fun v8 =>
  someK (lLoad1 [v8] H6) fun v9 =>
  call 39 [a0, v9, a2] H6 τ7 fun v10 H11 τ12 =>
  binK .xor v5 v10 fun v13 =>
  someK (pArrIdx 3 1 [v0, (.int .i64 (.ofNat 2))]) fun v14 =>
  someK (lLoad1 [v14] H11) fun v15 =>
  call 39 [a0, v15, a2] H11 τ12 fun v16 H17 τ18 =>
  binK .xor v13 v16 fun v19 =>
  bif chkLoads [H1, H6, H11, H17] [((.load none), [v14], 0, 2), ((.load none), [v8], 0, 1)] then
  q v19 H17 τ18
  else none
theorem s34_eq (call : CallK) (N : Nat) (a0 a1 a2 : V) (H : Heap) (τ : Tape) (q : KV) : s34 call N a0 a1 a2 H τ q = funK call N fn34 [a0, a1, a2] H τ q := by kernel_rfl
def e34 (call : CallK) (N : Nat) (vs : List V) (H : Heap) (τ : Tape) (q : KV) : Ans := match vs with | [a0, a1, a2] => s34 call N a0 a1 a2 H τ q | _ => none
theorem e34_ok : EntOk fn34 e34 := by
  intro call N vs H τ q r h
  unfold e34 at h
  split at h
  · rw [s34_eq] at h; exact h
  · cases h
/-- ostiary/digest.little[uint64] -/
def fn35 : Fun := ⟨3,
  (.seq (.reg [⟨(some 4), none, (.e .box), [(.t 1)], none⟩,
    ⟨(some 6), none, (.p .mv), [(.c (.int .u64 (.ofNat 0)))], none⟩])
  (.keep [0, 2, 4] (.seq (.draw [⟨(some 7), none, (.p .mv), [(.t 0)], none⟩,
    ⟨(some 8), none, (.p (.arrIdx 3 1)), [(.t 4), (.c (.int .i64 (.ofNat 0)))], none⟩,
    ⟨(some 9), none, (.l (.load none)), [(.t 8)], none⟩,
    ⟨(some 10), none, (.p .mv), [(.t 2)], none⟩,
    ⟨(some 11), none, (.call 40), [(.t 7), (.t 9), (.t 10)], none⟩,
    ⟨(some 12), none, (.p .mv), [(.t 0)], none⟩,
    ⟨(some 13), none, (.p (.arrIdx 3 1)), [(.t 4), (.c (.int .i64 (.ofNat 1)))], none⟩,
    ⟨(some 14), none, (.l (.load none)), [(.t 13)], some (0, 1)⟩,
    ⟨(some 15), none, (.p .mv), [(.t 2)], none⟩,
    ⟨(some 16), none, (.call 40), [(.t 12), (.t 14), (.t 15)], none⟩,
    ⟨(some 17), none, (.p (.bin .xor)), [(.t 11), (.t 16)], none⟩,
    ⟨(some 18), none, (.p .mv), [(.t 0)], none⟩,
    ⟨(some 19), none, (.p (.arrIdx 3 1)), [(.t 4), (.c (.int .i64 (.ofNat 2)))], none⟩,
    ⟨(some 20), none, (.l (.load none)), [(.t 19)], some (0, 2)⟩,
    ⟨(some 21), none, (.p (.bin .shr)), [(.t 18), (.t 20)], none⟩,
    ⟨(some 22), none, (.p (.bin .xor)), [(.t 17), (.t 21)], none⟩,
    ⟨(some 6), none, (.p .mv), [(.t 22)], none⟩])
  (.keep [6] (.keep [6] .ret))))),
  [(.t 6)]⟩
def s35 (call : CallK) (N : Nat) (a0 a1 a2 : V) (H : Heap) (τ : Tape) (q : KV) : Ans :=
  effK (eBox [a1] H τ) fun v0 H1 τ2 =>
  someK (pArrIdx 3 1 [v0, (.int .i64 (.ofNat 0))]) fun v3 =>
  someK (lLoad1 [v3] H1) fun v4 =>
  call 40 [a0, v4, a2] H1 τ2 fun v5 H6 τ7 =>
  someK (pArrIdx 3 1 [v0, (.int .i64 (.ofNat 1))]) fun v8 =>
  someK (lLoad1 [v8] H6) fun v9 =>
  call 40 [a0, v9, a2] H6 τ7 fun v10 H11 τ12 =>
  binK .xor v5 v10 fun v13 =>
  someK (pArrIdx 3 1 [v0, (.int .i64 (.ofNat 2))]) fun v14 =>
  someK (lLoad1 [v14] H11) fun v15 =>
  binK .shr a0 v15 fun v16 =>
  binK .xor v13 v16 fun v17 =>
  bif chkLoads [H1, H6, H11] [((.load none), [v14], 0, 2), ((.load none), [v8], 0, 1)] then
  q v17 H11 τ12
  else none
theorem s35_eq (call : CallK) (N : Nat) (a0 a1 a2 : V) (H : Heap) (τ : Tape) (q : KV) : s35 call N a0 a1 a2 H τ q = funK call N fn35 [a0, a1, a2] H τ q := by kernel_rfl
def e35 (call : CallK) (N : Nat) (vs : List V) (H : Heap) (τ : Tape) (q : KV) : Ans := match vs with | [a0, a1, a2] => s35 call N a0 a1 a2 H τ q | _ => none
theorem e35_ok : EntOk fn35 e35 := by
  intro call N vs H τ q r h
  unfold e35 at h
  split at h
  · rw [s35_eq] at h; exact h
  · cases h
/-- ostiary/digest.big[uint64] -/
def fn36 : Fun := ⟨3,
  (.seq (.reg [⟨(some 4), none, (.e .box), [(.t 1)], none⟩,
    ⟨(some 6), none, (.p .mv), [(.c (.int .u64 (.ofNat 0)))], none⟩])
  (.keep [0, 2, 4] (.seq (.draw [⟨(some 7), none, (.p .mv), [(.t 0)], none⟩,
    ⟨(some 8), none, (.p (.arrIdx 3 1)), [(.t 4), (.c (.int .i64 (.ofNat 0)))], none⟩,
    ⟨(some 9), none, (.l (.load none)), [(.t 8)], none⟩,
    ⟨(some 10), none, (.p .mv), [(.t 2)], none⟩,
    ⟨(some 11), none, (.call 40), [(.t 7), (.t 9), (.t 10)], none⟩,
    ⟨(some 12), none, (.p .mv), [(.t 0)], none⟩,
    ⟨(some 13), none, (.p (.arrIdx 3 1)), [(.t 4), (.c (.int .i64 (.ofNat 1)))], none⟩,
    ⟨(some 14), none, (.l (.load none)), [(.t 13)], some (0, 1)⟩,
    ⟨(some 15), none, (.p .mv), [(.t 2)], none⟩,
    ⟨(some 16), none, (.call 40), [(.t 12), (.t 14), (.t 15)], none⟩,
    ⟨(some 17), none, (.p (.bin .xor)), [(.t 11), (.t 16)], none⟩,
    ⟨(some 18), none, (.p .mv), [(.t 0)], none⟩,
    ⟨(some 19), none, (.p (.arrIdx 3 1)), [(.t 4), (.c (.int .i64 (.ofNat 2)))], none⟩,
    ⟨(some 20), none, (.l (.load none)), [(.t 19)], some (0, 2)⟩,
    ⟨(some 21), none, (.p .mv), [(.t 2)], none⟩,
    ⟨(some 22), none, (.call 40), [(.t 18), (.t 20), (.t 21)], none⟩,
    ⟨(some 23), none, (.p (.bin .xor)), [(.t 17), (.t 22)], none⟩,
    ⟨(some 6), none, (.p .mv), [(.t 23)], none⟩])
  (.keep [6] (.keep [6] .ret))))),
  [(.t 6)]⟩
def s36 (call : CallK) (N : Nat) (a0 a1 a2 : V) (H : Heap) (τ : Tape) (q : KV) : Ans :=
  effK (eBox [a1] H τ) fun v0 H1 τ2 =>
  someK (pArrIdx 3 1 [v0, (.int .i64 (.ofNat 0))]) fun v3 =>
  someK (lLoad1 [v3] H1) fun v4 =>
  call 40 [a0, v4, a2] H1 τ2 fun v5 H6 τ7 =>
  someK (pArrIdx 3 1 [v0, (.int .i64 (.ofNat 1))]) fun v8 =>
  someK (lLoad1 [v8] H6) fun v9 =>
  call 40 [a0, v9, a2] H6 τ7 fun v10 H11 τ12 =>
  binK .xor v5 v10 fun v13 =>
  someK (pArrIdx 3 1 [v0, (.int .i64 (.ofNat 2))]) fun v14 =>
  someK (lLoad1 [v14] H11) fun v15 =>
  call 40 [a0, v15, a2] H11 τ12 fun v16 H17 τ18 =>
  binK .xor v13 v16 fun v19 =>
  bif chkLoads [H1, H6, H11, H17] [((.load none), [v14], 0, 2), ((.load none), [v8], 0, 1)] then
  q v19 H17 τ18
  else none
theorem s36_eq (call : CallK) (N : Nat) (a0 a1 a2 : V) (H : Heap) (τ : Tape) (q : KV) : s36 call N a0 a1 a2 H τ q = funK call N fn36 [a0, a1, a2] H τ q := by kernel_rfl
def e36 (call : CallK) (N : Nat) (vs : List V) (H : Heap) (τ : Tape) (q : KV) : Ans := match vs with | [a0, a1, a2] => s36 call N a0 a1 a2 H τ q | _ => none
theorem e36_ok : EntOk fn36 e36 := by
  intro call N vs H τ q r h
  unfold e36 at h
  split at h
  · rw [s36_eq] at h; exact h
  · cases h
/-- ostiary/digest.right[uint32] -/
def fn39 : Fun := ⟨3,
  (.seq (.reg [⟨(some 6), none, (.p .mv), [(.c (.int .u32 (.ofNat 0)))], none⟩])
  (.keep [0, 1, 2] (.seq (.draw [⟨(some 7), none, (.p .mv), [(.t 0)], none⟩,
    ⟨(some 8), none, (.p .mv), [(.t 1)], none⟩,
    ⟨(some 9), none, (.p (.bin .shr)), [(.t 7), (.t 8)], none⟩,
    ⟨(some 10), none, (.p .mv), [(.t 0)], none⟩,
    ⟨(some 11), none, (.p .mv), [(.t 2)], none⟩,
    ⟨(some 12), none, (.p .mv), [(.t 1)], none⟩,
    ⟨(some 13), none, (.p (.bin .sub)), [(.t 11), (.t 12)], none⟩,
    ⟨(some 14), none, (.p (.bin .shl)), [(.t 10), (.t 13)], none⟩,
    ⟨(some 15), none, (.p (.bin .or)), [(.t 9), (.t 14)], none⟩,
    ⟨(some 6), none, (.p .mv), [(.t 15)], none⟩])
  (.keep [6] (.keep [6] .ret))))),
  [(.t 6)]⟩
def s39 (call : CallK) (N : Nat) (a0 a1 a2 : V) (H : Heap) (τ : Tape) (q : KV) : Ans :=
  binK .shr a0 a1 fun v0 =>
  binK .sub a2 a1 fun v1 =>
  binK .shl a0 v1 fun v2 =>
  binK .or v0 v2 fun v3 =>
  q v3 H τ
theorem s39_eq (call : CallK) (N : Nat) (a0 a1 a2 : V) (H : Heap) (τ : Tape) (q : KV) : s39 call N a0 a1 a2 H τ q = funK call N fn39 [a0, a1, a2] H τ q := by kernel_rfl
def e39 (call : CallK) (N : Nat) (vs : List V) (H : Heap) (τ : Tape) (q : KV) : Ans := match vs with | [a0, a1, a2] => s39 call N a0 a1 a2 H τ q | _ => none
theorem e39_ok : EntOk fn39 e39 := by
  intro call N vs H τ q r h
  unfold e39 at h
  split at h
  · rw [s39_eq] at h; exact h
  · cases h
/-- ostiary/digest.right[uint64] -/
def fn40 : Fun := ⟨3,
  (.seq (.reg [⟨(some 6), none, (.p .mv), [(.c (.int .u64 (.ofNat 0)))], none⟩])
  (.keep [0, 1, 2] (.seq (.draw [⟨(some 7), none, (.p .mv), [(.t 0)], none⟩,
    ⟨(some 8), none, (.p .mv), [(.t 1)], none⟩,
    ⟨(some 9), none, (.p (.bin .shr)), [(.t 7), (.t 8)], none⟩,
    ⟨(some 10), none, (.p .mv), [(.t 0)], none⟩,
    ⟨(some 11), none, (.p .mv), [(.t 2)], none⟩,
    ⟨(some 12), none, (.p .mv), [(.t 1)], none⟩,
    ⟨(some 13), none, (.p (.bin .sub)), [(.t 11), (.t 12)], none⟩,
    ⟨(some 14), none, (.p (.bin .shl)), [(.t 10), (.t 13)], none⟩,
    ⟨(some 15), none, (.p (.bin .or)), [(.t 9), (.t 14)], none⟩,
    ⟨(some 6), none, (.p .mv), [(.t 15)], none⟩])
  (.keep [6] (.keep [6] .ret))))),
  [(.t 6)]⟩
def s40 (call : CallK) (N : Nat) (a0 a1 a2 : V) (H : Heap) (τ : Tape) (q : KV) : Ans :=
  binK .shr a0 a1 fun v0 =>
  binK .sub a2 a1 fun v1 =>
  binK .shl a0 v1 fun v2 =>
  binK .or v0 v2 fun v3 =>
  q v3 H τ
theorem s40_eq (call : CallK) (N : Nat) (a0 a1 a2 : V) (H : Heap) (τ : Tape) (q : KV) : s40 call N a0 a1 a2 H τ q = funK call N fn40 [a0, a1, a2] H τ q := by kernel_rfl
def e40 (call : CallK) (N : Nat) (vs : List V) (H : Heap) (τ : Tape) (q : KV) : Ans := match vs with | [a0, a1, a2] => s40 call N a0 a1 a2 H τ q | _ => none
theorem e40_ok : EntOk fn40 e40 := by
  intro call N vs H τ q r h
  unfold e40 at h
  split at h
  · rw [s40_eq] at h; exact h
  · cases h
def tabF : T Def := (.node none (.node none (.node (some (.fn fn3)) (.node (some (.fn fn7)) .leaf (.node none (.node (some (.fn fn39)) .leaf .leaf) .leaf)) (.node none (.node none (.node (some (.fn fn35)) .leaf .leaf) .leaf) .leaf)) (.node none (.node (some (.fn fn9)) (.node none (.node (some (.fn fn33)) .leaf .leaf) .leaf) .leaf) (.node none (.node (some (.fn fn21)) .leaf .leaf) (.node (some (.fn fn29)) .leaf .leaf)))) (.node none (.node none (.node (some (.fn fn8)) .leaf (.node none (.node (some (.fn fn40)) .leaf .leaf) .leaf)) (.node none (.node (some (.fn fn20)) (.node (some (.fn fn36)) .leaf .leaf) .leaf) (.node (some (.fn fn28)) .leaf .leaf))) (.node none (.node (some (.fn fn10)) (.node none (.node (some (.fn fn34)) .leaf .leaf) .leaf) .leaf) (.node none (.node (some (.fn fn22)) .leaf .leaf) .leaf))))
def tabE : T Ent := (.node none (.node none (.node (some e3) (.node (some e7) .leaf (.node none (.node (some e39) .leaf .leaf) .leaf)) (.node none (.node none (.node (some e35) .leaf .leaf) .leaf) .leaf)) (.node none (.node (some e9) (.node none (.node (some e33) .leaf .leaf) .leaf) .leaf) (.node none (.node (some e21) .leaf .leaf) (.node (some e29) .leaf .leaf)))) (.node none (.node none (.node (some e8) .leaf (.node none (.node (some e40) .leaf .leaf) .leaf)) (.node none (.node (some e20) (.node (some e36) .leaf .leaf) .leaf) (.node (some e28) .leaf .leaf))) (.node none (.node (some e10) (.node none (.node (some e34) .leaf .leaf) .leaf) .leaf) (.node none (.node (some e22) .leaf .leaf) .leaf))))
theorem tab_ok (N : Nat) : TabOk tabF.get N (tabOf tabE N) := tabOf_ok (E := tabE) (F := tabF) N fun f e h => T.All_get (t := tabE) (P := fun f e => ∃ fn, tabF.get f = some (.fn fn) ∧ EntOk fn e) (.intro trivial (.intro (.intro trivial (.intro (.intro ⟨fn3, rfl, e3_ok⟩ (.intro (.intro ⟨fn7, rfl, e7_ok⟩ (.intro trivial (.intro trivial (.intro (.intro ⟨fn39, rfl, e39_ok⟩ (.intro trivial trivial)) trivial)))) (.intro trivial (.intro (.intro trivial (.intro (.intro ⟨fn35, rfl, e35_ok⟩ (.intro trivial trivial)) trivial)) trivial)))) (.intro trivial (.intro (.intro ⟨fn9, rfl, e9_ok⟩ (.intro (.intro trivial (.intro (.intro ⟨fn33, rfl, e33_ok⟩ (.intro trivial trivial)) trivial)) trivial)) (.intro trivial (.intro (.intro ⟨fn21, rfl, e21_ok⟩ (.intro trivial trivial)) (.intro ⟨fn29, rfl, e29_ok⟩ (.intro trivial trivial)))))))) (.intro trivial (.intro (.intro trivial (.intro (.intro ⟨fn8, rfl, e8_ok⟩ (.intro trivial (.intro trivial (.intro (.intro ⟨fn40, rfl, e40_ok⟩ (.intro trivial trivial)) trivial)))) (.intro trivial (.intro (.intro ⟨fn20, rfl, e20_ok⟩ (.intro (.intro ⟨fn36, rfl, e36_ok⟩ (.intro trivial trivial)) trivial)) (.intro ⟨fn28, rfl, e28_ok⟩ (.intro trivial trivial)))))) (.intro trivial (.intro (.intro ⟨fn10, rfl, e10_ok⟩ (.intro (.intro trivial (.intro (.intro ⟨fn34, rfl, e34_ok⟩ (.intro trivial trivial)) trivial)) trivial)) (.intro trivial (.intro (.intro ⟨fn22, rfl, e22_ok⟩ (.intro trivial trivial)) trivial)))))))) h
end D8
