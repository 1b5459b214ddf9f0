/- The abstract machine, printed functions of the program, and what they are shown to be. -/
import Derived.Test.YtfamalehnahbdaaGreatDoorBAPSh0
import Derived.Test.YtfamalehnahbdaaGreatDoorBAPM5
import Derived.KernelRfl
set_option linter.unusedVariables false
namespace Go.Am.X
set_option maxRecDepth 1000000
/-- ostiary/infra.Int -/
def fn_infra_Int : Fun := ⟨1, (.seq (.reg [iR 2 (.p .mv) [(.c (.int .i64 (.ofNat 0)))], iR 3 (.p .mv) [(.c (.bool false))]]) (.keep [0] (.seq (.reg [iR 4 (.p .mv) [(.c (.int .i64 (.ofNat 0)))]]) (.keep [0, 4] (.seq (.seq (.reg [iR 8 (.p .mv) [(.t 0)], iR 9 (.p .lenS) [(.t 8)], iR 10 (.p .mv) [(.c (.int .i64 (.ofNat 0)))]]) (.keep [0, 4, 9, 10] (.block 0 (.loop (.keep [0, 4, 9, 10] (.seq (.reg [iR 11 (.p (.bin .lss)) [(.t 10), (.t 9)]]) (.keep [0, 4, 9, 10, 11] (.seq (.cond (.t 11) .skip (.keep [0, 4] (.exit 0))) (.keep [0, 4, 9, 10] (.seq (.block 1 (.seq (.reg [iR 12 (.p .mv) [(.t 10)], iR 5 (.p .mv) [(.t 12)]]) (.keep [0, 4, 5, 9, 10] (.seq (.reg [iR 13 (.p .mv) [(.t 0)], iR 14 (.p .mv) [(.t 5)], iR 15 (.p .strIndex) [(.t 13), (.t 14)], iR 6 (.p .mv) [(.t 15)]]) (.keep [0, 4, 6, 9, 10] (.seq (.seq (.reg [iR 16 (.p .mv) [(.t 6)],
    iR 17 (.p (.bin .lss)) [(.t 16), (.c (.int .u8 (.ofNat 48)))], iR 18 (.p .mv) [(.t 17)], iG 19 18 false (.p .mv) [(.t 6)], iG 20 18 false (.p (.bin .gtr)) [(.t 19), (.c (.int .u8 (.ofNat 57)))], iR 21 (.p .pick) [(.t 18), (.c (.bool true)), (.t 20)]]) (.keep [0, 4, 6, 9, 10, 21] (.cond (.t 21) (.seq (.reg [iR 2 (.p .mv) [(.c (.int .i64 (.ofNat 0)))], iR 3 (.p .mv) [(.c (.bool false))]]) (.keep [2, 3] (.keep [2, 3] .ret))) .skip))) (.keep [0, 4, 6, 9, 10] (.seq (.reg [iR 22 (.p .mv) [(.t 6)], iR 23 (.p (.bin .sub)) [(.t 22), (.c (.int .u8 (.ofNat 48)))], iR 24 (.p (.toInt .i64)) [(.t 23)], iR 7 (.p .mv) [(.t 24)]]) (.keep [0, 4, 7, 9, 10] (.seq (.seq (.reg [iR 25 (.p .mv) [(.t 4)], iR 26 (.p .mv) [(.t 7)], iR 27 (.p (.bin .sub)) [(.c (.int .i64 (.ofNat 9223372036854775807))), (.t 26)], iR 28 (.p (.bin .quo)) [(.t 27), (.c (.int .i64 (.ofNat 10)))],
    iR 29 (.p (.bin .gtr)) [(.t 25), (.t 28)]]) (.keep [0, 4, 7, 9, 10, 29] (.cond (.t 29) (.seq (.reg [iR 4 (.p .mv) [(.c (.int .i64 (.ofNat 9223372036854775807)))]]) (.keep [0, 4, 9, 10] (.keep [0, 4, 9, 10] (.exit 1)))) .skip))) (.keep [0, 4, 7, 9, 10] (.reg [iR 30 (.p .mv) [(.t 4)], iR 31 (.p (.bin .mul)) [(.t 30), (.c (.int .i64 (.ofNat 10)))], iR 32 (.p .mv) [(.t 7)], iR 33 (.p (.bin .add)) [(.t 31), (.t 32)], iR 4 (.p .mv) [(.t 33)]])))))))))))) (.keep [0, 4, 9, 10] (.reg [iR 34 (.p (.bin .add)) [(.t 10), (.c (.int .i64 (.ofNat 1)))], iR 10 (.p .mv) [(.t 34)]])))))))))))) (.keep [0, 4] (.seq (.reg [iR 35 (.p .mv) [(.t 4)], iR 36 (.p .mv) [(.t 0)], iR 37 (.p .lenS) [(.t 36)], iR 38 (.p (.bin .gtr)) [(.t 37), (.c (.int .i64 (.ofNat 0)))], iR 2 (.p .mv) [(.t 35)], iR 3 (.p .mv) [(.t 38)]]) (.keep [2, 3] (.keep [2, 3] .ret))))))))), [(.t 2), (.t 3)]⟩
def s_infra_Int_j0 (call : CallK) (N : Nat) (q : KV) (st : St) (τ : Tape) : Ans := match st with
  | ⟨fr, H⟩ => getK fr 0 fun t0 => getK fr 4 fun t4 => someK (pLenS [t0]) fun v1 => binK .gtr v1 (.int .i64 (.ofNat 0)) fun v2 => q (.tup [t4, v2]) H τ
def s_infra_Int_j2 (call : CallK) (N : Nat) (k : KC) (st : St) (τ : Tape) : Ans := match st with
  | ⟨fr, H⟩ => getK fr 0 fun t0 => getK fr 4 fun t4 => getK fr 9 fun t9 => getK fr 10 fun t10 => binK .add t10 (.int .i64 (.ofNat 1)) fun v4 => k .normal ⟨(T.set (T.set (T.set (T.set (T.set (T.set .leaf 0 t0) 4 t4) 9 t9) 10 t10) 34 v4) 10 v4), H⟩ τ
def s_infra_Int_l1 (call : CallK) (N : Nat) (st : St) (τ : Tape) (k : KC) : Ans := match st with
  | ⟨fr, H⟩ => getK fr 0 fun t0 => getK fr 4 fun t4 => getK fr 9 fun t9 => getK fr 10 fun t10 => binK .lss t10 t9 fun v3 => condK v3 (someK (pStrIndex [t0, t10]) fun v5 => binK .lss v5 (.int .u8 (.ofNat 48)) fun v6 => gK v6 false (fun q' => q' v5 H τ) H τ fun v7 H8 τ9 => gK v6 false (fun q' => binK .gtr v7 (.int .u8 (.ofNat 57)) fun v => q' v H8 τ9) H8 τ9 fun v10 H11 τ12 => someK (pPick [v6, (.bool true), v10]) fun v13 => condK v13 (k .ret ⟨(T.set (T.set .leaf 2 (.int .i64 (.ofNat 0))) 3 (.bool false)), H11⟩ τ12) (binK .sub v5 (.int .u8 (.ofNat 48)) fun v14 => toIntK .i64 v14 fun v15 => binK .sub (.int .i64 (.ofNat 9223372036854775807)) v15 fun v16 => binK .quo v16 (.int .i64 (.ofNat 10)) fun v17 => binK .gtr t4 v17 fun v18 => condK v18 (s_infra_Int_j2 call N k ⟨(T.set (T.set (T.set (T.set .leaf 0 t0) 4 (.int .i64 (.ofNat 9223372036854775807))) 9 t9) 10 t10), H11⟩ τ12)
    (binK .mul t4 (.int .i64 (.ofNat 10)) fun v19 => binK .add v19 v15 fun v20 => s_infra_Int_j2 call N k ⟨(T.set (T.set (T.set (T.set (T.set (T.set (T.set (T.set (T.set (T.set .leaf 0 t0) 4 t4) 7 v15) 9 t9) 10 t10) 30 t4) 31 v19) 32 v15) 33 v20) 4 v20), H11⟩ τ12))) (k (.exit 0) ⟨(T.set (T.set .leaf 0 t0) 4 t4), H⟩ τ)
def s_infra_Int (call : CallK) (N : Nat) (a0 : V) (H : Heap) (τ : Tape) (q : KV) : Ans := someK (pLenS [a0]) fun v0 => loopK (s_infra_Int_l1 call N) N ⟨(T.set (T.set (T.set (T.set .leaf 0 a0) 4 (.int .i64 (.ofNat 0))) 9 v0) 10 (.int .i64 (.ofNat 0))), H⟩ τ (blockK 0 (seqK (s_infra_Int_j0 call N q) (endK [(.t 2), (.t 3)] q)))
theorem s_infra_Int_eq (call : CallK) (N : Nat) (a0 : V) (H : Heap) (τ : Tape) (q : KV) : s_infra_Int call N a0 H τ q = funK call N fn_infra_Int [a0] H τ q := by kernel_rfl
def e_infra_Int (call : CallK) (N : Nat) (vs : List V) (H : Heap) (τ : Tape) (q : KV) : Ans := match vs with | [a0] => s_infra_Int call N a0 H τ q | _ => none
theorem e_infra_Int_ok : EntOk fn_infra_Int e_infra_Int := by
  intro call N vs H τ q r h
  unfold e_infra_Int at h
  split at h
  · rw [s_infra_Int_eq] at h; exact h
  · cases h
theorem e_infra_Int_nat : EntNat e_infra_Int := by
  intro c hn N vs H τ q
  unfold e_infra_Int
  split
  · rw [s_infra_Int_eq, s_infra_Int_eq]; exact funK_ent hn _ _ _ _ _ _
  · rfl
/-- ostiary/ostiaryref1.Digit -/
def fn_ref1_Digit : Fun := ⟨1, (.seq (.reg [iR 2 (.p .mv) [(.c (.bool false))]]) (.keep [0] (.seq (.reg [iR 3 (.p .mv) [(.t 0)], iR 4 (.p (.bin .geq)) [(.t 3), (.c (.int .u8 (.ofNat 48)))], iR 5 (.p .mv) [(.t 4)], iG 6 5 true (.p .mv) [(.t 0)], iG 7 5 true (.p (.bin .leq)) [(.t 6), (.c (.int .u8 (.ofNat 57)))], iR 8 (.p .pick) [(.t 5), (.t 7), (.c (.bool false))], iR 2 (.p .mv) [(.t 8)]]) (.keep [2] (.keep [2] .ret))))), [(.t 2)]⟩
def s_ref1_Digit (call : CallK) (N : Nat) (a0 : V) (H : Heap) (τ : Tape) (q : KV) : Ans := funK call N fn_ref1_Digit [a0] H τ q
theorem s_ref1_Digit_eq (call : CallK) (N : Nat) (a0 : V) (H : Heap) (τ : Tape) (q : KV) : s_ref1_Digit call N a0 H τ q = funK call N fn_ref1_Digit [a0] H τ q := by kernel_rfl
def e_ref1_Digit (call : CallK) (N : Nat) (vs : List V) (H : Heap) (τ : Tape) (q : KV) : Ans := match vs with | [a0] => s_ref1_Digit call N a0 H τ q | _ => none
theorem e_ref1_Digit_ok : EntOk fn_ref1_Digit e_ref1_Digit := by
  intro call N vs H τ q r h
  unfold e_ref1_Digit at h
  split at h
  · rw [s_ref1_Digit_eq] at h; exact h
  · cases h
theorem e_ref1_Digit_nat : EntNat e_ref1_Digit := by
  intro c hn N vs H τ q
  unfold e_ref1_Digit
  split
  · rw [s_ref1_Digit_eq, s_ref1_Digit_eq]; exact funK_ent hn _ _ _ _ _ _
  · rfl
/-- (*strings.asciiSet).contains -/
def fn_asciiSet_contains : Fun := ⟨2, (.seq (.reg [iR 4 (.p .mv) [(.c (.bool false))]]) (.keep [0, 1] (.seq (.reg [iR 5 (.p .mv) [(.t 0)], iR 6 (.p .mv) [(.t 1)], iR 7 (.p .nilck) [(.t 5)], iR 8 (.p (.arrIdx 256 1)) [(.t 7), (.t 6)], iR 9 (.l (.load none)) [(.t 8)], iR 4 (.p .mv) [(.t 9)]]) (.keep [4] (.keep [4] .ret))))), [(.t 4)]⟩
def s_asciiSet_contains (call : CallK) (N : Nat) (a0 a1 : V) (H : Heap) (τ : Tape) (q : KV) : Ans := someK (pNilck [a0]) fun v0 => someK (pArrIdx 256 1 [v0, a1]) fun v1 => someK (lLoad1 [v1] H) fun v2 => q v2 H τ
theorem s_asciiSet_contains_eq (call : CallK) (N : Nat) (a0 a1 : V) (H : Heap) (τ : Tape) (q : KV) : s_asciiSet_contains call N a0 a1 H τ q = funK call N fn_asciiSet_contains [a0, a1] H τ q := by kernel_rfl
def e_asciiSet_contains (call : CallK) (N : Nat) (vs : List V) (H : Heap) (τ : Tape) (q : KV) : Ans := match vs with | [a0, a1] => s_asciiSet_contains call N a0 a1 H τ q | _ => none
theorem e_asciiSet_contains_ok : EntOk fn_asciiSet_contains e_asciiSet_contains := by
  intro call N vs H τ q r h
  unfold e_asciiSet_contains at h
  split at h
  · rw [s_asciiSet_contains_eq] at h; exact h
  · cases h
theorem e_asciiSet_contains_nat : EntNat e_asciiSet_contains := by
  intro c hn N vs H τ q
  unfold e_asciiSet_contains
  split
  · rw [s_asciiSet_contains_eq, s_asciiSet_contains_eq]; exact funK_ent hn _ _ _ _ _ _
  · rfl
/-- unicode/utf8.DecodeRuneInString -/
def fn_utf8_DecodeRuneInString : Fun := ⟨1, (.seq (.reg [iR 2 (.p .mv) [(.c (.int .i32 (.ofNat 0)))], iR 3 (.p .mv) [(.c (.int .i64 (.ofNat 0)))]]) (.keep [0] (.seq (.seq (.reg [iR 4 (.p .mv) [(.t 0)], iR 5 (.p (.bin .neq)) [(.t 4), (.c (.str []))], iR 6 (.p .mv) [(.t 5)], iG 7 6 true (.p .mv) [(.t 0)], iG 8 6 true (.p .strIndex) [(.t 7), (.c (.int .i64 (.ofNat 0)))], iG 9 6 true (.p (.bin .lss)) [(.t 8), (.c (.int .u8 (.ofNat 128)))], iR 10 (.p .pick) [(.t 6), (.t 9), (.c (.bool false))]]) (.keep [0, 10] (.cond (.t 10) (.seq (.reg [iR 11 (.p .mv) [(.t 0)], iR 12 (.p .strIndex) [(.t 11), (.c (.int .i64 (.ofNat 0)))], iR 13 (.p (.toInt .i32)) [(.t 12)], iR 2 (.p .mv) [(.t 13)], iR 3 (.p .mv) [(.c (.int .i64 (.ofNat 1)))]]) (.keep [2, 3] (.keep [2, 3] .ret))) (.reg [iR 15 (.p .mv) [(.t 0)], iR 16 (.call 105) [(.t 15)], iR 14 (.p .mv) [(.t 16)], iR 17 (.p (.extract 0)) [(.t 14)],
    iR 18 (.p (.extract 1)) [(.t 14)], iR 2 (.p .mv) [(.t 17)], iR 3 (.p .mv) [(.t 18)]])))) (.keep [2, 3] (.keep [2, 3] .ret))))), [(.t 2), (.t 3)]⟩
def s_utf8_DecodeRuneInString (call : CallK) (N : Nat) (a0 : V) (H : Heap) (τ : Tape) (q : KV) : Ans := funK call N fn_utf8_DecodeRuneInString [a0] H τ q
theorem s_utf8_DecodeRuneInString_eq (call : CallK) (N : Nat) (a0 : V) (H : Heap) (τ : Tape) (q : KV) : s_utf8_DecodeRuneInString call N a0 H τ q = funK call N fn_utf8_DecodeRuneInString [a0] H τ q := by kernel_rfl
def e_utf8_DecodeRuneInString (call : CallK) (N : Nat) (vs : List V) (H : Heap) (τ : Tape) (q : KV) : Ans := match vs with | [a0] => s_utf8_DecodeRuneInString call N a0 H τ q | _ => none
theorem e_utf8_DecodeRuneInString_ok : EntOk fn_utf8_DecodeRuneInString e_utf8_DecodeRuneInString := by
  intro call N vs H τ q r h
  unfold e_utf8_DecodeRuneInString at h
  split at h
  · rw [s_utf8_DecodeRuneInString_eq] at h; exact h
  · cases h
theorem e_utf8_DecodeRuneInString_nat : EntNat e_utf8_DecodeRuneInString := by
  intro c hn N vs H τ q
  unfold e_utf8_DecodeRuneInString
  split
  · rw [s_utf8_DecodeRuneInString_eq, s_utf8_DecodeRuneInString_eq]; exact funK_ent hn _ _ _ _ _ _
  · rfl
/-- strings.ContainsRune -/
def fn_strings_ContainsRune : Fun := ⟨2, (.seq (.reg [iR 4 (.p .mv) [(.c (.bool false))]]) (.keep [0, 1] (.seq (.reg [iR 5 (.p .mv) [(.t 0)], iR 6 (.p .mv) [(.t 1)], iR 7 (.call 85) [(.t 5), (.t 6)], iR 8 (.p (.bin .geq)) [(.t 7), (.c (.int .i64 (.ofNat 0)))], iR 4 (.p .mv) [(.t 8)]]) (.keep [4] (.keep [4] .ret))))), [(.t 4)]⟩
def s_strings_ContainsRune (call : CallK) (N : Nat) (a0 a1 : V) (H : Heap) (τ : Tape) (q : KV) : Ans := funK call N fn_strings_ContainsRune [a0, a1] H τ q
theorem s_strings_ContainsRune_eq (call : CallK) (N : Nat) (a0 a1 : V) (H : Heap) (τ : Tape) (q : KV) : s_strings_ContainsRune call N a0 a1 H τ q = funK call N fn_strings_ContainsRune [a0, a1] H τ q := by kernel_rfl
def e_strings_ContainsRune (call : CallK) (N : Nat) (vs : List V) (H : Heap) (τ : Tape) (q : KV) : Ans := match vs with | [a0, a1] => s_strings_ContainsRune call N a0 a1 H τ q | _ => none
theorem e_strings_ContainsRune_ok : EntOk fn_strings_ContainsRune e_strings_ContainsRune := by
  intro call N vs H τ q r h
  unfold e_strings_ContainsRune at h
  split at h
  · rw [s_strings_ContainsRune_eq] at h; exact h
  · cases h
theorem e_strings_ContainsRune_nat : EntNat e_strings_ContainsRune := by
  intro c hn N vs H τ q
  unfold e_strings_ContainsRune
  split
  · rw [s_strings_ContainsRune_eq, s_strings_ContainsRune_eq]; exact funK_ent hn _ _ _ _ _ _
  · rfl
/-- unicode/utf8.DecodeLastRuneInString -/
def fn_utf8_DecodeLastRuneInString : Fun := ⟨1, (.seq (.reg [iR 2 (.p .mv) [(.c (.int .i32 (.ofNat 0)))], iR 3 (.p .mv) [(.c (.int .i64 (.ofNat 0)))]]) (.keep [0] (.seq (.reg [iR 7 (.p .mv) [(.t 0)], iR 8 (.p .lenS) [(.t 7)], iR 4 (.p .mv) [(.t 8)]]) (.keep [0, 4] (.seq (.seq (.reg [iR 9 (.p .mv) [(.t 4)], iR 10 (.p (.bin .eql)) [(.t 9), (.c (.int .i64 (.ofNat 0)))]]) (.keep [0, 4, 10] (.cond (.t 10) (.seq (.reg [iR 2 (.p .mv) [(.c (.int .i32 (.ofNat 65533)))], iR 3 (.p .mv) [(.c (.int .i64 (.ofNat 0)))]]) (.keep [2, 3] (.keep [2, 3] .ret))) .skip))) (.keep [0, 4] (.seq (.reg [iR 11 (.p .mv) [(.t 4)], iR 12 (.p (.bin .sub)) [(.t 11), (.c (.int .i64 (.ofNat 1)))], iR 5 (.p .mv) [(.t 12)]]) (.keep [0, 4, 5] (.seq (.reg [iR 13 (.p .mv) [(.t 0)], iR 14 (.p .mv) [(.t 5)], iR 15 (.p .strIndex) [(.t 13), (.t 14)], iR 16 (.p (.toInt .i32)) [(.t 15)], iR 2 (.p .mv) [(.t 16)]])
    (.keep [0, 2, 4, 5] (.seq (.seq (.reg [iR 17 (.p .mv) [(.t 2)], iR 18 (.p (.bin .lss)) [(.t 17), (.c (.int .i32 (.ofNat 128)))]]) (.keep [0, 2, 4, 5, 18] (.cond (.t 18) (.seq (.reg [iR 19 (.p .mv) [(.t 2)], iR 2 (.p .mv) [(.t 19)], iR 3 (.p .mv) [(.c (.int .i64 (.ofNat 1)))]]) (.keep [2, 3] (.keep [2, 3] .ret))) .skip))) (.keep [0, 4, 5] (.seq (.reg [iR 20 (.p .mv) [(.t 4)], iR 21 (.p (.bin .sub)) [(.t 20), (.c (.int .i64 (.ofNat 4)))], iR 22 (.p .max2) [(.t 21), (.c (.int .i64 (.ofNat 0)))], iR 6 (.p .mv) [(.t 22)]]) (.keep [0, 4, 5, 6] (.seq (.seq (.reg [iR 23 (.p .mv) [(.t 5)], iR 24 (.p (.bin .sub)) [(.t 23), (.c (.int .i64 (.ofNat 1)))], iR 5 (.p .mv) [(.t 24)]]) (.keep [0, 4, 5, 6] (.block 0 (.loop (.keep [0, 4, 5, 6] (.seq (.seq (.reg [iR 25 (.p .mv) [(.t 5)], iR 26 (.p .mv) [(.t 6)], iR 27 (.p (.bin .geq)) [(.t 25), (.t 26)]]) (.keep [0, 4, 5, 6, 27] (.cond (.t 27) .skip
    (.keep [0, 4, 5] (.exit 0))))) (.keep [0, 4, 5, 6] (.seq (.block 1 (.seq (.reg [iR 30 (.p .mv) [(.t 0)], iR 31 (.p .mv) [(.t 5)], iR 32 (.p .strIndex) [(.t 30), (.t 31)], iR 33 (.call 106) [(.t 32)]]) (.keep [0, 4, 5, 6, 33] (.cond (.t 33) (.keep [0, 4, 5] (.exit 0)) .skip)))) (.keep [0, 4, 5, 6] (.reg [iR 28 (.p .mv) [(.t 5)], iR 29 (.p (.bin .sub)) [(.t 28), (.c (.int .i64 (.ofNat 1)))], iR 5 (.p .mv) [(.t 29)]])))))))))) (.keep [0, 4, 5] (.seq (.seq (.reg [iR 34 (.p .mv) [(.t 5)], iR 35 (.p (.bin .lss)) [(.t 34), (.c (.int .i64 (.ofNat 0)))]]) (.keep [0, 4, 5, 35] (.cond (.t 35) (.reg [iR 5 (.p .mv) [(.c (.int .i64 (.ofNat 0)))]]) .skip))) (.keep [0, 4, 5] (.seq (.reg [iR 37 (.p .mv) [(.t 0)], iR 38 (.p .mv) [(.t 5)], iR 39 (.p .mv) [(.t 4)], iR 40 (.p (.strSlice true true)) [(.t 37), (.t 38), (.t 39)], iR 41 (.call 82) [(.t 40)], iR 36 (.p .mv) [(.t 41)],
    iR 42 (.p (.extract 0)) [(.t 36)], iR 43 (.p (.extract 1)) [(.t 36)], iR 2 (.p .mv) [(.t 42)], iR 3 (.p .mv) [(.t 43)]]) (.keep [2, 3, 4, 5] (.seq (.seq (.reg [iR 44 (.p .mv) [(.t 5)], iR 45 (.p .mv) [(.t 3)], iR 46 (.p (.bin .add)) [(.t 44), (.t 45)], iR 47 (.p .mv) [(.t 4)], iR 48 (.p (.bin .neq)) [(.t 46), (.t 47)]]) (.keep [2, 3, 48] (.cond (.t 48) (.seq (.reg [iR 2 (.p .mv) [(.c (.int .i32 (.ofNat 65533)))], iR 3 (.p .mv) [(.c (.int .i64 (.ofNat 1)))]]) (.keep [2, 3] (.keep [2, 3] .ret))) .skip))) (.keep [2, 3] (.seq (.reg [iR 49 (.p .mv) [(.t 2)], iR 50 (.p .mv) [(.t 3)], iR 2 (.p .mv) [(.t 49)], iR 3 (.p .mv) [(.t 50)]]) (.keep [2, 3] (.keep [2, 3] .ret))))))))))))))))))))))))), [(.t 2), (.t 3)]⟩
def s_utf8_DecodeLastRuneInString (call : CallK) (N : Nat) (a0 : V) (H : Heap) (τ : Tape) (q : KV) : Ans := funK call N fn_utf8_DecodeLastRuneInString [a0] H τ q
theorem s_utf8_DecodeLastRuneInString_eq (call : CallK) (N : Nat) (a0 : V) (H : Heap) (τ : Tape) (q : KV) : s_utf8_DecodeLastRuneInString call N a0 H τ q = funK call N fn_utf8_DecodeLastRuneInString [a0] H τ q := by kernel_rfl
def e_utf8_DecodeLastRuneInString (call : CallK) (N : Nat) (vs : List V) (H : Heap) (τ : Tape) (q : KV) : Ans := match vs with | [a0] => s_utf8_DecodeLastRuneInString call N a0 H τ q | _ => none
theorem e_utf8_DecodeLastRuneInString_ok : EntOk fn_utf8_DecodeLastRuneInString e_utf8_DecodeLastRuneInString := by
  intro call N vs H τ q r h
  unfold e_utf8_DecodeLastRuneInString at h
  split at h
  · rw [s_utf8_DecodeLastRuneInString_eq] at h; exact h
  · cases h
theorem e_utf8_DecodeLastRuneInString_nat : EntNat e_utf8_DecodeLastRuneInString := by
  intro c hn N vs H τ q
  unfold e_utf8_DecodeLastRuneInString
  split
  · rw [s_utf8_DecodeLastRuneInString_eq, s_utf8_DecodeLastRuneInString_eq]; exact funK_ent hn _ _ _ _ _ _
  · rfl
/-- strings.IndexRune -/
def fn_strings_IndexRune : Fun := ⟨2, (.seq (.reg [iR 4 (.p .mv) [(.c (.int .i64 (.ofNat 0)))]]) (.keep [0, 1] (.block 0 (.seq (.reg [iR 161 (.p .mv) [(.t 1)], iR 162 (.p (.bin .leq)) [(.c (.int .i32 (.ofNat 0))), (.t 161)], iR 163 (.p .mv) [(.t 162)], iG 164 163 true (.p .mv) [(.t 1)], iG 165 163 true (.p (.bin .lss)) [(.t 164), (.c (.int .i32 (.ofNat 128)))], iR 166 (.p .pick) [(.t 163), (.t 165), (.c (.bool false))], iR 160 (.p .mv) [(.t 166)]]) (.keep [0, 1, 160] (.cond (.t 160) (.seq (.reg [iR 167 (.p .mv) [(.t 0)], iR 168 (.p .mv) [(.t 1)], iR 169 (.p (.toInt .u8)) [(.t 168)], iR 170 (.call 107) [(.t 167), (.t 169)], iR 4 (.p .mv) [(.t 170)]]) (.keep [4] (.keep [4] .ret))) (.seq (.reg [iR 172 (.p .mv) [(.t 1)], iR 173 (.p (.bin .eql)) [(.t 172), (.c (.int .i32 (.ofNat 65533)))], iR 171 (.p .mv) [(.t 173)]]) (.keep [0, 1, 171] (.cond (.t 171)
    (.seq (.seq (.reg [iR 174 (.p .mv) [(.t 0)], iR 175 (.e .range) [(.t 174)]]) (.keep [175] (.block 9 (.loop (.keep [175] (.seq (.reg [iR 176 (.e .next) [(.t 175)], iR 177 (.p (.extract 0)) [(.t 176)]]) (.keep [175, 176, 177] (.seq (.cond (.t 177) .skip (.keep [] (.exit 9))) (.keep [175, 176] (.block 10 (.seq (.reg [iR 178 (.p (.extract 1)) [(.t 176)], iR 179 (.p (.extract 2)) [(.t 176)], iR 5 (.p .mv) [(.t 178)], iR 6 (.p .mv) [(.t 179)]]) (.keep [5, 6, 175] (.seq (.reg [iR 180 (.p .mv) [(.t 6)], iR 181 (.p (.bin .eql)) [(.t 180), (.c (.int .i32 (.ofNat 65533)))]]) (.keep [5, 175, 181] (.cond (.t 181) (.seq (.reg [iR 182 (.p .mv) [(.t 5)], iR 4 (.p .mv) [(.t 182)]]) (.keep [4] (.keep [4] .ret))) .skip))))))))))))))) (.keep [] (.seq (.reg [iR 4 (.p .mv) [(.c (.int .i64 (.negSucc 0)))]]) (.keep [4] (.keep [4] .ret))))) (.seq (.reg [iR 184 (.p .mv) [(.t 1)],
    iR 185 (.call 108) [(.t 184)], iR 186 (.p (.un .not)) [(.t 185)], iR 183 (.p .mv) [(.t 186)]]) (.keep [0, 1, 183] (.cond (.t 183) (.seq (.reg [iR 4 (.p .mv) [(.c (.int .i64 (.negSucc 0)))]]) (.keep [4] (.keep [4] .ret))) (.scope (.seq (.reg [iR 17 (.p .mv) [(.t 1)], iR 18 (.p .runeStr) [(.t 17)], iR 7 (.p .mv) [(.t 18)]]) (.keep [0, 7] (.seq (.reg [iR 19 (.p .mv) [(.t 7)], iR 20 (.p .lenS) [(.t 19)], iR 21 (.p (.bin .sub)) [(.t 20), (.c (.int .i64 (.ofNat 1)))], iR 8 (.p .mv) [(.t 21)]]) (.keep [0, 7, 8] (.seq (.reg [iR 22 (.p .mv) [(.t 8)], iR 9 (.p .mv) [(.t 22)]]) (.keep [0, 7, 8, 9] (.seq (.reg [iR 10 (.p .mv) [(.c (.int .i64 (.ofNat 0)))]]) (.keep [0, 7, 8, 9] (.seq (.block 1 (.loop (.keep [0, 7, 8, 9] (.seq (.seq (.reg [iR 23 (.p .mv) [(.t 9)], iR 24 (.p .mv) [(.t 0)], iR 25 (.p .lenS) [(.t 24)], iR 26 (.p (.bin .lss)) [(.t 23), (.t 25)]])
    (.keep [0, 7, 8, 9, 26] (.cond (.t 26) .skip (.keep [] (.exit 1))))) (.keep [0, 7, 8, 9] (.block 2 (.scope (.seq (.seq (.draw [iR 27 (.p .mv) [(.t 0)], iR 28 (.p .mv) [(.t 9)], iR 29 (.p .strIndex) [(.t 27), (.t 28)], iR 30 (.p .mv) [(.t 7)], iR 31 (.p .mv) [(.t 8)], iR 32 (.p .strIndex) [(.t 30), (.t 31)], iR 33 (.p (.bin .neq)) [(.t 29), (.t 32)]]) (.keep [0, 7, 8, 9, 33] (.cond (.t 33) (.seq (.draw [iR 34 (.p .mv) [(.t 0)], iR 35 (.p .mv) [(.t 9)], iR 36 (.p (.bin .add)) [(.t 35), (.c (.int .i64 (.ofNat 1)))], iR 37 (.p (.strSlice true false)) [(.t 34), (.t 36)], iR 38 (.p .mv) [(.t 7)], iR 39 (.p .mv) [(.t 8)], iR 40 (.p .strIndex) [(.t 38), (.t 39)], iR 41 (.call 107) [(.t 37), (.t 40)], iR 11 (.p .mv) [(.t 41)]]) (.keep [0, 7, 8, 9, 11] (.seq (.seq (.reg [iR 42 (.p .mv) [(.t 11)], iR 43 (.p (.bin .lss)) [(.t 42), (.c (.int .i64 (.ofNat 0)))]])
    (.keep [0, 7, 8, 9, 11, 43] (.cond (.t 43) (.seq (.reg [iR 4 (.p .mv) [(.c (.int .i64 (.negSucc 0)))]]) (.keep [4] (.keep [4] .ret))) .skip))) (.keep [0, 7, 8, 9, 11] (.reg [iR 44 (.p .mv) [(.t 9)], iR 45 (.p .mv) [(.t 11)], iR 46 (.p (.bin .add)) [(.t 45), (.c (.int .i64 (.ofNat 1)))], iR 47 (.p (.bin .add)) [(.t 44), (.t 46)], iR 9 (.p .mv) [(.t 47)]]))))) .skip))) (.keep [0, 7, 8, 9] (.seq (.seq (.reg [iR 12 (.p .mv) [(.c (.int .i64 (.ofNat 1)))]]) (.keep [0, 7, 8, 9, 12] (.block 3 (.loop (.keep [0, 7, 8, 9, 12] (.seq (.seq (.reg [iR 48 (.p .mv) [(.t 12)], iR 49 (.p .mv) [(.t 7)], iR 50 (.p .lenS) [(.t 49)], iR 51 (.p (.bin .lss)) [(.t 48), (.t 50)]]) (.keep [0, 7, 8, 9, 12, 51] (.cond (.t 51) .skip (.keep [8, 9] (.exit 3))))) (.keep [0, 7, 8, 9, 12] (.seq (.block 4 (.seq (.draw [iR 54 (.p .mv) [(.t 0)], iR 55 (.p .mv) [(.t 9)], iR 56 (.p .mv) [(.t 12)],
    iR 57 (.p (.bin .sub)) [(.t 55), (.t 56)], iR 58 (.p .strIndex) [(.t 54), (.t 57)], iR 59 (.p .mv) [(.t 7)], iR 60 (.p .mv) [(.t 8)], iR 61 (.p .mv) [(.t 12)], iR 62 (.p (.bin .sub)) [(.t 60), (.t 61)], iR 63 (.p .strIndex) [(.t 59), (.t 62)], iR 64 (.p (.bin .neq)) [(.t 58), (.t 63)]]) (.keep [0, 7, 8, 9, 12, 64] (.cond (.t 64) .bad .skip)))) (.keep [0, 7, 8, 9, 12] (.reg [iR 52 (.p .mv) [(.t 12)], iR 53 (.p (.bin .add)) [(.t 52), (.c (.int .i64 (.ofNat 1)))], iR 12 (.p .mv) [(.t 53)]])))))))))) (.keep [8, 9] (.seq (.seq (.reg [iR 65 (.p .mv) [(.t 9)], iR 66 (.p .mv) [(.t 8)], iR 67 (.p (.bin .sub)) [(.t 65), (.t 66)], iR 4 (.p .mv) [(.t 67)]]) (.keep [4] (.keep [4] .ret))) (.keep [0, 7, 8, 9, 10] (.seq .skip (.keep [0, 7, 8, 9, 10] (.seq (.reg [iR 68 (.p .mv) [(.t 10)], iR 69 (.p (.bin .add)) [(.t 68), (.c (.int .i64 (.ofNat 1)))], iR 10 (.p .mv) [(.t 69)]])
    (.keep [0, 7, 8, 9, 10] (.seq (.reg [iR 70 (.p .mv) [(.t 9)], iR 71 (.p (.bin .add)) [(.t 70), (.c (.int .i64 (.ofNat 1)))], iR 9 (.p .mv) [(.t 71)]]) (.keep [0, 7, 8, 9, 10] (.seq (.reg [iR 72 (.p .mv) [(.c (.bool true))], iG 73 72 true (.p .mv) [(.t 10)], iG 74 72 true (.p .mv) [(.t 9)], iG 75 72 true (.call 102) [(.t 74)], iG 76 72 true (.p (.bin .gtr)) [(.t 73), (.t 75)], iR 77 (.p .pick) [(.t 72), (.t 76), (.c (.bool false))], iR 78 (.p .mv) [(.t 77)], iG 79 78 true (.p .mv) [(.t 9)], iG 80 78 true (.p .mv) [(.t 0)], iG 81 78 true (.p .lenS) [(.t 80)], iG 82 78 true (.p (.bin .lss)) [(.t 79), (.t 81)], iR 83 (.p .pick) [(.t 78), (.t 82), (.c (.bool false))], iR 84 (.p .mv) [(.t 83)], iG 85 84 false (.p .mv) [(.c (.bool false))], iG 86 85 true (.p .mv) [(.t 10)], iG 87 85 true (.p .mv) [(.t 9)], iG 88 85 true (.p (.bin .shr)) [(.t 87), (.c (.int .u64 (.ofNat 4)))],
    iG 89 85 true (.p (.bin .add)) [(.c (.int .i64 (.ofNat 4))), (.t 88)], iG 90 85 true (.p (.bin .geq)) [(.t 86), (.t 89)], iG 91 84 false (.p .pick) [(.t 85), (.t 90), (.c (.bool false))], iG 92 84 false (.p .mv) [(.t 91)], iG 93 92 true (.p .mv) [(.t 9)], iG 94 92 true (.p .mv) [(.t 0)], iG 95 92 true (.p .lenS) [(.t 94)], iG 96 92 true (.p (.bin .lss)) [(.t 93), (.t 95)], iG 97 84 false (.p .pick) [(.t 92), (.t 96), (.c (.bool false))], iR 98 (.p .pick) [(.t 84), (.c (.bool true)), (.t 97)]]) (.keep [0, 7, 8, 9, 98] (.cond (.t 98) .bad .skip)))))))))))))))))))))) (.keep [] (.seq (.seq (.reg [iR 4 (.p .mv) [(.c (.int .i64 (.negSucc 0)))]]) (.keep [4] (.keep [4] .ret))) (.keep [0, 7, 8, 9] (.seq .skip (.keep [0, 7, 8, 9] (.seq (.cond (.c (.bool true)) (.seq .bad (.keep [8, 9, 13] (.seq (.reg [iR 107 (.p .mv) [(.t 13)],
    iR 108 (.p (.bin .geq)) [(.t 107), (.c (.int .i64 (.ofNat 0)))]]) (.keep [8, 9, 13, 108] (.cond (.t 108) (.seq (.reg [iR 109 (.p .mv) [(.t 9)], iR 110 (.p .mv) [(.t 13)], iR 111 (.p (.bin .add)) [(.t 109), (.t 110)], iR 112 (.p .mv) [(.t 8)], iR 113 (.p (.bin .sub)) [(.t 111), (.t 112)], iR 4 (.p .mv) [(.t 113)]]) (.keep [4] (.keep [4] .ret))) .skip))))) (.scope (.seq (.reg [iR 114 (.p .mv) [(.t 7)], iR 115 (.p .mv) [(.t 8)], iR 116 (.p .strIndex) [(.t 114), (.t 115)], iR 14 (.p .mv) [(.t 116)]]) (.keep [0, 7, 8, 9, 14] (.seq (.reg [iR 117 (.p .mv) [(.t 7)], iR 118 (.p .mv) [(.t 8)], iR 119 (.p (.bin .sub)) [(.t 118), (.c (.int .i64 (.ofNat 1)))], iR 120 (.p .strIndex) [(.t 117), (.t 119)], iR 15 (.p .mv) [(.t 120)]]) (.keep [0, 7, 8, 9, 14, 15] (.seq .skip (.keep [0, 7, 8, 9, 14, 15] (.block 5 (.loop (.keep [0, 7, 8, 9, 14, 15] (.seq (.seq (.reg [iR 121 (.p .mv) [(.t 9)],
    iR 122 (.p .mv) [(.t 0)], iR 123 (.p .lenS) [(.t 122)], iR 124 (.p (.bin .lss)) [(.t 121), (.t 123)]]) (.keep [0, 7, 8, 9, 14, 15, 124] (.cond (.t 124) .skip (.keep [] (.exit 5))))) (.keep [0, 7, 8, 9, 14, 15] (.seq (.block 6 (.seq (.reg [iR 127 (.p .mv) [(.t 0)], iR 128 (.p .mv) [(.t 9)], iR 129 (.p .strIndex) [(.t 127), (.t 128)], iR 130 (.p .mv) [(.t 14)], iR 131 (.p (.bin .eql)) [(.t 129), (.t 130)], iR 132 (.p .mv) [(.t 131)], iG 133 132 true (.p .mv) [(.t 0)], iG 134 132 true (.p .mv) [(.t 9)], iG 135 132 true (.p (.bin .sub)) [(.t 134), (.c (.int .i64 (.ofNat 1)))], iG 136 132 true (.p .strIndex) [(.t 133), (.t 135)], iG 137 132 true (.p .mv) [(.t 15)], iG 138 132 true (.p (.bin .eql)) [(.t 136), (.t 137)], iR 139 (.p .pick) [(.t 132), (.t 138), (.c (.bool false))]]) (.keep [0, 7, 8, 9, 14, 15, 139] (.cond (.t 139)
    (.seq (.seq (.reg [iR 16 (.p .mv) [(.c (.int .i64 (.ofNat 2)))]]) (.keep [0, 7, 8, 9, 14, 15, 16] (.block 7 (.loop (.keep [0, 7, 8, 9, 14, 15, 16] (.seq (.seq (.reg [iR 140 (.p .mv) [(.t 16)], iR 141 (.p .mv) [(.t 7)], iR 142 (.p .lenS) [(.t 141)], iR 143 (.p (.bin .lss)) [(.t 140), (.t 142)]]) (.keep [0, 7, 8, 9, 14, 15, 16, 143] (.cond (.t 143) .skip (.keep [8, 9] (.exit 7))))) (.keep [0, 7, 8, 9, 14, 15, 16] (.seq (.block 8 (.seq (.draw [iR 146 (.p .mv) [(.t 0)], iR 147 (.p .mv) [(.t 9)], iR 148 (.p .mv) [(.t 16)], iR 149 (.p (.bin .sub)) [(.t 147), (.t 148)], iR 150 (.p .strIndex) [(.t 146), (.t 149)], iR 151 (.p .mv) [(.t 7)], iR 152 (.p .mv) [(.t 8)], iR 153 (.p .mv) [(.t 16)], iR 154 (.p (.bin .sub)) [(.t 152), (.t 153)], iR 155 (.p .strIndex) [(.t 151), (.t 154)], iR 156 (.p (.bin .neq)) [(.t 150), (.t 155)]]) (.keep [0, 7, 8, 9, 14, 15, 16, 156] (.cond (.t 156)
    (.keep [0, 7, 8, 9, 14, 15] (.exit 6)) .skip)))) (.keep [0, 7, 8, 9, 14, 15, 16] (.reg [iR 144 (.p .mv) [(.t 16)], iR 145 (.p (.bin .add)) [(.t 144), (.c (.int .i64 (.ofNat 1)))], iR 16 (.p .mv) [(.t 145)]])))))))))) (.keep [8, 9] (.seq (.reg [iR 157 (.p .mv) [(.t 9)], iR 158 (.p .mv) [(.t 8)], iR 159 (.p (.bin .sub)) [(.t 157), (.t 158)], iR 4 (.p .mv) [(.t 159)]]) (.keep [4] (.keep [4] .ret))))) .skip)))) (.keep [0, 7, 8, 9, 14, 15] (.reg [iR 125 (.p .mv) [(.t 9)], iR 126 (.p (.bin .add)) [(.t 125), (.c (.int .i64 (.ofNat 1)))], iR 9 (.p .mv) [(.t 126)]])))))))))))))))) (.keep [] (.seq (.reg [iR 4 (.p .mv) [(.c (.int .i64 (.negSucc 0)))]]) (.keep [4] (.keep [4] .ret)))))))))))))))))))))))))))))))), [(.t 4)]⟩
def s_strings_IndexRune_j0 (call : CallK) (N : Nat) (q : KV) (st : St) (τ : Tape) : Ans := match st with
  | ⟨fr, H⟩ => q (.int .i64 (.negSucc 0)) H τ
def s_strings_IndexRune_l1 (call : CallK) (N : Nat) (st : St) (τ : Tape) (k : KC) : Ans := match st with
  | ⟨fr, H⟩ => getK fr 175 fun t175 => effK (eNext [t175] H τ) fun v16 H17 τ18 => someK (pExtract 0 [v16]) fun v19 => condK v19 (someK (pExtract 1 [v16]) fun v20 => someK (pExtract 2 [v16]) fun v21 => binK .eql v21 (.int .i32 (.ofNat 65533)) fun v22 => condK v22 (k .ret ⟨(T.set .leaf 4 v20), H17⟩ τ18) (k .normal ⟨(T.set (T.set (T.set .leaf 5 v20) 175 t175) 181 v22), H17⟩ τ18)) (k (.exit 9) ⟨.leaf, H17⟩ τ18)
def s_strings_IndexRune_j2 (call : CallK) (N : Nat) (q : KV) (st : St) (τ : Tape) : Ans := match st with
  | ⟨fr, H⟩ => q (.int .i64 (.negSucc 0)) H τ
def s_strings_IndexRune_j5 (call : CallK) (N : Nat) (k : KC) (st : St) (τ : Tape) : Ans := match st with
  | ⟨fr, H⟩ => getK fr 8 fun t8 => getK fr 9 fun t9 => binK .sub t9 t8 fun v35 => k .ret ⟨(T.set .leaf 4 v35), H⟩ τ
def s_strings_IndexRune_l6 (call : CallK) (N : Nat) (st : St) (τ : Tape) (k : KC) : Ans := match st with
  | ⟨fr, H⟩ => getK fr 0 fun t0 => getK fr 7 fun t7 => getK fr 8 fun t8 => getK fr 9 fun t9 => getK fr 12 fun t12 => someK (pLenS [t7]) fun v36 => binK .lss t12 v36 fun v37 => condK v37 (binK .sub t9 t12 fun v38 => someK (pStrIndex [t0, v38]) fun v39 => binK .sub t8 t12 fun v40 => someK (pStrIndex [t7, v40]) fun v41 => binK .neq v39 v41 fun v42 => condK v42 (none) (binK .add t12 (.int .i64 (.ofNat 1)) fun v43 => k .normal ⟨(T.set (T.set (T.set (T.set (T.set (T.set (T.set (T.set .leaf 0 t0) 7 t7) 8 t8) 9 t9) 12 t12) 52 t12) 53 v43) 12 v43), H⟩ τ)) (k (.exit 3) ⟨(T.set (T.set .leaf 8 t8) 9 t9), H⟩ τ)
def s_strings_IndexRune_j4 (call : CallK) (N : Nat) (k : KC) (st : St) (τ : Tape) : Ans := match st with
  | ⟨fr, H⟩ => getK fr 0 fun t0 => getK fr 7 fun t7 => getK fr 8 fun t8 => getK fr 9 fun t9 => loopK (s_strings_IndexRune_l6 call N) N ⟨(T.set (T.set (T.set (T.set (T.set .leaf 0 t0) 7 t7) 8 t8) 9 t9) 12 (.int .i64 (.ofNat 1))), H⟩ τ (blockK 3 (seqK (s_strings_IndexRune_j5 call N k) (blockK 2 k)))
def s_strings_IndexRune_l3 (call : CallK) (N : Nat) (st : St) (τ : Tape) (k : KC) : Ans := match st with
  | ⟨fr, H⟩ => getK fr 0 fun t0 => getK fr 7 fun t7 => getK fr 8 fun t8 => getK fr 9 fun t9 => someK (pLenS [t0]) fun v30 => binK .lss t9 v30 fun v31 => condK v31 (someK (pStrIndex [t0, t9]) fun v32 => someK (pStrIndex [t7, t8]) fun v33 => binK .neq v32 v33 fun v34 => condK v34 (binK .add t9 (.int .i64 (.ofNat 1)) fun v44 => someK (pStrSlice true false [t0, v44]) fun v45 => someK (pStrIndex [t7, t8]) fun v46 => call f_strings_IndexByte [v45, v46] H τ fun v47 H48 τ49 => binK .lss v47 (.int .i64 (.ofNat 0)) fun v50 => condK v50 (k .ret ⟨(T.set .leaf 4 (.int .i64 (.negSucc 0))), H48⟩ τ49) (binK .add v47 (.int .i64 (.ofNat 1)) fun v51 => binK .add t9 v51 fun v52 => s_strings_IndexRune_j4 call N k ⟨(T.set (T.set (T.set (T.set (T.set (T.set (T.set (T.set (T.set (T.set .leaf 0 t0) 7 t7) 8 t8) 9 t9) 11 v47) 44 t9) 45 v47) 46 v51) 47 v52) 9 v52), H48⟩ τ49))
    (s_strings_IndexRune_j4 call N k ⟨(T.set (T.set (T.set (T.set (T.set .leaf 0 t0) 7 t7) 8 t8) 9 t9) 33 v34), H⟩ τ)) (k (.exit 1) ⟨.leaf, H⟩ τ)
def s_strings_IndexRune (call : CallK) (N : Nat) (a0 a1 : V) (H : Heap) (τ : Tape) (q : KV) : Ans := binK .leq (.int .i32 (.ofNat 0)) a1 fun v0 => gK v0 true (fun q' => q' a1 H τ) H τ fun v1 H2 τ3 => gK v0 true (fun q' => binK .lss v1 (.int .i32 (.ofNat 128)) fun v => q' v H2 τ3) H2 τ3 fun v4 H5 τ6 => someK (pPick [v0, v4, (.bool false)]) fun v7 => condK v7 (toIntK .u8 a1 fun v8 => call f_strings_IndexByte [a0, v8] H5 τ6 fun v9 H10 τ11 => q v9 H10 τ11) (binK .eql a1 (.int .i32 (.ofNat 65533)) fun v12 => condK v12 (effK (eRange [a0] H5 τ6) fun v13 H14 τ15 => loopK (s_strings_IndexRune_l1 call N) N ⟨(T.set .leaf 175 v13), H14⟩ τ15 (blockK 9 (seqK (s_strings_IndexRune_j0 call N q) (blockK 0 (endK [(.t 4)] q))))) (call f_utf8_ValidRune [a1] H5 τ6 fun v23 H24 τ25 => unK .not v23 fun v26 => condK v26 (q (.int .i64 (.negSucc 0)) H24 τ25) (someK (pRuneStr [a1]) fun v27 =>
    someK (pLenS [v27]) fun v28 => binK .sub v28 (.int .i64 (.ofNat 1)) fun v29 => loopK (s_strings_IndexRune_l3 call N) N ⟨(T.set (T.set (T.set (T.set .leaf 0 a0) 7 v27) 8 v29) 9 v29), H24⟩ τ25 (blockK 1 (seqK (s_strings_IndexRune_j2 call N q) (blockK 0 (endK [(.t 4)] q)))))))
theorem s_strings_IndexRune_eq (call : CallK) (N : Nat) (a0 a1 : V) (H : Heap) (τ : Tape) (q : KV) : s_strings_IndexRune call N a0 a1 H τ q = funK call N fn_strings_IndexRune [a0, a1] H τ q := by kernel_rfl
def e_strings_IndexRune (call : CallK) (N : Nat) (vs : List V) (H : Heap) (τ : Tape) (q : KV) : Ans := match vs with | [a0, a1] => s_strings_IndexRune call N a0 a1 H τ q | _ => none
theorem e_strings_IndexRune_ok : EntOk fn_strings_IndexRune e_strings_IndexRune := by
  intro call N vs H τ q r h
  unfold e_strings_IndexRune at h
  split at h
  · rw [s_strings_IndexRune_eq] at h; exact h
  · cases h
theorem e_strings_IndexRune_nat : EntNat e_strings_IndexRune := by
  intro c hn N vs H τ q
  unfold e_strings_IndexRune
  split
  · rw [s_strings_IndexRune_eq, s_strings_IndexRune_eq]; exact funK_ent hn _ _ _ _ _ _
  · rfl
/-- strings.shouldUseASCIISet -/
def fn_strings_shouldUseASCIISet : Fun := ⟨1, (.seq (.reg [iR 2 (.p .mv) [(.c (.bool false))]]) (.keep [0] (.seq (.reg [iR 3 (.p .mv) [(.t 0)], iR 4 (.p (.bin .gtr)) [(.t 3), (.c (.int .i64 (.ofNat 8)))], iR 2 (.p .mv) [(.t 4)]]) (.keep [2] (.keep [2] .ret))))), [(.t 2)]⟩
def s_strings_shouldUseASCIISet (call : CallK) (N : Nat) (a0 : V) (H : Heap) (τ : Tape) (q : KV) : Ans := binK .gtr a0 (.int .i64 (.ofNat 8)) fun v0 => q v0 H τ
theorem s_strings_shouldUseASCIISet_eq (call : CallK) (N : Nat) (a0 : V) (H : Heap) (τ : Tape) (q : KV) : s_strings_shouldUseASCIISet call N a0 H τ q = funK call N fn_strings_shouldUseASCIISet [a0] H τ q := by kernel_rfl
def e_strings_shouldUseASCIISet (call : CallK) (N : Nat) (vs : List V) (H : Heap) (τ : Tape) (q : KV) : Ans := match vs with | [a0] => s_strings_shouldUseASCIISet call N a0 H τ q | _ => none
theorem e_strings_shouldUseASCIISet_ok : EntOk fn_strings_shouldUseASCIISet e_strings_shouldUseASCIISet := by
  intro call N vs H τ q r h
  unfold e_strings_shouldUseASCIISet at h
  split at h
  · rw [s_strings_shouldUseASCIISet_eq] at h; exact h
  · cases h
theorem e_strings_shouldUseASCIISet_nat : EntNat e_strings_shouldUseASCIISet := by
  intro c hn N vs H τ q
  unfold e_strings_shouldUseASCIISet
  split
  · rw [s_strings_shouldUseASCIISet_eq, s_strings_shouldUseASCIISet_eq]; exact funK_ent hn _ _ _ _ _ _
  · rfl
/-- internal/strconv.small -/
def fn_strconv_small : Fun := ⟨1, (.seq (.reg [iR 2 (.p .mv) [(.c (.str []))]]) (.keep [0] (.seq (.seq (.reg [iR 3 (.p .mv) [(.t 0)], iR 4 (.p (.bin .lss)) [(.t 3), (.c (.int .i64 (.ofNat 10)))]]) (.keep [0, 4] (.cond (.t 4) (.seq (.reg [iR 5 (.p .mv) [(.t 0)], iR 6 (.p .mv) [(.t 0)], iR 7 (.p (.bin .add)) [(.t 6), (.c (.int .i64 (.ofNat 1)))], iR 8 (.p (.strSlice true true)) [(.c (.str (bs [48, 49, 50, 51, 52, 53, 54, 55, 56, 57, 97, 98, 99, 100, 101, 102, 103, 104, 105, 106, 107, 108, 109, 110, 111, 112, 113, 114, 115, 116, 117, 118, 119, 120, 121, 122]))), (.t 5), (.t 7)], iR 2 (.p .mv) [(.t 8)]]) (.keep [2] (.keep [2] .ret))) .skip))) (.keep [0] (.seq (.reg [iR 9 (.p .mv) [(.t 0)], iR 10 (.p (.bin .mul)) [(.t 9), (.c (.int .i64 (.ofNat 2)))], iR 11 (.p .mv) [(.t 0)], iR 12 (.p (.bin .mul)) [(.t 11), (.c (.int .i64 (.ofNat 2)))],
    iR 13 (.p (.bin .add)) [(.t 12), (.c (.int .i64 (.ofNat 2)))],
    iR 14 (.p (.strSlice true true)) [(.c (.str (bs [48, 48, 48, 49, 48, 50, 48, 51, 48, 52, 48, 53, 48, 54, 48, 55, 48, 56, 48, 57, 49, 48, 49, 49, 49, 50, 49, 51, 49, 52, 49, 53, 49, 54, 49, 55, 49, 56, 49, 57, 50, 48, 50, 49, 50, 50, 50, 51, 50, 52, 50, 53, 50, 54, 50, 55, 50, 56, 50, 57, 51, 48, 51, 49, 51, 50, 51, 51, 51, 52, 51, 53, 51, 54, 51, 55, 51, 56, 51, 57, 52, 48, 52, 49, 52, 50, 52, 51, 52, 52, 52, 53, 52, 54, 52, 55, 52, 56, 52, 57, 53, 48, 53, 49, 53, 50, 53, 51, 53, 52, 53, 53, 53, 54, 53, 55, 53, 56, 53, 57, 54, 48, 54, 49, 54, 50, 54, 51, 54, 52, 54, 53, 54, 54, 54, 55, 54, 56, 54, 57, 55, 48, 55, 49, 55, 50, 55, 51, 55, 52, 55, 53, 55, 54, 55, 55, 55, 56, 55, 57, 56, 48, 56, 49, 56, 50, 56, 51, 56, 52, 56, 53, 56, 54, 56, 55, 56, 56, 56, 57, 57, 48, 57, 49, 57, 50, 57, 51, 57, 52, 57, 53, 57, 54, 57, 55, 57, 56, 57, 57]))), (.t 10), (.t 13)],
    iR 2 (.p .mv) [(.t 14)]]) (.keep [2] (.keep [2] .ret))))))), [(.t 2)]⟩
def s_strconv_small (call : CallK) (N : Nat) (a0 : V) (H : Heap) (τ : Tape) (q : KV) : Ans := funK call N fn_strconv_small [a0] H τ q
theorem s_strconv_small_eq (call : CallK) (N : Nat) (a0 : V) (H : Heap) (τ : Tape) (q : KV) : s_strconv_small call N a0 H τ q = funK call N fn_strconv_small [a0] H τ q := by kernel_rfl
def e_strconv_small (call : CallK) (N : Nat) (vs : List V) (H : Heap) (τ : Tape) (q : KV) : Ans := match vs with | [a0] => s_strconv_small call N a0 H τ q | _ => none
theorem e_strconv_small_ok : EntOk fn_strconv_small e_strconv_small := by
  intro call N vs H τ q r h
  unfold e_strconv_small at h
  split at h
  · rw [s_strconv_small_eq] at h; exact h
  · cases h
theorem e_strconv_small_nat : EntNat e_strconv_small := by
  intro c hn N vs H τ q
  unfold e_strconv_small
  split
  · rw [s_strconv_small_eq, s_strconv_small_eq]; exact funK_ent hn _ _ _ _ _ _
  · rfl
/-- internal/strconv.numDigits -/
def fn_strconv_numDigits : Fun := ⟨1, (.seq (.reg [iR 2 (.p .mv) [(.c (.int .i64 (.ofNat 0)))]]) (.keep [0] (.seq (.reg [iR 4 (.p .mv) [(.t 0)], iR 5 (.call 110) [(.t 4)], iR 6 (.call 109) [(.t 5)], iR 3 (.p .mv) [(.t 6)]]) (.keep [0, 3] (.seq (.reg [iR 7 (.p .mv) [(.t 3)], iR 8 (.p .mv) [(.t 0)], iR 9 (.p .mv) [(.t 3)], iR 10 (.p (.arrIdx 20 1)) [(.c (.ptr 1 0)), (.t 9)], iR 11 (.l (.load none)) [(.t 10)], iR 12 (.p (.bin .geq)) [(.t 8), (.t 11)], iR 13 (.call 111) [(.t 12)], iR 14 (.p (.bin .add)) [(.t 7), (.t 13)], iR 2 (.p .mv) [(.t 14)]]) (.keep [2] (.keep [2] .ret))))))), [(.t 2)]⟩
def s_strconv_numDigits (call : CallK) (N : Nat) (a0 : V) (H : Heap) (τ : Tape) (q : KV) : Ans := funK call N fn_strconv_numDigits [a0] H τ q
theorem s_strconv_numDigits_eq (call : CallK) (N : Nat) (a0 : V) (H : Heap) (τ : Tape) (q : KV) : s_strconv_numDigits call N a0 H τ q = funK call N fn_strconv_numDigits [a0] H τ q := by kernel_rfl
def e_strconv_numDigits (call : CallK) (N : Nat) (vs : List V) (H : Heap) (τ : Tape) (q : KV) : Ans := match vs with | [a0] => s_strconv_numDigits call N a0 H τ q | _ => none
theorem e_strconv_numDigits_ok : EntOk fn_strconv_numDigits e_strconv_numDigits := by
  intro call N vs H τ q r h
  unfold e_strconv_numDigits at h
  split at h
  · rw [s_strconv_numDigits_eq] at h; exact h
  · cases h
theorem e_strconv_numDigits_nat : EntNat e_strconv_numDigits := by
  intro c hn N vs H τ q
  unfold e_strconv_numDigits
  split
  · rw [s_strconv_numDigits_eq, s_strconv_numDigits_eq]; exact funK_ent hn _ _ _ _ _ _
  · rfl
/-- internal/strconv.formatBase10 -/
def fn_strconv_formatBase10 : Fun := ⟨2, (.seq (.reg [iR 17 (.p .mv) [(.t 0)], iR 18 (.p .len) [(.t 17)], iR 4 (.p .mv) [(.t 18)]]) (.keep [0, 1, 4] (.seq (.block 0 (.loop (.keep [0, 1, 4] (.seq (.seq (.reg [iR 19 (.p .mv) [(.t 4)], iR 20 (.p (.bin .geq)) [(.t 19), (.c (.int .i64 (.ofNat 8)))]]) (.keep [0, 1, 4, 20] (.cond (.t 20) .skip (.keep [0, 1, 4] (.exit 0))))) (.keep [0, 1, 4] (.block 1 (.seq (.reg [iR 21 (.p .mv) [(.t 1)], iR 22 (.p (.bin .rem)) [(.t 21), (.c (.int .u64 (.ofNat 100000000)))], iR 23 (.p (.toInt .u32)) [(.t 22)], iR 5 (.p .mv) [(.t 23)]]) (.keep [0, 1, 4, 5] (.seq (.reg [iR 24 (.p .mv) [(.t 1)], iR 25 (.p (.bin .quo)) [(.t 24), (.c (.int .u64 (.ofNat 100000000)))], iR 1 (.p .mv) [(.t 25)]]) (.keep [0, 1, 4, 5] (.seq (.reg [iR 26 (.p .mv) [(.t 5)], iR 27 (.p (.bin .quo)) [(.t 26), (.c (.int .u32 (.ofNat 10000)))], iR 28 (.p .mv) [(.t 5)],
    iR 29 (.p (.bin .rem)) [(.t 28), (.c (.int .u32 (.ofNat 10000)))], iR 6 (.p .mv) [(.t 27)], iR 7 (.p .mv) [(.t 29)]]) (.keep [0, 1, 4, 6, 7] (.seq (.reg [iR 30 (.p .mv) [(.t 7)], iR 31 (.p (.bin .quo)) [(.t 30), (.c (.int .u32 (.ofNat 100)))], iR 32 (.p (.bin .mul)) [(.t 31), (.c (.int .u32 (.ofNat 2)))], iR 33 (.p .mv) [(.t 7)], iR 34 (.p (.bin .rem)) [(.t 33), (.c (.int .u32 (.ofNat 100)))], iR 35 (.p (.bin .mul)) [(.t 34), (.c (.int .u32 (.ofNat 2)))], iR 8 (.p .mv) [(.t 32)], iR 9 (.p .mv) [(.t 35)]]) (.keep [0, 1, 4, 6, 8, 9] (.seq (.reg [iR 36 (.p .mv) [(.t 6)], iR 37 (.p (.bin .quo)) [(.t 36), (.c (.int .u32 (.ofNat 100)))], iR 38 (.p (.bin .mul)) [(.t 37), (.c (.int .u32 (.ofNat 2)))], iR 39 (.p .mv) [(.t 6)], iR 40 (.p (.bin .rem)) [(.t 39), (.c (.int .u32 (.ofNat 100)))], iR 41 (.p (.bin .mul)) [(.t 40), (.c (.int .u32 (.ofNat 2)))], iR 10 (.p .mv) [(.t 38)],
    iR 11 (.p .mv) [(.t 41)]]) (.keep [0, 1, 4, 8, 9, 10, 11] (.seq (.draw [iR 42 (.p .mv) [(.t 0)], iR 43 (.p .mv) [(.t 4)], iR 44 (.p (.bin .sub)) [(.t 43), (.c (.int .i64 (.ofNat 1)))], iR 45 (.p .mv) [(.t 0)], iR 46 (.p .mv) [(.t 4)], iR 47 (.p (.bin .sub)) [(.t 46), (.c (.int .i64 (.ofNat 2)))], iR 48 (.p .mv) [(.t 9)], iR 49 (.p (.bin .add)) [(.t 48), (.c (.int .u32 (.ofNat 1)))],
    iR 50 (.p .strIndex) [(.c (.str (bs [48, 48, 48, 49, 48, 50, 48, 51, 48, 52, 48, 53, 48, 54, 48, 55, 48, 56, 48, 57, 49, 48, 49, 49, 49, 50, 49, 51, 49, 52, 49, 53, 49, 54, 49, 55, 49, 56, 49, 57, 50, 48, 50, 49, 50, 50, 50, 51, 50, 52, 50, 53, 50, 54, 50, 55, 50, 56, 50, 57, 51, 48, 51, 49, 51, 50, 51, 51, 51, 52, 51, 53, 51, 54, 51, 55, 51, 56, 51, 57, 52, 48, 52, 49, 52, 50, 52, 51, 52, 52, 52, 53, 52, 54, 52, 55, 52, 56, 52, 57, 53, 48, 53, 49, 53, 50, 53, 51, 53, 52, 53, 53, 53, 54, 53, 55, 53, 56, 53, 57, 54, 48, 54, 49, 54, 50, 54, 51, 54, 52, 54, 53, 54, 54, 54, 55, 54, 56, 54, 57, 55, 48, 55, 49, 55, 50, 55, 51, 55, 52, 55, 53, 55, 54, 55, 55, 55, 56, 55, 57, 56, 48, 56, 49, 56, 50, 56, 51, 56, 52, 56, 53, 56, 54, 56, 55, 56, 56, 56, 57, 57, 48, 57, 49, 57, 50, 57, 51, 57, 52, 57, 53, 57, 54, 57, 55, 57, 56, 57, 57]))), (.t 49)], iR 51 (.p .mv) [(.t 9)],
    iR 52 (.p .strIndex) [(.c (.str (bs [48, 48, 48, 49, 48, 50, 48, 51, 48, 52, 48, 53, 48, 54, 48, 55, 48, 56, 48, 57, 49, 48, 49, 49, 49, 50, 49, 51, 49, 52, 49, 53, 49, 54, 49, 55, 49, 56, 49, 57, 50, 48, 50, 49, 50, 50, 50, 51, 50, 52, 50, 53, 50, 54, 50, 55, 50, 56, 50, 57, 51, 48, 51, 49, 51, 50, 51, 51, 51, 52, 51, 53, 51, 54, 51, 55, 51, 56, 51, 57, 52, 48, 52, 49, 52, 50, 52, 51, 52, 52, 52, 53, 52, 54, 52, 55, 52, 56, 52, 57, 53, 48, 53, 49, 53, 50, 53, 51, 53, 52, 53, 53, 53, 54, 53, 55, 53, 56, 53, 57, 54, 48, 54, 49, 54, 50, 54, 51, 54, 52, 54, 53, 54, 54, 54, 55, 54, 56, 54, 57, 55, 48, 55, 49, 55, 50, 55, 51, 55, 52, 55, 53, 55, 54, 55, 55, 55, 56, 55, 57, 56, 48, 56, 49, 56, 50, 56, 51, 56, 52, 56, 53, 56, 54, 56, 55, 56, 56, 56, 57, 57, 48, 57, 49, 57, 50, 57, 51, 57, 52, 57, 53, 57, 54, 57, 55, 57, 56, 57, 57]))), (.t 51)],
    iR 53 (.p (.slIdx 1)) [(.t 42), (.t 44)], ⟨none, none, (.e (.store 1)), [(.t 53), (.t 50)], none⟩, iR 54 (.p (.slIdx 1)) [(.t 45), (.t 47)], ⟨none, none, (.e (.store 1)), [(.t 54), (.t 52)], none⟩]) (.keep [0, 1, 4, 8, 10, 11] (.seq (.draw [iR 55 (.p .mv) [(.t 0)], iR 56 (.p .mv) [(.t 4)], iR 57 (.p (.bin .sub)) [(.t 56), (.c (.int .i64 (.ofNat 3)))], iR 58 (.p .mv) [(.t 0)], iR 59 (.p .mv) [(.t 4)], iR 60 (.p (.bin .sub)) [(.t 59), (.c (.int .i64 (.ofNat 4)))], iR 61 (.p .mv) [(.t 8)], iR 62 (.p (.bin .add)) [(.t 61), (.c (.int .u32 (.ofNat 1)))],
    iR 63 (.p .strIndex) [(.c (.str (bs [48, 48, 48, 49, 48, 50, 48, 51, 48, 52, 48, 53, 48, 54, 48, 55, 48, 56, 48, 57, 49, 48, 49, 49, 49, 50, 49, 51, 49, 52, 49, 53, 49, 54, 49, 55, 49, 56, 49, 57, 50, 48, 50, 49, 50, 50, 50, 51, 50, 52, 50, 53, 50, 54, 50, 55, 50, 56, 50, 57, 51, 48, 51, 49, 51, 50, 51, 51, 51, 52, 51, 53, 51, 54, 51, 55, 51, 56, 51, 57, 52, 48, 52, 49, 52, 50, 52, 51, 52, 52, 52, 53, 52, 54, 52, 55, 52, 56, 52, 57, 53, 48, 53, 49, 53, 50, 53, 51, 53, 52, 53, 53, 53, 54, 53, 55, 53, 56, 53, 57, 54, 48, 54, 49, 54, 50, 54, 51, 54, 52, 54, 53, 54, 54, 54, 55, 54, 56, 54, 57, 55, 48, 55, 49, 55, 50, 55, 51, 55, 52, 55, 53, 55, 54, 55, 55, 55, 56, 55, 57, 56, 48, 56, 49, 56, 50, 56, 51, 56, 52, 56, 53, 56, 54, 56, 55, 56, 56, 56, 57, 57, 48, 57, 49, 57, 50, 57, 51, 57, 52, 57, 53, 57, 54, 57, 55, 57, 56, 57, 57]))), (.t 62)], iR 64 (.p .mv) [(.t 8)],
    iR 65 (.p .strIndex) [(.c (.str (bs [48, 48, 48, 49, 48, 50, 48, 51, 48, 52, 48, 53, 48, 54, 48, 55, 48, 56, 48, 57, 49, 48, 49, 49, 49, 50, 49, 51, 49, 52, 49, 53, 49, 54, 49, 55, 49, 56, 49, 57, 50, 48, 50, 49, 50, 50, 50, 51, 50, 52, 50, 53, 50, 54, 50, 55, 50, 56, 50, 57, 51, 48, 51, 49, 51, 50, 51, 51, 51, 52, 51, 53, 51, 54, 51, 55, 51, 56, 51, 57, 52, 48, 52, 49, 52, 50, 52, 51, 52, 52, 52, 53, 52, 54, 52, 55, 52, 56, 52, 57, 53, 48, 53, 49, 53, 50, 53, 51, 53, 52, 53, 53, 53, 54, 53, 55, 53, 56, 53, 57, 54, 48, 54, 49, 54, 50, 54, 51, 54, 52, 54, 53, 54, 54, 54, 55, 54, 56, 54, 57, 55, 48, 55, 49, 55, 50, 55, 51, 55, 52, 55, 53, 55, 54, 55, 55, 55, 56, 55, 57, 56, 48, 56, 49, 56, 50, 56, 51, 56, 52, 56, 53, 56, 54, 56, 55, 56, 56, 56, 57, 57, 48, 57, 49, 57, 50, 57, 51, 57, 52, 57, 53, 57, 54, 57, 55, 57, 56, 57, 57]))), (.t 64)],
    iR 66 (.p (.slIdx 1)) [(.t 55), (.t 57)], ⟨none, none, (.e (.store 1)), [(.t 66), (.t 63)], none⟩, iR 67 (.p (.slIdx 1)) [(.t 58), (.t 60)], ⟨none, none, (.e (.store 1)), [(.t 67), (.t 65)], none⟩]) (.keep [0, 1, 4, 10, 11] (.seq (.draw [iR 68 (.p .mv) [(.t 0)], iR 69 (.p .mv) [(.t 4)], iR 70 (.p (.bin .sub)) [(.t 69), (.c (.int .i64 (.ofNat 5)))], iR 71 (.p .mv) [(.t 0)], iR 72 (.p .mv) [(.t 4)], iR 73 (.p (.bin .sub)) [(.t 72), (.c (.int .i64 (.ofNat 6)))], iR 74 (.p .mv) [(.t 11)], iR 75 (.p (.bin .add)) [(.t 74), (.c (.int .u32 (.ofNat 1)))],
    iR 76 (.p .strIndex) [(.c (.str (bs [48, 48, 48, 49, 48, 50, 48, 51, 48, 52, 48, 53, 48, 54, 48, 55, 48, 56, 48, 57, 49, 48, 49, 49, 49, 50, 49, 51, 49, 52, 49, 53, 49, 54, 49, 55, 49, 56, 49, 57, 50, 48, 50, 49, 50, 50, 50, 51, 50, 52, 50, 53, 50, 54, 50, 55, 50, 56, 50, 57, 51, 48, 51, 49, 51, 50, 51, 51, 51, 52, 51, 53, 51, 54, 51, 55, 51, 56, 51, 57, 52, 48, 52, 49, 52, 50, 52, 51, 52, 52, 52, 53, 52, 54, 52, 55, 52, 56, 52, 57, 53, 48, 53, 49, 53, 50, 53, 51, 53, 52, 53, 53, 53, 54, 53, 55, 53, 56, 53, 57, 54, 48, 54, 49, 54, 50, 54, 51, 54, 52, 54, 53, 54, 54, 54, 55, 54, 56, 54, 57, 55, 48, 55, 49, 55, 50, 55, 51, 55, 52, 55, 53, 55, 54, 55, 55, 55, 56, 55, 57, 56, 48, 56, 49, 56, 50, 56, 51, 56, 52, 56, 53, 56, 54, 56, 55, 56, 56, 56, 57, 57, 48, 57, 49, 57, 50, 57, 51, 57, 52, 57, 53, 57, 54, 57, 55, 57, 56, 57, 57]))), (.t 75)], iR 77 (.p .mv) [(.t 11)],
    iR 78 (.p .strIndex) [(.c (.str (bs [48, 48, 48, 49, 48, 50, 48, 51, 48, 52, 48, 53, 48, 54, 48, 55, 48, 56, 48, 57, 49, 48, 49, 49, 49, 50, 49, 51, 49, 52, 49, 53, 49, 54, 49, 55, 49, 56, 49, 57, 50, 48, 50, 49, 50, 50, 50, 51, 50, 52, 50, 53, 50, 54, 50, 55, 50, 56, 50, 57, 51, 48, 51, 49, 51, 50, 51, 51, 51, 52, 51, 53, 51, 54, 51, 55, 51, 56, 51, 57, 52, 48, 52, 49, 52, 50, 52, 51, 52, 52, 52, 53, 52, 54, 52, 55, 52, 56, 52, 57, 53, 48, 53, 49, 53, 50, 53, 51, 53, 52, 53, 53, 53, 54, 53, 55, 53, 56, 53, 57, 54, 48, 54, 49, 54, 50, 54, 51, 54, 52, 54, 53, 54, 54, 54, 55, 54, 56, 54, 57, 55, 48, 55, 49, 55, 50, 55, 51, 55, 52, 55, 53, 55, 54, 55, 55, 55, 56, 55, 57, 56, 48, 56, 49, 56, 50, 56, 51, 56, 52, 56, 53, 56, 54, 56, 55, 56, 56, 56, 57, 57, 48, 57, 49, 57, 50, 57, 51, 57, 52, 57, 53, 57, 54, 57, 55, 57, 56, 57, 57]))), (.t 77)],
    iR 79 (.p (.slIdx 1)) [(.t 68), (.t 70)], ⟨none, none, (.e (.store 1)), [(.t 79), (.t 76)], none⟩, iR 80 (.p (.slIdx 1)) [(.t 71), (.t 73)], ⟨none, none, (.e (.store 1)), [(.t 80), (.t 78)], none⟩]) (.keep [0, 1, 4, 10] (.seq (.draw [iR 81 (.p .mv) [(.t 0)], iR 82 (.p .mv) [(.t 4)], iR 83 (.p (.bin .sub)) [(.t 82), (.c (.int .i64 (.ofNat 7)))], iR 84 (.p .mv) [(.t 0)], iR 85 (.p .mv) [(.t 4)], iR 86 (.p (.bin .sub)) [(.t 85), (.c (.int .i64 (.ofNat 8)))], iR 87 (.p .mv) [(.t 10)], iR 88 (.p (.bin .add)) [(.t 87), (.c (.int .u32 (.ofNat 1)))],
    iR 89 (.p .strIndex) [(.c (.str (bs [48, 48, 48, 49, 48, 50, 48, 51, 48, 52, 48, 53, 48, 54, 48, 55, 48, 56, 48, 57, 49, 48, 49, 49, 49, 50, 49, 51, 49, 52, 49, 53, 49, 54, 49, 55, 49, 56, 49, 57, 50, 48, 50, 49, 50, 50, 50, 51, 50, 52, 50, 53, 50, 54, 50, 55, 50, 56, 50, 57, 51, 48, 51, 49, 51, 50, 51, 51, 51, 52, 51, 53, 51, 54, 51, 55, 51, 56, 51, 57, 52, 48, 52, 49, 52, 50, 52, 51, 52, 52, 52, 53, 52, 54, 52, 55, 52, 56, 52, 57, 53, 48, 53, 49, 53, 50, 53, 51, 53, 52, 53, 53, 53, 54, 53, 55, 53, 56, 53, 57, 54, 48, 54, 49, 54, 50, 54, 51, 54, 52, 54, 53, 54, 54, 54, 55, 54, 56, 54, 57, 55, 48, 55, 49, 55, 50, 55, 51, 55, 52, 55, 53, 55, 54, 55, 55, 55, 56, 55, 57, 56, 48, 56, 49, 56, 50, 56, 51, 56, 52, 56, 53, 56, 54, 56, 55, 56, 56, 56, 57, 57, 48, 57, 49, 57, 50, 57, 51, 57, 52, 57, 53, 57, 54, 57, 55, 57, 56, 57, 57]))), (.t 88)], iR 90 (.p .mv) [(.t 10)],
    iR 91 (.p .strIndex) [(.c (.str (bs [48, 48, 48, 49, 48, 50, 48, 51, 48, 52, 48, 53, 48, 54, 48, 55, 48, 56, 48, 57, 49, 48, 49, 49, 49, 50, 49, 51, 49, 52, 49, 53, 49, 54, 49, 55, 49, 56, 49, 57, 50, 48, 50, 49, 50, 50, 50, 51, 50, 52, 50, 53, 50, 54, 50, 55, 50, 56, 50, 57, 51, 48, 51, 49, 51, 50, 51, 51, 51, 52, 51, 53, 51, 54, 51, 55, 51, 56, 51, 57, 52, 48, 52, 49, 52, 50, 52, 51, 52, 52, 52, 53, 52, 54, 52, 55, 52, 56, 52, 57, 53, 48, 53, 49, 53, 50, 53, 51, 53, 52, 53, 53, 53, 54, 53, 55, 53, 56, 53, 57, 54, 48, 54, 49, 54, 50, 54, 51, 54, 52, 54, 53, 54, 54, 54, 55, 54, 56, 54, 57, 55, 48, 55, 49, 55, 50, 55, 51, 55, 52, 55, 53, 55, 54, 55, 55, 55, 56, 55, 57, 56, 48, 56, 49, 56, 50, 56, 51, 56, 52, 56, 53, 56, 54, 56, 55, 56, 56, 56, 57, 57, 48, 57, 49, 57, 50, 57, 51, 57, 52, 57, 53, 57, 54, 57, 55, 57, 56, 57, 57]))), (.t 90)],
    iR 92 (.p (.slIdx 1)) [(.t 81), (.t 83)], ⟨none, none, (.e (.store 1)), [(.t 92), (.t 89)], none⟩, iR 93 (.p (.slIdx 1)) [(.t 84), (.t 86)], ⟨none, none, (.e (.store 1)), [(.t 93), (.t 91)], none⟩]) (.keep [0, 1, 4] (.reg [iR 94 (.p .mv) [(.t 4)], iR 95 (.p (.bin .sub)) [(.t 94), (.c (.int .i64 (.ofNat 8)))], iR 4 (.p .mv) [(.t 95)]]))))))))))))))))))))))))) (.keep [0, 1, 4] (.seq (.reg [iR 96 (.p .mv) [(.t 1)], iR 97 (.p (.toInt .u32)) [(.t 96)], iR 12 (.p .mv) [(.t 97)]]) (.keep [0, 4, 12] (.seq (.seq (.reg [iR 98 (.p .mv) [(.t 4)], iR 99 (.p (.bin .geq)) [(.t 98), (.c (.int .i64 (.ofNat 4)))]]) (.keep [0, 4, 12, 99] (.cond (.t 99) (.seq (.reg [iR 100 (.p .mv) [(.t 12)], iR 101 (.p (.bin .rem)) [(.t 100), (.c (.int .u32 (.ofNat 10000)))], iR 13 (.p .mv) [(.t 101)]]) (.keep [0, 4, 12, 13] (.seq (.reg [iR 102 (.p .mv) [(.t 12)],
    iR 103 (.p (.bin .quo)) [(.t 102), (.c (.int .u32 (.ofNat 10000)))], iR 12 (.p .mv) [(.t 103)]]) (.keep [0, 4, 12, 13] (.seq (.reg [iR 104 (.p .mv) [(.t 13)], iR 105 (.p (.bin .quo)) [(.t 104), (.c (.int .u32 (.ofNat 100)))], iR 106 (.p (.bin .mul)) [(.t 105), (.c (.int .u32 (.ofNat 2)))], iR 107 (.p .mv) [(.t 13)], iR 108 (.p (.bin .rem)) [(.t 107), (.c (.int .u32 (.ofNat 100)))], iR 109 (.p (.bin .mul)) [(.t 108), (.c (.int .u32 (.ofNat 2)))], iR 14 (.p .mv) [(.t 106)], iR 15 (.p .mv) [(.t 109)]]) (.keep [0, 4, 12, 14, 15] (.seq (.draw [iR 110 (.p .mv) [(.t 0)], iR 111 (.p .mv) [(.t 4)], iR 112 (.p (.bin .sub)) [(.t 111), (.c (.int .i64 (.ofNat 1)))], iR 113 (.p .mv) [(.t 0)], iR 114 (.p .mv) [(.t 4)], iR 115 (.p (.bin .sub)) [(.t 114), (.c (.int .i64 (.ofNat 2)))], iR 116 (.p .mv) [(.t 15)], iR 117 (.p (.bin .add)) [(.t 116), (.c (.int .u32 (.ofNat 1)))],
    iR 118 (.p .strIndex) [(.c (.str (bs [48, 48, 48, 49, 48, 50, 48, 51, 48, 52, 48, 53, 48, 54, 48, 55, 48, 56, 48, 57, 49, 48, 49, 49, 49, 50, 49, 51, 49, 52, 49, 53, 49, 54, 49, 55, 49, 56, 49, 57, 50, 48, 50, 49, 50, 50, 50, 51, 50, 52, 50, 53, 50, 54, 50, 55, 50, 56, 50, 57, 51, 48, 51, 49, 51, 50, 51, 51, 51, 52, 51, 53, 51, 54, 51, 55, 51, 56, 51, 57, 52, 48, 52, 49, 52, 50, 52, 51, 52, 52, 52, 53, 52, 54, 52, 55, 52, 56, 52, 57, 53, 48, 53, 49, 53, 50, 53, 51, 53, 52, 53, 53, 53, 54, 53, 55, 53, 56, 53, 57, 54, 48, 54, 49, 54, 50, 54, 51, 54, 52, 54, 53, 54, 54, 54, 55, 54, 56, 54, 57, 55, 48, 55, 49, 55, 50, 55, 51, 55, 52, 55, 53, 55, 54, 55, 55, 55, 56, 55, 57, 56, 48, 56, 49, 56, 50, 56, 51, 56, 52, 56, 53, 56, 54, 56, 55, 56, 56, 56, 57, 57, 48, 57, 49, 57, 50, 57, 51, 57, 52, 57, 53, 57, 54, 57, 55, 57, 56, 57, 57]))), (.t 117)], iR 119 (.p .mv) [(.t 15)],
    iR 120 (.p .strIndex) [(.c (.str (bs [48, 48, 48, 49, 48, 50, 48, 51, 48, 52, 48, 53, 48, 54, 48, 55, 48, 56, 48, 57, 49, 48, 49, 49, 49, 50, 49, 51, 49, 52, 49, 53, 49, 54, 49, 55, 49, 56, 49, 57, 50, 48, 50, 49, 50, 50, 50, 51, 50, 52, 50, 53, 50, 54, 50, 55, 50, 56, 50, 57, 51, 48, 51, 49, 51, 50, 51, 51, 51, 52, 51, 53, 51, 54, 51, 55, 51, 56, 51, 57, 52, 48, 52, 49, 52, 50, 52, 51, 52, 52, 52, 53, 52, 54, 52, 55, 52, 56, 52, 57, 53, 48, 53, 49, 53, 50, 53, 51, 53, 52, 53, 53, 53, 54, 53, 55, 53, 56, 53, 57, 54, 48, 54, 49, 54, 50, 54, 51, 54, 52, 54, 53, 54, 54, 54, 55, 54, 56, 54, 57, 55, 48, 55, 49, 55, 50, 55, 51, 55, 52, 55, 53, 55, 54, 55, 55, 55, 56, 55, 57, 56, 48, 56, 49, 56, 50, 56, 51, 56, 52, 56, 53, 56, 54, 56, 55, 56, 56, 56, 57, 57, 48, 57, 49, 57, 50, 57, 51, 57, 52, 57, 53, 57, 54, 57, 55, 57, 56, 57, 57]))), (.t 119)],
    iR 121 (.p (.slIdx 1)) [(.t 110), (.t 112)], ⟨none, none, (.e (.store 1)), [(.t 121), (.t 118)], none⟩, iR 122 (.p (.slIdx 1)) [(.t 113), (.t 115)], ⟨none, none, (.e (.store 1)), [(.t 122), (.t 120)], none⟩]) (.keep [0, 4, 12, 14] (.seq (.draw [iR 123 (.p .mv) [(.t 0)], iR 124 (.p .mv) [(.t 4)], iR 125 (.p (.bin .sub)) [(.t 124), (.c (.int .i64 (.ofNat 3)))], iR 126 (.p .mv) [(.t 0)], iR 127 (.p .mv) [(.t 4)], iR 128 (.p (.bin .sub)) [(.t 127), (.c (.int .i64 (.ofNat 4)))], iR 129 (.p .mv) [(.t 14)], iR 130 (.p (.bin .add)) [(.t 129), (.c (.int .u32 (.ofNat 1)))],
    iR 131 (.p .strIndex) [(.c (.str (bs [48, 48, 48, 49, 48, 50, 48, 51, 48, 52, 48, 53, 48, 54, 48, 55, 48, 56, 48, 57, 49, 48, 49, 49, 49, 50, 49, 51, 49, 52, 49, 53, 49, 54, 49, 55, 49, 56, 49, 57, 50, 48, 50, 49, 50, 50, 50, 51, 50, 52, 50, 53, 50, 54, 50, 55, 50, 56, 50, 57, 51, 48, 51, 49, 51, 50, 51, 51, 51, 52, 51, 53, 51, 54, 51, 55, 51, 56, 51, 57, 52, 48, 52, 49, 52, 50, 52, 51, 52, 52, 52, 53, 52, 54, 52, 55, 52, 56, 52, 57, 53, 48, 53, 49, 53, 50, 53, 51, 53, 52, 53, 53, 53, 54, 53, 55, 53, 56, 53, 57, 54, 48, 54, 49, 54, 50, 54, 51, 54, 52, 54, 53, 54, 54, 54, 55, 54, 56, 54, 57, 55, 48, 55, 49, 55, 50, 55, 51, 55, 52, 55, 53, 55, 54, 55, 55, 55, 56, 55, 57, 56, 48, 56, 49, 56, 50, 56, 51, 56, 52, 56, 53, 56, 54, 56, 55, 56, 56, 56, 57, 57, 48, 57, 49, 57, 50, 57, 51, 57, 52, 57, 53, 57, 54, 57, 55, 57, 56, 57, 57]))), (.t 130)], iR 132 (.p .mv) [(.t 14)],
    iR 133 (.p .strIndex) [(.c (.str (bs [48, 48, 48, 49, 48, 50, 48, 51, 48, 52, 48, 53, 48, 54, 48, 55, 48, 56, 48, 57, 49, 48, 49, 49, 49, 50, 49, 51, 49, 52, 49, 53, 49, 54, 49, 55, 49, 56, 49, 57, 50, 48, 50, 49, 50, 50, 50, 51, 50, 52, 50, 53, 50, 54, 50, 55, 50, 56, 50, 57, 51, 48, 51, 49, 51, 50, 51, 51, 51, 52, 51, 53, 51, 54, 51, 55, 51, 56, 51, 57, 52, 48, 52, 49, 52, 50, 52, 51, 52, 52, 52, 53, 52, 54, 52, 55, 52, 56, 52, 57, 53, 48, 53, 49, 53, 50, 53, 51, 53, 52, 53, 53, 53, 54, 53, 55, 53, 56, 53, 57, 54, 48, 54, 49, 54, 50, 54, 51, 54, 52, 54, 53, 54, 54, 54, 55, 54, 56, 54, 57, 55, 48, 55, 49, 55, 50, 55, 51, 55, 52, 55, 53, 55, 54, 55, 55, 55, 56, 55, 57, 56, 48, 56, 49, 56, 50, 56, 51, 56, 52, 56, 53, 56, 54, 56, 55, 56, 56, 56, 57, 57, 48, 57, 49, 57, 50, 57, 51, 57, 52, 57, 53, 57, 54, 57, 55, 57, 56, 57, 57]))), (.t 132)],
    iR 134 (.p (.slIdx 1)) [(.t 123), (.t 125)], ⟨none, none, (.e (.store 1)), [(.t 134), (.t 131)], none⟩, iR 135 (.p (.slIdx 1)) [(.t 126), (.t 128)], ⟨none, none, (.e (.store 1)), [(.t 135), (.t 133)], none⟩]) (.keep [0, 4, 12] (.reg [iR 136 (.p .mv) [(.t 4)], iR 137 (.p (.bin .sub)) [(.t 136), (.c (.int .i64 (.ofNat 4)))], iR 4 (.p .mv) [(.t 137)]]))))))))))) .skip))) (.keep [0, 4, 12] (.seq (.seq (.reg [iR 138 (.p .mv) [(.t 4)], iR 139 (.p (.bin .geq)) [(.t 138), (.c (.int .i64 (.ofNat 2)))]]) (.keep [0, 4, 12, 139] (.cond (.t 139) (.seq (.reg [iR 140 (.p .mv) [(.t 12)], iR 141 (.p (.bin .rem)) [(.t 140), (.c (.int .u32 (.ofNat 100)))], iR 142 (.p (.bin .mul)) [(.t 141), (.c (.int .u32 (.ofNat 2)))], iR 16 (.p .mv) [(.t 142)]]) (.keep [0, 4, 12, 16] (.seq (.reg [iR 143 (.p .mv) [(.t 12)], iR 144 (.p (.bin .quo)) [(.t 143), (.c (.int .u32 (.ofNat 100)))],
    iR 12 (.p .mv) [(.t 144)]]) (.keep [0, 4, 12, 16] (.seq (.draw [iR 145 (.p .mv) [(.t 0)], iR 146 (.p .mv) [(.t 4)], iR 147 (.p (.bin .sub)) [(.t 146), (.c (.int .i64 (.ofNat 1)))], iR 148 (.p .mv) [(.t 0)], iR 149 (.p .mv) [(.t 4)], iR 150 (.p (.bin .sub)) [(.t 149), (.c (.int .i64 (.ofNat 2)))], iR 151 (.p .mv) [(.t 16)], iR 152 (.p (.bin .add)) [(.t 151), (.c (.int .u32 (.ofNat 1)))],
    iR 153 (.p .strIndex) [(.c (.str (bs [48, 48, 48, 49, 48, 50, 48, 51, 48, 52, 48, 53, 48, 54, 48, 55, 48, 56, 48, 57, 49, 48, 49, 49, 49, 50, 49, 51, 49, 52, 49, 53, 49, 54, 49, 55, 49, 56, 49, 57, 50, 48, 50, 49, 50, 50, 50, 51, 50, 52, 50, 53, 50, 54, 50, 55, 50, 56, 50, 57, 51, 48, 51, 49, 51, 50, 51, 51, 51, 52, 51, 53, 51, 54, 51, 55, 51, 56, 51, 57, 52, 48, 52, 49, 52, 50, 52, 51, 52, 52, 52, 53, 52, 54, 52, 55, 52, 56, 52, 57, 53, 48, 53, 49, 53, 50, 53, 51, 53, 52, 53, 53, 53, 54, 53, 55, 53, 56, 53, 57, 54, 48, 54, 49, 54, 50, 54, 51, 54, 52, 54, 53, 54, 54, 54, 55, 54, 56, 54, 57, 55, 48, 55, 49, 55, 50, 55, 51, 55, 52, 55, 53, 55, 54, 55, 55, 55, 56, 55, 57, 56, 48, 56, 49, 56, 50, 56, 51, 56, 52, 56, 53, 56, 54, 56, 55, 56, 56, 56, 57, 57, 48, 57, 49, 57, 50, 57, 51, 57, 52, 57, 53, 57, 54, 57, 55, 57, 56, 57, 57]))), (.t 152)], iR 154 (.p .mv) [(.t 16)],
    iR 155 (.p .strIndex) [(.c (.str (bs [48, 48, 48, 49, 48, 50, 48, 51, 48, 52, 48, 53, 48, 54, 48, 55, 48, 56, 48, 57, 49, 48, 49, 49, 49, 50, 49, 51, 49, 52, 49, 53, 49, 54, 49, 55, 49, 56, 49, 57, 50, 48, 50, 49, 50, 50, 50, 51, 50, 52, 50, 53, 50, 54, 50, 55, 50, 56, 50, 57, 51, 48, 51, 49, 51, 50, 51, 51, 51, 52, 51, 53, 51, 54, 51, 55, 51, 56, 51, 57, 52, 48, 52, 49, 52, 50, 52, 51, 52, 52, 52, 53, 52, 54, 52, 55, 52, 56, 52, 57, 53, 48, 53, 49, 53, 50, 53, 51, 53, 52, 53, 53, 53, 54, 53, 55, 53, 56, 53, 57, 54, 48, 54, 49, 54, 50, 54, 51, 54, 52, 54, 53, 54, 54, 54, 55, 54, 56, 54, 57, 55, 48, 55, 49, 55, 50, 55, 51, 55, 52, 55, 53, 55, 54, 55, 55, 55, 56, 55, 57, 56, 48, 56, 49, 56, 50, 56, 51, 56, 52, 56, 53, 56, 54, 56, 55, 56, 56, 56, 57, 57, 48, 57, 49, 57, 50, 57, 51, 57, 52, 57, 53, 57, 54, 57, 55, 57, 56, 57, 57]))), (.t 154)],
    iR 156 (.p (.slIdx 1)) [(.t 145), (.t 147)], ⟨none, none, (.e (.store 1)), [(.t 156), (.t 153)], none⟩, iR 157 (.p (.slIdx 1)) [(.t 148), (.t 150)], ⟨none, none, (.e (.store 1)), [(.t 157), (.t 155)], none⟩]) (.keep [0, 4, 12] (.reg [iR 158 (.p .mv) [(.t 4)], iR 159 (.p (.bin .sub)) [(.t 158), (.c (.int .i64 (.ofNat 2)))], iR 4 (.p .mv) [(.t 159)]]))))))) .skip))) (.keep [0, 4, 12] (.seq (.reg [iR 160 (.p .mv) [(.t 4)], iR 161 (.p (.bin .gtr)) [(.t 160), (.c (.int .i64 (.ofNat 0)))]]) (.keep [0, 12, 161] (.cond (.t 161) (.reg [iR 162 (.p .mv) [(.t 0)], iR 163 (.p .mv) [(.t 12)], iR 164 (.p (.bin .add)) [(.c (.int .u32 (.ofNat 48))), (.t 163)], iR 165 (.p (.toInt .u8)) [(.t 164)], iR 166 (.p (.slIdx 1)) [(.t 162), (.c (.int .i64 (.ofNat 0)))], ⟨none, none, (.e (.store 1)), [(.t 166), (.t 165)], none⟩]) .skip))))))))))))), []⟩
def s_strconv_formatBase10 (call : CallK) (N : Nat) (a0 a1 : V) (H : Heap) (τ : Tape) (q : KV) : Ans := funK call N fn_strconv_formatBase10 [a0, a1] H τ q
theorem s_strconv_formatBase10_eq (call : CallK) (N : Nat) (a0 a1 : V) (H : Heap) (τ : Tape) (q : KV) : s_strconv_formatBase10 call N a0 a1 H τ q = funK call N fn_strconv_formatBase10 [a0, a1] H τ q := by kernel_rfl
def e_strconv_formatBase10 (call : CallK) (N : Nat) (vs : List V) (H : Heap) (τ : Tape) (q : KV) : Ans := match vs with | [a0, a1] => s_strconv_formatBase10 call N a0 a1 H τ q | _ => none
theorem e_strconv_formatBase10_ok : EntOk fn_strconv_formatBase10 e_strconv_formatBase10 := by
  intro call N vs H τ q r h
  unfold e_strconv_formatBase10 at h
  split at h
  · rw [s_strconv_formatBase10_eq] at h; exact h
  · cases h
theorem e_strconv_formatBase10_nat : EntNat e_strconv_formatBase10 := by
  intro c hn N vs H τ q
  unfold e_strconv_formatBase10
  split
  · rw [s_strconv_formatBase10_eq, s_strconv_formatBase10_eq]; exact funK_ent hn _ _ _ _ _ _
  · rfl
/-- internal/strconv.formatBits -/
def fn_strconv_formatBits : Fun := ⟨5, (.seq (.reg [iR 10 (.p .mv) [(.c .nils)], iR 11 (.p .mv) [(.c (.str []))]]) (.keep [0, 1, 2, 3, 4, 10, 11] (.seq (.seq (.reg [iR 19 (.p .mv) [(.t 2)], iR 20 (.p (.bin .lss)) [(.t 19), (.c (.int .i64 (.ofNat 2)))], iR 21 (.p .mv) [(.t 20)], iG 22 21 false (.p .mv) [(.t 2)], iG 23 21 false (.p (.bin .eql)) [(.t 22), (.c (.int .i64 (.ofNat 10)))], iR 24 (.p .pick) [(.t 21), (.c (.bool true)), (.t 23)], iR 25 (.p .mv) [(.t 24)], iG 26 25 false (.p .mv) [(.t 2)], iG 27 25 false (.p (.bin .gtr)) [(.t 26), (.c (.int .i64 (.ofNat 36)))], iR 28 (.p .pick) [(.t 25), (.c (.bool true)), (.t 27)]]) (.keep [0, 1, 2, 3, 4, 10, 11, 28] (.cond (.t 28) .bad .skip))) (.keep [0, 1, 2, 3, 4, 10, 11] (.seq (.reg [iR 12 (.e (.alloc (repl 65 [(.int .u8 (.ofNat 0))]))) []]) (.keep [0, 1, 2, 3, 4, 10, 11, 12] (.seq (.reg [iR 13 (.p .mv) [(.c (.int .i64 (.ofNat 65)))]])
    (.keep [0, 1, 2, 3, 4, 10, 11, 12, 13] (.seq (.seq (.reg [iR 30 (.p .mv) [(.t 3)]]) (.keep [0, 1, 2, 3, 4, 10, 11, 12, 13, 30] (.cond (.t 30) (.reg [iR 31 (.p .mv) [(.t 1)], iR 32 (.p (.un .neg)) [(.t 31)], iR 1 (.p .mv) [(.t 32)]]) .skip))) (.keep [0, 1, 2, 3, 4, 10, 11, 12, 13] (.seq (.seq (.reg [iR 33 (.p .mv) [(.t 2)], iR 34 (.call 112) [(.t 33)]]) (.keep [0, 1, 2, 3, 4, 10, 11, 12, 13, 34] (.cond (.t 34) (.seq (.reg [iR 35 (.p .mv) [(.t 2)], iR 36 (.p (.toInt .u64)) [(.t 35)], iR 37 (.call 113) [(.t 36)], iR 38 (.p (.toInt .u64)) [(.t 37)], iR 14 (.p .mv) [(.t 38)]]) (.keep [0, 1, 2, 3, 4, 10, 11, 12, 13, 14] (.seq (.reg [iR 39 (.p .mv) [(.t 2)], iR 40 (.p (.toInt .u64)) [(.t 39)], iR 15 (.p .mv) [(.t 40)]]) (.keep [0, 1, 2, 3, 4, 10, 11, 12, 13, 14, 15] (.seq (.reg [iR 41 (.p .mv) [(.t 2)], iR 42 (.p (.toInt .u64)) [(.t 41)],
    iR 43 (.p (.bin .sub)) [(.t 42), (.c (.int .u64 (.ofNat 1)))], iR 16 (.p .mv) [(.t 43)]]) (.keep [0, 1, 3, 4, 10, 11, 12, 13, 14, 15, 16] (.seq (.block 0 (.loop (.keep [0, 1, 3, 4, 10, 11, 12, 13, 14, 15, 16] (.seq (.seq (.reg [iR 44 (.p .mv) [(.t 1)], iR 45 (.p .mv) [(.t 15)], iR 46 (.p (.bin .geq)) [(.t 44), (.t 45)]]) (.keep [0, 1, 3, 4, 10, 11, 12, 13, 14, 15, 16, 46] (.cond (.t 46) .skip (.keep [0, 1, 3, 4, 10, 11, 12, 13] (.exit 0))))) (.keep [0, 1, 3, 4, 10, 11, 12, 13, 14, 15, 16] (.block 1 (.seq (.reg [iR 47 (.p .mv) [(.t 13)], iR 48 (.p (.bin .sub)) [(.t 47), (.c (.int .i64 (.ofNat 1)))], iR 13 (.p .mv) [(.t 48)]]) (.keep [0, 1, 3, 4, 10, 11, 12, 13, 14, 15, 16] (.seq (.reg [iR 49 (.p .mv) [(.t 13)], iR 50 (.p .mv) [(.t 1)], iR 51 (.p .mv) [(.t 16)], iR 52 (.p (.bin .and)) [(.t 50), (.t 51)],
    iR 53 (.p .strIndex) [(.c (.str (bs [48, 49, 50, 51, 52, 53, 54, 55, 56, 57, 97, 98, 99, 100, 101, 102, 103, 104, 105, 106, 107, 108, 109, 110, 111, 112, 113, 114, 115, 116, 117, 118, 119, 120, 121, 122]))), (.t 52)], iR 54 (.p (.arrIdx 65 1)) [(.t 12), (.t 49)], ⟨none, none, (.e (.store 1)), [(.t 54), (.t 53)], none⟩]) (.keep [0, 1, 3, 4, 10, 11, 12, 13, 14, 15, 16] (.reg [iR 55 (.p .mv) [(.t 1)], iR 56 (.p .mv) [(.t 14)], iR 57 (.p (.bin .shr)) [(.t 55), (.t 56)], iR 1 (.p .mv) [(.t 57)]]))))))))))) (.keep [0, 1, 3, 4, 10, 11, 12, 13] (.seq (.reg [iR 58 (.p .mv) [(.t 13)], iR 59 (.p (.bin .sub)) [(.t 58), (.c (.int .i64 (.ofNat 1)))], iR 13 (.p .mv) [(.t 59)]]) (.keep [0, 1, 3, 4, 10, 11, 12, 13] (.reg [iR 60 (.p .mv) [(.t 13)], iR 61 (.p .mv) [(.t 1)],
    iR 62 (.p .strIndex) [(.c (.str (bs [48, 49, 50, 51, 52, 53, 54, 55, 56, 57, 97, 98, 99, 100, 101, 102, 103, 104, 105, 106, 107, 108, 109, 110, 111, 112, 113, 114, 115, 116, 117, 118, 119, 120, 121, 122]))), (.t 61)], iR 63 (.p (.arrIdx 65 1)) [(.t 12), (.t 60)], ⟨none, none, (.e (.store 1)), [(.t 63), (.t 62)], none⟩]))))))))))) (.seq (.reg [iR 64 (.p .mv) [(.t 2)], iR 65 (.p (.toInt .u64)) [(.t 64)], iR 17 (.p .mv) [(.t 65)]]) (.keep [0, 1, 3, 4, 10, 11, 12, 13, 17] (.seq (.block 2 (.loop (.keep [0, 1, 3, 4, 10, 11, 12, 13, 17] (.seq (.seq (.reg [iR 66 (.p .mv) [(.t 1)], iR 67 (.p .mv) [(.t 17)], iR 68 (.p (.bin .geq)) [(.t 66), (.t 67)]]) (.keep [0, 1, 3, 4, 10, 11, 12, 13, 17, 68] (.cond (.t 68) .skip (.keep [0, 1, 3, 4, 10, 11, 12, 13] (.exit 2))))) (.keep [0, 1, 3, 4, 10, 11, 12, 13, 17] (.block 3 (.seq (.reg [iR 69 (.p .mv) [(.t 13)],
    iR 70 (.p (.bin .sub)) [(.t 69), (.c (.int .i64 (.ofNat 1)))], iR 13 (.p .mv) [(.t 70)]]) (.keep [0, 1, 3, 4, 10, 11, 12, 13, 17] (.seq (.reg [iR 71 (.p .mv) [(.t 1)], iR 72 (.p .mv) [(.t 17)], iR 73 (.p (.bin .quo)) [(.t 71), (.t 72)], iR 18 (.p .mv) [(.t 73)]]) (.keep [0, 1, 3, 4, 10, 11, 12, 13, 17, 18] (.seq (.reg [iR 74 (.p .mv) [(.t 13)], iR 75 (.p .mv) [(.t 1)], iR 76 (.p .mv) [(.t 18)], iR 77 (.p .mv) [(.t 17)], iR 78 (.p (.bin .mul)) [(.t 76), (.t 77)], iR 79 (.p (.bin .sub)) [(.t 75), (.t 78)], iR 80 (.p .strIndex) [(.c (.str (bs [48, 49, 50, 51, 52, 53, 54, 55, 56, 57, 97, 98, 99, 100, 101, 102, 103, 104, 105, 106, 107, 108, 109, 110, 111, 112, 113, 114, 115, 116, 117, 118, 119, 120, 121, 122]))), (.t 79)], iR 81 (.p (.arrIdx 65 1)) [(.t 12), (.t 74)], ⟨none, none, (.e (.store 1)), [(.t 81), (.t 80)], none⟩])
    (.keep [0, 3, 4, 10, 11, 12, 13, 17, 18] (.reg [iR 82 (.p .mv) [(.t 18)], iR 1 (.p .mv) [(.t 82)]]))))))))))))) (.keep [0, 1, 3, 4, 10, 11, 12, 13] (.seq (.reg [iR 83 (.p .mv) [(.t 13)], iR 84 (.p (.bin .sub)) [(.t 83), (.c (.int .i64 (.ofNat 1)))], iR 13 (.p .mv) [(.t 84)]]) (.keep [0, 1, 3, 4, 10, 11, 12, 13] (.reg [iR 85 (.p .mv) [(.t 13)], iR 86 (.p .mv) [(.t 1)], iR 87 (.p .strIndex) [(.c (.str (bs [48, 49, 50, 51, 52, 53, 54, 55, 56, 57, 97, 98, 99, 100, 101, 102, 103, 104, 105, 106, 107, 108, 109, 110, 111, 112, 113, 114, 115, 116, 117, 118, 119, 120, 121, 122]))), (.t 86)], iR 88 (.p (.arrIdx 65 1)) [(.t 12), (.t 85)], ⟨none, none, (.e (.store 1)), [(.t 88), (.t 87)], none⟩])))))))))) (.keep [0, 3, 4, 10, 11, 12, 13] (.seq (.seq (.reg [iR 89 (.p .mv) [(.t 3)]]) (.keep [0, 4, 10, 11, 12, 13, 89] (.cond (.t 89) (.seq (.reg [iR 90 (.p .mv) [(.t 13)],
    iR 91 (.p (.bin .sub)) [(.t 90), (.c (.int .i64 (.ofNat 1)))], iR 13 (.p .mv) [(.t 91)]]) (.keep [0, 4, 10, 11, 12, 13] (.reg [iR 92 (.p .mv) [(.t 13)], iR 93 (.p (.arrIdx 65 1)) [(.t 12), (.t 92)], ⟨none, none, (.e (.store 1)), [(.t 93), (.c (.int .u8 (.ofNat 45)))], none⟩]))) .skip))) (.keep [0, 4, 10, 11, 12, 13] (.seq (.seq (.reg [iR 94 (.p .mv) [(.t 4)]]) (.keep [0, 10, 11, 12, 13, 94] (.cond (.t 94) (.seq (.reg [iR 95 (.p .mv) [(.t 0)], iR 96 (.p .mv) [(.t 13)], iR 97 (.p (.arrSlice 65 1 true false false)) [(.t 12), (.t 96)], iR 98 (.e (.append 1 1)) [(.t 95), (.t 97)], iR 10 (.p .mv) [(.t 98)]]) (.keep [10, 11] (.keep [10, 11] .ret))) .skip))) (.keep [10, 12, 13] (.seq (.reg [iR 99 (.p .mv) [(.t 13)], iR 100 (.p (.arrSlice 65 1 true false false)) [(.t 12), (.t 99)], iR 101 (.l .bytesStr) [(.t 100)], iR 11 (.p .mv) [(.t 101)]])
    (.keep [10, 11] (.keep [10, 11] .ret))))))))))))))))))), [(.t 10), (.t 11)]⟩
def s_strconv_formatBits (call : CallK) (N : Nat) (a0 a1 a2 a3 a4 : V) (H : Heap) (τ : Tape) (q : KV) : Ans := funK call N fn_strconv_formatBits [a0, a1, a2, a3, a4] H τ q
theorem s_strconv_formatBits_eq (call : CallK) (N : Nat) (a0 a1 a2 a3 a4 : V) (H : Heap) (τ : Tape) (q : KV) : s_strconv_formatBits call N a0 a1 a2 a3 a4 H τ q = funK call N fn_strconv_formatBits [a0, a1, a2, a3, a4] H τ q := by kernel_rfl
def e_strconv_formatBits (call : CallK) (N : Nat) (vs : List V) (H : Heap) (τ : Tape) (q : KV) : Ans := match vs with | [a0, a1, a2, a3, a4] => s_strconv_formatBits call N a0 a1 a2 a3 a4 H τ q | _ => none
theorem e_strconv_formatBits_ok : EntOk fn_strconv_formatBits e_strconv_formatBits := by
  intro call N vs H τ q r h
  unfold e_strconv_formatBits at h
  split at h
  · rw [s_strconv_formatBits_eq] at h; exact h
  · cases h
theorem e_strconv_formatBits_nat : EntNat e_strconv_formatBits := by
  intro c hn N vs H τ q
  unfold e_strconv_formatBits
  split
  · rw [s_strconv_formatBits_eq, s_strconv_formatBits_eq]; exact funK_ent hn _ _ _ _ _ _
  · rfl
/-- ostiary/ostiaryref1.Percent -/
def fn_ref1_Percent : Fun := ⟨2, (.seq (.reg [iR 4 (.p .mv) [(.c (.str []))]]) (.keep [0, 1] (.seq (.reg [iR 5 (.p .mv) [(.c (.str []))]]) (.keep [0, 1, 5] (.seq (.seq (.reg [iR 6 (.p .mv) [(.c (.int .i64 (.ofNat 0)))]]) (.keep [0, 1, 5, 6] (.block 0 (.loop (.keep [0, 1, 5, 6] (.seq (.seq (.reg [iR 7 (.p .mv) [(.t 6)], iR 8 (.p .mv) [(.t 0)], iR 9 (.p .lenS) [(.t 8)], iR 10 (.p (.bin .lss)) [(.t 7), (.t 9)]]) (.keep [0, 1, 5, 6, 10] (.cond (.t 10) .skip (.keep [5] (.exit 0))))) (.keep [0, 1, 5, 6] (.seq (.block 1 (.seq (.reg [iR 13 (.p .mv) [(.t 0)], iR 14 (.p .mv) [(.t 6)], iR 15 (.p .strIndex) [(.t 13), (.t 14)], iR 16 (.p .mv) [(.t 1)], iR 17 (.call 114) [(.t 15), (.t 16)]]) (.keep [0, 1, 5, 6, 17] (.cond (.t 17) (.reg [iR 18 (.p .mv) [(.t 5)], iR 19 (.p .mv) [(.t 0)], iR 20 (.p .mv) [(.t 6)], iR 21 (.p .strIndex) [(.t 19), (.t 20)], iR 22 (.call 115) [(.t 21)],
    iR 23 (.p (.bin .add)) [(.t 18), (.t 22)], iR 5 (.p .mv) [(.t 23)]]) (.reg [iR 24 (.p .mv) [(.t 5)], iR 25 (.p .mv) [(.t 0)], iR 26 (.p .mv) [(.t 6)], iR 27 (.p .mv) [(.t 6)], iR 28 (.p (.bin .add)) [(.t 27), (.c (.int .i64 (.ofNat 1)))], iR 29 (.p (.strSlice true true)) [(.t 25), (.t 26), (.t 28)], iR 30 (.p (.bin .add)) [(.t 24), (.t 29)], iR 5 (.p .mv) [(.t 30)]]))))) (.keep [0, 1, 5, 6] (.reg [iR 11 (.p .mv) [(.t 6)], iR 12 (.p (.bin .add)) [(.t 11), (.c (.int .i64 (.ofNat 1)))], iR 6 (.p .mv) [(.t 12)]])))))))))) (.keep [5] (.seq (.reg [iR 31 (.p .mv) [(.t 5)], iR 4 (.p .mv) [(.t 31)]]) (.keep [4] (.keep [4] .ret))))))))), [(.t 4)]⟩
def s_ref1_Percent (call : CallK) (N : Nat) (a0 a1 : V) (H : Heap) (τ : Tape) (q : KV) : Ans := funK call N fn_ref1_Percent [a0, a1] H τ q
theorem s_ref1_Percent_eq (call : CallK) (N : Nat) (a0 a1 : V) (H : Heap) (τ : Tape) (q : KV) : s_ref1_Percent call N a0 a1 H τ q = funK call N fn_ref1_Percent [a0, a1] H τ q := by kernel_rfl
def e_ref1_Percent (call : CallK) (N : Nat) (vs : List V) (H : Heap) (τ : Tape) (q : KV) : Ans := match vs with | [a0, a1] => s_ref1_Percent call N a0 a1 H τ q | _ => none
theorem e_ref1_Percent_ok : EntOk fn_ref1_Percent e_ref1_Percent := by
  intro call N vs H τ q r h
  unfold e_ref1_Percent at h
  split at h
  · rw [s_ref1_Percent_eq] at h; exact h
  · cases h
theorem e_ref1_Percent_nat : EntNat e_ref1_Percent := by
  intro c hn N vs H τ q
  unfold e_ref1_Percent
  split
  · rw [s_ref1_Percent_eq, s_ref1_Percent_eq]; exact funK_ent hn _ _ _ _ _ _
  · rfl
/-- ostiary/ostiaryref1.Lower -/
def fn_ref1_Lower : Fun := ⟨1, (.seq (.reg [iR 2 (.p .mv) [(.c (.str []))]]) (.keep [0] (.seq (.reg [iR 5 (.p .mv) [(.t 0)], iR 6 (.e .strBytes) [(.t 5)], iR 3 (.p .mv) [(.t 6)]]) (.keep [3] (.seq (.seq (.reg [iR 4 (.p .mv) [(.c (.int .i64 (.ofNat 0)))]]) (.keep [3, 4] (.block 0 (.loop (.keep [3, 4] (.seq (.seq (.reg [iR 7 (.p .mv) [(.t 4)], iR 8 (.p .mv) [(.t 3)], iR 9 (.p .len) [(.t 8)], iR 10 (.p (.bin .lss)) [(.t 7), (.t 9)]]) (.keep [3, 4, 10] (.cond (.t 10) .skip (.keep [3] (.exit 0))))) (.keep [3, 4] (.seq (.block 1 (.seq (.reg [iR 13 (.p .mv) [(.t 3)], iR 14 (.p .mv) [(.t 4)], iR 15 (.p (.slIdx 1)) [(.t 13), (.t 14)], iR 16 (.l (.load none)) [(.t 15)], iR 17 (.p (.bin .geq)) [(.t 16), (.c (.int .u8 (.ofNat 65)))], iR 18 (.p .mv) [(.t 17)], iG 19 18 true (.p .mv) [(.t 3)], iG 20 18 true (.p .mv) [(.t 4)], iG 21 18 true (.p (.slIdx 1)) [(.t 19), (.t 20)],
    iG 22 18 true (.l (.load none)) [(.t 21)], iG 23 18 true (.p (.bin .leq)) [(.t 22), (.c (.int .u8 (.ofNat 90)))], iR 24 (.p .pick) [(.t 18), (.t 23), (.c (.bool false))]]) (.keep [3, 4, 24] (.cond (.t 24) (.reg [iR 25 (.p .mv) [(.t 3)], iR 26 (.p .mv) [(.t 4)], iR 27 (.p .mv) [(.t 3)], iR 28 (.p .mv) [(.t 4)], iR 29 (.p (.slIdx 1)) [(.t 27), (.t 28)], iR 30 (.l (.load none)) [(.t 29)], iR 31 (.p (.bin .add)) [(.t 30), (.c (.int .u8 (.ofNat 32)))], iR 32 (.p (.slIdx 1)) [(.t 25), (.t 26)], ⟨none, none, (.e (.store 1)), [(.t 32), (.t 31)], none⟩]) .skip)))) (.keep [3, 4] (.reg [iR 11 (.p .mv) [(.t 4)], iR 12 (.p (.bin .add)) [(.t 11), (.c (.int .i64 (.ofNat 1)))], iR 4 (.p .mv) [(.t 12)]])))))))))) (.keep [3] (.seq (.reg [iR 33 (.p .mv) [(.t 3)], iR 34 (.l .bytesStr) [(.t 33)], iR 2 (.p .mv) [(.t 34)]]) (.keep [2] (.keep [2] .ret))))))))), [(.t 2)]⟩
def s_ref1_Lower (call : CallK) (N : Nat) (a0 : V) (H : Heap) (τ : Tape) (q : KV) : Ans := funK call N fn_ref1_Lower [a0] H τ q
theorem s_ref1_Lower_eq (call : CallK) (N : Nat) (a0 : V) (H : Heap) (τ : Tape) (q : KV) : s_ref1_Lower call N a0 H τ q = funK call N fn_ref1_Lower [a0] H τ q := by kernel_rfl
def e_ref1_Lower (call : CallK) (N : Nat) (vs : List V) (H : Heap) (τ : Tape) (q : KV) : Ans := match vs with | [a0] => s_ref1_Lower call N a0 H τ q | _ => none
theorem e_ref1_Lower_ok : EntOk fn_ref1_Lower e_ref1_Lower := by
  intro call N vs H τ q r h
  unfold e_ref1_Lower at h
  split at h
  · rw [s_ref1_Lower_eq] at h; exact h
  · cases h
theorem e_ref1_Lower_nat : EntNat e_ref1_Lower := by
  intro c hn N vs H τ q
  unfold e_ref1_Lower
  split
  · rw [s_ref1_Lower_eq, s_ref1_Lower_eq]; exact funK_ent hn _ _ _ _ _ _
  · rfl
/-- ostiary/ostiaryref1.Letter -/
def fn_ref1_Letter : Fun := ⟨1, (.seq (.reg [iR 2 (.p .mv) [(.c (.bool false))]]) (.keep [0] (.seq (.reg [iR 3 (.p .mv) [(.t 0)], iR 4 (.p (.bin .geq)) [(.t 3), (.c (.int .u8 (.ofNat 97)))], iR 5 (.p .mv) [(.t 4)], iG 6 5 true (.p .mv) [(.t 0)], iG 7 5 true (.p (.bin .leq)) [(.t 6), (.c (.int .u8 (.ofNat 122)))], iR 8 (.p .pick) [(.t 5), (.t 7), (.c (.bool false))], iR 9 (.p .mv) [(.t 8)], iG 10 9 false (.p .mv) [(.t 0)], iG 11 9 false (.p (.bin .geq)) [(.t 10), (.c (.int .u8 (.ofNat 65)))], iG 12 9 false (.p .mv) [(.t 11)], iG 13 12 true (.p .mv) [(.t 0)], iG 14 12 true (.p (.bin .leq)) [(.t 13), (.c (.int .u8 (.ofNat 90)))], iG 15 9 false (.p .pick) [(.t 12), (.t 14), (.c (.bool false))], iR 16 (.p .pick) [(.t 9), (.c (.bool true)), (.t 15)], iR 2 (.p .mv) [(.t 16)]]) (.keep [2] (.keep [2] .ret))))), [(.t 2)]⟩
def s_ref1_Letter (call : CallK) (N : Nat) (a0 : V) (H : Heap) (τ : Tape) (q : KV) : Ans := funK call N fn_ref1_Letter [a0] H τ q
theorem s_ref1_Letter_eq (call : CallK) (N : Nat) (a0 : V) (H : Heap) (τ : Tape) (q : KV) : s_ref1_Letter call N a0 H τ q = funK call N fn_ref1_Letter [a0] H τ q := by kernel_rfl
def e_ref1_Letter (call : CallK) (N : Nat) (vs : List V) (H : Heap) (τ : Tape) (q : KV) : Ans := match vs with | [a0] => s_ref1_Letter call N a0 H τ q | _ => none
theorem e_ref1_Letter_ok : EntOk fn_ref1_Letter e_ref1_Letter := by
  intro call N vs H τ q r h
  unfold e_ref1_Letter at h
  split at h
  · rw [s_ref1_Letter_eq] at h; exact h
  · cases h
theorem e_ref1_Letter_nat : EntNat e_ref1_Letter := by
  intro c hn N vs H τ q
  unfold e_ref1_Letter
  split
  · rw [s_ref1_Letter_eq, s_ref1_Letter_eq]; exact funK_ent hn _ _ _ _ _ _
  · rfl
/-- ostiary/ostiaryref3.far -/
def fn_ref3_far : Fun := ⟨2, (.seq (.reg [iR 4 (.p .mv) [(.c (.int .i64 (.ofNat 0)))]]) (.keep [0, 1] (.seq (.reg [iR 9 (.p .mv) [(.t 1)], iR 10 (.call 98) [(.t 9), (.c (.int .u8 (.ofNat 47))), (.c (.int .u8 (.ofNat 63)))], iR 8 (.p .mv) [(.t 10)], iR 11 (.p (.extract 0)) [(.t 8)], iR 12 (.p (.extract 1)) [(.t 8)], iR 5 (.p .mv) [(.t 11)], iR 6 (.p .mv) [(.t 12)]]) (.keep [0, 5, 6] (.seq (.reg [iR 13 (.p .mv) [(.t 0)], iR 14 (.p .mv) [(.t 5)], iR 15 (.call 116) [(.t 13), (.t 14)], iR 7 (.p .mv) [(.t 15)]]) (.keep [0, 6, 7] (.seq (.seq (.reg [iR 16 (.p .mv) [(.t 7)], iR 17 (.p (.bin .neq)) [(.t 16), (.c (.int .i64 (.ofNat 0)))]]) (.keep [0, 6, 7, 17] (.cond (.t 17) (.seq (.reg [iR 18 (.p .mv) [(.t 7)], iR 4 (.p .mv) [(.t 18)]]) (.keep [4] (.keep [4] .ret))) .skip))) (.keep [0, 6] (.seq (.reg [iR 19 (.p .mv) [(.t 0)], iR 20 (.p .mv) [(.t 6)], iR 21 (.call 97) [(.t 19), (.t 20)]])
    (.keep [] (.seq (.reg [iR 4 (.p .mv) [(.c (.int .i64 (.ofNat 0)))]]) (.keep [4] (.keep [4] .ret))))))))))))), [(.t 4)]⟩
def s_ref3_far (call : CallK) (N : Nat) (a0 a1 : V) (H : Heap) (τ : Tape) (q : KV) : Ans := funK call N fn_ref3_far [a0, a1] H τ q
theorem s_ref3_far_eq (call : CallK) (N : Nat) (a0 a1 : V) (H : Heap) (τ : Tape) (q : KV) : s_ref3_far call N a0 a1 H τ q = funK call N fn_ref3_far [a0, a1] H τ q := by kernel_rfl
def e_ref3_far (call : CallK) (N : Nat) (vs : List V) (H : Heap) (τ : Tape) (q : KV) : Ans := match vs with | [a0, a1] => s_ref3_far call N a0 a1 H τ q | _ => none
theorem e_ref3_far_ok : EntOk fn_ref3_far e_ref3_far := by
  intro call N vs H τ q r h
  unfold e_ref3_far at h
  split at h
  · rw [s_ref3_far_eq] at h; exact h
  · cases h
theorem e_ref3_far_nat : EntNat e_ref3_far := by
  intro c hn N vs H τ q
  unfold e_ref3_far
  split
  · rw [s_ref3_far_eq, s_ref3_far_eq]; exact funK_ent hn _ _ _ _ _ _
  · rfl
/-- ostiary/ostiaryref3.over -/
def fn_ref3_over : Fun := ⟨1, (.seq (.reg [iR 2 (.p .mv) [(.c (.str []))]]) (.keep [0] (.seq (.block 0 (.loop (.keep [0] (.seq (.seq (.reg [iR 3 (.p .mv) [(.t 0)], iR 4 (.p .lenS) [(.t 3)], iR 5 (.p (.bin .gtr)) [(.t 4), (.c (.int .i64 (.ofNat 0)))], iR 6 (.p .mv) [(.t 5)], iG 7 6 true (.p .mv) [(.t 0)], iG 8 6 true (.p .strIndex) [(.t 7), (.c (.int .i64 (.ofNat 0)))], iG 9 6 true (.p (.bin .eql)) [(.t 8), (.c (.int .u8 (.ofNat 47)))], iR 10 (.p .pick) [(.t 6), (.t 9), (.c (.bool false))]]) (.keep [0, 10] (.cond (.t 10) .skip (.keep [0] (.exit 0))))) (.keep [0] (.block 1 (.reg [iR 11 (.p .mv) [(.t 0)], iR 12 (.p (.strSlice true false)) [(.t 11), (.c (.int .i64 (.ofNat 1)))], iR 0 (.p .mv) [(.t 12)]]))))))) (.keep [0] (.seq (.reg [iR 13 (.p .mv) [(.t 0)], iR 2 (.p .mv) [(.t 13)]]) (.keep [2] (.keep [2] .ret))))))), [(.t 2)]⟩
def s_ref3_over (call : CallK) (N : Nat) (a0 : V) (H : Heap) (τ : Tape) (q : KV) : Ans := funK call N fn_ref3_over [a0] H τ q
theorem s_ref3_over_eq (call : CallK) (N : Nat) (a0 : V) (H : Heap) (τ : Tape) (q : KV) : s_ref3_over call N a0 H τ q = funK call N fn_ref3_over [a0] H τ q := by kernel_rfl
def e_ref3_over (call : CallK) (N : Nat) (vs : List V) (H : Heap) (τ : Tape) (q : KV) : Ans := match vs with | [a0] => s_ref3_over call N a0 H τ q | _ => none
theorem e_ref3_over_ok : EntOk fn_ref3_over e_ref3_over := by
  intro call N vs H τ q r h
  unfold e_ref3_over at h
  split at h
  · rw [s_ref3_over_eq] at h; exact h
  · cases h
theorem e_ref3_over_nat : EntNat e_ref3_over := by
  intro c hn N vs H τ q
  unfold e_ref3_over
  split
  · rw [s_ref3_over_eq, s_ref3_over_eq]; exact funK_ent hn _ _ _ _ _ _
  · rfl
/-- ostiary/ostiaryref3.slashes -/
def fn_ref3_slashes : Fun := ⟨1, (.seq (.reg [iR 2 (.p .mv) [(.c (.str []))]]) (.keep [0] (.seq (.reg [iR 5 (.p .mv) [(.t 0)], iR 6 (.e .strBytes) [(.t 5)], iR 3 (.p .mv) [(.t 6)]]) (.keep [3] (.seq (.seq (.reg [iR 4 (.p .mv) [(.c (.int .i64 (.ofNat 0)))]]) (.keep [3, 4] (.block 0 (.loop (.keep [3, 4] (.seq (.seq (.reg [iR 7 (.p .mv) [(.t 4)], iR 8 (.p .mv) [(.t 3)], iR 9 (.p .len) [(.t 8)], iR 10 (.p (.bin .lss)) [(.t 7), (.t 9)], iR 11 (.p .mv) [(.t 10)], iG 12 11 true (.p .mv) [(.t 3)], iG 13 11 true (.p .mv) [(.t 4)], iG 14 11 true (.p (.slIdx 1)) [(.t 12), (.t 13)], iG 15 11 true (.l (.load none)) [(.t 14)], iG 16 11 true (.p (.bin .neq)) [(.t 15), (.c (.int .u8 (.ofNat 63)))], iR 17 (.p .pick) [(.t 11), (.t 16), (.c (.bool false))]]) (.keep [3, 4, 17] (.cond (.t 17) .skip (.keep [3] (.exit 0))))) (.keep [3, 4] (.seq (.block 1 (.seq (.reg [iR 20 (.p .mv) [(.t 3)],
    iR 21 (.p .mv) [(.t 4)], iR 22 (.p (.slIdx 1)) [(.t 20), (.t 21)], iR 23 (.l (.load none)) [(.t 22)], iR 24 (.p (.bin .eql)) [(.t 23), (.c (.int .u8 (.ofNat 92)))]]) (.keep [3, 4, 24] (.cond (.t 24) (.reg [iR 25 (.p .mv) [(.t 3)], iR 26 (.p .mv) [(.t 4)], iR 27 (.p (.slIdx 1)) [(.t 25), (.t 26)], ⟨none, none, (.e (.store 1)), [(.t 27), (.c (.int .u8 (.ofNat 47)))], none⟩]) .skip)))) (.keep [3, 4] (.reg [iR 18 (.p .mv) [(.t 4)], iR 19 (.p (.bin .add)) [(.t 18), (.c (.int .i64 (.ofNat 1)))], iR 4 (.p .mv) [(.t 19)]])))))))))) (.keep [3] (.seq (.reg [iR 28 (.p .mv) [(.t 3)], iR 29 (.l .bytesStr) [(.t 28)], iR 2 (.p .mv) [(.t 29)]]) (.keep [2] (.keep [2] .ret))))))))), [(.t 2)]⟩
def s_ref3_slashes (call : CallK) (N : Nat) (a0 : V) (H : Heap) (τ : Tape) (q : KV) : Ans := funK call N fn_ref3_slashes [a0] H τ q
theorem s_ref3_slashes_eq (call : CallK) (N : Nat) (a0 : V) (H : Heap) (τ : Tape) (q : KV) : s_ref3_slashes call N a0 H τ q = funK call N fn_ref3_slashes [a0] H τ q := by kernel_rfl
def e_ref3_slashes (call : CallK) (N : Nat) (vs : List V) (H : Heap) (τ : Tape) (q : KV) : Ans := match vs with | [a0] => s_ref3_slashes call N a0 H τ q | _ => none
theorem e_ref3_slashes_ok : EntOk fn_ref3_slashes e_ref3_slashes := by
  intro call N vs H τ q r h
  unfold e_ref3_slashes at h
  split at h
  · rw [s_ref3_slashes_eq] at h; exact h
  · cases h
theorem e_ref3_slashes_nat : EntNat e_ref3_slashes := by
  intro c hn N vs H τ q
  unfold e_ref3_slashes
  split
  · rw [s_ref3_slashes_eq, s_ref3_slashes_eq]; exact funK_ent hn _ _ _ _ _ _
  · rfl
/-- ostiary/ostiaryref3.rest -/
def fn_ref3_rest : Fun := ⟨2, (.seq (.reg [iR 7 (.p .mv) [(.t 1)], iR 8 (.call 98) [(.t 7), (.c (.int .u8 (.ofNat 63))), (.c (.int .u8 (.ofNat 63)))], iR 6 (.p .mv) [(.t 8)], iR 9 (.p (.extract 0)) [(.t 6)], iR 10 (.p (.extract 1)) [(.t 6)], iR 4 (.p .mv) [(.t 9)], iR 5 (.p .mv) [(.t 10)]]) (.keep [0, 1, 4] (.seq (.reg [iR 11 (.p .mv) [(.t 0)], iR 12 (.p .mv) [(.t 1)], iR 13 (.call 99) [(.t 11), (.t 12)]]) (.keep [0, 4] (.block 0 (.seq (.reg [iR 20 (.p .mv) [(.t 4)], iR 21 (.p (.bin .eql)) [(.t 20), (.c (.str []))], iR 22 (.p .mv) [(.t 21)], iG 23 22 true (.p .mv) [(.t 0)], iG 24 22 true (.p .nilck) [(.t 23)], iG 25 22 true (.p (.fieldAddr 0)) [(.t 24)], iG 26 22 true (.l (.load none)) [(.t 25)], iG 27 22 true (.call 53) [(.t 26)], iR 28 (.p .pick) [(.t 22), (.t 27), (.c (.bool false))], iR 19 (.p .mv) [(.t 28)]]) (.keep [0, 4, 19] (.cond (.t 19) (.reg [iR 29 (.p .mv) [(.t 0)],
    iR 30 (.e (.buildSlice 1 1 [(.str [])] [(0, 1)])) [(.c (.str []))], iR 31 (.p .nilck) [(.t 29)], iR 32 (.p (.fieldAddr 7)) [(.t 31)], ⟨none, none, (.e (.store 1)), [(.t 32), (.t 30)], none⟩]) (.seq (.reg [iR 34 (.p .mv) [(.t 4)], iR 35 (.p (.bin .eql)) [(.t 34), (.c (.str []))], iR 33 (.p .mv) [(.t 35)]]) (.keep [0, 4, 33] (.cond (.t 33) (.reg [iR 36 (.p .mv) [(.t 0)], iR 37 (.p .nilck) [(.t 36)], iR 38 (.p (.fieldAddr 7)) [(.t 37)], ⟨none, none, (.e (.store 1)), [(.t 38), (.c .nils)], none⟩]) (.seq (.reg [iR 40 (.p .mv) [(.t 4)], iR 41 (.p .strIndex) [(.t 40), (.c (.int .i64 (.ofNat 0)))], iR 42 (.p (.bin .eql)) [(.t 41), (.c (.int .u8 (.ofNat 47)))], iR 39 (.p .mv) [(.t 42)]]) (.keep [0, 4, 39] (.cond (.t 39) (.reg [iR 43 (.p .mv) [(.t 0)], iR 44 (.p .mv) [(.t 4)], iR 45 (.p (.strSlice true false)) [(.t 44), (.c (.int .i64 (.ofNat 1)))],
    iR 46 (.call 117) [(.c .nils), (.t 45)], iR 47 (.p .nilck) [(.t 43)], iR 48 (.p (.fieldAddr 7)) [(.t 47)], ⟨none, none, (.e (.store 1)), [(.t 48), (.t 46)], none⟩]) (.reg [iR 14 (.p .mv) [(.t 0)], iR 15 (.p .mv) [(.t 4)], iR 16 (.call 117) [(.c .nils), (.t 15)], iR 17 (.p .nilck) [(.t 14)], iR 18 (.p (.fieldAddr 7)) [(.t 17)], ⟨none, none, (.e (.store 1)), [(.t 18), (.t 16)], none⟩]))))))))))))))), []⟩
def s_ref3_rest (call : CallK) (N : Nat) (a0 a1 : V) (H : Heap) (τ : Tape) (q : KV) : Ans := funK call N fn_ref3_rest [a0, a1] H τ q
theorem s_ref3_rest_eq (call : CallK) (N : Nat) (a0 a1 : V) (H : Heap) (τ : Tape) (q : KV) : s_ref3_rest call N a0 a1 H τ q = funK call N fn_ref3_rest [a0, a1] H τ q := by kernel_rfl
def e_ref3_rest (call : CallK) (N : Nat) (vs : List V) (H : Heap) (τ : Tape) (q : KV) : Ans := match vs with | [a0, a1] => s_ref3_rest call N a0 a1 H τ q | _ => none
theorem e_ref3_rest_ok : EntOk fn_ref3_rest e_ref3_rest := by
  intro call N vs H τ q r h
  unfold e_ref3_rest at h
  split at h
  · rw [s_ref3_rest_eq] at h; exact h
  · cases h
theorem e_ref3_rest_nat : EntNat e_ref3_rest := by
  intro c hn N vs H τ q
  unfold e_ref3_rest
  split
  · rw [s_ref3_rest_eq, s_ref3_rest_eq]; exact funK_ent hn _ _ _ _ _ _
  · rfl
/-- ostiary/ostiaryref3.ahead -/
def fn_ref3_ahead : Fun := ⟨3, (.seq (.reg [iR 6 (.p .mv) [(.c (.str []))], iR 7 (.p .mv) [(.c (.str []))]]) (.keep [0, 1, 2] (.seq (.seq (.reg [iR 8 (.p .mv) [(.c (.int .i64 (.ofNat 0)))]]) (.keep [0, 1, 2, 8] (.block 0 (.loop (.keep [0, 1, 2, 8] (.seq (.seq (.reg [iR 9 (.p .mv) [(.t 8)], iR 10 (.p .mv) [(.t 0)], iR 11 (.p .lenS) [(.t 10)], iR 12 (.p (.bin .lss)) [(.t 9), (.t 11)]]) (.keep [0, 1, 2, 8, 12] (.cond (.t 12) .skip (.keep [0] (.exit 0))))) (.keep [0, 1, 2, 8] (.seq (.block 1 (.seq (.reg [iR 15 (.p .mv) [(.t 0)], iR 16 (.p .mv) [(.t 8)], iR 17 (.p .strIndex) [(.t 15), (.t 16)], iR 18 (.p .mv) [(.t 1)], iR 19 (.p (.bin .eql)) [(.t 17), (.t 18)], iR 20 (.p .mv) [(.t 19)], iG 21 20 false (.p .mv) [(.t 0)], iG 22 20 false (.p .mv) [(.t 8)], iG 23 20 false (.p .strIndex) [(.t 21), (.t 22)], iG 24 20 false (.p .mv) [(.t 2)],
    iG 25 20 false (.p (.bin .eql)) [(.t 23), (.t 24)], iR 26 (.p .pick) [(.t 20), (.c (.bool true)), (.t 25)]]) (.keep [0, 1, 2, 8, 26] (.cond (.t 26) (.seq (.draw [iR 27 (.p .mv) [(.t 0)], iR 28 (.p .mv) [(.t 8)], iR 29 (.p (.strSlice false true)) [(.t 27), (.t 28)], iR 30 (.p .mv) [(.t 0)], iR 31 (.p .mv) [(.t 8)], iR 32 (.p (.strSlice true false)) [(.t 30), (.t 31)], iR 6 (.p .mv) [(.t 29)], iR 7 (.p .mv) [(.t 32)]]) (.keep [6, 7] (.keep [6, 7] .ret))) .skip)))) (.keep [0, 1, 2, 8] (.reg [iR 13 (.p .mv) [(.t 8)], iR 14 (.p (.bin .add)) [(.t 13), (.c (.int .i64 (.ofNat 1)))], iR 8 (.p .mv) [(.t 14)]])))))))))) (.keep [0] (.seq (.reg [iR 33 (.p .mv) [(.t 0)], iR 6 (.p .mv) [(.t 33)], iR 7 (.p .mv) [(.c (.str []))]]) (.keep [6, 7] (.keep [6, 7] .ret))))))), [(.t 6), (.t 7)]⟩
def s_ref3_ahead (call : CallK) (N : Nat) (a0 a1 a2 : V) (H : Heap) (τ : Tape) (q : KV) : Ans := funK call N fn_ref3_ahead [a0, a1, a2] H τ q
theorem s_ref3_ahead_eq (call : CallK) (N : Nat) (a0 a1 a2 : V) (H : Heap) (τ : Tape) (q : KV) : s_ref3_ahead call N a0 a1 a2 H τ q = funK call N fn_ref3_ahead [a0, a1, a2] H τ q := by kernel_rfl
def e_ref3_ahead (call : CallK) (N : Nat) (vs : List V) (H : Heap) (τ : Tape) (q : KV) : Ans := match vs with | [a0, a1, a2] => s_ref3_ahead call N a0 a1 a2 H τ q | _ => none
theorem e_ref3_ahead_ok : EntOk fn_ref3_ahead e_ref3_ahead := by
  intro call N vs H τ q r h
  unfold e_ref3_ahead at h
  split at h
  · rw [s_ref3_ahead_eq] at h; exact h
  · cases h
theorem e_ref3_ahead_nat : EntNat e_ref3_ahead := by
  intro c hn N vs H τ q
  unfold e_ref3_ahead
  split
  · rw [s_ref3_ahead_eq, s_ref3_ahead_eq]; exact funK_ent hn _ _ _ _ _ _
  · rfl
/-- ostiary/ostiaryref3.query -/
def fn_ref3_query : Fun := ⟨2, (.seq (.reg [iR 9 (.p .mv) [(.t 1)], iR 10 (.call 44) [(.t 9), (.c (.int .u8 (.ofNat 63)))], iR 8 (.p .mv) [(.t 10)], iR 11 (.p (.extract 0)) [(.t 8)], iR 12 (.p (.extract 1)) [(.t 8)], iR 13 (.p (.extract 2)) [(.t 8)], iR 4 (.p .mv) [(.t 11)], iR 5 (.p .mv) [(.t 12)], iR 6 (.p .mv) [(.t 13)]]) (.keep [0, 5, 6] (.seq (.seq (.reg [iR 14 (.p .mv) [(.t 6)], iR 15 (.p (.un .not)) [(.t 14)]]) (.keep [0, 5, 15] (.cond (.t 15) (.keep [] .ret) .skip))) (.keep [0, 5] (.seq (.reg [iR 16 (.p .mv) [(.t 0)], iR 17 (.p .nilck) [(.t 16)], iR 18 (.p (.fieldAddr 10)) [(.t 17)], ⟨none, none, (.e (.store 1)), [(.t 18), (.c (.bool true))], none⟩]) (.keep [0, 5] (.seq (.reg [iR 7 (.p .mv) [(.c (.int .i64 (.ofNat 3)))]]) (.keep [0, 5, 7] (.seq (.seq (.reg [iR 19 (.p .mv) [(.t 0)], iR 20 (.p .nilck) [(.t 19)], iR 21 (.p (.fieldAddr 0)) [(.t 20)],
    iR 22 (.l (.load none)) [(.t 21)], iR 23 (.call 53) [(.t 22)]]) (.keep [0, 5, 7, 23] (.cond (.t 23) (.reg [iR 7 (.p .mv) [(.c (.int .i64 (.ofNat 4)))]]) .skip))) (.keep [0, 5, 7] (.reg [iR 24 (.p .mv) [(.t 0)], iR 25 (.p .mv) [(.t 5)], iR 26 (.p .mv) [(.t 7)], iR 27 (.call 91) [(.t 25), (.t 26)], iR 28 (.p .nilck) [(.t 24)], iR 29 (.p (.fieldAddr 8)) [(.t 28)], ⟨none, none, (.e (.store 1)), [(.t 29), (.t 27)], none⟩]))))))))))), []⟩
def s_ref3_query (call : CallK) (N : Nat) (a0 a1 : V) (H : Heap) (τ : Tape) (q : KV) : Ans := funK call N fn_ref3_query [a0, a1] H τ q
theorem s_ref3_query_eq (call : CallK) (N : Nat) (a0 a1 : V) (H : Heap) (τ : Tape) (q : KV) : s_ref3_query call N a0 a1 H τ q = funK call N fn_ref3_query [a0, a1] H τ q := by kernel_rfl
def e_ref3_query (call : CallK) (N : Nat) (vs : List V) (H : Heap) (τ : Tape) (q : KV) : Ans := match vs with | [a0, a1] => s_ref3_query call N a0 a1 H τ q | _ => none
theorem e_ref3_query_ok : EntOk fn_ref3_query e_ref3_query := by
  intro call N vs H τ q r h
  unfold e_ref3_query at h
  split at h
  · rw [s_ref3_query_eq] at h; exact h
  · cases h
theorem e_ref3_query_nat : EntNat e_ref3_query := by
  intro c hn N vs H τ q
  unfold e_ref3_query
  split
  · rw [s_ref3_query_eq, s_ref3_query_eq]; exact funK_ent hn _ _ _ _ _ _
  · rfl
/-- internal/bytealg.Cutover -/
def fn_bytealg_Cutover : Fun := ⟨1, (.seq (.reg [iR 2 (.p .mv) [(.c (.int .i64 (.ofNat 0)))]]) (.keep [0] (.seq (.reg [iR 3 (.p .mv) [(.t 0)], iR 4 (.p (.bin .add)) [(.t 3), (.c (.int .i64 (.ofNat 16)))], iR 5 (.p (.bin .quo)) [(.t 4), (.c (.int .i64 (.ofNat 8)))], iR 2 (.p .mv) [(.t 5)]]) (.keep [2] (.keep [2] .ret))))), [(.t 2)]⟩
def s_bytealg_Cutover (call : CallK) (N : Nat) (a0 : V) (H : Heap) (τ : Tape) (q : KV) : Ans := funK call N fn_bytealg_Cutover [a0] H τ q
theorem s_bytealg_Cutover_eq (call : CallK) (N : Nat) (a0 : V) (H : Heap) (τ : Tape) (q : KV) : s_bytealg_Cutover call N a0 H τ q = funK call N fn_bytealg_Cutover [a0] H τ q := by kernel_rfl
def e_bytealg_Cutover (call : CallK) (N : Nat) (vs : List V) (H : Heap) (τ : Tape) (q : KV) : Ans := match vs with | [a0] => s_bytealg_Cutover call N a0 H τ q | _ => none
theorem e_bytealg_Cutover_ok : EntOk fn_bytealg_Cutover e_bytealg_Cutover := by
  intro call N vs H τ q r h
  unfold e_bytealg_Cutover at h
  split at h
  · rw [s_bytealg_Cutover_eq] at h; exact h
  · cases h
theorem e_bytealg_Cutover_nat : EntNat e_bytealg_Cutover := by
  intro c hn N vs H τ q
  unfold e_bytealg_Cutover
  split
  · rw [s_bytealg_Cutover_eq, s_bytealg_Cutover_eq]; exact funK_ent hn _ _ _ _ _ _
  · rfl
/-- internal/bytealg.IndexRabinKarp[string] -/
def fn_bytealg_IndexRabinKarp_string : Fun := ⟨2, (.seq (.reg [iR 4 (.p .mv) [(.c (.int .i64 (.ofNat 0)))]]) (.keep [0, 1] (.seq (.reg [iR 12 (.p .mv) [(.t 1)], iR 13 (.call 119) [(.t 12)], iR 11 (.p .mv) [(.t 13)], iR 14 (.p (.extract 0)) [(.t 11)], iR 15 (.p (.extract 1)) [(.t 11)], iR 5 (.p .mv) [(.t 14)], iR 6 (.p .mv) [(.t 15)]]) (.keep [0, 1, 5, 6] (.seq (.reg [iR 16 (.p .mv) [(.t 1)], iR 17 (.p .lenS) [(.t 16)], iR 7 (.p .mv) [(.t 17)]]) (.keep [0, 1, 5, 6, 7] (.seq (.reg [iR 8 (.p .mv) [(.c (.int .u32 (.ofNat 0)))]]) (.keep [0, 1, 5, 6, 7, 8] (.seq (.seq (.reg [iR 9 (.p .mv) [(.c (.int .i64 (.ofNat 0)))]]) (.keep [0, 1, 5, 6, 7, 8, 9] (.block 0 (.loop (.keep [0, 1, 5, 6, 7, 8, 9] (.seq (.seq (.reg [iR 18 (.p .mv) [(.t 9)], iR 19 (.p .mv) [(.t 7)], iR 20 (.p (.bin .lss)) [(.t 18), (.t 19)]]) (.keep [0, 1, 5, 6, 7, 8, 9, 20] (.cond (.t 20) .skip
    (.keep [0, 1, 5, 6, 7, 8] (.exit 0))))) (.keep [0, 1, 5, 6, 7, 8, 9] (.seq (.block 1 (.reg [iR 23 (.p .mv) [(.t 8)], iR 24 (.p (.bin .mul)) [(.t 23), (.c (.int .u32 (.ofNat 16777619)))], iR 25 (.p .mv) [(.t 0)], iR 26 (.p .mv) [(.t 9)], iR 27 (.p .strIndex) [(.t 25), (.t 26)], iR 28 (.p (.toInt .u32)) [(.t 27)], iR 29 (.p (.bin .add)) [(.t 24), (.t 28)], iR 8 (.p .mv) [(.t 29)]])) (.keep [0, 1, 5, 6, 7, 8, 9] (.reg [iR 21 (.p .mv) [(.t 9)], iR 22 (.p (.bin .add)) [(.t 21), (.c (.int .i64 (.ofNat 1)))], iR 9 (.p .mv) [(.t 22)]])))))))))) (.keep [0, 1, 5, 6, 7, 8] (.seq (.seq (.reg [iR 30 (.p .mv) [(.t 8)], iR 31 (.p .mv) [(.t 5)], iR 32 (.p (.bin .eql)) [(.t 30), (.t 31)], iR 33 (.p .mv) [(.t 32)], iG 34 33 true (.p .mv) [(.t 0)], iG 35 33 true (.p .mv) [(.t 7)], iG 36 33 true (.p (.strSlice false true)) [(.t 34), (.t 35)], iG 37 33 true (.p .mv) [(.t 1)],
    iG 38 33 true (.p (.bin .eql)) [(.t 36), (.t 37)], iR 39 (.p .pick) [(.t 33), (.t 38), (.c (.bool false))]]) (.keep [0, 1, 5, 6, 7, 8, 39] (.cond (.t 39) (.seq (.reg [iR 4 (.p .mv) [(.c (.int .i64 (.ofNat 0)))]]) (.keep [4] (.keep [4] .ret))) .skip))) (.keep [0, 1, 5, 6, 7, 8] (.seq (.seq (.reg [iR 40 (.p .mv) [(.t 7)], iR 10 (.p .mv) [(.t 40)]]) (.keep [0, 1, 5, 6, 7, 8, 10] (.block 2 (.loop (.keep [0, 1, 5, 6, 7, 8, 10] (.seq (.seq (.reg [iR 41 (.p .mv) [(.t 10)], iR 42 (.p .mv) [(.t 0)], iR 43 (.p .lenS) [(.t 42)], iR 44 (.p (.bin .lss)) [(.t 41), (.t 43)]]) (.keep [0, 1, 5, 6, 7, 8, 10, 44] (.cond (.t 44) .skip (.keep [] (.exit 2))))) (.keep [0, 1, 5, 6, 7, 8, 10] (.block 3 (.seq (.reg [iR 45 (.p .mv) [(.t 8)], iR 46 (.p (.bin .mul)) [(.t 45), (.c (.int .u32 (.ofNat 16777619)))], iR 8 (.p .mv) [(.t 46)]]) (.keep [0, 1, 5, 6, 7, 8, 10] (.seq (.reg [iR 47 (.p .mv) [(.t 8)],
    iR 48 (.p .mv) [(.t 0)], iR 49 (.p .mv) [(.t 10)], iR 50 (.p .strIndex) [(.t 48), (.t 49)], iR 51 (.p (.toInt .u32)) [(.t 50)], iR 52 (.p (.bin .add)) [(.t 47), (.t 51)], iR 8 (.p .mv) [(.t 52)]]) (.keep [0, 1, 5, 6, 7, 8, 10] (.seq (.reg [iR 53 (.p .mv) [(.t 8)], iR 54 (.p .mv) [(.t 6)], iR 55 (.p .mv) [(.t 0)], iR 56 (.p .mv) [(.t 10)], iR 57 (.p .mv) [(.t 7)], iR 58 (.p (.bin .sub)) [(.t 56), (.t 57)], iR 59 (.p .strIndex) [(.t 55), (.t 58)], iR 60 (.p (.toInt .u32)) [(.t 59)], iR 61 (.p (.bin .mul)) [(.t 54), (.t 60)], iR 62 (.p (.bin .sub)) [(.t 53), (.t 61)], iR 8 (.p .mv) [(.t 62)]]) (.keep [0, 1, 5, 6, 7, 8, 10] (.seq (.reg [iR 63 (.p .mv) [(.t 10)], iR 64 (.p (.bin .add)) [(.t 63), (.c (.int .i64 (.ofNat 1)))], iR 10 (.p .mv) [(.t 64)]]) (.keep [0, 1, 5, 6, 7, 8, 10] (.seq (.reg [iR 65 (.p .mv) [(.t 8)], iR 66 (.p .mv) [(.t 5)],
    iR 67 (.p (.bin .eql)) [(.t 65), (.t 66)], iR 68 (.p .mv) [(.t 67)], iG 69 68 true (.p .mv) [(.t 0)], iG 70 68 true (.p .mv) [(.t 10)], iG 71 68 true (.p .mv) [(.t 7)], iG 72 68 true (.p (.bin .sub)) [(.t 70), (.t 71)], iG 73 68 true (.p .mv) [(.t 10)], iG 74 68 true (.p (.strSlice true true)) [(.t 69), (.t 72), (.t 73)], iG 75 68 true (.p .mv) [(.t 1)], iG 76 68 true (.p (.bin .eql)) [(.t 74), (.t 75)], iR 77 (.p .pick) [(.t 68), (.t 76), (.c (.bool false))]]) (.keep [0, 1, 5, 6, 7, 8, 10, 77] (.cond (.t 77) (.seq (.reg [iR 78 (.p .mv) [(.t 10)], iR 79 (.p .mv) [(.t 7)], iR 80 (.p (.bin .sub)) [(.t 78), (.t 79)], iR 4 (.p .mv) [(.t 80)]]) (.keep [4] (.keep [4] .ret))) .skip))))))))))))))))))) (.keep [] (.seq (.reg [iR 4 (.p .mv) [(.c (.int .i64 (.negSucc 0)))]]) (.keep [4] (.keep [4] .ret))))))))))))))))), [(.t 4)]⟩
def s_bytealg_IndexRabinKarp_string (call : CallK) (N : Nat) (a0 a1 : V) (H : Heap) (τ : Tape) (q : KV) : Ans := funK call N fn_bytealg_IndexRabinKarp_string [a0, a1] H τ q
theorem s_bytealg_IndexRabinKarp_string_eq (call : CallK) (N : Nat) (a0 a1 : V) (H : Heap) (τ : Tape) (q : KV) : s_bytealg_IndexRabinKarp_string call N a0 a1 H τ q = funK call N fn_bytealg_IndexRabinKarp_string [a0, a1] H τ q := by kernel_rfl
def e_bytealg_IndexRabinKarp_string (call : CallK) (N : Nat) (vs : List V) (H : Heap) (τ : Tape) (q : KV) : Ans := match vs with | [a0, a1] => s_bytealg_IndexRabinKarp_string call N a0 a1 H τ q | _ => none
theorem e_bytealg_IndexRabinKarp_string_ok : EntOk fn_bytealg_IndexRabinKarp_string e_bytealg_IndexRabinKarp_string := by
  intro call N vs H τ q r h
  unfold e_bytealg_IndexRabinKarp_string at h
  split at h
  · rw [s_bytealg_IndexRabinKarp_string_eq] at h; exact h
  · cases h
theorem e_bytealg_IndexRabinKarp_string_nat : EntNat e_bytealg_IndexRabinKarp_string := by
  intro c hn N vs H τ q
  unfold e_bytealg_IndexRabinKarp_string
  split
  · rw [s_bytealg_IndexRabinKarp_string_eq, s_bytealg_IndexRabinKarp_string_eq]; exact funK_ent hn _ _ _ _ _ _
  · rfl
/-- internal/stringslite.HasPrefix -/
def fn_stringslite_HasPrefix : Fun := ⟨2, (.seq (.reg [iR 4 (.p .mv) [(.c (.bool false))]]) (.keep [0, 1] (.seq (.reg [iR 5 (.p .mv) [(.t 0)], iR 6 (.p .lenS) [(.t 5)], iR 7 (.p .mv) [(.t 1)], iR 8 (.p .lenS) [(.t 7)], iR 9 (.p (.bin .geq)) [(.t 6), (.t 8)], iR 10 (.p .mv) [(.t 9)], iG 11 10 true (.p .mv) [(.t 0)], iG 12 10 true (.p .mv) [(.t 1)], iG 13 10 true (.p .lenS) [(.t 12)], iG 14 10 true (.p (.strSlice false true)) [(.t 11), (.t 13)], iG 15 10 true (.p .mv) [(.t 1)], iG 16 10 true (.p (.bin .eql)) [(.t 14), (.t 15)], iR 17 (.p .pick) [(.t 10), (.t 16), (.c (.bool false))], iR 4 (.p .mv) [(.t 17)]]) (.keep [4] (.keep [4] .ret))))), [(.t 4)]⟩
def s_stringslite_HasPrefix (call : CallK) (N : Nat) (a0 a1 : V) (H : Heap) (τ : Tape) (q : KV) : Ans := someK (pLenS [a0]) fun v0 => someK (pLenS [a1]) fun v1 => binK .geq v0 v1 fun v2 => gK v2 true (fun q' => q' a0 H τ) H τ fun v3 H4 τ5 => gK v2 true (fun q' => q' a1 H4 τ5) H4 τ5 fun v6 H7 τ8 => gK v2 true (fun q' => someK (pLenS [v6]) fun v => q' v H7 τ8) H7 τ8 fun v9 H10 τ11 => gK v2 true (fun q' => someK (pStrSlice false true [v3, v9]) fun v => q' v H10 τ11) H10 τ11 fun v12 H13 τ14 => gK v2 true (fun q' => q' a1 H13 τ14) H13 τ14 fun v15 H16 τ17 => gK v2 true (fun q' => binK .eql v12 v15 fun v => q' v H16 τ17) H16 τ17 fun v18 H19 τ20 => someK (pPick [v2, v18, (.bool false)]) fun v21 => q v21 H19 τ20
theorem s_stringslite_HasPrefix_eq (call : CallK) (N : Nat) (a0 a1 : V) (H : Heap) (τ : Tape) (q : KV) : s_stringslite_HasPrefix call N a0 a1 H τ q = funK call N fn_stringslite_HasPrefix [a0, a1] H τ q := by kernel_rfl
def e_stringslite_HasPrefix (call : CallK) (N : Nat) (vs : List V) (H : Heap) (τ : Tape) (q : KV) : Ans := match vs with | [a0, a1] => s_stringslite_HasPrefix call N a0 a1 H τ q | _ => none
theorem e_stringslite_HasPrefix_ok : EntOk fn_stringslite_HasPrefix e_stringslite_HasPrefix := by
  intro call N vs H τ q r h
  unfold e_stringslite_HasPrefix at h
  split at h
  · rw [s_stringslite_HasPrefix_eq] at h; exact h
  · cases h
theorem e_stringslite_HasPrefix_nat : EntNat e_stringslite_HasPrefix := by
  intro c hn N vs H τ q
  unfold e_stringslite_HasPrefix
  split
  · rw [s_stringslite_HasPrefix_eq, s_stringslite_HasPrefix_eq]; exact funK_ent hn _ _ _ _ _ _
  · rfl
/-- unicode/utf8.decodeRuneInStringSlow -/
def fn_utf8_decodeRuneInStringSlow : Fun := ⟨1, (.seq (.reg [iR 2 (.p .mv) [(.c (.int .i32 (.ofNat 0)))], iR 3 (.p .mv) [(.c (.int .i64 (.ofNat 0)))]]) (.keep [0] (.seq (.reg [iR 13 (.p .mv) [(.t 0)], iR 14 (.p .lenS) [(.t 13)], iR 4 (.p .mv) [(.t 14)]]) (.keep [0, 4] (.seq (.seq (.reg [iR 15 (.p .mv) [(.t 4)], iR 16 (.p (.bin .lss)) [(.t 15), (.c (.int .i64 (.ofNat 1)))]]) (.keep [0, 4, 16] (.cond (.t 16) (.seq (.reg [iR 2 (.p .mv) [(.c (.int .i32 (.ofNat 65533)))], iR 3 (.p .mv) [(.c (.int .i64 (.ofNat 0)))]]) (.keep [2, 3] (.keep [2, 3] .ret))) .skip))) (.keep [0, 4] (.seq (.reg [iR 17 (.p .mv) [(.t 0)], iR 18 (.p .strIndex) [(.t 17), (.c (.int .i64 (.ofNat 0)))], iR 5 (.p .mv) [(.t 18)]]) (.keep [0, 4, 5] (.seq (.reg [iR 19 (.p .mv) [(.t 5)], iR 20 (.p (.arrIdx 256 1)) [(.c (.ptr 2 0)), (.t 19)], iR 21 (.l (.load none)) [(.t 20)], iR 6 (.p .mv) [(.t 21)]])
    (.keep [0, 4, 5, 6] (.seq (.seq (.reg [iR 22 (.p .mv) [(.t 6)], iR 23 (.p (.bin .geq)) [(.t 22), (.c (.int .u8 (.ofNat 240)))]]) (.keep [0, 4, 5, 6, 23] (.cond (.t 23) (.seq (.reg [iR 24 (.p .mv) [(.t 6)], iR 25 (.p (.toInt .i32)) [(.t 24)], iR 26 (.p (.bin .shl)) [(.t 25), (.c (.int .u64 (.ofNat 31)))], iR 27 (.p (.bin .shr)) [(.t 26), (.c (.int .u64 (.ofNat 31)))], iR 7 (.p .mv) [(.t 27)]]) (.keep [0, 7] (.seq (.reg [iR 28 (.p .mv) [(.t 0)], iR 29 (.p .strIndex) [(.t 28), (.c (.int .i64 (.ofNat 0)))], iR 30 (.p (.toInt .i32)) [(.t 29)], iR 31 (.p .mv) [(.t 7)], iR 32 (.p (.bin .andNot)) [(.t 30), (.t 31)], iR 33 (.p .mv) [(.t 7)], iR 34 (.p (.bin .and)) [(.c (.int .i32 (.ofNat 65533))), (.t 33)], iR 35 (.p (.bin .or)) [(.t 32), (.t 34)], iR 2 (.p .mv) [(.t 35)], iR 3 (.p .mv) [(.c (.int .i64 (.ofNat 1)))]]) (.keep [2, 3] (.keep [2, 3] .ret))))) .skip)))
    (.keep [0, 4, 5, 6] (.seq (.reg [iR 36 (.p .mv) [(.t 6)], iR 37 (.p (.bin .and)) [(.t 36), (.c (.int .u8 (.ofNat 7)))], iR 38 (.p (.toInt .i64)) [(.t 37)], iR 8 (.p .mv) [(.t 38)]]) (.keep [0, 4, 5, 6, 8] (.seq (.reg [iR 39 (.p .mv) [(.t 6)], iR 40 (.p (.bin .shr)) [(.t 39), (.c (.int .u64 (.ofNat 4)))], iR 41 (.p (.arrIdx 16 2)) [(.c (.ptr 3 0)), (.t 40)], iR 42 (.l (.load (some 2))) [(.t 41)], iR 9 (.e (.alloc [(.int .u8 (.ofNat 0)), (.int .u8 (.ofNat 0))])) [], ⟨none, none, (.e (.store 2)), [(.t 9), (.t 42)], none⟩]) (.keep [0, 4, 5, 8, 9] (.seq (.seq (.reg [iR 43 (.p .mv) [(.t 4)], iR 44 (.p .mv) [(.t 8)], iR 45 (.p (.bin .lss)) [(.t 43), (.t 44)]]) (.keep [0, 5, 8, 9, 45] (.cond (.t 45) (.seq (.reg [iR 2 (.p .mv) [(.c (.int .i32 (.ofNat 65533)))], iR 3 (.p .mv) [(.c (.int .i64 (.ofNat 1)))]]) (.keep [2, 3] (.keep [2, 3] .ret))) .skip)))
    (.keep [0, 5, 8, 9] (.seq (.reg [iR 46 (.p .mv) [(.t 0)], iR 47 (.p .strIndex) [(.t 46), (.c (.int .i64 (.ofNat 1)))], iR 10 (.p .mv) [(.t 47)]]) (.keep [0, 5, 8, 9, 10] (.seq (.seq (.reg [iR 48 (.p .mv) [(.t 10)], iR 49 (.p (.fieldAddr 0)) [(.t 9)], iR 50 (.l (.load none)) [(.t 49)], iR 51 (.p (.bin .lss)) [(.t 48), (.t 50)], iR 52 (.p .mv) [(.t 51)], iG 53 52 false (.p (.fieldAddr 1)) [(.t 9)], iG 54 52 false (.l (.load none)) [(.t 53)], iG 55 52 false (.p .mv) [(.t 10)], iG 56 52 false (.p (.bin .lss)) [(.t 54), (.t 55)], iR 57 (.p .pick) [(.t 52), (.c (.bool true)), (.t 56)]]) (.keep [0, 5, 8, 10, 57] (.cond (.t 57) (.seq (.reg [iR 2 (.p .mv) [(.c (.int .i32 (.ofNat 65533)))], iR 3 (.p .mv) [(.c (.int .i64 (.ofNat 1)))]]) (.keep [2, 3] (.keep [2, 3] .ret))) .skip))) (.keep [0, 5, 8, 10] (.seq (.seq (.reg [iR 58 (.p .mv) [(.t 8)],
    iR 59 (.p (.bin .leq)) [(.t 58), (.c (.int .i64 (.ofNat 2)))]]) (.keep [0, 5, 8, 10, 59] (.cond (.t 59) (.seq (.reg [iR 60 (.p .mv) [(.t 5)], iR 61 (.p (.bin .and)) [(.t 60), (.c (.int .u8 (.ofNat 31)))], iR 62 (.p (.toInt .i32)) [(.t 61)], iR 63 (.p (.bin .shl)) [(.t 62), (.c (.int .u64 (.ofNat 6)))], iR 64 (.p .mv) [(.t 10)], iR 65 (.p (.bin .and)) [(.t 64), (.c (.int .u8 (.ofNat 63)))], iR 66 (.p (.toInt .i32)) [(.t 65)], iR 67 (.p (.bin .or)) [(.t 63), (.t 66)], iR 2 (.p .mv) [(.t 67)], iR 3 (.p .mv) [(.c (.int .i64 (.ofNat 2)))]]) (.keep [2, 3] (.keep [2, 3] .ret))) .skip))) (.keep [0, 5, 8, 10] (.seq (.reg [iR 68 (.p .mv) [(.t 0)], iR 69 (.p .strIndex) [(.t 68), (.c (.int .i64 (.ofNat 2)))], iR 11 (.p .mv) [(.t 69)]]) (.keep [0, 5, 8, 10, 11] (.seq (.seq (.reg [iR 70 (.p .mv) [(.t 11)], iR 71 (.p (.bin .lss)) [(.t 70), (.c (.int .u8 (.ofNat 128)))],
    iR 72 (.p .mv) [(.t 71)], iG 73 72 false (.p .mv) [(.t 11)], iG 74 72 false (.p (.bin .lss)) [(.c (.int .u8 (.ofNat 191))), (.t 73)], iR 75 (.p .pick) [(.t 72), (.c (.bool true)), (.t 74)]]) (.keep [0, 5, 8, 10, 11, 75] (.cond (.t 75) (.seq (.reg [iR 2 (.p .mv) [(.c (.int .i32 (.ofNat 65533)))], iR 3 (.p .mv) [(.c (.int .i64 (.ofNat 1)))]]) (.keep [2, 3] (.keep [2, 3] .ret))) .skip))) (.keep [0, 5, 8, 10, 11] (.seq (.seq (.reg [iR 76 (.p .mv) [(.t 8)], iR 77 (.p (.bin .leq)) [(.t 76), (.c (.int .i64 (.ofNat 3)))]]) (.keep [0, 5, 10, 11, 77] (.cond (.t 77) (.seq (.reg [iR 78 (.p .mv) [(.t 5)], iR 79 (.p (.bin .and)) [(.t 78), (.c (.int .u8 (.ofNat 15)))], iR 80 (.p (.toInt .i32)) [(.t 79)], iR 81 (.p (.bin .shl)) [(.t 80), (.c (.int .u64 (.ofNat 12)))], iR 82 (.p .mv) [(.t 10)], iR 83 (.p (.bin .and)) [(.t 82), (.c (.int .u8 (.ofNat 63)))], iR 84 (.p (.toInt .i32)) [(.t 83)],
    iR 85 (.p (.bin .shl)) [(.t 84), (.c (.int .u64 (.ofNat 6)))], iR 86 (.p (.bin .or)) [(.t 81), (.t 85)], iR 87 (.p .mv) [(.t 11)], iR 88 (.p (.bin .and)) [(.t 87), (.c (.int .u8 (.ofNat 63)))], iR 89 (.p (.toInt .i32)) [(.t 88)], iR 90 (.p (.bin .or)) [(.t 86), (.t 89)], iR 2 (.p .mv) [(.t 90)], iR 3 (.p .mv) [(.c (.int .i64 (.ofNat 3)))]]) (.keep [2, 3] (.keep [2, 3] .ret))) .skip))) (.keep [0, 5, 10, 11] (.seq (.reg [iR 91 (.p .mv) [(.t 0)], iR 92 (.p .strIndex) [(.t 91), (.c (.int .i64 (.ofNat 3)))], iR 12 (.p .mv) [(.t 92)]]) (.keep [5, 10, 11, 12] (.seq (.seq (.reg [iR 93 (.p .mv) [(.t 12)], iR 94 (.p (.bin .lss)) [(.t 93), (.c (.int .u8 (.ofNat 128)))], iR 95 (.p .mv) [(.t 94)], iG 96 95 false (.p .mv) [(.t 12)], iG 97 95 false (.p (.bin .lss)) [(.c (.int .u8 (.ofNat 191))), (.t 96)], iR 98 (.p .pick) [(.t 95), (.c (.bool true)), (.t 97)]])
    (.keep [5, 10, 11, 12, 98] (.cond (.t 98) (.seq (.reg [iR 2 (.p .mv) [(.c (.int .i32 (.ofNat 65533)))], iR 3 (.p .mv) [(.c (.int .i64 (.ofNat 1)))]]) (.keep [2, 3] (.keep [2, 3] .ret))) .skip))) (.keep [5, 10, 11, 12] (.seq (.reg [iR 99 (.p .mv) [(.t 5)], iR 100 (.p (.bin .and)) [(.t 99), (.c (.int .u8 (.ofNat 7)))], iR 101 (.p (.toInt .i32)) [(.t 100)], iR 102 (.p (.bin .shl)) [(.t 101), (.c (.int .u64 (.ofNat 18)))], iR 103 (.p .mv) [(.t 10)], iR 104 (.p (.bin .and)) [(.t 103), (.c (.int .u8 (.ofNat 63)))], iR 105 (.p (.toInt .i32)) [(.t 104)], iR 106 (.p (.bin .shl)) [(.t 105), (.c (.int .u64 (.ofNat 12)))], iR 107 (.p (.bin .or)) [(.t 102), (.t 106)], iR 108 (.p .mv) [(.t 11)], iR 109 (.p (.bin .and)) [(.t 108), (.c (.int .u8 (.ofNat 63)))], iR 110 (.p (.toInt .i32)) [(.t 109)], iR 111 (.p (.bin .shl)) [(.t 110), (.c (.int .u64 (.ofNat 6)))],
    iR 112 (.p (.bin .or)) [(.t 107), (.t 111)], iR 113 (.p .mv) [(.t 12)], iR 114 (.p (.bin .and)) [(.t 113), (.c (.int .u8 (.ofNat 63)))], iR 115 (.p (.toInt .i32)) [(.t 114)], iR 116 (.p (.bin .or)) [(.t 112), (.t 115)], iR 2 (.p .mv) [(.t 116)], iR 3 (.p .mv) [(.c (.int .i64 (.ofNat 4)))]]) (.keep [2, 3] (.keep [2, 3] .ret))))))))))))))))))))))))))))))))))))), [(.t 2), (.t 3)]⟩
def s_utf8_decodeRuneInStringSlow (call : CallK) (N : Nat) (a0 : V) (H : Heap) (τ : Tape) (q : KV) : Ans := funK call N fn_utf8_decodeRuneInStringSlow [a0] H τ q
theorem s_utf8_decodeRuneInStringSlow_eq (call : CallK) (N : Nat) (a0 : V) (H : Heap) (τ : Tape) (q : KV) : s_utf8_decodeRuneInStringSlow call N a0 H τ q = funK call N fn_utf8_decodeRuneInStringSlow [a0] H τ q := by kernel_rfl
def e_utf8_decodeRuneInStringSlow (call : CallK) (N : Nat) (vs : List V) (H : Heap) (τ : Tape) (q : KV) : Ans := match vs with | [a0] => s_utf8_decodeRuneInStringSlow call N a0 H τ q | _ => none
theorem e_utf8_decodeRuneInStringSlow_ok : EntOk fn_utf8_decodeRuneInStringSlow e_utf8_decodeRuneInStringSlow := by
  intro call N vs H τ q r h
  unfold e_utf8_decodeRuneInStringSlow at h
  split at h
  · rw [s_utf8_decodeRuneInStringSlow_eq] at h; exact h
  · cases h
theorem e_utf8_decodeRuneInStringSlow_nat : EntNat e_utf8_decodeRuneInStringSlow := by
  intro c hn N vs H τ q
  unfold e_utf8_decodeRuneInStringSlow
  split
  · rw [s_utf8_decodeRuneInStringSlow_eq, s_utf8_decodeRuneInStringSlow_eq]; exact funK_ent hn _ _ _ _ _ _
  · rfl
/-- unicode/utf8.RuneStart -/
def fn_utf8_RuneStart : Fun := ⟨1, (.seq (.reg [iR 2 (.p .mv) [(.c (.bool false))]]) (.keep [0] (.seq (.reg [iR 3 (.p .mv) [(.t 0)], iR 4 (.p (.bin .and)) [(.t 3), (.c (.int .u8 (.ofNat 192)))], iR 5 (.p (.bin .neq)) [(.t 4), (.c (.int .u8 (.ofNat 128)))], iR 2 (.p .mv) [(.t 5)]]) (.keep [2] (.keep [2] .ret))))), [(.t 2)]⟩
def s_utf8_RuneStart (call : CallK) (N : Nat) (a0 : V) (H : Heap) (τ : Tape) (q : KV) : Ans := funK call N fn_utf8_RuneStart [a0] H τ q
theorem s_utf8_RuneStart_eq (call : CallK) (N : Nat) (a0 : V) (H : Heap) (τ : Tape) (q : KV) : s_utf8_RuneStart call N a0 H τ q = funK call N fn_utf8_RuneStart [a0] H τ q := by kernel_rfl
def e_utf8_RuneStart (call : CallK) (N : Nat) (vs : List V) (H : Heap) (τ : Tape) (q : KV) : Ans := match vs with | [a0] => s_utf8_RuneStart call N a0 H τ q | _ => none
theorem e_utf8_RuneStart_ok : EntOk fn_utf8_RuneStart e_utf8_RuneStart := by
  intro call N vs H τ q r h
  unfold e_utf8_RuneStart at h
  split at h
  · rw [s_utf8_RuneStart_eq] at h; exact h
  · cases h
theorem e_utf8_RuneStart_nat : EntNat e_utf8_RuneStart := by
  intro c hn N vs H τ q
  unfold e_utf8_RuneStart
  split
  · rw [s_utf8_RuneStart_eq, s_utf8_RuneStart_eq]; exact funK_ent hn _ _ _ _ _ _
  · rfl
/-- strings.IndexByte -/
def fn_strings_IndexByte : Fun := ⟨2, (.seq (.reg [iR 4 (.p .mv) [(.c (.int .i64 (.ofNat 0)))]]) (.keep [0, 1] (.seq (.reg [iR 5 (.p .mv) [(.t 0)], iR 6 (.p .mv) [(.t 1)], iR 7 (.call 100) [(.t 5), (.t 6)], iR 4 (.p .mv) [(.t 7)]]) (.keep [4] (.keep [4] .ret))))), [(.t 4)]⟩
def s_strings_IndexByte (call : CallK) (N : Nat) (a0 a1 : V) (H : Heap) (τ : Tape) (q : KV) : Ans := call f_stringslite_IndexByte [a0, a1] H τ fun v0 H1 τ2 => q v0 H1 τ2
theorem s_strings_IndexByte_eq (call : CallK) (N : Nat) (a0 a1 : V) (H : Heap) (τ : Tape) (q : KV) : s_strings_IndexByte call N a0 a1 H τ q = funK call N fn_strings_IndexByte [a0, a1] H τ q := by kernel_rfl
def e_strings_IndexByte (call : CallK) (N : Nat) (vs : List V) (H : Heap) (τ : Tape) (q : KV) : Ans := match vs with | [a0, a1] => s_strings_IndexByte call N a0 a1 H τ q | _ => none
theorem e_strings_IndexByte_ok : EntOk fn_strings_IndexByte e_strings_IndexByte := by
  intro call N vs H τ q r h
  unfold e_strings_IndexByte at h
  split at h
  · rw [s_strings_IndexByte_eq] at h; exact h
  · cases h
theorem e_strings_IndexByte_nat : EntNat e_strings_IndexByte := by
  intro c hn N vs H τ q
  unfold e_strings_IndexByte
  split
  · rw [s_strings_IndexByte_eq, s_strings_IndexByte_eq]; exact funK_ent hn _ _ _ _ _ _
  · rfl
/-- unicode/utf8.ValidRune -/
def fn_utf8_ValidRune : Fun := ⟨1, (.seq (.reg [iR 2 (.p .mv) [(.c (.bool false))]]) (.keep [0] (.seq (.block 0 (.seq (.reg [iR 4 (.p .mv) [(.t 0)], iR 5 (.p (.bin .leq)) [(.c (.int .i32 (.ofNat 0))), (.t 4)], iR 6 (.p .mv) [(.t 5)], iG 7 6 true (.p .mv) [(.t 0)], iG 8 6 true (.p (.bin .lss)) [(.t 7), (.c (.int .i32 (.ofNat 55296)))], iR 9 (.p .pick) [(.t 6), (.t 8), (.c (.bool false))], iR 3 (.p .mv) [(.t 9)]]) (.keep [0, 3] (.cond (.t 3) (.seq (.reg [iR 2 (.p .mv) [(.c (.bool true))]]) (.keep [2] (.keep [2] .ret))) (.seq (.reg [iR 11 (.p .mv) [(.t 0)], iR 12 (.p (.bin .lss)) [(.c (.int .i32 (.ofNat 57343))), (.t 11)], iR 13 (.p .mv) [(.t 12)], iG 14 13 true (.p .mv) [(.t 0)], iG 15 13 true (.p (.bin .leq)) [(.t 14), (.c (.int .i32 (.ofNat 1114111)))], iR 16 (.p .pick) [(.t 13), (.t 15), (.c (.bool false))], iR 10 (.p .mv) [(.t 16)]]) (.keep [10] (.cond (.t 10)
    (.seq (.reg [iR 2 (.p .mv) [(.c (.bool true))]]) (.keep [2] (.keep [2] .ret))) .skip))))))) (.keep [] (.seq (.reg [iR 2 (.p .mv) [(.c (.bool false))]]) (.keep [2] (.keep [2] .ret))))))), [(.t 2)]⟩
def s_utf8_ValidRune (call : CallK) (N : Nat) (a0 : V) (H : Heap) (τ : Tape) (q : KV) : Ans := binK .leq (.int .i32 (.ofNat 0)) a0 fun v0 => gK v0 true (fun q' => q' a0 H τ) H τ fun v1 H2 τ3 => gK v0 true (fun q' => binK .lss v1 (.int .i32 (.ofNat 55296)) fun v => q' v H2 τ3) H2 τ3 fun v4 H5 τ6 => someK (pPick [v0, v4, (.bool false)]) fun v7 => condK v7 (q (.bool true) H5 τ6) (binK .lss (.int .i32 (.ofNat 57343)) a0 fun v8 => gK v8 true (fun q' => q' a0 H5 τ6) H5 τ6 fun v9 H10 τ11 => gK v8 true (fun q' => binK .leq v9 (.int .i32 (.ofNat 1114111)) fun v => q' v H10 τ11) H10 τ11 fun v12 H13 τ14 => someK (pPick [v8, v12, (.bool false)]) fun v15 => condK v15 (q (.bool true) H13 τ14) (q (.bool false) H13 τ14))
theorem s_utf8_ValidRune_eq (call : CallK) (N : Nat) (a0 : V) (H : Heap) (τ : Tape) (q : KV) : s_utf8_ValidRune call N a0 H τ q = funK call N fn_utf8_ValidRune [a0] H τ q := by kernel_rfl
def e_utf8_ValidRune (call : CallK) (N : Nat) (vs : List V) (H : Heap) (τ : Tape) (q : KV) : Ans := match vs with | [a0] => s_utf8_ValidRune call N a0 H τ q | _ => none
theorem e_utf8_ValidRune_ok : EntOk fn_utf8_ValidRune e_utf8_ValidRune := by
  intro call N vs H τ q r h
  unfold e_utf8_ValidRune at h
  split at h
  · rw [s_utf8_ValidRune_eq] at h; exact h
  · cases h
theorem e_utf8_ValidRune_nat : EntNat e_utf8_ValidRune := by
  intro c hn N vs H τ q
  unfold e_utf8_ValidRune
  split
  · rw [s_utf8_ValidRune_eq, s_utf8_ValidRune_eq]; exact funK_ent hn _ _ _ _ _ _
  · rfl
/-- internal/strconv.log10Pow2 -/
def fn_strconv_log10Pow2 : Fun := ⟨1, (.seq (.reg [iR 2 (.p .mv) [(.c (.int .i64 (.ofNat 0)))]]) (.keep [0] (.seq (.reg [iR 3 (.p .mv) [(.t 0)], iR 4 (.p (.bin .mul)) [(.t 3), (.c (.int .i64 (.ofNat 78913)))], iR 5 (.p (.bin .shr)) [(.t 4), (.c (.int .u64 (.ofNat 18)))], iR 2 (.p .mv) [(.t 5)]]) (.keep [2] (.keep [2] .ret))))), [(.t 2)]⟩
def s_strconv_log10Pow2 (call : CallK) (N : Nat) (a0 : V) (H : Heap) (τ : Tape) (q : KV) : Ans := funK call N fn_strconv_log10Pow2 [a0] H τ q
theorem s_strconv_log10Pow2_eq (call : CallK) (N : Nat) (a0 : V) (H : Heap) (τ : Tape) (q : KV) : s_strconv_log10Pow2 call N a0 H τ q = funK call N fn_strconv_log10Pow2 [a0] H τ q := by kernel_rfl
def e_strconv_log10Pow2 (call : CallK) (N : Nat) (vs : List V) (H : Heap) (τ : Tape) (q : KV) : Ans := match vs with | [a0] => s_strconv_log10Pow2 call N a0 H τ q | _ => none
theorem e_strconv_log10Pow2_ok : EntOk fn_strconv_log10Pow2 e_strconv_log10Pow2 := by
  intro call N vs H τ q r h
  unfold e_strconv_log10Pow2 at h
  split at h
  · rw [s_strconv_log10Pow2_eq] at h; exact h
  · cases h
theorem e_strconv_log10Pow2_nat : EntNat e_strconv_log10Pow2 := by
  intro c hn N vs H τ q
  unfold e_strconv_log10Pow2
  split
  · rw [s_strconv_log10Pow2_eq, s_strconv_log10Pow2_eq]; exact funK_ent hn _ _ _ _ _ _
  · rfl
/-- math/bits.Len64 -/
def fn_bits_Len64 : Fun := ⟨1, (.seq (.reg [iR 2 (.p .mv) [(.c (.int .i64 (.ofNat 0)))]]) (.keep [0, 2] (.seq (.seq (.reg [iR 3 (.p .mv) [(.t 0)], iR 4 (.p (.bin .geq)) [(.t 3), (.c (.int .u64 (.ofNat 4294967296)))]]) (.keep [0, 2, 4] (.cond (.t 4) (.seq (.reg [iR 5 (.p .mv) [(.t 0)], iR 6 (.p (.bin .shr)) [(.t 5), (.c (.int .u64 (.ofNat 32)))], iR 0 (.p .mv) [(.t 6)]]) (.keep [0] (.reg [iR 2 (.p .mv) [(.c (.int .i64 (.ofNat 32)))]]))) .skip))) (.keep [0, 2] (.seq (.seq (.reg [iR 7 (.p .mv) [(.t 0)], iR 8 (.p (.bin .geq)) [(.t 7), (.c (.int .u64 (.ofNat 65536)))]]) (.keep [0, 2, 8] (.cond (.t 8) (.seq (.reg [iR 9 (.p .mv) [(.t 0)], iR 10 (.p (.bin .shr)) [(.t 9), (.c (.int .u64 (.ofNat 16)))], iR 0 (.p .mv) [(.t 10)]]) (.keep [0, 2] (.reg [iR 11 (.p .mv) [(.t 2)], iR 12 (.p (.bin .add)) [(.t 11), (.c (.int .i64 (.ofNat 16)))], iR 2 (.p .mv) [(.t 12)]]))) .skip)))
    (.keep [0, 2] (.seq (.seq (.reg [iR 13 (.p .mv) [(.t 0)], iR 14 (.p (.bin .geq)) [(.t 13), (.c (.int .u64 (.ofNat 256)))]]) (.keep [0, 2, 14] (.cond (.t 14) (.seq (.reg [iR 15 (.p .mv) [(.t 0)], iR 16 (.p (.bin .shr)) [(.t 15), (.c (.int .u64 (.ofNat 8)))], iR 0 (.p .mv) [(.t 16)]]) (.keep [0, 2] (.reg [iR 17 (.p .mv) [(.t 2)], iR 18 (.p (.bin .add)) [(.t 17), (.c (.int .i64 (.ofNat 8)))], iR 2 (.p .mv) [(.t 18)]]))) .skip))) (.keep [0, 2] (.seq (.reg [iR 19 (.p .mv) [(.t 2)], iR 20 (.p .mv) [(.t 0)], iR 21 (.p (.toInt .u8)) [(.t 20)],
    iR 22 (.p .strIndex) [(.c (.str (bs [0, 1, 2, 2, 3, 3, 3, 3, 4, 4, 4, 4, 4, 4, 4, 4, 5, 5, 5, 5, 5, 5, 5, 5, 5, 5, 5, 5, 5, 5, 5, 5, 6, 6, 6, 6, 6, 6, 6, 6, 6, 6, 6, 6, 6, 6, 6, 6, 6, 6, 6, 6, 6, 6, 6, 6, 6, 6, 6, 6, 6, 6, 6, 6, 7, 7, 7, 7, 7, 7, 7, 7, 7, 7, 7, 7, 7, 7, 7, 7, 7, 7, 7, 7, 7, 7, 7, 7, 7, 7, 7, 7, 7, 7, 7, 7, 7, 7, 7, 7, 7, 7, 7, 7, 7, 7, 7, 7, 7, 7, 7, 7, 7, 7, 7, 7, 7, 7, 7, 7, 7, 7, 7, 7, 7, 7, 7, 7, 8, 8, 8, 8, 8, 8, 8, 8, 8, 8, 8, 8, 8, 8, 8, 8, 8, 8, 8, 8, 8, 8, 8, 8, 8, 8, 8, 8, 8, 8, 8, 8, 8, 8, 8, 8, 8, 8, 8, 8, 8, 8, 8, 8, 8, 8, 8, 8, 8, 8, 8, 8, 8, 8, 8, 8, 8, 8, 8, 8, 8, 8, 8, 8, 8, 8, 8, 8, 8, 8, 8, 8, 8, 8, 8, 8, 8, 8, 8, 8, 8, 8, 8, 8, 8, 8, 8, 8, 8, 8, 8, 8, 8, 8, 8, 8, 8, 8, 8, 8, 8, 8, 8, 8, 8, 8, 8, 8, 8, 8, 8, 8, 8, 8, 8, 8, 8, 8, 8, 8, 8, 8, 8, 8, 8, 8, 8, 8]))), (.t 21)], iR 23 (.p (.toInt .i64)) [(.t 22)],
    iR 24 (.p (.bin .add)) [(.t 19), (.t 23)], iR 2 (.p .mv) [(.t 24)]]) (.keep [2] (.keep [2] .ret))))))))))), [(.t 2)]⟩
def s_bits_Len64 (call : CallK) (N : Nat) (a0 : V) (H : Heap) (τ : Tape) (q : KV) : Ans := funK call N fn_bits_Len64 [a0] H τ q
theorem s_bits_Len64_eq (call : CallK) (N : Nat) (a0 : V) (H : Heap) (τ : Tape) (q : KV) : s_bits_Len64 call N a0 H τ q = funK call N fn_bits_Len64 [a0] H τ q := by kernel_rfl
def e_bits_Len64 (call : CallK) (N : Nat) (vs : List V) (H : Heap) (τ : Tape) (q : KV) : Ans := match vs with | [a0] => s_bits_Len64 call N a0 H τ q | _ => none
theorem e_bits_Len64_ok : EntOk fn_bits_Len64 e_bits_Len64 := by
  intro call N vs H τ q r h
  unfold e_bits_Len64 at h
  split at h
  · rw [s_bits_Len64_eq] at h; exact h
  · cases h
theorem e_bits_Len64_nat : EntNat e_bits_Len64 := by
  intro c hn N vs H τ q
  unfold e_bits_Len64
  split
  · rw [s_bits_Len64_eq, s_bits_Len64_eq]; exact funK_ent hn _ _ _ _ _ _
  · rfl
/-- internal/strconv.bool2[int] -/
def fn_strconv_bool2_int : Fun := ⟨1, (.seq (.reg [iR 2 (.p .mv) [(.c (.int .i64 (.ofNat 0)))]]) (.keep [0] (.seq (.seq (.reg [iR 3 (.p .mv) [(.t 0)]]) (.keep [3] (.cond (.t 3) (.seq (.reg [iR 2 (.p .mv) [(.c (.int .i64 (.ofNat 1)))]]) (.keep [2] (.keep [2] .ret))) .skip))) (.keep [] (.seq (.reg [iR 2 (.p .mv) [(.c (.int .i64 (.ofNat 0)))]]) (.keep [2] (.keep [2] .ret))))))), [(.t 2)]⟩
def s_strconv_bool2_int (call : CallK) (N : Nat) (a0 : V) (H : Heap) (τ : Tape) (q : KV) : Ans := funK call N fn_strconv_bool2_int [a0] H τ q
theorem s_strconv_bool2_int_eq (call : CallK) (N : Nat) (a0 : V) (H : Heap) (τ : Tape) (q : KV) : s_strconv_bool2_int call N a0 H τ q = funK call N fn_strconv_bool2_int [a0] H τ q := by kernel_rfl
def e_strconv_bool2_int (call : CallK) (N : Nat) (vs : List V) (H : Heap) (τ : Tape) (q : KV) : Ans := match vs with | [a0] => s_strconv_bool2_int call N a0 H τ q | _ => none
theorem e_strconv_bool2_int_ok : EntOk fn_strconv_bool2_int e_strconv_bool2_int := by
  intro call N vs H τ q r h
  unfold e_strconv_bool2_int at h
  split at h
  · rw [s_strconv_bool2_int_eq] at h; exact h
  · cases h
theorem e_strconv_bool2_int_nat : EntNat e_strconv_bool2_int := by
  intro c hn N vs H τ q
  unfold e_strconv_bool2_int
  split
  · rw [s_strconv_bool2_int_eq, s_strconv_bool2_int_eq]; exact funK_ent hn _ _ _ _ _ _
  · rfl
/-- internal/strconv.isPowerOfTwo -/
def fn_strconv_isPowerOfTwo : Fun := ⟨1, (.seq (.reg [iR 2 (.p .mv) [(.c (.bool false))]]) (.keep [0] (.seq (.reg [iR 3 (.p .mv) [(.t 0)], iR 4 (.p .mv) [(.t 0)], iR 5 (.p (.bin .sub)) [(.t 4), (.c (.int .i64 (.ofNat 1)))], iR 6 (.p (.bin .and)) [(.t 3), (.t 5)], iR 7 (.p (.bin .eql)) [(.t 6), (.c (.int .i64 (.ofNat 0)))], iR 2 (.p .mv) [(.t 7)]]) (.keep [2] (.keep [2] .ret))))), [(.t 2)]⟩
def s_strconv_isPowerOfTwo (call : CallK) (N : Nat) (a0 : V) (H : Heap) (τ : Tape) (q : KV) : Ans := funK call N fn_strconv_isPowerOfTwo [a0] H τ q
theorem s_strconv_isPowerOfTwo_eq (call : CallK) (N : Nat) (a0 : V) (H : Heap) (τ : Tape) (q : KV) : s_strconv_isPowerOfTwo call N a0 H τ q = funK call N fn_strconv_isPowerOfTwo [a0] H τ q := by kernel_rfl
def e_strconv_isPowerOfTwo (call : CallK) (N : Nat) (vs : List V) (H : Heap) (τ : Tape) (q : KV) : Ans := match vs with | [a0] => s_strconv_isPowerOfTwo call N a0 H τ q | _ => none
theorem e_strconv_isPowerOfTwo_ok : EntOk fn_strconv_isPowerOfTwo e_strconv_isPowerOfTwo := by
  intro call N vs H τ q r h
  unfold e_strconv_isPowerOfTwo at h
  split at h
  · rw [s_strconv_isPowerOfTwo_eq] at h; exact h
  · cases h
theorem e_strconv_isPowerOfTwo_nat : EntNat e_strconv_isPowerOfTwo := by
  intro c hn N vs H τ q
  unfold e_strconv_isPowerOfTwo
  split
  · rw [s_strconv_isPowerOfTwo_eq, s_strconv_isPowerOfTwo_eq]; exact funK_ent hn _ _ _ _ _ _
  · rfl
/-- math/bits.TrailingZeros -/
def fn_bits_TrailingZeros : Fun := ⟨1, (.seq (.reg [iR 2 (.p .mv) [(.c (.int .i64 (.ofNat 0)))]]) (.keep [0] (.seq (.cond (.c (.bool false)) (.seq (.reg [iR 3 (.p .mv) [(.t 0)], iR 4 (.p (.toInt .u32)) [(.t 3)], iR 5 (.call 120) [(.t 4)], iR 2 (.p .mv) [(.t 5)]]) (.keep [2] (.keep [2] .ret))) .skip) (.keep [0] (.seq (.reg [iR 6 (.p .mv) [(.t 0)], iR 7 (.call 121) [(.t 6)], iR 2 (.p .mv) [(.t 7)]]) (.keep [2] (.keep [2] .ret))))))), [(.t 2)]⟩
def s_bits_TrailingZeros (call : CallK) (N : Nat) (a0 : V) (H : Heap) (τ : Tape) (q : KV) : Ans := funK call N fn_bits_TrailingZeros [a0] H τ q
theorem s_bits_TrailingZeros_eq (call : CallK) (N : Nat) (a0 : V) (H : Heap) (τ : Tape) (q : KV) : s_bits_TrailingZeros call N a0 H τ q = funK call N fn_bits_TrailingZeros [a0] H τ q := by kernel_rfl
def e_bits_TrailingZeros (call : CallK) (N : Nat) (vs : List V) (H : Heap) (τ : Tape) (q : KV) : Ans := match vs with | [a0] => s_bits_TrailingZeros call N a0 H τ q | _ => none
theorem e_bits_TrailingZeros_ok : EntOk fn_bits_TrailingZeros e_bits_TrailingZeros := by
  intro call N vs H τ q r h
  unfold e_bits_TrailingZeros at h
  split at h
  · rw [s_bits_TrailingZeros_eq] at h; exact h
  · cases h
theorem e_bits_TrailingZeros_nat : EntNat e_bits_TrailingZeros := by
  intro c hn N vs H τ q
  unfold e_bits_TrailingZeros
  split
  · rw [s_bits_TrailingZeros_eq, s_bits_TrailingZeros_eq]; exact funK_ent hn _ _ _ _ _ _
  · rfl
/-- ostiary/ostiaryref1.In -/
def fn_ref1_In : Fun := ⟨2, (.seq (.reg [iR 4 (.p .mv) [(.c (.bool false))]]) (.keep [0, 1] (.seq (.reg [iR 8 (.p .mv) [(.t 0)], iR 9 (.p (.bin .lss)) [(.t 8), (.c (.int .u8 (.ofNat 32)))], iR 10 (.p .mv) [(.t 9)], iG 11 10 false (.p .mv) [(.t 0)], iG 12 10 false (.p (.bin .gtr)) [(.t 11), (.c (.int .u8 (.ofNat 126)))], iR 13 (.p .pick) [(.t 10), (.c (.bool true)), (.t 12)], iR 5 (.p .mv) [(.t 13)]]) (.keep [0, 1, 5] (.seq (.reg [iR 6 (.p .mv) [(.c (.str []))]]) (.keep [0, 1, 5, 6] (.seq (.seq (.reg [iR 14 (.p .mv) [(.t 1)]]) (.keep [0, 5, 6, 14] (.block 0 (.seq (.reg [iR 16 (.p (.bin .eql)) [(.t 14), (.c (.int .i64 (.ofNat 1)))], iR 15 (.p .mv) [(.t 16)]]) (.keep [0, 5, 6, 14, 15] (.cond (.t 15) .skip (.seq (.reg [iR 18 (.p (.bin .eql)) [(.t 14), (.c (.int .i64 (.ofNat 2)))], iR 17 (.p .mv) [(.t 18)]]) (.keep [0, 5, 14, 17] (.cond (.t 17)
    (.reg [iR 6 (.p .mv) [(.c (.str (bs [32, 34, 60, 62, 96])))]]) (.seq (.reg [iR 20 (.p (.bin .eql)) [(.t 14), (.c (.int .i64 (.ofNat 3)))], iR 19 (.p .mv) [(.t 20)]]) (.keep [0, 5, 14, 19] (.cond (.t 19) (.reg [iR 6 (.p .mv) [(.c (.str (bs [32, 34, 35, 60, 62])))]]) (.seq (.reg [iR 22 (.p (.bin .eql)) [(.t 14), (.c (.int .i64 (.ofNat 4)))], iR 21 (.p .mv) [(.t 22)]]) (.keep [0, 5, 14, 21] (.cond (.t 21) (.reg [iR 6 (.p .mv) [(.c (.str (bs [32, 34, 35, 60, 62, 39])))]]) (.seq (.reg [iR 24 (.p (.bin .eql)) [(.t 14), (.c (.int .i64 (.ofNat 5)))], iR 23 (.p .mv) [(.t 24)]]) (.keep [0, 5, 14, 23] (.cond (.t 23) (.reg [iR 6 (.p .mv) [(.c (.str (bs [32, 34, 35, 60, 62, 63, 94, 96, 123, 125])))]]) (.seq (.reg [iR 26 (.p (.bin .eql)) [(.t 14), (.c (.int .i64 (.ofNat 6)))], iR 25 (.p .mv) [(.t 26)]]) (.keep [0, 5, 25] (.cond (.t 25)
    (.reg [iR 6 (.p .mv) [(.c (.str (bs [32, 34, 35, 60, 62, 63, 94, 96, 123, 125, 47, 58, 59, 61, 64, 91, 92, 93, 124])))]]) (.seq (.reg [iR 4 (.p .mv) [(.c (.bool false))]]) (.keep [4] (.keep [4] .ret)))))))))))))))))))))))) (.keep [0, 5, 6] (.seq (.seq (.reg [iR 7 (.p .mv) [(.c (.int .i64 (.ofNat 0)))]]) (.keep [0, 5, 6, 7] (.block 1 (.loop (.keep [0, 5, 6, 7] (.seq (.seq (.reg [iR 27 (.p .mv) [(.t 7)], iR 28 (.p .mv) [(.t 6)], iR 29 (.p .lenS) [(.t 28)], iR 30 (.p (.bin .lss)) [(.t 27), (.t 29)]]) (.keep [0, 5, 6, 7, 30] (.cond (.t 30) .skip (.keep [5] (.exit 1))))) (.keep [0, 5, 6, 7] (.seq (.block 2 (.reg [iR 33 (.p .mv) [(.t 5)], iR 34 (.p .mv) [(.t 33)], iG 35 34 false (.p .mv) [(.t 0)], iG 36 34 false (.p .mv) [(.t 6)], iG 37 34 false (.p .mv) [(.t 7)], iG 38 34 false (.p .strIndex) [(.t 36), (.t 37)], iG 39 34 false (.p (.bin .eql)) [(.t 35), (.t 38)],
    iR 40 (.p .pick) [(.t 34), (.c (.bool true)), (.t 39)], iR 5 (.p .mv) [(.t 40)]])) (.keep [0, 5, 6, 7] (.reg [iR 31 (.p .mv) [(.t 7)], iR 32 (.p (.bin .add)) [(.t 31), (.c (.int .i64 (.ofNat 1)))], iR 7 (.p .mv) [(.t 32)]])))))))))) (.keep [5] (.seq (.reg [iR 41 (.p .mv) [(.t 5)], iR 4 (.p .mv) [(.t 41)]]) (.keep [4] (.keep [4] .ret))))))))))))), [(.t 4)]⟩
def s_ref1_In (call : CallK) (N : Nat) (a0 a1 : V) (H : Heap) (τ : Tape) (q : KV) : Ans := funK call N fn_ref1_In [a0, a1] H τ q
theorem s_ref1_In_eq (call : CallK) (N : Nat) (a0 a1 : V) (H : Heap) (τ : Tape) (q : KV) : s_ref1_In call N a0 a1 H τ q = funK call N fn_ref1_In [a0, a1] H τ q := by kernel_rfl
def e_ref1_In (call : CallK) (N : Nat) (vs : List V) (H : Heap) (τ : Tape) (q : KV) : Ans := match vs with | [a0, a1] => s_ref1_In call N a0 a1 H τ q | _ => none
theorem e_ref1_In_ok : EntOk fn_ref1_In e_ref1_In := by
  intro call N vs H τ q r h
  unfold e_ref1_In at h
  split at h
  · rw [s_ref1_In_eq] at h; exact h
  · cases h
theorem e_ref1_In_nat : EntNat e_ref1_In := by
  intro c hn N vs H τ q
  unfold e_ref1_In
  split
  · rw [s_ref1_In_eq, s_ref1_In_eq]; exact funK_ent hn _ _ _ _ _ _
  · rfl
/-- ostiary/ostiaryref1.Escape -/
def fn_ref1_Escape : Fun := ⟨1, (.seq (.reg [iR 2 (.p .mv) [(.c (.str []))]]) (.keep [0] (.seq (.draw [iR 3 (.p .mv) [(.t 0)], iR 4 (.p (.bin .shr)) [(.t 3), (.c (.int .u64 (.ofNat 4)))], iR 5 (.p .mv) [(.t 0)], iR 6 (.p (.bin .shr)) [(.t 5), (.c (.int .u64 (.ofNat 4)))], iR 7 (.p (.bin .add)) [(.t 6), (.c (.int .u8 (.ofNat 1)))], iR 8 (.p (.strSlice true true)) [(.c (.str (bs [48, 49, 50, 51, 52, 53, 54, 55, 56, 57, 65, 66, 67, 68, 69, 70]))), (.t 4), (.t 7)], iR 9 (.p (.bin .add)) [(.c (.str (bs [37]))), (.t 8)], iR 10 (.p .mv) [(.t 0)], iR 11 (.p (.bin .and)) [(.t 10), (.c (.int .u8 (.ofNat 15)))], iR 12 (.p .mv) [(.t 0)], iR 13 (.p (.bin .and)) [(.t 12), (.c (.int .u8 (.ofNat 15)))], iR 14 (.p (.bin .add)) [(.t 13), (.c (.int .u8 (.ofNat 1)))], iR 15 (.p (.strSlice true true)) [(.c (.str (bs [48, 49, 50, 51, 52, 53, 54, 55, 56, 57, 65, 66, 67, 68, 69, 70]))), (.t 11), (.t 14)],
    iR 16 (.p (.bin .add)) [(.t 9), (.t 15)], iR 2 (.p .mv) [(.t 16)]]) (.keep [2] (.keep [2] .ret))))), [(.t 2)]⟩
def s_ref1_Escape (call : CallK) (N : Nat) (a0 : V) (H : Heap) (τ : Tape) (q : KV) : Ans := funK call N fn_ref1_Escape [a0] H τ q
theorem s_ref1_Escape_eq (call : CallK) (N : Nat) (a0 : V) (H : Heap) (τ : Tape) (q : KV) : s_ref1_Escape call N a0 H τ q = funK call N fn_ref1_Escape [a0] H τ q := by kernel_rfl
def e_ref1_Escape (call : CallK) (N : Nat) (vs : List V) (H : Heap) (τ : Tape) (q : KV) : Ans := match vs with | [a0] => s_ref1_Escape call N a0 H τ q | _ => none
theorem e_ref1_Escape_ok : EntOk fn_ref1_Escape e_ref1_Escape := by
  intro call N vs H τ q r h
  unfold e_ref1_Escape at h
  split at h
  · rw [s_ref1_Escape_eq] at h; exact h
  · cases h
theorem e_ref1_Escape_nat : EntNat e_ref1_Escape := by
  intro c hn N vs H τ q
  unfold e_ref1_Escape
  split
  · rw [s_ref1_Escape_eq, s_ref1_Escape_eq]; exact funK_ent hn _ _ _ _ _ _
  · rfl
/-- ostiary/ostiaryref3.authority -/
def fn_ref3_authority : Fun := ⟨2, (.seq (.reg [iR 4 (.p .mv) [(.c (.int .i64 (.ofNat 0)))]]) (.keep [0, 1] (.seq (.reg [iR 5 (.p .mv) [(.c (.int .i64 (.negSucc 0)))]]) (.keep [0, 1, 5] (.seq (.seq (.reg [iR 6 (.p .mv) [(.c (.int .i64 (.ofNat 0)))]]) (.keep [0, 1, 5, 6] (.block 0 (.loop (.keep [0, 1, 5, 6] (.seq (.seq (.reg [iR 19 (.p .mv) [(.t 6)], iR 20 (.p .mv) [(.t 1)], iR 21 (.p .lenS) [(.t 20)], iR 22 (.p (.bin .lss)) [(.t 19), (.t 21)]]) (.keep [0, 1, 5, 6, 22] (.cond (.t 22) .skip (.keep [0, 1, 5] (.exit 0))))) (.keep [0, 1, 5, 6] (.seq (.block 1 (.seq (.reg [iR 25 (.p .mv) [(.t 1)], iR 26 (.p .mv) [(.t 6)], iR 27 (.p .strIndex) [(.t 25), (.t 26)], iR 28 (.p (.bin .eql)) [(.t 27), (.c (.int .u8 (.ofNat 64)))]]) (.keep [0, 1, 5, 6, 28] (.cond (.t 28) (.reg [iR 29 (.p .mv) [(.t 6)], iR 5 (.p .mv) [(.t 29)]]) .skip)))) (.keep [0, 1, 5, 6] (.reg [iR 23 (.p .mv) [(.t 6)],
    iR 24 (.p (.bin .add)) [(.t 23), (.c (.int .i64 (.ofNat 1)))], iR 6 (.p .mv) [(.t 24)]])))))))))) (.keep [0, 1, 5] (.seq (.seq (.reg [iR 30 (.p .mv) [(.t 5)], iR 31 (.p (.bin .geq)) [(.t 30), (.c (.int .i64 (.ofNat 0)))]]) (.keep [0, 1, 5, 31] (.cond (.t 31) (.seq (.reg [iR 33 (.p .mv) [(.t 1)], iR 34 (.p .mv) [(.t 5)], iR 35 (.p (.strSlice false true)) [(.t 33), (.t 34)], iR 36 (.call 44) [(.t 35), (.c (.int .u8 (.ofNat 58)))], iR 32 (.p .mv) [(.t 36)], iR 37 (.p (.extract 0)) [(.t 32)], iR 38 (.p (.extract 1)) [(.t 32)], iR 39 (.p (.extract 2)) [(.t 32)], iR 7 (.p .mv) [(.t 37)], iR 8 (.p .mv) [(.t 38)], iR 9 (.p .mv) [(.t 39)]]) (.keep [0, 1, 5, 7, 8] (.seq (.reg [iR 40 (.p .mv) [(.t 0)], iR 41 (.p .mv) [(.t 7)], iR 42 (.call 91) [(.t 41), (.c (.int .i64 (.ofNat 6)))], iR 43 (.p .nilck) [(.t 40)], iR 44 (.p (.fieldAddr 1)) [(.t 43)],
    ⟨none, none, (.e (.store 1)), [(.t 44), (.t 42)], none⟩]) (.keep [0, 1, 5, 8] (.seq (.reg [iR 45 (.p .mv) [(.t 0)], iR 46 (.p .mv) [(.t 8)], iR 47 (.call 91) [(.t 46), (.c (.int .i64 (.ofNat 6)))], iR 48 (.p .nilck) [(.t 45)], iR 49 (.p (.fieldAddr 2)) [(.t 48)], ⟨none, none, (.e (.store 1)), [(.t 49), (.t 47)], none⟩]) (.keep [0, 1, 5] (.reg [iR 50 (.p .mv) [(.t 1)], iR 51 (.p .mv) [(.t 5)], iR 52 (.p (.bin .add)) [(.t 51), (.c (.int .i64 (.ofNat 1)))], iR 53 (.p (.strSlice true false)) [(.t 50), (.t 52)], iR 1 (.p .mv) [(.t 53)]]))))))) .skip))) (.keep [0, 1] (.seq (.reg [iR 10 (.p .mv) [(.c (.int .i64 (.negSucc 0)))]]) (.keep [0, 1, 10] (.seq (.reg [iR 11 (.p .mv) [(.c (.bool false))]]) (.keep [0, 1, 10, 11] (.seq (.seq (.reg [iR 12 (.p .mv) [(.c (.int .i64 (.ofNat 0)))]]) (.keep [0, 1, 10, 11, 12] (.block 2 (.loop
    (.keep [0, 1, 10, 11, 12] (.seq (.seq (.reg [iR 54 (.p .mv) [(.t 12)], iR 55 (.p .mv) [(.t 1)], iR 56 (.p .lenS) [(.t 55)], iR 57 (.p (.bin .lss)) [(.t 54), (.t 56)]]) (.keep [0, 1, 10, 11, 12, 57] (.cond (.t 57) .skip (.keep [0, 1, 10] (.exit 2))))) (.keep [0, 1, 10, 11, 12] (.seq (.block 3 (.seq (.reg [iR 60 (.p .mv) [(.t 1)], iR 61 (.p .mv) [(.t 12)], iR 62 (.p .strIndex) [(.t 60), (.t 61)]]) (.keep [0, 1, 10, 11, 12, 62] (.block 4 (.seq (.reg [iR 64 (.p (.bin .eql)) [(.t 62), (.c (.int .u8 (.ofNat 91)))], iR 63 (.p .mv) [(.t 64)]]) (.keep [0, 1, 10, 11, 12, 62, 63] (.cond (.t 63) (.reg [iR 11 (.p .mv) [(.c (.bool true))]]) (.seq (.reg [iR 66 (.p (.bin .eql)) [(.t 62), (.c (.int .u8 (.ofNat 93)))], iR 65 (.p .mv) [(.t 66)]]) (.keep [0, 1, 10, 11, 12, 62, 65] (.cond (.t 65) (.reg [iR 11 (.p .mv) [(.c (.bool false))]])
    (.seq (.reg [iR 68 (.p (.bin .eql)) [(.t 62), (.c (.int .u8 (.ofNat 58)))], iR 67 (.p .mv) [(.t 68)]]) (.keep [0, 1, 10, 11, 12, 67] (.cond (.t 67) (.seq (.reg [iR 69 (.p .mv) [(.t 11)], iR 70 (.p (.un .not)) [(.t 69)]]) (.keep [0, 1, 10, 11, 12, 70] (.cond (.t 70) (.reg [iR 71 (.p .mv) [(.t 12)], iR 10 (.p .mv) [(.t 71)]]) .skip))) .skip))))))))))))) (.keep [0, 1, 10, 11, 12] (.reg [iR 58 (.p .mv) [(.t 12)], iR 59 (.p (.bin .add)) [(.t 58), (.c (.int .i64 (.ofNat 1)))], iR 12 (.p .mv) [(.t 59)]])))))))))) (.keep [0, 1, 10] (.seq (.reg [iR 72 (.p .mv) [(.t 0)], iR 73 (.p .nilck) [(.t 72)], iR 74 (.p (.fieldAddr 5)) [(.t 73)], ⟨none, none, (.e (.store 1)), [(.t 74), (.c (.int .i64 (.negSucc 0)))], none⟩]) (.keep [0, 1, 10] (.seq (.reg [iR 13 (.p .mv) [(.c (.bool false))]]) (.keep [0, 1, 10, 13] (.seq (.seq (.reg [iR 75 (.p .mv) [(.t 10)],
    iR 76 (.p (.bin .geq)) [(.t 75), (.c (.int .i64 (.ofNat 0)))]]) (.keep [0, 1, 10, 13, 76] (.cond (.t 76) (.seq (.reg [iR 77 (.p .mv) [(.t 1)], iR 78 (.p .mv) [(.t 10)], iR 79 (.p (.bin .add)) [(.t 78), (.c (.int .i64 (.ofNat 1)))], iR 80 (.p (.strSlice true false)) [(.t 77), (.t 79)], iR 14 (.p .mv) [(.t 80)]]) (.keep [0, 1, 10, 13, 14] (.seq (.reg [iR 81 (.p .mv) [(.t 1)], iR 82 (.p .mv) [(.t 10)], iR 83 (.p (.strSlice false true)) [(.t 81), (.t 82)], iR 1 (.p .mv) [(.t 83)]]) (.keep [0, 1, 13, 14] (.seq (.reg [iR 84 (.p .mv) [(.t 14)], iR 85 (.p (.bin .neq)) [(.t 84), (.c (.str []))]]) (.keep [0, 1, 13, 14, 85] (.cond (.t 85) (.seq (.reg [iR 87 (.p .mv) [(.t 14)], iR 88 (.call 62) [(.t 87)], iR 86 (.p .mv) [(.t 88)], iR 89 (.p (.extract 0)) [(.t 86)], iR 90 (.p (.extract 1)) [(.t 86)], iR 15 (.p .mv) [(.t 89)], iR 16 (.p .mv) [(.t 90)]])
    (.keep [0, 1, 15, 16] (.seq (.seq (.reg [iR 91 (.p .mv) [(.t 16)], iR 92 (.p (.un .not)) [(.t 91)], iR 93 (.p .mv) [(.t 92)], iG 94 93 false (.p .mv) [(.t 15)], iG 95 93 false (.p (.bin .gtr)) [(.t 94), (.c (.int .i64 (.ofNat 65535)))], iR 96 (.p .pick) [(.t 93), (.c (.bool true)), (.t 95)]]) (.keep [0, 1, 15, 96] (.cond (.t 96) (.seq (.reg [iR 4 (.p .mv) [(.c (.int .i64 (.ofNat 11)))]]) (.keep [4] (.keep [4] .ret))) .skip))) (.keep [0, 1, 15] (.seq (.reg [iR 13 (.p .mv) [(.c (.bool true))]]) (.keep [0, 1, 13, 15] (.seq (.reg [iR 97 (.p .mv) [(.t 0)], iR 98 (.p .mv) [(.t 15)], iR 99 (.p .nilck) [(.t 97)], iR 100 (.p (.fieldAddr 5)) [(.t 99)], ⟨none, none, (.e (.store 1)), [(.t 100), (.t 98)], none⟩]) (.keep [0, 1, 13] (.seq (.draw [iR 101 (.p .mv) [(.t 0)], iR 102 (.p .nilck) [(.t 101)], iR 103 (.p (.fieldAddr 5)) [(.t 102)],
    ⟨(some 104), none, (.l (.load none)), [(.t 103)], some (0, 1)⟩, iR 105 (.p .mv) [(.t 0)], iR 106 (.p .nilck) [(.t 105)], iR 107 (.p (.fieldAddr 0)) [(.t 106)], iR 108 (.l (.load none)) [(.t 107)], iR 109 (.call 60) [(.t 108)], iR 110 (.p (.bin .eql)) [(.t 104), (.t 109)]]) (.keep [0, 1, 13, 110] (.cond (.t 110) (.reg [iR 111 (.p .mv) [(.t 0)], iR 112 (.p .nilck) [(.t 111)], iR 113 (.p (.fieldAddr 5)) [(.t 112)], ⟨none, none, (.e (.store 1)), [(.t 113), (.c (.int .i64 (.negSucc 0)))], none⟩]) .skip))))))))))) .skip))))))) .skip))) (.keep [0, 1, 13] (.seq (.reg [iR 115 (.p .mv) [(.t 1)], iR 116 (.p .mv) [(.t 0)], iR 117 (.p .nilck) [(.t 116)], iR 118 (.p (.fieldAddr 0)) [(.t 117)], iR 119 (.l (.load none)) [(.t 118)], iR 120 (.call 53) [(.t 119)], iR 121 (.call 122) [(.t 115), (.t 120)], iR 114 (.p .mv) [(.t 121)], iR 122 (.p (.extract 0)) [(.t 114)],
    iR 123 (.p (.extract 1)) [(.t 114)], iR 17 (.p .mv) [(.t 122)], iR 18 (.p .mv) [(.t 123)]]) (.keep [0, 13, 17, 18] (.seq (.seq (.reg [iR 124 (.p .mv) [(.t 18)], iR 125 (.p (.un .not)) [(.t 124)], iR 126 (.p .mv) [(.t 125)], iG 127 126 false (.p .mv) [(.t 17)], iG 128 126 false (.p (.bin .eql)) [(.t 127), (.c (.str []))], iG 129 126 false (.p .mv) [(.t 128)], iG 130 129 true (.p .mv) [(.t 0)], iG 131 129 true (.p .nilck) [(.t 130)], iG 132 129 true (.p (.fieldAddr 1)) [(.t 131)], iG 133 129 true (.l (.load none)) [(.t 132)], iG 134 129 true (.p (.bin .neq)) [(.t 133), (.c (.str []))], iG 135 129 true (.p .mv) [(.t 134)], iG 136 135 false (.p .mv) [(.t 0)], iG 137 135 false (.p .nilck) [(.t 136)], iG 138 135 false (.p (.fieldAddr 2)) [(.t 137)], iG 139 135 false (.l (.load none)) [(.t 138)], iG 140 135 false (.p (.bin .neq)) [(.t 139), (.c (.str []))],
    iG 141 129 true (.p .pick) [(.t 135), (.c (.bool true)), (.t 140)], iG 142 129 true (.p .mv) [(.t 141)], iG 143 142 false (.p .mv) [(.t 13)], iG 144 129 true (.p .pick) [(.t 142), (.c (.bool true)), (.t 143)], iG 145 126 false (.p .pick) [(.t 129), (.t 144), (.c (.bool false))], iR 146 (.p .pick) [(.t 126), (.c (.bool true)), (.t 145)]]) (.keep [0, 17, 146] (.cond (.t 146) (.seq (.reg [iR 4 (.p .mv) [(.c (.int .i64 (.ofNat 10)))]]) (.keep [4] (.keep [4] .ret))) .skip))) (.keep [0, 17] (.seq (.reg [iR 147 (.p .mv) [(.t 0)], iR 148 (.p .mv) [(.t 17)], iR 149 (.p .nilck) [(.t 147)], iR 150 (.p (.fieldAddr 3)) [(.t 149)], ⟨none, none, (.e (.store 1)), [(.t 150), (.t 148)], none⟩]) (.keep [0] (.seq (.reg [iR 151 (.p .mv) [(.t 0)], iR 152 (.p .nilck) [(.t 151)], iR 153 (.p (.fieldAddr 4)) [(.t 152)], ⟨none, none, (.e (.store 1)), [(.t 153), (.c (.bool true))], none⟩])
    (.keep [] (.seq (.reg [iR 4 (.p .mv) [(.c (.int .i64 (.ofNat 0)))]]) (.keep [4] (.keep [4] .ret))))))))))))))))))))))))))))))), [(.t 4)]⟩
def s_ref3_authority (call : CallK) (N : Nat) (a0 a1 : V) (H : Heap) (τ : Tape) (q : KV) : Ans := funK call N fn_ref3_authority [a0, a1] H τ q
theorem s_ref3_authority_eq (call : CallK) (N : Nat) (a0 a1 : V) (H : Heap) (τ : Tape) (q : KV) : s_ref3_authority call N a0 a1 H τ q = funK call N fn_ref3_authority [a0, a1] H τ q := by kernel_rfl
def e_ref3_authority (call : CallK) (N : Nat) (vs : List V) (H : Heap) (τ : Tape) (q : KV) : Ans := match vs with | [a0, a1] => s_ref3_authority call N a0 a1 H τ q | _ => none
theorem e_ref3_authority_ok : EntOk fn_ref3_authority e_ref3_authority := by
  intro call N vs H τ q r h
  unfold e_ref3_authority at h
  split at h
  · rw [s_ref3_authority_eq] at h; exact h
  · cases h
theorem e_ref3_authority_nat : EntNat e_ref3_authority := by
  intro c hn N vs H τ q
  unfold e_ref3_authority
  split
  · rw [s_ref3_authority_eq, s_ref3_authority_eq]; exact funK_ent hn _ _ _ _ _ _
  · rfl
/-- ostiary/ostiaryref3.path -/
def fn_ref3_path : Fun := ⟨2, (.seq (.reg [iR 4 (.p .mv) [(.c .nils)]]) (.keep [0, 1] (.seq (.reg [iR 9 (.e (.buildSlice 0 1 [] [])) [], iR 10 (.p .mv) [(.t 0)], iR 11 (.e (.append 1 16)) [(.t 9), (.t 10)], iR 5 (.p .mv) [(.t 11)]]) (.keep [1, 5] (.seq (.reg [iR 12 (.p .mv) [(.t 1)], iR 13 (.call 123) [(.t 12), (.c (.int .u8 (.ofNat 47)))], iR 6 (.p .mv) [(.t 13)]]) (.keep [5, 6] (.seq (.seq (.reg [iR 7 (.p .mv) [(.c (.int .i64 (.ofNat 0)))]]) (.keep [5, 6, 7] (.block 0 (.loop (.keep [5, 6, 7] (.seq (.seq (.reg [iR 14 (.p .mv) [(.t 7)], iR 15 (.p .mv) [(.t 6)], iR 16 (.p .len) [(.t 15)], iR 17 (.p (.bin .lss)) [(.t 14), (.t 16)]]) (.keep [5, 6, 7, 17] (.cond (.t 17) .skip (.keep [5] (.exit 0))))) (.keep [5, 6, 7] (.seq (.block 1 (.seq (.reg [iR 20 (.p .mv) [(.t 6)], iR 21 (.p .mv) [(.t 7)], iR 22 (.p (.slIdx 1)) [(.t 20), (.t 21)], iR 23 (.l (.load none)) [(.t 22)],
    iR 24 (.call 124) [(.t 23)], iR 8 (.p .mv) [(.t 24)]]) (.keep [5, 6, 7, 8] (.seq (.seq (.reg [iR 25 (.p .mv) [(.t 8)], iR 26 (.p (.bin .eql)) [(.t 25), (.c (.int .i64 (.ofNat 2)))], iR 27 (.p .mv) [(.t 26)], iG 28 27 true (.p .mv) [(.t 5)], iG 29 27 true (.p .len) [(.t 28)], iG 30 27 true (.p (.bin .gtr)) [(.t 29), (.c (.int .i64 (.ofNat 0)))], iR 31 (.p .pick) [(.t 27), (.t 30), (.c (.bool false))]]) (.keep [5, 6, 7, 8, 31] (.cond (.t 31) (.reg [iR 32 (.p .mv) [(.t 5)], iR 33 (.p .mv) [(.t 5)], iR 34 (.p .len) [(.t 33)], iR 35 (.p (.bin .sub)) [(.t 34), (.c (.int .i64 (.ofNat 1)))], iR 36 (.p (.slSlice 1 false true false)) [(.t 32), (.t 35)], iR 5 (.p .mv) [(.t 36)]]) .skip))) (.keep [5, 6, 7, 8] (.seq (.seq (.reg [iR 37 (.p .mv) [(.t 8)], iR 38 (.p (.bin .eql)) [(.t 37), (.c (.int .i64 (.ofNat 1)))], iR 39 (.p .mv) [(.t 38)], iG 40 39 false (.p .mv) [(.t 8)],
    iG 41 39 false (.p (.bin .eql)) [(.t 40), (.c (.int .i64 (.ofNat 2)))], iR 42 (.p .pick) [(.t 39), (.c (.bool true)), (.t 41)]]) (.keep [5, 6, 7, 42] (.cond (.t 42) (.seq (.seq (.reg [iR 43 (.p .mv) [(.t 7)], iR 44 (.p .mv) [(.t 6)], iR 45 (.p .len) [(.t 44)], iR 46 (.p (.bin .sub)) [(.t 45), (.c (.int .i64 (.ofNat 1)))], iR 47 (.p (.bin .eql)) [(.t 43), (.t 46)]]) (.keep [5, 6, 7, 47] (.cond (.t 47) (.reg [iR 48 (.p .mv) [(.t 5)], iR 49 (.e (.buildSlice 1 1 [(.str [])] [(0, 1)])) [(.c (.str []))], iR 50 (.e (.append 1 16)) [(.t 48), (.t 49)], iR 5 (.p .mv) [(.t 50)]]) .skip))) (.keep [5, 6, 7] (.keep [5, 6, 7] (.exit 1)))) .skip))) (.keep [5, 6, 7] (.reg [iR 51 (.p .mv) [(.t 5)], iR 52 (.p .mv) [(.t 6)], iR 53 (.p .mv) [(.t 7)], iR 54 (.p (.slIdx 1)) [(.t 52), (.t 53)], iR 55 (.l (.load none)) [(.t 54)], iR 56 (.call 91) [(.t 55), (.c (.int .i64 (.ofNat 5)))],
    iR 57 (.e (.buildSlice 1 1 [(.str [])] [(0, 1)])) [(.t 56)], iR 58 (.e (.append 1 16)) [(.t 51), (.t 57)], iR 5 (.p .mv) [(.t 58)]])))))))) (.keep [5, 6, 7] (.reg [iR 18 (.p .mv) [(.t 7)], iR 19 (.p (.bin .add)) [(.t 18), (.c (.int .i64 (.ofNat 1)))], iR 7 (.p .mv) [(.t 19)]])))))))))) (.keep [5] (.seq (.reg [iR 59 (.p .mv) [(.t 5)], iR 4 (.p .mv) [(.t 59)]]) (.keep [4] (.keep [4] .ret))))))))))), [(.t 4)]⟩
def s_ref3_path (call : CallK) (N : Nat) (a0 a1 : V) (H : Heap) (τ : Tape) (q : KV) : Ans := funK call N fn_ref3_path [a0, a1] H τ q
theorem s_ref3_path_eq (call : CallK) (N : Nat) (a0 a1 : V) (H : Heap) (τ : Tape) (q : KV) : s_ref3_path call N a0 a1 H τ q = funK call N fn_ref3_path [a0, a1] H τ q := by kernel_rfl
def e_ref3_path (call : CallK) (N : Nat) (vs : List V) (H : Heap) (τ : Tape) (q : KV) : Ans := match vs with | [a0, a1] => s_ref3_path call N a0 a1 H τ q | _ => none
theorem e_ref3_path_ok : EntOk fn_ref3_path e_ref3_path := by
  intro call N vs H τ q r h
  unfold e_ref3_path at h
  split at h
  · rw [s_ref3_path_eq] at h; exact h
  · cases h
theorem e_ref3_path_nat : EntNat e_ref3_path := by
  intro c hn N vs H τ q
  unfold e_ref3_path
  split
  · rw [s_ref3_path_eq, s_ref3_path_eq]; exact funK_ent hn _ _ _ _ _ _
  · rfl
/-- internal/bytealg.hashStr[string] -/
def fn_bytealg_hashStr_string : Fun := ⟨1, (.seq (.reg [iR 2 (.p .mv) [(.c (.int .u32 (.ofNat 0)))], iR 3 (.p .mv) [(.c (.int .u32 (.ofNat 0)))]]) (.keep [0] (.seq (.reg [iR 4 (.p .mv) [(.c (.int .u32 (.ofNat 0)))]]) (.keep [0, 4] (.seq (.seq (.reg [iR 5 (.p .mv) [(.c (.int .i64 (.ofNat 0)))]]) (.keep [0, 4, 5] (.block 0 (.loop (.keep [0, 4, 5] (.seq (.seq (.reg [iR 9 (.p .mv) [(.t 5)], iR 10 (.p .mv) [(.t 0)], iR 11 (.p .lenS) [(.t 10)], iR 12 (.p (.bin .lss)) [(.t 9), (.t 11)]]) (.keep [0, 4, 5, 12] (.cond (.t 12) .skip (.keep [0, 4] (.exit 0))))) (.keep [0, 4, 5] (.seq (.block 1 (.reg [iR 15 (.p .mv) [(.t 4)], iR 16 (.p (.bin .mul)) [(.t 15), (.c (.int .u32 (.ofNat 16777619)))], iR 17 (.p .mv) [(.t 0)], iR 18 (.p .mv) [(.t 5)], iR 19 (.p .strIndex) [(.t 17), (.t 18)], iR 20 (.p (.toInt .u32)) [(.t 19)], iR 21 (.p (.bin .add)) [(.t 16), (.t 20)], iR 4 (.p .mv) [(.t 21)]]))
    (.keep [0, 4, 5] (.reg [iR 13 (.p .mv) [(.t 5)], iR 14 (.p (.bin .add)) [(.t 13), (.c (.int .i64 (.ofNat 1)))], iR 5 (.p .mv) [(.t 14)]])))))))))) (.keep [0, 4] (.seq (.reg [iR 6 (.p .mv) [(.c (.int .u32 (.ofNat 1)))], iR 7 (.p .mv) [(.c (.int .u32 (.ofNat 16777619)))]]) (.keep [0, 4, 6, 7] (.seq (.seq (.reg [iR 22 (.p .mv) [(.t 0)], iR 23 (.p .lenS) [(.t 22)], iR 8 (.p .mv) [(.t 23)]]) (.keep [4, 6, 7, 8] (.block 2 (.loop (.keep [4, 6, 7, 8] (.seq (.seq (.reg [iR 24 (.p .mv) [(.t 8)], iR 25 (.p (.bin .gtr)) [(.t 24), (.c (.int .i64 (.ofNat 0)))]]) (.keep [4, 6, 7, 8, 25] (.cond (.t 25) .skip (.keep [4, 6] (.exit 2))))) (.keep [4, 6, 7, 8] (.seq (.block 3 (.seq (.seq (.reg [iR 28 (.p .mv) [(.t 8)], iR 29 (.p (.bin .and)) [(.t 28), (.c (.int .i64 (.ofNat 1)))], iR 30 (.p (.bin .neq)) [(.t 29), (.c (.int .i64 (.ofNat 0)))]]) (.keep [4, 6, 7, 8, 30] (.cond (.t 30)
    (.reg [iR 31 (.p .mv) [(.t 6)], iR 32 (.p .mv) [(.t 7)], iR 33 (.p (.bin .mul)) [(.t 31), (.t 32)], iR 6 (.p .mv) [(.t 33)]]) .skip))) (.keep [4, 6, 7, 8] (.reg [iR 34 (.p .mv) [(.t 7)], iR 35 (.p .mv) [(.t 7)], iR 36 (.p (.bin .mul)) [(.t 34), (.t 35)], iR 7 (.p .mv) [(.t 36)]])))) (.keep [4, 6, 7, 8] (.reg [iR 26 (.p .mv) [(.t 8)], iR 27 (.p (.bin .shr)) [(.t 26), (.c (.int .u64 (.ofNat 1)))], iR 8 (.p .mv) [(.t 27)]])))))))))) (.keep [4, 6] (.seq (.reg [iR 37 (.p .mv) [(.t 4)], iR 38 (.p .mv) [(.t 6)], iR 2 (.p .mv) [(.t 37)], iR 3 (.p .mv) [(.t 38)]]) (.keep [2, 3] (.keep [2, 3] .ret))))))))))))), [(.t 2), (.t 3)]⟩
def s_bytealg_hashStr_string (call : CallK) (N : Nat) (a0 : V) (H : Heap) (τ : Tape) (q : KV) : Ans := funK call N fn_bytealg_hashStr_string [a0] H τ q
theorem s_bytealg_hashStr_string_eq (call : CallK) (N : Nat) (a0 : V) (H : Heap) (τ : Tape) (q : KV) : s_bytealg_hashStr_string call N a0 H τ q = funK call N fn_bytealg_hashStr_string [a0] H τ q := by kernel_rfl
def e_bytealg_hashStr_string (call : CallK) (N : Nat) (vs : List V) (H : Heap) (τ : Tape) (q : KV) : Ans := match vs with | [a0] => s_bytealg_hashStr_string call N a0 H τ q | _ => none
theorem e_bytealg_hashStr_string_ok : EntOk fn_bytealg_hashStr_string e_bytealg_hashStr_string := by
  intro call N vs H τ q r h
  unfold e_bytealg_hashStr_string at h
  split at h
  · rw [s_bytealg_hashStr_string_eq] at h; exact h
  · cases h
theorem e_bytealg_hashStr_string_nat : EntNat e_bytealg_hashStr_string := by
  intro c hn N vs H τ q
  unfold e_bytealg_hashStr_string
  split
  · rw [s_bytealg_hashStr_string_eq, s_bytealg_hashStr_string_eq]; exact funK_ent hn _ _ _ _ _ _
  · rfl
/-- math/bits.TrailingZeros32 -/
def fn_bits_TrailingZeros32 : Fun := ⟨1, (.seq (.reg [iR 2 (.p .mv) [(.c (.int .i64 (.ofNat 0)))]]) (.keep [0] (.seq (.seq (.reg [iR 3 (.p .mv) [(.t 0)], iR 4 (.p (.bin .eql)) [(.t 3), (.c (.int .u32 (.ofNat 0)))]]) (.keep [0, 4] (.cond (.t 4) (.seq (.reg [iR 2 (.p .mv) [(.c (.int .i64 (.ofNat 32)))]]) (.keep [2] (.keep [2] .ret))) .skip))) (.keep [0] (.seq (.reg [iR 5 (.p .mv) [(.t 0)], iR 6 (.p .mv) [(.t 0)], iR 7 (.p (.un .neg)) [(.t 6)], iR 8 (.p (.bin .and)) [(.t 5), (.t 7)], iR 9 (.p (.bin .mul)) [(.t 8), (.c (.int .u32 (.ofNat 125613361)))], iR 10 (.p (.bin .shr)) [(.t 9), (.c (.int .u64 (.ofNat 27)))], iR 11 (.p (.arrIdx 32 1)) [(.c (.ptr 4 0)), (.t 10)], iR 12 (.l (.load none)) [(.t 11)], iR 13 (.p (.toInt .i64)) [(.t 12)], iR 2 (.p .mv) [(.t 13)]]) (.keep [2] (.keep [2] .ret))))))), [(.t 2)]⟩
def s_bits_TrailingZeros32 (call : CallK) (N : Nat) (a0 : V) (H : Heap) (τ : Tape) (q : KV) : Ans := funK call N fn_bits_TrailingZeros32 [a0] H τ q
theorem s_bits_TrailingZeros32_eq (call : CallK) (N : Nat) (a0 : V) (H : Heap) (τ : Tape) (q : KV) : s_bits_TrailingZeros32 call N a0 H τ q = funK call N fn_bits_TrailingZeros32 [a0] H τ q := by kernel_rfl
def e_bits_TrailingZeros32 (call : CallK) (N : Nat) (vs : List V) (H : Heap) (τ : Tape) (q : KV) : Ans := match vs with | [a0] => s_bits_TrailingZeros32 call N a0 H τ q | _ => none
theorem e_bits_TrailingZeros32_ok : EntOk fn_bits_TrailingZeros32 e_bits_TrailingZeros32 := by
  intro call N vs H τ q r h
  unfold e_bits_TrailingZeros32 at h
  split at h
  · rw [s_bits_TrailingZeros32_eq] at h; exact h
  · cases h
theorem e_bits_TrailingZeros32_nat : EntNat e_bits_TrailingZeros32 := by
  intro c hn N vs H τ q
  unfold e_bits_TrailingZeros32
  split
  · rw [s_bits_TrailingZeros32_eq, s_bits_TrailingZeros32_eq]; exact funK_ent hn _ _ _ _ _ _
  · rfl
/-- math/bits.TrailingZeros64 -/
def fn_bits_TrailingZeros64 : Fun := ⟨1, (.seq (.reg [iR 2 (.p .mv) [(.c (.int .i64 (.ofNat 0)))]]) (.keep [0] (.seq (.seq (.reg [iR 3 (.p .mv) [(.t 0)], iR 4 (.p (.bin .eql)) [(.t 3), (.c (.int .u64 (.ofNat 0)))]]) (.keep [0, 4] (.cond (.t 4) (.seq (.reg [iR 2 (.p .mv) [(.c (.int .i64 (.ofNat 64)))]]) (.keep [2] (.keep [2] .ret))) .skip))) (.keep [0] (.seq (.reg [iR 5 (.p .mv) [(.t 0)], iR 6 (.p .mv) [(.t 0)], iR 7 (.p (.un .neg)) [(.t 6)], iR 8 (.p (.bin .and)) [(.t 5), (.t 7)], iR 9 (.p (.bin .mul)) [(.t 8), (.c (.int .u64 (.ofNat 285870213051353865)))], iR 10 (.p (.bin .shr)) [(.t 9), (.c (.int .u64 (.ofNat 58)))], iR 11 (.p (.arrIdx 64 1)) [(.c (.ptr 5 0)), (.t 10)], iR 12 (.l (.load none)) [(.t 11)], iR 13 (.p (.toInt .i64)) [(.t 12)], iR 2 (.p .mv) [(.t 13)]]) (.keep [2] (.keep [2] .ret))))))), [(.t 2)]⟩
def s_bits_TrailingZeros64 (call : CallK) (N : Nat) (a0 : V) (H : Heap) (τ : Tape) (q : KV) : Ans := funK call N fn_bits_TrailingZeros64 [a0] H τ q
theorem s_bits_TrailingZeros64_eq (call : CallK) (N : Nat) (a0 : V) (H : Heap) (τ : Tape) (q : KV) : s_bits_TrailingZeros64 call N a0 H τ q = funK call N fn_bits_TrailingZeros64 [a0] H τ q := by kernel_rfl
def e_bits_TrailingZeros64 (call : CallK) (N : Nat) (vs : List V) (H : Heap) (τ : Tape) (q : KV) : Ans := match vs with | [a0] => s_bits_TrailingZeros64 call N a0 H τ q | _ => none
theorem e_bits_TrailingZeros64_ok : EntOk fn_bits_TrailingZeros64 e_bits_TrailingZeros64 := by
  intro call N vs H τ q r h
  unfold e_bits_TrailingZeros64 at h
  split at h
  · rw [s_bits_TrailingZeros64_eq] at h; exact h
  · cases h
theorem e_bits_TrailingZeros64_nat : EntNat e_bits_TrailingZeros64 := by
  intro c hn N vs H τ q
  unfold e_bits_TrailingZeros64
  split
  · rw [s_bits_TrailingZeros64_eq, s_bits_TrailingZeros64_eq]; exact funK_ent hn _ _ _ _ _ _
  · rfl
/-- ostiary/ostiaryref2.Parse -/
def fn_ref2_Parse : Fun := ⟨2, (.seq (.reg [iR 4 (.p .mv) [(.c (.str []))], iR 5 (.p .mv) [(.c (.bool false))]]) (.keep [0, 1] (.seq (.seq (.reg [iR 14 (.p .mv) [(.t 0)], iR 15 (.call 61) [(.t 14), (.c (.str (bs [91])))]]) (.keep [0, 1, 15] (.cond (.t 15) (.seq (.seq (.reg [iR 16 (.p .mv) [(.t 0)], iR 17 (.call 125) [(.t 16), (.c (.str (bs [93])))], iR 18 (.p (.un .not)) [(.t 17)]]) (.keep [0, 18] (.cond (.t 18) (.seq (.reg [iR 4 (.p .mv) [(.c (.str []))], iR 5 (.p .mv) [(.c (.bool false))]]) (.keep [4, 5] (.keep [4, 5] .ret))) .skip))) (.keep [0] (.seq (.reg [iR 20 (.p .mv) [(.t 0)], iR 21 (.p .mv) [(.t 0)], iR 22 (.p .lenS) [(.t 21)], iR 23 (.p (.bin .sub)) [(.t 22), (.c (.int .i64 (.ofNat 1)))], iR 24 (.p (.strSlice true true)) [(.t 20), (.c (.int .i64 (.ofNat 1))), (.t 23)], iR 25 (.call 126) [(.t 24)], iR 19 (.p .mv) [(.t 25)], iR 26 (.p (.extract 0)) [(.t 19)],
    iR 27 (.p (.extract 1)) [(.t 19)], iR 6 (.e (.alloc (repl 8 [(.int .u16 (.ofNat 0))]))) [], ⟨none, none, (.e (.store 8)), [(.t 6), (.t 26)], none⟩, iR 7 (.p .mv) [(.t 27)]]) (.keep [6, 7] (.seq (.seq (.reg [iR 28 (.p .mv) [(.t 7)], iR 29 (.p (.un .not)) [(.t 28)]]) (.keep [6, 29] (.cond (.t 29) (.seq (.reg [iR 4 (.p .mv) [(.c (.str []))], iR 5 (.p .mv) [(.c (.bool false))]]) (.keep [4, 5] (.keep [4, 5] .ret))) .skip))) (.keep [6] (.seq (.reg [iR 30 (.l (.load (some 8))) [(.t 6)], iR 31 (.call 127) [(.t 30)], iR 32 (.p (.bin .add)) [(.c (.str (bs [91]))), (.t 31)], iR 33 (.p (.bin .add)) [(.t 32), (.c (.str (bs [93])))], iR 4 (.p .mv) [(.t 33)], iR 5 (.p .mv) [(.c (.bool true))]]) (.keep [4, 5] (.keep [4, 5] .ret))))))))) .skip))) (.keep [0, 1] (.seq (.seq (.reg [iR 34 (.p .mv) [(.t 1)], iR 35 (.p (.un .not)) [(.t 34)]]) (.keep [0, 35] (.cond (.t 35)
    (.seq (.seq (.reg [iR 8 (.p .mv) [(.c (.int .i64 (.ofNat 0)))]]) (.keep [0, 8] (.block 0 (.loop (.keep [0, 8] (.seq (.seq (.reg [iR 36 (.p .mv) [(.t 8)], iR 37 (.p .mv) [(.t 0)], iR 38 (.p .lenS) [(.t 37)], iR 39 (.p (.bin .lss)) [(.t 36), (.t 38)]]) (.keep [0, 8, 39] (.cond (.t 39) .skip (.keep [0] (.exit 0))))) (.keep [0, 8] (.seq (.block 1 (.seq (.reg [iR 42 (.p .mv) [(.t 0)], iR 43 (.p .mv) [(.t 8)], iR 44 (.p .strIndex) [(.t 42), (.t 43)], iR 45 (.call 128) [(.t 44)]]) (.keep [0, 8, 45] (.cond (.t 45) (.seq (.reg [iR 4 (.p .mv) [(.c (.str []))], iR 5 (.p .mv) [(.c (.bool false))]]) (.keep [4, 5] (.keep [4, 5] .ret))) .skip)))) (.keep [0, 8] (.reg [iR 40 (.p .mv) [(.t 8)], iR 41 (.p (.bin .add)) [(.t 40), (.c (.int .i64 (.ofNat 1)))], iR 8 (.p .mv) [(.t 41)]])))))))))) (.keep [0] (.seq (.reg [iR 46 (.p .mv) [(.t 0)], iR 47 (.call 91) [(.t 46), (.c (.int .i64 (.ofNat 1)))],
    iR 4 (.p .mv) [(.t 47)], iR 5 (.p .mv) [(.c (.bool true))]]) (.keep [4, 5] (.keep [4, 5] .ret))))) .skip))) (.keep [0] (.seq (.reg [iR 48 (.p .mv) [(.t 0)], iR 49 (.call 129) [(.t 48)], iR 50 (.call 92) [(.t 49)], iR 0 (.p .mv) [(.t 50)]]) (.keep [0] (.seq (.seq (.reg [iR 9 (.p .mv) [(.c (.int .i64 (.ofNat 0)))]]) (.keep [0, 9] (.block 2 (.loop (.keep [0, 9] (.seq (.seq (.reg [iR 51 (.p .mv) [(.t 9)], iR 52 (.p .mv) [(.t 0)], iR 53 (.p .lenS) [(.t 52)], iR 54 (.p (.bin .lss)) [(.t 51), (.t 53)]]) (.keep [0, 9, 54] (.cond (.t 54) .skip (.keep [0] (.exit 2))))) (.keep [0, 9] (.seq (.block 3 (.seq (.reg [iR 57 (.p .mv) [(.t 0)], iR 58 (.p .mv) [(.t 9)], iR 59 (.p .strIndex) [(.t 57), (.t 58)], iR 60 (.p (.bin .gtr)) [(.t 59), (.c (.int .u8 (.ofNat 126)))], iR 61 (.p .mv) [(.t 60)], iG 62 61 false (.p .mv) [(.t 0)], iG 63 61 false (.p .mv) [(.t 9)],
    iG 64 61 false (.p .strIndex) [(.t 62), (.t 63)], iG 65 61 false (.p (.bin .lss)) [(.t 64), (.c (.int .u8 (.ofNat 33)))], iR 66 (.p .pick) [(.t 61), (.c (.bool true)), (.t 65)], iR 67 (.p .mv) [(.t 66)], iG 68 67 false (.p .mv) [(.t 0)], iG 69 67 false (.p .mv) [(.t 9)], iG 70 67 false (.p .strIndex) [(.t 68), (.t 69)], iG 71 67 false (.p (.bin .eql)) [(.t 70), (.c (.int .u8 (.ofNat 37)))], iR 72 (.p .pick) [(.t 67), (.c (.bool true)), (.t 71)], iR 73 (.p .mv) [(.t 72)], iG 74 73 false (.p .mv) [(.t 0)], iG 75 73 false (.p .mv) [(.t 9)], iG 76 73 false (.p .strIndex) [(.t 74), (.t 75)], iG 77 73 false (.call 128) [(.t 76)], iR 78 (.p .pick) [(.t 73), (.c (.bool true)), (.t 77)]]) (.keep [0, 9, 78] (.cond (.t 78) (.seq (.reg [iR 4 (.p .mv) [(.c (.str []))], iR 5 (.p .mv) [(.c (.bool false))]]) (.keep [4, 5] (.keep [4, 5] .ret))) .skip))))
    (.keep [0, 9] (.reg [iR 55 (.p .mv) [(.t 9)], iR 56 (.p (.bin .add)) [(.t 55), (.c (.int .i64 (.ofNat 1)))], iR 9 (.p .mv) [(.t 56)]])))))))))) (.keep [0] (.seq (.reg [iR 79 (.p .mv) [(.t 0)], iR 80 (.call 123) [(.t 79), (.c (.int .u8 (.ofNat 46)))], iR 10 (.p .mv) [(.t 80)]]) (.keep [0, 10] (.seq (.seq (.reg [iR 11 (.p .mv) [(.c (.int .i64 (.ofNat 0)))]]) (.keep [0, 10, 11] (.block 4 (.loop (.keep [0, 10, 11] (.seq (.seq (.reg [iR 81 (.p .mv) [(.t 11)], iR 82 (.p .mv) [(.t 10)], iR 83 (.p .len) [(.t 82)], iR 84 (.p (.bin .lss)) [(.t 81), (.t 83)]]) (.keep [0, 10, 11, 84] (.cond (.t 84) .skip (.keep [0] (.exit 4))))) (.keep [0, 10, 11] (.seq (.block 5 (.seq (.reg [iR 87 (.p .mv) [(.t 10)], iR 88 (.p .mv) [(.t 11)], iR 89 (.p (.slIdx 1)) [(.t 87), (.t 88)], iR 90 (.l (.load none)) [(.t 89)], iR 91 (.call 61) [(.t 90), (.c (.str (bs [120, 110, 45, 45])))]])
    (.keep [0, 10, 11, 91] (.cond (.t 91) (.seq (.reg [iR 4 (.p .mv) [(.c (.str []))], iR 5 (.p .mv) [(.c (.bool false))]]) (.keep [4, 5] (.keep [4, 5] .ret))) .skip)))) (.keep [0, 10, 11] (.reg [iR 85 (.p .mv) [(.t 11)], iR 86 (.p (.bin .add)) [(.t 85), (.c (.int .i64 (.ofNat 1)))], iR 11 (.p .mv) [(.t 86)]])))))))))) (.keep [0] (.seq (.seq (.reg [iR 92 (.p .mv) [(.t 0)], iR 93 (.p (.bin .eql)) [(.t 92), (.c (.str []))]]) (.keep [0, 93] (.cond (.t 93) (.seq (.reg [iR 4 (.p .mv) [(.c (.str []))], iR 5 (.p .mv) [(.c (.bool false))]]) (.keep [4, 5] (.keep [4, 5] .ret))) .skip))) (.keep [0] (.seq (.seq (.reg [iR 94 (.p .mv) [(.t 0)], iR 95 (.call 130) [(.t 94)], iR 96 (.p (.un .not)) [(.t 95)]]) (.keep [0, 96] (.cond (.t 96) (.seq (.reg [iR 97 (.p .mv) [(.t 0)], iR 4 (.p .mv) [(.t 97)], iR 5 (.p .mv) [(.c (.bool true))]]) (.keep [4, 5] (.keep [4, 5] .ret))) .skip)))
    (.keep [0] (.seq (.reg [iR 99 (.p .mv) [(.t 0)], iR 100 (.call 131) [(.t 99)], iR 98 (.p .mv) [(.t 100)], iR 101 (.p (.extract 0)) [(.t 98)], iR 102 (.p (.extract 1)) [(.t 98)], iR 12 (.p .mv) [(.t 101)], iR 13 (.p .mv) [(.t 102)]]) (.keep [12, 13] (.seq (.seq (.reg [iR 103 (.p .mv) [(.t 13)], iR 104 (.p (.un .not)) [(.t 103)]]) (.keep [12, 104] (.cond (.t 104) (.seq (.reg [iR 4 (.p .mv) [(.c (.str []))], iR 5 (.p .mv) [(.c (.bool false))]]) (.keep [4, 5] (.keep [4, 5] .ret))) .skip))) (.keep [12] (.seq (.reg [iR 105 (.p .mv) [(.t 12)], iR 106 (.call 132) [(.t 105)], iR 4 (.p .mv) [(.t 106)], iR 5 (.p .mv) [(.c (.bool true))]]) (.keep [4, 5] (.keep [4, 5] .ret))))))))))))))))))))))))), [(.t 4), (.t 5)]⟩
def s_ref2_Parse (call : CallK) (N : Nat) (a0 a1 : V) (H : Heap) (τ : Tape) (q : KV) : Ans := funK call N fn_ref2_Parse [a0, a1] H τ q
theorem s_ref2_Parse_eq (call : CallK) (N : Nat) (a0 a1 : V) (H : Heap) (τ : Tape) (q : KV) : s_ref2_Parse call N a0 a1 H τ q = funK call N fn_ref2_Parse [a0, a1] H τ q := by kernel_rfl
def e_ref2_Parse (call : CallK) (N : Nat) (vs : List V) (H : Heap) (τ : Tape) (q : KV) : Ans := match vs with | [a0, a1] => s_ref2_Parse call N a0 a1 H τ q | _ => none
theorem e_ref2_Parse_ok : EntOk fn_ref2_Parse e_ref2_Parse := by
  intro call N vs H τ q r h
  unfold e_ref2_Parse at h
  split at h
  · rw [s_ref2_Parse_eq] at h; exact h
  · cases h
theorem e_ref2_Parse_nat : EntNat e_ref2_Parse := by
  intro c hn N vs H τ q
  unfold e_ref2_Parse
  split
  · rw [s_ref2_Parse_eq, s_ref2_Parse_eq]; exact funK_ent hn _ _ _ _ _ _
  · rfl
/-- ostiary/ostiaryref1.Cut -/
def fn_ref1_Cut : Fun := ⟨2, (.seq (.reg [iR 4 (.p .mv) [(.c .nils)]]) (.keep [0, 1] (.seq (.reg [iR 5 (.p .mv) [(.c .nils)]]) (.keep [0, 1, 5] (.seq (.reg [iR 6 (.p .mv) [(.c (.int .i64 (.ofNat 0)))]]) (.keep [0, 1, 5, 6] (.seq (.seq (.reg [iR 7 (.p .mv) [(.c (.int .i64 (.ofNat 0)))]]) (.keep [0, 1, 5, 6, 7] (.block 0 (.loop (.keep [0, 1, 5, 6, 7] (.seq (.seq (.reg [iR 8 (.p .mv) [(.t 7)], iR 9 (.p .mv) [(.t 0)], iR 10 (.p .lenS) [(.t 9)], iR 11 (.p (.bin .leq)) [(.t 8), (.t 10)]]) (.keep [0, 1, 5, 6, 7, 11] (.cond (.t 11) .skip (.keep [5] (.exit 0))))) (.keep [0, 1, 5, 6, 7] (.seq (.block 1 (.seq (.reg [iR 14 (.p .mv) [(.t 7)], iR 15 (.p .mv) [(.t 0)], iR 16 (.p .lenS) [(.t 15)], iR 17 (.p (.bin .eql)) [(.t 14), (.t 16)], iR 18 (.p .mv) [(.t 17)], iG 19 18 false (.p .mv) [(.t 0)], iG 20 18 false (.p .mv) [(.t 7)], iG 21 18 false (.p .strIndex) [(.t 19), (.t 20)],
    iG 22 18 false (.p .mv) [(.t 1)], iG 23 18 false (.p (.bin .eql)) [(.t 21), (.t 22)], iR 24 (.p .pick) [(.t 18), (.c (.bool true)), (.t 23)]]) (.keep [0, 1, 5, 6, 7, 24] (.cond (.t 24) (.seq (.reg [iR 25 (.p .mv) [(.t 5)], iR 26 (.p .mv) [(.t 0)], iR 27 (.p .mv) [(.t 6)], iR 28 (.p .mv) [(.t 7)], iR 29 (.p (.strSlice true true)) [(.t 26), (.t 27), (.t 28)], iR 30 (.e (.buildSlice 1 1 [(.str [])] [(0, 1)])) [(.t 29)], iR 31 (.e (.append 1 16)) [(.t 25), (.t 30)], iR 5 (.p .mv) [(.t 31)]]) (.keep [0, 1, 5, 7] (.reg [iR 32 (.p .mv) [(.t 7)], iR 33 (.p (.bin .add)) [(.t 32), (.c (.int .i64 (.ofNat 1)))], iR 6 (.p .mv) [(.t 33)]]))) .skip)))) (.keep [0, 1, 5, 6, 7] (.reg [iR 12 (.p .mv) [(.t 7)], iR 13 (.p (.bin .add)) [(.t 12), (.c (.int .i64 (.ofNat 1)))], iR 7 (.p .mv) [(.t 13)]])))))))))) (.keep [5] (.seq (.reg [iR 34 (.p .mv) [(.t 5)], iR 4 (.p .mv) [(.t 34)]])
    (.keep [4] (.keep [4] .ret))))))))))), [(.t 4)]⟩
def s_ref1_Cut (call : CallK) (N : Nat) (a0 a1 : V) (H : Heap) (τ : Tape) (q : KV) : Ans := funK call N fn_ref1_Cut [a0, a1] H τ q
theorem s_ref1_Cut_eq (call : CallK) (N : Nat) (a0 a1 : V) (H : Heap) (τ : Tape) (q : KV) : s_ref1_Cut call N a0 a1 H τ q = funK call N fn_ref1_Cut [a0, a1] H τ q := by kernel_rfl
def e_ref1_Cut (call : CallK) (N : Nat) (vs : List V) (H : Heap) (τ : Tape) (q : KV) : Ans := match vs with | [a0, a1] => s_ref1_Cut call N a0 a1 H τ q | _ => none
theorem e_ref1_Cut_ok : EntOk fn_ref1_Cut e_ref1_Cut := by
  intro call N vs H τ q r h
  unfold e_ref1_Cut at h
  split at h
  · rw [s_ref1_Cut_eq] at h; exact h
  · cases h
theorem e_ref1_Cut_nat : EntNat e_ref1_Cut := by
  intro c hn N vs H τ q
  unfold e_ref1_Cut
  split
  · rw [s_ref1_Cut_eq, s_ref1_Cut_eq]; exact funK_ent hn _ _ _ _ _ _
  · rfl
/-- ostiary/ostiaryref3.dots -/
def fn_ref3_dots : Fun := ⟨1, (.seq (.reg [iR 2 (.p .mv) [(.c (.int .i64 (.ofNat 0)))]]) (.keep [0] (.seq (.reg [iR 3 (.p .mv) [(.c (.int .i64 (.ofNat 0)))]]) (.keep [0, 3] (.seq (.block 0 (.loop (.keep [0, 3] (.seq (.seq (.reg [iR 4 (.p .mv) [(.t 0)], iR 5 (.p (.bin .neq)) [(.t 4), (.c (.str []))]]) (.keep [0, 3, 5] (.cond (.t 5) .skip (.keep [3] (.exit 0))))) (.keep [0, 3] (.block 1 (.seq (.block 2 (.seq (.reg [iR 7 (.p .mv) [(.t 0)], iR 8 (.p .strIndex) [(.t 7), (.c (.int .i64 (.ofNat 0)))], iR 9 (.p (.bin .eql)) [(.t 8), (.c (.int .u8 (.ofNat 46)))], iR 6 (.p .mv) [(.t 9)]]) (.keep [0, 3, 6] (.cond (.t 6) (.reg [iR 10 (.p .mv) [(.t 0)], iR 11 (.p (.strSlice true false)) [(.t 10), (.c (.int .i64 (.ofNat 1)))], iR 0 (.p .mv) [(.t 11)]]) (.seq (.reg [iR 13 (.p .mv) [(.t 0)], iR 14 (.call 92) [(.t 13)], iR 15 (.call 61) [(.t 14), (.c (.str (bs [37, 50, 101])))],
    iR 12 (.p .mv) [(.t 15)]]) (.keep [0, 3, 12] (.cond (.t 12) (.reg [iR 16 (.p .mv) [(.t 0)], iR 17 (.p (.strSlice true false)) [(.t 16), (.c (.int .i64 (.ofNat 3)))], iR 0 (.p .mv) [(.t 17)]]) (.seq (.reg [iR 2 (.p .mv) [(.c (.int .i64 (.ofNat 0)))]]) (.keep [2] (.keep [2] .ret)))))))))) (.keep [0, 3] (.reg [iR 18 (.p .mv) [(.t 3)], iR 19 (.p (.bin .add)) [(.t 18), (.c (.int .i64 (.ofNat 1)))], iR 3 (.p .mv) [(.t 19)]]))))))))) (.keep [3] (.seq (.reg [iR 20 (.p .mv) [(.t 3)], iR 2 (.p .mv) [(.t 20)]]) (.keep [2] (.keep [2] .ret))))))))), [(.t 2)]⟩
def s_ref3_dots (call : CallK) (N : Nat) (a0 : V) (H : Heap) (τ : Tape) (q : KV) : Ans := funK call N fn_ref3_dots [a0] H τ q
theorem s_ref3_dots_eq (call : CallK) (N : Nat) (a0 : V) (H : Heap) (τ : Tape) (q : KV) : s_ref3_dots call N a0 H τ q = funK call N fn_ref3_dots [a0] H τ q := by kernel_rfl
def e_ref3_dots (call : CallK) (N : Nat) (vs : List V) (H : Heap) (τ : Tape) (q : KV) : Ans := match vs with | [a0] => s_ref3_dots call N a0 H τ q | _ => none
theorem e_ref3_dots_ok : EntOk fn_ref3_dots e_ref3_dots := by
  intro call N vs H τ q r h
  unfold e_ref3_dots at h
  split at h
  · rw [s_ref3_dots_eq] at h; exact h
  · cases h
theorem e_ref3_dots_nat : EntNat e_ref3_dots := by
  intro c hn N vs H τ q
  unfold e_ref3_dots
  split
  · rw [s_ref3_dots_eq, s_ref3_dots_eq]; exact funK_ent hn _ _ _ _ _ _
  · rfl
/-- ostiary/ostiaryref1.Ends -/
def fn_ref1_Ends : Fun := ⟨2, (.seq (.reg [iR 4 (.p .mv) [(.c (.bool false))]]) (.keep [0, 1] (.seq (.reg [iR 5 (.p .mv) [(.t 0)], iR 6 (.p .lenS) [(.t 5)], iR 7 (.p .mv) [(.t 1)], iR 8 (.p .lenS) [(.t 7)], iR 9 (.p (.bin .geq)) [(.t 6), (.t 8)], iR 10 (.p .mv) [(.t 9)], iG 11 10 true (.p .mv) [(.t 0)], iG 12 10 true (.p .mv) [(.t 0)], iG 13 10 true (.p .lenS) [(.t 12)], iG 14 10 true (.p .mv) [(.t 1)], iG 15 10 true (.p .lenS) [(.t 14)], iG 16 10 true (.p (.bin .sub)) [(.t 13), (.t 15)], iG 17 10 true (.p (.strSlice true false)) [(.t 11), (.t 16)], iG 18 10 true (.p .mv) [(.t 1)], iG 19 10 true (.p (.bin .eql)) [(.t 17), (.t 18)], iR 20 (.p .pick) [(.t 10), (.t 19), (.c (.bool false))], iR 4 (.p .mv) [(.t 20)]]) (.keep [4] (.keep [4] .ret))))), [(.t 4)]⟩
def s_ref1_Ends (call : CallK) (N : Nat) (a0 a1 : V) (H : Heap) (τ : Tape) (q : KV) : Ans := funK call N fn_ref1_Ends [a0, a1] H τ q
theorem s_ref1_Ends_eq (call : CallK) (N : Nat) (a0 a1 : V) (H : Heap) (τ : Tape) (q : KV) : s_ref1_Ends call N a0 a1 H τ q = funK call N fn_ref1_Ends [a0, a1] H τ q := by kernel_rfl
def e_ref1_Ends (call : CallK) (N : Nat) (vs : List V) (H : Heap) (τ : Tape) (q : KV) : Ans := match vs with | [a0, a1] => s_ref1_Ends call N a0 a1 H τ q | _ => none
theorem e_ref1_Ends_ok : EntOk fn_ref1_Ends e_ref1_Ends := by
  intro call N vs H τ q r h
  unfold e_ref1_Ends at h
  split at h
  · rw [s_ref1_Ends_eq] at h; exact h
  · cases h
theorem e_ref1_Ends_nat : EntNat e_ref1_Ends := by
  intro c hn N vs H τ q
  unfold e_ref1_Ends
  split
  · rw [s_ref1_Ends_eq, s_ref1_Ends_eq]; exact funK_ent hn _ _ _ _ _ _
  · rfl
/-- ostiary/ostiaryref2.Six -/
def fn_ref2_Six : Fun := ⟨1, (.seq (.reg [iR 2 (.e (.alloc (repl 8 [(.int .u16 (.ofNat 0))]))) [], iR 3 (.p .mv) [(.c (.bool false))]]) (.keep [0, 2] (.seq (.reg [iR 4 (.e (.alloc (repl 8 [(.int .u16 (.ofNat 0))]))) []]) (.keep [0, 2, 4] (.seq (.reg [iR 5 (.p .mv) [(.c (.int .i64 (.negSucc 0)))]]) (.keep [0, 2, 4, 5] (.seq (.seq (.reg [iR 6 (.p .mv) [(.c (.int .i64 (.ofNat 0)))]]) (.keep [0, 2, 4, 5, 6] (.block 0 (.loop (.keep [0, 2, 4, 5, 6] (.seq (.seq (.reg [iR 13 (.p .mv) [(.t 6)], iR 14 (.p (.bin .add)) [(.t 13), (.c (.int .i64 (.ofNat 1)))], iR 15 (.p .mv) [(.t 0)], iR 16 (.p .lenS) [(.t 15)], iR 17 (.p (.bin .lss)) [(.t 14), (.t 16)]]) (.keep [0, 2, 4, 5, 6, 17] (.cond (.t 17) .skip (.keep [0, 2, 4, 5] (.exit 0))))) (.keep [0, 2, 4, 5, 6] (.seq (.block 1 (.seq (.reg [iR 20 (.p .mv) [(.t 0)], iR 21 (.p .mv) [(.t 6)], iR 22 (.p .strIndex) [(.t 20), (.t 21)],
    iR 23 (.p (.bin .eql)) [(.t 22), (.c (.int .u8 (.ofNat 58)))], iR 24 (.p .mv) [(.t 23)], iG 25 24 true (.p .mv) [(.t 0)], iG 26 24 true (.p .mv) [(.t 6)], iG 27 24 true (.p (.bin .add)) [(.t 26), (.c (.int .i64 (.ofNat 1)))], iG 28 24 true (.p .strIndex) [(.t 25), (.t 27)], iG 29 24 true (.p (.bin .eql)) [(.t 28), (.c (.int .u8 (.ofNat 58)))], iR 30 (.p .pick) [(.t 24), (.t 29), (.c (.bool false))]]) (.keep [0, 2, 4, 5, 6, 30] (.cond (.t 30) (.seq (.reg [iR 31 (.p .mv) [(.t 6)], iR 5 (.p .mv) [(.t 31)]]) (.keep [0, 2, 4, 5] (.keep [0, 2, 4, 5] (.exit 0)))) .skip)))) (.keep [0, 2, 4, 5, 6] (.reg [iR 18 (.p .mv) [(.t 6)], iR 19 (.p (.bin .add)) [(.t 18), (.c (.int .i64 (.ofNat 1)))], iR 6 (.p .mv) [(.t 19)]])))))))))) (.keep [0, 2, 4, 5] (.seq (.seq (.reg [iR 32 (.p .mv) [(.t 5)], iR 33 (.p (.bin .lss)) [(.t 32), (.c (.int .i64 (.ofNat 0)))]]) (.keep [0, 2, 4, 5, 33] (.cond (.t 33)
    (.seq (.reg [iR 35 (.p .mv) [(.t 0)], iR 36 (.call 133) [(.t 35), (.c (.bool true))], iR 34 (.p .mv) [(.t 36)], iR 37 (.p (.extract 0)) [(.t 34)], iR 38 (.p (.extract 1)) [(.t 34)], iR 7 (.p .mv) [(.t 37)], iR 8 (.p .mv) [(.t 38)]]) (.keep [2, 4, 7, 8] (.seq (.seq (.reg [iR 39 (.p .mv) [(.t 8)], iR 40 (.p (.un .not)) [(.t 39)], iR 41 (.p .mv) [(.t 40)], iG 42 41 false (.p .mv) [(.t 7)], iG 43 41 false (.p .len) [(.t 42)], iG 44 41 false (.p (.bin .neq)) [(.t 43), (.c (.int .i64 (.ofNat 8)))], iR 45 (.p .pick) [(.t 41), (.c (.bool true)), (.t 44)]]) (.keep [2, 4, 7, 45] (.cond (.t 45) (.seq (.reg [iR 46 (.l (.load (some 8))) [(.t 4)], ⟨none, none, (.e (.store 8)), [(.t 2), (.t 46)], none⟩, iR 3 (.p .mv) [(.c (.bool false))]]) (.keep [2, 3] (.keep [2, 3] .ret))) .skip))) (.keep [2, 4, 7] (.seq (.reg [iR 47 (.p (.arrSlice 8 1 false false false)) [(.t 4)], iR 48 (.p .mv) [(.t 7)],
    iR 49 (.e (.copy 1)) [(.t 47), (.t 48)]]) (.keep [2, 4] (.seq (.reg [iR 50 (.l (.load (some 8))) [(.t 4)], ⟨none, none, (.e (.store 8)), [(.t 2), (.t 50)], none⟩, iR 3 (.p .mv) [(.c (.bool true))]]) (.keep [2, 3] (.keep [2, 3] .ret))))))))) .skip))) (.keep [0, 2, 4, 5] (.seq (.reg [iR 52 (.p .mv) [(.t 0)], iR 53 (.p .mv) [(.t 5)], iR 54 (.p (.strSlice false true)) [(.t 52), (.t 53)], iR 55 (.call 133) [(.t 54), (.c (.bool false))], iR 51 (.p .mv) [(.t 55)], iR 56 (.p (.extract 0)) [(.t 51)], iR 57 (.p (.extract 1)) [(.t 51)], iR 9 (.p .mv) [(.t 56)], iR 10 (.p .mv) [(.t 57)]]) (.keep [0, 2, 4, 5, 9, 10] (.seq (.reg [iR 59 (.p .mv) [(.t 0)], iR 60 (.p .mv) [(.t 5)], iR 61 (.p (.bin .add)) [(.t 60), (.c (.int .i64 (.ofNat 2)))], iR 62 (.p (.strSlice true false)) [(.t 59), (.t 61)], iR 63 (.call 133) [(.t 62), (.c (.bool true))], iR 58 (.p .mv) [(.t 63)],
    iR 64 (.p (.extract 0)) [(.t 58)], iR 65 (.p (.extract 1)) [(.t 58)], iR 11 (.p .mv) [(.t 64)], iR 12 (.p .mv) [(.t 65)]]) (.keep [2, 4, 9, 10, 11, 12] (.seq (.seq (.reg [iR 66 (.p .mv) [(.t 10)], iR 67 (.p (.un .not)) [(.t 66)], iR 68 (.p .mv) [(.t 67)], iG 69 68 false (.p .mv) [(.t 12)], iG 70 68 false (.p (.un .not)) [(.t 69)], iR 71 (.p .pick) [(.t 68), (.c (.bool true)), (.t 70)], iR 72 (.p .mv) [(.t 71)], iG 73 72 false (.p .mv) [(.t 9)], iG 74 72 false (.p .len) [(.t 73)], iG 75 72 false (.p .mv) [(.t 11)], iG 76 72 false (.p .len) [(.t 75)], iG 77 72 false (.p (.bin .add)) [(.t 74), (.t 76)], iG 78 72 false (.p (.bin .gtr)) [(.t 77), (.c (.int .i64 (.ofNat 7)))], iR 79 (.p .pick) [(.t 72), (.c (.bool true)), (.t 78)]]) (.keep [2, 4, 9, 11, 79] (.cond (.t 79) (.seq (.reg [iR 80 (.p (.build (repl 8 [(.int .u16 (.ofNat 0))]) [])) [],
    ⟨none, none, (.e (.store 8)), [(.t 2), (.t 80)], none⟩, iR 3 (.p .mv) [(.c (.bool false))]]) (.keep [2, 3] (.keep [2, 3] .ret))) .skip))) (.keep [2, 4, 9, 11] (.seq (.reg [iR 81 (.p (.arrSlice 8 1 false false false)) [(.t 4)], iR 82 (.p .mv) [(.t 9)], iR 83 (.e (.copy 1)) [(.t 81), (.t 82)]]) (.keep [2, 4, 11] (.seq (.reg [iR 84 (.p .mv) [(.t 11)], iR 85 (.p .len) [(.t 84)], iR 86 (.p (.bin .sub)) [(.c (.int .i64 (.ofNat 8))), (.t 85)], iR 87 (.p (.arrSlice 8 1 true false false)) [(.t 4), (.t 86)], iR 88 (.p .mv) [(.t 11)], iR 89 (.e (.copy 1)) [(.t 87), (.t 88)]]) (.keep [2, 4] (.seq (.reg [iR 90 (.l (.load (some 8))) [(.t 4)], ⟨none, none, (.e (.store 8)), [(.t 2), (.t 90)], none⟩, iR 3 (.p .mv) [(.c (.bool true))]]) (.keep [2, 3] (.keep [2, 3] .ret))))))))))))))))))))))), [(.cell 2 (some 8)), (.t 3)]⟩
def s_ref2_Six (call : CallK) (N : Nat) (a0 : V) (H : Heap) (τ : Tape) (q : KV) : Ans := funK call N fn_ref2_Six [a0] H τ q
theorem s_ref2_Six_eq (call : CallK) (N : Nat) (a0 : V) (H : Heap) (τ : Tape) (q : KV) : s_ref2_Six call N a0 H τ q = funK call N fn_ref2_Six [a0] H τ q := by kernel_rfl
def e_ref2_Six (call : CallK) (N : Nat) (vs : List V) (H : Heap) (τ : Tape) (q : KV) : Ans := match vs with | [a0] => s_ref2_Six call N a0 H τ q | _ => none
theorem e_ref2_Six_ok : EntOk fn_ref2_Six e_ref2_Six := by
  intro call N vs H τ q r h
  unfold e_ref2_Six at h
  split at h
  · rw [s_ref2_Six_eq] at h; exact h
  · cases h
theorem e_ref2_Six_nat : EntNat e_ref2_Six := by
  intro c hn N vs H τ q
  unfold e_ref2_Six
  split
  · rw [s_ref2_Six_eq, s_ref2_Six_eq]; exact funK_ent hn _ _ _ _ _ _
  · rfl
/-- ostiary/ostiaryref2.Text6 -/
def fn_ref2_Text6 : Fun := ⟨1, (.seq (.reg [iR 1 (.e .box) [(.t 0)], iR 2 (.p .mv) [(.c (.str []))]]) (.keep [1] (.seq (.reg [iR 3 (.p .mv) [(.c (.int .i64 (.negSucc 0)))]]) (.keep [1, 3] (.seq (.reg [iR 4 (.p .mv) [(.c (.int .i64 (.ofNat 1)))]]) (.keep [1, 3, 4] (.seq (.seq (.reg [iR 5 (.p .mv) [(.c (.int .i64 (.ofNat 0)))]]) (.keep [1, 3, 4, 5] (.block 0 (.loop (.keep [1, 3, 4, 5] (.seq (.seq (.reg [iR 9 (.p .mv) [(.t 5)], iR 10 (.p (.bin .lss)) [(.t 9), (.c (.int .i64 (.ofNat 8)))]]) (.keep [1, 3, 4, 5, 10] (.cond (.t 10) .skip (.keep [1, 3, 4] (.exit 0))))) (.keep [1, 3, 4, 5] (.seq (.block 1 (.seq (.reg [iR 6 (.p .mv) [(.c (.int .i64 (.ofNat 0)))]]) (.keep [1, 3, 4, 5, 6] (.seq (.block 2 (.loop (.keep [1, 3, 4, 5, 6] (.seq (.seq (.reg [iR 13 (.p .mv) [(.t 5)], iR 14 (.p .mv) [(.t 6)], iR 15 (.p (.bin .add)) [(.t 13), (.t 14)],
    iR 16 (.p (.bin .lss)) [(.t 15), (.c (.int .i64 (.ofNat 8)))], iR 17 (.p .mv) [(.t 16)], iG 18 17 true (.p .mv) [(.t 5)], iG 19 17 true (.p .mv) [(.t 6)], iG 20 17 true (.p (.bin .add)) [(.t 18), (.t 19)], iG 21 17 true (.p (.arrIdx 8 1)) [(.t 1), (.t 20)], iG 22 17 true (.l (.load none)) [(.t 21)], iG 23 17 true (.p (.bin .eql)) [(.t 22), (.c (.int .u16 (.ofNat 0)))], iR 24 (.p .pick) [(.t 17), (.t 23), (.c (.bool false))]]) (.keep [1, 3, 4, 5, 6, 24] (.cond (.t 24) .skip (.keep [1, 3, 4, 5, 6] (.exit 2))))) (.keep [1, 3, 4, 5, 6] (.block 3 (.reg [iR 25 (.p .mv) [(.t 6)], iR 26 (.p (.bin .add)) [(.t 25), (.c (.int .i64 (.ofNat 1)))], iR 6 (.p .mv) [(.t 26)]]))))))) (.keep [1, 3, 4, 5, 6] (.seq (.reg [iR 27 (.p .mv) [(.t 6)], iR 28 (.p .mv) [(.t 4)], iR 29 (.p (.bin .gtr)) [(.t 27), (.t 28)]]) (.keep [1, 3, 4, 5, 6, 29] (.cond (.t 29) (.seq (.reg [iR 30 (.p .mv) [(.t 5)],
    iR 3 (.p .mv) [(.t 30)]]) (.keep [1, 3, 5, 6] (.reg [iR 31 (.p .mv) [(.t 6)], iR 4 (.p .mv) [(.t 31)]]))) .skip)))))))) (.keep [1, 3, 4, 5] (.reg [iR 11 (.p .mv) [(.t 5)], iR 12 (.p (.bin .add)) [(.t 11), (.c (.int .i64 (.ofNat 1)))], iR 5 (.p .mv) [(.t 12)]])))))))))) (.keep [1, 3, 4] (.seq (.reg [iR 7 (.p .mv) [(.c (.str []))]]) (.keep [1, 3, 4, 7] (.seq (.seq (.reg [iR 8 (.p .mv) [(.c (.int .i64 (.ofNat 0)))]]) (.keep [1, 3, 4, 7, 8] (.block 4 (.loop (.keep [1, 3, 4, 7, 8] (.seq (.seq (.reg [iR 32 (.p .mv) [(.t 8)], iR 33 (.p (.bin .lss)) [(.t 32), (.c (.int .i64 (.ofNat 8)))]]) (.keep [1, 3, 4, 7, 8, 33] (.cond (.t 33) .skip (.keep [7] (.exit 4))))) (.keep [1, 3, 4, 7, 8] (.seq (.block 5 (.seq (.seq (.reg [iR 36 (.p .mv) [(.t 8)], iR 37 (.p .mv) [(.t 3)], iR 38 (.p (.bin .eql)) [(.t 36), (.t 37)]]) (.keep [1, 3, 4, 7, 8, 38] (.cond (.t 38)
    (.seq (.reg [iR 39 (.p .mv) [(.t 7)], iR 40 (.p (.bin .add)) [(.t 39), (.c (.str (bs [58, 58])))], iR 7 (.p .mv) [(.t 40)]]) (.keep [1, 3, 4, 7, 8] (.seq (.reg [iR 41 (.p .mv) [(.t 8)], iR 42 (.p .mv) [(.t 4)], iR 43 (.p (.bin .add)) [(.t 41), (.t 42)], iR 44 (.p (.bin .sub)) [(.t 43), (.c (.int .i64 (.ofNat 1)))], iR 8 (.p .mv) [(.t 44)]]) (.keep [1, 3, 4, 7, 8] (.keep [1, 3, 4, 7, 8] (.exit 5)))))) .skip))) (.keep [1, 3, 4, 7, 8] (.seq (.seq (.reg [iR 45 (.p .mv) [(.t 7)], iR 46 (.p (.bin .neq)) [(.t 45), (.c (.str []))], iR 47 (.p .mv) [(.t 46)], iG 48 47 true (.p .mv) [(.t 7)], iG 49 47 true (.p .mv) [(.t 7)], iG 50 47 true (.p .lenS) [(.t 49)], iG 51 47 true (.p (.bin .sub)) [(.t 50), (.c (.int .i64 (.ofNat 1)))], iG 52 47 true (.p .strIndex) [(.t 48), (.t 51)], iG 53 47 true (.p (.bin .neq)) [(.t 52), (.c (.int .u8 (.ofNat 58)))],
    iR 54 (.p .pick) [(.t 47), (.t 53), (.c (.bool false))]]) (.keep [1, 3, 4, 7, 8, 54] (.cond (.t 54) (.reg [iR 55 (.p .mv) [(.t 7)], iR 56 (.p (.bin .add)) [(.t 55), (.c (.str (bs [58])))], iR 7 (.p .mv) [(.t 56)]]) .skip))) (.keep [1, 3, 4, 7, 8] (.reg [iR 57 (.p .mv) [(.t 7)], iR 58 (.p .mv) [(.t 8)], iR 59 (.p (.arrIdx 8 1)) [(.t 1), (.t 58)], iR 60 (.l (.load none)) [(.t 59)], iR 61 (.call 134) [(.t 60)], iR 62 (.p (.bin .add)) [(.t 57), (.t 61)], iR 7 (.p .mv) [(.t 62)]])))))) (.keep [1, 3, 4, 7, 8] (.reg [iR 34 (.p .mv) [(.t 8)], iR 35 (.p (.bin .add)) [(.t 34), (.c (.int .i64 (.ofNat 1)))], iR 8 (.p .mv) [(.t 35)]])))))))))) (.keep [7] (.seq (.reg [iR 63 (.p .mv) [(.t 7)], iR 2 (.p .mv) [(.t 63)]]) (.keep [2] (.keep [2] .ret))))))))))))))), [(.t 2)]⟩
def s_ref2_Text6 (call : CallK) (N : Nat) (a0 : V) (H : Heap) (τ : Tape) (q : KV) : Ans := funK call N fn_ref2_Text6 [a0] H τ q
theorem s_ref2_Text6_eq (call : CallK) (N : Nat) (a0 : V) (H : Heap) (τ : Tape) (q : KV) : s_ref2_Text6 call N a0 H τ q = funK call N fn_ref2_Text6 [a0] H τ q := by kernel_rfl
def e_ref2_Text6 (call : CallK) (N : Nat) (vs : List V) (H : Heap) (τ : Tape) (q : KV) : Ans := match vs with | [a0] => s_ref2_Text6 call N a0 H τ q | _ => none
theorem e_ref2_Text6_ok : EntOk fn_ref2_Text6 e_ref2_Text6 := by
  intro call N vs H τ q r h
  unfold e_ref2_Text6 at h
  split at h
  · rw [s_ref2_Text6_eq] at h; exact h
  · cases h
theorem e_ref2_Text6_nat : EntNat e_ref2_Text6 := by
  intro c hn N vs H τ q
  unfold e_ref2_Text6
  split
  · rw [s_ref2_Text6_eq, s_ref2_Text6_eq]; exact funK_ent hn _ _ _ _ _ _
  · rfl
/-- ostiary/ostiaryref2.bad -/
def fn_ref2_bad : Fun := ⟨1, (.seq (.reg [iR 2 (.p .mv) [(.c (.bool false))]]) (.keep [0] (.seq (.seq (.reg [iR 3 (.p .mv) [(.c (.int .i64 (.ofNat 0)))]]) (.keep [0, 3] (.block 0 (.loop (.keep [0, 3] (.seq (.seq (.reg [iR 4 (.p .mv) [(.t 3)], iR 5 (.p (.bin .lss)) [(.t 4), (.c (.int .i64 (.ofNat 17)))]]) (.keep [0, 3, 5] (.cond (.t 5) .skip (.keep [] (.exit 0))))) (.keep [0, 3] (.seq (.block 1 (.seq (.reg [iR 8 (.p .mv) [(.t 3)], iR 9 (.p .strIndex) [(.c (.str (bs [0, 9, 10, 13, 32, 35, 47, 58, 60, 62, 63, 64, 91, 92, 93, 94, 124]))), (.t 8)], iR 10 (.p .mv) [(.t 0)], iR 11 (.p (.bin .eql)) [(.t 9), (.t 10)]]) (.keep [0, 3, 11] (.cond (.t 11) (.seq (.reg [iR 2 (.p .mv) [(.c (.bool true))]]) (.keep [2] (.keep [2] .ret))) .skip)))) (.keep [0, 3] (.reg [iR 6 (.p .mv) [(.t 3)], iR 7 (.p (.bin .add)) [(.t 6), (.c (.int .i64 (.ofNat 1)))], iR 3 (.p .mv) [(.t 7)]]))))))))))
    (.keep [] (.seq (.reg [iR 2 (.p .mv) [(.c (.bool false))]]) (.keep [2] (.keep [2] .ret))))))), [(.t 2)]⟩
def s_ref2_bad (call : CallK) (N : Nat) (a0 : V) (H : Heap) (τ : Tape) (q : KV) : Ans := funK call N fn_ref2_bad [a0] H τ q
theorem s_ref2_bad_eq (call : CallK) (N : Nat) (a0 : V) (H : Heap) (τ : Tape) (q : KV) : s_ref2_bad call N a0 H τ q = funK call N fn_ref2_bad [a0] H τ q := by kernel_rfl
def e_ref2_bad (call : CallK) (N : Nat) (vs : List V) (H : Heap) (τ : Tape) (q : KV) : Ans := match vs with | [a0] => s_ref2_bad call N a0 H τ q | _ => none
theorem e_ref2_bad_ok : EntOk fn_ref2_bad e_ref2_bad := by
  intro call N vs H τ q r h
  unfold e_ref2_bad at h
  split at h
  · rw [s_ref2_bad_eq] at h; exact h
  · cases h
theorem e_ref2_bad_nat : EntNat e_ref2_bad := by
  intro c hn N vs H τ q
  unfold e_ref2_bad
  split
  · rw [s_ref2_bad_eq, s_ref2_bad_eq]; exact funK_ent hn _ _ _ _ _ _
  · rfl
/-- ostiary/ostiaryref1.Unpercent -/
def fn_ref1_Unpercent : Fun := ⟨1, (.seq (.reg [iR 2 (.p .mv) [(.c (.str []))]]) (.keep [0] (.seq (.reg [iR 3 (.p .mv) [(.c .nils)]]) (.keep [0, 3] (.seq (.seq (.reg [iR 4 (.p .mv) [(.c (.int .i64 (.ofNat 0)))]]) (.keep [0, 3, 4] (.block 0 (.loop (.keep [0, 3, 4] (.seq (.seq (.reg [iR 5 (.p .mv) [(.t 4)], iR 6 (.p .mv) [(.t 0)], iR 7 (.p .lenS) [(.t 6)], iR 8 (.p (.bin .lss)) [(.t 5), (.t 7)]]) (.keep [0, 3, 4, 8] (.cond (.t 8) .skip (.keep [3] (.exit 0))))) (.keep [0, 3, 4] (.seq (.block 1 (.seq (.seq (.reg [iR 11 (.p .mv) [(.t 0)], iR 12 (.p .mv) [(.t 4)], iR 13 (.p .strIndex) [(.t 11), (.t 12)], iR 14 (.p (.bin .eql)) [(.t 13), (.c (.int .u8 (.ofNat 37)))], iR 15 (.p .mv) [(.t 14)], iG 16 15 true (.p .mv) [(.t 4)], iG 17 15 true (.p (.bin .add)) [(.t 16), (.c (.int .i64 (.ofNat 2)))], iG 18 15 true (.p .mv) [(.t 0)], iG 19 15 true (.p .lenS) [(.t 18)],
    iG 20 15 true (.p (.bin .lss)) [(.t 17), (.t 19)], iR 21 (.p .pick) [(.t 15), (.t 20), (.c (.bool false))], iR 22 (.p .mv) [(.t 21)], iG 23 22 true (.p .mv) [(.t 0)], iG 24 22 true (.p .mv) [(.t 4)], iG 25 22 true (.p (.bin .add)) [(.t 24), (.c (.int .i64 (.ofNat 1)))], iG 26 22 true (.p .strIndex) [(.t 23), (.t 25)], iG 27 22 true (.call 135) [(.t 26)], iG 28 22 true (.p (.bin .geq)) [(.t 27), (.c (.int .i64 (.ofNat 0)))], iR 29 (.p .pick) [(.t 22), (.t 28), (.c (.bool false))], iR 30 (.p .mv) [(.t 29)], iG 31 30 true (.p .mv) [(.t 0)], iG 32 30 true (.p .mv) [(.t 4)], iG 33 30 true (.p (.bin .add)) [(.t 32), (.c (.int .i64 (.ofNat 2)))], iG 34 30 true (.p .strIndex) [(.t 31), (.t 33)], iG 35 30 true (.call 135) [(.t 34)], iG 36 30 true (.p (.bin .geq)) [(.t 35), (.c (.int .i64 (.ofNat 0)))], iR 37 (.p .pick) [(.t 30), (.t 36), (.c (.bool false))]])
    (.keep [0, 3, 4, 37] (.cond (.t 37) (.seq (.draw [iR 38 (.p .mv) [(.t 3)], iR 39 (.p .mv) [(.t 0)], iR 40 (.p .mv) [(.t 4)], iR 41 (.p (.bin .add)) [(.t 40), (.c (.int .i64 (.ofNat 1)))], iR 42 (.p .strIndex) [(.t 39), (.t 41)], iR 43 (.call 135) [(.t 42)], iR 44 (.p (.bin .mul)) [(.c (.int .i64 (.ofNat 16))), (.t 43)], iR 45 (.p .mv) [(.t 0)], iR 46 (.p .mv) [(.t 4)], iR 47 (.p (.bin .add)) [(.t 46), (.c (.int .i64 (.ofNat 2)))], iR 48 (.p .strIndex) [(.t 45), (.t 47)], iR 49 (.call 135) [(.t 48)], iR 50 (.p (.bin .add)) [(.t 44), (.t 49)], iR 51 (.p (.toInt .u8)) [(.t 50)], iR 52 (.e (.buildSlice 1 1 [(.int .u8 (.ofNat 0))] [(0, 1)])) [(.t 51)], iR 53 (.e (.append 1 1)) [(.t 38), (.t 52)], iR 3 (.p .mv) [(.t 53)]]) (.keep [0, 3, 4] (.seq (.reg [iR 54 (.p .mv) [(.t 4)], iR 55 (.p (.bin .add)) [(.t 54), (.c (.int .i64 (.ofNat 2)))], iR 4 (.p .mv) [(.t 55)]])
    (.keep [0, 3, 4] (.keep [0, 3, 4] (.exit 1)))))) .skip))) (.keep [0, 3, 4] (.reg [iR 56 (.p .mv) [(.t 3)], iR 57 (.p .mv) [(.t 0)], iR 58 (.p .mv) [(.t 4)], iR 59 (.p .strIndex) [(.t 57), (.t 58)], iR 60 (.e (.buildSlice 1 1 [(.int .u8 (.ofNat 0))] [(0, 1)])) [(.t 59)], iR 61 (.e (.append 1 1)) [(.t 56), (.t 60)], iR 3 (.p .mv) [(.t 61)]])))) (.keep [0, 3, 4] (.reg [iR 9 (.p .mv) [(.t 4)], iR 10 (.p (.bin .add)) [(.t 9), (.c (.int .i64 (.ofNat 1)))], iR 4 (.p .mv) [(.t 10)]])))))))))) (.keep [3] (.seq (.reg [iR 62 (.p .mv) [(.t 3)], iR 63 (.l .bytesStr) [(.t 62)], iR 2 (.p .mv) [(.t 63)]]) (.keep [2] (.keep [2] .ret))))))))), [(.t 2)]⟩
def s_ref1_Unpercent (call : CallK) (N : Nat) (a0 : V) (H : Heap) (τ : Tape) (q : KV) : Ans := funK call N fn_ref1_Unpercent [a0] H τ q
theorem s_ref1_Unpercent_eq (call : CallK) (N : Nat) (a0 : V) (H : Heap) (τ : Tape) (q : KV) : s_ref1_Unpercent call N a0 H τ q = funK call N fn_ref1_Unpercent [a0] H τ q := by kernel_rfl
def e_ref1_Unpercent (call : CallK) (N : Nat) (vs : List V) (H : Heap) (τ : Tape) (q : KV) : Ans := match vs with | [a0] => s_ref1_Unpercent call N a0 H τ q | _ => none
theorem e_ref1_Unpercent_ok : EntOk fn_ref1_Unpercent e_ref1_Unpercent := by
  intro call N vs H τ q r h
  unfold e_ref1_Unpercent at h
  split at h
  · rw [s_ref1_Unpercent_eq] at h; exact h
  · cases h
theorem e_ref1_Unpercent_nat : EntNat e_ref1_Unpercent := by
  intro c hn N vs H τ q
  unfold e_ref1_Unpercent
  split
  · rw [s_ref1_Unpercent_eq, s_ref1_Unpercent_eq]; exact funK_ent hn _ _ _ _ _ _
  · rfl
end Go.Am.X
