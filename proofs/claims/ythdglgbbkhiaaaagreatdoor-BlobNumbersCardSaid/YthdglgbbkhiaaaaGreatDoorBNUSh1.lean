/- The abstract machine, printed functions of the program, and what they are shown to be. -/
import Derived.Test.YthdglgbbkhiaaaaGreatDoorBNUSh0
import Derived.Test.YthdglgbbkhiaaaaGreatDoorBNUM4
import Derived.KernelRfl
namespace Go.Am.X
set_option maxRecDepth 1000000
set_option linter.unusedVariables false
/-- internal/strconv.formatBits -/
def fn_strconv_formatBits : Fun := ⟨5, (.seq (.reg [iR 10 (.p .mv) [(.c .nils)], iR 11 (.p .mv) [(.c (.str []))]]) (.keep [0, 1, 2, 3, 4, 10, 11] (.seq (.seq (.reg [iR 19 (.p .mv) [(.t 2)], iR 20 (.p (.bin .lss)) [(.t 19), (.c (.int .i64 (.ofNat 2)))], iR 21 (.p .mv) [(.t 20)], iG 22 21 false (.p .mv) [(.t 2)], iG 23 21 false (.p (.bin .eql)) [(.t 22), (.c (.int .i64 (.ofNat 10)))], iR 24 (.p .pick) [(.t 21), (.c (.bool true)), (.t 23)], iR 25 (.p .mv) [(.t 24)], iG 26 25 false (.p .mv) [(.t 2)], iG 27 25 false (.p (.bin .gtr)) [(.t 26), (.c (.int .i64 (.ofNat 36)))], iR 28 (.p .pick) [(.t 25), (.c (.bool true)), (.t 27)]]) (.keep [0, 1, 2, 3, 4, 10, 11, 28] (.cond (.t 28) .bad .skip))) (.keep [0, 1, 2, 3, 4, 10, 11] (.seq (.reg [iR 12 (.e (.alloc (repl 65 [(.int .u8 (.ofNat 0))]))) []]) (.keep [0, 1, 2, 3, 4, 10, 11, 12] (.seq (.reg [iR 13 (.p .mv) [(.c (.int .i64 (.ofNat 65)))]])
    (.keep [0, 1, 2, 3, 4, 10, 11, 12, 13] (.seq (.seq (.reg [iR 30 (.p .mv) [(.t 3)]]) (.keep [0, 1, 2, 3, 4, 10, 11, 12, 13, 30] (.cond (.t 30) (.reg [iR 31 (.p .mv) [(.t 1)], iR 32 (.p (.un .neg)) [(.t 31)], iR 1 (.p .mv) [(.t 32)]]) .skip))) (.keep [0, 1, 2, 3, 4, 10, 11, 12, 13] (.seq (.seq (.reg [iR 33 (.p .mv) [(.t 2)], iR 34 (.call 223) [(.t 33)]]) (.keep [0, 1, 2, 3, 4, 10, 11, 12, 13, 34] (.cond (.t 34) (.seq (.reg [iR 35 (.p .mv) [(.t 2)], iR 36 (.p (.toInt .u64)) [(.t 35)], iR 37 (.call 224) [(.t 36)], iR 38 (.p (.toInt .u64)) [(.t 37)], iR 14 (.p .mv) [(.t 38)]]) (.keep [0, 1, 2, 3, 4, 10, 11, 12, 13, 14] (.seq (.reg [iR 39 (.p .mv) [(.t 2)], iR 40 (.p (.toInt .u64)) [(.t 39)], iR 15 (.p .mv) [(.t 40)]]) (.keep [0, 1, 2, 3, 4, 10, 11, 12, 13, 14, 15] (.seq (.reg [iR 41 (.p .mv) [(.t 2)], iR 42 (.p (.toInt .u64)) [(.t 41)],
    iR 43 (.p (.bin .sub)) [(.t 42), (.c (.int .u64 (.ofNat 1)))], iR 16 (.p .mv) [(.t 43)]]) (.keep [0, 1, 3, 4, 10, 11, 12, 13, 14, 15, 16] (.seq (.block 0 (.loop (.keep [0, 1, 3, 4, 10, 11, 12, 13, 14, 15, 16] (.seq (.seq (.reg [iR 44 (.p .mv) [(.t 1)], iR 45 (.p .mv) [(.t 15)], iR 46 (.p (.bin .geq)) [(.t 44), (.t 45)]]) (.keep [0, 1, 3, 4, 10, 11, 12, 13, 14, 15, 16, 46] (.cond (.t 46) .skip (.keep [0, 1, 3, 4, 10, 11, 12, 13] (.exit 0))))) (.keep [0, 1, 3, 4, 10, 11, 12, 13, 14, 15, 16] (.block 1 (.seq (.reg [iR 47 (.p .mv) [(.t 13)], iR 48 (.p (.bin .sub)) [(.t 47), (.c (.int .i64 (.ofNat 1)))], iR 13 (.p .mv) [(.t 48)]]) (.keep [0, 1, 3, 4, 10, 11, 12, 13, 14, 15, 16] (.seq (.reg [iR 49 (.p .mv) [(.t 13)], iR 50 (.p .mv) [(.t 1)], iR 51 (.p .mv) [(.t 16)], iR 52 (.p (.bin .and)) [(.t 50), (.t 51)],
    iR 53 (.p .strIndex) [(.c (.str (bs [48, 49, 50, 51, 52, 53, 54, 55, 56, 57, 97, 98, 99, 100, 101, 102, 103, 104, 105, 106, 107, 108, 109, 110, 111, 112, 113, 114, 115, 116, 117, 118, 119, 120, 121, 122]))), (.t 52)], iR 54 (.p (.arrIdx 65 1)) [(.t 12), (.t 49)], ⟨none, none, (.e (.store 1)), [(.t 54), (.t 53)], none⟩]) (.keep [0, 1, 3, 4, 10, 11, 12, 13, 14, 15, 16] (.reg [iR 55 (.p .mv) [(.t 1)], iR 56 (.p .mv) [(.t 14)], iR 57 (.p (.bin .shr)) [(.t 55), (.t 56)], iR 1 (.p .mv) [(.t 57)]]))))))))))) (.keep [0, 1, 3, 4, 10, 11, 12, 13] (.seq (.reg [iR 58 (.p .mv) [(.t 13)], iR 59 (.p (.bin .sub)) [(.t 58), (.c (.int .i64 (.ofNat 1)))], iR 13 (.p .mv) [(.t 59)]]) (.keep [0, 1, 3, 4, 10, 11, 12, 13] (.reg [iR 60 (.p .mv) [(.t 13)], iR 61 (.p .mv) [(.t 1)],
    iR 62 (.p .strIndex) [(.c (.str (bs [48, 49, 50, 51, 52, 53, 54, 55, 56, 57, 97, 98, 99, 100, 101, 102, 103, 104, 105, 106, 107, 108, 109, 110, 111, 112, 113, 114, 115, 116, 117, 118, 119, 120, 121, 122]))), (.t 61)], iR 63 (.p (.arrIdx 65 1)) [(.t 12), (.t 60)], ⟨none, none, (.e (.store 1)), [(.t 63), (.t 62)], none⟩]))))))))))) (.seq (.reg [iR 64 (.p .mv) [(.t 2)], iR 65 (.p (.toInt .u64)) [(.t 64)], iR 17 (.p .mv) [(.t 65)]]) (.keep [0, 1, 3, 4, 10, 11, 12, 13, 17] (.seq (.block 2 (.loop (.keep [0, 1, 3, 4, 10, 11, 12, 13, 17] (.seq (.seq (.reg [iR 66 (.p .mv) [(.t 1)], iR 67 (.p .mv) [(.t 17)], iR 68 (.p (.bin .geq)) [(.t 66), (.t 67)]]) (.keep [0, 1, 3, 4, 10, 11, 12, 13, 17, 68] (.cond (.t 68) .skip (.keep [0, 1, 3, 4, 10, 11, 12, 13] (.exit 2))))) (.keep [0, 1, 3, 4, 10, 11, 12, 13, 17] (.block 3 (.seq (.reg [iR 69 (.p .mv) [(.t 13)],
    iR 70 (.p (.bin .sub)) [(.t 69), (.c (.int .i64 (.ofNat 1)))], iR 13 (.p .mv) [(.t 70)]]) (.keep [0, 1, 3, 4, 10, 11, 12, 13, 17] (.seq (.reg [iR 71 (.p .mv) [(.t 1)], iR 72 (.p .mv) [(.t 17)], iR 73 (.p (.bin .quo)) [(.t 71), (.t 72)], iR 18 (.p .mv) [(.t 73)]]) (.keep [0, 1, 3, 4, 10, 11, 12, 13, 17, 18] (.seq (.reg [iR 74 (.p .mv) [(.t 13)], iR 75 (.p .mv) [(.t 1)], iR 76 (.p .mv) [(.t 18)], iR 77 (.p .mv) [(.t 17)], iR 78 (.p (.bin .mul)) [(.t 76), (.t 77)], iR 79 (.p (.bin .sub)) [(.t 75), (.t 78)], iR 80 (.p .strIndex) [(.c (.str (bs [48, 49, 50, 51, 52, 53, 54, 55, 56, 57, 97, 98, 99, 100, 101, 102, 103, 104, 105, 106, 107, 108, 109, 110, 111, 112, 113, 114, 115, 116, 117, 118, 119, 120, 121, 122]))), (.t 79)], iR 81 (.p (.arrIdx 65 1)) [(.t 12), (.t 74)], ⟨none, none, (.e (.store 1)), [(.t 81), (.t 80)], none⟩])
    (.keep [0, 3, 4, 10, 11, 12, 13, 17, 18] (.reg [iR 82 (.p .mv) [(.t 18)], iR 1 (.p .mv) [(.t 82)]]))))))))))))) (.keep [0, 1, 3, 4, 10, 11, 12, 13] (.seq (.reg [iR 83 (.p .mv) [(.t 13)], iR 84 (.p (.bin .sub)) [(.t 83), (.c (.int .i64 (.ofNat 1)))], iR 13 (.p .mv) [(.t 84)]]) (.keep [0, 1, 3, 4, 10, 11, 12, 13] (.reg [iR 85 (.p .mv) [(.t 13)], iR 86 (.p .mv) [(.t 1)], iR 87 (.p .strIndex) [(.c (.str (bs [48, 49, 50, 51, 52, 53, 54, 55, 56, 57, 97, 98, 99, 100, 101, 102, 103, 104, 105, 106, 107, 108, 109, 110, 111, 112, 113, 114, 115, 116, 117, 118, 119, 120, 121, 122]))), (.t 86)], iR 88 (.p (.arrIdx 65 1)) [(.t 12), (.t 85)], ⟨none, none, (.e (.store 1)), [(.t 88), (.t 87)], none⟩])))))))))) (.keep [0, 3, 4, 10, 11, 12, 13] (.seq (.seq (.reg [iR 89 (.p .mv) [(.t 3)]]) (.keep [0, 4, 10, 11, 12, 13, 89] (.cond (.t 89) (.seq (.reg [iR 90 (.p .mv) [(.t 13)],
    iR 91 (.p (.bin .sub)) [(.t 90), (.c (.int .i64 (.ofNat 1)))], iR 13 (.p .mv) [(.t 91)]]) (.keep [0, 4, 10, 11, 12, 13] (.reg [iR 92 (.p .mv) [(.t 13)], iR 93 (.p (.arrIdx 65 1)) [(.t 12), (.t 92)], ⟨none, none, (.e (.store 1)), [(.t 93), (.c (.int .u8 (.ofNat 45)))], none⟩]))) .skip))) (.keep [0, 4, 10, 11, 12, 13] (.seq (.seq (.reg [iR 94 (.p .mv) [(.t 4)]]) (.keep [0, 10, 11, 12, 13, 94] (.cond (.t 94) (.seq (.reg [iR 95 (.p .mv) [(.t 0)], iR 96 (.p .mv) [(.t 13)], iR 97 (.p (.arrSlice 65 1 true false false)) [(.t 12), (.t 96)], iR 98 (.e (.append 1 1)) [(.t 95), (.t 97)], iR 10 (.p .mv) [(.t 98)]]) (.keep [10, 11] (.keep [10, 11] .ret))) .skip))) (.keep [10, 12, 13] (.seq (.reg [iR 99 (.p .mv) [(.t 13)], iR 100 (.p (.arrSlice 65 1 true false false)) [(.t 12), (.t 99)], iR 101 (.l .bytesStr) [(.t 100)], iR 11 (.p .mv) [(.t 101)]])
    (.keep [10, 11] (.keep [10, 11] .ret))))))))))))))))))), [(.t 10), (.t 11)]⟩
def s_strconv_formatBits_j2 (call : CallK) (N : Nat) (q : KV) (st : St) (τ : Tape) : Ans := match st with
  | ⟨fr, H⟩ => getK fr 0 fun t0 => getK fr 4 fun t4 => getK fr 10 fun t10 => getK fr 11 fun t11 => getK fr 12 fun t12 => getK fr 13 fun t13 => condK t4 (someK (pArrSlice 65 1 true false false [t12, t13]) fun v21 => effK (eAppend 1 1 [t0, v21] H τ) fun v22 H23 τ24 => q (.tup [v22, t11]) H23 τ24) (someK (pArrSlice 65 1 true false false [t12, t13]) fun v25 => someK (lBytesStr [v25] H) fun v26 => q (.tup [t10, v26]) H τ)
def s_strconv_formatBits_j1 (call : CallK) (N : Nat) (q : KV) (st : St) (τ : Tape) : Ans := match st with
  | ⟨fr, H⟩ => getK fr 0 fun t0 => getK fr 3 fun t3 => getK fr 4 fun t4 => getK fr 10 fun t10 => getK fr 11 fun t11 => getK fr 12 fun t12 => getK fr 13 fun t13 => condK t3 (binK .sub t13 (.int .i64 (.ofNat 1)) fun v27 => someK (pArrIdx 65 1 [t12, v27]) fun v28 => effK (eStore 1 [v28, (.int .u8 (.ofNat 45))] H τ) fun v29 H30 τ31 => s_strconv_formatBits_j2 call N q ⟨(T.set (T.set (T.set (T.set (T.set (T.set (T.set (T.set .leaf 0 t0) 4 t4) 10 t10) 11 t11) 12 t12) 13 v27) 92 v27) 93 v28), H30⟩ τ31) (s_strconv_formatBits_j2 call N q ⟨(T.set (T.set (T.set (T.set (T.set (T.set (T.set .leaf 0 t0) 4 t4) 10 t10) 11 t11) 12 t12) 13 t13) 89 t3), H⟩ τ)
def s_strconv_formatBits_j3 (call : CallK) (N : Nat) (q : KV) (st : St) (τ : Tape) : Ans := match st with
  | ⟨fr, H⟩ => getK fr 0 fun t0 => getK fr 1 fun t1 => getK fr 3 fun t3 => getK fr 4 fun t4 => getK fr 10 fun t10 => getK fr 11 fun t11 => getK fr 12 fun t12 => getK fr 13 fun t13 => binK .sub t13 (.int .i64 (.ofNat 1)) fun v40 => someK (pStrIndex [(.str (bs [48, 49, 50, 51, 52, 53, 54, 55, 56, 57, 97, 98, 99, 100, 101, 102, 103, 104, 105, 106, 107, 108, 109, 110, 111, 112, 113, 114, 115, 116, 117, 118, 119, 120, 121, 122])), t1]) fun v41 => someK (pArrIdx 65 1 [t12, v40]) fun v42 => effK (eStore 1 [v42, v41] H τ) fun v43 H44 τ45 => s_strconv_formatBits_j1 call N q ⟨(T.set (T.set (T.set (T.set (T.set (T.set (T.set (T.set (T.set (T.set (T.set (T.set .leaf 0 t0) 1 t1) 3 t3) 4 t4) 10 t10) 11 t11) 12 t12) 13 v40) 60 v40) 61 t1) 62 v41) 63 v42), H44⟩ τ45
def s_strconv_formatBits_l4 (call : CallK) (N : Nat) (st : St) (τ : Tape) (k : KC) : Ans := match st with
  | ⟨fr, H⟩ => getK fr 0 fun t0 => getK fr 1 fun t1 => getK fr 3 fun t3 => getK fr 4 fun t4 => getK fr 10 fun t10 => getK fr 11 fun t11 => getK fr 12 fun t12 => getK fr 13 fun t13 => getK fr 14 fun t14 => getK fr 15 fun t15 => getK fr 16 fun t16 => binK .geq t1 t15 fun v46 => condK v46 (binK .sub t13 (.int .i64 (.ofNat 1)) fun v47 => binK .and t1 t16 fun v48 => someK (pStrIndex [(.str (bs [48, 49, 50, 51, 52, 53, 54, 55, 56, 57, 97, 98, 99, 100, 101, 102, 103, 104, 105, 106, 107, 108, 109, 110, 111, 112, 113, 114, 115, 116, 117, 118, 119, 120, 121, 122])), v48]) fun v49 => someK (pArrIdx 65 1 [t12, v47]) fun v50 => effK (eStore 1 [v50, v49] H τ) fun v51 H52 τ53 => binK .shr t1 t14 fun v54 =>
    k .normal ⟨(T.set (T.set (T.set (T.set (T.set (T.set (T.set (T.set (T.set (T.set (T.set (T.set (T.set (T.set (T.set .leaf 0 t0) 1 t1) 3 t3) 4 t4) 10 t10) 11 t11) 12 t12) 13 v47) 14 t14) 15 t15) 16 t16) 55 t1) 56 t14) 57 v54) 1 v54), H52⟩ τ53) (k (.exit 0) ⟨(T.set (T.set (T.set (T.set (T.set (T.set (T.set (T.set .leaf 0 t0) 1 t1) 3 t3) 4 t4) 10 t10) 11 t11) 12 t12) 13 t13), H⟩ τ)
def s_strconv_formatBits_j5 (call : CallK) (N : Nat) (q : KV) (st : St) (τ : Tape) : Ans := match st with
  | ⟨fr, H⟩ => getK fr 0 fun t0 => getK fr 1 fun t1 => getK fr 3 fun t3 => getK fr 4 fun t4 => getK fr 10 fun t10 => getK fr 11 fun t11 => getK fr 12 fun t12 => getK fr 13 fun t13 => binK .sub t13 (.int .i64 (.ofNat 1)) fun v56 => someK (pStrIndex [(.str (bs [48, 49, 50, 51, 52, 53, 54, 55, 56, 57, 97, 98, 99, 100, 101, 102, 103, 104, 105, 106, 107, 108, 109, 110, 111, 112, 113, 114, 115, 116, 117, 118, 119, 120, 121, 122])), t1]) fun v57 => someK (pArrIdx 65 1 [t12, v56]) fun v58 => effK (eStore 1 [v58, v57] H τ) fun v59 H60 τ61 => s_strconv_formatBits_j1 call N q ⟨(T.set (T.set (T.set (T.set (T.set (T.set (T.set (T.set (T.set (T.set (T.set (T.set .leaf 0 t0) 1 t1) 3 t3) 4 t4) 10 t10) 11 t11) 12 t12) 13 v56) 85 v56) 86 t1) 87 v57) 88 v58), H60⟩ τ61
def s_strconv_formatBits_l6 (call : CallK) (N : Nat) (st : St) (τ : Tape) (k : KC) : Ans := match st with
  | ⟨fr, H⟩ => getK fr 0 fun t0 => getK fr 1 fun t1 => getK fr 3 fun t3 => getK fr 4 fun t4 => getK fr 10 fun t10 => getK fr 11 fun t11 => getK fr 12 fun t12 => getK fr 13 fun t13 => getK fr 17 fun t17 => binK .geq t1 t17 fun v62 => condK v62 (binK .sub t13 (.int .i64 (.ofNat 1)) fun v63 => binK .quo t1 t17 fun v64 => binK .mul v64 t17 fun v65 => binK .sub t1 v65 fun v66 => someK (pStrIndex [(.str (bs [48, 49, 50, 51, 52, 53, 54, 55, 56, 57, 97, 98, 99, 100, 101, 102, 103, 104, 105, 106, 107, 108, 109, 110, 111, 112, 113, 114, 115, 116, 117, 118, 119, 120, 121, 122])), v66]) fun v67 => someK (pArrIdx 65 1 [t12, v63]) fun v68 => effK (eStore 1 [v68, v67] H τ) fun v69 H70 τ71 => k .normal ⟨(T.set (T.set (T.set (T.set (T.set (T.set (T.set (T.set (T.set (T.set (T.set .leaf 0 t0) 3 t3) 4 t4) 10 t10) 11 t11) 12 t12) 13 v63) 17 t17) 18 v64) 82 v64) 1 v64), H70⟩ τ71)
    (k (.exit 2) ⟨(T.set (T.set (T.set (T.set (T.set (T.set (T.set (T.set .leaf 0 t0) 1 t1) 3 t3) 4 t4) 10 t10) 11 t11) 12 t12) 13 t13), H⟩ τ)
def s_strconv_formatBits_j0 (call : CallK) (N : Nat) (q : KV) (st : St) (τ : Tape) : Ans := match st with
  | ⟨fr, H⟩ => getK fr 0 fun t0 => getK fr 1 fun t1 => getK fr 2 fun t2 => getK fr 3 fun t3 => getK fr 4 fun t4 => getK fr 10 fun t10 => getK fr 11 fun t11 => getK fr 12 fun t12 => getK fr 13 fun t13 => call f_strconv_isPowerOfTwo [t2] H τ fun v18 H19 τ20 => condK v18 (toIntK .u64 t2 fun v32 => call f_bits_TrailingZeros [v32] H19 τ20 fun v33 H34 τ35 => toIntK .u64 v33 fun v36 => toIntK .u64 t2 fun v37 => toIntK .u64 t2 fun v38 => binK .sub v38 (.int .u64 (.ofNat 1)) fun v39 => loopK (s_strconv_formatBits_l4 call N) N ⟨(T.set (T.set (T.set (T.set (T.set (T.set (T.set (T.set (T.set (T.set (T.set .leaf 0 t0) 1 t1) 3 t3) 4 t4) 10 t10) 11 t11) 12 t12) 13 t13) 14 v36) 15 v37) 16 v39), H34⟩ τ35 (blockK 0 (seqK (s_strconv_formatBits_j3 call N q) (seqK (s_strconv_formatBits_j1 call N q) (endK [(.t 10), (.t 11)] q))))) (toIntK .u64 t2 fun v55 =>
    loopK (s_strconv_formatBits_l6 call N) N ⟨(T.set (T.set (T.set (T.set (T.set (T.set (T.set (T.set (T.set .leaf 0 t0) 1 t1) 3 t3) 4 t4) 10 t10) 11 t11) 12 t12) 13 t13) 17 v55), H19⟩ τ20 (blockK 2 (seqK (s_strconv_formatBits_j5 call N q) (seqK (s_strconv_formatBits_j1 call N q) (endK [(.t 10), (.t 11)] q)))))
def s_strconv_formatBits (call : CallK) (N : Nat) (a0 a1 a2 a3 a4 : V) (H : Heap) (τ : Tape) (q : KV) : Ans := binK .lss a2 (.int .i64 (.ofNat 2)) fun v0 => gK v0 false (fun q' => q' a2 H τ) H τ fun v1 H2 τ3 => gK v0 false (fun q' => binK .eql v1 (.int .i64 (.ofNat 10)) fun v => q' v H2 τ3) H2 τ3 fun v4 H5 τ6 => someK (pPick [v0, (.bool true), v4]) fun v7 => gK v7 false (fun q' => q' a2 H5 τ6) H5 τ6 fun v8 H9 τ10 => gK v7 false (fun q' => binK .gtr v8 (.int .i64 (.ofNat 36)) fun v => q' v H9 τ10) H9 τ10 fun v11 H12 τ13 => someK (pPick [v7, (.bool true), v11]) fun v14 => condK v14 (none) (effK (eAlloc (repl 65 [(.int .u8 (.ofNat 0))]) [] H12 τ13) fun v15 H16 τ17 => condK a3 (unK .neg a1 fun v72 =>
    s_strconv_formatBits_j0 call N q ⟨(T.set (T.set (T.set (T.set (T.set (T.set (T.set (T.set (T.set (T.set (T.set (T.set (T.set .leaf 0 a0) 1 a1) 2 a2) 3 a3) 4 a4) 10 .nils) 11 (.str [])) 12 v15) 13 (.int .i64 (.ofNat 65))) 30 a3) 31 a1) 32 v72) 1 v72), H16⟩ τ17) (s_strconv_formatBits_j0 call N q ⟨(T.set (T.set (T.set (T.set (T.set (T.set (T.set (T.set (T.set (T.set .leaf 0 a0) 1 a1) 2 a2) 3 a3) 4 a4) 10 .nils) 11 (.str [])) 12 v15) 13 (.int .i64 (.ofNat 65))) 30 a3), H16⟩ τ17))
theorem s_strconv_formatBits_eq (call : CallK) (N : Nat) (a0 a1 a2 a3 a4 : V) (H : Heap) (τ : Tape) (q : KV) : s_strconv_formatBits call N a0 a1 a2 a3 a4 H τ q = funK call N fn_strconv_formatBits [a0, a1, a2, a3, a4] H τ q := by kernel_rfl
def e_strconv_formatBits (call : CallK) (N : Nat) (vs : List V) (H : Heap) (τ : Tape) (q : KV) : Ans := match vs with | [a0, a1, a2, a3, a4] => s_strconv_formatBits call N a0 a1 a2 a3 a4 H τ q | _ => none
theorem e_strconv_formatBits_ok : EntOk fn_strconv_formatBits e_strconv_formatBits := by
  intro call N vs H τ q r h
  unfold e_strconv_formatBits at h
  split at h
  · rw [s_strconv_formatBits_eq] at h; exact h
  · cases h
theorem e_strconv_formatBits_nat : EntNat e_strconv_formatBits := by
  intro c hn N vs H τ q
  unfold e_strconv_formatBits
  split
  · rw [s_strconv_formatBits_eq, s_strconv_formatBits_eq]; exact funK_ent hn _ _ _ _ _ _
  · rfl
/-- strings.trimLeftByte -/
def fn_strings_trimLeftByte : Fun := ⟨2, (.seq (.reg [iR 4 (.p .mv) [(.c (.str []))]]) (.keep [0, 1] (.seq (.block 0 (.loop (.keep [0, 1] (.seq (.seq (.reg [iR 5 (.p .mv) [(.t 0)], iR 6 (.p .lenS) [(.t 5)], iR 7 (.p (.bin .gtr)) [(.t 6), (.c (.int .i64 (.ofNat 0)))], iR 8 (.p .mv) [(.t 7)], iG 9 8 true (.p .mv) [(.t 0)], iG 10 8 true (.p .strIndex) [(.t 9), (.c (.int .i64 (.ofNat 0)))], iG 11 8 true (.p .mv) [(.t 1)], iG 12 8 true (.p (.bin .eql)) [(.t 10), (.t 11)], iR 13 (.p .pick) [(.t 8), (.t 12), (.c (.bool false))]]) (.keep [0, 1, 13] (.cond (.t 13) .skip (.keep [0] (.exit 0))))) (.keep [0, 1] (.block 1 (.reg [iR 14 (.p .mv) [(.t 0)], iR 15 (.p (.strSlice true false)) [(.t 14), (.c (.int .i64 (.ofNat 1)))], iR 0 (.p .mv) [(.t 15)]]))))))) (.keep [0] (.seq (.reg [iR 16 (.p .mv) [(.t 0)], iR 4 (.p .mv) [(.t 16)]]) (.keep [4] (.keep [4] .ret))))))), [(.t 4)]⟩
def s_strings_trimLeftByte_j0 (call : CallK) (N : Nat) (q : KV) (st : St) (τ : Tape) : Ans := match st with
  | ⟨fr, H⟩ => getK fr 0 fun t0 => q t0 H τ
def s_strings_trimLeftByte_l1 (call : CallK) (N : Nat) (st : St) (τ : Tape) (k : KC) : Ans := match st with
  | ⟨fr, H⟩ => getK fr 0 fun t0 => getK fr 1 fun t1 => someK (pLenS [t0]) fun v0 => binK .gtr v0 (.int .i64 (.ofNat 0)) fun v1 => gK v1 true (fun q' => q' t0 H τ) H τ fun v2 H3 τ4 => gK v1 true (fun q' => someK (pStrIndex [v2, (.int .i64 (.ofNat 0))]) fun v => q' v H3 τ4) H3 τ4 fun v5 H6 τ7 => gK v1 true (fun q' => q' t1 H6 τ7) H6 τ7 fun v8 H9 τ10 => gK v1 true (fun q' => binK .eql v5 v8 fun v => q' v H9 τ10) H9 τ10 fun v11 H12 τ13 => someK (pPick [v1, v11, (.bool false)]) fun v14 => condK v14 (someK (pStrSlice true false [t0, (.int .i64 (.ofNat 1))]) fun v15 => k .normal ⟨(T.set (T.set (T.set (T.set (T.set .leaf 0 t0) 1 t1) 14 t0) 15 v15) 0 v15), H12⟩ τ13) (k (.exit 0) ⟨(T.set .leaf 0 t0), H12⟩ τ13)
def s_strings_trimLeftByte (call : CallK) (N : Nat) (a0 a1 : V) (H : Heap) (τ : Tape) (q : KV) : Ans := loopK (s_strings_trimLeftByte_l1 call N) N ⟨(T.set (T.set .leaf 0 a0) 1 a1), H⟩ τ (blockK 0 (seqK (s_strings_trimLeftByte_j0 call N q) (endK [(.t 4)] q)))
theorem s_strings_trimLeftByte_eq (call : CallK) (N : Nat) (a0 a1 : V) (H : Heap) (τ : Tape) (q : KV) : s_strings_trimLeftByte call N a0 a1 H τ q = funK call N fn_strings_trimLeftByte [a0, a1] H τ q := by kernel_rfl
def e_strings_trimLeftByte (call : CallK) (N : Nat) (vs : List V) (H : Heap) (τ : Tape) (q : KV) : Ans := match vs with | [a0, a1] => s_strings_trimLeftByte call N a0 a1 H τ q | _ => none
theorem e_strings_trimLeftByte_ok : EntOk fn_strings_trimLeftByte e_strings_trimLeftByte := by
  intro call N vs H τ q r h
  unfold e_strings_trimLeftByte at h
  split at h
  · rw [s_strings_trimLeftByte_eq] at h; exact h
  · cases h
theorem e_strings_trimLeftByte_nat : EntNat e_strings_trimLeftByte := by
  intro c hn N vs H τ q
  unfold e_strings_trimLeftByte
  split
  · rw [s_strings_trimLeftByte_eq, s_strings_trimLeftByte_eq]; exact funK_ent hn _ _ _ _ _ _
  · rfl
/-- strings.trimRightByte -/
def fn_strings_trimRightByte : Fun := ⟨2, (.seq (.reg [iR 4 (.p .mv) [(.c (.str []))]]) (.keep [0, 1] (.seq (.block 0 (.loop (.keep [0, 1] (.seq (.seq (.reg [iR 5 (.p .mv) [(.t 0)], iR 6 (.p .lenS) [(.t 5)], iR 7 (.p (.bin .gtr)) [(.t 6), (.c (.int .i64 (.ofNat 0)))], iR 8 (.p .mv) [(.t 7)], iG 9 8 true (.p .mv) [(.t 0)], iG 10 8 true (.p .mv) [(.t 0)], iG 11 8 true (.p .lenS) [(.t 10)], iG 12 8 true (.p (.bin .sub)) [(.t 11), (.c (.int .i64 (.ofNat 1)))], iG 13 8 true (.p .strIndex) [(.t 9), (.t 12)], iG 14 8 true (.p .mv) [(.t 1)], iG 15 8 true (.p (.bin .eql)) [(.t 13), (.t 14)], iR 16 (.p .pick) [(.t 8), (.t 15), (.c (.bool false))]]) (.keep [0, 1, 16] (.cond (.t 16) .skip (.keep [0] (.exit 0))))) (.keep [0, 1] (.block 1 (.reg [iR 17 (.p .mv) [(.t 0)], iR 18 (.p .mv) [(.t 0)], iR 19 (.p .lenS) [(.t 18)], iR 20 (.p (.bin .sub)) [(.t 19), (.c (.int .i64 (.ofNat 1)))],
    iR 21 (.p (.strSlice false true)) [(.t 17), (.t 20)], iR 0 (.p .mv) [(.t 21)]]))))))) (.keep [0] (.seq (.reg [iR 22 (.p .mv) [(.t 0)], iR 4 (.p .mv) [(.t 22)]]) (.keep [4] (.keep [4] .ret))))))), [(.t 4)]⟩
def s_strings_trimRightByte_j0 (call : CallK) (N : Nat) (q : KV) (st : St) (τ : Tape) : Ans := match st with
  | ⟨fr, H⟩ => getK fr 0 fun t0 => q t0 H τ
def s_strings_trimRightByte_l1 (call : CallK) (N : Nat) (st : St) (τ : Tape) (k : KC) : Ans := match st with
  | ⟨fr, H⟩ => getK fr 0 fun t0 => getK fr 1 fun t1 => someK (pLenS [t0]) fun v0 => binK .gtr v0 (.int .i64 (.ofNat 0)) fun v1 => gK v1 true (fun q' => q' t0 H τ) H τ fun v2 H3 τ4 => gK v1 true (fun q' => q' t0 H3 τ4) H3 τ4 fun v5 H6 τ7 => gK v1 true (fun q' => someK (pLenS [v5]) fun v => q' v H6 τ7) H6 τ7 fun v8 H9 τ10 => gK v1 true (fun q' => binK .sub v8 (.int .i64 (.ofNat 1)) fun v => q' v H9 τ10) H9 τ10 fun v11 H12 τ13 => gK v1 true (fun q' => someK (pStrIndex [v2, v11]) fun v => q' v H12 τ13) H12 τ13 fun v14 H15 τ16 => gK v1 true (fun q' => q' t1 H15 τ16) H15 τ16 fun v17 H18 τ19 => gK v1 true (fun q' => binK .eql v14 v17 fun v => q' v H18 τ19) H18 τ19 fun v20 H21 τ22 => someK (pPick [v1, v20, (.bool false)]) fun v23 => condK v23 (someK (pLenS [t0]) fun v24 => binK .sub v24 (.int .i64 (.ofNat 1)) fun v25 => someK (pStrSlice false true [t0, v25]) fun v26 =>
    k .normal ⟨(T.set (T.set (T.set (T.set (T.set (T.set (T.set (T.set .leaf 0 t0) 1 t1) 17 t0) 18 t0) 19 v24) 20 v25) 21 v26) 0 v26), H21⟩ τ22) (k (.exit 0) ⟨(T.set .leaf 0 t0), H21⟩ τ22)
def s_strings_trimRightByte (call : CallK) (N : Nat) (a0 a1 : V) (H : Heap) (τ : Tape) (q : KV) : Ans := loopK (s_strings_trimRightByte_l1 call N) N ⟨(T.set (T.set .leaf 0 a0) 1 a1), H⟩ τ (blockK 0 (seqK (s_strings_trimRightByte_j0 call N q) (endK [(.t 4)] q)))
theorem s_strings_trimRightByte_eq (call : CallK) (N : Nat) (a0 a1 : V) (H : Heap) (τ : Tape) (q : KV) : s_strings_trimRightByte call N a0 a1 H τ q = funK call N fn_strings_trimRightByte [a0, a1] H τ q := by kernel_rfl
def e_strings_trimRightByte (call : CallK) (N : Nat) (vs : List V) (H : Heap) (τ : Tape) (q : KV) : Ans := match vs with | [a0, a1] => s_strings_trimRightByte call N a0 a1 H τ q | _ => none
theorem e_strings_trimRightByte_ok : EntOk fn_strings_trimRightByte e_strings_trimRightByte := by
  intro call N vs H τ q r h
  unfold e_strings_trimRightByte at h
  split at h
  · rw [s_strings_trimRightByte_eq] at h; exact h
  · cases h
theorem e_strings_trimRightByte_nat : EntNat e_strings_trimRightByte := by
  intro c hn N vs H τ q
  unfold e_strings_trimRightByte
  split
  · rw [s_strings_trimRightByte_eq, s_strings_trimRightByte_eq]; exact funK_ent hn _ _ _ _ _ _
  · rfl
/-- strings.makeASCIISet -/
def fn_strings_makeASCIISet : Fun := ⟨1, (.seq (.reg [iR 2 (.e (.alloc (repl 256 [(.bool false)]))) [], iR 3 (.p .mv) [(.c (.bool false))]]) (.keep [0, 2] (.seq (.seq (.reg [iR 4 (.p .mv) [(.c (.int .i64 (.ofNat 0)))]]) (.keep [0, 2, 4] (.block 0 (.loop (.keep [0, 2, 4] (.seq (.seq (.reg [iR 6 (.p .mv) [(.t 4)], iR 7 (.p .mv) [(.t 0)], iR 8 (.p .lenS) [(.t 7)], iR 9 (.p (.bin .lss)) [(.t 6), (.t 8)]]) (.keep [0, 2, 4, 9] (.cond (.t 9) .skip (.keep [2] (.exit 0))))) (.keep [0, 2, 4] (.seq (.block 1 (.seq (.reg [iR 12 (.p .mv) [(.t 0)], iR 13 (.p .mv) [(.t 4)], iR 14 (.p .strIndex) [(.t 12), (.t 13)], iR 5 (.p .mv) [(.t 14)]]) (.keep [0, 2, 4, 5] (.seq (.seq (.reg [iR 15 (.p .mv) [(.t 5)], iR 16 (.p (.bin .geq)) [(.t 15), (.c (.int .u8 (.ofNat 128)))]]) (.keep [0, 2, 4, 5, 16] (.cond (.t 16) (.seq (.reg [iR 17 (.l (.load (some 256))) [(.t 2)],
    ⟨none, none, (.e (.store 256)), [(.t 2), (.t 17)], none⟩, iR 3 (.p .mv) [(.c (.bool false))]]) (.keep [2, 3] (.keep [2, 3] .ret))) .skip))) (.keep [0, 2, 4, 5] (.reg [iR 18 (.p .mv) [(.t 5)], iR 19 (.p (.arrIdx 256 1)) [(.t 2), (.t 18)], ⟨none, none, (.e (.store 1)), [(.t 19), (.c (.bool true))], none⟩])))))) (.keep [0, 2, 4] (.reg [iR 10 (.p .mv) [(.t 4)], iR 11 (.p (.bin .add)) [(.t 10), (.c (.int .i64 (.ofNat 1)))], iR 4 (.p .mv) [(.t 11)]])))))))))) (.keep [2] (.seq (.reg [iR 20 (.l (.load (some 256))) [(.t 2)], ⟨none, none, (.e (.store 256)), [(.t 2), (.t 20)], none⟩, iR 3 (.p .mv) [(.c (.bool true))]]) (.keep [2, 3] (.keep [2, 3] .ret))))))), [(.cell 2 (some 256)), (.t 3)]⟩
def s_strings_makeASCIISet_j0 (call : CallK) (N : Nat) (q : KV) (st : St) (τ : Tape) : Ans := match st with
  | ⟨fr, H⟩ => getK fr 2 fun t2 => someK (lLoadN 256 [t2] H) fun v3 => effK (eStore 256 [t2, v3] H τ) fun v4 H5 τ6 => someK (results ⟨(T.set (T.set .leaf 2 t2) 3 (.bool true)), H5⟩ [(.cell 2 (some 256)), (.t 3)]) fun v => q v H5 τ6
def s_strings_makeASCIISet_l1 (call : CallK) (N : Nat) (st : St) (τ : Tape) (k : KC) : Ans := match st with
  | ⟨fr, H⟩ => getK fr 0 fun t0 => getK fr 2 fun t2 => getK fr 4 fun t4 => someK (pLenS [t0]) fun v7 => binK .lss t4 v7 fun v8 => condK v8 (someK (pStrIndex [t0, t4]) fun v9 => binK .geq v9 (.int .u8 (.ofNat 128)) fun v10 => condK v10 (someK (lLoadN 256 [t2] H) fun v11 => effK (eStore 256 [t2, v11] H τ) fun v12 H13 τ14 => k .ret ⟨(T.set (T.set .leaf 2 t2) 3 (.bool false)), H13⟩ τ14) (someK (pArrIdx 256 1 [t2, v9]) fun v15 => effK (eStore 1 [v15, (.bool true)] H τ) fun v16 H17 τ18 => binK .add t4 (.int .i64 (.ofNat 1)) fun v19 => k .normal ⟨(T.set (T.set (T.set (T.set (T.set (T.set .leaf 0 t0) 2 t2) 4 t4) 10 t4) 11 v19) 4 v19), H17⟩ τ18)) (k (.exit 0) ⟨(T.set .leaf 2 t2), H⟩ τ)
def s_strings_makeASCIISet (call : CallK) (N : Nat) (a0 : V) (H : Heap) (τ : Tape) (q : KV) : Ans := effK (eAlloc (repl 256 [(.bool false)]) [] H τ) fun v0 H1 τ2 => loopK (s_strings_makeASCIISet_l1 call N) N ⟨(T.set (T.set (T.set .leaf 0 a0) 2 v0) 4 (.int .i64 (.ofNat 0))), H1⟩ τ2 (blockK 0 (seqK (s_strings_makeASCIISet_j0 call N q) (endK [(.cell 2 (some 256)), (.t 3)] q)))
theorem s_strings_makeASCIISet_eq (call : CallK) (N : Nat) (a0 : V) (H : Heap) (τ : Tape) (q : KV) : s_strings_makeASCIISet call N a0 H τ q = funK call N fn_strings_makeASCIISet [a0] H τ q := by kernel_rfl
def e_strings_makeASCIISet (call : CallK) (N : Nat) (vs : List V) (H : Heap) (τ : Tape) (q : KV) : Ans := match vs with | [a0] => s_strings_makeASCIISet call N a0 H τ q | _ => none
theorem e_strings_makeASCIISet_ok : EntOk fn_strings_makeASCIISet e_strings_makeASCIISet := by
  intro call N vs H τ q r h
  unfold e_strings_makeASCIISet at h
  split at h
  · rw [s_strings_makeASCIISet_eq] at h; exact h
  · cases h
theorem e_strings_makeASCIISet_nat : EntNat e_strings_makeASCIISet := by
  intro c hn N vs H τ q
  unfold e_strings_makeASCIISet
  split
  · rw [s_strings_makeASCIISet_eq, s_strings_makeASCIISet_eq]; exact funK_ent hn _ _ _ _ _ _
  · rfl
/-- strings.trimLeftASCII -/
def fn_strings_trimLeftASCII : Fun := ⟨2, (.seq (.reg [iR 4 (.p .mv) [(.c (.str []))]]) (.keep [0, 1] (.seq (.block 0 (.loop (.keep [0, 1] (.seq (.seq (.reg [iR 5 (.p .mv) [(.t 0)], iR 6 (.p .lenS) [(.t 5)], iR 7 (.p (.bin .gtr)) [(.t 6), (.c (.int .i64 (.ofNat 0)))]]) (.keep [0, 1, 7] (.cond (.t 7) .skip (.keep [0] (.exit 0))))) (.keep [0, 1] (.block 1 (.seq (.seq (.reg [iR 8 (.p .mv) [(.t 1)], iR 9 (.p .mv) [(.t 0)], iR 10 (.p .strIndex) [(.t 9), (.c (.int .i64 (.ofNat 0)))], iR 11 (.call 225) [(.t 8), (.t 10)], iR 12 (.p (.un .not)) [(.t 11)]]) (.keep [0, 1, 12] (.cond (.t 12) (.keep [0] (.exit 0)) .skip))) (.keep [0, 1] (.reg [iR 13 (.p .mv) [(.t 0)], iR 14 (.p (.strSlice true false)) [(.t 13), (.c (.int .i64 (.ofNat 1)))], iR 0 (.p .mv) [(.t 14)]]))))))))) (.keep [0] (.seq (.reg [iR 15 (.p .mv) [(.t 0)], iR 4 (.p .mv) [(.t 15)]]) (.keep [4] (.keep [4] .ret))))))), [(.t 4)]⟩
def s_strings_trimLeftASCII_j0 (call : CallK) (N : Nat) (q : KV) (st : St) (τ : Tape) : Ans := match st with
  | ⟨fr, H⟩ => getK fr 0 fun t0 => q t0 H τ
def s_strings_trimLeftASCII_l1 (call : CallK) (N : Nat) (st : St) (τ : Tape) (k : KC) : Ans := match st with
  | ⟨fr, H⟩ => getK fr 0 fun t0 => getK fr 1 fun t1 => someK (pLenS [t0]) fun v0 => binK .gtr v0 (.int .i64 (.ofNat 0)) fun v1 => condK v1 (someK (pStrIndex [t0, (.int .i64 (.ofNat 0))]) fun v2 => call f_asciiSet_contains [t1, v2] H τ fun v3 H4 τ5 => unK .not v3 fun v6 => condK v6 (k (.exit 0) ⟨(T.set .leaf 0 t0), H4⟩ τ5) (someK (pStrSlice true false [t0, (.int .i64 (.ofNat 1))]) fun v7 => k .normal ⟨(T.set (T.set (T.set (T.set (T.set .leaf 0 t0) 1 t1) 13 t0) 14 v7) 0 v7), H4⟩ τ5)) (k (.exit 0) ⟨(T.set .leaf 0 t0), H⟩ τ)
def s_strings_trimLeftASCII (call : CallK) (N : Nat) (a0 a1 : V) (H : Heap) (τ : Tape) (q : KV) : Ans := loopK (s_strings_trimLeftASCII_l1 call N) N ⟨(T.set (T.set .leaf 0 a0) 1 a1), H⟩ τ (blockK 0 (seqK (s_strings_trimLeftASCII_j0 call N q) (endK [(.t 4)] q)))
theorem s_strings_trimLeftASCII_eq (call : CallK) (N : Nat) (a0 a1 : V) (H : Heap) (τ : Tape) (q : KV) : s_strings_trimLeftASCII call N a0 a1 H τ q = funK call N fn_strings_trimLeftASCII [a0, a1] H τ q := by kernel_rfl
def e_strings_trimLeftASCII (call : CallK) (N : Nat) (vs : List V) (H : Heap) (τ : Tape) (q : KV) : Ans := match vs with | [a0, a1] => s_strings_trimLeftASCII call N a0 a1 H τ q | _ => none
theorem e_strings_trimLeftASCII_ok : EntOk fn_strings_trimLeftASCII e_strings_trimLeftASCII := by
  intro call N vs H τ q r h
  unfold e_strings_trimLeftASCII at h
  split at h
  · rw [s_strings_trimLeftASCII_eq] at h; exact h
  · cases h
theorem e_strings_trimLeftASCII_nat : EntNat e_strings_trimLeftASCII := by
  intro c hn N vs H τ q
  unfold e_strings_trimLeftASCII
  split
  · rw [s_strings_trimLeftASCII_eq, s_strings_trimLeftASCII_eq]; exact funK_ent hn _ _ _ _ _ _
  · rfl
/-- strings.trimRightASCII -/
def fn_strings_trimRightASCII : Fun := ⟨2, (.seq (.reg [iR 4 (.p .mv) [(.c (.str []))]]) (.keep [0, 1] (.seq (.block 0 (.loop (.keep [0, 1] (.seq (.seq (.reg [iR 5 (.p .mv) [(.t 0)], iR 6 (.p .lenS) [(.t 5)], iR 7 (.p (.bin .gtr)) [(.t 6), (.c (.int .i64 (.ofNat 0)))]]) (.keep [0, 1, 7] (.cond (.t 7) .skip (.keep [0] (.exit 0))))) (.keep [0, 1] (.block 1 (.seq (.seq (.reg [iR 8 (.p .mv) [(.t 1)], iR 9 (.p .mv) [(.t 0)], iR 10 (.p .mv) [(.t 0)], iR 11 (.p .lenS) [(.t 10)], iR 12 (.p (.bin .sub)) [(.t 11), (.c (.int .i64 (.ofNat 1)))], iR 13 (.p .strIndex) [(.t 9), (.t 12)], iR 14 (.call 225) [(.t 8), (.t 13)], iR 15 (.p (.un .not)) [(.t 14)]]) (.keep [0, 1, 15] (.cond (.t 15) (.keep [0] (.exit 0)) .skip))) (.keep [0, 1] (.reg [iR 16 (.p .mv) [(.t 0)], iR 17 (.p .mv) [(.t 0)], iR 18 (.p .lenS) [(.t 17)], iR 19 (.p (.bin .sub)) [(.t 18), (.c (.int .i64 (.ofNat 1)))],
    iR 20 (.p (.strSlice false true)) [(.t 16), (.t 19)], iR 0 (.p .mv) [(.t 20)]]))))))))) (.keep [0] (.seq (.reg [iR 21 (.p .mv) [(.t 0)], iR 4 (.p .mv) [(.t 21)]]) (.keep [4] (.keep [4] .ret))))))), [(.t 4)]⟩
def s_strings_trimRightASCII_j0 (call : CallK) (N : Nat) (q : KV) (st : St) (τ : Tape) : Ans := match st with
  | ⟨fr, H⟩ => getK fr 0 fun t0 => q t0 H τ
def s_strings_trimRightASCII_l1 (call : CallK) (N : Nat) (st : St) (τ : Tape) (k : KC) : Ans := match st with
  | ⟨fr, H⟩ => getK fr 0 fun t0 => getK fr 1 fun t1 => someK (pLenS [t0]) fun v0 => binK .gtr v0 (.int .i64 (.ofNat 0)) fun v1 => condK v1 (someK (pLenS [t0]) fun v2 => binK .sub v2 (.int .i64 (.ofNat 1)) fun v3 => someK (pStrIndex [t0, v3]) fun v4 => call f_asciiSet_contains [t1, v4] H τ fun v5 H6 τ7 => unK .not v5 fun v8 => condK v8 (k (.exit 0) ⟨(T.set .leaf 0 t0), H6⟩ τ7) (someK (pLenS [t0]) fun v9 => binK .sub v9 (.int .i64 (.ofNat 1)) fun v10 => someK (pStrSlice false true [t0, v10]) fun v11 => k .normal ⟨(T.set (T.set (T.set (T.set (T.set (T.set (T.set (T.set .leaf 0 t0) 1 t1) 16 t0) 17 t0) 18 v9) 19 v10) 20 v11) 0 v11), H6⟩ τ7)) (k (.exit 0) ⟨(T.set .leaf 0 t0), H⟩ τ)
def s_strings_trimRightASCII (call : CallK) (N : Nat) (a0 a1 : V) (H : Heap) (τ : Tape) (q : KV) : Ans := loopK (s_strings_trimRightASCII_l1 call N) N ⟨(T.set (T.set .leaf 0 a0) 1 a1), H⟩ τ (blockK 0 (seqK (s_strings_trimRightASCII_j0 call N q) (endK [(.t 4)] q)))
theorem s_strings_trimRightASCII_eq (call : CallK) (N : Nat) (a0 a1 : V) (H : Heap) (τ : Tape) (q : KV) : s_strings_trimRightASCII call N a0 a1 H τ q = funK call N fn_strings_trimRightASCII [a0, a1] H τ q := by kernel_rfl
def e_strings_trimRightASCII (call : CallK) (N : Nat) (vs : List V) (H : Heap) (τ : Tape) (q : KV) : Ans := match vs with | [a0, a1] => s_strings_trimRightASCII call N a0 a1 H τ q | _ => none
theorem e_strings_trimRightASCII_ok : EntOk fn_strings_trimRightASCII e_strings_trimRightASCII := by
  intro call N vs H τ q r h
  unfold e_strings_trimRightASCII at h
  split at h
  · rw [s_strings_trimRightASCII_eq] at h; exact h
  · cases h
theorem e_strings_trimRightASCII_nat : EntNat e_strings_trimRightASCII := by
  intro c hn N vs H τ q
  unfold e_strings_trimRightASCII
  split
  · rw [s_strings_trimRightASCII_eq, s_strings_trimRightASCII_eq]; exact funK_ent hn _ _ _ _ _ _
  · rfl
/-- strings.trimLeftUnicode -/
def fn_strings_trimLeftUnicode : Fun := ⟨2, (.seq (.reg [iR 4 (.p .mv) [(.c (.str []))]]) (.keep [0, 1] (.seq (.block 0 (.loop (.keep [0, 1] (.seq (.seq (.reg [iR 7 (.p .mv) [(.t 0)], iR 8 (.p .lenS) [(.t 7)], iR 9 (.p (.bin .gtr)) [(.t 8), (.c (.int .i64 (.ofNat 0)))]]) (.keep [0, 1, 9] (.cond (.t 9) .skip (.keep [0] (.exit 0))))) (.keep [0, 1] (.block 1 (.seq (.reg [iR 11 (.p .mv) [(.t 0)], iR 12 (.call 206) [(.t 11)], iR 10 (.p .mv) [(.t 12)], iR 13 (.p (.extract 0)) [(.t 10)], iR 14 (.p (.extract 1)) [(.t 10)], iR 5 (.p .mv) [(.t 13)], iR 6 (.p .mv) [(.t 14)]]) (.keep [0, 1, 5, 6] (.seq (.seq (.reg [iR 15 (.p .mv) [(.t 1)], iR 16 (.p .mv) [(.t 5)], iR 17 (.call 226) [(.t 15), (.t 16)], iR 18 (.p (.un .not)) [(.t 17)]]) (.keep [0, 1, 6, 18] (.cond (.t 18) (.keep [0] (.exit 0)) .skip))) (.keep [0, 1, 6] (.reg [iR 19 (.p .mv) [(.t 0)], iR 20 (.p .mv) [(.t 6)],
    iR 21 (.p (.strSlice true false)) [(.t 19), (.t 20)], iR 0 (.p .mv) [(.t 21)]]))))))))))) (.keep [0] (.seq (.reg [iR 22 (.p .mv) [(.t 0)], iR 4 (.p .mv) [(.t 22)]]) (.keep [4] (.keep [4] .ret))))))), [(.t 4)]⟩
def s_strings_trimLeftUnicode_j0 (call : CallK) (N : Nat) (q : KV) (st : St) (τ : Tape) : Ans := match st with
  | ⟨fr, H⟩ => getK fr 0 fun t0 => q t0 H τ
def s_strings_trimLeftUnicode_l1 (call : CallK) (N : Nat) (st : St) (τ : Tape) (k : KC) : Ans := match st with
  | ⟨fr, H⟩ => getK fr 0 fun t0 => getK fr 1 fun t1 => someK (pLenS [t0]) fun v0 => binK .gtr v0 (.int .i64 (.ofNat 0)) fun v1 => condK v1 (call f_utf8_DecodeRuneInString [t0] H τ fun v2 H3 τ4 => someK (pExtract 0 [v2]) fun v5 => someK (pExtract 1 [v2]) fun v6 => call f_strings_ContainsRune [t1, v5] H3 τ4 fun v7 H8 τ9 => unK .not v7 fun v10 => condK v10 (k (.exit 0) ⟨(T.set .leaf 0 t0), H8⟩ τ9) (someK (pStrSlice true false [t0, v6]) fun v11 => k .normal ⟨(T.set (T.set (T.set (T.set (T.set (T.set (T.set .leaf 0 t0) 1 t1) 6 v6) 19 t0) 20 v6) 21 v11) 0 v11), H8⟩ τ9)) (k (.exit 0) ⟨(T.set .leaf 0 t0), H⟩ τ)
def s_strings_trimLeftUnicode (call : CallK) (N : Nat) (a0 a1 : V) (H : Heap) (τ : Tape) (q : KV) : Ans := loopK (s_strings_trimLeftUnicode_l1 call N) N ⟨(T.set (T.set .leaf 0 a0) 1 a1), H⟩ τ (blockK 0 (seqK (s_strings_trimLeftUnicode_j0 call N q) (endK [(.t 4)] q)))
theorem s_strings_trimLeftUnicode_eq (call : CallK) (N : Nat) (a0 a1 : V) (H : Heap) (τ : Tape) (q : KV) : s_strings_trimLeftUnicode call N a0 a1 H τ q = funK call N fn_strings_trimLeftUnicode [a0, a1] H τ q := by kernel_rfl
def e_strings_trimLeftUnicode (call : CallK) (N : Nat) (vs : List V) (H : Heap) (τ : Tape) (q : KV) : Ans := match vs with | [a0, a1] => s_strings_trimLeftUnicode call N a0 a1 H τ q | _ => none
theorem e_strings_trimLeftUnicode_ok : EntOk fn_strings_trimLeftUnicode e_strings_trimLeftUnicode := by
  intro call N vs H τ q r h
  unfold e_strings_trimLeftUnicode at h
  split at h
  · rw [s_strings_trimLeftUnicode_eq] at h; exact h
  · cases h
theorem e_strings_trimLeftUnicode_nat : EntNat e_strings_trimLeftUnicode := by
  intro c hn N vs H τ q
  unfold e_strings_trimLeftUnicode
  split
  · rw [s_strings_trimLeftUnicode_eq, s_strings_trimLeftUnicode_eq]; exact funK_ent hn _ _ _ _ _ _
  · rfl
/-- strings.trimRightUnicode -/
def fn_strings_trimRightUnicode : Fun := ⟨2, (.seq (.reg [iR 4 (.p .mv) [(.c (.str []))]]) (.keep [0, 1] (.seq (.block 0 (.loop (.keep [0, 1] (.seq (.seq (.reg [iR 7 (.p .mv) [(.t 0)], iR 8 (.p .lenS) [(.t 7)], iR 9 (.p (.bin .gtr)) [(.t 8), (.c (.int .i64 (.ofNat 0)))]]) (.keep [0, 1, 9] (.cond (.t 9) .skip (.keep [0] (.exit 0))))) (.keep [0, 1] (.block 1 (.seq (.reg [iR 10 (.p .mv) [(.t 0)], iR 11 (.p .mv) [(.t 0)], iR 12 (.p .lenS) [(.t 11)], iR 13 (.p (.bin .sub)) [(.t 12), (.c (.int .i64 (.ofNat 1)))], iR 14 (.p .strIndex) [(.t 10), (.t 13)], iR 15 (.p (.toInt .i32)) [(.t 14)], iR 5 (.p .mv) [(.t 15)], iR 6 (.p .mv) [(.c (.int .i64 (.ofNat 1)))]]) (.keep [0, 1, 5, 6] (.seq (.seq (.reg [iR 16 (.p .mv) [(.t 5)], iR 17 (.p (.bin .geq)) [(.t 16), (.c (.int .i32 (.ofNat 128)))]]) (.keep [0, 1, 5, 6, 17] (.cond (.t 17) (.reg [iR 19 (.p .mv) [(.t 0)], iR 20 (.call 227) [(.t 19)],
    iR 18 (.p .mv) [(.t 20)], iR 21 (.p (.extract 0)) [(.t 18)], iR 22 (.p (.extract 1)) [(.t 18)], iR 5 (.p .mv) [(.t 21)], iR 6 (.p .mv) [(.t 22)]]) .skip))) (.keep [0, 1, 5, 6] (.seq (.seq (.reg [iR 23 (.p .mv) [(.t 1)], iR 24 (.p .mv) [(.t 5)], iR 25 (.call 226) [(.t 23), (.t 24)], iR 26 (.p (.un .not)) [(.t 25)]]) (.keep [0, 1, 6, 26] (.cond (.t 26) (.keep [0] (.exit 0)) .skip))) (.keep [0, 1, 6] (.reg [iR 27 (.p .mv) [(.t 0)], iR 28 (.p .mv) [(.t 0)], iR 29 (.p .lenS) [(.t 28)], iR 30 (.p .mv) [(.t 6)], iR 31 (.p (.bin .sub)) [(.t 29), (.t 30)], iR 32 (.p (.strSlice false true)) [(.t 27), (.t 31)], iR 0 (.p .mv) [(.t 32)]]))))))))))))) (.keep [0] (.seq (.reg [iR 33 (.p .mv) [(.t 0)], iR 4 (.p .mv) [(.t 33)]]) (.keep [4] (.keep [4] .ret))))))), [(.t 4)]⟩
def s_strings_trimRightUnicode_j0 (call : CallK) (N : Nat) (q : KV) (st : St) (τ : Tape) : Ans := match st with
  | ⟨fr, H⟩ => getK fr 0 fun t0 => q t0 H τ
def s_strings_trimRightUnicode_j2 (call : CallK) (N : Nat) (k : KC) (st : St) (τ : Tape) : Ans := match st with
  | ⟨fr, H⟩ => getK fr 0 fun t0 => getK fr 1 fun t1 => getK fr 5 fun t5 => getK fr 6 fun t6 => call f_strings_ContainsRune [t1, t5] H τ fun v7 H8 τ9 => unK .not v7 fun v10 => condK v10 (k (.exit 0) ⟨(T.set .leaf 0 t0), H8⟩ τ9) (someK (pLenS [t0]) fun v11 => binK .sub v11 t6 fun v12 => someK (pStrSlice false true [t0, v12]) fun v13 => k .normal ⟨(T.set (T.set (T.set (T.set (T.set (T.set (T.set (T.set (T.set (T.set .leaf 0 t0) 1 t1) 6 t6) 27 t0) 28 t0) 29 v11) 30 t6) 31 v12) 32 v13) 0 v13), H8⟩ τ9)
def s_strings_trimRightUnicode_l1 (call : CallK) (N : Nat) (st : St) (τ : Tape) (k : KC) : Ans := match st with
  | ⟨fr, H⟩ => getK fr 0 fun t0 => getK fr 1 fun t1 => someK (pLenS [t0]) fun v0 => binK .gtr v0 (.int .i64 (.ofNat 0)) fun v1 => condK v1 (someK (pLenS [t0]) fun v2 => binK .sub v2 (.int .i64 (.ofNat 1)) fun v3 => someK (pStrIndex [t0, v3]) fun v4 => toIntK .i32 v4 fun v5 => binK .geq v5 (.int .i32 (.ofNat 128)) fun v6 => condK v6 (call f_utf8_DecodeLastRuneInString [t0] H τ fun v14 H15 τ16 => someK (pExtract 0 [v14]) fun v17 => someK (pExtract 1 [v14]) fun v18 => s_strings_trimRightUnicode_j2 call N k ⟨(T.set (T.set (T.set (T.set (T.set (T.set (T.set (T.set (T.set (T.set (T.set (T.set .leaf 0 t0) 1 t1) 5 v5) 6 (.int .i64 (.ofNat 1))) 17 v6) 19 t0) 20 v14) 18 v14) 21 v17) 22 v18) 5 v17) 6 v18), H15⟩ τ16) (s_strings_trimRightUnicode_j2 call N k ⟨(T.set (T.set (T.set (T.set (T.set .leaf 0 t0) 1 t1) 5 v5) 6 (.int .i64 (.ofNat 1))) 17 v6), H⟩ τ)) (k (.exit 0) ⟨(T.set .leaf 0 t0), H⟩ τ)
def s_strings_trimRightUnicode (call : CallK) (N : Nat) (a0 a1 : V) (H : Heap) (τ : Tape) (q : KV) : Ans := loopK (s_strings_trimRightUnicode_l1 call N) N ⟨(T.set (T.set .leaf 0 a0) 1 a1), H⟩ τ (blockK 0 (seqK (s_strings_trimRightUnicode_j0 call N q) (endK [(.t 4)] q)))
theorem s_strings_trimRightUnicode_eq (call : CallK) (N : Nat) (a0 a1 : V) (H : Heap) (τ : Tape) (q : KV) : s_strings_trimRightUnicode call N a0 a1 H τ q = funK call N fn_strings_trimRightUnicode [a0, a1] H τ q := by kernel_rfl
def e_strings_trimRightUnicode (call : CallK) (N : Nat) (vs : List V) (H : Heap) (τ : Tape) (q : KV) : Ans := match vs with | [a0, a1] => s_strings_trimRightUnicode call N a0 a1 H τ q | _ => none
theorem e_strings_trimRightUnicode_ok : EntOk fn_strings_trimRightUnicode e_strings_trimRightUnicode := by
  intro call N vs H τ q r h
  unfold e_strings_trimRightUnicode at h
  split at h
  · rw [s_strings_trimRightUnicode_eq] at h; exact h
  · cases h
theorem e_strings_trimRightUnicode_nat : EntNat e_strings_trimRightUnicode := by
  intro c hn N vs H τ q
  unfold e_strings_trimRightUnicode
  split
  · rw [s_strings_trimRightUnicode_eq, s_strings_trimRightUnicode_eq]; exact funK_ent hn _ _ _ _ _ _
  · rfl
/-- strings.IndexAny -/
def fn_strings_IndexAny : Fun := ⟨2, (.seq (.reg [iR 4 (.p .mv) [(.c (.int .i64 (.ofNat 0)))]]) (.keep [0, 1] (.seq (.seq (.reg [iR 11 (.p .mv) [(.t 1)], iR 12 (.p (.bin .eql)) [(.t 11), (.c (.str []))]]) (.keep [0, 1, 12] (.cond (.t 12) (.seq (.reg [iR 4 (.p .mv) [(.c (.int .i64 (.negSucc 0)))]]) (.keep [4] (.keep [4] .ret))) .skip))) (.keep [0, 1] (.seq (.seq (.reg [iR 13 (.p .mv) [(.t 1)], iR 14 (.p .lenS) [(.t 13)], iR 15 (.p (.bin .eql)) [(.t 14), (.c (.int .i64 (.ofNat 1)))]]) (.keep [0, 1, 15] (.cond (.t 15) (.seq (.reg [iR 16 (.p .mv) [(.t 1)], iR 17 (.p .strIndex) [(.t 16), (.c (.int .i64 (.ofNat 0)))], iR 18 (.p (.toInt .i32)) [(.t 17)], iR 5 (.p .mv) [(.t 18)]]) (.keep [0, 5] (.seq (.seq (.reg [iR 19 (.p .mv) [(.t 5)], iR 20 (.p (.bin .geq)) [(.t 19), (.c (.int .i32 (.ofNat 128)))]]) (.keep [0, 5, 20] (.cond (.t 20) (.reg [iR 5 (.p .mv) [(.c (.int .i32 (.ofNat 65533)))]])
    .skip))) (.keep [0, 5] (.seq (.reg [iR 21 (.p .mv) [(.t 0)], iR 22 (.p .mv) [(.t 5)], iR 23 (.call 228) [(.t 21), (.t 22)], iR 4 (.p .mv) [(.t 23)]]) (.keep [4] (.keep [4] .ret))))))) .skip))) (.keep [0, 1] (.seq (.seq (.reg [iR 24 (.p .mv) [(.t 0)], iR 25 (.p .lenS) [(.t 24)], iR 26 (.call 229) [(.t 25)]]) (.keep [0, 1, 26] (.cond (.t 26) (.seq (.reg [iR 28 (.p .mv) [(.t 1)], iR 29 (.call 175) [(.t 28)], iR 27 (.p .mv) [(.t 29)], iR 30 (.p (.extract 0)) [(.t 27)], iR 31 (.p (.extract 1)) [(.t 27)], iR 6 (.e (.alloc (repl 256 [(.bool false)]))) [], ⟨none, none, (.e (.store 256)), [(.t 6), (.t 30)], none⟩, iR 7 (.p .mv) [(.t 31)]]) (.keep [0, 1, 6, 7] (.seq (.reg [iR 32 (.p .mv) [(.t 7)]]) (.keep [0, 1, 6, 32] (.cond (.t 32) (.seq (.seq (.reg [iR 8 (.p .mv) [(.c (.int .i64 (.ofNat 0)))]]) (.keep [0, 6, 8] (.block 0 (.loop
    (.keep [0, 6, 8] (.seq (.seq (.reg [iR 33 (.p .mv) [(.t 8)], iR 34 (.p .mv) [(.t 0)], iR 35 (.p .lenS) [(.t 34)], iR 36 (.p (.bin .lss)) [(.t 33), (.t 35)]]) (.keep [0, 6, 8, 36] (.cond (.t 36) .skip (.keep [] (.exit 0))))) (.keep [0, 6, 8] (.seq (.block 1 (.seq (.reg [iR 39 (.p .mv) [(.t 0)], iR 40 (.p .mv) [(.t 8)], iR 41 (.p .strIndex) [(.t 39), (.t 40)], iR 42 (.call 225) [(.t 6), (.t 41)]]) (.keep [0, 6, 8, 42] (.cond (.t 42) (.seq (.reg [iR 43 (.p .mv) [(.t 8)], iR 4 (.p .mv) [(.t 43)]]) (.keep [4] (.keep [4] .ret))) .skip)))) (.keep [0, 6, 8] (.reg [iR 37 (.p .mv) [(.t 8)], iR 38 (.p (.bin .add)) [(.t 37), (.c (.int .i64 (.ofNat 1)))], iR 8 (.p .mv) [(.t 38)]])))))))))) (.keep [] (.seq (.reg [iR 4 (.p .mv) [(.c (.int .i64 (.negSucc 0)))]]) (.keep [4] (.keep [4] .ret))))) .skip))))) .skip))) (.keep [0, 1] (.seq (.seq (.reg [iR 44 (.p .mv) [(.t 0)],
    iR 45 (.e .range) [(.t 44)]]) (.keep [1, 45] (.block 2 (.loop (.keep [1, 45] (.seq (.reg [iR 46 (.e .next) [(.t 45)], iR 47 (.p (.extract 0)) [(.t 46)]]) (.keep [1, 45, 46, 47] (.seq (.cond (.t 47) .skip (.keep [] (.exit 2))) (.keep [1, 45, 46] (.block 3 (.seq (.reg [iR 48 (.p (.extract 1)) [(.t 46)], iR 49 (.p (.extract 2)) [(.t 46)], iR 9 (.p .mv) [(.t 48)], iR 10 (.p .mv) [(.t 49)]]) (.keep [1, 9, 10, 45] (.seq (.reg [iR 50 (.p .mv) [(.t 1)], iR 51 (.p .mv) [(.t 10)], iR 52 (.call 228) [(.t 50), (.t 51)], iR 53 (.p (.bin .geq)) [(.t 52), (.c (.int .i64 (.ofNat 0)))]]) (.keep [1, 9, 45, 53] (.cond (.t 53) (.seq (.reg [iR 54 (.p .mv) [(.t 9)], iR 4 (.p .mv) [(.t 54)]]) (.keep [4] (.keep [4] .ret))) .skip))))))))))))))) (.keep [] (.seq (.reg [iR 4 (.p .mv) [(.c (.int .i64 (.negSucc 0)))]]) (.keep [4] (.keep [4] .ret))))))))))))), [(.t 4)]⟩
def s_strings_IndexAny_j2 (call : CallK) (N : Nat) (q : KV) (st : St) (τ : Tape) : Ans := match st with
  | ⟨fr, H⟩ => q (.int .i64 (.negSucc 0)) H τ
def s_strings_IndexAny_l3 (call : CallK) (N : Nat) (st : St) (τ : Tape) (k : KC) : Ans := match st with
  | ⟨fr, H⟩ => getK fr 1 fun t1 => getK fr 45 fun t45 => effK (eNext [t45] H τ) fun v13 H14 τ15 => someK (pExtract 0 [v13]) fun v16 => condK v16 (someK (pExtract 1 [v13]) fun v17 => someK (pExtract 2 [v13]) fun v18 => call f_strings_IndexRune [t1, v18] H14 τ15 fun v19 H20 τ21 => binK .geq v19 (.int .i64 (.ofNat 0)) fun v22 => condK v22 (k .ret ⟨(T.set .leaf 4 v17), H20⟩ τ21) (k .normal ⟨(T.set (T.set (T.set (T.set .leaf 1 t1) 9 v17) 45 t45) 53 v22), H20⟩ τ21)) (k (.exit 2) ⟨.leaf, H14⟩ τ15)
def s_strings_IndexAny_j1 (call : CallK) (N : Nat) (q : KV) (st : St) (τ : Tape) : Ans := match st with
  | ⟨fr, H⟩ => getK fr 0 fun t0 => getK fr 1 fun t1 => effK (eRange [t0] H τ) fun v10 H11 τ12 => loopK (s_strings_IndexAny_l3 call N) N ⟨(T.set (T.set .leaf 1 t1) 45 v10), H11⟩ τ12 (blockK 2 (seqK (s_strings_IndexAny_j2 call N q) (endK [(.t 4)] q)))
def s_strings_IndexAny_j4 (call : CallK) (N : Nat) (q : KV) (st : St) (τ : Tape) : Ans := match st with
  | ⟨fr, H⟩ => q (.int .i64 (.negSucc 0)) H τ
def s_strings_IndexAny_l5 (call : CallK) (N : Nat) (st : St) (τ : Tape) (k : KC) : Ans := match st with
  | ⟨fr, H⟩ => getK fr 0 fun t0 => getK fr 6 fun t6 => getK fr 8 fun t8 => someK (pLenS [t0]) fun v34 => binK .lss t8 v34 fun v35 => condK v35 (someK (pStrIndex [t0, t8]) fun v36 => call f_asciiSet_contains [t6, v36] H τ fun v37 H38 τ39 => condK v37 (k .ret ⟨(T.set .leaf 4 t8), H38⟩ τ39) (binK .add t8 (.int .i64 (.ofNat 1)) fun v40 => k .normal ⟨(T.set (T.set (T.set (T.set (T.set (T.set .leaf 0 t0) 6 t6) 8 t8) 37 t8) 38 v40) 8 v40), H38⟩ τ39)) (k (.exit 0) ⟨.leaf, H⟩ τ)
def s_strings_IndexAny_j0 (call : CallK) (N : Nat) (q : KV) (st : St) (τ : Tape) : Ans := match st with
  | ⟨fr, H⟩ => getK fr 0 fun t0 => getK fr 1 fun t1 => someK (pLenS [t0]) fun v6 => call f_strings_shouldUseASCIISet [v6] H τ fun v7 H8 τ9 => condK v7 (call f_strings_makeASCIISet [t1] H8 τ9 fun v23 H24 τ25 => someK (pExtract 0 [v23]) fun v26 => someK (pExtract 1 [v23]) fun v27 => effK (eAlloc (repl 256 [(.bool false)]) [] H24 τ25) fun v28 H29 τ30 => effK (eStore 256 [v28, v26] H29 τ30) fun v31 H32 τ33 => condK v27 (loopK (s_strings_IndexAny_l5 call N) N ⟨(T.set (T.set (T.set .leaf 0 t0) 6 v28) 8 (.int .i64 (.ofNat 0))), H32⟩ τ33 (blockK 0 (seqK (s_strings_IndexAny_j4 call N q) (seqK (s_strings_IndexAny_j1 call N q) (endK [(.t 4)] q))))) (s_strings_IndexAny_j1 call N q ⟨(T.set (T.set (T.set (T.set .leaf 0 t0) 1 t1) 6 v28) 32 v27), H32⟩ τ33)) (s_strings_IndexAny_j1 call N q ⟨(T.set (T.set (T.set .leaf 0 t0) 1 t1) 26 v7), H8⟩ τ9)
def s_strings_IndexAny_j6 (call : CallK) (N : Nat) (q : KV) (st : St) (τ : Tape) : Ans := match st with
  | ⟨fr, H⟩ => getK fr 0 fun t0 => getK fr 5 fun t5 => call f_strings_IndexRune [t0, t5] H τ fun v41 H42 τ43 => q v41 H42 τ43
def s_strings_IndexAny_j8 (call : CallK) (N : Nat) (q : KV) (st : St) (τ : Tape) : Ans := match st with
  | ⟨fr, H⟩ => q (.int .i64 (.negSucc 0)) H τ
def s_strings_IndexAny_l9 (call : CallK) (N : Nat) (st : St) (τ : Tape) (k : KC) : Ans := match st with
  | ⟨fr, H⟩ => getK fr 1 fun t1 => getK fr 45 fun t45 => effK (eNext [t45] H τ) fun v51 H52 τ53 => someK (pExtract 0 [v51]) fun v54 => condK v54 (someK (pExtract 1 [v51]) fun v55 => someK (pExtract 2 [v51]) fun v56 => call f_strings_IndexRune [t1, v56] H52 τ53 fun v57 H58 τ59 => binK .geq v57 (.int .i64 (.ofNat 0)) fun v60 => condK v60 (k .ret ⟨(T.set .leaf 4 v55), H58⟩ τ59) (k .normal ⟨(T.set (T.set (T.set (T.set .leaf 1 t1) 9 v55) 45 t45) 53 v60), H58⟩ τ59)) (k (.exit 2) ⟨.leaf, H52⟩ τ53)
def s_strings_IndexAny_j7 (call : CallK) (N : Nat) (q : KV) (st : St) (τ : Tape) : Ans := match st with
  | ⟨fr, H⟩ => getK fr 0 fun t0 => getK fr 1 fun t1 => effK (eRange [t0] H τ) fun v48 H49 τ50 => loopK (s_strings_IndexAny_l9 call N) N ⟨(T.set (T.set .leaf 1 t1) 45 v48), H49⟩ τ50 (blockK 2 (seqK (s_strings_IndexAny_j8 call N q) (endK [(.t 4)] q)))
def s_strings_IndexAny_j10 (call : CallK) (N : Nat) (q : KV) (st : St) (τ : Tape) : Ans := match st with
  | ⟨fr, H⟩ => q (.int .i64 (.negSucc 0)) H τ
def s_strings_IndexAny_l11 (call : CallK) (N : Nat) (st : St) (τ : Tape) (k : KC) : Ans := match st with
  | ⟨fr, H⟩ => getK fr 0 fun t0 => getK fr 6 fun t6 => getK fr 8 fun t8 => someK (pLenS [t0]) fun v72 => binK .lss t8 v72 fun v73 => condK v73 (someK (pStrIndex [t0, t8]) fun v74 => call f_asciiSet_contains [t6, v74] H τ fun v75 H76 τ77 => condK v75 (k .ret ⟨(T.set .leaf 4 t8), H76⟩ τ77) (binK .add t8 (.int .i64 (.ofNat 1)) fun v78 => k .normal ⟨(T.set (T.set (T.set (T.set (T.set (T.set .leaf 0 t0) 6 t6) 8 t8) 37 t8) 38 v78) 8 v78), H76⟩ τ77)) (k (.exit 0) ⟨.leaf, H⟩ τ)
def s_strings_IndexAny (call : CallK) (N : Nat) (a0 a1 : V) (H : Heap) (τ : Tape) (q : KV) : Ans := binK .eql a1 (.str []) fun v0 => condK v0 (q (.int .i64 (.negSucc 0)) H τ) (someK (pLenS [a1]) fun v1 => binK .eql v1 (.int .i64 (.ofNat 1)) fun v2 => condK v2 (someK (pStrIndex [a1, (.int .i64 (.ofNat 0))]) fun v3 => toIntK .i32 v3 fun v4 => binK .geq v4 (.int .i32 (.ofNat 128)) fun v5 => condK v5 (s_strings_IndexAny_j6 call N q ⟨(T.set (T.set (T.set (T.set .leaf 0 a0) 5 v4) 20 v5) 5 (.int .i32 (.ofNat 65533))), H⟩ τ) (s_strings_IndexAny_j6 call N q ⟨(T.set (T.set (T.set .leaf 0 a0) 5 v4) 20 v5), H⟩ τ)) (someK (pLenS [a0]) fun v44 => call f_strings_shouldUseASCIISet [v44] H τ fun v45 H46 τ47 => condK v45 (call f_strings_makeASCIISet [a1] H46 τ47 fun v61 H62 τ63 => someK (pExtract 0 [v61]) fun v64 => someK (pExtract 1 [v61]) fun v65 =>
    effK (eAlloc (repl 256 [(.bool false)]) [] H62 τ63) fun v66 H67 τ68 => effK (eStore 256 [v66, v64] H67 τ68) fun v69 H70 τ71 => condK v65 (loopK (s_strings_IndexAny_l11 call N) N ⟨(T.set (T.set (T.set .leaf 0 a0) 6 v66) 8 (.int .i64 (.ofNat 0))), H70⟩ τ71 (blockK 0 (seqK (s_strings_IndexAny_j10 call N q) (seqK (s_strings_IndexAny_j7 call N q) (endK [(.t 4)] q))))) (s_strings_IndexAny_j7 call N q ⟨(T.set (T.set (T.set (T.set .leaf 0 a0) 1 a1) 6 v66) 32 v65), H70⟩ τ71)) (s_strings_IndexAny_j7 call N q ⟨(T.set (T.set (T.set .leaf 0 a0) 1 a1) 26 v45), H46⟩ τ47)))
theorem s_strings_IndexAny_eq (call : CallK) (N : Nat) (a0 a1 : V) (H : Heap) (τ : Tape) (q : KV) : s_strings_IndexAny call N a0 a1 H τ q = funK call N fn_strings_IndexAny [a0, a1] H τ q := by kernel_rfl
def e_strings_IndexAny (call : CallK) (N : Nat) (vs : List V) (H : Heap) (τ : Tape) (q : KV) : Ans := match vs with | [a0, a1] => s_strings_IndexAny call N a0 a1 H τ q | _ => none
theorem e_strings_IndexAny_ok : EntOk fn_strings_IndexAny e_strings_IndexAny := by
  intro call N vs H τ q r h
  unfold e_strings_IndexAny at h
  split at h
  · rw [s_strings_IndexAny_eq] at h; exact h
  · cases h
theorem e_strings_IndexAny_nat : EntNat e_strings_IndexAny := by
  intro c hn N vs H τ q
  unfold e_strings_IndexAny
  split
  · rw [s_strings_IndexAny_eq, s_strings_IndexAny_eq]; exact funK_ent hn _ _ _ _ _ _
  · rfl
/-- ostiary/ostiaryref3.split -/
def fn_ref3_split : Fun := ⟨2, (.seq (.reg [iR 4 (.p .mv) [(.c (.str []))]]) (.keep [0, 1] (.seq (.reg [iR 9 (.p .mv) [(.t 1)], iR 10 (.call 230) [(.t 9), (.c (.int .u8 (.ofNat 35)))], iR 8 (.p .mv) [(.t 10)], iR 11 (.p (.extract 0)) [(.t 8)], iR 12 (.p (.extract 1)) [(.t 8)], iR 13 (.p (.extract 2)) [(.t 8)], iR 5 (.p .mv) [(.t 11)], iR 6 (.p .mv) [(.t 12)], iR 7 (.p .mv) [(.t 13)]]) (.keep [0, 5, 6, 7] (.seq (.seq (.reg [iR 14 (.p .mv) [(.t 7)]]) (.keep [0, 5, 6, 14] (.cond (.t 14) (.seq (.reg [iR 15 (.p .mv) [(.t 0)], iR 16 (.p .nilck) [(.t 15)], iR 17 (.p (.fieldAddr 11)) [(.t 16)], ⟨none, none, (.e (.store 1)), [(.t 17), (.c (.bool true))], none⟩]) (.keep [0, 5, 6] (.reg [iR 18 (.p .mv) [(.t 0)], iR 19 (.p .mv) [(.t 6)], iR 20 (.call 231) [(.t 19), (.c (.int .i64 (.ofNat 2)))], iR 21 (.p .nilck) [(.t 18)], iR 22 (.p (.fieldAddr 9)) [(.t 21)],
    ⟨none, none, (.e (.store 1)), [(.t 22), (.t 20)], none⟩]))) .skip))) (.keep [5] (.seq (.reg [iR 23 (.p .mv) [(.t 5)], iR 4 (.p .mv) [(.t 23)]]) (.keep [4] (.keep [4] .ret))))))))), [(.t 4)]⟩
def s_ref3_split_j0 (call : CallK) (N : Nat) (q : KV) (st : St) (τ : Tape) : Ans := match st with
  | ⟨fr, H⟩ => getK fr 5 fun t5 => q t5 H τ
def s_ref3_split (call : CallK) (N : Nat) (a0 a1 : V) (H : Heap) (τ : Tape) (q : KV) : Ans := call f_ref1_Part [a1, (.int .u8 (.ofNat 35))] H τ fun v0 H1 τ2 => someK (pExtract 0 [v0]) fun v3 => someK (pExtract 1 [v0]) fun v4 => someK (pExtract 2 [v0]) fun v5 => condK v5 (someK (pNilck [a0]) fun v6 => someK (pFieldAddr 11 [v6]) fun v7 => effK (eStore 1 [v7, (.bool true)] H1 τ2) fun v8 H9 τ10 => call f_ref1_Percent [v4, (.int .i64 (.ofNat 2))] H9 τ10 fun v11 H12 τ13 => someK (pNilck [a0]) fun v14 => someK (pFieldAddr 9 [v14]) fun v15 => effK (eStore 1 [v15, v11] H12 τ13) fun v16 H17 τ18 => s_ref3_split_j0 call N q ⟨(T.set (T.set (T.set (T.set (T.set (T.set (T.set (T.set .leaf 0 a0) 5 v3) 6 v4) 18 a0) 19 v4) 20 v11) 21 v14) 22 v15), H17⟩ τ18) (s_ref3_split_j0 call N q ⟨(T.set (T.set (T.set (T.set .leaf 0 a0) 5 v3) 6 v4) 14 v5), H1⟩ τ2)
theorem s_ref3_split_eq (call : CallK) (N : Nat) (a0 a1 : V) (H : Heap) (τ : Tape) (q : KV) : s_ref3_split call N a0 a1 H τ q = funK call N fn_ref3_split [a0, a1] H τ q := by kernel_rfl
def e_ref3_split (call : CallK) (N : Nat) (vs : List V) (H : Heap) (τ : Tape) (q : KV) : Ans := match vs with | [a0, a1] => s_ref3_split call N a0 a1 H τ q | _ => none
theorem e_ref3_split_ok : EntOk fn_ref3_split e_ref3_split := by
  intro call N vs H τ q r h
  unfold e_ref3_split at h
  split at h
  · rw [s_ref3_split_eq] at h; exact h
  · cases h
theorem e_ref3_split_nat : EntNat e_ref3_split := by
  intro c hn N vs H τ q
  unfold e_ref3_split
  split
  · rw [s_ref3_split_eq, s_ref3_split_eq]; exact funK_ent hn _ _ _ _ _ _
  · rfl
/-- ostiary/ostiaryref3.clean -/
def fn_ref3_clean : Fun := ⟨1, (.seq (.reg [iR 2 (.p .mv) [(.c (.str []))]]) (.keep [0] (.seq (.block 0 (.loop (.keep [0] (.seq (.seq (.reg [iR 5 (.p .mv) [(.t 0)], iR 6 (.p .lenS) [(.t 5)], iR 7 (.p (.bin .gtr)) [(.t 6), (.c (.int .i64 (.ofNat 0)))], iR 8 (.p .mv) [(.t 7)], iG 9 8 true (.p .mv) [(.t 0)], iG 10 8 true (.p .strIndex) [(.t 9), (.c (.int .i64 (.ofNat 0)))], iG 11 8 true (.p (.bin .leq)) [(.t 10), (.c (.int .u8 (.ofNat 32)))], iR 12 (.p .pick) [(.t 8), (.t 11), (.c (.bool false))]]) (.keep [0, 12] (.cond (.t 12) .skip (.keep [0] (.exit 0))))) (.keep [0] (.block 1 (.reg [iR 13 (.p .mv) [(.t 0)], iR 14 (.p (.strSlice true false)) [(.t 13), (.c (.int .i64 (.ofNat 1)))], iR 0 (.p .mv) [(.t 14)]]))))))) (.keep [0] (.seq (.block 2 (.loop (.keep [0] (.seq (.seq (.reg [iR 15 (.p .mv) [(.t 0)], iR 16 (.p .lenS) [(.t 15)],
    iR 17 (.p (.bin .gtr)) [(.t 16), (.c (.int .i64 (.ofNat 0)))], iR 18 (.p .mv) [(.t 17)], iG 19 18 true (.p .mv) [(.t 0)], iG 20 18 true (.p .mv) [(.t 0)], iG 21 18 true (.p .lenS) [(.t 20)], iG 22 18 true (.p (.bin .sub)) [(.t 21), (.c (.int .i64 (.ofNat 1)))], iG 23 18 true (.p .strIndex) [(.t 19), (.t 22)], iG 24 18 true (.p (.bin .leq)) [(.t 23), (.c (.int .u8 (.ofNat 32)))], iR 25 (.p .pick) [(.t 18), (.t 24), (.c (.bool false))]]) (.keep [0, 25] (.cond (.t 25) .skip (.keep [0] (.exit 2))))) (.keep [0] (.block 3 (.reg [iR 26 (.p .mv) [(.t 0)], iR 27 (.p .mv) [(.t 0)], iR 28 (.p .lenS) [(.t 27)], iR 29 (.p (.bin .sub)) [(.t 28), (.c (.int .i64 (.ofNat 1)))], iR 30 (.p (.strSlice false true)) [(.t 26), (.t 29)], iR 0 (.p .mv) [(.t 30)]]))))))) (.keep [0] (.seq (.reg [iR 3 (.p .mv) [(.c (.str []))]]) (.keep [0, 3] (.seq (.seq (.reg [iR 4 (.p .mv) [(.c (.int .i64 (.ofNat 0)))]])
    (.keep [0, 3, 4] (.block 4 (.loop (.keep [0, 3, 4] (.seq (.seq (.reg [iR 31 (.p .mv) [(.t 4)], iR 32 (.p .mv) [(.t 0)], iR 33 (.p .lenS) [(.t 32)], iR 34 (.p (.bin .lss)) [(.t 31), (.t 33)]]) (.keep [0, 3, 4, 34] (.cond (.t 34) .skip (.keep [3] (.exit 4))))) (.keep [0, 3, 4] (.seq (.block 5 (.seq (.reg [iR 37 (.p .mv) [(.t 0)], iR 38 (.p .mv) [(.t 4)], iR 39 (.p .strIndex) [(.t 37), (.t 38)], iR 40 (.p (.bin .neq)) [(.t 39), (.c (.int .u8 (.ofNat 9)))], iR 41 (.p .mv) [(.t 40)], iG 42 41 true (.p .mv) [(.t 0)], iG 43 41 true (.p .mv) [(.t 4)], iG 44 41 true (.p .strIndex) [(.t 42), (.t 43)], iG 45 41 true (.p (.bin .neq)) [(.t 44), (.c (.int .u8 (.ofNat 10)))], iR 46 (.p .pick) [(.t 41), (.t 45), (.c (.bool false))], iR 47 (.p .mv) [(.t 46)], iG 48 47 true (.p .mv) [(.t 0)], iG 49 47 true (.p .mv) [(.t 4)], iG 50 47 true (.p .strIndex) [(.t 48), (.t 49)],
    iG 51 47 true (.p (.bin .neq)) [(.t 50), (.c (.int .u8 (.ofNat 13)))], iR 52 (.p .pick) [(.t 47), (.t 51), (.c (.bool false))]]) (.keep [0, 3, 4, 52] (.cond (.t 52) (.reg [iR 53 (.p .mv) [(.t 3)], iR 54 (.p .mv) [(.t 0)], iR 55 (.p .mv) [(.t 4)], iR 56 (.p .mv) [(.t 4)], iR 57 (.p (.bin .add)) [(.t 56), (.c (.int .i64 (.ofNat 1)))], iR 58 (.p (.strSlice true true)) [(.t 54), (.t 55), (.t 57)], iR 59 (.p (.bin .add)) [(.t 53), (.t 58)], iR 3 (.p .mv) [(.t 59)]]) .skip)))) (.keep [0, 3, 4] (.reg [iR 35 (.p .mv) [(.t 4)], iR 36 (.p (.bin .add)) [(.t 35), (.c (.int .i64 (.ofNat 1)))], iR 4 (.p .mv) [(.t 36)]])))))))))) (.keep [3] (.seq (.reg [iR 60 (.p .mv) [(.t 3)], iR 2 (.p .mv) [(.t 60)]]) (.keep [2] (.keep [2] .ret))))))))))))), [(.t 2)]⟩
def s_ref3_clean_j2 (call : CallK) (N : Nat) (q : KV) (st : St) (τ : Tape) : Ans := match st with
  | ⟨fr, H⟩ => getK fr 3 fun t3 => q t3 H τ
def s_ref3_clean_j4 (call : CallK) (N : Nat) (k : KC) (st : St) (τ : Tape) : Ans := match st with
  | ⟨fr, H⟩ => getK fr 0 fun t0 => getK fr 3 fun t3 => getK fr 4 fun t4 => binK .add t4 (.int .i64 (.ofNat 1)) fun v2 => k .normal ⟨(T.set (T.set (T.set (T.set (T.set (T.set .leaf 0 t0) 3 t3) 4 t4) 35 t4) 36 v2) 4 v2), H⟩ τ
def s_ref3_clean_l3 (call : CallK) (N : Nat) (st : St) (τ : Tape) (k : KC) : Ans := match st with
  | ⟨fr, H⟩ => getK fr 0 fun t0 => getK fr 3 fun t3 => getK fr 4 fun t4 => someK (pLenS [t0]) fun v0 => binK .lss t4 v0 fun v1 => condK v1 (someK (pStrIndex [t0, t4]) fun v3 => binK .neq v3 (.int .u8 (.ofNat 9)) fun v4 => gK v4 true (fun q' => q' t0 H τ) H τ fun v5 H6 τ7 => gK v4 true (fun q' => q' t4 H6 τ7) H6 τ7 fun v8 H9 τ10 => gK v4 true (fun q' => someK (pStrIndex [v5, v8]) fun v => q' v H9 τ10) H9 τ10 fun v11 H12 τ13 => gK v4 true (fun q' => binK .neq v11 (.int .u8 (.ofNat 10)) fun v => q' v H12 τ13) H12 τ13 fun v14 H15 τ16 => someK (pPick [v4, v14, (.bool false)]) fun v17 => gK v17 true (fun q' => q' t0 H15 τ16) H15 τ16 fun v18 H19 τ20 => gK v17 true (fun q' => q' t4 H19 τ20) H19 τ20 fun v21 H22 τ23 => gK v17 true (fun q' => someK (pStrIndex [v18, v21]) fun v => q' v H22 τ23) H22 τ23 fun v24 H25 τ26 =>
    gK v17 true (fun q' => binK .neq v24 (.int .u8 (.ofNat 13)) fun v => q' v H25 τ26) H25 τ26 fun v27 H28 τ29 => someK (pPick [v17, v27, (.bool false)]) fun v30 => condK v30 (binK .add t4 (.int .i64 (.ofNat 1)) fun v31 => someK (pStrSlice true true [t0, t4, v31]) fun v32 => binK .add t3 v32 fun v33 => s_ref3_clean_j4 call N k ⟨(T.set (T.set (T.set (T.set (T.set (T.set (T.set (T.set (T.set (T.set (T.set (T.set .leaf 0 t0) 3 t3) 4 t4) 52 v30) 53 t3) 54 t0) 55 t4) 56 t4) 57 v31) 58 v32) 59 v33) 3 v33), H28⟩ τ29) (s_ref3_clean_j4 call N k ⟨(T.set (T.set (T.set (T.set .leaf 0 t0) 3 t3) 4 t4) 52 v30), H28⟩ τ29)) (k (.exit 4) ⟨(T.set .leaf 3 t3), H⟩ τ)
def s_ref3_clean_j1 (call : CallK) (N : Nat) (q : KV) (st : St) (τ : Tape) : Ans := match st with
  | ⟨fr, H⟩ => getK fr 0 fun t0 => loopK (s_ref3_clean_l3 call N) N ⟨(T.set (T.set (T.set .leaf 0 t0) 3 (.str [])) 4 (.int .i64 (.ofNat 0))), H⟩ τ (blockK 4 (seqK (s_ref3_clean_j2 call N q) (endK [(.t 2)] q)))
def s_ref3_clean_l5 (call : CallK) (N : Nat) (st : St) (τ : Tape) (k : KC) : Ans := match st with
  | ⟨fr, H⟩ => getK fr 0 fun t0 => someK (pLenS [t0]) fun v34 => binK .gtr v34 (.int .i64 (.ofNat 0)) fun v35 => gK v35 true (fun q' => q' t0 H τ) H τ fun v36 H37 τ38 => gK v35 true (fun q' => q' t0 H37 τ38) H37 τ38 fun v39 H40 τ41 => gK v35 true (fun q' => someK (pLenS [v39]) fun v => q' v H40 τ41) H40 τ41 fun v42 H43 τ44 => gK v35 true (fun q' => binK .sub v42 (.int .i64 (.ofNat 1)) fun v => q' v H43 τ44) H43 τ44 fun v45 H46 τ47 => gK v35 true (fun q' => someK (pStrIndex [v36, v45]) fun v => q' v H46 τ47) H46 τ47 fun v48 H49 τ50 => gK v35 true (fun q' => binK .leq v48 (.int .u8 (.ofNat 32)) fun v => q' v H49 τ50) H49 τ50 fun v51 H52 τ53 => someK (pPick [v35, v51, (.bool false)]) fun v54 => condK v54 (someK (pLenS [t0]) fun v55 => binK .sub v55 (.int .i64 (.ofNat 1)) fun v56 => someK (pStrSlice false true [t0, v56]) fun v57 =>
    k .normal ⟨(T.set (T.set (T.set (T.set (T.set (T.set (T.set .leaf 0 t0) 26 t0) 27 t0) 28 v55) 29 v56) 30 v57) 0 v57), H52⟩ τ53) (k (.exit 2) ⟨(T.set .leaf 0 t0), H52⟩ τ53)
def s_ref3_clean_j0 (call : CallK) (N : Nat) (q : KV) (st : St) (τ : Tape) : Ans := match st with
  | ⟨fr, H⟩ => getK fr 0 fun t0 => loopK (s_ref3_clean_l5 call N) N ⟨(T.set .leaf 0 t0), H⟩ τ (blockK 2 (seqK (s_ref3_clean_j1 call N q) (endK [(.t 2)] q)))
def s_ref3_clean_l6 (call : CallK) (N : Nat) (st : St) (τ : Tape) (k : KC) : Ans := match st with
  | ⟨fr, H⟩ => getK fr 0 fun t0 => someK (pLenS [t0]) fun v58 => binK .gtr v58 (.int .i64 (.ofNat 0)) fun v59 => gK v59 true (fun q' => q' t0 H τ) H τ fun v60 H61 τ62 => gK v59 true (fun q' => someK (pStrIndex [v60, (.int .i64 (.ofNat 0))]) fun v => q' v H61 τ62) H61 τ62 fun v63 H64 τ65 => gK v59 true (fun q' => binK .leq v63 (.int .u8 (.ofNat 32)) fun v => q' v H64 τ65) H64 τ65 fun v66 H67 τ68 => someK (pPick [v59, v66, (.bool false)]) fun v69 => condK v69 (someK (pStrSlice true false [t0, (.int .i64 (.ofNat 1))]) fun v70 => k .normal ⟨(T.set (T.set (T.set (T.set .leaf 0 t0) 13 t0) 14 v70) 0 v70), H67⟩ τ68) (k (.exit 0) ⟨(T.set .leaf 0 t0), H67⟩ τ68)
def s_ref3_clean (call : CallK) (N : Nat) (a0 : V) (H : Heap) (τ : Tape) (q : KV) : Ans := loopK (s_ref3_clean_l6 call N) N ⟨(T.set .leaf 0 a0), H⟩ τ (blockK 0 (seqK (s_ref3_clean_j0 call N q) (endK [(.t 2)] q)))
theorem s_ref3_clean_eq (call : CallK) (N : Nat) (a0 : V) (H : Heap) (τ : Tape) (q : KV) : s_ref3_clean call N a0 H τ q = funK call N fn_ref3_clean [a0] H τ q := by kernel_rfl
def e_ref3_clean (call : CallK) (N : Nat) (vs : List V) (H : Heap) (τ : Tape) (q : KV) : Ans := match vs with | [a0] => s_ref3_clean call N a0 H τ q | _ => none
theorem e_ref3_clean_ok : EntOk fn_ref3_clean e_ref3_clean := by
  intro call N vs H τ q r h
  unfold e_ref3_clean at h
  split at h
  · rw [s_ref3_clean_eq] at h; exact h
  · cases h
theorem e_ref3_clean_nat : EntNat e_ref3_clean := by
  intro c hn N vs H τ q
  unfold e_ref3_clean
  split
  · rw [s_ref3_clean_eq, s_ref3_clean_eq]; exact funK_ent hn _ _ _ _ _ _
  · rfl
/-- ostiary/ostiaryref3.scheme -/
def fn_ref3_scheme : Fun := ⟨1, (.seq (.reg [iR 2 (.p .mv) [(.c (.str []))], iR 3 (.p .mv) [(.c (.str []))], iR 4 (.p .mv) [(.c (.bool false))]]) (.keep [0] (.seq (.seq (.reg [iR 5 (.p .mv) [(.c (.int .i64 (.ofNat 0)))]]) (.keep [0, 5] (.block 0 (.loop (.keep [0, 5] (.seq (.seq (.reg [iR 7 (.p .mv) [(.t 5)], iR 8 (.p .mv) [(.t 0)], iR 9 (.p .lenS) [(.t 8)], iR 10 (.p (.bin .lss)) [(.t 7), (.t 9)]]) (.keep [0, 5, 10] (.cond (.t 10) .skip (.keep [] (.exit 0))))) (.keep [0, 5] (.seq (.block 1 (.seq (.reg [iR 13 (.p .mv) [(.t 0)], iR 14 (.p .mv) [(.t 5)], iR 15 (.p .strIndex) [(.t 13), (.t 14)], iR 6 (.p .mv) [(.t 15)]]) (.keep [0, 5, 6] (.seq (.seq (.reg [iR 16 (.p .mv) [(.t 6)], iR 17 (.p (.bin .eql)) [(.t 16), (.c (.int .u8 (.ofNat 58)))], iR 18 (.p .mv) [(.t 17)], iG 19 18 true (.p .mv) [(.t 5)], iG 20 18 true (.p (.bin .gtr)) [(.t 19), (.c (.int .i64 (.ofNat 0)))],
    iR 21 (.p .pick) [(.t 18), (.t 20), (.c (.bool false))]]) (.keep [0, 5, 6, 21] (.cond (.t 21) (.seq (.draw [iR 22 (.p .mv) [(.t 0)], iR 23 (.p .mv) [(.t 5)], iR 24 (.p (.strSlice false true)) [(.t 22), (.t 23)], iR 25 (.call 232) [(.t 24)], iR 26 (.p .mv) [(.t 0)], iR 27 (.p .mv) [(.t 5)], iR 28 (.p (.bin .add)) [(.t 27), (.c (.int .i64 (.ofNat 1)))], iR 29 (.p (.strSlice true false)) [(.t 26), (.t 28)], iR 2 (.p .mv) [(.t 25)], iR 3 (.p .mv) [(.t 29)], iR 4 (.p .mv) [(.c (.bool true))]]) (.keep [2, 3, 4] (.keep [2, 3, 4] .ret))) .skip))) (.keep [0, 5, 6] (.seq (.reg [iR 30 (.p .mv) [(.t 6)], iR 31 (.call 233) [(.t 30)], iR 32 (.p (.un .not)) [(.t 31)], iR 33 (.p .mv) [(.t 32)], iG 34 33 true (.p .mv) [(.t 5)], iG 35 33 true (.p (.bin .eql)) [(.t 34), (.c (.int .i64 (.ofNat 0)))], iG 36 33 true (.p .mv) [(.t 35)], iG 37 36 false (.p .mv) [(.t 6)],
    iG 38 36 false (.call 234) [(.t 37)], iG 39 36 false (.p (.un .not)) [(.t 38)], iG 40 36 false (.p .mv) [(.t 39)], iG 41 40 true (.p .mv) [(.t 6)], iG 42 40 true (.p (.bin .neq)) [(.t 41), (.c (.int .u8 (.ofNat 43)))], iG 43 36 false (.p .pick) [(.t 40), (.t 42), (.c (.bool false))], iG 44 36 false (.p .mv) [(.t 43)], iG 45 44 true (.p .mv) [(.t 6)], iG 46 44 true (.p (.bin .neq)) [(.t 45), (.c (.int .u8 (.ofNat 45)))], iG 47 36 false (.p .pick) [(.t 44), (.t 46), (.c (.bool false))], iG 48 36 false (.p .mv) [(.t 47)], iG 49 48 true (.p .mv) [(.t 6)], iG 50 48 true (.p (.bin .neq)) [(.t 49), (.c (.int .u8 (.ofNat 46)))], iG 51 36 false (.p .pick) [(.t 48), (.t 50), (.c (.bool false))], iG 52 33 true (.p .pick) [(.t 36), (.c (.bool true)), (.t 51)], iR 53 (.p .pick) [(.t 33), (.t 52), (.c (.bool false))]]) (.keep [0, 5, 53] (.cond (.t 53)
    (.seq (.reg [iR 2 (.p .mv) [(.c (.str []))], iR 3 (.p .mv) [(.c (.str []))], iR 4 (.p .mv) [(.c (.bool false))]]) (.keep [2, 3, 4] (.keep [2, 3, 4] .ret))) .skip)))))))) (.keep [0, 5] (.reg [iR 11 (.p .mv) [(.t 5)], iR 12 (.p (.bin .add)) [(.t 11), (.c (.int .i64 (.ofNat 1)))], iR 5 (.p .mv) [(.t 12)]])))))))))) (.keep [] (.seq (.reg [iR 2 (.p .mv) [(.c (.str []))], iR 3 (.p .mv) [(.c (.str []))], iR 4 (.p .mv) [(.c (.bool false))]]) (.keep [2, 3, 4] (.keep [2, 3, 4] .ret))))))), [(.t 2), (.t 3), (.t 4)]⟩
def s_ref3_scheme_j0 (call : CallK) (N : Nat) (q : KV) (st : St) (τ : Tape) : Ans := match st with
  | ⟨fr, H⟩ => q (.tup [(.str []), (.str []), (.bool false)]) H τ
def s_ref3_scheme_l1 (call : CallK) (N : Nat) (st : St) (τ : Tape) (k : KC) : Ans := match st with
  | ⟨fr, H⟩ => getK fr 0 fun t0 => getK fr 5 fun t5 => someK (pLenS [t0]) fun v0 => binK .lss t5 v0 fun v1 => condK v1 (someK (pStrIndex [t0, t5]) fun v2 => binK .eql v2 (.int .u8 (.ofNat 58)) fun v3 => gK v3 true (fun q' => q' t5 H τ) H τ fun v4 H5 τ6 => gK v3 true (fun q' => binK .gtr v4 (.int .i64 (.ofNat 0)) fun v => q' v H5 τ6) H5 τ6 fun v7 H8 τ9 => someK (pPick [v3, v7, (.bool false)]) fun v10 => condK v10 (someK (pStrSlice false true [t0, t5]) fun v11 => call f_ref1_Lower [v11] H8 τ9 fun v12 H13 τ14 => binK .add t5 (.int .i64 (.ofNat 1)) fun v15 => someK (pStrSlice true false [t0, v15]) fun v16 => k .ret ⟨(T.set (T.set (T.set .leaf 2 v12) 3 v16) 4 (.bool true)), H13⟩ τ14) (call f_ref1_Letter [v2] H8 τ9 fun v17 H18 τ19 => unK .not v17 fun v20 => gK v20 true (fun q' => q' t5 H18 τ19) H18 τ19 fun v21 H22 τ23 =>
    gK v20 true (fun q' => binK .eql v21 (.int .i64 (.ofNat 0)) fun v => q' v H22 τ23) H22 τ23 fun v24 H25 τ26 => gK v20 true (fun q' => q' v24 H25 τ26) H25 τ26 fun v27 H28 τ29 => gK v27 false (fun q' => q' v2 H28 τ29) H28 τ29 fun v30 H31 τ32 => gK v27 false (fun q' => call f_ref1_Digit [v30] H31 τ32 q') H31 τ32 fun v33 H34 τ35 => gK v27 false (fun q' => unK .not v33 fun v => q' v H34 τ35) H34 τ35 fun v36 H37 τ38 => gK v27 false (fun q' => q' v36 H37 τ38) H37 τ38 fun v39 H40 τ41 => gK v39 true (fun q' => q' v2 H40 τ41) H40 τ41 fun v42 H43 τ44 => gK v39 true (fun q' => binK .neq v42 (.int .u8 (.ofNat 43)) fun v => q' v H43 τ44) H43 τ44 fun v45 H46 τ47 => gK v27 false (fun q' => someK (pPick [v39, v45, (.bool false)]) fun v => q' v H46 τ47) H46 τ47 fun v48 H49 τ50 => gK v27 false (fun q' => q' v48 H49 τ50) H49 τ50 fun v51 H52 τ53 =>
    gK v51 true (fun q' => q' v2 H52 τ53) H52 τ53 fun v54 H55 τ56 => gK v51 true (fun q' => binK .neq v54 (.int .u8 (.ofNat 45)) fun v => q' v H55 τ56) H55 τ56 fun v57 H58 τ59 => gK v27 false (fun q' => someK (pPick [v51, v57, (.bool false)]) fun v => q' v H58 τ59) H58 τ59 fun v60 H61 τ62 => gK v27 false (fun q' => q' v60 H61 τ62) H61 τ62 fun v63 H64 τ65 => gK v63 true (fun q' => q' v2 H64 τ65) H64 τ65 fun v66 H67 τ68 => gK v63 true (fun q' => binK .neq v66 (.int .u8 (.ofNat 46)) fun v => q' v H67 τ68) H67 τ68 fun v69 H70 τ71 => gK v27 false (fun q' => someK (pPick [v63, v69, (.bool false)]) fun v => q' v H70 τ71) H70 τ71 fun v72 H73 τ74 => gK v20 true (fun q' => someK (pPick [v27, (.bool true), v72]) fun v => q' v H73 τ74) H73 τ74 fun v75 H76 τ77 => someK (pPick [v20, v75, (.bool false)]) fun v78 => condK v78
    (k .ret ⟨(T.set (T.set (T.set .leaf 2 (.str [])) 3 (.str [])) 4 (.bool false)), H76⟩ τ77) (binK .add t5 (.int .i64 (.ofNat 1)) fun v79 => k .normal ⟨(T.set (T.set (T.set (T.set (T.set .leaf 0 t0) 5 t5) 11 t5) 12 v79) 5 v79), H76⟩ τ77))) (k (.exit 0) ⟨.leaf, H⟩ τ)
def s_ref3_scheme (call : CallK) (N : Nat) (a0 : V) (H : Heap) (τ : Tape) (q : KV) : Ans := loopK (s_ref3_scheme_l1 call N) N ⟨(T.set (T.set .leaf 0 a0) 5 (.int .i64 (.ofNat 0))), H⟩ τ (blockK 0 (seqK (s_ref3_scheme_j0 call N q) (endK [(.t 2), (.t 3), (.t 4)] q)))
theorem s_ref3_scheme_eq (call : CallK) (N : Nat) (a0 : V) (H : Heap) (τ : Tape) (q : KV) : s_ref3_scheme call N a0 H τ q = funK call N fn_ref3_scheme [a0] H τ q := by kernel_rfl
def e_ref3_scheme (call : CallK) (N : Nat) (vs : List V) (H : Heap) (τ : Tape) (q : KV) : Ans := match vs with | [a0] => s_ref3_scheme call N a0 H τ q | _ => none
theorem e_ref3_scheme_ok : EntOk fn_ref3_scheme e_ref3_scheme := by
  intro call N vs H τ q r h
  unfold e_ref3_scheme at h
  split at h
  · rw [s_ref3_scheme_eq] at h; exact h
  · cases h
theorem e_ref3_scheme_nat : EntNat e_ref3_scheme := by
  intro c hn N vs H τ q
  unfold e_ref3_scheme
  split
  · rw [s_ref3_scheme_eq, s_ref3_scheme_eq]; exact funK_ent hn _ _ _ _ _ _
  · rfl
/-- ostiary/ostiaryref3.full -/
def fn_ref3_full : Fun := ⟨2, (.seq (.reg [iR 4 (.p .mv) [(.c (.int .i64 (.ofNat 0)))]]) (.keep [0, 1] (.seq (.reg [iR 7 (.p .mv) [(.t 0)], iR 8 (.p .nilck) [(.t 7)], iR 9 (.p (.fieldAddr 5)) [(.t 8)], ⟨none, none, (.e (.store 1)), [(.t 9), (.c (.int .i64 (.negSucc 0)))], none⟩]) (.keep [0, 1] (.seq (.seq (.reg [iR 10 (.p .mv) [(.t 0)], iR 11 (.p .nilck) [(.t 10)], iR 12 (.p (.fieldAddr 0)) [(.t 11)], iR 13 (.l (.load none)) [(.t 12)], iR 14 (.call 130) [(.t 13)]]) (.keep [0, 1, 14] (.cond (.t 14) (.seq (.reg [iR 15 (.p .mv) [(.t 0)], iR 16 (.p .mv) [(.t 1)], iR 17 (.call 237) [(.t 16)], iR 18 (.call 236) [(.t 17)], iR 19 (.call 235) [(.t 15), (.t 18)], iR 4 (.p .mv) [(.t 19)]]) (.keep [4] (.keep [4] .ret))) .skip))) (.keep [0, 1] (.seq (.seq (.reg [iR 20 (.p .mv) [(.t 1)], iR 21 (.call 238) [(.t 20), (.c (.str (bs [47, 47])))]]) (.keep [0, 1, 21] (.cond (.t 21)
    (.seq (.reg [iR 22 (.p .mv) [(.t 0)], iR 23 (.p .mv) [(.t 1)], iR 24 (.p (.strSlice true false)) [(.t 23), (.c (.int .i64 (.ofNat 2)))], iR 25 (.call 235) [(.t 22), (.t 24)], iR 4 (.p .mv) [(.t 25)]]) (.keep [4] (.keep [4] .ret))) .skip))) (.keep [0, 1] (.seq (.seq (.reg [iR 26 (.p .mv) [(.t 1)], iR 27 (.call 238) [(.t 26), (.c (.str (bs [47])))]]) (.keep [0, 1, 27] (.cond (.t 27) (.seq (.reg [iR 28 (.p .mv) [(.t 0)], iR 29 (.p .mv) [(.t 1)], iR 30 (.call 239) [(.t 28), (.t 29)]]) (.keep [] (.seq (.reg [iR 4 (.p .mv) [(.c (.int .i64 (.ofNat 0)))]]) (.keep [4] (.keep [4] .ret))))) .skip))) (.keep [0, 1] (.seq (.reg [iR 32 (.p .mv) [(.t 1)], iR 33 (.call 240) [(.t 32), (.c (.int .u8 (.ofNat 63))), (.c (.int .u8 (.ofNat 63)))], iR 31 (.p .mv) [(.t 33)], iR 34 (.p (.extract 0)) [(.t 31)], iR 35 (.p (.extract 1)) [(.t 31)], iR 5 (.p .mv) [(.t 34)], iR 6 (.p .mv) [(.t 35)]])
    (.keep [0, 1, 5] (.seq (.reg [iR 36 (.p .mv) [(.t 0)], iR 37 (.p .nilck) [(.t 36)], iR 38 (.p (.fieldAddr 6)) [(.t 37)], ⟨none, none, (.e (.store 1)), [(.t 38), (.c (.bool true))], none⟩]) (.keep [0, 1, 5] (.seq (.reg [iR 39 (.p .mv) [(.t 0)], iR 40 (.p .mv) [(.t 5)], iR 41 (.call 231) [(.t 40), (.c (.int .i64 (.ofNat 1)))], iR 42 (.e (.buildSlice 1 1 [(.str [])] [(0, 1)])) [(.t 41)], iR 43 (.p .nilck) [(.t 39)], iR 44 (.p (.fieldAddr 7)) [(.t 43)], ⟨none, none, (.e (.store 1)), [(.t 44), (.t 42)], none⟩]) (.keep [0, 1] (.seq (.reg [iR 45 (.p .mv) [(.t 0)], iR 46 (.p .mv) [(.t 1)], iR 47 (.call 241) [(.t 45), (.t 46)]]) (.keep [] (.seq (.reg [iR 4 (.p .mv) [(.c (.int .i64 (.ofNat 0)))]]) (.keep [4] (.keep [4] .ret))))))))))))))))))))), [(.t 4)]⟩
def s_ref3_full (call : CallK) (N : Nat) (a0 a1 : V) (H : Heap) (τ : Tape) (q : KV) : Ans := someK (pNilck [a0]) fun v0 => someK (pFieldAddr 5 [v0]) fun v1 => effK (eStore 1 [v1, (.int .i64 (.negSucc 0))] H τ) fun v2 H3 τ4 => someK (pNilck [a0]) fun v5 => someK (pFieldAddr 0 [v5]) fun v6 => someK (lLoad1 [v6] H3) fun v7 => call f_ref3_Special [v7] H3 τ4 fun v8 H9 τ10 => condK v8 (call f_ref3_slashes [a1] H9 τ10 fun v11 H12 τ13 => call f_ref3_over [v11] H12 τ13 fun v14 H15 τ16 => call f_ref3_far [a0, v14] H15 τ16 fun v17 H18 τ19 => q v17 H18 τ19) (call f_ref1_Begins [a1, (.str (bs [47, 47]))] H9 τ10 fun v20 H21 τ22 => condK v20 (someK (pStrSlice true false [a1, (.int .i64 (.ofNat 2))]) fun v23 => call f_ref3_far [a0, v23] H21 τ22 fun v24 H25 τ26 => q v24 H25 τ26) (call f_ref1_Begins [a1, (.str (bs [47]))] H21 τ22 fun v27 H28 τ29 => condK v27
    (call f_ref3_rest [a0, a1] H28 τ29 fun v30 H31 τ32 => q (.int .i64 (.ofNat 0)) H31 τ32) (call f_ref3_ahead [a1, (.int .u8 (.ofNat 63)), (.int .u8 (.ofNat 63))] H28 τ29 fun v33 H34 τ35 => someK (pExtract 0 [v33]) fun v36 => someK (pExtract 1 [v33]) fun v37 => someK (pNilck [a0]) fun v38 => someK (pFieldAddr 6 [v38]) fun v39 => effK (eStore 1 [v39, (.bool true)] H34 τ35) fun v40 H41 τ42 => call f_ref1_Percent [v36, (.int .i64 (.ofNat 1))] H41 τ42 fun v43 H44 τ45 => effK (eBuildSlice 1 1 [(.str [])] [(0, 1)] [v43] H44 τ45) fun v46 H47 τ48 => someK (pNilck [a0]) fun v49 => someK (pFieldAddr 7 [v49]) fun v50 => effK (eStore 1 [v50, v46] H47 τ48) fun v51 H52 τ53 => call f_ref3_query [a0, a1] H52 τ53 fun v54 H55 τ56 => q (.int .i64 (.ofNat 0)) H55 τ56)))
theorem s_ref3_full_eq (call : CallK) (N : Nat) (a0 a1 : V) (H : Heap) (τ : Tape) (q : KV) : s_ref3_full call N a0 a1 H τ q = funK call N fn_ref3_full [a0, a1] H τ q := by kernel_rfl
def e_ref3_full (call : CallK) (N : Nat) (vs : List V) (H : Heap) (τ : Tape) (q : KV) : Ans := match vs with | [a0, a1] => s_ref3_full call N a0 a1 H τ q | _ => none
theorem e_ref3_full_ok : EntOk fn_ref3_full e_ref3_full := by
  intro call N vs H τ q r h
  unfold e_ref3_full at h
  split at h
  · rw [s_ref3_full_eq] at h; exact h
  · cases h
theorem e_ref3_full_nat : EntNat e_ref3_full := by
  intro c hn N vs H τ q
  unfold e_ref3_full
  split
  · rw [s_ref3_full_eq, s_ref3_full_eq]; exact funK_ent hn _ _ _ _ _ _
  · rfl
/-- ostiary/ostiaryref3.Own -/
def fn_ref3_Own : Fun := ⟨1, (.seq (.reg [iR 2 (.p .mv) [(.c (.int .i64 (.ofNat 0)))]]) (.keep [0] (.seq (.seq (.reg [iR 3 (.p .mv) [(.t 0)]]) (.keep [3] (.block 0 (.seq (.seq (.reg [iR 5 (.p (.bin .eql)) [(.t 3), (.c (.str (bs [104, 116, 116, 112])))], iR 4 (.p .mv) [(.t 5)]]) (.keep [3, 4] (.cond (.t 4) .skip (.reg [iR 6 (.p (.bin .eql)) [(.t 3), (.c (.str (bs [119, 115])))], iR 4 (.p .mv) [(.t 6)]])))) (.keep [3, 4] (.cond (.t 4) (.seq (.reg [iR 2 (.p .mv) [(.c (.int .i64 (.ofNat 80)))]]) (.keep [2] (.keep [2] .ret))) (.seq (.seq (.reg [iR 8 (.p (.bin .eql)) [(.t 3), (.c (.str (bs [104, 116, 116, 112, 115])))], iR 7 (.p .mv) [(.t 8)]]) (.keep [3, 7] (.cond (.t 7) .skip (.reg [iR 9 (.p (.bin .eql)) [(.t 3), (.c (.str (bs [119, 115, 115])))], iR 7 (.p .mv) [(.t 9)]])))) (.keep [3, 7] (.cond (.t 7) (.seq (.reg [iR 2 (.p .mv) [(.c (.int .i64 (.ofNat 443)))]])
    (.keep [2] (.keep [2] .ret))) (.seq (.reg [iR 11 (.p (.bin .eql)) [(.t 3), (.c (.str (bs [102, 116, 112])))], iR 10 (.p .mv) [(.t 11)]]) (.keep [10] (.cond (.t 10) (.seq (.reg [iR 2 (.p .mv) [(.c (.int .i64 (.ofNat 21)))]]) (.keep [2] (.keep [2] .ret))) .skip)))))))))))) (.keep [] (.seq (.reg [iR 2 (.p .mv) [(.c (.int .i64 (.negSucc 0)))]]) (.keep [2] (.keep [2] .ret))))))), [(.t 2)]⟩
def s_ref3_Own_j0 (call : CallK) (N : Nat) (q : KV) (st : St) (τ : Tape) : Ans := match st with
  | ⟨fr, H⟩ => q (.int .i64 (.negSucc 0)) H τ
def s_ref3_Own_j2 (call : CallK) (N : Nat) (q : KV) (st : St) (τ : Tape) : Ans := match st with
  | ⟨fr, H⟩ => getK fr 3 fun t3 => getK fr 7 fun t7 => condK t7 (q (.int .i64 (.ofNat 443)) H τ) (binK .eql t3 (.str (bs [102, 116, 112])) fun v2 => condK v2 (q (.int .i64 (.ofNat 21)) H τ) (s_ref3_Own_j0 call N q ⟨(T.set .leaf 10 v2), H⟩ τ))
def s_ref3_Own_j1 (call : CallK) (N : Nat) (q : KV) (st : St) (τ : Tape) : Ans := match st with
  | ⟨fr, H⟩ => getK fr 3 fun t3 => getK fr 4 fun t4 => condK t4 (q (.int .i64 (.ofNat 80)) H τ) (binK .eql t3 (.str (bs [104, 116, 116, 112, 115])) fun v1 => condK v1 (s_ref3_Own_j2 call N q ⟨(T.set (T.set .leaf 3 t3) 7 v1), H⟩ τ) (binK .eql t3 (.str (bs [119, 115, 115])) fun v3 => s_ref3_Own_j2 call N q ⟨(T.set (T.set (T.set (T.set .leaf 3 t3) 7 v1) 9 v3) 7 v3), H⟩ τ))
def s_ref3_Own (call : CallK) (N : Nat) (a0 : V) (H : Heap) (τ : Tape) (q : KV) : Ans := binK .eql a0 (.str (bs [104, 116, 116, 112])) fun v0 => condK v0 (s_ref3_Own_j1 call N q ⟨(T.set (T.set .leaf 3 a0) 4 v0), H⟩ τ) (binK .eql a0 (.str (bs [119, 115])) fun v4 => s_ref3_Own_j1 call N q ⟨(T.set (T.set (T.set (T.set .leaf 3 a0) 4 v0) 6 v4) 4 v4), H⟩ τ)
theorem s_ref3_Own_eq (call : CallK) (N : Nat) (a0 : V) (H : Heap) (τ : Tape) (q : KV) : s_ref3_Own call N a0 H τ q = funK call N fn_ref3_Own [a0] H τ q := by kernel_rfl
def e_ref3_Own (call : CallK) (N : Nat) (vs : List V) (H : Heap) (τ : Tape) (q : KV) : Ans := match vs with | [a0] => s_ref3_Own call N a0 H τ q | _ => none
theorem e_ref3_Own_ok : EntOk fn_ref3_Own e_ref3_Own := by
  intro call N vs H τ q r h
  unfold e_ref3_Own at h
  split at h
  · rw [s_ref3_Own_eq] at h; exact h
  · cases h
theorem e_ref3_Own_nat : EntNat e_ref3_Own := by
  intro c hn N vs H τ q
  unfold e_ref3_Own
  split
  · rw [s_ref3_Own_eq, s_ref3_Own_eq]; exact funK_ent hn _ _ _ _ _ _
  · rfl
/-- internal/stringslite.Index -/
def fn_stringslite_Index : Fun := ⟨2, (.seq (.reg [iR 4 (.p .mv) [(.c (.int .i64 (.ofNat 0)))]]) (.keep [0, 1] (.seq (.reg [iR 14 (.p .mv) [(.t 1)], iR 15 (.p .lenS) [(.t 14)], iR 5 (.p .mv) [(.t 15)]]) (.keep [0, 1, 5] (.seq (.block 0 (.seq (.reg [iR 17 (.p .mv) [(.t 5)], iR 18 (.p (.bin .eql)) [(.t 17), (.c (.int .i64 (.ofNat 0)))], iR 19 (.p .mv) [(.t 18)], iG 20 19 false (.p .mv) [(.t 1)], iG 21 19 false (.p .mv) [(.t 0)], iG 22 19 false (.p (.bin .eql)) [(.t 20), (.t 21)], iR 23 (.p .pick) [(.t 19), (.c (.bool true)), (.t 22)], iR 16 (.p .mv) [(.t 23)]]) (.keep [0, 1, 5, 16] (.cond (.t 16) (.seq (.reg [iR 4 (.p .mv) [(.c (.int .i64 (.ofNat 0)))]]) (.keep [4] (.keep [4] .ret))) (.seq (.reg [iR 25 (.p .mv) [(.t 5)], iR 26 (.p (.bin .eql)) [(.t 25), (.c (.int .i64 (.ofNat 1)))], iR 24 (.p .mv) [(.t 26)]]) (.keep [0, 1, 5, 24] (.cond (.t 24) (.seq (.reg [iR 27 (.p .mv) [(.t 0)],
    iR 28 (.p .mv) [(.t 1)], iR 29 (.p .strIndex) [(.t 28), (.c (.int .i64 (.ofNat 0)))], iR 30 (.call 195) [(.t 27), (.t 29)], iR 4 (.p .mv) [(.t 30)]]) (.keep [4] (.keep [4] .ret))) (.seq (.reg [iR 32 (.p .mv) [(.t 5)], iR 33 (.p .mv) [(.t 0)], iR 34 (.p .lenS) [(.t 33)], iR 35 (.p (.bin .geq)) [(.t 32), (.t 34)], iR 31 (.p .mv) [(.t 35)]]) (.keep [0, 1, 5, 31] (.cond (.t 31) (.seq (.reg [iR 4 (.p .mv) [(.c (.int .i64 (.negSucc 0)))]]) (.keep [4] (.keep [4] .ret))) (.seq (.reg [iR 37 (.p .mv) [(.t 5)], iR 38 (.l (.load none)) [(.c (.ptr 1 0))], iR 39 (.p (.bin .leq)) [(.t 37), (.t 38)], iR 40 (.p .mv) [(.t 39)], iG 41 40 true (.p .mv) [(.t 0)], iG 42 40 true (.p .lenS) [(.t 41)], iG 43 40 true (.p (.bin .leq)) [(.t 42), (.c (.int .i64 (.ofNat 64)))], iR 44 (.p .pick) [(.t 40), (.t 43), (.c (.bool false))], iR 36 (.p .mv) [(.t 44)]]) (.keep [0, 1, 5, 36] (.cond (.t 36) (.seq .bad
    (.keep [4] (.keep [4] .ret))) .skip))))))))))))) (.keep [0, 1, 5] (.seq (.reg [iR 48 (.p .mv) [(.t 1)], iR 49 (.p .strIndex) [(.t 48), (.c (.int .i64 (.ofNat 0)))], iR 6 (.p .mv) [(.t 49)]]) (.keep [0, 1, 5, 6] (.seq (.reg [iR 50 (.p .mv) [(.t 1)], iR 51 (.p .strIndex) [(.t 50), (.c (.int .i64 (.ofNat 1)))], iR 7 (.p .mv) [(.t 51)]]) (.keep [0, 1, 5, 6, 7] (.seq (.reg [iR 8 (.p .mv) [(.c (.int .i64 (.ofNat 0)))]]) (.keep [0, 1, 5, 6, 7, 8] (.seq (.reg [iR 52 (.p .mv) [(.t 0)], iR 53 (.p .lenS) [(.t 52)], iR 54 (.p .mv) [(.t 5)], iR 55 (.p (.bin .sub)) [(.t 53), (.t 54)], iR 56 (.p (.bin .add)) [(.t 55), (.c (.int .i64 (.ofNat 1)))], iR 9 (.p .mv) [(.t 56)]]) (.keep [0, 1, 5, 6, 7, 8, 9] (.seq (.reg [iR 10 (.p .mv) [(.c (.int .i64 (.ofNat 0)))]]) (.keep [0, 1, 5, 6, 7, 8, 9, 10] (.seq (.block 1 (.loop (.keep [0, 1, 5, 6, 7, 8, 9, 10] (.seq (.seq (.reg [iR 57 (.p .mv) [(.t 8)],
    iR 58 (.p .mv) [(.t 9)], iR 59 (.p (.bin .lss)) [(.t 57), (.t 58)]]) (.keep [0, 1, 5, 6, 7, 8, 9, 10, 59] (.cond (.t 59) .skip (.keep [] (.exit 1))))) (.keep [0, 1, 5, 6, 7, 8, 9, 10] (.block 2 (.seq (.seq (.reg [iR 60 (.p .mv) [(.t 0)], iR 61 (.p .mv) [(.t 8)], iR 62 (.p .strIndex) [(.t 60), (.t 61)], iR 63 (.p .mv) [(.t 6)], iR 64 (.p (.bin .neq)) [(.t 62), (.t 63)]]) (.keep [0, 1, 5, 6, 7, 8, 9, 10, 64] (.cond (.t 64) (.seq (.reg [iR 65 (.p .mv) [(.t 0)], iR 66 (.p .mv) [(.t 8)], iR 67 (.p (.bin .add)) [(.t 66), (.c (.int .i64 (.ofNat 1)))], iR 68 (.p .mv) [(.t 9)], iR 69 (.p (.strSlice true true)) [(.t 65), (.t 67), (.t 68)], iR 70 (.p .mv) [(.t 6)], iR 71 (.call 195) [(.t 69), (.t 70)], iR 11 (.p .mv) [(.t 71)]]) (.keep [0, 1, 5, 6, 7, 8, 9, 10, 11] (.seq (.seq (.reg [iR 72 (.p .mv) [(.t 11)], iR 73 (.p (.bin .lss)) [(.t 72), (.c (.int .i64 (.ofNat 0)))]])
    (.keep [0, 1, 5, 6, 7, 8, 9, 10, 11, 73] (.cond (.t 73) (.seq (.reg [iR 4 (.p .mv) [(.c (.int .i64 (.negSucc 0)))]]) (.keep [4] (.keep [4] .ret))) .skip))) (.keep [0, 1, 5, 6, 7, 8, 9, 10, 11] (.reg [iR 74 (.p .mv) [(.t 8)], iR 75 (.p .mv) [(.t 11)], iR 76 (.p (.bin .add)) [(.t 75), (.c (.int .i64 (.ofNat 1)))], iR 77 (.p (.bin .add)) [(.t 74), (.t 76)], iR 8 (.p .mv) [(.t 77)]]))))) .skip))) (.keep [0, 1, 5, 6, 7, 8, 9, 10] (.seq (.seq (.reg [iR 78 (.p .mv) [(.t 0)], iR 79 (.p .mv) [(.t 8)], iR 80 (.p (.bin .add)) [(.t 79), (.c (.int .i64 (.ofNat 1)))], iR 81 (.p .strIndex) [(.t 78), (.t 80)], iR 82 (.p .mv) [(.t 7)], iR 83 (.p (.bin .eql)) [(.t 81), (.t 82)], iR 84 (.p .mv) [(.t 83)], iG 85 84 true (.p .mv) [(.t 0)], iG 86 84 true (.p .mv) [(.t 8)], iG 87 84 true (.p .mv) [(.t 8)], iG 88 84 true (.p .mv) [(.t 5)], iG 89 84 true (.p (.bin .add)) [(.t 87), (.t 88)],
    iG 90 84 true (.p (.strSlice true true)) [(.t 85), (.t 86), (.t 89)], iG 91 84 true (.p .mv) [(.t 1)], iG 92 84 true (.p (.bin .eql)) [(.t 90), (.t 91)], iR 93 (.p .pick) [(.t 84), (.t 92), (.c (.bool false))]]) (.keep [0, 1, 5, 6, 7, 8, 9, 10, 93] (.cond (.t 93) (.seq (.reg [iR 94 (.p .mv) [(.t 8)], iR 4 (.p .mv) [(.t 94)]]) (.keep [4] (.keep [4] .ret))) .skip))) (.keep [0, 1, 5, 6, 7, 8, 9, 10] (.seq (.reg [iR 95 (.p .mv) [(.t 8)], iR 96 (.p (.bin .add)) [(.t 95), (.c (.int .i64 (.ofNat 1)))], iR 8 (.p .mv) [(.t 96)]]) (.keep [0, 1, 5, 6, 7, 8, 9, 10] (.seq (.reg [iR 97 (.p .mv) [(.t 10)], iR 98 (.p (.bin .add)) [(.t 97), (.c (.int .i64 (.ofNat 1)))], iR 10 (.p .mv) [(.t 98)]]) (.keep [0, 1, 5, 6, 7, 8, 9, 10] (.seq (.reg [iR 99 (.p .mv) [(.t 5)], iR 100 (.l (.load none)) [(.c (.ptr 1 0))], iR 101 (.p (.bin .leq)) [(.t 99), (.t 100)], iR 102 (.p .mv) [(.t 101)],
    iG 103 102 true (.p .mv) [(.t 10)], iG 104 102 true (.p .mv) [(.t 8)], iG 105 102 true (.call 243) [(.t 104)], iG 106 102 true (.p (.bin .gtr)) [(.t 103), (.t 105)], iR 107 (.p .pick) [(.t 102), (.t 106), (.c (.bool false))]]) (.keep [0, 1, 5, 6, 7, 8, 9, 10, 107] (.cond (.t 107) (.seq .bad (.keep [8, 12] (.seq (.seq (.reg [iR 113 (.p .mv) [(.t 12)], iR 114 (.p (.bin .geq)) [(.t 113), (.c (.int .i64 (.ofNat 0)))]]) (.keep [8, 12, 114] (.cond (.t 114) (.seq (.reg [iR 115 (.p .mv) [(.t 12)], iR 116 (.p .mv) [(.t 8)], iR 117 (.p (.bin .add)) [(.t 115), (.t 116)], iR 4 (.p .mv) [(.t 117)]]) (.keep [4] (.keep [4] .ret))) .skip))) (.keep [] (.seq (.reg [iR 4 (.p .mv) [(.c (.int .i64 (.negSucc 0)))]]) (.keep [4] (.keep [4] .ret))))))) (.seq (.reg [iR 118 (.p .mv) [(.t 5)], iR 119 (.l (.load none)) [(.c (.ptr 1 0))], iR 120 (.p (.bin .gtr)) [(.t 118), (.t 119)],
    iR 121 (.p .mv) [(.t 120)], iG 122 121 true (.p .mv) [(.t 10)], iG 123 121 true (.p .mv) [(.t 8)], iG 124 121 true (.p (.bin .shr)) [(.t 123), (.c (.int .u64 (.ofNat 4)))], iG 125 121 true (.p (.bin .add)) [(.c (.int .i64 (.ofNat 4))), (.t 124)], iG 126 121 true (.p (.bin .geq)) [(.t 122), (.t 125)], iR 127 (.p .pick) [(.t 121), (.t 126), (.c (.bool false))], iR 128 (.p .mv) [(.t 127)], iG 129 128 true (.p .mv) [(.t 8)], iG 130 128 true (.p .mv) [(.t 9)], iG 131 128 true (.p (.bin .lss)) [(.t 129), (.t 130)], iR 132 (.p .pick) [(.t 128), (.t 131), (.c (.bool false))]]) (.keep [0, 1, 5, 6, 7, 8, 9, 10, 132] (.cond (.t 132) (.seq (.reg [iR 133 (.p .mv) [(.t 0)], iR 134 (.p .mv) [(.t 8)], iR 135 (.p (.strSlice true false)) [(.t 133), (.t 134)], iR 136 (.p .mv) [(.t 1)], iR 137 (.call 244) [(.t 135), (.t 136)], iR 13 (.p .mv) [(.t 137)]])
    (.keep [8, 13] (.seq (.seq (.reg [iR 138 (.p .mv) [(.t 13)], iR 139 (.p (.bin .lss)) [(.t 138), (.c (.int .i64 (.ofNat 0)))]]) (.keep [8, 13, 139] (.cond (.t 139) (.seq (.reg [iR 4 (.p .mv) [(.c (.int .i64 (.negSucc 0)))]]) (.keep [4] (.keep [4] .ret))) .skip))) (.keep [8, 13] (.seq (.reg [iR 140 (.p .mv) [(.t 8)], iR 141 (.p .mv) [(.t 13)], iR 142 (.p (.bin .add)) [(.t 140), (.t 141)], iR 4 (.p .mv) [(.t 142)]]) (.keep [4] (.keep [4] .ret))))))) .skip)))))))))))))))))))) (.keep [] (.seq (.reg [iR 4 (.p .mv) [(.c (.int .i64 (.negSucc 0)))]]) (.keep [4] (.keep [4] .ret))))))))))))))))))))), [(.t 4)]⟩
def s_stringslite_Index_j0 (call : CallK) (N : Nat) (q : KV) (st : St) (τ : Tape) : Ans := match st with
  | ⟨fr, H⟩ => q (.int .i64 (.negSucc 0)) H τ
def s_stringslite_Index_j2 (call : CallK) (N : Nat) (k : KC) (st : St) (τ : Tape) : Ans := match st with
  | ⟨fr, H⟩ => getK fr 0 fun t0 => getK fr 1 fun t1 => getK fr 5 fun t5 => getK fr 6 fun t6 => getK fr 7 fun t7 => getK fr 8 fun t8 => getK fr 9 fun t9 => getK fr 10 fun t10 => binK .add t8 (.int .i64 (.ofNat 1)) fun v39 => someK (pStrIndex [t0, v39]) fun v40 => binK .eql v40 t7 fun v41 => gK v41 true (fun q' => q' t0 H τ) H τ fun v42 H43 τ44 => gK v41 true (fun q' => q' t8 H43 τ44) H43 τ44 fun v45 H46 τ47 => gK v41 true (fun q' => q' t8 H46 τ47) H46 τ47 fun v48 H49 τ50 => gK v41 true (fun q' => q' t5 H49 τ50) H49 τ50 fun v51 H52 τ53 => gK v41 true (fun q' => binK .add v48 v51 fun v => q' v H52 τ53) H52 τ53 fun v54 H55 τ56 => gK v41 true (fun q' => someK (pStrSlice true true [v42, v45, v54]) fun v => q' v H55 τ56) H55 τ56 fun v57 H58 τ59 => gK v41 true (fun q' => q' t1 H58 τ59) H58 τ59 fun v60 H61 τ62 =>
    gK v41 true (fun q' => binK .eql v57 v60 fun v => q' v H61 τ62) H61 τ62 fun v63 H64 τ65 => someK (pPick [v41, v63, (.bool false)]) fun v66 => condK v66 (k .ret ⟨(T.set .leaf 4 t8), H64⟩ τ65) (binK .add t8 (.int .i64 (.ofNat 1)) fun v67 => binK .add t10 (.int .i64 (.ofNat 1)) fun v68 => someK (lLoad1 [(.ptr 1 0)] H64) fun v69 => binK .leq t5 v69 fun v70 => gK v70 true (fun q' => q' v68 H64 τ65) H64 τ65 fun v71 H72 τ73 => gK v70 true (fun q' => q' v67 H72 τ73) H72 τ73 fun v74 H75 τ76 => gK v70 true (fun q' => call f_bytealg_Cutover [v74] H75 τ76 q') H75 τ76 fun v77 H78 τ79 => gK v70 true (fun q' => binK .gtr v71 v77 fun v => q' v H78 τ79) H78 τ79 fun v80 H81 τ82 => someK (pPick [v70, v80, (.bool false)]) fun v83 => condK v83 (none) (someK (lLoad1 [(.ptr 1 0)] H81) fun v84 => binK .gtr t5 v84 fun v85 => gK v85 true (fun q' => q' v68 H81 τ82) H81 τ82 fun v86 H87 τ88 =>
    gK v85 true (fun q' => q' v67 H87 τ88) H87 τ88 fun v89 H90 τ91 => gK v85 true (fun q' => binK .shr v89 (.int .u64 (.ofNat 4)) fun v => q' v H90 τ91) H90 τ91 fun v92 H93 τ94 => gK v85 true (fun q' => binK .add (.int .i64 (.ofNat 4)) v92 fun v => q' v H93 τ94) H93 τ94 fun v95 H96 τ97 => gK v85 true (fun q' => binK .geq v86 v95 fun v => q' v H96 τ97) H96 τ97 fun v98 H99 τ100 => someK (pPick [v85, v98, (.bool false)]) fun v101 => gK v101 true (fun q' => q' v67 H99 τ100) H99 τ100 fun v102 H103 τ104 => gK v101 true (fun q' => q' t9 H103 τ104) H103 τ104 fun v105 H106 τ107 => gK v101 true (fun q' => binK .lss v102 v105 fun v => q' v H106 τ107) H106 τ107 fun v108 H109 τ110 => someK (pPick [v101, v108, (.bool false)]) fun v111 => condK v111 (someK (pStrSlice true false [t0, v67]) fun v112 => call f_bytealg_IndexRabinKarp_string [v112, t1] H109 τ110 fun v113 H114 τ115 =>
    binK .lss v113 (.int .i64 (.ofNat 0)) fun v116 => condK v116 (k .ret ⟨(T.set .leaf 4 (.int .i64 (.negSucc 0))), H114⟩ τ115) (binK .add v67 v113 fun v117 => k .ret ⟨(T.set .leaf 4 v117), H114⟩ τ115)) (k .normal ⟨(T.set (T.set (T.set (T.set (T.set (T.set (T.set (T.set (T.set .leaf 0 t0) 1 t1) 5 t5) 6 t6) 7 t7) 8 v67) 9 t9) 10 v68) 132 v111), H109⟩ τ110)))
def s_stringslite_Index_l1 (call : CallK) (N : Nat) (st : St) (τ : Tape) (k : KC) : Ans := match st with
  | ⟨fr, H⟩ => getK fr 0 fun t0 => getK fr 1 fun t1 => getK fr 5 fun t5 => getK fr 6 fun t6 => getK fr 7 fun t7 => getK fr 8 fun t8 => getK fr 9 fun t9 => getK fr 10 fun t10 => binK .lss t8 t9 fun v36 => condK v36 (someK (pStrIndex [t0, t8]) fun v37 => binK .neq v37 t6 fun v38 => condK v38 (binK .add t8 (.int .i64 (.ofNat 1)) fun v118 => someK (pStrSlice true true [t0, v118, t9]) fun v119 => call f_stringslite_IndexByte [v119, t6] H τ fun v120 H121 τ122 => binK .lss v120 (.int .i64 (.ofNat 0)) fun v123 => condK v123 (k .ret ⟨(T.set .leaf 4 (.int .i64 (.negSucc 0))), H121⟩ τ122) (binK .add v120 (.int .i64 (.ofNat 1)) fun v124 => binK .add t8 v124 fun v125 =>
    s_stringslite_Index_j2 call N k ⟨(T.set (T.set (T.set (T.set (T.set (T.set (T.set (T.set (T.set (T.set (T.set (T.set (T.set (T.set .leaf 0 t0) 1 t1) 5 t5) 6 t6) 7 t7) 8 t8) 9 t9) 10 t10) 11 v120) 74 t8) 75 v120) 76 v124) 77 v125) 8 v125), H121⟩ τ122)) (s_stringslite_Index_j2 call N k ⟨(T.set (T.set (T.set (T.set (T.set (T.set (T.set (T.set (T.set .leaf 0 t0) 1 t1) 5 t5) 6 t6) 7 t7) 8 t8) 9 t9) 10 t10) 64 v38), H⟩ τ)) (k (.exit 1) ⟨.leaf, H⟩ τ)
def s_stringslite_Index (call : CallK) (N : Nat) (a0 a1 : V) (H : Heap) (τ : Tape) (q : KV) : Ans := someK (pLenS [a1]) fun v0 => binK .eql v0 (.int .i64 (.ofNat 0)) fun v1 => gK v1 false (fun q' => q' a1 H τ) H τ fun v2 H3 τ4 => gK v1 false (fun q' => q' a0 H3 τ4) H3 τ4 fun v5 H6 τ7 => gK v1 false (fun q' => binK .eql v2 v5 fun v => q' v H6 τ7) H6 τ7 fun v8 H9 τ10 => someK (pPick [v1, (.bool true), v8]) fun v11 => condK v11 (q (.int .i64 (.ofNat 0)) H9 τ10) (binK .eql v0 (.int .i64 (.ofNat 1)) fun v12 => condK v12 (someK (pStrIndex [a1, (.int .i64 (.ofNat 0))]) fun v13 => call f_stringslite_IndexByte [a0, v13] H9 τ10 fun v14 H15 τ16 => q v14 H15 τ16) (someK (pLenS [a0]) fun v17 => binK .geq v0 v17 fun v18 => condK v18 (q (.int .i64 (.negSucc 0)) H9 τ10) (someK (lLoad1 [(.ptr 1 0)] H9) fun v19 => binK .leq v0 v19 fun v20 => gK v20 true (fun q' => q' a0 H9 τ10) H9 τ10 fun v21 H22 τ23 =>
    gK v20 true (fun q' => someK (pLenS [v21]) fun v => q' v H22 τ23) H22 τ23 fun v24 H25 τ26 => gK v20 true (fun q' => binK .leq v24 (.int .i64 (.ofNat 64)) fun v => q' v H25 τ26) H25 τ26 fun v27 H28 τ29 => someK (pPick [v20, v27, (.bool false)]) fun v30 => condK v30 (none) (someK (pStrIndex [a1, (.int .i64 (.ofNat 0))]) fun v31 => someK (pStrIndex [a1, (.int .i64 (.ofNat 1))]) fun v32 => someK (pLenS [a0]) fun v33 => binK .sub v33 v0 fun v34 => binK .add v34 (.int .i64 (.ofNat 1)) fun v35 => loopK (s_stringslite_Index_l1 call N) N ⟨(T.set (T.set (T.set (T.set (T.set (T.set (T.set (T.set .leaf 0 a0) 1 a1) 5 v0) 6 v31) 7 v32) 8 (.int .i64 (.ofNat 0))) 9 v35) 10 (.int .i64 (.ofNat 0))), H28⟩ τ29 (blockK 1 (seqK (s_stringslite_Index_j0 call N q) (endK [(.t 4)] q)))))))
theorem s_stringslite_Index_eq (call : CallK) (N : Nat) (a0 a1 : V) (H : Heap) (τ : Tape) (q : KV) : s_stringslite_Index call N a0 a1 H τ q = funK call N fn_stringslite_Index [a0, a1] H τ q := by kernel_rfl
def e_stringslite_Index (call : CallK) (N : Nat) (vs : List V) (H : Heap) (τ : Tape) (q : KV) : Ans := match vs with | [a0, a1] => s_stringslite_Index call N a0 a1 H τ q | _ => none
theorem e_stringslite_Index_ok : EntOk fn_stringslite_Index e_stringslite_Index := by
  intro call N vs H τ q r h
  unfold e_stringslite_Index at h
  split at h
  · rw [s_stringslite_Index_eq] at h; exact h
  · cases h
theorem e_stringslite_Index_nat : EntNat e_stringslite_Index := by
  intro c hn N vs H τ q
  unfold e_stringslite_Index
  split
  · rw [s_stringslite_Index_eq, s_stringslite_Index_eq]; exact funK_ent hn _ _ _ _ _ _
  · rfl
/-- internal/stringslite.CutPrefix -/
def fn_stringslite_CutPrefix : Fun := ⟨2, (.seq (.reg [iR 4 (.p .mv) [(.c (.str []))], iR 5 (.p .mv) [(.c (.bool false))]]) (.keep [0, 1] (.seq (.seq (.reg [iR 6 (.p .mv) [(.t 0)], iR 7 (.p .mv) [(.t 1)], iR 8 (.call 203) [(.t 6), (.t 7)], iR 9 (.p (.un .not)) [(.t 8)]]) (.keep [0, 1, 9] (.cond (.t 9) (.seq (.reg [iR 10 (.p .mv) [(.t 0)], iR 4 (.p .mv) [(.t 10)], iR 5 (.p .mv) [(.c (.bool false))]]) (.keep [4, 5] (.keep [4, 5] .ret))) .skip))) (.keep [0, 1] (.seq (.reg [iR 11 (.p .mv) [(.t 0)], iR 12 (.p .mv) [(.t 1)], iR 13 (.p .lenS) [(.t 12)], iR 14 (.p (.strSlice true false)) [(.t 11), (.t 13)], iR 4 (.p .mv) [(.t 14)], iR 5 (.p .mv) [(.c (.bool true))]]) (.keep [4, 5] (.keep [4, 5] .ret))))))), [(.t 4), (.t 5)]⟩
def s_stringslite_CutPrefix (call : CallK) (N : Nat) (a0 a1 : V) (H : Heap) (τ : Tape) (q : KV) : Ans := call f_stringslite_HasPrefix [a0, a1] H τ fun v0 H1 τ2 => unK .not v0 fun v3 => condK v3 (q (.tup [a0, (.bool false)]) H1 τ2) (someK (pLenS [a1]) fun v4 => someK (pStrSlice true false [a0, v4]) fun v5 => q (.tup [v5, (.bool true)]) H1 τ2)
theorem s_stringslite_CutPrefix_eq (call : CallK) (N : Nat) (a0 a1 : V) (H : Heap) (τ : Tape) (q : KV) : s_stringslite_CutPrefix call N a0 a1 H τ q = funK call N fn_stringslite_CutPrefix [a0, a1] H τ q := by kernel_rfl
def e_stringslite_CutPrefix (call : CallK) (N : Nat) (vs : List V) (H : Heap) (τ : Tape) (q : KV) : Ans := match vs with | [a0, a1] => s_stringslite_CutPrefix call N a0 a1 H τ q | _ => none
theorem e_stringslite_CutPrefix_ok : EntOk fn_stringslite_CutPrefix e_stringslite_CutPrefix := by
  intro call N vs H τ q r h
  unfold e_stringslite_CutPrefix at h
  split at h
  · rw [s_stringslite_CutPrefix_eq] at h; exact h
  · cases h
theorem e_stringslite_CutPrefix_nat : EntNat e_stringslite_CutPrefix := by
  intro c hn N vs H τ q
  unfold e_stringslite_CutPrefix
  split
  · rw [s_stringslite_CutPrefix_eq, s_stringslite_CutPrefix_eq]; exact funK_ent hn _ _ _ _ _ _
  · rfl
/-- internal/stringslite.HasPrefix -/
def fn_stringslite_HasPrefix : Fun := ⟨2, (.seq (.reg [iR 4 (.p .mv) [(.c (.bool false))]]) (.keep [0, 1] (.seq (.reg [iR 5 (.p .mv) [(.t 0)], iR 6 (.p .lenS) [(.t 5)], iR 7 (.p .mv) [(.t 1)], iR 8 (.p .lenS) [(.t 7)], iR 9 (.p (.bin .geq)) [(.t 6), (.t 8)], iR 10 (.p .mv) [(.t 9)], iG 11 10 true (.p .mv) [(.t 0)], iG 12 10 true (.p .mv) [(.t 1)], iG 13 10 true (.p .lenS) [(.t 12)], iG 14 10 true (.p (.strSlice false true)) [(.t 11), (.t 13)], iG 15 10 true (.p .mv) [(.t 1)], iG 16 10 true (.p (.bin .eql)) [(.t 14), (.t 15)], iR 17 (.p .pick) [(.t 10), (.t 16), (.c (.bool false))], iR 4 (.p .mv) [(.t 17)]]) (.keep [4] (.keep [4] .ret))))), [(.t 4)]⟩
def s_stringslite_HasPrefix (call : CallK) (N : Nat) (a0 a1 : V) (H : Heap) (τ : Tape) (q : KV) : Ans := someK (pLenS [a0]) fun v0 => someK (pLenS [a1]) fun v1 => binK .geq v0 v1 fun v2 => gK v2 true (fun q' => q' a0 H τ) H τ fun v3 H4 τ5 => gK v2 true (fun q' => q' a1 H4 τ5) H4 τ5 fun v6 H7 τ8 => gK v2 true (fun q' => someK (pLenS [v6]) fun v => q' v H7 τ8) H7 τ8 fun v9 H10 τ11 => gK v2 true (fun q' => someK (pStrSlice false true [v3, v9]) fun v => q' v H10 τ11) H10 τ11 fun v12 H13 τ14 => gK v2 true (fun q' => q' a1 H13 τ14) H13 τ14 fun v15 H16 τ17 => gK v2 true (fun q' => binK .eql v12 v15 fun v => q' v H16 τ17) H16 τ17 fun v18 H19 τ20 => someK (pPick [v2, v18, (.bool false)]) fun v21 => q v21 H19 τ20
theorem s_stringslite_HasPrefix_eq (call : CallK) (N : Nat) (a0 a1 : V) (H : Heap) (τ : Tape) (q : KV) : s_stringslite_HasPrefix call N a0 a1 H τ q = funK call N fn_stringslite_HasPrefix [a0, a1] H τ q := by kernel_rfl
def e_stringslite_HasPrefix (call : CallK) (N : Nat) (vs : List V) (H : Heap) (τ : Tape) (q : KV) : Ans := match vs with | [a0, a1] => s_stringslite_HasPrefix call N a0 a1 H τ q | _ => none
theorem e_stringslite_HasPrefix_ok : EntOk fn_stringslite_HasPrefix e_stringslite_HasPrefix := by
  intro call N vs H τ q r h
  unfold e_stringslite_HasPrefix at h
  split at h
  · rw [s_stringslite_HasPrefix_eq] at h; exact h
  · cases h
theorem e_stringslite_HasPrefix_nat : EntNat e_stringslite_HasPrefix := by
  intro c hn N vs H τ q
  unfold e_stringslite_HasPrefix
  split
  · rw [s_stringslite_HasPrefix_eq, s_stringslite_HasPrefix_eq]; exact funK_ent hn _ _ _ _ _ _
  · rfl
/-- unicode/utf8.DecodeRuneInString -/
def fn_utf8_DecodeRuneInString : Fun := ⟨1, (.seq (.reg [iR 2 (.p .mv) [(.c (.int .i32 (.ofNat 0)))], iR 3 (.p .mv) [(.c (.int .i64 (.ofNat 0)))]]) (.keep [0] (.seq (.seq (.reg [iR 4 (.p .mv) [(.t 0)], iR 5 (.p (.bin .neq)) [(.t 4), (.c (.str []))], iR 6 (.p .mv) [(.t 5)], iG 7 6 true (.p .mv) [(.t 0)], iG 8 6 true (.p .strIndex) [(.t 7), (.c (.int .i64 (.ofNat 0)))], iG 9 6 true (.p (.bin .lss)) [(.t 8), (.c (.int .u8 (.ofNat 128)))], iR 10 (.p .pick) [(.t 6), (.t 9), (.c (.bool false))]]) (.keep [0, 10] (.cond (.t 10) (.seq (.reg [iR 11 (.p .mv) [(.t 0)], iR 12 (.p .strIndex) [(.t 11), (.c (.int .i64 (.ofNat 0)))], iR 13 (.p (.toInt .i32)) [(.t 12)], iR 2 (.p .mv) [(.t 13)], iR 3 (.p .mv) [(.c (.int .i64 (.ofNat 1)))]]) (.keep [2, 3] (.keep [2, 3] .ret))) (.reg [iR 15 (.p .mv) [(.t 0)], iR 16 (.call 252) [(.t 15)], iR 14 (.p .mv) [(.t 16)], iR 17 (.p (.extract 0)) [(.t 14)],
    iR 18 (.p (.extract 1)) [(.t 14)], iR 2 (.p .mv) [(.t 17)], iR 3 (.p .mv) [(.t 18)]])))) (.keep [2, 3] (.keep [2, 3] .ret))))), [(.t 2), (.t 3)]⟩
def s_utf8_DecodeRuneInString (call : CallK) (N : Nat) (a0 : V) (H : Heap) (τ : Tape) (q : KV) : Ans := binK .neq a0 (.str []) fun v0 => gK v0 true (fun q' => q' a0 H τ) H τ fun v1 H2 τ3 => gK v0 true (fun q' => someK (pStrIndex [v1, (.int .i64 (.ofNat 0))]) fun v => q' v H2 τ3) H2 τ3 fun v4 H5 τ6 => gK v0 true (fun q' => binK .lss v4 (.int .u8 (.ofNat 128)) fun v => q' v H5 τ6) H5 τ6 fun v7 H8 τ9 => someK (pPick [v0, v7, (.bool false)]) fun v10 => condK v10 (someK (pStrIndex [a0, (.int .i64 (.ofNat 0))]) fun v11 => toIntK .i32 v11 fun v12 => q (.tup [v12, (.int .i64 (.ofNat 1))]) H8 τ9) (call f_utf8_decodeRuneInStringSlow [a0] H8 τ9 fun v13 H14 τ15 => someK (pExtract 0 [v13]) fun v16 => someK (pExtract 1 [v13]) fun v17 => q (.tup [v16, v17]) H14 τ15)
theorem s_utf8_DecodeRuneInString_eq (call : CallK) (N : Nat) (a0 : V) (H : Heap) (τ : Tape) (q : KV) : s_utf8_DecodeRuneInString call N a0 H τ q = funK call N fn_utf8_DecodeRuneInString [a0] H τ q := by kernel_rfl
def e_utf8_DecodeRuneInString (call : CallK) (N : Nat) (vs : List V) (H : Heap) (τ : Tape) (q : KV) : Ans := match vs with | [a0] => s_utf8_DecodeRuneInString call N a0 H τ q | _ => none
theorem e_utf8_DecodeRuneInString_ok : EntOk fn_utf8_DecodeRuneInString e_utf8_DecodeRuneInString := by
  intro call N vs H τ q r h
  unfold e_utf8_DecodeRuneInString at h
  split at h
  · rw [s_utf8_DecodeRuneInString_eq] at h; exact h
  · cases h
theorem e_utf8_DecodeRuneInString_nat : EntNat e_utf8_DecodeRuneInString := by
  intro c hn N vs H τ q
  unfold e_utf8_DecodeRuneInString
  split
  · rw [s_utf8_DecodeRuneInString_eq, s_utf8_DecodeRuneInString_eq]; exact funK_ent hn _ _ _ _ _ _
  · rfl
/-- math/bits.Len64 -/
def fn_bits_Len64 : Fun := ⟨1, (.seq (.reg [iR 2 (.p .mv) [(.c (.int .i64 (.ofNat 0)))]]) (.keep [0, 2] (.seq (.seq (.reg [iR 3 (.p .mv) [(.t 0)], iR 4 (.p (.bin .geq)) [(.t 3), (.c (.int .u64 (.ofNat 4294967296)))]]) (.keep [0, 2, 4] (.cond (.t 4) (.seq (.reg [iR 5 (.p .mv) [(.t 0)], iR 6 (.p (.bin .shr)) [(.t 5), (.c (.int .u64 (.ofNat 32)))], iR 0 (.p .mv) [(.t 6)]]) (.keep [0] (.reg [iR 2 (.p .mv) [(.c (.int .i64 (.ofNat 32)))]]))) .skip))) (.keep [0, 2] (.seq (.seq (.reg [iR 7 (.p .mv) [(.t 0)], iR 8 (.p (.bin .geq)) [(.t 7), (.c (.int .u64 (.ofNat 65536)))]]) (.keep [0, 2, 8] (.cond (.t 8) (.seq (.reg [iR 9 (.p .mv) [(.t 0)], iR 10 (.p (.bin .shr)) [(.t 9), (.c (.int .u64 (.ofNat 16)))], iR 0 (.p .mv) [(.t 10)]]) (.keep [0, 2] (.reg [iR 11 (.p .mv) [(.t 2)], iR 12 (.p (.bin .add)) [(.t 11), (.c (.int .i64 (.ofNat 16)))], iR 2 (.p .mv) [(.t 12)]]))) .skip)))
    (.keep [0, 2] (.seq (.seq (.reg [iR 13 (.p .mv) [(.t 0)], iR 14 (.p (.bin .geq)) [(.t 13), (.c (.int .u64 (.ofNat 256)))]]) (.keep [0, 2, 14] (.cond (.t 14) (.seq (.reg [iR 15 (.p .mv) [(.t 0)], iR 16 (.p (.bin .shr)) [(.t 15), (.c (.int .u64 (.ofNat 8)))], iR 0 (.p .mv) [(.t 16)]]) (.keep [0, 2] (.reg [iR 17 (.p .mv) [(.t 2)], iR 18 (.p (.bin .add)) [(.t 17), (.c (.int .i64 (.ofNat 8)))], iR 2 (.p .mv) [(.t 18)]]))) .skip))) (.keep [0, 2] (.seq (.reg [iR 19 (.p .mv) [(.t 2)], iR 20 (.p .mv) [(.t 0)], iR 21 (.p (.toInt .u8)) [(.t 20)],
    iR 22 (.p .strIndex) [(.c (.str (bs [0, 1, 2, 2, 3, 3, 3, 3, 4, 4, 4, 4, 4, 4, 4, 4, 5, 5, 5, 5, 5, 5, 5, 5, 5, 5, 5, 5, 5, 5, 5, 5, 6, 6, 6, 6, 6, 6, 6, 6, 6, 6, 6, 6, 6, 6, 6, 6, 6, 6, 6, 6, 6, 6, 6, 6, 6, 6, 6, 6, 6, 6, 6, 6, 7, 7, 7, 7, 7, 7, 7, 7, 7, 7, 7, 7, 7, 7, 7, 7, 7, 7, 7, 7, 7, 7, 7, 7, 7, 7, 7, 7, 7, 7, 7, 7, 7, 7, 7, 7, 7, 7, 7, 7, 7, 7, 7, 7, 7, 7, 7, 7, 7, 7, 7, 7, 7, 7, 7, 7, 7, 7, 7, 7, 7, 7, 7, 7, 8, 8, 8, 8, 8, 8, 8, 8, 8, 8, 8, 8, 8, 8, 8, 8, 8, 8, 8, 8, 8, 8, 8, 8, 8, 8, 8, 8, 8, 8, 8, 8, 8, 8, 8, 8, 8, 8, 8, 8, 8, 8, 8, 8, 8, 8, 8, 8, 8, 8, 8, 8, 8, 8, 8, 8, 8, 8, 8, 8, 8, 8, 8, 8, 8, 8, 8, 8, 8, 8, 8, 8, 8, 8, 8, 8, 8, 8, 8, 8, 8, 8, 8, 8, 8, 8, 8, 8, 8, 8, 8, 8, 8, 8, 8, 8, 8, 8, 8, 8, 8, 8, 8, 8, 8, 8, 8, 8, 8, 8, 8, 8, 8, 8, 8, 8, 8, 8, 8, 8, 8, 8, 8, 8, 8, 8, 8, 8]))), (.t 21)], iR 23 (.p (.toInt .i64)) [(.t 22)],
    iR 24 (.p (.bin .add)) [(.t 19), (.t 23)], iR 2 (.p .mv) [(.t 24)]]) (.keep [2] (.keep [2] .ret))))))))))), [(.t 2)]⟩
def s_bits_Len64_j2 (call : CallK) (N : Nat) (q : KV) (st : St) (τ : Tape) : Ans := match st with
  | ⟨fr, H⟩ => getK fr 0 fun t0 => getK fr 2 fun t2 => toIntK .u8 t0 fun v3 => someK (pStrIndex [(.str (bs [0, 1, 2, 2, 3, 3, 3, 3, 4, 4, 4, 4, 4, 4, 4, 4, 5, 5, 5, 5, 5, 5, 5, 5, 5, 5, 5, 5, 5, 5, 5, 5, 6, 6, 6, 6, 6, 6, 6, 6, 6, 6, 6, 6, 6, 6, 6, 6, 6, 6, 6, 6, 6, 6, 6, 6, 6, 6, 6, 6, 6, 6, 6, 6, 7, 7, 7, 7, 7, 7, 7, 7, 7, 7, 7, 7, 7, 7, 7, 7, 7, 7, 7, 7, 7, 7, 7, 7, 7, 7, 7, 7, 7, 7, 7, 7, 7, 7, 7, 7, 7, 7, 7, 7, 7, 7, 7, 7, 7, 7, 7, 7, 7, 7, 7, 7, 7, 7, 7, 7, 7, 7, 7, 7, 7, 7, 7, 7, 8, 8, 8, 8, 8, 8, 8, 8, 8, 8, 8, 8, 8, 8, 8, 8, 8, 8, 8, 8, 8, 8, 8, 8, 8, 8, 8, 8, 8, 8, 8, 8, 8, 8, 8, 8, 8, 8, 8, 8, 8, 8, 8, 8, 8, 8, 8, 8, 8, 8, 8, 8, 8, 8, 8, 8, 8, 8, 8, 8, 8, 8, 8, 8, 8, 8, 8, 8, 8, 8, 8, 8, 8, 8, 8, 8, 8, 8, 8, 8, 8, 8, 8, 8, 8, 8, 8, 8, 8, 8, 8, 8, 8, 8, 8, 8, 8, 8, 8, 8, 8, 8, 8, 8, 8, 8, 8, 8, 8, 8, 8, 8, 8, 8, 8, 8, 8, 8, 8, 8, 8, 8, 8, 8, 8, 8, 8, 8])), v3]) fun v4 =>
    toIntK .i64 v4 fun v5 => binK .add t2 v5 fun v6 => q v6 H τ
def s_bits_Len64_j1 (call : CallK) (N : Nat) (q : KV) (st : St) (τ : Tape) : Ans := match st with
  | ⟨fr, H⟩ => getK fr 0 fun t0 => getK fr 2 fun t2 => binK .geq t0 (.int .u64 (.ofNat 256)) fun v2 => condK v2 (binK .shr t0 (.int .u64 (.ofNat 8)) fun v7 => binK .add t2 (.int .i64 (.ofNat 8)) fun v8 => s_bits_Len64_j2 call N q ⟨(T.set (T.set (T.set (T.set (T.set .leaf 0 v7) 2 t2) 17 t2) 18 v8) 2 v8), H⟩ τ) (s_bits_Len64_j2 call N q ⟨(T.set (T.set (T.set .leaf 0 t0) 2 t2) 14 v2), H⟩ τ)
def s_bits_Len64_j0 (call : CallK) (N : Nat) (q : KV) (st : St) (τ : Tape) : Ans := match st with
  | ⟨fr, H⟩ => getK fr 0 fun t0 => getK fr 2 fun t2 => binK .geq t0 (.int .u64 (.ofNat 65536)) fun v1 => condK v1 (binK .shr t0 (.int .u64 (.ofNat 16)) fun v9 => binK .add t2 (.int .i64 (.ofNat 16)) fun v10 => s_bits_Len64_j1 call N q ⟨(T.set (T.set (T.set (T.set (T.set .leaf 0 v9) 2 t2) 11 t2) 12 v10) 2 v10), H⟩ τ) (s_bits_Len64_j1 call N q ⟨(T.set (T.set (T.set .leaf 0 t0) 2 t2) 8 v1), H⟩ τ)
def s_bits_Len64 (call : CallK) (N : Nat) (a0 : V) (H : Heap) (τ : Tape) (q : KV) : Ans := binK .geq a0 (.int .u64 (.ofNat 4294967296)) fun v0 => condK v0 (binK .shr a0 (.int .u64 (.ofNat 32)) fun v11 => s_bits_Len64_j0 call N q ⟨(T.set (T.set .leaf 0 v11) 2 (.int .i64 (.ofNat 32))), H⟩ τ) (s_bits_Len64_j0 call N q ⟨(T.set (T.set (T.set .leaf 0 a0) 2 (.int .i64 (.ofNat 0))) 4 v0), H⟩ τ)
theorem s_bits_Len64_eq (call : CallK) (N : Nat) (a0 : V) (H : Heap) (τ : Tape) (q : KV) : s_bits_Len64 call N a0 H τ q = funK call N fn_bits_Len64 [a0] H τ q := by kernel_rfl
def e_bits_Len64 (call : CallK) (N : Nat) (vs : List V) (H : Heap) (τ : Tape) (q : KV) : Ans := match vs with | [a0] => s_bits_Len64 call N a0 H τ q | _ => none
theorem e_bits_Len64_ok : EntOk fn_bits_Len64 e_bits_Len64 := by
  intro call N vs H τ q r h
  unfold e_bits_Len64 at h
  split at h
  · rw [s_bits_Len64_eq] at h; exact h
  · cases h
theorem e_bits_Len64_nat : EntNat e_bits_Len64 := by
  intro c hn N vs H τ q
  unfold e_bits_Len64
  split
  · rw [s_bits_Len64_eq, s_bits_Len64_eq]; exact funK_ent hn _ _ _ _ _ _
  · rfl
/-- internal/strconv.log10Pow2 -/
def fn_strconv_log10Pow2 : Fun := ⟨1, (.seq (.reg [iR 2 (.p .mv) [(.c (.int .i64 (.ofNat 0)))]]) (.keep [0] (.seq (.reg [iR 3 (.p .mv) [(.t 0)], iR 4 (.p (.bin .mul)) [(.t 3), (.c (.int .i64 (.ofNat 78913)))], iR 5 (.p (.bin .shr)) [(.t 4), (.c (.int .u64 (.ofNat 18)))], iR 2 (.p .mv) [(.t 5)]]) (.keep [2] (.keep [2] .ret))))), [(.t 2)]⟩
def s_strconv_log10Pow2 (call : CallK) (N : Nat) (a0 : V) (H : Heap) (τ : Tape) (q : KV) : Ans := binK .mul a0 (.int .i64 (.ofNat 78913)) fun v0 => binK .shr v0 (.int .u64 (.ofNat 18)) fun v1 => q v1 H τ
theorem s_strconv_log10Pow2_eq (call : CallK) (N : Nat) (a0 : V) (H : Heap) (τ : Tape) (q : KV) : s_strconv_log10Pow2 call N a0 H τ q = funK call N fn_strconv_log10Pow2 [a0] H τ q := by kernel_rfl
def e_strconv_log10Pow2 (call : CallK) (N : Nat) (vs : List V) (H : Heap) (τ : Tape) (q : KV) : Ans := match vs with | [a0] => s_strconv_log10Pow2 call N a0 H τ q | _ => none
theorem e_strconv_log10Pow2_ok : EntOk fn_strconv_log10Pow2 e_strconv_log10Pow2 := by
  intro call N vs H τ q r h
  unfold e_strconv_log10Pow2 at h
  split at h
  · rw [s_strconv_log10Pow2_eq] at h; exact h
  · cases h
theorem e_strconv_log10Pow2_nat : EntNat e_strconv_log10Pow2 := by
  intro c hn N vs H τ q
  unfold e_strconv_log10Pow2
  split
  · rw [s_strconv_log10Pow2_eq, s_strconv_log10Pow2_eq]; exact funK_ent hn _ _ _ _ _ _
  · rfl
/-- internal/strconv.bool2[int] -/
def fn_strconv_bool2_int : Fun := ⟨1, (.seq (.reg [iR 2 (.p .mv) [(.c (.int .i64 (.ofNat 0)))]]) (.keep [0] (.seq (.seq (.reg [iR 3 (.p .mv) [(.t 0)]]) (.keep [3] (.cond (.t 3) (.seq (.reg [iR 2 (.p .mv) [(.c (.int .i64 (.ofNat 1)))]]) (.keep [2] (.keep [2] .ret))) .skip))) (.keep [] (.seq (.reg [iR 2 (.p .mv) [(.c (.int .i64 (.ofNat 0)))]]) (.keep [2] (.keep [2] .ret))))))), [(.t 2)]⟩
def s_strconv_bool2_int (call : CallK) (N : Nat) (a0 : V) (H : Heap) (τ : Tape) (q : KV) : Ans := condK a0 (q (.int .i64 (.ofNat 1)) H τ) (q (.int .i64 (.ofNat 0)) H τ)
theorem s_strconv_bool2_int_eq (call : CallK) (N : Nat) (a0 : V) (H : Heap) (τ : Tape) (q : KV) : s_strconv_bool2_int call N a0 H τ q = funK call N fn_strconv_bool2_int [a0] H τ q := by kernel_rfl
def e_strconv_bool2_int (call : CallK) (N : Nat) (vs : List V) (H : Heap) (τ : Tape) (q : KV) : Ans := match vs with | [a0] => s_strconv_bool2_int call N a0 H τ q | _ => none
theorem e_strconv_bool2_int_ok : EntOk fn_strconv_bool2_int e_strconv_bool2_int := by
  intro call N vs H τ q r h
  unfold e_strconv_bool2_int at h
  split at h
  · rw [s_strconv_bool2_int_eq] at h; exact h
  · cases h
theorem e_strconv_bool2_int_nat : EntNat e_strconv_bool2_int := by
  intro c hn N vs H τ q
  unfold e_strconv_bool2_int
  split
  · rw [s_strconv_bool2_int_eq, s_strconv_bool2_int_eq]; exact funK_ent hn _ _ _ _ _ _
  · rfl
/-- internal/strconv.isPowerOfTwo -/
def fn_strconv_isPowerOfTwo : Fun := ⟨1, (.seq (.reg [iR 2 (.p .mv) [(.c (.bool false))]]) (.keep [0] (.seq (.reg [iR 3 (.p .mv) [(.t 0)], iR 4 (.p .mv) [(.t 0)], iR 5 (.p (.bin .sub)) [(.t 4), (.c (.int .i64 (.ofNat 1)))], iR 6 (.p (.bin .and)) [(.t 3), (.t 5)], iR 7 (.p (.bin .eql)) [(.t 6), (.c (.int .i64 (.ofNat 0)))], iR 2 (.p .mv) [(.t 7)]]) (.keep [2] (.keep [2] .ret))))), [(.t 2)]⟩
def s_strconv_isPowerOfTwo (call : CallK) (N : Nat) (a0 : V) (H : Heap) (τ : Tape) (q : KV) : Ans := binK .sub a0 (.int .i64 (.ofNat 1)) fun v0 => binK .and a0 v0 fun v1 => binK .eql v1 (.int .i64 (.ofNat 0)) fun v2 => q v2 H τ
theorem s_strconv_isPowerOfTwo_eq (call : CallK) (N : Nat) (a0 : V) (H : Heap) (τ : Tape) (q : KV) : s_strconv_isPowerOfTwo call N a0 H τ q = funK call N fn_strconv_isPowerOfTwo [a0] H τ q := by kernel_rfl
def e_strconv_isPowerOfTwo (call : CallK) (N : Nat) (vs : List V) (H : Heap) (τ : Tape) (q : KV) : Ans := match vs with | [a0] => s_strconv_isPowerOfTwo call N a0 H τ q | _ => none
theorem e_strconv_isPowerOfTwo_ok : EntOk fn_strconv_isPowerOfTwo e_strconv_isPowerOfTwo := by
  intro call N vs H τ q r h
  unfold e_strconv_isPowerOfTwo at h
  split at h
  · rw [s_strconv_isPowerOfTwo_eq] at h; exact h
  · cases h
theorem e_strconv_isPowerOfTwo_nat : EntNat e_strconv_isPowerOfTwo := by
  intro c hn N vs H τ q
  unfold e_strconv_isPowerOfTwo
  split
  · rw [s_strconv_isPowerOfTwo_eq, s_strconv_isPowerOfTwo_eq]; exact funK_ent hn _ _ _ _ _ _
  · rfl
/-- math/bits.TrailingZeros -/
def fn_bits_TrailingZeros : Fun := ⟨1, (.seq (.reg [iR 2 (.p .mv) [(.c (.int .i64 (.ofNat 0)))]]) (.keep [0] (.seq (.cond (.c (.bool false)) (.seq (.reg [iR 3 (.p .mv) [(.t 0)], iR 4 (.p (.toInt .u32)) [(.t 3)], iR 5 (.call 265) [(.t 4)], iR 2 (.p .mv) [(.t 5)]]) (.keep [2] (.keep [2] .ret))) .skip) (.keep [0] (.seq (.reg [iR 6 (.p .mv) [(.t 0)], iR 7 (.call 266) [(.t 6)], iR 2 (.p .mv) [(.t 7)]]) (.keep [2] (.keep [2] .ret))))))), [(.t 2)]⟩
def s_bits_TrailingZeros (call : CallK) (N : Nat) (a0 : V) (H : Heap) (τ : Tape) (q : KV) : Ans := condK (.bool false) (toIntK .u32 a0 fun v0 => call f_bits_TrailingZeros32 [v0] H τ fun v1 H2 τ3 => q v1 H2 τ3) (call f_bits_TrailingZeros64 [a0] H τ fun v4 H5 τ6 => q v4 H5 τ6)
theorem s_bits_TrailingZeros_eq (call : CallK) (N : Nat) (a0 : V) (H : Heap) (τ : Tape) (q : KV) : s_bits_TrailingZeros call N a0 H τ q = funK call N fn_bits_TrailingZeros [a0] H τ q := by kernel_rfl
def e_bits_TrailingZeros (call : CallK) (N : Nat) (vs : List V) (H : Heap) (τ : Tape) (q : KV) : Ans := match vs with | [a0] => s_bits_TrailingZeros call N a0 H τ q | _ => none
theorem e_bits_TrailingZeros_ok : EntOk fn_bits_TrailingZeros e_bits_TrailingZeros := by
  intro call N vs H τ q r h
  unfold e_bits_TrailingZeros at h
  split at h
  · rw [s_bits_TrailingZeros_eq] at h; exact h
  · cases h
theorem e_bits_TrailingZeros_nat : EntNat e_bits_TrailingZeros := by
  intro c hn N vs H τ q
  unfold e_bits_TrailingZeros
  split
  · rw [s_bits_TrailingZeros_eq, s_bits_TrailingZeros_eq]; exact funK_ent hn _ _ _ _ _ _
  · rfl
/-- (*strings.asciiSet).contains -/
def fn_asciiSet_contains : Fun := ⟨2, (.seq (.reg [iR 4 (.p .mv) [(.c (.bool false))]]) (.keep [0, 1] (.seq (.reg [iR 5 (.p .mv) [(.t 0)], iR 6 (.p .mv) [(.t 1)], iR 7 (.p .nilck) [(.t 5)], iR 8 (.p (.arrIdx 256 1)) [(.t 7), (.t 6)], iR 9 (.l (.load none)) [(.t 8)], iR 4 (.p .mv) [(.t 9)]]) (.keep [4] (.keep [4] .ret))))), [(.t 4)]⟩
def s_asciiSet_contains (call : CallK) (N : Nat) (a0 a1 : V) (H : Heap) (τ : Tape) (q : KV) : Ans := someK (pNilck [a0]) fun v0 => someK (pArrIdx 256 1 [v0, a1]) fun v1 => someK (lLoad1 [v1] H) fun v2 => q v2 H τ
theorem s_asciiSet_contains_eq (call : CallK) (N : Nat) (a0 a1 : V) (H : Heap) (τ : Tape) (q : KV) : s_asciiSet_contains call N a0 a1 H τ q = funK call N fn_asciiSet_contains [a0, a1] H τ q := by kernel_rfl
def e_asciiSet_contains (call : CallK) (N : Nat) (vs : List V) (H : Heap) (τ : Tape) (q : KV) : Ans := match vs with | [a0, a1] => s_asciiSet_contains call N a0 a1 H τ q | _ => none
theorem e_asciiSet_contains_ok : EntOk fn_asciiSet_contains e_asciiSet_contains := by
  intro call N vs H τ q r h
  unfold e_asciiSet_contains at h
  split at h
  · rw [s_asciiSet_contains_eq] at h; exact h
  · cases h
theorem e_asciiSet_contains_nat : EntNat e_asciiSet_contains := by
  intro c hn N vs H τ q
  unfold e_asciiSet_contains
  split
  · rw [s_asciiSet_contains_eq, s_asciiSet_contains_eq]; exact funK_ent hn _ _ _ _ _ _
  · rfl
/-- strings.ContainsRune -/
def fn_strings_ContainsRune : Fun := ⟨2, (.seq (.reg [iR 4 (.p .mv) [(.c (.bool false))]]) (.keep [0, 1] (.seq (.reg [iR 5 (.p .mv) [(.t 0)], iR 6 (.p .mv) [(.t 1)], iR 7 (.call 228) [(.t 5), (.t 6)], iR 8 (.p (.bin .geq)) [(.t 7), (.c (.int .i64 (.ofNat 0)))], iR 4 (.p .mv) [(.t 8)]]) (.keep [4] (.keep [4] .ret))))), [(.t 4)]⟩
def s_strings_ContainsRune (call : CallK) (N : Nat) (a0 a1 : V) (H : Heap) (τ : Tape) (q : KV) : Ans := call f_strings_IndexRune [a0, a1] H τ fun v0 H1 τ2 => binK .geq v0 (.int .i64 (.ofNat 0)) fun v3 => q v3 H1 τ2
theorem s_strings_ContainsRune_eq (call : CallK) (N : Nat) (a0 a1 : V) (H : Heap) (τ : Tape) (q : KV) : s_strings_ContainsRune call N a0 a1 H τ q = funK call N fn_strings_ContainsRune [a0, a1] H τ q := by kernel_rfl
def e_strings_ContainsRune (call : CallK) (N : Nat) (vs : List V) (H : Heap) (τ : Tape) (q : KV) : Ans := match vs with | [a0, a1] => s_strings_ContainsRune call N a0 a1 H τ q | _ => none
theorem e_strings_ContainsRune_ok : EntOk fn_strings_ContainsRune e_strings_ContainsRune := by
  intro call N vs H τ q r h
  unfold e_strings_ContainsRune at h
  split at h
  · rw [s_strings_ContainsRune_eq] at h; exact h
  · cases h
theorem e_strings_ContainsRune_nat : EntNat e_strings_ContainsRune := by
  intro c hn N vs H τ q
  unfold e_strings_ContainsRune
  split
  · rw [s_strings_ContainsRune_eq, s_strings_ContainsRune_eq]; exact funK_ent hn _ _ _ _ _ _
  · rfl
/-- unicode/utf8.DecodeLastRuneInString -/
def fn_utf8_DecodeLastRuneInString : Fun := ⟨1, (.seq (.reg [iR 2 (.p .mv) [(.c (.int .i32 (.ofNat 0)))], iR 3 (.p .mv) [(.c (.int .i64 (.ofNat 0)))]]) (.keep [0] (.seq (.reg [iR 7 (.p .mv) [(.t 0)], iR 8 (.p .lenS) [(.t 7)], iR 4 (.p .mv) [(.t 8)]]) (.keep [0, 4] (.seq (.seq (.reg [iR 9 (.p .mv) [(.t 4)], iR 10 (.p (.bin .eql)) [(.t 9), (.c (.int .i64 (.ofNat 0)))]]) (.keep [0, 4, 10] (.cond (.t 10) (.seq (.reg [iR 2 (.p .mv) [(.c (.int .i32 (.ofNat 65533)))], iR 3 (.p .mv) [(.c (.int .i64 (.ofNat 0)))]]) (.keep [2, 3] (.keep [2, 3] .ret))) .skip))) (.keep [0, 4] (.seq (.reg [iR 11 (.p .mv) [(.t 4)], iR 12 (.p (.bin .sub)) [(.t 11), (.c (.int .i64 (.ofNat 1)))], iR 5 (.p .mv) [(.t 12)]]) (.keep [0, 4, 5] (.seq (.reg [iR 13 (.p .mv) [(.t 0)], iR 14 (.p .mv) [(.t 5)], iR 15 (.p .strIndex) [(.t 13), (.t 14)], iR 16 (.p (.toInt .i32)) [(.t 15)], iR 2 (.p .mv) [(.t 16)]])
    (.keep [0, 2, 4, 5] (.seq (.seq (.reg [iR 17 (.p .mv) [(.t 2)], iR 18 (.p (.bin .lss)) [(.t 17), (.c (.int .i32 (.ofNat 128)))]]) (.keep [0, 2, 4, 5, 18] (.cond (.t 18) (.seq (.reg [iR 19 (.p .mv) [(.t 2)], iR 2 (.p .mv) [(.t 19)], iR 3 (.p .mv) [(.c (.int .i64 (.ofNat 1)))]]) (.keep [2, 3] (.keep [2, 3] .ret))) .skip))) (.keep [0, 4, 5] (.seq (.reg [iR 20 (.p .mv) [(.t 4)], iR 21 (.p (.bin .sub)) [(.t 20), (.c (.int .i64 (.ofNat 4)))], iR 22 (.p .max2) [(.t 21), (.c (.int .i64 (.ofNat 0)))], iR 6 (.p .mv) [(.t 22)]]) (.keep [0, 4, 5, 6] (.seq (.seq (.reg [iR 23 (.p .mv) [(.t 5)], iR 24 (.p (.bin .sub)) [(.t 23), (.c (.int .i64 (.ofNat 1)))], iR 5 (.p .mv) [(.t 24)]]) (.keep [0, 4, 5, 6] (.block 0 (.loop (.keep [0, 4, 5, 6] (.seq (.seq (.reg [iR 25 (.p .mv) [(.t 5)], iR 26 (.p .mv) [(.t 6)], iR 27 (.p (.bin .geq)) [(.t 25), (.t 26)]]) (.keep [0, 4, 5, 6, 27] (.cond (.t 27) .skip
    (.keep [0, 4, 5] (.exit 0))))) (.keep [0, 4, 5, 6] (.seq (.block 1 (.seq (.reg [iR 30 (.p .mv) [(.t 0)], iR 31 (.p .mv) [(.t 5)], iR 32 (.p .strIndex) [(.t 30), (.t 31)], iR 33 (.call 267) [(.t 32)]]) (.keep [0, 4, 5, 6, 33] (.cond (.t 33) (.keep [0, 4, 5] (.exit 0)) .skip)))) (.keep [0, 4, 5, 6] (.reg [iR 28 (.p .mv) [(.t 5)], iR 29 (.p (.bin .sub)) [(.t 28), (.c (.int .i64 (.ofNat 1)))], iR 5 (.p .mv) [(.t 29)]])))))))))) (.keep [0, 4, 5] (.seq (.seq (.reg [iR 34 (.p .mv) [(.t 5)], iR 35 (.p (.bin .lss)) [(.t 34), (.c (.int .i64 (.ofNat 0)))]]) (.keep [0, 4, 5, 35] (.cond (.t 35) (.reg [iR 5 (.p .mv) [(.c (.int .i64 (.ofNat 0)))]]) .skip))) (.keep [0, 4, 5] (.seq (.reg [iR 37 (.p .mv) [(.t 0)], iR 38 (.p .mv) [(.t 5)], iR 39 (.p .mv) [(.t 4)], iR 40 (.p (.strSlice true true)) [(.t 37), (.t 38), (.t 39)], iR 41 (.call 206) [(.t 40)], iR 36 (.p .mv) [(.t 41)],
    iR 42 (.p (.extract 0)) [(.t 36)], iR 43 (.p (.extract 1)) [(.t 36)], iR 2 (.p .mv) [(.t 42)], iR 3 (.p .mv) [(.t 43)]]) (.keep [2, 3, 4, 5] (.seq (.seq (.reg [iR 44 (.p .mv) [(.t 5)], iR 45 (.p .mv) [(.t 3)], iR 46 (.p (.bin .add)) [(.t 44), (.t 45)], iR 47 (.p .mv) [(.t 4)], iR 48 (.p (.bin .neq)) [(.t 46), (.t 47)]]) (.keep [2, 3, 48] (.cond (.t 48) (.seq (.reg [iR 2 (.p .mv) [(.c (.int .i32 (.ofNat 65533)))], iR 3 (.p .mv) [(.c (.int .i64 (.ofNat 1)))]]) (.keep [2, 3] (.keep [2, 3] .ret))) .skip))) (.keep [2, 3] (.seq (.reg [iR 49 (.p .mv) [(.t 2)], iR 50 (.p .mv) [(.t 3)], iR 2 (.p .mv) [(.t 49)], iR 3 (.p .mv) [(.t 50)]]) (.keep [2, 3] (.keep [2, 3] .ret))))))))))))))))))))))))), [(.t 2), (.t 3)]⟩
def s_utf8_DecodeLastRuneInString_j1 (call : CallK) (N : Nat) (q : KV) (st : St) (τ : Tape) : Ans := match st with
  | ⟨fr, H⟩ => getK fr 0 fun t0 => getK fr 4 fun t4 => getK fr 5 fun t5 => someK (pStrSlice true true [t0, t5, t4]) fun v10 => call f_utf8_DecodeRuneInString [v10] H τ fun v11 H12 τ13 => someK (pExtract 0 [v11]) fun v14 => someK (pExtract 1 [v11]) fun v15 => binK .add t5 v15 fun v16 => binK .neq v16 t4 fun v17 => condK v17 (q (.tup [(.int .i32 (.ofNat 65533)), (.int .i64 (.ofNat 1))]) H12 τ13) (q (.tup [v14, v15]) H12 τ13)
def s_utf8_DecodeLastRuneInString_j0 (call : CallK) (N : Nat) (q : KV) (st : St) (τ : Tape) : Ans := match st with
  | ⟨fr, H⟩ => getK fr 0 fun t0 => getK fr 4 fun t4 => getK fr 5 fun t5 => binK .lss t5 (.int .i64 (.ofNat 0)) fun v9 => condK v9 (s_utf8_DecodeLastRuneInString_j1 call N q ⟨(T.set (T.set (T.set (T.set (T.set .leaf 0 t0) 4 t4) 5 t5) 35 v9) 5 (.int .i64 (.ofNat 0))), H⟩ τ) (s_utf8_DecodeLastRuneInString_j1 call N q ⟨(T.set (T.set (T.set (T.set .leaf 0 t0) 4 t4) 5 t5) 35 v9), H⟩ τ)
def s_utf8_DecodeLastRuneInString_l2 (call : CallK) (N : Nat) (st : St) (τ : Tape) (k : KC) : Ans := match st with
  | ⟨fr, H⟩ => getK fr 0 fun t0 => getK fr 4 fun t4 => getK fr 5 fun t5 => getK fr 6 fun t6 => binK .geq t5 t6 fun v18 => condK v18 (someK (pStrIndex [t0, t5]) fun v19 => call f_utf8_RuneStart [v19] H τ fun v20 H21 τ22 => condK v20 (k (.exit 0) ⟨(T.set (T.set (T.set .leaf 0 t0) 4 t4) 5 t5), H21⟩ τ22) (binK .sub t5 (.int .i64 (.ofNat 1)) fun v23 => k .normal ⟨(T.set (T.set (T.set (T.set (T.set (T.set (T.set .leaf 0 t0) 4 t4) 5 t5) 6 t6) 28 t5) 29 v23) 5 v23), H21⟩ τ22)) (k (.exit 0) ⟨(T.set (T.set (T.set .leaf 0 t0) 4 t4) 5 t5), H⟩ τ)
def s_utf8_DecodeLastRuneInString (call : CallK) (N : Nat) (a0 : V) (H : Heap) (τ : Tape) (q : KV) : Ans := someK (pLenS [a0]) fun v0 => binK .eql v0 (.int .i64 (.ofNat 0)) fun v1 => condK v1 (q (.tup [(.int .i32 (.ofNat 65533)), (.int .i64 (.ofNat 0))]) H τ) (binK .sub v0 (.int .i64 (.ofNat 1)) fun v2 => someK (pStrIndex [a0, v2]) fun v3 => toIntK .i32 v3 fun v4 => binK .lss v4 (.int .i32 (.ofNat 128)) fun v5 => condK v5 (q (.tup [v4, (.int .i64 (.ofNat 1))]) H τ) (binK .sub v0 (.int .i64 (.ofNat 4)) fun v6 => someK (pMax [v6, (.int .i64 (.ofNat 0))]) fun v7 => binK .sub v2 (.int .i64 (.ofNat 1)) fun v8 => loopK (s_utf8_DecodeLastRuneInString_l2 call N) N ⟨(T.set (T.set (T.set (T.set .leaf 0 a0) 4 v0) 5 v8) 6 v7), H⟩ τ (blockK 0 (seqK (s_utf8_DecodeLastRuneInString_j0 call N q) (endK [(.t 2), (.t 3)] q)))))
theorem s_utf8_DecodeLastRuneInString_eq (call : CallK) (N : Nat) (a0 : V) (H : Heap) (τ : Tape) (q : KV) : s_utf8_DecodeLastRuneInString call N a0 H τ q = funK call N fn_utf8_DecodeLastRuneInString [a0] H τ q := by kernel_rfl
def e_utf8_DecodeLastRuneInString (call : CallK) (N : Nat) (vs : List V) (H : Heap) (τ : Tape) (q : KV) : Ans := match vs with | [a0] => s_utf8_DecodeLastRuneInString call N a0 H τ q | _ => none
theorem e_utf8_DecodeLastRuneInString_ok : EntOk fn_utf8_DecodeLastRuneInString e_utf8_DecodeLastRuneInString := by
  intro call N vs H τ q r h
  unfold e_utf8_DecodeLastRuneInString at h
  split at h
  · rw [s_utf8_DecodeLastRuneInString_eq] at h; exact h
  · cases h
theorem e_utf8_DecodeLastRuneInString_nat : EntNat e_utf8_DecodeLastRuneInString := by
  intro c hn N vs H τ q
  unfold e_utf8_DecodeLastRuneInString
  split
  · rw [s_utf8_DecodeLastRuneInString_eq, s_utf8_DecodeLastRuneInString_eq]; exact funK_ent hn _ _ _ _ _ _
  · rfl
/-- strings.IndexRune -/
def fn_strings_IndexRune : Fun := ⟨2, (.seq (.reg [iR 4 (.p .mv) [(.c (.int .i64 (.ofNat 0)))]]) (.keep [0, 1] (.block 0 (.seq (.reg [iR 161 (.p .mv) [(.t 1)], iR 162 (.p (.bin .leq)) [(.c (.int .i32 (.ofNat 0))), (.t 161)], iR 163 (.p .mv) [(.t 162)], iG 164 163 true (.p .mv) [(.t 1)], iG 165 163 true (.p (.bin .lss)) [(.t 164), (.c (.int .i32 (.ofNat 128)))], iR 166 (.p .pick) [(.t 163), (.t 165), (.c (.bool false))], iR 160 (.p .mv) [(.t 166)]]) (.keep [0, 1, 160] (.cond (.t 160) (.seq (.reg [iR 167 (.p .mv) [(.t 0)], iR 168 (.p .mv) [(.t 1)], iR 169 (.p (.toInt .u8)) [(.t 168)], iR 170 (.call 151) [(.t 167), (.t 169)], iR 4 (.p .mv) [(.t 170)]]) (.keep [4] (.keep [4] .ret))) (.seq (.reg [iR 172 (.p .mv) [(.t 1)], iR 173 (.p (.bin .eql)) [(.t 172), (.c (.int .i32 (.ofNat 65533)))], iR 171 (.p .mv) [(.t 173)]]) (.keep [0, 1, 171] (.cond (.t 171)
    (.seq (.seq (.reg [iR 174 (.p .mv) [(.t 0)], iR 175 (.e .range) [(.t 174)]]) (.keep [175] (.block 9 (.loop (.keep [175] (.seq (.reg [iR 176 (.e .next) [(.t 175)], iR 177 (.p (.extract 0)) [(.t 176)]]) (.keep [175, 176, 177] (.seq (.cond (.t 177) .skip (.keep [] (.exit 9))) (.keep [175, 176] (.block 10 (.seq (.reg [iR 178 (.p (.extract 1)) [(.t 176)], iR 179 (.p (.extract 2)) [(.t 176)], iR 5 (.p .mv) [(.t 178)], iR 6 (.p .mv) [(.t 179)]]) (.keep [5, 6, 175] (.seq (.reg [iR 180 (.p .mv) [(.t 6)], iR 181 (.p (.bin .eql)) [(.t 180), (.c (.int .i32 (.ofNat 65533)))]]) (.keep [5, 175, 181] (.cond (.t 181) (.seq (.reg [iR 182 (.p .mv) [(.t 5)], iR 4 (.p .mv) [(.t 182)]]) (.keep [4] (.keep [4] .ret))) .skip))))))))))))))) (.keep [] (.seq (.reg [iR 4 (.p .mv) [(.c (.int .i64 (.negSucc 0)))]]) (.keep [4] (.keep [4] .ret))))) (.seq (.reg [iR 184 (.p .mv) [(.t 1)],
    iR 185 (.call 268) [(.t 184)], iR 186 (.p (.un .not)) [(.t 185)], iR 183 (.p .mv) [(.t 186)]]) (.keep [0, 1, 183] (.cond (.t 183) (.seq (.reg [iR 4 (.p .mv) [(.c (.int .i64 (.negSucc 0)))]]) (.keep [4] (.keep [4] .ret))) (.scope (.seq (.reg [iR 17 (.p .mv) [(.t 1)], iR 18 (.p .runeStr) [(.t 17)], iR 7 (.p .mv) [(.t 18)]]) (.keep [0, 7] (.seq (.reg [iR 19 (.p .mv) [(.t 7)], iR 20 (.p .lenS) [(.t 19)], iR 21 (.p (.bin .sub)) [(.t 20), (.c (.int .i64 (.ofNat 1)))], iR 8 (.p .mv) [(.t 21)]]) (.keep [0, 7, 8] (.seq (.reg [iR 22 (.p .mv) [(.t 8)], iR 9 (.p .mv) [(.t 22)]]) (.keep [0, 7, 8, 9] (.seq (.reg [iR 10 (.p .mv) [(.c (.int .i64 (.ofNat 0)))]]) (.keep [0, 7, 8, 9] (.seq (.block 1 (.loop (.keep [0, 7, 8, 9] (.seq (.seq (.reg [iR 23 (.p .mv) [(.t 9)], iR 24 (.p .mv) [(.t 0)], iR 25 (.p .lenS) [(.t 24)], iR 26 (.p (.bin .lss)) [(.t 23), (.t 25)]])
    (.keep [0, 7, 8, 9, 26] (.cond (.t 26) .skip (.keep [] (.exit 1))))) (.keep [0, 7, 8, 9] (.block 2 (.scope (.seq (.seq (.draw [iR 27 (.p .mv) [(.t 0)], iR 28 (.p .mv) [(.t 9)], iR 29 (.p .strIndex) [(.t 27), (.t 28)], iR 30 (.p .mv) [(.t 7)], iR 31 (.p .mv) [(.t 8)], iR 32 (.p .strIndex) [(.t 30), (.t 31)], iR 33 (.p (.bin .neq)) [(.t 29), (.t 32)]]) (.keep [0, 7, 8, 9, 33] (.cond (.t 33) (.seq (.draw [iR 34 (.p .mv) [(.t 0)], iR 35 (.p .mv) [(.t 9)], iR 36 (.p (.bin .add)) [(.t 35), (.c (.int .i64 (.ofNat 1)))], iR 37 (.p (.strSlice true false)) [(.t 34), (.t 36)], iR 38 (.p .mv) [(.t 7)], iR 39 (.p .mv) [(.t 8)], iR 40 (.p .strIndex) [(.t 38), (.t 39)], iR 41 (.call 151) [(.t 37), (.t 40)], iR 11 (.p .mv) [(.t 41)]]) (.keep [0, 7, 8, 9, 11] (.seq (.seq (.reg [iR 42 (.p .mv) [(.t 11)], iR 43 (.p (.bin .lss)) [(.t 42), (.c (.int .i64 (.ofNat 0)))]])
    (.keep [0, 7, 8, 9, 11, 43] (.cond (.t 43) (.seq (.reg [iR 4 (.p .mv) [(.c (.int .i64 (.negSucc 0)))]]) (.keep [4] (.keep [4] .ret))) .skip))) (.keep [0, 7, 8, 9, 11] (.reg [iR 44 (.p .mv) [(.t 9)], iR 45 (.p .mv) [(.t 11)], iR 46 (.p (.bin .add)) [(.t 45), (.c (.int .i64 (.ofNat 1)))], iR 47 (.p (.bin .add)) [(.t 44), (.t 46)], iR 9 (.p .mv) [(.t 47)]]))))) .skip))) (.keep [0, 7, 8, 9] (.seq (.seq (.reg [iR 12 (.p .mv) [(.c (.int .i64 (.ofNat 1)))]]) (.keep [0, 7, 8, 9, 12] (.block 3 (.loop (.keep [0, 7, 8, 9, 12] (.seq (.seq (.reg [iR 48 (.p .mv) [(.t 12)], iR 49 (.p .mv) [(.t 7)], iR 50 (.p .lenS) [(.t 49)], iR 51 (.p (.bin .lss)) [(.t 48), (.t 50)]]) (.keep [0, 7, 8, 9, 12, 51] (.cond (.t 51) .skip (.keep [8, 9] (.exit 3))))) (.keep [0, 7, 8, 9, 12] (.seq (.block 4 (.seq (.draw [iR 54 (.p .mv) [(.t 0)], iR 55 (.p .mv) [(.t 9)], iR 56 (.p .mv) [(.t 12)],
    iR 57 (.p (.bin .sub)) [(.t 55), (.t 56)], iR 58 (.p .strIndex) [(.t 54), (.t 57)], iR 59 (.p .mv) [(.t 7)], iR 60 (.p .mv) [(.t 8)], iR 61 (.p .mv) [(.t 12)], iR 62 (.p (.bin .sub)) [(.t 60), (.t 61)], iR 63 (.p .strIndex) [(.t 59), (.t 62)], iR 64 (.p (.bin .neq)) [(.t 58), (.t 63)]]) (.keep [0, 7, 8, 9, 12, 64] (.cond (.t 64) .bad .skip)))) (.keep [0, 7, 8, 9, 12] (.reg [iR 52 (.p .mv) [(.t 12)], iR 53 (.p (.bin .add)) [(.t 52), (.c (.int .i64 (.ofNat 1)))], iR 12 (.p .mv) [(.t 53)]])))))))))) (.keep [8, 9] (.seq (.seq (.reg [iR 65 (.p .mv) [(.t 9)], iR 66 (.p .mv) [(.t 8)], iR 67 (.p (.bin .sub)) [(.t 65), (.t 66)], iR 4 (.p .mv) [(.t 67)]]) (.keep [4] (.keep [4] .ret))) (.keep [0, 7, 8, 9, 10] (.seq .skip (.keep [0, 7, 8, 9, 10] (.seq (.reg [iR 68 (.p .mv) [(.t 10)], iR 69 (.p (.bin .add)) [(.t 68), (.c (.int .i64 (.ofNat 1)))], iR 10 (.p .mv) [(.t 69)]])
    (.keep [0, 7, 8, 9, 10] (.seq (.reg [iR 70 (.p .mv) [(.t 9)], iR 71 (.p (.bin .add)) [(.t 70), (.c (.int .i64 (.ofNat 1)))], iR 9 (.p .mv) [(.t 71)]]) (.keep [0, 7, 8, 9, 10] (.seq (.reg [iR 72 (.p .mv) [(.c (.bool true))], iG 73 72 true (.p .mv) [(.t 10)], iG 74 72 true (.p .mv) [(.t 9)], iG 75 72 true (.call 243) [(.t 74)], iG 76 72 true (.p (.bin .gtr)) [(.t 73), (.t 75)], iR 77 (.p .pick) [(.t 72), (.t 76), (.c (.bool false))], iR 78 (.p .mv) [(.t 77)], iG 79 78 true (.p .mv) [(.t 9)], iG 80 78 true (.p .mv) [(.t 0)], iG 81 78 true (.p .lenS) [(.t 80)], iG 82 78 true (.p (.bin .lss)) [(.t 79), (.t 81)], iR 83 (.p .pick) [(.t 78), (.t 82), (.c (.bool false))], iR 84 (.p .mv) [(.t 83)], iG 85 84 false (.p .mv) [(.c (.bool false))], iG 86 85 true (.p .mv) [(.t 10)], iG 87 85 true (.p .mv) [(.t 9)], iG 88 85 true (.p (.bin .shr)) [(.t 87), (.c (.int .u64 (.ofNat 4)))],
    iG 89 85 true (.p (.bin .add)) [(.c (.int .i64 (.ofNat 4))), (.t 88)], iG 90 85 true (.p (.bin .geq)) [(.t 86), (.t 89)], iG 91 84 false (.p .pick) [(.t 85), (.t 90), (.c (.bool false))], iG 92 84 false (.p .mv) [(.t 91)], iG 93 92 true (.p .mv) [(.t 9)], iG 94 92 true (.p .mv) [(.t 0)], iG 95 92 true (.p .lenS) [(.t 94)], iG 96 92 true (.p (.bin .lss)) [(.t 93), (.t 95)], iG 97 84 false (.p .pick) [(.t 92), (.t 96), (.c (.bool false))], iR 98 (.p .pick) [(.t 84), (.c (.bool true)), (.t 97)]]) (.keep [0, 7, 8, 9, 98] (.cond (.t 98) .bad .skip)))))))))))))))))))))) (.keep [] (.seq (.seq (.reg [iR 4 (.p .mv) [(.c (.int .i64 (.negSucc 0)))]]) (.keep [4] (.keep [4] .ret))) (.keep [0, 7, 8, 9] (.seq .skip (.keep [0, 7, 8, 9] (.seq (.cond (.c (.bool true)) (.seq .bad (.keep [8, 9, 13] (.seq (.reg [iR 107 (.p .mv) [(.t 13)],
    iR 108 (.p (.bin .geq)) [(.t 107), (.c (.int .i64 (.ofNat 0)))]]) (.keep [8, 9, 13, 108] (.cond (.t 108) (.seq (.reg [iR 109 (.p .mv) [(.t 9)], iR 110 (.p .mv) [(.t 13)], iR 111 (.p (.bin .add)) [(.t 109), (.t 110)], iR 112 (.p .mv) [(.t 8)], iR 113 (.p (.bin .sub)) [(.t 111), (.t 112)], iR 4 (.p .mv) [(.t 113)]]) (.keep [4] (.keep [4] .ret))) .skip))))) (.scope (.seq (.reg [iR 114 (.p .mv) [(.t 7)], iR 115 (.p .mv) [(.t 8)], iR 116 (.p .strIndex) [(.t 114), (.t 115)], iR 14 (.p .mv) [(.t 116)]]) (.keep [0, 7, 8, 9, 14] (.seq (.reg [iR 117 (.p .mv) [(.t 7)], iR 118 (.p .mv) [(.t 8)], iR 119 (.p (.bin .sub)) [(.t 118), (.c (.int .i64 (.ofNat 1)))], iR 120 (.p .strIndex) [(.t 117), (.t 119)], iR 15 (.p .mv) [(.t 120)]]) (.keep [0, 7, 8, 9, 14, 15] (.seq .skip (.keep [0, 7, 8, 9, 14, 15] (.block 5 (.loop (.keep [0, 7, 8, 9, 14, 15] (.seq (.seq (.reg [iR 121 (.p .mv) [(.t 9)],
    iR 122 (.p .mv) [(.t 0)], iR 123 (.p .lenS) [(.t 122)], iR 124 (.p (.bin .lss)) [(.t 121), (.t 123)]]) (.keep [0, 7, 8, 9, 14, 15, 124] (.cond (.t 124) .skip (.keep [] (.exit 5))))) (.keep [0, 7, 8, 9, 14, 15] (.seq (.block 6 (.seq (.reg [iR 127 (.p .mv) [(.t 0)], iR 128 (.p .mv) [(.t 9)], iR 129 (.p .strIndex) [(.t 127), (.t 128)], iR 130 (.p .mv) [(.t 14)], iR 131 (.p (.bin .eql)) [(.t 129), (.t 130)], iR 132 (.p .mv) [(.t 131)], iG 133 132 true (.p .mv) [(.t 0)], iG 134 132 true (.p .mv) [(.t 9)], iG 135 132 true (.p (.bin .sub)) [(.t 134), (.c (.int .i64 (.ofNat 1)))], iG 136 132 true (.p .strIndex) [(.t 133), (.t 135)], iG 137 132 true (.p .mv) [(.t 15)], iG 138 132 true (.p (.bin .eql)) [(.t 136), (.t 137)], iR 139 (.p .pick) [(.t 132), (.t 138), (.c (.bool false))]]) (.keep [0, 7, 8, 9, 14, 15, 139] (.cond (.t 139)
    (.seq (.seq (.reg [iR 16 (.p .mv) [(.c (.int .i64 (.ofNat 2)))]]) (.keep [0, 7, 8, 9, 14, 15, 16] (.block 7 (.loop (.keep [0, 7, 8, 9, 14, 15, 16] (.seq (.seq (.reg [iR 140 (.p .mv) [(.t 16)], iR 141 (.p .mv) [(.t 7)], iR 142 (.p .lenS) [(.t 141)], iR 143 (.p (.bin .lss)) [(.t 140), (.t 142)]]) (.keep [0, 7, 8, 9, 14, 15, 16, 143] (.cond (.t 143) .skip (.keep [8, 9] (.exit 7))))) (.keep [0, 7, 8, 9, 14, 15, 16] (.seq (.block 8 (.seq (.draw [iR 146 (.p .mv) [(.t 0)], iR 147 (.p .mv) [(.t 9)], iR 148 (.p .mv) [(.t 16)], iR 149 (.p (.bin .sub)) [(.t 147), (.t 148)], iR 150 (.p .strIndex) [(.t 146), (.t 149)], iR 151 (.p .mv) [(.t 7)], iR 152 (.p .mv) [(.t 8)], iR 153 (.p .mv) [(.t 16)], iR 154 (.p (.bin .sub)) [(.t 152), (.t 153)], iR 155 (.p .strIndex) [(.t 151), (.t 154)], iR 156 (.p (.bin .neq)) [(.t 150), (.t 155)]]) (.keep [0, 7, 8, 9, 14, 15, 16, 156] (.cond (.t 156)
    (.keep [0, 7, 8, 9, 14, 15] (.exit 6)) .skip)))) (.keep [0, 7, 8, 9, 14, 15, 16] (.reg [iR 144 (.p .mv) [(.t 16)], iR 145 (.p (.bin .add)) [(.t 144), (.c (.int .i64 (.ofNat 1)))], iR 16 (.p .mv) [(.t 145)]])))))))))) (.keep [8, 9] (.seq (.reg [iR 157 (.p .mv) [(.t 9)], iR 158 (.p .mv) [(.t 8)], iR 159 (.p (.bin .sub)) [(.t 157), (.t 158)], iR 4 (.p .mv) [(.t 159)]]) (.keep [4] (.keep [4] .ret))))) .skip)))) (.keep [0, 7, 8, 9, 14, 15] (.reg [iR 125 (.p .mv) [(.t 9)], iR 126 (.p (.bin .add)) [(.t 125), (.c (.int .i64 (.ofNat 1)))], iR 9 (.p .mv) [(.t 126)]])))))))))))))))) (.keep [] (.seq (.reg [iR 4 (.p .mv) [(.c (.int .i64 (.negSucc 0)))]]) (.keep [4] (.keep [4] .ret)))))))))))))))))))))))))))))))), [(.t 4)]⟩
def s_strings_IndexRune_j0 (call : CallK) (N : Nat) (q : KV) (st : St) (τ : Tape) : Ans := match st with
  | ⟨fr, H⟩ => q (.int .i64 (.negSucc 0)) H τ
def s_strings_IndexRune_l1 (call : CallK) (N : Nat) (st : St) (τ : Tape) (k : KC) : Ans := match st with
  | ⟨fr, H⟩ => getK fr 175 fun t175 => effK (eNext [t175] H τ) fun v16 H17 τ18 => someK (pExtract 0 [v16]) fun v19 => condK v19 (someK (pExtract 1 [v16]) fun v20 => someK (pExtract 2 [v16]) fun v21 => binK .eql v21 (.int .i32 (.ofNat 65533)) fun v22 => condK v22 (k .ret ⟨(T.set .leaf 4 v20), H17⟩ τ18) (k .normal ⟨(T.set (T.set (T.set .leaf 5 v20) 175 t175) 181 v22), H17⟩ τ18)) (k (.exit 9) ⟨.leaf, H17⟩ τ18)
def s_strings_IndexRune_j2 (call : CallK) (N : Nat) (q : KV) (st : St) (τ : Tape) : Ans := match st with
  | ⟨fr, H⟩ => q (.int .i64 (.negSucc 0)) H τ
def s_strings_IndexRune_j5 (call : CallK) (N : Nat) (k : KC) (st : St) (τ : Tape) : Ans := match st with
  | ⟨fr, H⟩ => getK fr 8 fun t8 => getK fr 9 fun t9 => binK .sub t9 t8 fun v35 => k .ret ⟨(T.set .leaf 4 v35), H⟩ τ
def s_strings_IndexRune_l6 (call : CallK) (N : Nat) (st : St) (τ : Tape) (k : KC) : Ans := match st with
  | ⟨fr, H⟩ => getK fr 0 fun t0 => getK fr 7 fun t7 => getK fr 8 fun t8 => getK fr 9 fun t9 => getK fr 12 fun t12 => someK (pLenS [t7]) fun v36 => binK .lss t12 v36 fun v37 => condK v37 (binK .sub t9 t12 fun v38 => someK (pStrIndex [t0, v38]) fun v39 => binK .sub t8 t12 fun v40 => someK (pStrIndex [t7, v40]) fun v41 => binK .neq v39 v41 fun v42 => condK v42 (none) (binK .add t12 (.int .i64 (.ofNat 1)) fun v43 => k .normal ⟨(T.set (T.set (T.set (T.set (T.set (T.set (T.set (T.set .leaf 0 t0) 7 t7) 8 t8) 9 t9) 12 t12) 52 t12) 53 v43) 12 v43), H⟩ τ)) (k (.exit 3) ⟨(T.set (T.set .leaf 8 t8) 9 t9), H⟩ τ)
def s_strings_IndexRune_j4 (call : CallK) (N : Nat) (k : KC) (st : St) (τ : Tape) : Ans := match st with
  | ⟨fr, H⟩ => getK fr 0 fun t0 => getK fr 7 fun t7 => getK fr 8 fun t8 => getK fr 9 fun t9 => loopK (s_strings_IndexRune_l6 call N) N ⟨(T.set (T.set (T.set (T.set (T.set .leaf 0 t0) 7 t7) 8 t8) 9 t9) 12 (.int .i64 (.ofNat 1))), H⟩ τ (blockK 3 (seqK (s_strings_IndexRune_j5 call N k) (blockK 2 k)))
def s_strings_IndexRune_l3 (call : CallK) (N : Nat) (st : St) (τ : Tape) (k : KC) : Ans := match st with
  | ⟨fr, H⟩ => getK fr 0 fun t0 => getK fr 7 fun t7 => getK fr 8 fun t8 => getK fr 9 fun t9 => someK (pLenS [t0]) fun v30 => binK .lss t9 v30 fun v31 => condK v31 (someK (pStrIndex [t0, t9]) fun v32 => someK (pStrIndex [t7, t8]) fun v33 => binK .neq v32 v33 fun v34 => condK v34 (binK .add t9 (.int .i64 (.ofNat 1)) fun v44 => someK (pStrSlice true false [t0, v44]) fun v45 => someK (pStrIndex [t7, t8]) fun v46 => call f_strings_IndexByte [v45, v46] H τ fun v47 H48 τ49 => binK .lss v47 (.int .i64 (.ofNat 0)) fun v50 => condK v50 (k .ret ⟨(T.set .leaf 4 (.int .i64 (.negSucc 0))), H48⟩ τ49) (binK .add v47 (.int .i64 (.ofNat 1)) fun v51 => binK .add t9 v51 fun v52 => s_strings_IndexRune_j4 call N k ⟨(T.set (T.set (T.set (T.set (T.set (T.set (T.set (T.set (T.set (T.set .leaf 0 t0) 7 t7) 8 t8) 9 t9) 11 v47) 44 t9) 45 v47) 46 v51) 47 v52) 9 v52), H48⟩ τ49))
    (s_strings_IndexRune_j4 call N k ⟨(T.set (T.set (T.set (T.set (T.set .leaf 0 t0) 7 t7) 8 t8) 9 t9) 33 v34), H⟩ τ)) (k (.exit 1) ⟨.leaf, H⟩ τ)
def s_strings_IndexRune (call : CallK) (N : Nat) (a0 a1 : V) (H : Heap) (τ : Tape) (q : KV) : Ans := binK .leq (.int .i32 (.ofNat 0)) a1 fun v0 => gK v0 true (fun q' => q' a1 H τ) H τ fun v1 H2 τ3 => gK v0 true (fun q' => binK .lss v1 (.int .i32 (.ofNat 128)) fun v => q' v H2 τ3) H2 τ3 fun v4 H5 τ6 => someK (pPick [v0, v4, (.bool false)]) fun v7 => condK v7 (toIntK .u8 a1 fun v8 => call f_strings_IndexByte [a0, v8] H5 τ6 fun v9 H10 τ11 => q v9 H10 τ11) (binK .eql a1 (.int .i32 (.ofNat 65533)) fun v12 => condK v12 (effK (eRange [a0] H5 τ6) fun v13 H14 τ15 => loopK (s_strings_IndexRune_l1 call N) N ⟨(T.set .leaf 175 v13), H14⟩ τ15 (blockK 9 (seqK (s_strings_IndexRune_j0 call N q) (blockK 0 (endK [(.t 4)] q))))) (call f_utf8_ValidRune [a1] H5 τ6 fun v23 H24 τ25 => unK .not v23 fun v26 => condK v26 (q (.int .i64 (.negSucc 0)) H24 τ25) (someK (pRuneStr [a1]) fun v27 =>
    someK (pLenS [v27]) fun v28 => binK .sub v28 (.int .i64 (.ofNat 1)) fun v29 => loopK (s_strings_IndexRune_l3 call N) N ⟨(T.set (T.set (T.set (T.set .leaf 0 a0) 7 v27) 8 v29) 9 v29), H24⟩ τ25 (blockK 1 (seqK (s_strings_IndexRune_j2 call N q) (blockK 0 (endK [(.t 4)] q)))))))
theorem s_strings_IndexRune_eq (call : CallK) (N : Nat) (a0 a1 : V) (H : Heap) (τ : Tape) (q : KV) : s_strings_IndexRune call N a0 a1 H τ q = funK call N fn_strings_IndexRune [a0, a1] H τ q := by kernel_rfl
def e_strings_IndexRune (call : CallK) (N : Nat) (vs : List V) (H : Heap) (τ : Tape) (q : KV) : Ans := match vs with | [a0, a1] => s_strings_IndexRune call N a0 a1 H τ q | _ => none
theorem e_strings_IndexRune_ok : EntOk fn_strings_IndexRune e_strings_IndexRune := by
  intro call N vs H τ q r h
  unfold e_strings_IndexRune at h
  split at h
  · rw [s_strings_IndexRune_eq] at h; exact h
  · cases h
theorem e_strings_IndexRune_nat : EntNat e_strings_IndexRune := by
  intro c hn N vs H τ q
  unfold e_strings_IndexRune
  split
  · rw [s_strings_IndexRune_eq, s_strings_IndexRune_eq]; exact funK_ent hn _ _ _ _ _ _
  · rfl
/-- strings.shouldUseASCIISet -/
def fn_strings_shouldUseASCIISet : Fun := ⟨1, (.seq (.reg [iR 2 (.p .mv) [(.c (.bool false))]]) (.keep [0] (.seq (.reg [iR 3 (.p .mv) [(.t 0)], iR 4 (.p (.bin .gtr)) [(.t 3), (.c (.int .i64 (.ofNat 8)))], iR 2 (.p .mv) [(.t 4)]]) (.keep [2] (.keep [2] .ret))))), [(.t 2)]⟩
def s_strings_shouldUseASCIISet (call : CallK) (N : Nat) (a0 : V) (H : Heap) (τ : Tape) (q : KV) : Ans := binK .gtr a0 (.int .i64 (.ofNat 8)) fun v0 => q v0 H τ
theorem s_strings_shouldUseASCIISet_eq (call : CallK) (N : Nat) (a0 : V) (H : Heap) (τ : Tape) (q : KV) : s_strings_shouldUseASCIISet call N a0 H τ q = funK call N fn_strings_shouldUseASCIISet [a0] H τ q := by kernel_rfl
def e_strings_shouldUseASCIISet (call : CallK) (N : Nat) (vs : List V) (H : Heap) (τ : Tape) (q : KV) : Ans := match vs with | [a0] => s_strings_shouldUseASCIISet call N a0 H τ q | _ => none
theorem e_strings_shouldUseASCIISet_ok : EntOk fn_strings_shouldUseASCIISet e_strings_shouldUseASCIISet := by
  intro call N vs H τ q r h
  unfold e_strings_shouldUseASCIISet at h
  split at h
  · rw [s_strings_shouldUseASCIISet_eq] at h; exact h
  · cases h
theorem e_strings_shouldUseASCIISet_nat : EntNat e_strings_shouldUseASCIISet := by
  intro c hn N vs H τ q
  unfold e_strings_shouldUseASCIISet
  split
  · rw [s_strings_shouldUseASCIISet_eq, s_strings_shouldUseASCIISet_eq]; exact funK_ent hn _ _ _ _ _ _
  · rfl
/-- ostiary/ostiaryref1.Part -/
def fn_ref1_Part : Fun := ⟨2, (.seq (.reg [iR 4 (.p .mv) [(.c (.str []))], iR 5 (.p .mv) [(.c (.str []))], iR 6 (.p .mv) [(.c (.bool false))]]) (.keep [0, 1] (.seq (.seq (.reg [iR 7 (.p .mv) [(.c (.int .i64 (.ofNat 0)))]]) (.keep [0, 1, 7] (.block 0 (.loop (.keep [0, 1, 7] (.seq (.seq (.reg [iR 8 (.p .mv) [(.t 7)], iR 9 (.p .mv) [(.t 0)], iR 10 (.p .lenS) [(.t 9)], iR 11 (.p (.bin .lss)) [(.t 8), (.t 10)]]) (.keep [0, 1, 7, 11] (.cond (.t 11) .skip (.keep [0] (.exit 0))))) (.keep [0, 1, 7] (.seq (.block 1 (.seq (.reg [iR 14 (.p .mv) [(.t 0)], iR 15 (.p .mv) [(.t 7)], iR 16 (.p .strIndex) [(.t 14), (.t 15)], iR 17 (.p .mv) [(.t 1)], iR 18 (.p (.bin .eql)) [(.t 16), (.t 17)]]) (.keep [0, 1, 7, 18] (.cond (.t 18) (.seq (.draw [iR 19 (.p .mv) [(.t 0)], iR 20 (.p .mv) [(.t 7)], iR 21 (.p (.strSlice false true)) [(.t 19), (.t 20)], iR 22 (.p .mv) [(.t 0)], iR 23 (.p .mv) [(.t 7)],
    iR 24 (.p (.bin .add)) [(.t 23), (.c (.int .i64 (.ofNat 1)))], iR 25 (.p (.strSlice true false)) [(.t 22), (.t 24)], iR 4 (.p .mv) [(.t 21)], iR 5 (.p .mv) [(.t 25)], iR 6 (.p .mv) [(.c (.bool true))]]) (.keep [4, 5, 6] (.keep [4, 5, 6] .ret))) .skip)))) (.keep [0, 1, 7] (.reg [iR 12 (.p .mv) [(.t 7)], iR 13 (.p (.bin .add)) [(.t 12), (.c (.int .i64 (.ofNat 1)))], iR 7 (.p .mv) [(.t 13)]])))))))))) (.keep [0] (.seq (.reg [iR 26 (.p .mv) [(.t 0)], iR 4 (.p .mv) [(.t 26)], iR 5 (.p .mv) [(.c (.str []))], iR 6 (.p .mv) [(.c (.bool false))]]) (.keep [4, 5, 6] (.keep [4, 5, 6] .ret))))))), [(.t 4), (.t 5), (.t 6)]⟩
def s_ref1_Part_j0 (call : CallK) (N : Nat) (q : KV) (st : St) (τ : Tape) : Ans := match st with
  | ⟨fr, H⟩ => getK fr 0 fun t0 => q (.tup [t0, (.str []), (.bool false)]) H τ
def s_ref1_Part_l1 (call : CallK) (N : Nat) (st : St) (τ : Tape) (k : KC) : Ans := match st with
  | ⟨fr, H⟩ => getK fr 0 fun t0 => getK fr 1 fun t1 => getK fr 7 fun t7 => someK (pLenS [t0]) fun v0 => binK .lss t7 v0 fun v1 => condK v1 (someK (pStrIndex [t0, t7]) fun v2 => binK .eql v2 t1 fun v3 => condK v3 (someK (pStrSlice false true [t0, t7]) fun v4 => binK .add t7 (.int .i64 (.ofNat 1)) fun v5 => someK (pStrSlice true false [t0, v5]) fun v6 => k .ret ⟨(T.set (T.set (T.set .leaf 4 v4) 5 v6) 6 (.bool true)), H⟩ τ) (binK .add t7 (.int .i64 (.ofNat 1)) fun v7 => k .normal ⟨(T.set (T.set (T.set (T.set (T.set (T.set .leaf 0 t0) 1 t1) 7 t7) 12 t7) 13 v7) 7 v7), H⟩ τ)) (k (.exit 0) ⟨(T.set .leaf 0 t0), H⟩ τ)
def s_ref1_Part (call : CallK) (N : Nat) (a0 a1 : V) (H : Heap) (τ : Tape) (q : KV) : Ans := loopK (s_ref1_Part_l1 call N) N ⟨(T.set (T.set (T.set .leaf 0 a0) 1 a1) 7 (.int .i64 (.ofNat 0))), H⟩ τ (blockK 0 (seqK (s_ref1_Part_j0 call N q) (endK [(.t 4), (.t 5), (.t 6)] q)))
theorem s_ref1_Part_eq (call : CallK) (N : Nat) (a0 a1 : V) (H : Heap) (τ : Tape) (q : KV) : s_ref1_Part call N a0 a1 H τ q = funK call N fn_ref1_Part [a0, a1] H τ q := by kernel_rfl
def e_ref1_Part (call : CallK) (N : Nat) (vs : List V) (H : Heap) (τ : Tape) (q : KV) : Ans := match vs with | [a0, a1] => s_ref1_Part call N a0 a1 H τ q | _ => none
theorem e_ref1_Part_ok : EntOk fn_ref1_Part e_ref1_Part := by
  intro call N vs H τ q r h
  unfold e_ref1_Part at h
  split at h
  · rw [s_ref1_Part_eq] at h; exact h
  · cases h
theorem e_ref1_Part_nat : EntNat e_ref1_Part := by
  intro c hn N vs H τ q
  unfold e_ref1_Part
  split
  · rw [s_ref1_Part_eq, s_ref1_Part_eq]; exact funK_ent hn _ _ _ _ _ _
  · rfl
/-- ostiary/ostiaryref1.Percent -/
def fn_ref1_Percent : Fun := ⟨2, (.seq (.reg [iR 4 (.p .mv) [(.c (.str []))]]) (.keep [0, 1] (.seq (.reg [iR 5 (.p .mv) [(.c (.str []))]]) (.keep [0, 1, 5] (.seq (.seq (.reg [iR 6 (.p .mv) [(.c (.int .i64 (.ofNat 0)))]]) (.keep [0, 1, 5, 6] (.block 0 (.loop (.keep [0, 1, 5, 6] (.seq (.seq (.reg [iR 7 (.p .mv) [(.t 6)], iR 8 (.p .mv) [(.t 0)], iR 9 (.p .lenS) [(.t 8)], iR 10 (.p (.bin .lss)) [(.t 7), (.t 9)]]) (.keep [0, 1, 5, 6, 10] (.cond (.t 10) .skip (.keep [5] (.exit 0))))) (.keep [0, 1, 5, 6] (.seq (.block 1 (.seq (.reg [iR 13 (.p .mv) [(.t 0)], iR 14 (.p .mv) [(.t 6)], iR 15 (.p .strIndex) [(.t 13), (.t 14)], iR 16 (.p .mv) [(.t 1)], iR 17 (.call 269) [(.t 15), (.t 16)]]) (.keep [0, 1, 5, 6, 17] (.cond (.t 17) (.reg [iR 18 (.p .mv) [(.t 5)], iR 19 (.p .mv) [(.t 0)], iR 20 (.p .mv) [(.t 6)], iR 21 (.p .strIndex) [(.t 19), (.t 20)], iR 22 (.call 270) [(.t 21)],
    iR 23 (.p (.bin .add)) [(.t 18), (.t 22)], iR 5 (.p .mv) [(.t 23)]]) (.reg [iR 24 (.p .mv) [(.t 5)], iR 25 (.p .mv) [(.t 0)], iR 26 (.p .mv) [(.t 6)], iR 27 (.p .mv) [(.t 6)], iR 28 (.p (.bin .add)) [(.t 27), (.c (.int .i64 (.ofNat 1)))], iR 29 (.p (.strSlice true true)) [(.t 25), (.t 26), (.t 28)], iR 30 (.p (.bin .add)) [(.t 24), (.t 29)], iR 5 (.p .mv) [(.t 30)]]))))) (.keep [0, 1, 5, 6] (.reg [iR 11 (.p .mv) [(.t 6)], iR 12 (.p (.bin .add)) [(.t 11), (.c (.int .i64 (.ofNat 1)))], iR 6 (.p .mv) [(.t 12)]])))))))))) (.keep [5] (.seq (.reg [iR 31 (.p .mv) [(.t 5)], iR 4 (.p .mv) [(.t 31)]]) (.keep [4] (.keep [4] .ret))))))))), [(.t 4)]⟩
def s_ref1_Percent_j0 (call : CallK) (N : Nat) (q : KV) (st : St) (τ : Tape) : Ans := match st with
  | ⟨fr, H⟩ => getK fr 5 fun t5 => q t5 H τ
def s_ref1_Percent_j2 (call : CallK) (N : Nat) (k : KC) (st : St) (τ : Tape) : Ans := match st with
  | ⟨fr, H⟩ => getK fr 0 fun t0 => getK fr 1 fun t1 => getK fr 5 fun t5 => getK fr 6 fun t6 => binK .add t6 (.int .i64 (.ofNat 1)) fun v2 => k .normal ⟨(T.set (T.set (T.set (T.set (T.set (T.set (T.set .leaf 0 t0) 1 t1) 5 t5) 6 t6) 11 t6) 12 v2) 6 v2), H⟩ τ
def s_ref1_Percent_l1 (call : CallK) (N : Nat) (st : St) (τ : Tape) (k : KC) : Ans := match st with
  | ⟨fr, H⟩ => getK fr 0 fun t0 => getK fr 1 fun t1 => getK fr 5 fun t5 => getK fr 6 fun t6 => someK (pLenS [t0]) fun v0 => binK .lss t6 v0 fun v1 => condK v1 (someK (pStrIndex [t0, t6]) fun v3 => call f_ref1_In [v3, t1] H τ fun v4 H5 τ6 => condK v4 (someK (pStrIndex [t0, t6]) fun v7 => call f_ref1_Escape [v7] H5 τ6 fun v8 H9 τ10 => binK .add t5 v8 fun v11 => s_ref1_Percent_j2 call N k ⟨(T.set (T.set (T.set (T.set (T.set (T.set (T.set (T.set (T.set (T.set (T.set (T.set .leaf 0 t0) 1 t1) 5 t5) 6 t6) 17 v4) 18 t5) 19 t0) 20 t6) 21 v7) 22 v8) 23 v11) 5 v11), H9⟩ τ10) (binK .add t6 (.int .i64 (.ofNat 1)) fun v12 => someK (pStrSlice true true [t0, t6, v12]) fun v13 => binK .add t5 v13 fun v14 =>
    s_ref1_Percent_j2 call N k ⟨(T.set (T.set (T.set (T.set (T.set (T.set (T.set (T.set (T.set (T.set (T.set (T.set (T.set .leaf 0 t0) 1 t1) 5 t5) 6 t6) 17 v4) 24 t5) 25 t0) 26 t6) 27 t6) 28 v12) 29 v13) 30 v14) 5 v14), H5⟩ τ6)) (k (.exit 0) ⟨(T.set .leaf 5 t5), H⟩ τ)
def s_ref1_Percent (call : CallK) (N : Nat) (a0 a1 : V) (H : Heap) (τ : Tape) (q : KV) : Ans := loopK (s_ref1_Percent_l1 call N) N ⟨(T.set (T.set (T.set (T.set .leaf 0 a0) 1 a1) 5 (.str [])) 6 (.int .i64 (.ofNat 0))), H⟩ τ (blockK 0 (seqK (s_ref1_Percent_j0 call N q) (endK [(.t 4)] q)))
theorem s_ref1_Percent_eq (call : CallK) (N : Nat) (a0 a1 : V) (H : Heap) (τ : Tape) (q : KV) : s_ref1_Percent call N a0 a1 H τ q = funK call N fn_ref1_Percent [a0, a1] H τ q := by kernel_rfl
def e_ref1_Percent (call : CallK) (N : Nat) (vs : List V) (H : Heap) (τ : Tape) (q : KV) : Ans := match vs with | [a0, a1] => s_ref1_Percent call N a0 a1 H τ q | _ => none
theorem e_ref1_Percent_ok : EntOk fn_ref1_Percent e_ref1_Percent := by
  intro call N vs H τ q r h
  unfold e_ref1_Percent at h
  split at h
  · rw [s_ref1_Percent_eq] at h; exact h
  · cases h
theorem e_ref1_Percent_nat : EntNat e_ref1_Percent := by
  intro c hn N vs H τ q
  unfold e_ref1_Percent
  split
  · rw [s_ref1_Percent_eq, s_ref1_Percent_eq]; exact funK_ent hn _ _ _ _ _ _
  · rfl
/-- ostiary/ostiaryref1.Lower -/
def fn_ref1_Lower : Fun := ⟨1, (.seq (.reg [iR 2 (.p .mv) [(.c (.str []))]]) (.keep [0] (.seq (.reg [iR 5 (.p .mv) [(.t 0)], iR 6 (.e .strBytes) [(.t 5)], iR 3 (.p .mv) [(.t 6)]]) (.keep [3] (.seq (.seq (.reg [iR 4 (.p .mv) [(.c (.int .i64 (.ofNat 0)))]]) (.keep [3, 4] (.block 0 (.loop (.keep [3, 4] (.seq (.seq (.reg [iR 7 (.p .mv) [(.t 4)], iR 8 (.p .mv) [(.t 3)], iR 9 (.p .len) [(.t 8)], iR 10 (.p (.bin .lss)) [(.t 7), (.t 9)]]) (.keep [3, 4, 10] (.cond (.t 10) .skip (.keep [3] (.exit 0))))) (.keep [3, 4] (.seq (.block 1 (.seq (.reg [iR 13 (.p .mv) [(.t 3)], iR 14 (.p .mv) [(.t 4)], iR 15 (.p (.slIdx 1)) [(.t 13), (.t 14)], iR 16 (.l (.load none)) [(.t 15)], iR 17 (.p (.bin .geq)) [(.t 16), (.c (.int .u8 (.ofNat 65)))], iR 18 (.p .mv) [(.t 17)], iG 19 18 true (.p .mv) [(.t 3)], iG 20 18 true (.p .mv) [(.t 4)], iG 21 18 true (.p (.slIdx 1)) [(.t 19), (.t 20)],
    iG 22 18 true (.l (.load none)) [(.t 21)], iG 23 18 true (.p (.bin .leq)) [(.t 22), (.c (.int .u8 (.ofNat 90)))], iR 24 (.p .pick) [(.t 18), (.t 23), (.c (.bool false))]]) (.keep [3, 4, 24] (.cond (.t 24) (.reg [iR 25 (.p .mv) [(.t 3)], iR 26 (.p .mv) [(.t 4)], iR 27 (.p .mv) [(.t 3)], iR 28 (.p .mv) [(.t 4)], iR 29 (.p (.slIdx 1)) [(.t 27), (.t 28)], iR 30 (.l (.load none)) [(.t 29)], iR 31 (.p (.bin .add)) [(.t 30), (.c (.int .u8 (.ofNat 32)))], iR 32 (.p (.slIdx 1)) [(.t 25), (.t 26)], ⟨none, none, (.e (.store 1)), [(.t 32), (.t 31)], none⟩]) .skip)))) (.keep [3, 4] (.reg [iR 11 (.p .mv) [(.t 4)], iR 12 (.p (.bin .add)) [(.t 11), (.c (.int .i64 (.ofNat 1)))], iR 4 (.p .mv) [(.t 12)]])))))))))) (.keep [3] (.seq (.reg [iR 33 (.p .mv) [(.t 3)], iR 34 (.l .bytesStr) [(.t 33)], iR 2 (.p .mv) [(.t 34)]]) (.keep [2] (.keep [2] .ret))))))))), [(.t 2)]⟩
def s_ref1_Lower_j0 (call : CallK) (N : Nat) (q : KV) (st : St) (τ : Tape) : Ans := match st with
  | ⟨fr, H⟩ => getK fr 3 fun t3 => someK (lBytesStr [t3] H) fun v3 => q v3 H τ
def s_ref1_Lower_j2 (call : CallK) (N : Nat) (k : KC) (st : St) (τ : Tape) : Ans := match st with
  | ⟨fr, H⟩ => getK fr 3 fun t3 => getK fr 4 fun t4 => binK .add t4 (.int .i64 (.ofNat 1)) fun v6 => k .normal ⟨(T.set (T.set (T.set (T.set (T.set .leaf 3 t3) 4 t4) 11 t4) 12 v6) 4 v6), H⟩ τ
def s_ref1_Lower_l1 (call : CallK) (N : Nat) (st : St) (τ : Tape) (k : KC) : Ans := match st with
  | ⟨fr, H⟩ => getK fr 3 fun t3 => getK fr 4 fun t4 => someK (pLen [t3]) fun v4 => binK .lss t4 v4 fun v5 => condK v5 (someK (pSlIdx 1 [t3, t4]) fun v7 => someK (lLoad1 [v7] H) fun v8 => binK .geq v8 (.int .u8 (.ofNat 65)) fun v9 => gK v9 true (fun q' => q' t3 H τ) H τ fun v10 H11 τ12 => gK v9 true (fun q' => q' t4 H11 τ12) H11 τ12 fun v13 H14 τ15 => gK v9 true (fun q' => someK (pSlIdx 1 [v10, v13]) fun v => q' v H14 τ15) H14 τ15 fun v16 H17 τ18 => gK v9 true (fun q' => someK (lLoad1 [v16] H17) fun v => q' v H17 τ18) H17 τ18 fun v19 H20 τ21 => gK v9 true (fun q' => binK .leq v19 (.int .u8 (.ofNat 90)) fun v => q' v H20 τ21) H20 τ21 fun v22 H23 τ24 => someK (pPick [v9, v22, (.bool false)]) fun v25 => condK v25 (someK (pSlIdx 1 [t3, t4]) fun v26 => someK (lLoad1 [v26] H23) fun v27 => binK .add v27 (.int .u8 (.ofNat 32)) fun v28 => someK (pSlIdx 1 [t3, t4]) fun v29 =>
    effK (eStore 1 [v29, v28] H23 τ24) fun v30 H31 τ32 => s_ref1_Lower_j2 call N k ⟨(T.set (T.set (T.set (T.set (T.set (T.set (T.set (T.set (T.set (T.set (T.set .leaf 3 t3) 4 t4) 24 v25) 25 t3) 26 t4) 27 t3) 28 t4) 29 v26) 30 v27) 31 v28) 32 v29), H31⟩ τ32) (s_ref1_Lower_j2 call N k ⟨(T.set (T.set (T.set .leaf 3 t3) 4 t4) 24 v25), H23⟩ τ24)) (k (.exit 0) ⟨(T.set .leaf 3 t3), H⟩ τ)
def s_ref1_Lower (call : CallK) (N : Nat) (a0 : V) (H : Heap) (τ : Tape) (q : KV) : Ans := effK (eStrBytes [a0] H τ) fun v0 H1 τ2 => loopK (s_ref1_Lower_l1 call N) N ⟨(T.set (T.set .leaf 3 v0) 4 (.int .i64 (.ofNat 0))), H1⟩ τ2 (blockK 0 (seqK (s_ref1_Lower_j0 call N q) (endK [(.t 2)] q)))
theorem s_ref1_Lower_eq (call : CallK) (N : Nat) (a0 : V) (H : Heap) (τ : Tape) (q : KV) : s_ref1_Lower call N a0 H τ q = funK call N fn_ref1_Lower [a0] H τ q := by kernel_rfl
def e_ref1_Lower (call : CallK) (N : Nat) (vs : List V) (H : Heap) (τ : Tape) (q : KV) : Ans := match vs with | [a0] => s_ref1_Lower call N a0 H τ q | _ => none
theorem e_ref1_Lower_ok : EntOk fn_ref1_Lower e_ref1_Lower := by
  intro call N vs H τ q r h
  unfold e_ref1_Lower at h
  split at h
  · rw [s_ref1_Lower_eq] at h; exact h
  · cases h
theorem e_ref1_Lower_nat : EntNat e_ref1_Lower := by
  intro c hn N vs H τ q
  unfold e_ref1_Lower
  split
  · rw [s_ref1_Lower_eq, s_ref1_Lower_eq]; exact funK_ent hn _ _ _ _ _ _
  · rfl
/-- ostiary/ostiaryref1.Letter -/
def fn_ref1_Letter : Fun := ⟨1, (.seq (.reg [iR 2 (.p .mv) [(.c (.bool false))]]) (.keep [0] (.seq (.reg [iR 3 (.p .mv) [(.t 0)], iR 4 (.p (.bin .geq)) [(.t 3), (.c (.int .u8 (.ofNat 97)))], iR 5 (.p .mv) [(.t 4)], iG 6 5 true (.p .mv) [(.t 0)], iG 7 5 true (.p (.bin .leq)) [(.t 6), (.c (.int .u8 (.ofNat 122)))], iR 8 (.p .pick) [(.t 5), (.t 7), (.c (.bool false))], iR 9 (.p .mv) [(.t 8)], iG 10 9 false (.p .mv) [(.t 0)], iG 11 9 false (.p (.bin .geq)) [(.t 10), (.c (.int .u8 (.ofNat 65)))], iG 12 9 false (.p .mv) [(.t 11)], iG 13 12 true (.p .mv) [(.t 0)], iG 14 12 true (.p (.bin .leq)) [(.t 13), (.c (.int .u8 (.ofNat 90)))], iG 15 9 false (.p .pick) [(.t 12), (.t 14), (.c (.bool false))], iR 16 (.p .pick) [(.t 9), (.c (.bool true)), (.t 15)], iR 2 (.p .mv) [(.t 16)]]) (.keep [2] (.keep [2] .ret))))), [(.t 2)]⟩
def s_ref1_Letter (call : CallK) (N : Nat) (a0 : V) (H : Heap) (τ : Tape) (q : KV) : Ans := binK .geq a0 (.int .u8 (.ofNat 97)) fun v0 => gK v0 true (fun q' => q' a0 H τ) H τ fun v1 H2 τ3 => gK v0 true (fun q' => binK .leq v1 (.int .u8 (.ofNat 122)) fun v => q' v H2 τ3) H2 τ3 fun v4 H5 τ6 => someK (pPick [v0, v4, (.bool false)]) fun v7 => gK v7 false (fun q' => q' a0 H5 τ6) H5 τ6 fun v8 H9 τ10 => gK v7 false (fun q' => binK .geq v8 (.int .u8 (.ofNat 65)) fun v => q' v H9 τ10) H9 τ10 fun v11 H12 τ13 => gK v7 false (fun q' => q' v11 H12 τ13) H12 τ13 fun v14 H15 τ16 => gK v14 true (fun q' => q' a0 H15 τ16) H15 τ16 fun v17 H18 τ19 => gK v14 true (fun q' => binK .leq v17 (.int .u8 (.ofNat 90)) fun v => q' v H18 τ19) H18 τ19 fun v20 H21 τ22 => gK v7 false (fun q' => someK (pPick [v14, v20, (.bool false)]) fun v => q' v H21 τ22) H21 τ22 fun v23 H24 τ25 =>
    someK (pPick [v7, (.bool true), v23]) fun v26 => q v26 H24 τ25
theorem s_ref1_Letter_eq (call : CallK) (N : Nat) (a0 : V) (H : Heap) (τ : Tape) (q : KV) : s_ref1_Letter call N a0 H τ q = funK call N fn_ref1_Letter [a0] H τ q := by kernel_rfl
def e_ref1_Letter (call : CallK) (N : Nat) (vs : List V) (H : Heap) (τ : Tape) (q : KV) : Ans := match vs with | [a0] => s_ref1_Letter call N a0 H τ q | _ => none
theorem e_ref1_Letter_ok : EntOk fn_ref1_Letter e_ref1_Letter := by
  intro call N vs H τ q r h
  unfold e_ref1_Letter at h
  split at h
  · rw [s_ref1_Letter_eq] at h; exact h
  · cases h
theorem e_ref1_Letter_nat : EntNat e_ref1_Letter := by
  intro c hn N vs H τ q
  unfold e_ref1_Letter
  split
  · rw [s_ref1_Letter_eq, s_ref1_Letter_eq]; exact funK_ent hn _ _ _ _ _ _
  · rfl
/-- ostiary/ostiaryref1.Digit -/
def fn_ref1_Digit : Fun := ⟨1, (.seq (.reg [iR 2 (.p .mv) [(.c (.bool false))]]) (.keep [0] (.seq (.reg [iR 3 (.p .mv) [(.t 0)], iR 4 (.p (.bin .geq)) [(.t 3), (.c (.int .u8 (.ofNat 48)))], iR 5 (.p .mv) [(.t 4)], iG 6 5 true (.p .mv) [(.t 0)], iG 7 5 true (.p (.bin .leq)) [(.t 6), (.c (.int .u8 (.ofNat 57)))], iR 8 (.p .pick) [(.t 5), (.t 7), (.c (.bool false))], iR 2 (.p .mv) [(.t 8)]]) (.keep [2] (.keep [2] .ret))))), [(.t 2)]⟩
def s_ref1_Digit (call : CallK) (N : Nat) (a0 : V) (H : Heap) (τ : Tape) (q : KV) : Ans := binK .geq a0 (.int .u8 (.ofNat 48)) fun v0 => gK v0 true (fun q' => q' a0 H τ) H τ fun v1 H2 τ3 => gK v0 true (fun q' => binK .leq v1 (.int .u8 (.ofNat 57)) fun v => q' v H2 τ3) H2 τ3 fun v4 H5 τ6 => someK (pPick [v0, v4, (.bool false)]) fun v7 => q v7 H5 τ6
theorem s_ref1_Digit_eq (call : CallK) (N : Nat) (a0 : V) (H : Heap) (τ : Tape) (q : KV) : s_ref1_Digit call N a0 H τ q = funK call N fn_ref1_Digit [a0] H τ q := by kernel_rfl
def e_ref1_Digit (call : CallK) (N : Nat) (vs : List V) (H : Heap) (τ : Tape) (q : KV) : Ans := match vs with | [a0] => s_ref1_Digit call N a0 H τ q | _ => none
theorem e_ref1_Digit_ok : EntOk fn_ref1_Digit e_ref1_Digit := by
  intro call N vs H τ q r h
  unfold e_ref1_Digit at h
  split at h
  · rw [s_ref1_Digit_eq] at h; exact h
  · cases h
theorem e_ref1_Digit_nat : EntNat e_ref1_Digit := by
  intro c hn N vs H τ q
  unfold e_ref1_Digit
  split
  · rw [s_ref1_Digit_eq, s_ref1_Digit_eq]; exact funK_ent hn _ _ _ _ _ _
  · rfl
/-- ostiary/ostiaryref3.far -/
def fn_ref3_far : Fun := ⟨2, (.seq (.reg [iR 4 (.p .mv) [(.c (.int .i64 (.ofNat 0)))]]) (.keep [0, 1] (.seq (.reg [iR 9 (.p .mv) [(.t 1)], iR 10 (.call 240) [(.t 9), (.c (.int .u8 (.ofNat 47))), (.c (.int .u8 (.ofNat 63)))], iR 8 (.p .mv) [(.t 10)], iR 11 (.p (.extract 0)) [(.t 8)], iR 12 (.p (.extract 1)) [(.t 8)], iR 5 (.p .mv) [(.t 11)], iR 6 (.p .mv) [(.t 12)]]) (.keep [0, 5, 6] (.seq (.reg [iR 13 (.p .mv) [(.t 0)], iR 14 (.p .mv) [(.t 5)], iR 15 (.call 271) [(.t 13), (.t 14)], iR 7 (.p .mv) [(.t 15)]]) (.keep [0, 6, 7] (.seq (.seq (.reg [iR 16 (.p .mv) [(.t 7)], iR 17 (.p (.bin .neq)) [(.t 16), (.c (.int .i64 (.ofNat 0)))]]) (.keep [0, 6, 7, 17] (.cond (.t 17) (.seq (.reg [iR 18 (.p .mv) [(.t 7)], iR 4 (.p .mv) [(.t 18)]]) (.keep [4] (.keep [4] .ret))) .skip))) (.keep [0, 6] (.seq (.reg [iR 19 (.p .mv) [(.t 0)], iR 20 (.p .mv) [(.t 6)], iR 21 (.call 239) [(.t 19), (.t 20)]])
    (.keep [] (.seq (.reg [iR 4 (.p .mv) [(.c (.int .i64 (.ofNat 0)))]]) (.keep [4] (.keep [4] .ret))))))))))))), [(.t 4)]⟩
def s_ref3_far (call : CallK) (N : Nat) (a0 a1 : V) (H : Heap) (τ : Tape) (q : KV) : Ans := call f_ref3_ahead [a1, (.int .u8 (.ofNat 47)), (.int .u8 (.ofNat 63))] H τ fun v0 H1 τ2 => someK (pExtract 0 [v0]) fun v3 => someK (pExtract 1 [v0]) fun v4 => call f_ref3_authority [a0, v3] H1 τ2 fun v5 H6 τ7 => binK .neq v5 (.int .i64 (.ofNat 0)) fun v8 => condK v8 (q v5 H6 τ7) (call f_ref3_rest [a0, v4] H6 τ7 fun v9 H10 τ11 => q (.int .i64 (.ofNat 0)) H10 τ11)
theorem s_ref3_far_eq (call : CallK) (N : Nat) (a0 a1 : V) (H : Heap) (τ : Tape) (q : KV) : s_ref3_far call N a0 a1 H τ q = funK call N fn_ref3_far [a0, a1] H τ q := by kernel_rfl
def e_ref3_far (call : CallK) (N : Nat) (vs : List V) (H : Heap) (τ : Tape) (q : KV) : Ans := match vs with | [a0, a1] => s_ref3_far call N a0 a1 H τ q | _ => none
theorem e_ref3_far_ok : EntOk fn_ref3_far e_ref3_far := by
  intro call N vs H τ q r h
  unfold e_ref3_far at h
  split at h
  · rw [s_ref3_far_eq] at h; exact h
  · cases h
theorem e_ref3_far_nat : EntNat e_ref3_far := by
  intro c hn N vs H τ q
  unfold e_ref3_far
  split
  · rw [s_ref3_far_eq, s_ref3_far_eq]; exact funK_ent hn _ _ _ _ _ _
  · rfl
/-- ostiary/ostiaryref3.over -/
def fn_ref3_over : Fun := ⟨1, (.seq (.reg [iR 2 (.p .mv) [(.c (.str []))]]) (.keep [0] (.seq (.block 0 (.loop (.keep [0] (.seq (.seq (.reg [iR 3 (.p .mv) [(.t 0)], iR 4 (.p .lenS) [(.t 3)], iR 5 (.p (.bin .gtr)) [(.t 4), (.c (.int .i64 (.ofNat 0)))], iR 6 (.p .mv) [(.t 5)], iG 7 6 true (.p .mv) [(.t 0)], iG 8 6 true (.p .strIndex) [(.t 7), (.c (.int .i64 (.ofNat 0)))], iG 9 6 true (.p (.bin .eql)) [(.t 8), (.c (.int .u8 (.ofNat 47)))], iR 10 (.p .pick) [(.t 6), (.t 9), (.c (.bool false))]]) (.keep [0, 10] (.cond (.t 10) .skip (.keep [0] (.exit 0))))) (.keep [0] (.block 1 (.reg [iR 11 (.p .mv) [(.t 0)], iR 12 (.p (.strSlice true false)) [(.t 11), (.c (.int .i64 (.ofNat 1)))], iR 0 (.p .mv) [(.t 12)]]))))))) (.keep [0] (.seq (.reg [iR 13 (.p .mv) [(.t 0)], iR 2 (.p .mv) [(.t 13)]]) (.keep [2] (.keep [2] .ret))))))), [(.t 2)]⟩
def s_ref3_over_j0 (call : CallK) (N : Nat) (q : KV) (st : St) (τ : Tape) : Ans := match st with
  | ⟨fr, H⟩ => getK fr 0 fun t0 => q t0 H τ
def s_ref3_over_l1 (call : CallK) (N : Nat) (st : St) (τ : Tape) (k : KC) : Ans := match st with
  | ⟨fr, H⟩ => getK fr 0 fun t0 => someK (pLenS [t0]) fun v0 => binK .gtr v0 (.int .i64 (.ofNat 0)) fun v1 => gK v1 true (fun q' => q' t0 H τ) H τ fun v2 H3 τ4 => gK v1 true (fun q' => someK (pStrIndex [v2, (.int .i64 (.ofNat 0))]) fun v => q' v H3 τ4) H3 τ4 fun v5 H6 τ7 => gK v1 true (fun q' => binK .eql v5 (.int .u8 (.ofNat 47)) fun v => q' v H6 τ7) H6 τ7 fun v8 H9 τ10 => someK (pPick [v1, v8, (.bool false)]) fun v11 => condK v11 (someK (pStrSlice true false [t0, (.int .i64 (.ofNat 1))]) fun v12 => k .normal ⟨(T.set (T.set (T.set (T.set .leaf 0 t0) 11 t0) 12 v12) 0 v12), H9⟩ τ10) (k (.exit 0) ⟨(T.set .leaf 0 t0), H9⟩ τ10)
def s_ref3_over (call : CallK) (N : Nat) (a0 : V) (H : Heap) (τ : Tape) (q : KV) : Ans := loopK (s_ref3_over_l1 call N) N ⟨(T.set .leaf 0 a0), H⟩ τ (blockK 0 (seqK (s_ref3_over_j0 call N q) (endK [(.t 2)] q)))
theorem s_ref3_over_eq (call : CallK) (N : Nat) (a0 : V) (H : Heap) (τ : Tape) (q : KV) : s_ref3_over call N a0 H τ q = funK call N fn_ref3_over [a0] H τ q := by kernel_rfl
def e_ref3_over (call : CallK) (N : Nat) (vs : List V) (H : Heap) (τ : Tape) (q : KV) : Ans := match vs with | [a0] => s_ref3_over call N a0 H τ q | _ => none
theorem e_ref3_over_ok : EntOk fn_ref3_over e_ref3_over := by
  intro call N vs H τ q r h
  unfold e_ref3_over at h
  split at h
  · rw [s_ref3_over_eq] at h; exact h
  · cases h
theorem e_ref3_over_nat : EntNat e_ref3_over := by
  intro c hn N vs H τ q
  unfold e_ref3_over
  split
  · rw [s_ref3_over_eq, s_ref3_over_eq]; exact funK_ent hn _ _ _ _ _ _
  · rfl
/-- ostiary/ostiaryref3.slashes -/
def fn_ref3_slashes : Fun := ⟨1, (.seq (.reg [iR 2 (.p .mv) [(.c (.str []))]]) (.keep [0] (.seq (.reg [iR 5 (.p .mv) [(.t 0)], iR 6 (.e .strBytes) [(.t 5)], iR 3 (.p .mv) [(.t 6)]]) (.keep [3] (.seq (.seq (.reg [iR 4 (.p .mv) [(.c (.int .i64 (.ofNat 0)))]]) (.keep [3, 4] (.block 0 (.loop (.keep [3, 4] (.seq (.seq (.reg [iR 7 (.p .mv) [(.t 4)], iR 8 (.p .mv) [(.t 3)], iR 9 (.p .len) [(.t 8)], iR 10 (.p (.bin .lss)) [(.t 7), (.t 9)], iR 11 (.p .mv) [(.t 10)], iG 12 11 true (.p .mv) [(.t 3)], iG 13 11 true (.p .mv) [(.t 4)], iG 14 11 true (.p (.slIdx 1)) [(.t 12), (.t 13)], iG 15 11 true (.l (.load none)) [(.t 14)], iG 16 11 true (.p (.bin .neq)) [(.t 15), (.c (.int .u8 (.ofNat 63)))], iR 17 (.p .pick) [(.t 11), (.t 16), (.c (.bool false))]]) (.keep [3, 4, 17] (.cond (.t 17) .skip (.keep [3] (.exit 0))))) (.keep [3, 4] (.seq (.block 1 (.seq (.reg [iR 20 (.p .mv) [(.t 3)],
    iR 21 (.p .mv) [(.t 4)], iR 22 (.p (.slIdx 1)) [(.t 20), (.t 21)], iR 23 (.l (.load none)) [(.t 22)], iR 24 (.p (.bin .eql)) [(.t 23), (.c (.int .u8 (.ofNat 92)))]]) (.keep [3, 4, 24] (.cond (.t 24) (.reg [iR 25 (.p .mv) [(.t 3)], iR 26 (.p .mv) [(.t 4)], iR 27 (.p (.slIdx 1)) [(.t 25), (.t 26)], ⟨none, none, (.e (.store 1)), [(.t 27), (.c (.int .u8 (.ofNat 47)))], none⟩]) .skip)))) (.keep [3, 4] (.reg [iR 18 (.p .mv) [(.t 4)], iR 19 (.p (.bin .add)) [(.t 18), (.c (.int .i64 (.ofNat 1)))], iR 4 (.p .mv) [(.t 19)]])))))))))) (.keep [3] (.seq (.reg [iR 28 (.p .mv) [(.t 3)], iR 29 (.l .bytesStr) [(.t 28)], iR 2 (.p .mv) [(.t 29)]]) (.keep [2] (.keep [2] .ret))))))))), [(.t 2)]⟩
def s_ref3_slashes_j0 (call : CallK) (N : Nat) (q : KV) (st : St) (τ : Tape) : Ans := match st with
  | ⟨fr, H⟩ => getK fr 3 fun t3 => someK (lBytesStr [t3] H) fun v3 => q v3 H τ
def s_ref3_slashes_j2 (call : CallK) (N : Nat) (k : KC) (st : St) (τ : Tape) : Ans := match st with
  | ⟨fr, H⟩ => getK fr 3 fun t3 => getK fr 4 fun t4 => binK .add t4 (.int .i64 (.ofNat 1)) fun v22 => k .normal ⟨(T.set (T.set (T.set (T.set (T.set .leaf 3 t3) 4 t4) 18 t4) 19 v22) 4 v22), H⟩ τ
def s_ref3_slashes_l1 (call : CallK) (N : Nat) (st : St) (τ : Tape) (k : KC) : Ans := match st with
  | ⟨fr, H⟩ => getK fr 3 fun t3 => getK fr 4 fun t4 => someK (pLen [t3]) fun v4 => binK .lss t4 v4 fun v5 => gK v5 true (fun q' => q' t3 H τ) H τ fun v6 H7 τ8 => gK v5 true (fun q' => q' t4 H7 τ8) H7 τ8 fun v9 H10 τ11 => gK v5 true (fun q' => someK (pSlIdx 1 [v6, v9]) fun v => q' v H10 τ11) H10 τ11 fun v12 H13 τ14 => gK v5 true (fun q' => someK (lLoad1 [v12] H13) fun v => q' v H13 τ14) H13 τ14 fun v15 H16 τ17 => gK v5 true (fun q' => binK .neq v15 (.int .u8 (.ofNat 63)) fun v => q' v H16 τ17) H16 τ17 fun v18 H19 τ20 => someK (pPick [v5, v18, (.bool false)]) fun v21 => condK v21 (someK (pSlIdx 1 [t3, t4]) fun v23 => someK (lLoad1 [v23] H19) fun v24 => binK .eql v24 (.int .u8 (.ofNat 92)) fun v25 => condK v25 (someK (pSlIdx 1 [t3, t4]) fun v26 => effK (eStore 1 [v26, (.int .u8 (.ofNat 47))] H19 τ20) fun v27 H28 τ29 =>
    s_ref3_slashes_j2 call N k ⟨(T.set (T.set (T.set (T.set (T.set (T.set .leaf 3 t3) 4 t4) 24 v25) 25 t3) 26 t4) 27 v26), H28⟩ τ29) (s_ref3_slashes_j2 call N k ⟨(T.set (T.set (T.set .leaf 3 t3) 4 t4) 24 v25), H19⟩ τ20)) (k (.exit 0) ⟨(T.set .leaf 3 t3), H19⟩ τ20)
def s_ref3_slashes (call : CallK) (N : Nat) (a0 : V) (H : Heap) (τ : Tape) (q : KV) : Ans := effK (eStrBytes [a0] H τ) fun v0 H1 τ2 => loopK (s_ref3_slashes_l1 call N) N ⟨(T.set (T.set .leaf 3 v0) 4 (.int .i64 (.ofNat 0))), H1⟩ τ2 (blockK 0 (seqK (s_ref3_slashes_j0 call N q) (endK [(.t 2)] q)))
theorem s_ref3_slashes_eq (call : CallK) (N : Nat) (a0 : V) (H : Heap) (τ : Tape) (q : KV) : s_ref3_slashes call N a0 H τ q = funK call N fn_ref3_slashes [a0] H τ q := by kernel_rfl
def e_ref3_slashes (call : CallK) (N : Nat) (vs : List V) (H : Heap) (τ : Tape) (q : KV) : Ans := match vs with | [a0] => s_ref3_slashes call N a0 H τ q | _ => none
theorem e_ref3_slashes_ok : EntOk fn_ref3_slashes e_ref3_slashes := by
  intro call N vs H τ q r h
  unfold e_ref3_slashes at h
  split at h
  · rw [s_ref3_slashes_eq] at h; exact h
  · cases h
theorem e_ref3_slashes_nat : EntNat e_ref3_slashes := by
  intro c hn N vs H τ q
  unfold e_ref3_slashes
  split
  · rw [s_ref3_slashes_eq, s_ref3_slashes_eq]; exact funK_ent hn _ _ _ _ _ _
  · rfl
/-- ostiary/ostiaryref1.Begins -/
def fn_ref1_Begins : Fun := ⟨2, (.seq (.reg [iR 4 (.p .mv) [(.c (.bool false))]]) (.keep [0, 1] (.seq (.reg [iR 5 (.p .mv) [(.t 0)], iR 6 (.p .lenS) [(.t 5)], iR 7 (.p .mv) [(.t 1)], iR 8 (.p .lenS) [(.t 7)], iR 9 (.p (.bin .geq)) [(.t 6), (.t 8)], iR 10 (.p .mv) [(.t 9)], iG 11 10 true (.p .mv) [(.t 0)], iG 12 10 true (.p .mv) [(.t 1)], iG 13 10 true (.p .lenS) [(.t 12)], iG 14 10 true (.p (.strSlice false true)) [(.t 11), (.t 13)], iG 15 10 true (.p .mv) [(.t 1)], iG 16 10 true (.p (.bin .eql)) [(.t 14), (.t 15)], iR 17 (.p .pick) [(.t 10), (.t 16), (.c (.bool false))], iR 4 (.p .mv) [(.t 17)]]) (.keep [4] (.keep [4] .ret))))), [(.t 4)]⟩
def s_ref1_Begins (call : CallK) (N : Nat) (a0 a1 : V) (H : Heap) (τ : Tape) (q : KV) : Ans := someK (pLenS [a0]) fun v0 => someK (pLenS [a1]) fun v1 => binK .geq v0 v1 fun v2 => gK v2 true (fun q' => q' a0 H τ) H τ fun v3 H4 τ5 => gK v2 true (fun q' => q' a1 H4 τ5) H4 τ5 fun v6 H7 τ8 => gK v2 true (fun q' => someK (pLenS [v6]) fun v => q' v H7 τ8) H7 τ8 fun v9 H10 τ11 => gK v2 true (fun q' => someK (pStrSlice false true [v3, v9]) fun v => q' v H10 τ11) H10 τ11 fun v12 H13 τ14 => gK v2 true (fun q' => q' a1 H13 τ14) H13 τ14 fun v15 H16 τ17 => gK v2 true (fun q' => binK .eql v12 v15 fun v => q' v H16 τ17) H16 τ17 fun v18 H19 τ20 => someK (pPick [v2, v18, (.bool false)]) fun v21 => q v21 H19 τ20
theorem s_ref1_Begins_eq (call : CallK) (N : Nat) (a0 a1 : V) (H : Heap) (τ : Tape) (q : KV) : s_ref1_Begins call N a0 a1 H τ q = funK call N fn_ref1_Begins [a0, a1] H τ q := by kernel_rfl
def e_ref1_Begins (call : CallK) (N : Nat) (vs : List V) (H : Heap) (τ : Tape) (q : KV) : Ans := match vs with | [a0, a1] => s_ref1_Begins call N a0 a1 H τ q | _ => none
theorem e_ref1_Begins_ok : EntOk fn_ref1_Begins e_ref1_Begins := by
  intro call N vs H τ q r h
  unfold e_ref1_Begins at h
  split at h
  · rw [s_ref1_Begins_eq] at h; exact h
  · cases h
theorem e_ref1_Begins_nat : EntNat e_ref1_Begins := by
  intro c hn N vs H τ q
  unfold e_ref1_Begins
  split
  · rw [s_ref1_Begins_eq, s_ref1_Begins_eq]; exact funK_ent hn _ _ _ _ _ _
  · rfl
/-- ostiary/ostiaryref3.rest -/
def fn_ref3_rest : Fun := ⟨2, (.seq (.reg [iR 7 (.p .mv) [(.t 1)], iR 8 (.call 240) [(.t 7), (.c (.int .u8 (.ofNat 63))), (.c (.int .u8 (.ofNat 63)))], iR 6 (.p .mv) [(.t 8)], iR 9 (.p (.extract 0)) [(.t 6)], iR 10 (.p (.extract 1)) [(.t 6)], iR 4 (.p .mv) [(.t 9)], iR 5 (.p .mv) [(.t 10)]]) (.keep [0, 1, 4] (.seq (.reg [iR 11 (.p .mv) [(.t 0)], iR 12 (.p .mv) [(.t 1)], iR 13 (.call 241) [(.t 11), (.t 12)]]) (.keep [0, 4] (.block 0 (.seq (.reg [iR 20 (.p .mv) [(.t 4)], iR 21 (.p (.bin .eql)) [(.t 20), (.c (.str []))], iR 22 (.p .mv) [(.t 21)], iG 23 22 true (.p .mv) [(.t 0)], iG 24 22 true (.p .nilck) [(.t 23)], iG 25 22 true (.p (.fieldAddr 0)) [(.t 24)], iG 26 22 true (.l (.load none)) [(.t 25)], iG 27 22 true (.call 130) [(.t 26)], iR 28 (.p .pick) [(.t 22), (.t 27), (.c (.bool false))], iR 19 (.p .mv) [(.t 28)]]) (.keep [0, 4, 19] (.cond (.t 19) (.reg [iR 29 (.p .mv) [(.t 0)],
    iR 30 (.e (.buildSlice 1 1 [(.str [])] [(0, 1)])) [(.c (.str []))], iR 31 (.p .nilck) [(.t 29)], iR 32 (.p (.fieldAddr 7)) [(.t 31)], ⟨none, none, (.e (.store 1)), [(.t 32), (.t 30)], none⟩]) (.seq (.reg [iR 34 (.p .mv) [(.t 4)], iR 35 (.p (.bin .eql)) [(.t 34), (.c (.str []))], iR 33 (.p .mv) [(.t 35)]]) (.keep [0, 4, 33] (.cond (.t 33) (.reg [iR 36 (.p .mv) [(.t 0)], iR 37 (.p .nilck) [(.t 36)], iR 38 (.p (.fieldAddr 7)) [(.t 37)], ⟨none, none, (.e (.store 1)), [(.t 38), (.c .nils)], none⟩]) (.seq (.reg [iR 40 (.p .mv) [(.t 4)], iR 41 (.p .strIndex) [(.t 40), (.c (.int .i64 (.ofNat 0)))], iR 42 (.p (.bin .eql)) [(.t 41), (.c (.int .u8 (.ofNat 47)))], iR 39 (.p .mv) [(.t 42)]]) (.keep [0, 4, 39] (.cond (.t 39) (.reg [iR 43 (.p .mv) [(.t 0)], iR 44 (.p .mv) [(.t 4)], iR 45 (.p (.strSlice true false)) [(.t 44), (.c (.int .i64 (.ofNat 1)))],
    iR 46 (.call 272) [(.c .nils), (.t 45)], iR 47 (.p .nilck) [(.t 43)], iR 48 (.p (.fieldAddr 7)) [(.t 47)], ⟨none, none, (.e (.store 1)), [(.t 48), (.t 46)], none⟩]) (.reg [iR 14 (.p .mv) [(.t 0)], iR 15 (.p .mv) [(.t 4)], iR 16 (.call 272) [(.c .nils), (.t 15)], iR 17 (.p .nilck) [(.t 14)], iR 18 (.p (.fieldAddr 7)) [(.t 17)], ⟨none, none, (.e (.store 1)), [(.t 18), (.t 16)], none⟩]))))))))))))))), []⟩
def s_ref3_rest (call : CallK) (N : Nat) (a0 a1 : V) (H : Heap) (τ : Tape) (q : KV) : Ans := call f_ref3_ahead [a1, (.int .u8 (.ofNat 63)), (.int .u8 (.ofNat 63))] H τ fun v0 H1 τ2 => someK (pExtract 0 [v0]) fun v3 => someK (pExtract 1 [v0]) fun v4 => call f_ref3_query [a0, a1] H1 τ2 fun v5 H6 τ7 => binK .eql v3 (.str []) fun v8 => gK v8 true (fun q' => q' a0 H6 τ7) H6 τ7 fun v9 H10 τ11 => gK v8 true (fun q' => someK (pNilck [v9]) fun v => q' v H10 τ11) H10 τ11 fun v12 H13 τ14 => gK v8 true (fun q' => someK (pFieldAddr 0 [v12]) fun v => q' v H13 τ14) H13 τ14 fun v15 H16 τ17 => gK v8 true (fun q' => someK (lLoad1 [v15] H16) fun v => q' v H16 τ17) H16 τ17 fun v18 H19 τ20 => gK v8 true (fun q' => call f_ref3_Special [v18] H19 τ20 q') H19 τ20 fun v21 H22 τ23 => someK (pPick [v8, v21, (.bool false)]) fun v24 => condK v24
    (effK (eBuildSlice 1 1 [(.str [])] [(0, 1)] [(.str [])] H22 τ23) fun v25 H26 τ27 => someK (pNilck [a0]) fun v28 => someK (pFieldAddr 7 [v28]) fun v29 => effK (eStore 1 [v29, v25] H26 τ27) fun v30 H31 τ32 => q (.tup []) H31 τ32) (binK .eql v3 (.str []) fun v33 => condK v33 (someK (pNilck [a0]) fun v34 => someK (pFieldAddr 7 [v34]) fun v35 => effK (eStore 1 [v35, .nils] H22 τ23) fun v36 H37 τ38 => q (.tup []) H37 τ38) (someK (pStrIndex [v3, (.int .i64 (.ofNat 0))]) fun v39 => binK .eql v39 (.int .u8 (.ofNat 47)) fun v40 => condK v40 (someK (pStrSlice true false [v3, (.int .i64 (.ofNat 1))]) fun v41 => call f_ref3_path [.nils, v41] H22 τ23 fun v42 H43 τ44 => someK (pNilck [a0]) fun v45 => someK (pFieldAddr 7 [v45]) fun v46 => effK (eStore 1 [v46, v42] H43 τ44) fun v47 H48 τ49 => q (.tup []) H48 τ49) (call f_ref3_path [.nils, v3] H22 τ23 fun v50 H51 τ52 =>
    someK (pNilck [a0]) fun v53 => someK (pFieldAddr 7 [v53]) fun v54 => effK (eStore 1 [v54, v50] H51 τ52) fun v55 H56 τ57 => q (.tup []) H56 τ57)))
theorem s_ref3_rest_eq (call : CallK) (N : Nat) (a0 a1 : V) (H : Heap) (τ : Tape) (q : KV) : s_ref3_rest call N a0 a1 H τ q = funK call N fn_ref3_rest [a0, a1] H τ q := by kernel_rfl
def e_ref3_rest (call : CallK) (N : Nat) (vs : List V) (H : Heap) (τ : Tape) (q : KV) : Ans := match vs with | [a0, a1] => s_ref3_rest call N a0 a1 H τ q | _ => none
theorem e_ref3_rest_ok : EntOk fn_ref3_rest e_ref3_rest := by
  intro call N vs H τ q r h
  unfold e_ref3_rest at h
  split at h
  · rw [s_ref3_rest_eq] at h; exact h
  · cases h
theorem e_ref3_rest_nat : EntNat e_ref3_rest := by
  intro c hn N vs H τ q
  unfold e_ref3_rest
  split
  · rw [s_ref3_rest_eq, s_ref3_rest_eq]; exact funK_ent hn _ _ _ _ _ _
  · rfl
/-- ostiary/ostiaryref3.ahead -/
def fn_ref3_ahead : Fun := ⟨3, (.seq (.reg [iR 6 (.p .mv) [(.c (.str []))], iR 7 (.p .mv) [(.c (.str []))]]) (.keep [0, 1, 2] (.seq (.seq (.reg [iR 8 (.p .mv) [(.c (.int .i64 (.ofNat 0)))]]) (.keep [0, 1, 2, 8] (.block 0 (.loop (.keep [0, 1, 2, 8] (.seq (.seq (.reg [iR 9 (.p .mv) [(.t 8)], iR 10 (.p .mv) [(.t 0)], iR 11 (.p .lenS) [(.t 10)], iR 12 (.p (.bin .lss)) [(.t 9), (.t 11)]]) (.keep [0, 1, 2, 8, 12] (.cond (.t 12) .skip (.keep [0] (.exit 0))))) (.keep [0, 1, 2, 8] (.seq (.block 1 (.seq (.reg [iR 15 (.p .mv) [(.t 0)], iR 16 (.p .mv) [(.t 8)], iR 17 (.p .strIndex) [(.t 15), (.t 16)], iR 18 (.p .mv) [(.t 1)], iR 19 (.p (.bin .eql)) [(.t 17), (.t 18)], iR 20 (.p .mv) [(.t 19)], iG 21 20 false (.p .mv) [(.t 0)], iG 22 20 false (.p .mv) [(.t 8)], iG 23 20 false (.p .strIndex) [(.t 21), (.t 22)], iG 24 20 false (.p .mv) [(.t 2)],
    iG 25 20 false (.p (.bin .eql)) [(.t 23), (.t 24)], iR 26 (.p .pick) [(.t 20), (.c (.bool true)), (.t 25)]]) (.keep [0, 1, 2, 8, 26] (.cond (.t 26) (.seq (.draw [iR 27 (.p .mv) [(.t 0)], iR 28 (.p .mv) [(.t 8)], iR 29 (.p (.strSlice false true)) [(.t 27), (.t 28)], iR 30 (.p .mv) [(.t 0)], iR 31 (.p .mv) [(.t 8)], iR 32 (.p (.strSlice true false)) [(.t 30), (.t 31)], iR 6 (.p .mv) [(.t 29)], iR 7 (.p .mv) [(.t 32)]]) (.keep [6, 7] (.keep [6, 7] .ret))) .skip)))) (.keep [0, 1, 2, 8] (.reg [iR 13 (.p .mv) [(.t 8)], iR 14 (.p (.bin .add)) [(.t 13), (.c (.int .i64 (.ofNat 1)))], iR 8 (.p .mv) [(.t 14)]])))))))))) (.keep [0] (.seq (.reg [iR 33 (.p .mv) [(.t 0)], iR 6 (.p .mv) [(.t 33)], iR 7 (.p .mv) [(.c (.str []))]]) (.keep [6, 7] (.keep [6, 7] .ret))))))), [(.t 6), (.t 7)]⟩
def s_ref3_ahead_j0 (call : CallK) (N : Nat) (q : KV) (st : St) (τ : Tape) : Ans := match st with
  | ⟨fr, H⟩ => getK fr 0 fun t0 => q (.tup [t0, (.str [])]) H τ
def s_ref3_ahead_l1 (call : CallK) (N : Nat) (st : St) (τ : Tape) (k : KC) : Ans := match st with
  | ⟨fr, H⟩ => getK fr 0 fun t0 => getK fr 1 fun t1 => getK fr 2 fun t2 => getK fr 8 fun t8 => someK (pLenS [t0]) fun v0 => binK .lss t8 v0 fun v1 => condK v1 (someK (pStrIndex [t0, t8]) fun v2 => binK .eql v2 t1 fun v3 => gK v3 false (fun q' => q' t0 H τ) H τ fun v4 H5 τ6 => gK v3 false (fun q' => q' t8 H5 τ6) H5 τ6 fun v7 H8 τ9 => gK v3 false (fun q' => someK (pStrIndex [v4, v7]) fun v => q' v H8 τ9) H8 τ9 fun v10 H11 τ12 => gK v3 false (fun q' => q' t2 H11 τ12) H11 τ12 fun v13 H14 τ15 => gK v3 false (fun q' => binK .eql v10 v13 fun v => q' v H14 τ15) H14 τ15 fun v16 H17 τ18 => someK (pPick [v3, (.bool true), v16]) fun v19 => condK v19 (someK (pStrSlice false true [t0, t8]) fun v20 => someK (pStrSlice true false [t0, t8]) fun v21 => k .ret ⟨(T.set (T.set .leaf 6 v20) 7 v21), H17⟩ τ18) (binK .add t8 (.int .i64 (.ofNat 1)) fun v22 =>
    k .normal ⟨(T.set (T.set (T.set (T.set (T.set (T.set (T.set .leaf 0 t0) 1 t1) 2 t2) 8 t8) 13 t8) 14 v22) 8 v22), H17⟩ τ18)) (k (.exit 0) ⟨(T.set .leaf 0 t0), H⟩ τ)
def s_ref3_ahead (call : CallK) (N : Nat) (a0 a1 a2 : V) (H : Heap) (τ : Tape) (q : KV) : Ans := loopK (s_ref3_ahead_l1 call N) N ⟨(T.set (T.set (T.set (T.set .leaf 0 a0) 1 a1) 2 a2) 8 (.int .i64 (.ofNat 0))), H⟩ τ (blockK 0 (seqK (s_ref3_ahead_j0 call N q) (endK [(.t 6), (.t 7)] q)))
theorem s_ref3_ahead_eq (call : CallK) (N : Nat) (a0 a1 a2 : V) (H : Heap) (τ : Tape) (q : KV) : s_ref3_ahead call N a0 a1 a2 H τ q = funK call N fn_ref3_ahead [a0, a1, a2] H τ q := by kernel_rfl
def e_ref3_ahead (call : CallK) (N : Nat) (vs : List V) (H : Heap) (τ : Tape) (q : KV) : Ans := match vs with | [a0, a1, a2] => s_ref3_ahead call N a0 a1 a2 H τ q | _ => none
theorem e_ref3_ahead_ok : EntOk fn_ref3_ahead e_ref3_ahead := by
  intro call N vs H τ q r h
  unfold e_ref3_ahead at h
  split at h
  · rw [s_ref3_ahead_eq] at h; exact h
  · cases h
theorem e_ref3_ahead_nat : EntNat e_ref3_ahead := by
  intro c hn N vs H τ q
  unfold e_ref3_ahead
  split
  · rw [s_ref3_ahead_eq, s_ref3_ahead_eq]; exact funK_ent hn _ _ _ _ _ _
  · rfl
/-- ostiary/ostiaryref3.query -/
def fn_ref3_query : Fun := ⟨2, (.seq (.reg [iR 9 (.p .mv) [(.t 1)], iR 10 (.call 230) [(.t 9), (.c (.int .u8 (.ofNat 63)))], iR 8 (.p .mv) [(.t 10)], iR 11 (.p (.extract 0)) [(.t 8)], iR 12 (.p (.extract 1)) [(.t 8)], iR 13 (.p (.extract 2)) [(.t 8)], iR 4 (.p .mv) [(.t 11)], iR 5 (.p .mv) [(.t 12)], iR 6 (.p .mv) [(.t 13)]]) (.keep [0, 5, 6] (.seq (.seq (.reg [iR 14 (.p .mv) [(.t 6)], iR 15 (.p (.un .not)) [(.t 14)]]) (.keep [0, 5, 15] (.cond (.t 15) (.keep [] .ret) .skip))) (.keep [0, 5] (.seq (.reg [iR 16 (.p .mv) [(.t 0)], iR 17 (.p .nilck) [(.t 16)], iR 18 (.p (.fieldAddr 10)) [(.t 17)], ⟨none, none, (.e (.store 1)), [(.t 18), (.c (.bool true))], none⟩]) (.keep [0, 5] (.seq (.reg [iR 7 (.p .mv) [(.c (.int .i64 (.ofNat 3)))]]) (.keep [0, 5, 7] (.seq (.seq (.reg [iR 19 (.p .mv) [(.t 0)], iR 20 (.p .nilck) [(.t 19)], iR 21 (.p (.fieldAddr 0)) [(.t 20)],
    iR 22 (.l (.load none)) [(.t 21)], iR 23 (.call 130) [(.t 22)]]) (.keep [0, 5, 7, 23] (.cond (.t 23) (.reg [iR 7 (.p .mv) [(.c (.int .i64 (.ofNat 4)))]]) .skip))) (.keep [0, 5, 7] (.reg [iR 24 (.p .mv) [(.t 0)], iR 25 (.p .mv) [(.t 5)], iR 26 (.p .mv) [(.t 7)], iR 27 (.call 231) [(.t 25), (.t 26)], iR 28 (.p .nilck) [(.t 24)], iR 29 (.p (.fieldAddr 8)) [(.t 28)], ⟨none, none, (.e (.store 1)), [(.t 29), (.t 27)], none⟩]))))))))))), []⟩
def s_ref3_query_j0 (call : CallK) (N : Nat) (q : KV) (st : St) (τ : Tape) : Ans := match st with
  | ⟨fr, H⟩ => getK fr 0 fun t0 => getK fr 5 fun t5 => getK fr 7 fun t7 => call f_ref1_Percent [t5, t7] H τ fun v18 H19 τ20 => someK (pNilck [t0]) fun v21 => someK (pFieldAddr 8 [v21]) fun v22 => effK (eStore 1 [v22, v18] H19 τ20) fun v23 H24 τ25 => q (.tup []) H24 τ25
def s_ref3_query (call : CallK) (N : Nat) (a0 a1 : V) (H : Heap) (τ : Tape) (q : KV) : Ans := call f_ref1_Part [a1, (.int .u8 (.ofNat 63))] H τ fun v0 H1 τ2 => someK (pExtract 0 [v0]) fun v3 => someK (pExtract 1 [v0]) fun v4 => someK (pExtract 2 [v0]) fun v5 => unK .not v5 fun v6 => condK v6 (q (.tup []) H1 τ2) (someK (pNilck [a0]) fun v7 => someK (pFieldAddr 10 [v7]) fun v8 => effK (eStore 1 [v8, (.bool true)] H1 τ2) fun v9 H10 τ11 => someK (pNilck [a0]) fun v12 => someK (pFieldAddr 0 [v12]) fun v13 => someK (lLoad1 [v13] H10) fun v14 => call f_ref3_Special [v14] H10 τ11 fun v15 H16 τ17 => condK v15 (s_ref3_query_j0 call N q ⟨(T.set (T.set (T.set (T.set (T.set .leaf 0 a0) 5 v4) 7 (.int .i64 (.ofNat 3))) 23 v15) 7 (.int .i64 (.ofNat 4))), H16⟩ τ17) (s_ref3_query_j0 call N q ⟨(T.set (T.set (T.set (T.set .leaf 0 a0) 5 v4) 7 (.int .i64 (.ofNat 3))) 23 v15), H16⟩ τ17))
theorem s_ref3_query_eq (call : CallK) (N : Nat) (a0 a1 : V) (H : Heap) (τ : Tape) (q : KV) : s_ref3_query call N a0 a1 H τ q = funK call N fn_ref3_query [a0, a1] H τ q := by kernel_rfl
def e_ref3_query (call : CallK) (N : Nat) (vs : List V) (H : Heap) (τ : Tape) (q : KV) : Ans := match vs with | [a0, a1] => s_ref3_query call N a0 a1 H τ q | _ => none
theorem e_ref3_query_ok : EntOk fn_ref3_query e_ref3_query := by
  intro call N vs H τ q r h
  unfold e_ref3_query at h
  split at h
  · rw [s_ref3_query_eq] at h; exact h
  · cases h
theorem e_ref3_query_nat : EntNat e_ref3_query := by
  intro c hn N vs H τ q
  unfold e_ref3_query
  split
  · rw [s_ref3_query_eq, s_ref3_query_eq]; exact funK_ent hn _ _ _ _ _ _
  · rfl
end Go.Am.X
