/- Texts for the law DigestSums: the machine, printed functions of the program, and what they are shown to be. -/
import Derived.Test.YtbiimljinilefaaDoorSM3
import Derived.KernelRfl
namespace Go.Am.AmTrydDig
set_option maxRecDepth 1000000
set_option linter.unusedVariables false
/-- the text's tables -/
def st0 : List (Option (List V)) := [some [(.int .i64 (.ofNat 32)), (.int .i64 (.ofNat 64)), (.int .i64 (.ofNat 7)), (.int .i64 (.ofNat 18)), (.int .i64 (.ofNat 3)), (.int .i64 (.ofNat 17)), (.int .i64 (.ofNat 19)), (.int .i64 (.ofNat 10)), (.int .i64 (.ofNat 2)), (.int .i64 (.ofNat 13)), (.int .i64 (.ofNat 22)), (.int .i64 (.ofNat 6)), (.int .i64 (.ofNat 11)), (.int .i64 (.ofNat 25)), (.int .i64 (.ofNat 64)), (.int .i64 (.ofNat 8)), (.int .i64 (.ofNat 32))],
  some [(.int .u32 (.ofNat 1779033703)), (.int .u32 (.ofNat 3144134277)), (.int .u32 (.ofNat 1013904242)), (.int .u32 (.ofNat 2773480762)), (.int .u32 (.ofNat 1359893119)), (.int .u32 (.ofNat 2600822924)), (.int .u32 (.ofNat 528734635)), (.int .u32 (.ofNat 1541459225))],
  some [(.int .i64 (.ofNat 64)), (.int .i64 (.ofNat 80)), (.int .i64 (.ofNat 1)), (.int .i64 (.ofNat 8)), (.int .i64 (.ofNat 7)), (.int .i64 (.ofNat 19)), (.int .i64 (.ofNat 61)), (.int .i64 (.ofNat 6)), (.int .i64 (.ofNat 28)), (.int .i64 (.ofNat 34)), (.int .i64 (.ofNat 39)), (.int .i64 (.ofNat 14)), (.int .i64 (.ofNat 18)), (.int .i64 (.ofNat 41)), (.int .i64 (.ofNat 128)), (.int .i64 (.ofNat 16)), (.int .i64 (.ofNat 64))],
  some [(.int .u64 (.ofNat 14680500436340154072)), (.int .u64 (.ofNat 7105036623409894663)), (.int .u64 (.ofNat 10473403895298186519)), (.int .u64 (.ofNat 1526699215303891257)), (.int .u64 (.ofNat 7436329637833083697)), (.int .u64 (.ofNat 10282925794625328401)), (.int .u64 (.ofNat 15784041429090275239)), (.int .u64 (.ofNat 5167115440072839076))],
  some [(.int .u64 (.ofNat 7640891576956012808)), (.int .u64 (.ofNat 13503953896175478587)), (.int .u64 (.ofNat 4354685564936845355)), (.int .u64 (.ofNat 11912009170470909681)), (.int .u64 (.ofNat 5840696475078001361)), (.int .u64 (.ofNat 11170449401992604703)), (.int .u64 (.ofNat 2270897969802886507)), (.int .u64 (.ofNat 6620516959819538809))],
  some [(.int .u64 (.ofNat 4794697086780616226)), (.int .u64 (.ofNat 8158064640168781261)), (.int .u64 (.ofNat 13096744586834688815)), (.int .u64 (.ofNat 16840607885511220156)), (.int .u64 (.ofNat 4131703408338449720)), (.int .u64 (.ofNat 6480981068601479193)), (.int .u64 (.ofNat 10538285296894168987)), (.int .u64 (.ofNat 12329834152419229976)), (.int .u64 (.ofNat 15566598209576043074)), (.int .u64 (.ofNat 1334009975649890238)), (.int .u64 (.ofNat 2608012711638119052)), (.int .u64 (.ofNat 6128411473006802146)), (.int .u64 (.ofNat 8268148722764581231)), (.int .u64 (.ofNat 9286055187155687089)), (.int .u64 (.ofNat 11230858885718282805)), (.int .u64 (.ofNat 13951009754708518548)), (.int .u64 (.ofNat 16472876342353939154)), (.int .u64 (.ofNat 17275323862435702243)), (.int .u64 (.ofNat 1135362057144423861)), (.int .u64 (.ofNat 2597628984639134821)), (.int .u64 (.ofNat 3308224258029322869)), (.int .u64 (.ofNat 5365058923640841347)), (.int .u64 (.ofNat 6679025012923562964)), (.int .u64 (.ofNat 8573033837759648693)), (.int .u64 (.ofNat 10970295158949994411)), (.int .u64 (.ofNat 12119686244451234320)), (.int .u64 (.ofNat 12683024718118986047)), (.int .u64 (.ofNat 13788192230050041572)), (.int .u64 (.ofNat 14330467153632333762)), (.int .u64 (.ofNat 15395433587784984357)), (.int .u64 (.ofNat 489312712824947311)), (.int .u64 (.ofNat 1452737877330783856)), (.int .u64 (.ofNat 2861767655752347644)), (.int .u64 (.ofNat 3322285676063803686)), (.int .u64 (.ofNat 5560940570517711597)), (.int .u64 (.ofNat 5996557281743188959)), (.int .u64 (.ofNat 7280758554555802590)), (.int .u64 (.ofNat 8532644243296465576)), (.int .u64 (.ofNat 9350256976987008742)), (.int .u64 (.ofNat 10552545826968843579)), (.int .u64 (.ofNat 11727347734174303076)), (.int .u64 (.ofNat 12113106623233404929)), (.int .u64 (.ofNat 14000437183269869457)), (.int .u64 (.ofNat 14369950271660146224)), (.int .u64 (.ofNat 15101387698204529176)), (.int .u64 (.ofNat 15463397548674623760)), (.int .u64 (.ofNat 17586052441742319658)), (.int .u64 (.ofNat 1182934255886127544)), (.int .u64 (.ofNat 1847814050463011016)), (.int .u64 (.ofNat 2177327727835720531)), (.int .u64 (.ofNat 2830643537854262169)), (.int .u64 (.ofNat 3796741975233480872)), (.int .u64 (.ofNat 4115178125766777443)), (.int .u64 (.ofNat 5681478168544905931)), (.int .u64 (.ofNat 6601373596472566643)), (.int .u64 (.ofNat 7507060721942968483)), (.int .u64 (.ofNat 8399075790359081724)), (.int .u64 (.ofNat 8693463985226723168)), (.int .u64 (.ofNat 9568029438360202098)), (.int .u64 (.ofNat 10144078919501101548)), (.int .u64 (.ofNat 10430055236837252648)), (.int .u64 (.ofNat 11840083180663258601)), (.int .u64 (.ofNat 13761210420658862357)), (.int .u64 (.ofNat 14299343276471374635)), (.int .u64 (.ofNat 14566680578165727644)), (.int .u64 (.ofNat 15097957966210449927)), (.int .u64 (.ofNat 16922976911328602910)), (.int .u64 (.ofNat 17689382322260857208)), (.int .u64 (.ofNat 500013540394364858)), (.int .u64 (.ofNat 748580250866718886)), (.int .u64 (.ofNat 1242879168328830382)), (.int .u64 (.ofNat 1977374033974150939)), (.int .u64 (.ofNat 2944078676154940804)), (.int .u64 (.ofNat 3659926193048069267)), (.int .u64 (.ofNat 4368137639120453308)), (.int .u64 (.ofNat 4836135668995329356)), (.int .u64 (.ofNat 5532061633213252278)), (.int .u64 (.ofNat 6448918945643986474)), (.int .u64 (.ofNat 6902733635092675308)), (.int .u64 (.ofNat 7801388544844847127))]]
/-- ostiary/ostiarylaw8.DigestSums -/
def fn4 : Fun := ⟨3,
  (.seq (.reg [⟨(some 6), none, (.p .mv), [(.c (.bool false))], none⟩])
  (.keep [0, 1, 2] (.seq (.reg [⟨(some 15), none, (.p .mv), [(.t 1)], none⟩,
    ⟨(some 16), none, (.call 11), [(.t 15), (.c (.int .i64 (.ofNat 1000)))], none⟩,
    ⟨(some 1), none, (.p .mv), [(.t 16)], none⟩])
  (.keep [0, 1, 2] (.seq (.reg [⟨(some 17), none, (.call 12), [], none⟩,
    ⟨(some 7), none, (.p .mv), [(.t 17)], none⟩])
  (.keep [0, 1, 2, 7] (.seq (.reg [⟨(some 18), none, (.p .mv), [(.t 1)], none⟩,
    ⟨(some 19), none, (.call 13), [(.t 18), (.c (.int .u8 (.ofNat 165)))], none⟩,
    ⟨(some 8), none, (.p .mv), [(.t 19)], none⟩])
  (.keep [0, 1, 2, 7, 8] (.seq (.reg [⟨(some 20), none, (.p .mv), [(.t 0)], none⟩,
    ⟨(some 21), none, (.e (.buildSlice 4 1 [(.int .i64 (.ofNat 0)), (.int .i64 (.ofNat 0)), (.int .i64 (.ofNat 0)), (.int .i64 (.ofNat 0))] [(0, 1), (1, 1), (2, 1), (3, 1)])), [(.c (.int .i64 (.ofNat 256))), (.c (.int .i64 (.ofNat 384))), (.c (.int .i64 (.ofNat 512))), (.t 20)], none⟩,
    ⟨(some 9), none, (.p .mv), [(.t 21)], none⟩])
  (.keep [1, 2, 7, 8, 9] (.seq (.seq (.reg [⟨(some 10), none, (.p .mv), [(.c (.int .i64 (.ofNat 0)))], none⟩])
  (.keep [1, 2, 7, 8, 9, 10] (.block 0
   (.loop
    (.keep [1, 2, 7, 8, 9, 10] (.seq (.seq (.reg [⟨(some 22), none, (.p .mv), [(.t 10)], none⟩,
      ⟨(some 23), none, (.p .mv), [(.t 9)], none⟩,
      ⟨(some 24), none, (.p .len), [(.t 23)], none⟩,
      ⟨(some 25), none, (.p (.bin .lss)), [(.t 22), (.t 24)], none⟩])
    (.keep [1, 2, 7, 8, 9, 10, 25] (.cond (.t 25)
     .skip
     (.keep [1, 2, 8] (.exit 0)))))
    (.keep [1, 2, 7, 8, 9, 10] (.seq (.block 1
     (.seq (.draw [⟨(some 29), none, (.p .mv), [(.t 9)], none⟩,
       ⟨(some 30), none, (.p .mv), [(.t 10)], none⟩,
       ⟨(some 31), none, (.p (.slIdx 1)), [(.t 29), (.t 30)], none⟩,
       ⟨(some 32), none, (.l (.load none)), [(.t 31)], none⟩,
       ⟨(some 33), none, (.p .mv), [(.t 8)], none⟩,
       ⟨(some 34), none, (.p .mv), [(.t 1)], none⟩,
       ⟨(some 35), none, (.p .len), [(.t 34)], none⟩,
       ⟨(some 36), none, (.p (.slSlice 1 false true false)), [(.t 33), (.t 35)], none⟩,
       ⟨(some 37), none, (.call 7), [(.t 32), (.t 36)], none⟩,
       ⟨(some 28), none, (.p .mv), [(.t 37)], none⟩,
       ⟨(some 38), none, (.p (.extract 0)), [(.t 28)], none⟩,
       ⟨(some 39), none, (.p (.extract 1)), [(.t 28)], none⟩,
       ⟨(some 11), none, (.p .mv), [(.t 38)], none⟩,
       ⟨(some 12), none, (.p .mv), [(.t 39)], none⟩])
     (.keep [1, 2, 7, 8, 9, 10, 11, 12] (.seq (.reg [⟨(some 41), none, (.p .mv), [(.t 7)], none⟩,
       ⟨(some 42), none, (.p .mv), [(.t 9)], none⟩,
       ⟨(some 43), none, (.p .mv), [(.t 10)], none⟩,
       ⟨(some 44), none, (.p (.slIdx 1)), [(.t 42), (.t 43)], none⟩,
       ⟨(some 45), none, (.l (.load none)), [(.t 44)], none⟩,
       ⟨(some 46), none, (.p .mv), [(.t 1)], none⟩,
       ⟨(some 47), none, (.call 14), [(.t 41), (.t 45), (.t 46)], none⟩,
       ⟨(some 40), none, (.p .mv), [(.t 47)], none⟩,
       ⟨(some 48), none, (.p (.extract 0)), [(.t 40)], none⟩,
       ⟨(some 49), none, (.p (.extract 1)), [(.t 40)], none⟩,
       ⟨(some 13), none, (.p .mv), [(.t 48)], none⟩,
       ⟨(some 14), none, (.p .mv), [(.t 49)], none⟩])
     (.keep [1, 2, 7, 8, 9, 10, 11, 12, 13, 14] (.seq (.reg [⟨(some 50), none, (.p .mv), [(.t 12)], none⟩,
       ⟨(some 51), none, (.p (.bin .eql)), [(.t 50), (.c (.int .i64 (.ofNat 0)))], none⟩,
       ⟨(some 52), none, (.p .mv), [(.t 14)], none⟩,
       ⟨(some 53), none, (.p (.eq true .bool)), [(.t 51), (.t 52)], none⟩,
       ⟨(some 54), none, (.p .mv), [(.t 53)], none⟩,
       ⟨(some 55), some (54, false), (.p .mv), [(.t 11)], none⟩,
       ⟨(some 56), some (54, false), (.l .bytesStr), [(.t 55)], none⟩,
       ⟨(some 57), some (54, false), (.p .mv), [(.t 13)], none⟩,
       ⟨(some 58), some (54, false), (.l .bytesStr), [(.t 57)], none⟩,
       ⟨(some 59), some (54, false), (.p (.bin .neq)), [(.t 56), (.t 58)], none⟩,
       ⟨(some 60), none, (.p .pick), [(.t 54), (.c (.bool true)), (.t 59)], none⟩,
       ⟨(some 61), none, (.p .mv), [(.t 60)], none⟩,
       ⟨(some 62), some (61, false), (.p .mv), [(.t 14)], none⟩,
       ⟨(some 63), some (61, false), (.p (.un .not)), [(.t 62)], none⟩,
       ⟨(some 64), some (61, false), (.p .mv), [(.t 63)], none⟩,
       ⟨(some 65), some (64, true), (.p .mv), [(.t 12)], none⟩,
       ⟨(some 66), some (64, true), (.p (.bin .neq)), [(.t 65), (.c (.int .i64 (.ofNat 1)))], none⟩,
       ⟨(some 67), some (61, false), (.p .pick), [(.t 64), (.t 66), (.c (.bool false))], none⟩,
       ⟨(some 68), none, (.p .pick), [(.t 61), (.c (.bool true)), (.t 67)], none⟩])
     (.keep [1, 2, 7, 8, 9, 10, 68] (.cond (.t 68)
      (.seq (.reg [⟨(some 6), none, (.p .mv), [(.c (.bool false))], none⟩])
      (.keep [6] (.keep [6] .ret)))
      .skip))))))))
    (.keep [1, 2, 7, 8, 9, 10] (.reg [⟨(some 26), none, (.p .mv), [(.t 10)], none⟩,
      ⟨(some 27), none, (.p (.bin .add)), [(.t 26), (.c (.int .i64 (.ofNat 1)))], none⟩,
      ⟨(some 10), none, (.p .mv), [(.t 27)], none⟩]))))))))))
  (.keep [1, 2, 8] (.seq (.draw [⟨(some 69), none, (.p .mv), [(.t 1)], none⟩,
    ⟨(some 70), none, (.p .mv), [(.t 2)], none⟩,
    ⟨(some 71), none, (.call 9), [(.t 69), (.t 70)], none⟩,
    ⟨(some 72), none, (.p .mv), [(.t 1)], none⟩,
    ⟨(some 73), none, (.l .bytesStr), [(.t 72)], some (0, 1)⟩,
    ⟨(some 74), none, (.p .mv), [(.t 2)], none⟩,
    ⟨(some 75), none, (.l .bytesStr), [(.t 74)], some (0, 1)⟩,
    ⟨(some 76), none, (.p (.bin .eql)), [(.t 73), (.t 75)], none⟩,
    ⟨(some 77), none, (.p (.eq false .bool)), [(.t 71), (.t 76)], none⟩,
    ⟨(some 78), none, (.p .mv), [(.t 77)], none⟩,
    ⟨(some 79), some (78, true), (.p .mv), [(.t 8)], none⟩,
    ⟨(some 80), some (78, true), (.p .mv), [(.t 1)], none⟩,
    ⟨(some 81), some (78, true), (.call 15), [(.t 79), (.t 80), (.c (.int .u8 (.ofNat 165)))], none⟩,
    ⟨(some 82), none, (.p .pick), [(.t 78), (.t 81), (.c (.bool false))], none⟩,
    ⟨(some 83), none, (.p .mv), [(.t 82)], none⟩,
    ⟨(some 84), some (83, true), (.call 10), [], none⟩,
    ⟨(some 85), none, (.p .pick), [(.t 83), (.t 84), (.c (.bool false))], none⟩,
    ⟨(some 6), none, (.p .mv), [(.t 85)], none⟩])
  (.keep [6] (.keep [6] .ret))))))))))))))),
  [(.t 6)]⟩
def s4_j0 (call : CallK) (N : Nat) (q : KV) (st : St) (τ : Tape) : Ans :=
  match st with
  | ⟨fr, H⟩ =>
  getK fr 1 fun t1 =>
  getK fr 2 fun t2 =>
  getK fr 8 fun t8 =>
  call 9 [t1, t2] H τ fun v12 H13 τ14 =>
  someK (lBytesStr [t1] H13) fun v15 =>
  someK (lBytesStr [t2] H13) fun v16 =>
  binK .eql v15 v16 fun v17 =>
  someK (pEq false .bool [v12, v17]) fun v18 =>
  gK v18 true (fun q' => q' t8 H13 τ14) H13 τ14 fun v19 H20 τ21 =>
  gK v18 true (fun q' => q' t1 H20 τ21) H20 τ21 fun v22 H23 τ24 =>
  gK v18 true (fun q' => call 15 [v19, v22, (.int .u8 (.ofNat 165))] H23 τ24 q') H23 τ24 fun v25 H26 τ27 =>
  someK (pPick [v18, v25, (.bool false)]) fun v28 =>
  gK v28 true (fun q' => call 10 [] H26 τ27 q') H26 τ27 fun v29 H30 τ31 =>
  someK (pPick [v28, v29, (.bool false)]) fun v32 =>
  bif chkLoads [H, H13, H26, H30] ((.bytesStr, [t2], 0, 1) :: ((.bytesStr, [t1], 0, 1) :: [])) then
  q v32 H30 τ31
  else none
def s4_l1 (call : CallK) (N : Nat) (st : St) (τ : Tape) (k : KC) : Ans :=
  match st with
  | ⟨fr, H⟩ =>
  getK fr 1 fun t1 =>
  getK fr 2 fun t2 =>
  getK fr 7 fun t7 =>
  getK fr 8 fun t8 =>
  getK fr 9 fun t9 =>
  getK fr 10 fun t10 =>
  someK (pLen [t9]) fun v33 =>
  binK .lss t10 v33 fun v34 =>
  condK v34
    (someK (pSlIdx 1 [t9, t10]) fun v35 =>
  someK (lLoad1 [v35] H) fun v36 =>
  someK (pLen [t1]) fun v37 =>
  someK (pSlSlice 1 false true false [t8, v37]) fun v38 =>
  call 7 [v36, v38] H τ fun v39 H40 τ41 =>
  someK (pExtract 0 [v39]) fun v42 =>
  someK (pExtract 1 [v39]) fun v43 =>
  someK (pSlIdx 1 [t9, t10]) fun v44 =>
  someK (lLoad1 [v44] H40) fun v45 =>
  call 14 [t7, v45, t1] H40 τ41 fun v46 H47 τ48 =>
  someK (pExtract 0 [v46]) fun v49 =>
  someK (pExtract 1 [v46]) fun v50 =>
  binK .eql v43 (.int .i64 (.ofNat 0)) fun v51 =>
  someK (pEq true .bool [v51, v50]) fun v52 =>
  gK v52 false (fun q' => q' v42 H47 τ48) H47 τ48 fun v53 H54 τ55 =>
  gK v52 false (fun q' => someK (lBytesStr [v53] H54) fun v => q' v H54 τ55) H54 τ55 fun v56 H57 τ58 =>
  gK v52 false (fun q' => q' v49 H57 τ58) H57 τ58 fun v59 H60 τ61 =>
  gK v52 false (fun q' => someK (lBytesStr [v59] H60) fun v => q' v H60 τ61) H60 τ61 fun v62 H63 τ64 =>
  gK v52 false (fun q' => binK .neq v56 v62 fun v => q' v H63 τ64) H63 τ64 fun v65 H66 τ67 =>
  someK (pPick [v52, (.bool true), v65]) fun v68 =>
  gK v68 false (fun q' => q' v50 H66 τ67) H66 τ67 fun v69 H70 τ71 =>
  gK v68 false (fun q' => unK .not v69 fun v => q' v H70 τ71) H70 τ71 fun v72 H73 τ74 =>
  gK v68 false (fun q' => q' v72 H73 τ74) H73 τ74 fun v75 H76 τ77 =>
  gK v75 true (fun q' => q' v43 H76 τ77) H76 τ77 fun v78 H79 τ80 =>
  gK v75 true (fun q' => binK .neq v78 (.int .i64 (.ofNat 1)) fun v => q' v H79 τ80) H79 τ80 fun v81 H82 τ83 =>
  gK v68 false (fun q' => someK (pPick [v75, v81, (.bool false)]) fun v => q' v H82 τ83) H82 τ83 fun v84 H85 τ86 =>
  someK (pPick [v68, (.bool true), v84]) fun v87 =>
  condK v87
    (k .ret ⟨(T.set .leaf 6 (.bool false)), H85⟩ τ86)
    (binK .add t10 (.int .i64 (.ofNat 1)) fun v88 =>
  k .normal ⟨(T.set (T.set (T.set (T.set (T.set (T.set (T.set (T.set (T.set .leaf 1 t1) 2 t2) 7 t7) 8 t8) 9 t9) 10 t10) 26 t10) 27 v88) 10 v88), H85⟩ τ86))
    (k (.exit 0) ⟨(T.set (T.set (T.set .leaf 1 t1) 2 t2) 8 t8), H⟩ τ)
def s4 (call : CallK) (N : Nat) (a0 a1 a2 : V) (H : Heap) (τ : Tape) (q : KV) : Ans :=
  call 11 [a1, (.int .i64 (.ofNat 1000))] H τ fun v0 H1 τ2 =>
  call 12 [] H1 τ2 fun v3 H4 τ5 =>
  call 13 [v0, (.int .u8 (.ofNat 165))] H4 τ5 fun v6 H7 τ8 =>
  effK (eBuildSlice 4 1 [(.int .i64 (.ofNat 0)), (.int .i64 (.ofNat 0)), (.int .i64 (.ofNat 0)), (.int .i64 (.ofNat 0))] [(0, 1), (1, 1), (2, 1), (3, 1)] [(.int .i64 (.ofNat 256)), (.int .i64 (.ofNat 384)), (.int .i64 (.ofNat 512)), a0] H7 τ8) fun v9 H10 τ11 =>
  loopK (s4_l1 call N) N ⟨(T.set (T.set (T.set (T.set (T.set (T.set .leaf 1 v0) 2 a2) 7 v3) 8 v6) 9 v9) 10 (.int .i64 (.ofNat 0))), H10⟩ τ11 (blockK 0 (seqK (s4_j0 call N q) (endK [(.t 6)] q)))
theorem s4_eq (call : CallK) (N : Nat) (a0 a1 a2 : V) (H : Heap) (τ : Tape) (q : KV) : s4 call N a0 a1 a2 H τ q = funK call N fn4 [a0, a1, a2] H τ q := by kernel_rfl
def e4 (call : CallK) (N : Nat) (vs : List V) (H : Heap) (τ : Tape) (q : KV) : Ans := match vs with | [a0, a1, a2] => s4 call N a0 a1 a2 H τ q | _ => none
theorem e4_ok : EntOk fn4 e4 := by
  intro call N vs H τ q r h
  unfold e4 at h
  split at h
  · rw [s4_eq] at h; exact h
  · cases h
theorem e4_nat : EntNat e4 := by
  intro c hn N vs H τ q
  unfold e4
  split
  · rw [s4_eq, s4_eq]; exact funK_ent hn _ _ _ _ _ _
  · rfl
/-- ostiary/ostiarylaw8.DigestEdges -/
def fn5 : Fun := ⟨2,
  (.seq (.reg [⟨(some 4), none, (.p .mv), [(.c (.bool false))], none⟩])
  (.keep [0, 1] (.seq (.reg [⟨(some 14), none, (.call 12), [], none⟩,
    ⟨(some 5), none, (.p .mv), [(.t 14)], none⟩])
  (.keep [0, 1, 5] (.seq (.reg [⟨(some 15), none, (.p .mv), [(.t 0)], none⟩,
    ⟨(some 16), none, (.call 16), [(.t 15), (.c (.int .i64 (.ofNat 0))), (.c (.int .i64 (.ofNat 260)))], none⟩,
    ⟨(some 0), none, (.p .mv), [(.t 16)], none⟩])
  (.keep [0, 1, 5] (.seq (.reg [⟨(some 17), none, (.p .mv), [(.t 0)], none⟩,
    ⟨(some 18), none, (.e (.makeSlice 1 1 [(.int .u8 (.ofNat 0))])), [(.t 17), (.t 17)], none⟩,
    ⟨(some 6), none, (.p .mv), [(.t 18)], none⟩])
  (.keep [0, 1, 5, 6] (.seq (.seq (.reg [⟨(some 7), none, (.p .mv), [(.c (.int .i64 (.ofNat 0)))], none⟩])
  (.keep [0, 1, 5, 6, 7] (.block 0
   (.loop
    (.keep [0, 1, 5, 6, 7] (.seq (.seq (.reg [⟨(some 19), none, (.p .mv), [(.t 7)], none⟩,
      ⟨(some 20), none, (.p .mv), [(.t 0)], none⟩,
      ⟨(some 21), none, (.p (.bin .lss)), [(.t 19), (.t 20)], none⟩])
    (.keep [0, 1, 5, 6, 7, 21] (.cond (.t 21)
     .skip
     (.keep [5, 6] (.exit 0)))))
    (.keep [0, 1, 5, 6, 7] (.seq (.block 1
     (.reg [⟨(some 24), none, (.p .mv), [(.t 6)], none⟩,
       ⟨(some 25), none, (.p .mv), [(.t 7)], none⟩,
       ⟨(some 26), none, (.p .mv), [(.t 1)], none⟩,
       ⟨(some 27), none, (.p .mv), [(.t 7)], none⟩,
       ⟨(some 28), none, (.p (.toInt .u8)), [(.t 27)], none⟩,
       ⟨(some 29), none, (.p (.bin .add)), [(.t 26), (.t 28)], none⟩,
       ⟨(some 30), none, (.p (.slIdx 1)), [(.t 24), (.t 25)], none⟩,
       ⟨none, none, (.e (.store 1)), [(.t 30), (.t 29)], none⟩]))
    (.keep [0, 1, 5, 6, 7] (.reg [⟨(some 22), none, (.p .mv), [(.t 7)], none⟩,
      ⟨(some 23), none, (.p (.bin .add)), [(.t 22), (.c (.int .i64 (.ofNat 1)))], none⟩,
      ⟨(some 7), none, (.p .mv), [(.t 23)], none⟩]))))))))))
  (.keep [5, 6] (.seq (.seq (.reg [⟨(some 31), none, (.e (.buildSlice 3 1 [(.int .i64 (.ofNat 0)), (.int .i64 (.ofNat 0)), (.int .i64 (.ofNat 0))] [(0, 1), (1, 1), (2, 1)])), [(.c (.int .i64 (.ofNat 256))), (.c (.int .i64 (.ofNat 384))), (.c (.int .i64 (.ofNat 512)))], none⟩,
    ⟨(some 32), none, (.p .len), [(.t 31)], none⟩,
    ⟨(some 33), none, (.p .mv), [(.c (.int .i64 (.ofNat 0)))], none⟩])
  (.keep [5, 6, 31, 32, 33] (.block 2
   (.loop
    (.keep [5, 6, 31, 32, 33] (.seq (.reg [⟨(some 34), none, (.p (.bin .lss)), [(.t 33), (.t 32)], none⟩])
    (.keep [5, 6, 31, 32, 33, 34] (.seq (.cond (.t 34)
     .skip
     (.keep [] (.exit 2)))
    (.keep [5, 6, 31, 32, 33] (.seq (.block 3
     (.seq (.reg [⟨(some 35), none, (.p (.slIdx 1)), [(.t 31), (.t 33)], none⟩,
       ⟨(some 36), none, (.l (.load none)), [(.t 35)], none⟩,
       ⟨(some 9), none, (.p .mv), [(.t 36)], none⟩])
     (.keep [5, 6, 9, 31, 32, 33] (.seq (.reg [⟨(some 38), none, (.p .mv), [(.t 9)], none⟩,
       ⟨(some 39), none, (.p .mv), [(.t 6)], none⟩,
       ⟨(some 40), none, (.call 7), [(.t 38), (.t 39)], none⟩,
       ⟨(some 37), none, (.p .mv), [(.t 40)], none⟩,
       ⟨(some 41), none, (.p (.extract 0)), [(.t 37)], none⟩,
       ⟨(some 42), none, (.p (.extract 1)), [(.t 37)], none⟩,
       ⟨(some 10), none, (.p .mv), [(.t 41)], none⟩,
       ⟨(some 11), none, (.p .mv), [(.t 42)], none⟩])
     (.keep [5, 6, 9, 10, 31, 32, 33] (.seq (.reg [⟨(some 44), none, (.p .mv), [(.t 5)], none⟩,
       ⟨(some 45), none, (.p .mv), [(.t 9)], none⟩,
       ⟨(some 46), none, (.p .mv), [(.t 6)], none⟩,
       ⟨(some 47), none, (.call 14), [(.t 44), (.t 45), (.t 46)], none⟩,
       ⟨(some 43), none, (.p .mv), [(.t 47)], none⟩,
       ⟨(some 48), none, (.p (.extract 0)), [(.t 43)], none⟩,
       ⟨(some 49), none, (.p (.extract 1)), [(.t 43)], none⟩,
       ⟨(some 12), none, (.p .mv), [(.t 48)], none⟩,
       ⟨(some 13), none, (.p .mv), [(.t 49)], none⟩])
     (.keep [5, 6, 9, 10, 12, 31, 32, 33] (.seq (.reg [⟨(some 50), none, (.p .mv), [(.t 10)], none⟩,
       ⟨(some 51), none, (.l .bytesStr), [(.t 50)], none⟩,
       ⟨(some 52), none, (.p .mv), [(.t 12)], none⟩,
       ⟨(some 53), none, (.l .bytesStr), [(.t 52)], none⟩,
       ⟨(some 54), none, (.p (.bin .neq)), [(.t 51), (.t 53)], none⟩,
       ⟨(some 55), none, (.p .mv), [(.t 54)], none⟩,
       ⟨(some 56), some (55, false), (.p .mv), [(.t 10)], none⟩,
       ⟨(some 57), some (55, false), (.p .len), [(.t 56)], none⟩,
       ⟨(some 58), some (55, false), (.p .mv), [(.t 9)], none⟩,
       ⟨(some 59), some (55, false), (.p (.bin .quo)), [(.t 58), (.c (.int .i64 (.ofNat 8)))], none⟩,
       ⟨(some 60), some (55, false), (.p (.bin .neq)), [(.t 57), (.t 59)], none⟩,
       ⟨(some 61), none, (.p .pick), [(.t 55), (.c (.bool true)), (.t 60)], none⟩])
     (.keep [5, 6, 31, 32, 33, 61] (.cond (.t 61)
      (.seq (.reg [⟨(some 4), none, (.p .mv), [(.c (.bool false))], none⟩])
      (.keep [4] (.keep [4] .ret)))
      .skip))))))))))
    (.keep [5, 6, 31, 32, 33] (.reg [⟨(some 62), none, (.p (.bin .add)), [(.t 33), (.c (.int .i64 (.ofNat 1)))], none⟩,
      ⟨(some 33), none, (.p .mv), [(.t 62)], none⟩]))))))))))))
  (.keep [] (.seq (.reg [⟨(some 63), none, (.call 10), [], none⟩,
    ⟨(some 4), none, (.p .mv), [(.t 63)], none⟩])
  (.keep [4] (.keep [4] .ret))))))))))))))),
  [(.t 4)]⟩
def s5_j1 (call : CallK) (N : Nat) (q : KV) (st : St) (τ : Tape) : Ans :=
  match st with
  | ⟨fr, H⟩ =>
  call 10 [] H τ fun v13 H14 τ15 =>
  q v13 H14 τ15
def s5_l2 (call : CallK) (N : Nat) (st : St) (τ : Tape) (k : KC) : Ans :=
  match st with
  | ⟨fr, H⟩ =>
  getK fr 5 fun t5 =>
  getK fr 6 fun t6 =>
  getK fr 31 fun t31 =>
  getK fr 32 fun t32 =>
  getK fr 33 fun t33 =>
  binK .lss t33 t32 fun v16 =>
  condK v16
    (someK (pSlIdx 1 [t31, t33]) fun v17 =>
  someK (lLoad1 [v17] H) fun v18 =>
  call 7 [v18, t6] H τ fun v19 H20 τ21 =>
  someK (pExtract 0 [v19]) fun v22 =>
  someK (pExtract 1 [v19]) fun v23 =>
  call 14 [t5, v18, t6] H20 τ21 fun v24 H25 τ26 =>
  someK (pExtract 0 [v24]) fun v27 =>
  someK (pExtract 1 [v24]) fun v28 =>
  someK (lBytesStr [v22] H25) fun v29 =>
  someK (lBytesStr [v27] H25) fun v30 =>
  binK .neq v29 v30 fun v31 =>
  gK v31 false (fun q' => q' v22 H25 τ26) H25 τ26 fun v32 H33 τ34 =>
  gK v31 false (fun q' => someK (pLen [v32]) fun v => q' v H33 τ34) H33 τ34 fun v35 H36 τ37 =>
  gK v31 false (fun q' => q' v18 H36 τ37) H36 τ37 fun v38 H39 τ40 =>
  gK v31 false (fun q' => binK .quo v38 (.int .i64 (.ofNat 8)) fun v => q' v H39 τ40) H39 τ40 fun v41 H42 τ43 =>
  gK v31 false (fun q' => binK .neq v35 v41 fun v => q' v H42 τ43) H42 τ43 fun v44 H45 τ46 =>
  someK (pPick [v31, (.bool true), v44]) fun v47 =>
  condK v47
    (k .ret ⟨(T.set .leaf 4 (.bool false)), H45⟩ τ46)
    (binK .add t33 (.int .i64 (.ofNat 1)) fun v48 =>
  k .normal ⟨(T.set (T.set (T.set (T.set (T.set (T.set (T.set .leaf 5 t5) 6 t6) 31 t31) 32 t32) 33 t33) 62 v48) 33 v48), H45⟩ τ46))
    (k (.exit 2) ⟨.leaf, H⟩ τ)
def s5_j0 (call : CallK) (N : Nat) (q : KV) (st : St) (τ : Tape) : Ans :=
  match st with
  | ⟨fr, H⟩ =>
  getK fr 5 fun t5 =>
  getK fr 6 fun t6 =>
  effK (eBuildSlice 3 1 [(.int .i64 (.ofNat 0)), (.int .i64 (.ofNat 0)), (.int .i64 (.ofNat 0))] [(0, 1), (1, 1), (2, 1)] [(.int .i64 (.ofNat 256)), (.int .i64 (.ofNat 384)), (.int .i64 (.ofNat 512))] H τ) fun v9 H10 τ11 =>
  someK (pLen [v9]) fun v12 =>
  loopK (s5_l2 call N) N ⟨(T.set (T.set (T.set (T.set (T.set .leaf 5 t5) 6 t6) 31 v9) 32 v12) 33 (.int .i64 (.ofNat 0))), H10⟩ τ11 (blockK 2 (seqK (s5_j1 call N q) (endK [(.t 4)] q)))
def s5_l3 (call : CallK) (N : Nat) (st : St) (τ : Tape) (k : KC) : Ans :=
  match st with
  | ⟨fr, H⟩ =>
  getK fr 0 fun t0 =>
  getK fr 1 fun t1 =>
  getK fr 5 fun t5 =>
  getK fr 6 fun t6 =>
  getK fr 7 fun t7 =>
  binK .lss t7 t0 fun v49 =>
  condK v49
    (toIntK .u8 t7 fun v50 =>
  binK .add t1 v50 fun v51 =>
  someK (pSlIdx 1 [t6, t7]) fun v52 =>
  effK (eStore 1 [v52, v51] H τ) fun v53 H54 τ55 =>
  binK .add t7 (.int .i64 (.ofNat 1)) fun v56 =>
  k .normal ⟨(T.set (T.set (T.set (T.set (T.set (T.set (T.set (T.set .leaf 0 t0) 1 t1) 5 t5) 6 t6) 7 t7) 22 t7) 23 v56) 7 v56), H54⟩ τ55)
    (k (.exit 0) ⟨(T.set (T.set .leaf 5 t5) 6 t6), H⟩ τ)
def s5 (call : CallK) (N : Nat) (a0 a1 : V) (H : Heap) (τ : Tape) (q : KV) : Ans :=
  call 12 [] H τ fun v0 H1 τ2 =>
  call 16 [a0, (.int .i64 (.ofNat 0)), (.int .i64 (.ofNat 260))] H1 τ2 fun v3 H4 τ5 =>
  effK (eMakeSlice 1 1 [(.int .u8 (.ofNat 0))] [v3, v3] H4 τ5) fun v6 H7 τ8 =>
  loopK (s5_l3 call N) N ⟨(T.set (T.set (T.set (T.set (T.set .leaf 0 v3) 1 a1) 5 v0) 6 v6) 7 (.int .i64 (.ofNat 0))), H7⟩ τ8 (blockK 0 (seqK (s5_j0 call N q) (endK [(.t 4)] q)))
theorem s5_eq (call : CallK) (N : Nat) (a0 a1 : V) (H : Heap) (τ : Tape) (q : KV) : s5 call N a0 a1 H τ q = funK call N fn5 [a0, a1] H τ q := by kernel_rfl
def e5 (call : CallK) (N : Nat) (vs : List V) (H : Heap) (τ : Tape) (q : KV) : Ans := match vs with | [a0, a1] => s5 call N a0 a1 H τ q | _ => none
theorem e5_ok : EntOk fn5 e5 := by
  intro call N vs H τ q r h
  unfold e5 at h
  split at h
  · rw [s5_eq] at h; exact h
  · cases h
theorem e5_nat : EntNat e5 := by
  intro c hn N vs H τ q
  unfold e5
  split
  · rw [s5_eq, s5_eq]; exact funK_ent hn _ _ _ _ _ _
  · rfl
/-- ostiary/ostiarylaw8.DigestKept -/
def fn6 : Fun := ⟨1,
  (.seq (.reg [⟨(some 2), none, (.p .mv), [(.c (.bool false))], none⟩])
  (.keep [0] (.seq (.reg [⟨(some 3), none, (.e (.alloc [.nils, .nils, (.int .i64 (.ofNat 0)), (.bool false)])), [], none⟩])
  (.keep [0, 3] (.seq (.seq (.reg [⟨(some 4), none, (.p .mv), [(.c (.int .i64 (.ofNat 0)))], none⟩])
  (.keep [0, 3, 4] (.block 0
   (.loop
    (.keep [0, 3, 4] (.seq (.seq (.reg [⟨(some 7), none, (.p .mv), [(.t 4)], none⟩,
      ⟨(some 8), none, (.p (.bin .lss)), [(.t 7), (.c (.int .i64 (.ofNat 2)))], none⟩])
    (.keep [0, 3, 4, 8] (.cond (.t 8)
     .skip
     (.keep [3] (.exit 0)))))
    (.keep [0, 3, 4] (.seq (.block 1
     (.seq (.reg [⟨(some 12), none, (.p .mv), [(.t 0)], none⟩,
       ⟨(some 13), none, (.call 11), [(.t 12), (.c (.int .i64 (.ofNat 200)))], none⟩,
       ⟨(some 14), none, (.call 7), [(.c (.int .i64 (.ofNat 384))), (.t 13)], none⟩,
       ⟨(some 11), none, (.p .mv), [(.t 14)], none⟩,
       ⟨(some 15), none, (.p (.extract 0)), [(.t 11)], none⟩,
       ⟨(some 16), none, (.p (.extract 1)), [(.t 11)], none⟩,
       ⟨(some 5), none, (.p .mv), [(.t 15)], none⟩,
       ⟨(some 6), none, (.p .mv), [(.t 16)], none⟩])
     (.keep [0, 3, 4, 5] (.reg [⟨(some 17), none, (.p .mv), [(.t 5)], none⟩,
       ⟨(some 18), none, (.call 17), [(.t 3), (.t 17)], none⟩]))))
    (.keep [0, 3, 4] (.reg [⟨(some 9), none, (.p .mv), [(.t 4)], none⟩,
      ⟨(some 10), none, (.p (.bin .add)), [(.t 9), (.c (.int .i64 (.ofNat 1)))], none⟩,
      ⟨(some 4), none, (.p .mv), [(.t 10)], none⟩]))))))))))
  (.keep [3] (.seq (.reg [⟨(some 19), none, (.call 18), [(.t 3), (.c (.func 19 [] []))], none⟩,
    ⟨(some 20), none, (.p .mv), [(.t 19)], none⟩,
    ⟨(some 21), some (20, true), (.call 10), [], none⟩,
    ⟨(some 22), none, (.p .pick), [(.t 20), (.t 21), (.c (.bool false))], none⟩,
    ⟨(some 2), none, (.p .mv), [(.t 22)], none⟩])
  (.keep [2] (.keep [2] .ret))))))))),
  [(.t 2)]⟩
def s6_j0 (call : CallK) (N : Nat) (q : KV) (st : St) (τ : Tape) : Ans :=
  match st with
  | ⟨fr, H⟩ =>
  getK fr 3 fun t3 =>
  call 18 [t3, (.func 19 [] [])] H τ fun v3 H4 τ5 =>
  gK v3 true (fun q' => call 10 [] H4 τ5 q') H4 τ5 fun v6 H7 τ8 =>
  someK (pPick [v3, v6, (.bool false)]) fun v9 =>
  q v9 H7 τ8
def s6_l1 (call : CallK) (N : Nat) (st : St) (τ : Tape) (k : KC) : Ans :=
  match st with
  | ⟨fr, H⟩ =>
  getK fr 0 fun t0 =>
  getK fr 3 fun t3 =>
  getK fr 4 fun t4 =>
  binK .lss t4 (.int .i64 (.ofNat 2)) fun v10 =>
  condK v10
    (call 11 [t0, (.int .i64 (.ofNat 200))] H τ fun v11 H12 τ13 =>
  call 7 [(.int .i64 (.ofNat 384)), v11] H12 τ13 fun v14 H15 τ16 =>
  someK (pExtract 0 [v14]) fun v17 =>
  someK (pExtract 1 [v14]) fun v18 =>
  call 17 [t3, v17] H15 τ16 fun v19 H20 τ21 =>
  binK .add t4 (.int .i64 (.ofNat 1)) fun v22 =>
  k .normal ⟨(T.set (T.set (T.set (T.set (T.set (T.set .leaf 0 t0) 3 t3) 4 t4) 9 t4) 10 v22) 4 v22), H20⟩ τ21)
    (k (.exit 0) ⟨(T.set .leaf 3 t3), H⟩ τ)
def s6 (call : CallK) (N : Nat) (a0 : V) (H : Heap) (τ : Tape) (q : KV) : Ans :=
  effK (eAlloc [.nils, .nils, (.int .i64 (.ofNat 0)), (.bool false)] [] H τ) fun v0 H1 τ2 =>
  loopK (s6_l1 call N) N ⟨(T.set (T.set (T.set .leaf 0 a0) 3 v0) 4 (.int .i64 (.ofNat 0))), H1⟩ τ2 (blockK 0 (seqK (s6_j0 call N q) (endK [(.t 2)] q)))
theorem s6_eq (call : CallK) (N : Nat) (a0 : V) (H : Heap) (τ : Tape) (q : KV) : s6 call N a0 H τ q = funK call N fn6 [a0] H τ q := by kernel_rfl
def e6 (call : CallK) (N : Nat) (vs : List V) (H : Heap) (τ : Tape) (q : KV) : Ans := match vs with | [a0] => s6 call N a0 H τ q | _ => none
theorem e6_ok : EntOk fn6 e6 := by
  intro call N vs H τ q r h
  unfold e6 at h
  split at h
  · rw [s6_eq] at h; exact h
  · cases h
theorem e6_nat : EntNat e6 := by
  intro c hn N vs H τ q
  unfold e6
  split
  · rw [s6_eq, s6_eq]; exact funK_ent hn _ _ _ _ _ _
  · rfl
/-- ostiary/digest.Sum -/
def fn7 : Fun := ⟨2,
  (.seq (.reg [⟨(some 4), none, (.p .mv), [(.c .nils)], none⟩,
    ⟨(some 5), none, (.p .mv), [(.c (.int .i64 (.ofNat 0)))], none⟩])
  (.keep [0, 1] (.seq (.seq (.reg [⟨(some 6), none, (.p .mv), [(.t 0)], none⟩])
  (.keep [1, 6] (.block 0
   (.seq (.reg [⟨(some 8), none, (.p (.bin .eql)), [(.t 6), (.c (.int .i64 (.ofNat 256)))], none⟩,
     ⟨(some 7), none, (.p .mv), [(.t 8)], none⟩])
   (.keep [1, 6, 7] (.cond (.t 7)
    (.seq (.reg [⟨(some 9), none, (.l (.load (some 17))), [(.c (.ptr 0 0))], none⟩,
      ⟨(some 10), none, (.l (.load (some 8))), [(.c (.ptr 1 0))], none⟩,
      ⟨(some 11), none, (.p .mv), [(.t 1)], none⟩,
      ⟨(some 12), none, (.call 20), [(.t 9), (.t 10), (.t 11)], none⟩,
      ⟨(some 4), none, (.p .mv), [(.t 12)], none⟩,
      ⟨(some 5), none, (.p .mv), [(.c (.int .i64 (.ofNat 0)))], none⟩])
    (.keep [4, 5] (.keep [4, 5] .ret)))
    (.seq (.reg [⟨(some 14), none, (.p (.bin .eql)), [(.t 6), (.c (.int .i64 (.ofNat 384)))], none⟩,
      ⟨(some 13), none, (.p .mv), [(.t 14)], none⟩])
    (.keep [1, 6, 13] (.cond (.t 13)
     (.seq (.reg [⟨(some 15), none, (.l (.load (some 17))), [(.c (.ptr 2 0))], none⟩,
       ⟨(some 16), none, (.l (.load (some 8))), [(.c (.ptr 3 0))], none⟩,
       ⟨(some 17), none, (.p .mv), [(.t 1)], none⟩,
       ⟨(some 18), none, (.call 21), [(.t 15), (.t 16), (.t 17)], none⟩,
       ⟨(some 19), none, (.p (.slSlice 1 false true true)), [(.t 18), (.c (.int .i64 (.ofNat 48))), (.c (.int .i64 (.ofNat 48)))], none⟩,
       ⟨(some 4), none, (.p .mv), [(.t 19)], none⟩,
       ⟨(some 5), none, (.p .mv), [(.c (.int .i64 (.ofNat 0)))], none⟩])
     (.keep [4, 5] (.keep [4, 5] .ret)))
     (.seq (.reg [⟨(some 21), none, (.p (.bin .eql)), [(.t 6), (.c (.int .i64 (.ofNat 512)))], none⟩,
       ⟨(some 20), none, (.p .mv), [(.t 21)], none⟩])
     (.keep [1, 20] (.cond (.t 20)
      (.seq (.reg [⟨(some 22), none, (.l (.load (some 17))), [(.c (.ptr 2 0))], none⟩,
        ⟨(some 23), none, (.l (.load (some 8))), [(.c (.ptr 4 0))], none⟩,
        ⟨(some 24), none, (.p .mv), [(.t 1)], none⟩,
        ⟨(some 25), none, (.call 21), [(.t 22), (.t 23), (.t 24)], none⟩,
        ⟨(some 4), none, (.p .mv), [(.t 25)], none⟩,
        ⟨(some 5), none, (.p .mv), [(.c (.int .i64 (.ofNat 0)))], none⟩])
      (.keep [4, 5] (.keep [4, 5] .ret)))
      .skip))))))))))))
  (.keep [] (.seq (.reg [⟨(some 4), none, (.p .mv), [(.c .nils)], none⟩,
    ⟨(some 5), none, (.p .mv), [(.c (.int .i64 (.ofNat 1)))], none⟩])
  (.keep [4, 5] (.keep [4, 5] .ret))))))),
  [(.t 4), (.t 5)]⟩
def s7 (call : CallK) (N : Nat) (a0 a1 : V) (H : Heap) (τ : Tape) (q : KV) : Ans :=
  binK .eql a0 (.int .i64 (.ofNat 256)) fun v0 =>
  condK v0
    (someK (lLoadN 17 [(.ptr 0 0)] H) fun v1 =>
  someK (lLoadN 8 [(.ptr 1 0)] H) fun v2 =>
  call 20 [v1, v2, a1] H τ fun v3 H4 τ5 =>
  q (.tup [v3, (.int .i64 (.ofNat 0))]) H4 τ5)
    (binK .eql a0 (.int .i64 (.ofNat 384)) fun v6 =>
  condK v6
    (someK (lLoadN 17 [(.ptr 2 0)] H) fun v7 =>
  someK (lLoadN 8 [(.ptr 3 0)] H) fun v8 =>
  call 21 [v7, v8, a1] H τ fun v9 H10 τ11 =>
  someK (pSlSlice 1 false true true [v9, (.int .i64 (.ofNat 48)), (.int .i64 (.ofNat 48))]) fun v12 =>
  q (.tup [v12, (.int .i64 (.ofNat 0))]) H10 τ11)
    (binK .eql a0 (.int .i64 (.ofNat 512)) fun v13 =>
  condK v13
    (someK (lLoadN 17 [(.ptr 2 0)] H) fun v14 =>
  someK (lLoadN 8 [(.ptr 4 0)] H) fun v15 =>
  call 21 [v14, v15, a1] H τ fun v16 H17 τ18 =>
  q (.tup [v16, (.int .i64 (.ofNat 0))]) H17 τ18)
    (q (.tup [.nils, (.int .i64 (.ofNat 1))]) H τ)))
theorem s7_eq (call : CallK) (N : Nat) (a0 a1 : V) (H : Heap) (τ : Tape) (q : KV) : s7 call N a0 a1 H τ q = funK call N fn7 [a0, a1] H τ q := by kernel_rfl
def e7 (call : CallK) (N : Nat) (vs : List V) (H : Heap) (τ : Tape) (q : KV) : Ans := match vs with | [a0, a1] => s7 call N a0 a1 H τ q | _ => none
theorem e7_ok : EntOk fn7 e7 := by
  intro call N vs H τ q r h
  unfold e7 at h
  split at h
  · rw [s7_eq] at h; exact h
  · cases h
theorem e7_nat : EntNat e7 := by
  intro c hn N vs H τ q
  unfold e7
  split
  · rw [s7_eq, s7_eq]; exact funK_ent hn _ _ _ _ _ _
  · rfl
/-- ostiary/ostiarylaw8.sum -/
def fn8 : Fun := ⟨2,
  (.seq (.reg [⟨(some 4), none, (.p .mv), [(.c (.str []))], none⟩])
  (.keep [0, 1] (.seq (.reg [⟨(some 8), none, (.p .mv), [(.t 0)], none⟩,
    ⟨(some 9), none, (.p .mv), [(.t 1)], none⟩,
    ⟨(some 10), none, (.e .strBytes), [(.t 9)], none⟩,
    ⟨(some 11), none, (.call 7), [(.t 8), (.t 10)], none⟩,
    ⟨(some 7), none, (.p .mv), [(.t 11)], none⟩,
    ⟨(some 12), none, (.p (.extract 0)), [(.t 7)], none⟩,
    ⟨(some 13), none, (.p (.extract 1)), [(.t 7)], none⟩,
    ⟨(some 5), none, (.p .mv), [(.t 12)], none⟩,
    ⟨(some 6), none, (.p .mv), [(.t 13)], none⟩])
  (.keep [5] (.seq (.reg [⟨(some 14), none, (.p .mv), [(.t 5)], none⟩,
    ⟨(some 15), none, (.call 22), [(.t 14)], none⟩,
    ⟨(some 4), none, (.p .mv), [(.t 15)], none⟩])
  (.keep [4] (.keep [4] .ret))))))),
  [(.t 4)]⟩
def s8 (call : CallK) (N : Nat) (a0 a1 : V) (H : Heap) (τ : Tape) (q : KV) : Ans :=
  effK (eStrBytes [a1] H τ) fun v0 H1 τ2 =>
  call 7 [a0, v0] H1 τ2 fun v3 H4 τ5 =>
  someK (pExtract 0 [v3]) fun v6 =>
  someK (pExtract 1 [v3]) fun v7 =>
  call 22 [v6] H4 τ5 fun v8 H9 τ10 =>
  q v8 H9 τ10
theorem s8_eq (call : CallK) (N : Nat) (a0 a1 : V) (H : Heap) (τ : Tape) (q : KV) : s8 call N a0 a1 H τ q = funK call N fn8 [a0, a1] H τ q := by kernel_rfl
def e8 (call : CallK) (N : Nat) (vs : List V) (H : Heap) (τ : Tape) (q : KV) : Ans := match vs with | [a0, a1] => s8 call N a0 a1 H τ q | _ => none
theorem e8_ok : EntOk fn8 e8 := by
  intro call N vs H τ q r h
  unfold e8 at h
  split at h
  · rw [s8_eq] at h; exact h
  · cases h
theorem e8_nat : EntNat e8 := by
  intro c hn N vs H τ q
  unfold e8
  split
  · rw [s8_eq, s8_eq]; exact funK_ent hn _ _ _ _ _ _
  · rfl
/-- ostiary/digest.Same -/
def fn9 : Fun := ⟨2,
  (.seq (.reg [⟨(some 4), none, (.p .mv), [(.c (.bool false))], none⟩])
  (.keep [0, 1] (.seq (.seq (.reg [⟨(some 7), none, (.p .mv), [(.t 0)], none⟩,
    ⟨(some 8), none, (.p .len), [(.t 7)], none⟩,
    ⟨(some 9), none, (.p .mv), [(.t 1)], none⟩,
    ⟨(some 10), none, (.p .len), [(.t 9)], none⟩,
    ⟨(some 11), none, (.p (.bin .neq)), [(.t 8), (.t 10)], none⟩])
  (.keep [0, 1, 11] (.cond (.t 11)
   (.seq (.reg [⟨(some 4), none, (.p .mv), [(.c (.bool false))], none⟩])
   (.keep [4] (.keep [4] .ret)))
   .skip)))
  (.keep [0, 1] (.seq (.reg [⟨(some 5), none, (.p .mv), [(.c (.int .u8 (.ofNat 0)))], none⟩])
  (.keep [0, 1, 5] (.seq (.seq (.reg [⟨(some 12), none, (.p .mv), [(.t 0)], none⟩,
    ⟨(some 13), none, (.p .len), [(.t 12)], none⟩,
    ⟨(some 14), none, (.p .mv), [(.c (.int .i64 (.ofNat 0)))], none⟩])
  (.keep [0, 1, 5, 13, 14] (.block 0
   (.loop
    (.keep [0, 1, 5, 13, 14] (.seq (.reg [⟨(some 15), none, (.p (.bin .lss)), [(.t 14), (.t 13)], none⟩])
    (.keep [0, 1, 5, 13, 14, 15] (.seq (.cond (.t 15)
     .skip
     (.keep [5] (.exit 0)))
    (.keep [0, 1, 5, 13, 14] (.seq (.block 1
     (.seq (.reg [⟨(some 16), none, (.p .mv), [(.t 14)], none⟩,
       ⟨(some 6), none, (.p .mv), [(.t 16)], none⟩])
     (.keep [0, 1, 5, 6, 13, 14] (.draw [⟨(some 17), none, (.p .mv), [(.t 5)], none⟩,
       ⟨(some 18), none, (.p .mv), [(.t 0)], none⟩,
       ⟨(some 19), none, (.p .mv), [(.t 6)], none⟩,
       ⟨(some 20), none, (.p (.slIdx 1)), [(.t 18), (.t 19)], none⟩,
       ⟨(some 21), none, (.l (.load none)), [(.t 20)], none⟩,
       ⟨(some 22), none, (.p .mv), [(.t 1)], none⟩,
       ⟨(some 23), none, (.p .mv), [(.t 6)], none⟩,
       ⟨(some 24), none, (.p (.slIdx 1)), [(.t 22), (.t 23)], none⟩,
       ⟨(some 25), none, (.l (.load none)), [(.t 24)], none⟩,
       ⟨(some 26), none, (.p (.bin .xor)), [(.t 21), (.t 25)], none⟩,
       ⟨(some 27), none, (.p (.bin .or)), [(.t 17), (.t 26)], none⟩,
       ⟨(some 5), none, (.p .mv), [(.t 27)], none⟩]))))
    (.keep [0, 1, 5, 13, 14] (.reg [⟨(some 28), none, (.p (.bin .add)), [(.t 14), (.c (.int .i64 (.ofNat 1)))], none⟩,
      ⟨(some 14), none, (.p .mv), [(.t 28)], none⟩]))))))))))))
  (.keep [5] (.seq (.reg [⟨(some 29), none, (.p .mv), [(.t 5)], none⟩,
    ⟨(some 30), none, (.p (.bin .eql)), [(.t 29), (.c (.int .u8 (.ofNat 0)))], none⟩,
    ⟨(some 4), none, (.p .mv), [(.t 30)], none⟩])
  (.keep [4] (.keep [4] .ret))))))))))),
  [(.t 4)]⟩
def s9_j0 (call : CallK) (N : Nat) (q : KV) (st : St) (τ : Tape) : Ans :=
  match st with
  | ⟨fr, H⟩ =>
  getK fr 5 fun t5 =>
  binK .eql t5 (.int .u8 (.ofNat 0)) fun v4 =>
  q v4 H τ
def s9_l1 (call : CallK) (N : Nat) (st : St) (τ : Tape) (k : KC) : Ans :=
  match st with
  | ⟨fr, H⟩ =>
  getK fr 0 fun t0 =>
  getK fr 1 fun t1 =>
  getK fr 5 fun t5 =>
  getK fr 13 fun t13 =>
  getK fr 14 fun t14 =>
  binK .lss t14 t13 fun v5 =>
  condK v5
    (someK (pSlIdx 1 [t0, t14]) fun v6 =>
  someK (lLoad1 [v6] H) fun v7 =>
  someK (pSlIdx 1 [t1, t14]) fun v8 =>
  someK (lLoad1 [v8] H) fun v9 =>
  binK .xor v7 v9 fun v10 =>
  binK .or t5 v10 fun v11 =>
  binK .add t14 (.int .i64 (.ofNat 1)) fun v12 =>
  k .normal ⟨(T.set (T.set (T.set (T.set (T.set (T.set (T.set .leaf 0 t0) 1 t1) 5 v11) 13 t13) 14 t14) 28 v12) 14 v12), H⟩ τ)
    (k (.exit 0) ⟨(T.set .leaf 5 t5), H⟩ τ)
def s9 (call : CallK) (N : Nat) (a0 a1 : V) (H : Heap) (τ : Tape) (q : KV) : Ans :=
  someK (pLen [a0]) fun v0 =>
  someK (pLen [a1]) fun v1 =>
  binK .neq v0 v1 fun v2 =>
  condK v2
    (q (.bool false) H τ)
    (someK (pLen [a0]) fun v3 =>
  loopK (s9_l1 call N) N ⟨(T.set (T.set (T.set (T.set (T.set .leaf 0 a0) 1 a1) 5 (.int .u8 (.ofNat 0))) 13 v3) 14 (.int .i64 (.ofNat 0))), H⟩ τ (blockK 0 (seqK (s9_j0 call N q) (endK [(.t 4)] q))))
theorem s9_eq (call : CallK) (N : Nat) (a0 a1 : V) (H : Heap) (τ : Tape) (q : KV) : s9 call N a0 a1 H τ q = funK call N fn9 [a0, a1] H τ q := by kernel_rfl
def e9 (call : CallK) (N : Nat) (vs : List V) (H : Heap) (τ : Tape) (q : KV) : Ans := match vs with | [a0, a1] => s9 call N a0 a1 H τ q | _ => none
theorem e9_ok : EntOk fn9 e9 := by
  intro call N vs H τ q r h
  unfold e9 at h
  split at h
  · rw [s9_eq] at h; exact h
  · cases h
theorem e9_nat : EntNat e9 := by
  intro c hn N vs H τ q
  unfold e9
  split
  · rw [s9_eq, s9_eq]; exact funK_ent hn _ _ _ _ _ _
  · rfl
/-- ostiary/ostiarylaw8.known -/
def fn10 : Fun := ⟨0,
  (.seq (.reg [⟨(some 0), none, (.p .mv), [(.c (.bool false))], none⟩])
  (.keep [] (.seq (.reg [⟨(some 1), none, (.call 8), [(.c (.int .i64 (.ofNat 256))), (.c (.str (bs [97, 98, 99])))], none⟩,
    ⟨(some 2), none, (.p (.bin .eql)), [(.t 1), (.c (.str (bs [98, 97, 55, 56, 49, 54, 98, 102, 56, 102, 48, 49, 99, 102, 101, 97, 52, 49, 52, 49, 52, 48, 100, 101, 53, 100, 97, 101, 50, 50, 50, 51, 98, 48, 48, 51, 54, 49, 97, 51, 57, 54, 49, 55, 55, 97, 57, 99, 98, 52, 49, 48, 102, 102, 54, 49, 102, 50, 48, 48, 49, 53, 97, 100])))], none⟩,
    ⟨(some 3), none, (.p .mv), [(.t 2)], none⟩,
    ⟨(some 4), some (3, true), (.e (.buildSlice 1 1 [(.int .u8 (.ofNat 0))] [(0, 1)])), [(.c (.int .u8 (.ofNat 97)))], none⟩,
    ⟨(some 5), some (3, true), (.e .mark), [(.t 4)], none⟩,
    ⟨(some 6), some (3, true), (.e (.buildSlice 1 1 [(.int .u8 (.ofNat 0))] [(0, 1)])), [(.c (.int .u8 (.ofNat 97)))], none⟩,
    ⟨(some 7), some (3, true), (.e .mark), [(.t 6)], none⟩,
    ⟨(some 8), some (3, true), (.call 9), [(.t 5), (.t 7)], none⟩,
    ⟨(some 9), none, (.p .pick), [(.t 3), (.t 8), (.c (.bool false))], none⟩,
    ⟨(some 10), none, (.p .mv), [(.t 9)], none⟩,
    ⟨(some 11), some (10, true), (.e (.buildSlice 1 1 [(.int .u8 (.ofNat 0))] [(0, 1)])), [(.c (.int .u8 (.ofNat 97)))], none⟩,
    ⟨(some 12), some (10, true), (.e .mark), [(.t 11)], none⟩,
    ⟨(some 13), some (10, true), (.e (.buildSlice 1 1 [(.int .u8 (.ofNat 0))] [(0, 1)])), [(.c (.int .u8 (.ofNat 98)))], none⟩,
    ⟨(some 14), some (10, true), (.e .mark), [(.t 13)], none⟩,
    ⟨(some 15), some (10, true), (.call 9), [(.t 12), (.t 14)], none⟩,
    ⟨(some 16), some (10, true), (.p (.un .not)), [(.t 15)], none⟩,
    ⟨(some 17), none, (.p .pick), [(.t 10), (.t 16), (.c (.bool false))], none⟩,
    ⟨(some 0), none, (.p .mv), [(.t 17)], none⟩])
  (.keep [0] (.keep [0] .ret))))),
  [(.t 0)]⟩
def s10 (call : CallK) (N : Nat) (H : Heap) (τ : Tape) (q : KV) : Ans :=
  call 8 [(.int .i64 (.ofNat 256)), (.str (bs [97, 98, 99]))] H τ fun v0 H1 τ2 =>
  binK .eql v0 (.str (bs [98, 97, 55, 56, 49, 54, 98, 102, 56, 102, 48, 49, 99, 102, 101, 97, 52, 49, 52, 49, 52, 48, 100, 101, 53, 100, 97, 101, 50, 50, 50, 51, 98, 48, 48, 51, 54, 49, 97, 51, 57, 54, 49, 55, 55, 97, 57, 99, 98, 52, 49, 48, 102, 102, 54, 49, 102, 50, 48, 48, 49, 53, 97, 100])) fun v3 =>
  gK v3 true (fun q' => effK (eBuildSlice 1 1 [(.int .u8 (.ofNat 0))] [(0, 1)] [(.int .u8 (.ofNat 97))] H1 τ2) q') H1 τ2 fun v4 H5 τ6 =>
  gK v3 true (fun q' => effK (eMark [v4] H5 τ6) q') H5 τ6 fun v7 H8 τ9 =>
  gK v3 true (fun q' => effK (eBuildSlice 1 1 [(.int .u8 (.ofNat 0))] [(0, 1)] [(.int .u8 (.ofNat 97))] H8 τ9) q') H8 τ9 fun v10 H11 τ12 =>
  gK v3 true (fun q' => effK (eMark [v10] H11 τ12) q') H11 τ12 fun v13 H14 τ15 =>
  gK v3 true (fun q' => call 9 [v7, v13] H14 τ15 q') H14 τ15 fun v16 H17 τ18 =>
  someK (pPick [v3, v16, (.bool false)]) fun v19 =>
  gK v19 true (fun q' => effK (eBuildSlice 1 1 [(.int .u8 (.ofNat 0))] [(0, 1)] [(.int .u8 (.ofNat 97))] H17 τ18) q') H17 τ18 fun v20 H21 τ22 =>
  gK v19 true (fun q' => effK (eMark [v20] H21 τ22) q') H21 τ22 fun v23 H24 τ25 =>
  gK v19 true (fun q' => effK (eBuildSlice 1 1 [(.int .u8 (.ofNat 0))] [(0, 1)] [(.int .u8 (.ofNat 98))] H24 τ25) q') H24 τ25 fun v26 H27 τ28 =>
  gK v19 true (fun q' => effK (eMark [v26] H27 τ28) q') H27 τ28 fun v29 H30 τ31 =>
  gK v19 true (fun q' => call 9 [v23, v29] H30 τ31 q') H30 τ31 fun v32 H33 τ34 =>
  gK v19 true (fun q' => unK .not v32 fun v => q' v H33 τ34) H33 τ34 fun v35 H36 τ37 =>
  someK (pPick [v19, v35, (.bool false)]) fun v38 =>
  q v38 H36 τ37
theorem s10_eq (call : CallK) (N : Nat) (H : Heap) (τ : Tape) (q : KV) : s10 call N  H τ q = funK call N fn10 [] H τ q := by kernel_rfl
def e10 (call : CallK) (N : Nat) (vs : List V) (H : Heap) (τ : Tape) (q : KV) : Ans := match vs with | [] => s10 call N  H τ q | _ => none
theorem e10_ok : EntOk fn10 e10 := by
  intro call N vs H τ q r h
  unfold e10 at h
  split at h
  · rw [s10_eq] at h; exact h
  · cases h
theorem e10_nat : EntNat e10 := by
  intro c hn N vs H τ q
  unfold e10
  split
  · rw [s10_eq, s10_eq]; exact funK_ent hn _ _ _ _ _ _
  · rfl
/-- ostiary/ostiarykeep.FewBytes -/
def fn11 : Fun := ⟨2,
  (.seq (.reg [⟨(some 4), none, (.p .mv), [(.c .nils)], none⟩])
  (.keep [0, 1] (.seq (.seq (.reg [⟨(some 5), none, (.p .mv), [(.t 0)], none⟩,
    ⟨(some 6), none, (.p .len), [(.t 5)], none⟩,
    ⟨(some 7), none, (.p .mv), [(.t 1)], none⟩,
    ⟨(some 8), none, (.p (.bin .gtr)), [(.t 6), (.t 7)], none⟩])
  (.keep [0, 1, 8] (.cond (.t 8)
   (.seq (.reg [⟨(some 9), none, (.p .mv), [(.t 0)], none⟩,
     ⟨(some 10), none, (.p .mv), [(.t 1)], none⟩,
     ⟨(some 11), none, (.p (.slSlice 1 false true false)), [(.t 9), (.t 10)], none⟩,
     ⟨(some 4), none, (.p .mv), [(.t 11)], none⟩])
   (.keep [4] (.keep [4] .ret)))
   .skip)))
  (.keep [0] (.seq (.reg [⟨(some 12), none, (.p .mv), [(.t 0)], none⟩,
    ⟨(some 4), none, (.p .mv), [(.t 12)], none⟩])
  (.keep [4] (.keep [4] .ret))))))),
  [(.t 4)]⟩
def s11 (call : CallK) (N : Nat) (a0 a1 : V) (H : Heap) (τ : Tape) (q : KV) : Ans :=
  someK (pLen [a0]) fun v0 =>
  binK .gtr v0 a1 fun v1 =>
  condK v1
    (someK (pSlSlice 1 false true false [a0, a1]) fun v2 =>
  q v2 H τ)
    (q a0 H τ)
theorem s11_eq (call : CallK) (N : Nat) (a0 a1 : V) (H : Heap) (τ : Tape) (q : KV) : s11 call N a0 a1 H τ q = funK call N fn11 [a0, a1] H τ q := by kernel_rfl
def e11 (call : CallK) (N : Nat) (vs : List V) (H : Heap) (τ : Tape) (q : KV) : Ans := match vs with | [a0, a1] => s11 call N a0 a1 H τ q | _ => none
theorem e11_ok : EntOk fn11 e11 := by
  intro call N vs H τ q r h
  unfold e11 at h
  split at h
  · rw [s11_eq] at h; exact h
  · cases h
theorem e11_nat : EntNat e11 := by
  intro c hn N vs H τ q
  unfold e11
  split
  · rw [s11_eq, s11_eq]; exact funK_ent hn _ _ _ _ _ _
  · rfl
/-- ostiary/ostiaryref8.New -/
def fn12 : Fun := ⟨0,
  (.seq (.reg [⟨(some 0), none, (.p .mv), [(.c .nilp)], none⟩])
  (.keep [] (.seq (.reg [⟨(some 8), none, (.p (.build (repl 96 [(.int .u64 (.ofNat 0))]) [])), [], none⟩,
    ⟨(some 9), none, (.e .box), [(.t 8)], none⟩,
    ⟨(some 1), none, (.p .mv), [(.t 9)], none⟩])
  (.keep [1] (.seq (.reg [⟨(some 2), none, (.p .mv), [(.c .nils)], none⟩])
  (.keep [1, 2] (.seq (.seq (.reg [⟨(some 3), none, (.p .mv), [(.c (.int .u64 (.ofNat 2)))], none⟩])
  (.keep [1, 2, 3] (.block 0
   (.loop
    (.keep [1, 2, 3] (.seq (.seq (.reg [⟨(some 10), none, (.p .mv), [(.t 2)], none⟩,
      ⟨(some 11), none, (.p .len), [(.t 10)], none⟩,
      ⟨(some 12), none, (.p (.bin .lss)), [(.t 11), (.c (.int .i64 (.ofNat 80)))], none⟩])
    (.keep [1, 2, 3, 12] (.cond (.t 12)
     .skip
     (.keep [1, 2] (.exit 0)))))
    (.keep [1, 2, 3] (.seq (.block 1
     (.seq (.reg [⟨(some 4), none, (.p .mv), [(.c (.bool true))], none⟩])
     (.keep [1, 2, 3, 4] (.seq (.seq (.reg [⟨(some 5), none, (.p .mv), [(.c (.int .i64 (.ofNat 0)))], none⟩])
     (.keep [1, 2, 3, 4, 5] (.block 2
      (.loop
       (.keep [1, 2, 3, 4, 5] (.seq (.seq (.reg [⟨(some 15), none, (.p .mv), [(.t 5)], none⟩,
         ⟨(some 16), none, (.p .mv), [(.t 2)], none⟩,
         ⟨(some 17), none, (.p .len), [(.t 16)], none⟩,
         ⟨(some 18), none, (.p (.bin .lss)), [(.t 15), (.t 17)], none⟩])
       (.keep [1, 2, 3, 4, 5, 18] (.cond (.t 18)
        .skip
        (.keep [1, 2, 3, 4] (.exit 2)))))
       (.keep [1, 2, 3, 4, 5] (.seq (.block 3
        (.reg [⟨(some 21), none, (.p .mv), [(.t 4)], none⟩,
          ⟨(some 22), none, (.p .mv), [(.t 21)], none⟩,
          ⟨(some 23), some (22, true), (.p .mv), [(.t 3)], none⟩,
          ⟨(some 24), some (22, true), (.p .mv), [(.t 2)], none⟩,
          ⟨(some 25), some (22, true), (.p .mv), [(.t 5)], none⟩,
          ⟨(some 26), some (22, true), (.p (.slIdx 1)), [(.t 24), (.t 25)], none⟩,
          ⟨(some 27), some (22, true), (.l (.load none)), [(.t 26)], none⟩,
          ⟨(some 28), some (22, true), (.p (.bin .rem)), [(.t 23), (.t 27)], none⟩,
          ⟨(some 29), some (22, true), (.p (.bin .neq)), [(.t 28), (.c (.int .u64 (.ofNat 0)))], none⟩,
          ⟨(some 30), none, (.p .pick), [(.t 22), (.t 29), (.c (.bool false))], none⟩,
          ⟨(some 4), none, (.p .mv), [(.t 30)], none⟩]))
       (.keep [1, 2, 3, 4, 5] (.reg [⟨(some 19), none, (.p .mv), [(.t 5)], none⟩,
         ⟨(some 20), none, (.p (.bin .add)), [(.t 19), (.c (.int .i64 (.ofNat 1)))], none⟩,
         ⟨(some 5), none, (.p .mv), [(.t 20)], none⟩]))))))))))
     (.keep [1, 2, 3, 4] (.seq (.reg [⟨(some 31), none, (.p .mv), [(.t 4)], none⟩])
     (.keep [1, 2, 3, 31] (.cond (.t 31)
      (.reg [⟨(some 32), none, (.p .mv), [(.t 2)], none⟩,
        ⟨(some 33), none, (.p .mv), [(.t 3)], none⟩,
        ⟨(some 34), none, (.e (.buildSlice 1 1 [(.int .u64 (.ofNat 0))] [(0, 1)])), [(.t 33)], none⟩,
        ⟨(some 35), none, (.e (.append 1 8)), [(.t 32), (.t 34)], none⟩,
        ⟨(some 2), none, (.p .mv), [(.t 35)], none⟩])
      .skip))))))))
    (.keep [1, 2, 3] (.reg [⟨(some 13), none, (.p .mv), [(.t 3)], none⟩,
      ⟨(some 14), none, (.p (.bin .add)), [(.t 13), (.c (.int .u64 (.ofNat 1)))], none⟩,
      ⟨(some 3), none, (.p .mv), [(.t 14)], none⟩]))))))))))
  (.keep [1, 2] (.seq (.seq (.reg [⟨(some 6), none, (.p .mv), [(.c (.int .i64 (.ofNat 0)))], none⟩])
  (.keep [1, 2, 6] (.block 4
   (.loop
    (.keep [1, 2, 6] (.seq (.seq (.reg [⟨(some 36), none, (.p .mv), [(.t 6)], none⟩,
      ⟨(some 37), none, (.p (.bin .lss)), [(.t 36), (.c (.int .i64 (.ofNat 80)))], none⟩])
    (.keep [1, 2, 6, 37] (.cond (.t 37)
     .skip
     (.keep [1, 2] (.exit 4)))))
    (.keep [1, 2, 6] (.seq (.block 5
     (.draw [⟨(some 40), none, (.p .mv), [(.t 1)], none⟩,
       ⟨(some 41), none, (.p .mv), [(.t 6)], none⟩,
       ⟨(some 42), none, (.p .mv), [(.t 2)], none⟩,
       ⟨(some 43), none, (.p .mv), [(.t 6)], none⟩,
       ⟨(some 44), none, (.p (.slIdx 1)), [(.t 42), (.t 43)], none⟩,
       ⟨(some 45), none, (.l (.load none)), [(.t 44)], none⟩,
       ⟨(some 46), none, (.call 23), [(.t 45), (.c (.bool true))], none⟩,
       ⟨(some 47), none, (.p .nilck), [(.t 40)], none⟩,
       ⟨(some 48), none, (.p (.fieldAddr 0)), [(.t 47)], none⟩,
       ⟨(some 49), none, (.p (.arrIdx 80 1)), [(.t 48), (.t 41)], none⟩,
       ⟨none, none, (.e (.store 1)), [(.t 49), (.t 46)], none⟩]))
    (.keep [1, 2, 6] (.reg [⟨(some 38), none, (.p .mv), [(.t 6)], none⟩,
      ⟨(some 39), none, (.p (.bin .add)), [(.t 38), (.c (.int .i64 (.ofNat 1)))], none⟩,
      ⟨(some 6), none, (.p .mv), [(.t 39)], none⟩]))))))))))
  (.keep [1, 2] (.seq (.seq (.reg [⟨(some 7), none, (.p .mv), [(.c (.int .i64 (.ofNat 0)))], none⟩])
  (.keep [1, 2, 7] (.block 6
   (.loop
    (.keep [1, 2, 7] (.seq (.seq (.reg [⟨(some 50), none, (.p .mv), [(.t 7)], none⟩,
      ⟨(some 51), none, (.p (.bin .lss)), [(.t 50), (.c (.int .i64 (.ofNat 16)))], none⟩])
    (.keep [1, 2, 7, 51] (.cond (.t 51)
     .skip
     (.keep [1] (.exit 6)))))
    (.keep [1, 2, 7] (.seq (.block 7
     (.draw [⟨(some 54), none, (.p .mv), [(.t 1)], none⟩,
       ⟨(some 55), none, (.p .mv), [(.t 7)], none⟩,
       ⟨(some 56), none, (.p .mv), [(.t 2)], none⟩,
       ⟨(some 57), none, (.p .mv), [(.t 7)], none⟩,
       ⟨(some 58), none, (.p (.slIdx 1)), [(.t 56), (.t 57)], none⟩,
       ⟨(some 59), none, (.l (.load none)), [(.t 58)], none⟩,
       ⟨(some 60), none, (.call 23), [(.t 59), (.c (.bool false))], none⟩,
       ⟨(some 61), none, (.p .nilck), [(.t 54)], none⟩,
       ⟨(some 62), none, (.p (.fieldAddr 80)), [(.t 61)], none⟩,
       ⟨(some 63), none, (.p (.arrIdx 16 1)), [(.t 62), (.t 55)], none⟩,
       ⟨none, none, (.e (.store 1)), [(.t 63), (.t 60)], none⟩]))
    (.keep [1, 2, 7] (.reg [⟨(some 52), none, (.p .mv), [(.t 7)], none⟩,
      ⟨(some 53), none, (.p (.bin .add)), [(.t 52), (.c (.int .i64 (.ofNat 1)))], none⟩,
      ⟨(some 7), none, (.p .mv), [(.t 53)], none⟩]))))))))))
  (.keep [1] (.seq (.reg [⟨(some 64), none, (.p .mv), [(.t 1)], none⟩,
    ⟨(some 0), none, (.p .mv), [(.t 64)], none⟩])
  (.keep [0] (.keep [0] .ret))))))))))))))),
  [(.t 0)]⟩
def s12_j2 (call : CallK) (N : Nat) (q : KV) (st : St) (τ : Tape) : Ans :=
  match st with
  | ⟨fr, H⟩ =>
  getK fr 1 fun t1 =>
  q t1 H τ
def s12_l3 (call : CallK) (N : Nat) (st : St) (τ : Tape) (k : KC) : Ans :=
  match st with
  | ⟨fr, H⟩ =>
  getK fr 1 fun t1 =>
  getK fr 2 fun t2 =>
  getK fr 7 fun t7 =>
  binK .lss t7 (.int .i64 (.ofNat 16)) fun v4 =>
  condK v4
    (someK (pSlIdx 1 [t2, t7]) fun v5 =>
  someK (lLoad1 [v5] H) fun v6 =>
  call 23 [v6, (.bool false)] H τ fun v7 H8 τ9 =>
  someK (pNilck [t1]) fun v10 =>
  someK (pFieldAddr 80 [v10]) fun v11 =>
  someK (pArrIdx 16 1 [v11, t7]) fun v12 =>
  effK (eStore 1 [v12, v7] H8 τ9) fun v13 H14 τ15 =>
  binK .add t7 (.int .i64 (.ofNat 1)) fun v16 =>
  k .normal ⟨(T.set (T.set (T.set (T.set (T.set (T.set .leaf 1 t1) 2 t2) 7 t7) 52 t7) 53 v16) 7 v16), H14⟩ τ15)
    (k (.exit 6) ⟨(T.set .leaf 1 t1), H⟩ τ)
def s12_j1 (call : CallK) (N : Nat) (q : KV) (st : St) (τ : Tape) : Ans :=
  match st with
  | ⟨fr, H⟩ =>
  getK fr 1 fun t1 =>
  getK fr 2 fun t2 =>
  loopK (s12_l3 call N) N ⟨(T.set (T.set (T.set .leaf 1 t1) 2 t2) 7 (.int .i64 (.ofNat 0))), H⟩ τ (blockK 6 (seqK (s12_j2 call N q) (endK [(.t 0)] q)))
def s12_l4 (call : CallK) (N : Nat) (st : St) (τ : Tape) (k : KC) : Ans :=
  match st with
  | ⟨fr, H⟩ =>
  getK fr 1 fun t1 =>
  getK fr 2 fun t2 =>
  getK fr 6 fun t6 =>
  binK .lss t6 (.int .i64 (.ofNat 80)) fun v17 =>
  condK v17
    (someK (pSlIdx 1 [t2, t6]) fun v18 =>
  someK (lLoad1 [v18] H) fun v19 =>
  call 23 [v19, (.bool true)] H τ fun v20 H21 τ22 =>
  someK (pNilck [t1]) fun v23 =>
  someK (pFieldAddr 0 [v23]) fun v24 =>
  someK (pArrIdx 80 1 [v24, t6]) fun v25 =>
  effK (eStore 1 [v25, v20] H21 τ22) fun v26 H27 τ28 =>
  binK .add t6 (.int .i64 (.ofNat 1)) fun v29 =>
  k .normal ⟨(T.set (T.set (T.set (T.set (T.set (T.set .leaf 1 t1) 2 t2) 6 t6) 38 t6) 39 v29) 6 v29), H27⟩ τ28)
    (k (.exit 4) ⟨(T.set (T.set .leaf 1 t1) 2 t2), H⟩ τ)
def s12_j0 (call : CallK) (N : Nat) (q : KV) (st : St) (τ : Tape) : Ans :=
  match st with
  | ⟨fr, H⟩ =>
  getK fr 1 fun t1 =>
  getK fr 2 fun t2 =>
  loopK (s12_l4 call N) N ⟨(T.set (T.set (T.set .leaf 1 t1) 2 t2) 6 (.int .i64 (.ofNat 0))), H⟩ τ (blockK 4 (seqK (s12_j1 call N q) (endK [(.t 0)] q)))
def s12_j6 (call : CallK) (N : Nat) (k : KC) (st : St) (τ : Tape) : Ans :=
  match st with
  | ⟨fr, H⟩ =>
  getK fr 1 fun t1 =>
  getK fr 2 fun t2 =>
  getK fr 3 fun t3 =>
  binK .add t3 (.int .u64 (.ofNat 1)) fun v32 =>
  k .normal ⟨(T.set (T.set (T.set (T.set (T.set (T.set .leaf 1 t1) 2 t2) 3 t3) 13 t3) 14 v32) 3 v32), H⟩ τ
def s12_j7 (call : CallK) (N : Nat) (k : KC) (st : St) (τ : Tape) : Ans :=
  match st with
  | ⟨fr, H⟩ =>
  getK fr 1 fun t1 =>
  getK fr 2 fun t2 =>
  getK fr 3 fun t3 =>
  getK fr 4 fun t4 =>
  condK t4
    (effK (eBuildSlice 1 1 [(.int .u64 (.ofNat 0))] [(0, 1)] [t3] H τ) fun v33 H34 τ35 =>
  effK (eAppend 1 8 [t2, v33] H34 τ35) fun v36 H37 τ38 =>
  s12_j6 call N k ⟨(T.set (T.set (T.set (T.set (T.set (T.set (T.set (T.set (T.set .leaf 1 t1) 2 t2) 3 t3) 31 t4) 32 t2) 33 t3) 34 v33) 35 v36) 2 v36), H37⟩ τ38)
    (s12_j6 call N k ⟨(T.set (T.set (T.set (T.set .leaf 1 t1) 2 t2) 3 t3) 31 t4), H⟩ τ)
def s12_l8 (call : CallK) (N : Nat) (st : St) (τ : Tape) (k : KC) : Ans :=
  match st with
  | ⟨fr, H⟩ =>
  getK fr 1 fun t1 =>
  getK fr 2 fun t2 =>
  getK fr 3 fun t3 =>
  getK fr 4 fun t4 =>
  getK fr 5 fun t5 =>
  someK (pLen [t2]) fun v39 =>
  binK .lss t5 v39 fun v40 =>
  condK v40
    (gK t4 true (fun q' => q' t3 H τ) H τ fun v41 H42 τ43 =>
  gK t4 true (fun q' => q' t2 H42 τ43) H42 τ43 fun v44 H45 τ46 =>
  gK t4 true (fun q' => q' t5 H45 τ46) H45 τ46 fun v47 H48 τ49 =>
  gK t4 true (fun q' => someK (pSlIdx 1 [v44, v47]) fun v => q' v H48 τ49) H48 τ49 fun v50 H51 τ52 =>
  gK t4 true (fun q' => someK (lLoad1 [v50] H51) fun v => q' v H51 τ52) H51 τ52 fun v53 H54 τ55 =>
  gK t4 true (fun q' => binK .rem v41 v53 fun v => q' v H54 τ55) H54 τ55 fun v56 H57 τ58 =>
  gK t4 true (fun q' => binK .neq v56 (.int .u64 (.ofNat 0)) fun v => q' v H57 τ58) H57 τ58 fun v59 H60 τ61 =>
  someK (pPick [t4, v59, (.bool false)]) fun v62 =>
  binK .add t5 (.int .i64 (.ofNat 1)) fun v63 =>
  k .normal ⟨(T.set (T.set (T.set (T.set (T.set (T.set (T.set (T.set .leaf 1 t1) 2 t2) 3 t3) 4 v62) 5 t5) 19 t5) 20 v63) 5 v63), H60⟩ τ61)
    (k (.exit 2) ⟨(T.set (T.set (T.set (T.set .leaf 1 t1) 2 t2) 3 t3) 4 t4), H⟩ τ)
def s12_l5 (call : CallK) (N : Nat) (st : St) (τ : Tape) (k : KC) : Ans :=
  match st with
  | ⟨fr, H⟩ =>
  getK fr 1 fun t1 =>
  getK fr 2 fun t2 =>
  getK fr 3 fun t3 =>
  someK (pLen [t2]) fun v30 =>
  binK .lss v30 (.int .i64 (.ofNat 80)) fun v31 =>
  condK v31
    (loopK (s12_l8 call N) N ⟨(T.set (T.set (T.set (T.set (T.set .leaf 1 t1) 2 t2) 3 t3) 4 (.bool true)) 5 (.int .i64 (.ofNat 0))), H⟩ τ (blockK 2 (seqK (s12_j7 call N k) (blockK 1 (seqK (s12_j6 call N k) k)))))
    (k (.exit 0) ⟨(T.set (T.set .leaf 1 t1) 2 t2), H⟩ τ)
def s12 (call : CallK) (N : Nat) (H : Heap) (τ : Tape) (q : KV) : Ans :=
  someK (pBuild (repl 96 [(.int .u64 (.ofNat 0))]) [] []) fun v0 =>
  effK (eBox [v0] H τ) fun v1 H2 τ3 =>
  loopK (s12_l5 call N) N ⟨(T.set (T.set (T.set .leaf 1 v1) 2 .nils) 3 (.int .u64 (.ofNat 2))), H2⟩ τ3 (blockK 0 (seqK (s12_j0 call N q) (endK [(.t 0)] q)))
theorem s12_eq (call : CallK) (N : Nat) (H : Heap) (τ : Tape) (q : KV) : s12 call N  H τ q = funK call N fn12 [] H τ q := by kernel_rfl
def e12 (call : CallK) (N : Nat) (vs : List V) (H : Heap) (τ : Tape) (q : KV) : Ans := match vs with | [] => s12 call N  H τ q | _ => none
theorem e12_ok : EntOk fn12 e12 := by
  intro call N vs H τ q r h
  unfold e12 at h
  split at h
  · rw [s12_eq] at h; exact h
  · cases h
theorem e12_nat : EntNat e12 := by
  intro c hn N vs H τ q
  unfold e12
  split
  · rw [s12_eq, s12_eq]; exact funK_ent hn _ _ _ _ _ _
  · rfl
/-- ostiary/ostiarybook.Roomy[byte] -/
def fn13 : Fun := ⟨2,
  (.seq (.reg [⟨(some 4), none, (.p .mv), [(.c .nils)], none⟩])
  (.keep [0, 1] (.seq (.reg [⟨(some 7), none, (.p .mv), [(.t 0)], none⟩,
    ⟨(some 8), none, (.p .len), [(.t 7)], none⟩,
    ⟨(some 9), none, (.p (.bin .add)), [(.t 8), (.c (.int .i64 (.ofNat 80)))], none⟩,
    ⟨(some 10), none, (.e (.makeSlice 1 1 [(.int .u8 (.ofNat 0))])), [(.t 9), (.t 9)], none⟩,
    ⟨(some 5), none, (.p .mv), [(.t 10)], none⟩])
  (.keep [0, 1, 5] (.seq (.reg [⟨(some 11), none, (.p .mv), [(.t 5)], none⟩,
    ⟨(some 12), none, (.p .mv), [(.t 0)], none⟩,
    ⟨(some 13), none, (.e (.copy 1)), [(.t 11), (.t 12)], none⟩])
  (.keep [0, 1, 5] (.seq (.seq (.reg [⟨(some 14), none, (.p .mv), [(.t 0)], none⟩,
    ⟨(some 15), none, (.p .len), [(.t 14)], none⟩,
    ⟨(some 6), none, (.p .mv), [(.t 15)], none⟩])
  (.keep [1, 5, 6] (.block 0
   (.loop
    (.keep [1, 5, 6] (.seq (.seq (.reg [⟨(some 16), none, (.p .mv), [(.t 6)], none⟩,
      ⟨(some 17), none, (.p .mv), [(.t 5)], none⟩,
      ⟨(some 18), none, (.p .len), [(.t 17)], none⟩,
      ⟨(some 19), none, (.p (.bin .lss)), [(.t 16), (.t 18)], none⟩])
    (.keep [1, 5, 6, 19] (.cond (.t 19)
     .skip
     (.keep [5] (.exit 0)))))
    (.keep [1, 5, 6] (.seq (.block 1
     (.reg [⟨(some 22), none, (.p .mv), [(.t 5)], none⟩,
       ⟨(some 23), none, (.p .mv), [(.t 6)], none⟩,
       ⟨(some 24), none, (.p .mv), [(.t 1)], none⟩,
       ⟨(some 25), none, (.p (.slIdx 1)), [(.t 22), (.t 23)], none⟩,
       ⟨none, none, (.e (.store 1)), [(.t 25), (.t 24)], none⟩]))
    (.keep [1, 5, 6] (.reg [⟨(some 20), none, (.p .mv), [(.t 6)], none⟩,
      ⟨(some 21), none, (.p (.bin .add)), [(.t 20), (.c (.int .i64 (.ofNat 1)))], none⟩,
      ⟨(some 6), none, (.p .mv), [(.t 21)], none⟩]))))))))))
  (.keep [5] (.seq (.reg [⟨(some 26), none, (.p .mv), [(.t 5)], none⟩,
    ⟨(some 4), none, (.p .mv), [(.t 26)], none⟩])
  (.keep [4] (.keep [4] .ret))))))))))),
  [(.t 4)]⟩
def s13_j0 (call : CallK) (N : Nat) (q : KV) (st : St) (τ : Tape) : Ans :=
  match st with
  | ⟨fr, H⟩ =>
  getK fr 5 fun t5 =>
  q t5 H τ
def s13_l1 (call : CallK) (N : Nat) (st : St) (τ : Tape) (k : KC) : Ans :=
  match st with
  | ⟨fr, H⟩ =>
  getK fr 1 fun t1 =>
  getK fr 5 fun t5 =>
  getK fr 6 fun t6 =>
  someK (pLen [t5]) fun v9 =>
  binK .lss t6 v9 fun v10 =>
  condK v10
    (someK (pSlIdx 1 [t5, t6]) fun v11 =>
  effK (eStore 1 [v11, t1] H τ) fun v12 H13 τ14 =>
  binK .add t6 (.int .i64 (.ofNat 1)) fun v15 =>
  k .normal ⟨(T.set (T.set (T.set (T.set (T.set (T.set .leaf 1 t1) 5 t5) 6 t6) 20 t6) 21 v15) 6 v15), H13⟩ τ14)
    (k (.exit 0) ⟨(T.set .leaf 5 t5), H⟩ τ)
def s13 (call : CallK) (N : Nat) (a0 a1 : V) (H : Heap) (τ : Tape) (q : KV) : Ans :=
  someK (pLen [a0]) fun v0 =>
  binK .add v0 (.int .i64 (.ofNat 80)) fun v1 =>
  effK (eMakeSlice 1 1 [(.int .u8 (.ofNat 0))] [v1, v1] H τ) fun v2 H3 τ4 =>
  effK (eCopy 1 [v2, a0] H3 τ4) fun v5 H6 τ7 =>
  someK (pLen [a0]) fun v8 =>
  loopK (s13_l1 call N) N ⟨(T.set (T.set (T.set .leaf 1 a1) 5 v2) 6 v8), H6⟩ τ7 (blockK 0 (seqK (s13_j0 call N q) (endK [(.t 4)] q)))
theorem s13_eq (call : CallK) (N : Nat) (a0 a1 : V) (H : Heap) (τ : Tape) (q : KV) : s13 call N a0 a1 H τ q = funK call N fn13 [a0, a1] H τ q := by kernel_rfl
def e13 (call : CallK) (N : Nat) (vs : List V) (H : Heap) (τ : Tape) (q : KV) : Ans := match vs with | [a0, a1] => s13 call N a0 a1 H τ q | _ => none
theorem e13_ok : EntOk fn13 e13 := by
  intro call N vs H τ q r h
  unfold e13 at h
  split at h
  · rw [s13_eq] at h; exact h
  · cases h
theorem e13_nat : EntNat e13 := by
  intro c hn N vs H τ q
  unfold e13
  split
  · rw [s13_eq, s13_eq]; exact funK_ent hn _ _ _ _ _ _
  · rfl
/-- (*ostiary/ostiaryref8.Table).Sum -/
def fn14 : Fun := ⟨3,
  (.seq (.reg [⟨(some 6), none, (.p .mv), [(.c .nils)], none⟩,
    ⟨(some 7), none, (.p .mv), [(.c (.bool false))], none⟩])
  (.keep [0, 1, 2] (.seq (.reg [⟨(some 18), none, (.p (.build [(.int .u64 (.ofNat 0))] [(0, 1)])), [(.c (.int .u64 (.ofNat 64)))], none⟩,
    ⟨(some 8), none, (.e (.alloc [(.int .u64 (.ofNat 0))])), [], none⟩,
    ⟨none, none, (.e (.store 1)), [(.t 8), (.t 18)], none⟩])
  (.keep [0, 1, 2, 8] (.seq (.reg [⟨(some 9), none, (.p .mv), [(.c (.int .i64 (.ofNat 128)))], none⟩])
  (.keep [0, 1, 2, 8, 9] (.seq (.reg [⟨(some 10), none, (.p .mv), [(.c (.int .i64 (.ofNat 0)))], none⟩])
  (.keep [0, 1, 2, 8, 9, 10] (.seq (.seq (.reg [⟨(some 19), none, (.p .mv), [(.t 1)], none⟩])
  (.keep [0, 1, 2, 8, 9, 10, 19] (.block 0
   (.seq (.reg [⟨(some 21), none, (.p (.bin .eql)), [(.t 19), (.c (.int .i64 (.ofNat 256)))], none⟩,
     ⟨(some 20), none, (.p .mv), [(.t 21)], none⟩])
   (.keep [0, 1, 2, 8, 9, 10, 19, 20] (.cond (.t 20)
    (.seq (.reg [⟨(some 22), none, (.p (.build [(.int .u64 (.ofNat 0))] [(0, 1)])), [(.c (.int .u64 (.ofNat 32)))], none⟩,
      ⟨none, none, (.e (.store 1)), [(.t 8), (.t 22)], none⟩])
    (.keep [0, 1, 2, 8, 10] (.reg [⟨(some 9), none, (.p .mv), [(.c (.int .i64 (.ofNat 64)))], none⟩])))
    (.seq (.reg [⟨(some 24), none, (.p (.bin .eql)), [(.t 19), (.c (.int .i64 (.ofNat 384)))], none⟩,
      ⟨(some 23), none, (.p .mv), [(.t 24)], none⟩])
    (.keep [0, 1, 2, 8, 9, 10, 19, 23] (.cond (.t 23)
     (.reg [⟨(some 10), none, (.p .mv), [(.c (.int .i64 (.ofNat 8)))], none⟩])
     (.seq (.reg [⟨(some 26), none, (.p (.bin .eql)), [(.t 19), (.c (.int .i64 (.ofNat 512)))], none⟩,
       ⟨(some 25), none, (.p .mv), [(.t 26)], none⟩])
     (.keep [0, 1, 2, 8, 9, 10, 25] (.cond (.t 25)
      .skip
      (.seq (.reg [⟨(some 6), none, (.p .mv), [(.c .nils)], none⟩,
        ⟨(some 7), none, (.p .mv), [(.c (.bool false))], none⟩])
      (.keep [6, 7] (.keep [6, 7] .ret)))))))))))))))
  (.keep [0, 1, 2, 8, 9, 10] (.seq (.reg [⟨(some 11), none, (.e (.alloc (repl 8 [(.int .u64 (.ofNat 0))]))), [], none⟩])
  (.keep [0, 1, 2, 8, 9, 10, 11] (.seq (.seq (.reg [⟨(some 12), none, (.p .mv), [(.c (.int .i64 (.ofNat 0)))], none⟩])
  (.keep [0, 1, 2, 8, 9, 10, 11, 12] (.block 1
   (.loop
    (.keep [0, 1, 2, 8, 9, 10, 11, 12] (.seq (.seq (.reg [⟨(some 27), none, (.p .mv), [(.t 12)], none⟩,
      ⟨(some 28), none, (.p (.bin .lss)), [(.t 27), (.c (.int .i64 (.ofNat 8)))], none⟩])
    (.keep [0, 1, 2, 8, 9, 10, 11, 12, 28] (.cond (.t 28)
     .skip
     (.keep [0, 1, 2, 8, 9, 11] (.exit 1)))))
    (.keep [0, 1, 2, 8, 9, 10, 11, 12] (.seq (.block 2
     (.seq (.reg [⟨(some 31), none, (.p .mv), [(.t 12)], none⟩,
       ⟨(some 32), none, (.p .mv), [(.t 0)], none⟩,
       ⟨(some 33), none, (.p .mv), [(.t 10)], none⟩,
       ⟨(some 34), none, (.p .mv), [(.t 12)], none⟩,
       ⟨(some 35), none, (.p (.bin .add)), [(.t 33), (.t 34)], none⟩,
       ⟨(some 36), none, (.p .nilck), [(.t 32)], none⟩,
       ⟨(some 37), none, (.p (.fieldAddr 80)), [(.t 36)], none⟩,
       ⟨(some 38), none, (.p (.arrIdx 16 1)), [(.t 37), (.t 35)], none⟩,
       ⟨(some 39), none, (.l (.load none)), [(.t 38)], none⟩,
       ⟨(some 40), none, (.p (.arrIdx 8 1)), [(.t 11), (.t 31)], none⟩,
       ⟨none, none, (.e (.store 1)), [(.t 40), (.t 39)], none⟩])
     (.keep [0, 1, 2, 8, 9, 10, 11, 12] (.seq (.reg [⟨(some 41), none, (.p .mv), [(.t 1)], none⟩,
       ⟨(some 42), none, (.p (.bin .eql)), [(.t 41), (.c (.int .i64 (.ofNat 256)))], none⟩])
     (.keep [0, 1, 2, 8, 9, 10, 11, 12, 42] (.cond (.t 42)
      (.reg [⟨(some 43), none, (.p .mv), [(.t 12)], none⟩,
        ⟨(some 44), none, (.p .mv), [(.t 12)], none⟩,
        ⟨(some 45), none, (.p (.arrIdx 8 1)), [(.t 11), (.t 44)], none⟩,
        ⟨(some 46), none, (.l (.load none)), [(.t 45)], none⟩,
        ⟨(some 47), none, (.p (.bin .shr)), [(.t 46), (.c (.int .u64 (.ofNat 32)))], none⟩,
        ⟨(some 48), none, (.p (.arrIdx 8 1)), [(.t 11), (.t 43)], none⟩,
        ⟨none, none, (.e (.store 1)), [(.t 48), (.t 47)], none⟩])
      .skip))))))
    (.keep [0, 1, 2, 8, 9, 10, 11, 12] (.reg [⟨(some 29), none, (.p .mv), [(.t 12)], none⟩,
      ⟨(some 30), none, (.p (.bin .add)), [(.t 29), (.c (.int .i64 (.ofNat 1)))], none⟩,
      ⟨(some 12), none, (.p .mv), [(.t 30)], none⟩]))))))))))
  (.keep [0, 1, 2, 8, 9, 11] (.seq (.reg [⟨(some 49), none, (.p .mv), [(.t 2)], none⟩,
    ⟨(some 50), none, (.p .mv), [(.t 9)], none⟩,
    ⟨(some 51), none, (.call 24), [(.t 49), (.t 50)], none⟩,
    ⟨(some 13), none, (.p .mv), [(.t 51)], none⟩])
  (.keep [0, 1, 8, 9, 11, 13] (.seq (.seq (.reg [⟨(some 14), none, (.p .mv), [(.c (.int .i64 (.ofNat 0)))], none⟩])
  (.keep [0, 1, 8, 9, 11, 13, 14] (.block 3
   (.loop
    (.keep [0, 1, 8, 9, 11, 13, 14] (.seq (.seq (.reg [⟨(some 52), none, (.p .mv), [(.t 14)], none⟩,
      ⟨(some 53), none, (.p .mv), [(.t 13)], none⟩,
      ⟨(some 54), none, (.p .len), [(.t 53)], none⟩,
      ⟨(some 55), none, (.p (.bin .lss)), [(.t 52), (.t 54)], none⟩])
    (.keep [0, 1, 8, 9, 11, 13, 14, 55] (.cond (.t 55)
     .skip
     (.keep [1, 8, 11] (.exit 3)))))
    (.keep [0, 1, 8, 9, 11, 13, 14] (.seq (.block 4
     (.draw [⟨(some 59), none, (.p .mv), [(.t 0)], none⟩,
       ⟨(some 60), none, (.l (.load (some 1))), [(.t 8)], none⟩,
       ⟨(some 61), none, (.l (.load (some 8))), [(.t 11)], none⟩,
       ⟨(some 62), none, (.p .mv), [(.t 13)], none⟩,
       ⟨(some 63), none, (.p .mv), [(.t 14)], none⟩,
       ⟨(some 64), none, (.p .mv), [(.t 14)], none⟩,
       ⟨(some 65), none, (.p .mv), [(.t 9)], none⟩,
       ⟨(some 66), none, (.p (.bin .add)), [(.t 64), (.t 65)], none⟩,
       ⟨(some 67), none, (.p (.slSlice 1 true true false)), [(.t 62), (.t 63), (.t 66)], none⟩,
       ⟨(some 68), none, (.call 25), [(.t 59), (.t 60), (.t 61), (.t 67)], none⟩,
       ⟨none, none, (.e (.store 8)), [(.t 11), (.t 68)], none⟩]))
    (.keep [0, 1, 8, 9, 11, 13, 14] (.reg [⟨(some 56), none, (.p .mv), [(.t 14)], none⟩,
      ⟨(some 57), none, (.p .mv), [(.t 9)], none⟩,
      ⟨(some 58), none, (.p (.bin .add)), [(.t 56), (.t 57)], none⟩,
      ⟨(some 14), none, (.p .mv), [(.t 58)], none⟩]))))))))))
  (.keep [1, 8, 11] (.seq (.reg [⟨(some 15), none, (.p .mv), [(.c .nils)], none⟩])
  (.keep [1, 8, 11, 15] (.seq (.seq (.reg [⟨(some 16), none, (.p .mv), [(.c (.int .i64 (.ofNat 0)))], none⟩])
  (.keep [1, 8, 11, 15, 16] (.block 5
   (.loop
    (.keep [1, 8, 11, 15, 16] (.seq (.seq (.reg [⟨(some 69), none, (.p .mv), [(.t 16)], none⟩,
      ⟨(some 70), none, (.p (.bin .lss)), [(.t 69), (.c (.int .i64 (.ofNat 8)))], none⟩])
    (.keep [1, 8, 11, 15, 16, 70] (.cond (.t 70)
     .skip
     (.keep [1, 15] (.exit 5)))))
    (.keep [1, 8, 11, 15, 16] (.seq (.block 6
     (.seq (.reg [⟨(some 73), none, (.p (.fieldAddr 0)), [(.t 8)], none⟩,
       ⟨(some 74), none, (.l (.load none)), [(.t 73)], none⟩,
       ⟨(some 75), none, (.p (.toInt .i64)), [(.t 74)], none⟩,
       ⟨(some 76), none, (.p (.bin .sub)), [(.t 75), (.c (.int .i64 (.ofNat 8)))], none⟩,
       ⟨(some 17), none, (.p .mv), [(.t 76)], none⟩])
     (.keep [1, 8, 11, 15, 16, 17] (.block 7
      (.loop
       (.keep [1, 8, 11, 15, 16, 17] (.seq (.seq (.reg [⟨(some 77), none, (.p .mv), [(.t 17)], none⟩,
         ⟨(some 78), none, (.p (.bin .geq)), [(.t 77), (.c (.int .i64 (.ofNat 0)))], none⟩])
       (.keep [1, 8, 11, 15, 16, 17, 78] (.cond (.t 78)
        .skip
        (.keep [1, 8, 11, 15, 16] (.exit 7)))))
       (.keep [1, 8, 11, 15, 16, 17] (.seq (.block 8
        (.reg [⟨(some 81), none, (.p .mv), [(.t 15)], none⟩,
          ⟨(some 82), none, (.p .mv), [(.t 16)], none⟩,
          ⟨(some 83), none, (.p (.arrIdx 8 1)), [(.t 11), (.t 82)], none⟩,
          ⟨(some 84), none, (.l (.load none)), [(.t 83)], none⟩,
          ⟨(some 85), none, (.p .mv), [(.t 17)], none⟩,
          ⟨(some 86), none, (.p (.toInt .u64)), [(.t 85)], none⟩,
          ⟨(some 87), none, (.p (.bin .shr)), [(.t 84), (.t 86)], none⟩,
          ⟨(some 88), none, (.p (.toInt .u8)), [(.t 87)], none⟩,
          ⟨(some 89), none, (.e (.buildSlice 1 1 [(.int .u8 (.ofNat 0))] [(0, 1)])), [(.t 88)], none⟩,
          ⟨(some 90), none, (.e (.append 1 1)), [(.t 81), (.t 89)], none⟩,
          ⟨(some 15), none, (.p .mv), [(.t 90)], none⟩]))
       (.keep [1, 8, 11, 15, 16, 17] (.reg [⟨(some 79), none, (.p .mv), [(.t 17)], none⟩,
         ⟨(some 80), none, (.p (.bin .sub)), [(.t 79), (.c (.int .i64 (.ofNat 8)))], none⟩,
         ⟨(some 17), none, (.p .mv), [(.t 80)], none⟩])))))))))))
    (.keep [1, 8, 11, 15, 16] (.reg [⟨(some 71), none, (.p .mv), [(.t 16)], none⟩,
      ⟨(some 72), none, (.p (.bin .add)), [(.t 71), (.c (.int .i64 (.ofNat 1)))], none⟩,
      ⟨(some 16), none, (.p .mv), [(.t 72)], none⟩]))))))))))
  (.keep [1, 15] (.seq (.reg [⟨(some 91), none, (.p .mv), [(.t 15)], none⟩,
    ⟨(some 92), none, (.p .mv), [(.t 1)], none⟩,
    ⟨(some 93), none, (.p (.bin .quo)), [(.t 92), (.c (.int .i64 (.ofNat 8)))], none⟩,
    ⟨(some 94), none, (.p (.slSlice 1 false true false)), [(.t 91), (.t 93)], none⟩,
    ⟨(some 6), none, (.p .mv), [(.t 94)], none⟩,
    ⟨(some 7), none, (.p .mv), [(.c (.bool true))], none⟩])
  (.keep [6, 7] (.keep [6, 7] .ret))))))))))))))))))))))))),
  [(.t 6), (.t 7)]⟩
def s14_j3 (call : CallK) (N : Nat) (q : KV) (st : St) (τ : Tape) : Ans :=
  match st with
  | ⟨fr, H⟩ =>
  getK fr 1 fun t1 =>
  getK fr 15 fun t15 =>
  binK .quo t1 (.int .i64 (.ofNat 8)) fun v13 =>
  someK (pSlSlice 1 false true false [t15, v13]) fun v14 =>
  q (.tup [v14, (.bool true)]) H τ
def s14_j5 (call : CallK) (N : Nat) (k : KC) (st : St) (τ : Tape) : Ans :=
  match st with
  | ⟨fr, H⟩ =>
  getK fr 1 fun t1 =>
  getK fr 8 fun t8 =>
  getK fr 11 fun t11 =>
  getK fr 15 fun t15 =>
  getK fr 16 fun t16 =>
  binK .add t16 (.int .i64 (.ofNat 1)) fun v16 =>
  k .normal ⟨(T.set (T.set (T.set (T.set (T.set (T.set (T.set (T.set .leaf 1 t1) 8 t8) 11 t11) 15 t15) 16 t16) 71 t16) 72 v16) 16 v16), H⟩ τ
def s14_l6 (call : CallK) (N : Nat) (st : St) (τ : Tape) (k : KC) : Ans :=
  match st with
  | ⟨fr, H⟩ =>
  getK fr 1 fun t1 =>
  getK fr 8 fun t8 =>
  getK fr 11 fun t11 =>
  getK fr 15 fun t15 =>
  getK fr 16 fun t16 =>
  getK fr 17 fun t17 =>
  binK .geq t17 (.int .i64 (.ofNat 0)) fun v21 =>
  condK v21
    (someK (pArrIdx 8 1 [t11, t16]) fun v22 =>
  someK (lLoad1 [v22] H) fun v23 =>
  toIntK .u64 t17 fun v24 =>
  binK .shr v23 v24 fun v25 =>
  toIntK .u8 v25 fun v26 =>
  effK (eBuildSlice 1 1 [(.int .u8 (.ofNat 0))] [(0, 1)] [v26] H τ) fun v27 H28 τ29 =>
  effK (eAppend 1 1 [t15, v27] H28 τ29) fun v30 H31 τ32 =>
  binK .sub t17 (.int .i64 (.ofNat 8)) fun v33 =>
  k .normal ⟨(T.set (T.set (T.set (T.set (T.set (T.set (T.set (T.set (T.set .leaf 1 t1) 8 t8) 11 t11) 15 v30) 16 t16) 17 t17) 79 t17) 80 v33) 17 v33), H31⟩ τ32)
    (k (.exit 7) ⟨(T.set (T.set (T.set (T.set (T.set .leaf 1 t1) 8 t8) 11 t11) 15 t15) 16 t16), H⟩ τ)
def s14_l4 (call : CallK) (N : Nat) (st : St) (τ : Tape) (k : KC) : Ans :=
  match st with
  | ⟨fr, H⟩ =>
  getK fr 1 fun t1 =>
  getK fr 8 fun t8 =>
  getK fr 11 fun t11 =>
  getK fr 15 fun t15 =>
  getK fr 16 fun t16 =>
  binK .lss t16 (.int .i64 (.ofNat 8)) fun v15 =>
  condK v15
    (someK (pFieldAddr 0 [t8]) fun v17 =>
  someK (lLoad1 [v17] H) fun v18 =>
  toIntK .i64 v18 fun v19 =>
  binK .sub v19 (.int .i64 (.ofNat 8)) fun v20 =>
  loopK (s14_l6 call N) N ⟨(T.set (T.set (T.set (T.set (T.set (T.set .leaf 1 t1) 8 t8) 11 t11) 15 t15) 16 t16) 17 v20), H⟩ τ (blockK 7 (blockK 6 (seqK (s14_j5 call N k) k))))
    (k (.exit 5) ⟨(T.set (T.set .leaf 1 t1) 15 t15), H⟩ τ)
def s14_j2 (call : CallK) (N : Nat) (q : KV) (st : St) (τ : Tape) : Ans :=
  match st with
  | ⟨fr, H⟩ =>
  getK fr 1 fun t1 =>
  getK fr 8 fun t8 =>
  getK fr 11 fun t11 =>
  loopK (s14_l4 call N) N ⟨(T.set (T.set (T.set (T.set (T.set .leaf 1 t1) 8 t8) 11 t11) 15 .nils) 16 (.int .i64 (.ofNat 0))), H⟩ τ (blockK 5 (seqK (s14_j3 call N q) (endK [(.t 6), (.t 7)] q)))
def s14_l7 (call : CallK) (N : Nat) (st : St) (τ : Tape) (k : KC) : Ans :=
  match st with
  | ⟨fr, H⟩ =>
  getK fr 0 fun t0 =>
  getK fr 1 fun t1 =>
  getK fr 8 fun t8 =>
  getK fr 9 fun t9 =>
  getK fr 11 fun t11 =>
  getK fr 13 fun t13 =>
  getK fr 14 fun t14 =>
  someK (pLen [t13]) fun v34 =>
  binK .lss t14 v34 fun v35 =>
  condK v35
    (someK (lLoadN 1 [t8] H) fun v36 =>
  someK (lLoadN 8 [t11] H) fun v37 =>
  binK .add t14 t9 fun v38 =>
  someK (pSlSlice 1 true true false [t13, t14, v38]) fun v39 =>
  call 25 [t0, v36, v37, v39] H τ fun v40 H41 τ42 =>
  effK (eStore 8 [t11, v40] H41 τ42) fun v43 H44 τ45 =>
  binK .add t14 t9 fun v46 =>
  k .normal ⟨(T.set (T.set (T.set (T.set (T.set (T.set (T.set (T.set (T.set (T.set (T.set .leaf 0 t0) 1 t1) 8 t8) 9 t9) 11 t11) 13 t13) 14 t14) 56 t14) 57 t9) 58 v46) 14 v46), H44⟩ τ45)
    (k (.exit 3) ⟨(T.set (T.set (T.set .leaf 1 t1) 8 t8) 11 t11), H⟩ τ)
def s14_j1 (call : CallK) (N : Nat) (q : KV) (st : St) (τ : Tape) : Ans :=
  match st with
  | ⟨fr, H⟩ =>
  getK fr 0 fun t0 =>
  getK fr 1 fun t1 =>
  getK fr 2 fun t2 =>
  getK fr 8 fun t8 =>
  getK fr 9 fun t9 =>
  getK fr 11 fun t11 =>
  call 24 [t2, t9] H τ fun v10 H11 τ12 =>
  loopK (s14_l7 call N) N ⟨(T.set (T.set (T.set (T.set (T.set (T.set (T.set .leaf 0 t0) 1 t1) 8 t8) 9 t9) 11 t11) 13 v10) 14 (.int .i64 (.ofNat 0))), H11⟩ τ12 (blockK 3 (seqK (s14_j2 call N q) (endK [(.t 6), (.t 7)] q)))
def s14_j9 (call : CallK) (N : Nat) (k : KC) (st : St) (τ : Tape) : Ans :=
  match st with
  | ⟨fr, H⟩ =>
  getK fr 0 fun t0 =>
  getK fr 1 fun t1 =>
  getK fr 2 fun t2 =>
  getK fr 8 fun t8 =>
  getK fr 9 fun t9 =>
  getK fr 10 fun t10 =>
  getK fr 11 fun t11 =>
  getK fr 12 fun t12 =>
  binK .add t12 (.int .i64 (.ofNat 1)) fun v48 =>
  k .normal ⟨(T.set (T.set (T.set (T.set (T.set (T.set (T.set (T.set (T.set (T.set (T.set .leaf 0 t0) 1 t1) 2 t2) 8 t8) 9 t9) 10 t10) 11 t11) 12 t12) 29 t12) 30 v48) 12 v48), H⟩ τ
def s14_l8 (call : CallK) (N : Nat) (st : St) (τ : Tape) (k : KC) : Ans :=
  match st with
  | ⟨fr, H⟩ =>
  getK fr 0 fun t0 =>
  getK fr 1 fun t1 =>
  getK fr 2 fun t2 =>
  getK fr 8 fun t8 =>
  getK fr 9 fun t9 =>
  getK fr 10 fun t10 =>
  getK fr 11 fun t11 =>
  getK fr 12 fun t12 =>
  binK .lss t12 (.int .i64 (.ofNat 8)) fun v47 =>
  condK v47
    (binK .add t10 t12 fun v49 =>
  someK (pNilck [t0]) fun v50 =>
  someK (pFieldAddr 80 [v50]) fun v51 =>
  someK (pArrIdx 16 1 [v51, v49]) fun v52 =>
  someK (lLoad1 [v52] H) fun v53 =>
  someK (pArrIdx 8 1 [t11, t12]) fun v54 =>
  effK (eStore 1 [v54, v53] H τ) fun v55 H56 τ57 =>
  binK .eql t1 (.int .i64 (.ofNat 256)) fun v58 =>
  condK v58
    (someK (pArrIdx 8 1 [t11, t12]) fun v59 =>
  someK (lLoad1 [v59] H56) fun v60 =>
  binK .shr v60 (.int .u64 (.ofNat 32)) fun v61 =>
  someK (pArrIdx 8 1 [t11, t12]) fun v62 =>
  effK (eStore 1 [v62, v61] H56 τ57) fun v63 H64 τ65 =>
  s14_j9 call N k ⟨(T.set (T.set (T.set (T.set (T.set (T.set (T.set (T.set (T.set (T.set (T.set (T.set (T.set (T.set (T.set .leaf 0 t0) 1 t1) 2 t2) 8 t8) 9 t9) 10 t10) 11 t11) 12 t12) 42 v58) 43 t12) 44 t12) 45 v59) 46 v60) 47 v61) 48 v62), H64⟩ τ65)
    (s14_j9 call N k ⟨(T.set (T.set (T.set (T.set (T.set (T.set (T.set (T.set (T.set .leaf 0 t0) 1 t1) 2 t2) 8 t8) 9 t9) 10 t10) 11 t11) 12 t12) 42 v58), H56⟩ τ57))
    (k (.exit 1) ⟨(T.set (T.set (T.set (T.set (T.set (T.set .leaf 0 t0) 1 t1) 2 t2) 8 t8) 9 t9) 11 t11), H⟩ τ)
def s14_j0 (call : CallK) (N : Nat) (q : KV) (st : St) (τ : Tape) : Ans :=
  match st with
  | ⟨fr, H⟩ =>
  getK fr 0 fun t0 =>
  getK fr 1 fun t1 =>
  getK fr 2 fun t2 =>
  getK fr 8 fun t8 =>
  getK fr 9 fun t9 =>
  getK fr 10 fun t10 =>
  effK (eAlloc (repl 8 [(.int .u64 (.ofNat 0))]) [] H τ) fun v7 H8 τ9 =>
  loopK (s14_l8 call N) N ⟨(T.set (T.set (T.set (T.set (T.set (T.set (T.set (T.set .leaf 0 t0) 1 t1) 2 t2) 8 t8) 9 t9) 10 t10) 11 v7) 12 (.int .i64 (.ofNat 0))), H8⟩ τ9 (blockK 1 (seqK (s14_j1 call N q) (endK [(.t 6), (.t 7)] q)))
def s14 (call : CallK) (N : Nat) (a0 a1 a2 : V) (H : Heap) (τ : Tape) (q : KV) : Ans :=
  someK (pBuild [(.int .u64 (.ofNat 0))] [(0, 1)] [(.int .u64 (.ofNat 64))]) fun v0 =>
  effK (eAlloc [(.int .u64 (.ofNat 0))] [] H τ) fun v1 H2 τ3 =>
  effK (eStore 1 [v1, v0] H2 τ3) fun v4 H5 τ6 =>
  binK .eql a1 (.int .i64 (.ofNat 256)) fun v66 =>
  condK v66
    (someK (pBuild [(.int .u64 (.ofNat 0))] [(0, 1)] [(.int .u64 (.ofNat 32))]) fun v67 =>
  effK (eStore 1 [v1, v67] H5 τ6) fun v68 H69 τ70 =>
  s14_j0 call N q ⟨(T.set (T.set (T.set (T.set (T.set (T.set .leaf 0 a0) 1 a1) 2 a2) 8 v1) 10 (.int .i64 (.ofNat 0))) 9 (.int .i64 (.ofNat 64))), H69⟩ τ70)
    (binK .eql a1 (.int .i64 (.ofNat 384)) fun v71 =>
  condK v71
    (s14_j0 call N q ⟨(T.set (T.set (T.set (T.set (T.set (T.set (T.set (T.set (T.set .leaf 0 a0) 1 a1) 2 a2) 8 v1) 9 (.int .i64 (.ofNat 128))) 10 (.int .i64 (.ofNat 0))) 19 a1) 23 v71) 10 (.int .i64 (.ofNat 8))), H5⟩ τ6)
    (binK .eql a1 (.int .i64 (.ofNat 512)) fun v72 =>
  condK v72
    (s14_j0 call N q ⟨(T.set (T.set (T.set (T.set (T.set (T.set (T.set .leaf 0 a0) 1 a1) 2 a2) 8 v1) 9 (.int .i64 (.ofNat 128))) 10 (.int .i64 (.ofNat 0))) 25 v72), H5⟩ τ6)
    (q (.tup [.nils, (.bool false)]) H5 τ6)))
theorem s14_eq (call : CallK) (N : Nat) (a0 a1 a2 : V) (H : Heap) (τ : Tape) (q : KV) : s14 call N a0 a1 a2 H τ q = funK call N fn14 [a0, a1, a2] H τ q := by kernel_rfl
def e14 (call : CallK) (N : Nat) (vs : List V) (H : Heap) (τ : Tape) (q : KV) : Ans := match vs with | [a0, a1, a2] => s14 call N a0 a1 a2 H τ q | _ => none
theorem e14_ok : EntOk fn14 e14 := by
  intro call N vs H τ q r h
  unfold e14 at h
  split at h
  · rw [s14_eq] at h; exact h
  · cases h
theorem e14_nat : EntNat e14 := by
  intro c hn N vs H τ q
  unfold e14
  split
  · rw [s14_eq, s14_eq]; exact funK_ent hn _ _ _ _ _ _
  · rfl
/-- ostiary/ostiarybook.Intact[byte] -/
def fn15 : Fun := ⟨3,
  (.seq (.reg [⟨(some 6), none, (.p .mv), [(.c (.bool false))], none⟩])
  (.keep [0, 1, 2] (.seq (.seq (.reg [⟨(some 8), none, (.p .mv), [(.t 0)], none⟩,
    ⟨(some 9), none, (.p .len), [(.t 8)], none⟩,
    ⟨(some 10), none, (.p .mv), [(.t 1)], none⟩,
    ⟨(some 11), none, (.p .len), [(.t 10)], none⟩,
    ⟨(some 12), none, (.p (.bin .add)), [(.t 11), (.c (.int .i64 (.ofNat 80)))], none⟩,
    ⟨(some 13), none, (.p (.bin .neq)), [(.t 9), (.t 12)], none⟩,
    ⟨(some 14), none, (.p .mv), [(.t 13)], none⟩,
    ⟨(some 15), some (14, false), (.p .mv), [(.t 0)], none⟩,
    ⟨(some 16), some (14, false), (.p .mv), [(.t 1)], none⟩,
    ⟨(some 17), some (14, false), (.p .len), [(.t 16)], none⟩,
    ⟨(some 18), some (14, false), (.p (.slSlice 1 false true false)), [(.t 15), (.t 17)], none⟩,
    ⟨(some 19), some (14, false), (.p .mv), [(.t 1)], none⟩,
    ⟨(some 20), some (14, false), (.call 26), [(.t 18), (.t 19)], none⟩,
    ⟨(some 21), some (14, false), (.p (.un .not)), [(.t 20)], none⟩,
    ⟨(some 22), none, (.p .pick), [(.t 14), (.c (.bool true)), (.t 21)], none⟩])
  (.keep [0, 1, 2, 22] (.cond (.t 22)
   (.seq (.reg [⟨(some 6), none, (.p .mv), [(.c (.bool false))], none⟩])
   (.keep [6] (.keep [6] .ret)))
   .skip)))
  (.keep [0, 1, 2] (.seq (.seq (.reg [⟨(some 23), none, (.p .mv), [(.t 1)], none⟩,
    ⟨(some 24), none, (.p .len), [(.t 23)], none⟩,
    ⟨(some 7), none, (.p .mv), [(.t 24)], none⟩])
  (.keep [0, 2, 7] (.block 0
   (.loop
    (.keep [0, 2, 7] (.seq (.seq (.reg [⟨(some 25), none, (.p .mv), [(.t 7)], none⟩,
      ⟨(some 26), none, (.p .mv), [(.t 0)], none⟩,
      ⟨(some 27), none, (.p .len), [(.t 26)], none⟩,
      ⟨(some 28), none, (.p (.bin .lss)), [(.t 25), (.t 27)], none⟩])
    (.keep [0, 2, 7, 28] (.cond (.t 28)
     .skip
     (.keep [] (.exit 0)))))
    (.keep [0, 2, 7] (.seq (.block 1
     (.seq (.reg [⟨(some 31), none, (.p .mv), [(.t 0)], none⟩,
       ⟨(some 32), none, (.p .mv), [(.t 7)], none⟩,
       ⟨(some 33), none, (.p (.slIdx 1)), [(.t 31), (.t 32)], none⟩,
       ⟨(some 34), none, (.l (.load none)), [(.t 33)], none⟩,
       ⟨(some 35), none, (.p .mv), [(.t 2)], none⟩,
       ⟨(some 36), none, (.p (.bin .neq)), [(.t 34), (.t 35)], none⟩])
     (.keep [0, 2, 7, 36] (.cond (.t 36)
      (.seq (.reg [⟨(some 6), none, (.p .mv), [(.c (.bool false))], none⟩])
      (.keep [6] (.keep [6] .ret)))
      .skip))))
    (.keep [0, 2, 7] (.reg [⟨(some 29), none, (.p .mv), [(.t 7)], none⟩,
      ⟨(some 30), none, (.p (.bin .add)), [(.t 29), (.c (.int .i64 (.ofNat 1)))], none⟩,
      ⟨(some 7), none, (.p .mv), [(.t 30)], none⟩]))))))))))
  (.keep [] (.seq (.reg [⟨(some 6), none, (.p .mv), [(.c (.bool true))], none⟩])
  (.keep [6] (.keep [6] .ret))))))))),
  [(.t 6)]⟩
def s15_j0 (call : CallK) (N : Nat) (q : KV) (st : St) (τ : Tape) : Ans :=
  match st with
  | ⟨fr, H⟩ =>
  q (.bool true) H τ
def s15_l1 (call : CallK) (N : Nat) (st : St) (τ : Tape) (k : KC) : Ans :=
  match st with
  | ⟨fr, H⟩ =>
  getK fr 0 fun t0 =>
  getK fr 2 fun t2 =>
  getK fr 7 fun t7 =>
  someK (pLen [t0]) fun v27 =>
  binK .lss t7 v27 fun v28 =>
  condK v28
    (someK (pSlIdx 1 [t0, t7]) fun v29 =>
  someK (lLoad1 [v29] H) fun v30 =>
  binK .neq v30 t2 fun v31 =>
  condK v31
    (k .ret ⟨(T.set .leaf 6 (.bool false)), H⟩ τ)
    (binK .add t7 (.int .i64 (.ofNat 1)) fun v32 =>
  k .normal ⟨(T.set (T.set (T.set (T.set (T.set (T.set .leaf 0 t0) 2 t2) 7 t7) 29 t7) 30 v32) 7 v32), H⟩ τ))
    (k (.exit 0) ⟨.leaf, H⟩ τ)
def s15 (call : CallK) (N : Nat) (a0 a1 a2 : V) (H : Heap) (τ : Tape) (q : KV) : Ans :=
  someK (pLen [a0]) fun v0 =>
  someK (pLen [a1]) fun v1 =>
  binK .add v1 (.int .i64 (.ofNat 80)) fun v2 =>
  binK .neq v0 v2 fun v3 =>
  gK v3 false (fun q' => q' a0 H τ) H τ fun v4 H5 τ6 =>
  gK v3 false (fun q' => q' a1 H5 τ6) H5 τ6 fun v7 H8 τ9 =>
  gK v3 false (fun q' => someK (pLen [v7]) fun v => q' v H8 τ9) H8 τ9 fun v10 H11 τ12 =>
  gK v3 false (fun q' => someK (pSlSlice 1 false true false [v4, v10]) fun v => q' v H11 τ12) H11 τ12 fun v13 H14 τ15 =>
  gK v3 false (fun q' => q' a1 H14 τ15) H14 τ15 fun v16 H17 τ18 =>
  gK v3 false (fun q' => call 26 [v13, v16] H17 τ18 q') H17 τ18 fun v19 H20 τ21 =>
  gK v3 false (fun q' => unK .not v19 fun v => q' v H20 τ21) H20 τ21 fun v22 H23 τ24 =>
  someK (pPick [v3, (.bool true), v22]) fun v25 =>
  condK v25
    (q (.bool false) H23 τ24)
    (someK (pLen [a1]) fun v26 =>
  loopK (s15_l1 call N) N ⟨(T.set (T.set (T.set .leaf 0 a0) 2 a2) 7 v26), H23⟩ τ24 (blockK 0 (seqK (s15_j0 call N q) (endK [(.t 6)] q))))
theorem s15_eq (call : CallK) (N : Nat) (a0 a1 a2 : V) (H : Heap) (τ : Tape) (q : KV) : s15 call N a0 a1 a2 H τ q = funK call N fn15 [a0, a1, a2] H τ q := by kernel_rfl
def e15 (call : CallK) (N : Nat) (vs : List V) (H : Heap) (τ : Tape) (q : KV) : Ans := match vs with | [a0, a1, a2] => s15 call N a0 a1 a2 H τ q | _ => none
theorem e15_ok : EntOk fn15 e15 := by
  intro call N vs H τ q r h
  unfold e15 at h
  split at h
  · rw [s15_eq] at h; exact h
  · cases h
theorem e15_nat : EntNat e15 := by
  intro c hn N vs H τ q
  unfold e15
  split
  · rw [s15_eq, s15_eq]; exact funK_ent hn _ _ _ _ _ _
  · rfl
/-- ostiary/ostiarybook.Within -/
def fn16 : Fun := ⟨3,
  (.seq (.reg [⟨(some 6), none, (.p .mv), [(.c (.int .i64 (.ofNat 0)))], none⟩])
  (.keep [0, 1, 2] (.seq (.reg [⟨(some 7), none, (.p .mv), [(.t 0)], none⟩,
    ⟨(some 8), none, (.p .mv), [(.t 2)], none⟩,
    ⟨(some 9), none, (.p .mv), [(.t 1)], none⟩,
    ⟨(some 10), none, (.p (.bin .sub)), [(.t 8), (.t 9)], none⟩,
    ⟨(some 11), none, (.p (.bin .add)), [(.t 10), (.c (.int .i64 (.ofNat 1)))], none⟩,
    ⟨(some 12), none, (.p (.bin .rem)), [(.t 7), (.t 11)], none⟩,
    ⟨(some 0), none, (.p .mv), [(.t 12)], none⟩])
  (.keep [0, 1, 2] (.seq (.seq (.reg [⟨(some 13), none, (.p .mv), [(.t 0)], none⟩,
    ⟨(some 14), none, (.p (.bin .lss)), [(.t 13), (.c (.int .i64 (.ofNat 0)))], none⟩])
  (.keep [0, 1, 2, 14] (.cond (.t 14)
   (.reg [⟨(some 15), none, (.p .mv), [(.t 0)], none⟩,
     ⟨(some 16), none, (.p .mv), [(.t 2)], none⟩,
     ⟨(some 17), none, (.p (.bin .add)), [(.t 15), (.t 16)], none⟩,
     ⟨(some 18), none, (.p .mv), [(.t 1)], none⟩,
     ⟨(some 19), none, (.p (.bin .sub)), [(.t 17), (.t 18)], none⟩,
     ⟨(some 20), none, (.p (.bin .add)), [(.t 19), (.c (.int .i64 (.ofNat 1)))], none⟩,
     ⟨(some 0), none, (.p .mv), [(.t 20)], none⟩])
   .skip)))
  (.keep [0, 1] (.seq (.reg [⟨(some 21), none, (.p .mv), [(.t 1)], none⟩,
    ⟨(some 22), none, (.p .mv), [(.t 0)], none⟩,
    ⟨(some 23), none, (.p (.bin .add)), [(.t 21), (.t 22)], none⟩,
    ⟨(some 6), none, (.p .mv), [(.t 23)], none⟩])
  (.keep [6] (.keep [6] .ret))))))))),
  [(.t 6)]⟩
def s16_j0 (call : CallK) (N : Nat) (q : KV) (st : St) (τ : Tape) : Ans :=
  match st with
  | ⟨fr, H⟩ =>
  getK fr 0 fun t0 =>
  getK fr 1 fun t1 =>
  binK .add t1 t0 fun v4 =>
  q v4 H τ
def s16 (call : CallK) (N : Nat) (a0 a1 a2 : V) (H : Heap) (τ : Tape) (q : KV) : Ans :=
  binK .sub a2 a1 fun v0 =>
  binK .add v0 (.int .i64 (.ofNat 1)) fun v1 =>
  binK .rem a0 v1 fun v2 =>
  binK .lss v2 (.int .i64 (.ofNat 0)) fun v3 =>
  condK v3
    (binK .add v2 a2 fun v5 =>
  binK .sub v5 a1 fun v6 =>
  binK .add v6 (.int .i64 (.ofNat 1)) fun v7 =>
  s16_j0 call N q ⟨(T.set (T.set (T.set (T.set (T.set (T.set (T.set (T.set (T.set (T.set (T.set .leaf 0 v2) 1 a1) 2 a2) 14 v3) 15 v2) 16 a2) 17 v5) 18 a1) 19 v6) 20 v7) 0 v7), H⟩ τ)
    (s16_j0 call N q ⟨(T.set (T.set (T.set (T.set .leaf 0 v2) 1 a1) 2 a2) 14 v3), H⟩ τ)
theorem s16_eq (call : CallK) (N : Nat) (a0 a1 a2 : V) (H : Heap) (τ : Tape) (q : KV) : s16 call N a0 a1 a2 H τ q = funK call N fn16 [a0, a1, a2] H τ q := by kernel_rfl
def e16 (call : CallK) (N : Nat) (vs : List V) (H : Heap) (τ : Tape) (q : KV) : Ans := match vs with | [a0, a1, a2] => s16 call N a0 a1 a2 H τ q | _ => none
theorem e16_ok : EntOk fn16 e16 := by
  intro call N vs H τ q r h
  unfold e16 at h
  split at h
  · rw [s16_eq] at h; exact h
  · cases h
theorem e16_nat : EntNat e16 := by
  intro c hn N vs H τ q
  unfold e16
  split
  · rw [s16_eq, s16_eq]; exact funK_ent hn _ _ _ _ _ _
  · rfl
/-- (*ostiary/ostiarybook.Book[byte]).Keep -/
def fn17 : Fun := ⟨2,
  (.seq (.reg [⟨(some 4), none, (.p .mv), [(.t 0)], none⟩,
    ⟨(some 5), none, (.p .mv), [(.t 0)], none⟩,
    ⟨(some 6), none, (.p .nilck), [(.t 5)], none⟩,
    ⟨(some 7), none, (.p (.fieldAddr 0)), [(.t 6)], none⟩,
    ⟨(some 8), none, (.l (.load none)), [(.t 7)], none⟩,
    ⟨(some 9), none, (.p .mv), [(.t 1)], none⟩,
    ⟨(some 10), none, (.e (.buildSlice 1 1 [.nils] [(0, 1)])), [(.t 9)], none⟩,
    ⟨(some 11), none, (.e (.append 1 24)), [(.t 8), (.t 10)], none⟩,
    ⟨(some 12), none, (.p .nilck), [(.t 4)], none⟩,
    ⟨(some 13), none, (.p (.fieldAddr 0)), [(.t 12)], none⟩,
    ⟨none, none, (.e (.store 1)), [(.t 13), (.t 11)], none⟩])
  (.keep [0, 1] (.seq (.draw [⟨(some 14), none, (.p .mv), [(.t 0)], none⟩,
    ⟨(some 15), none, (.p .mv), [(.t 0)], none⟩,
    ⟨(some 16), none, (.p .nilck), [(.t 15)], none⟩,
    ⟨(some 17), none, (.p (.fieldAddr 1)), [(.t 16)], none⟩,
    ⟨(some 18), none, (.l (.load none)), [(.t 17)], some (0, 2)⟩,
    ⟨(some 19), none, (.p .mv), [(.t 1)], none⟩,
    ⟨(some 20), none, (.e (.append 1 1)), [(.c .nils), (.t 19)], none⟩,
    ⟨(some 21), none, (.e (.buildSlice 1 1 [.nils] [(0, 1)])), [(.t 20)], none⟩,
    ⟨(some 22), none, (.e (.append 1 24)), [(.t 18), (.t 21)], none⟩,
    ⟨(some 23), none, (.p .nilck), [(.t 14)], none⟩,
    ⟨(some 24), none, (.p (.fieldAddr 1)), [(.t 23)], none⟩,
    ⟨none, none, (.e (.store 1)), [(.t 24), (.t 22)], none⟩])
  (.keep [0, 1] (.seq (.reg [⟨(some 25), none, (.p .mv), [(.t 0)], none⟩,
    ⟨(some 26), none, (.p .mv), [(.t 0)], none⟩,
    ⟨(some 27), none, (.p .nilck), [(.t 26)], none⟩,
    ⟨(some 28), none, (.p (.fieldAddr 2)), [(.t 27)], none⟩,
    ⟨(some 29), none, (.l (.load none)), [(.t 28)], none⟩,
    ⟨(some 30), none, (.p .mv), [(.t 1)], none⟩,
    ⟨(some 31), none, (.p .cap), [(.t 30)], none⟩,
    ⟨(some 32), none, (.p (.bin .add)), [(.t 29), (.t 31)], none⟩,
    ⟨(some 33), none, (.p (.bin .add)), [(.t 32), (.c (.int .i64 (.ofNat 1)))], none⟩,
    ⟨(some 34), none, (.p .nilck), [(.t 25)], none⟩,
    ⟨(some 35), none, (.p (.fieldAddr 2)), [(.t 34)], none⟩,
    ⟨none, none, (.e (.store 1)), [(.t 35), (.t 33)], none⟩])
  (.keep [0] (.block 0
   (.loop
    (.keep [0] (.seq (.seq (.reg [⟨(some 36), none, (.p .mv), [(.t 0)], none⟩,
      ⟨(some 37), none, (.p .nilck), [(.t 36)], none⟩,
      ⟨(some 38), none, (.p (.fieldAddr 0)), [(.t 37)], none⟩,
      ⟨(some 39), none, (.l (.load none)), [(.t 38)], none⟩,
      ⟨(some 40), none, (.p .len), [(.t 39)], none⟩,
      ⟨(some 41), none, (.p (.bin .gtr)), [(.t 40), (.c (.int .i64 (.ofNat 1)))], none⟩,
      ⟨(some 42), none, (.p .mv), [(.t 41)], none⟩,
      ⟨(some 43), some (42, true), (.p .mv), [(.t 0)], none⟩,
      ⟨(some 44), some (42, true), (.p .nilck), [(.t 43)], none⟩,
      ⟨(some 45), some (42, true), (.p (.fieldAddr 2)), [(.t 44)], none⟩,
      ⟨(some 46), some (42, true), (.l (.load none)), [(.t 45)], none⟩,
      ⟨(some 47), some (42, true), (.p (.bin .gtr)), [(.t 46), (.c (.int .i64 (.ofNat 1000000)))], none⟩,
      ⟨(some 48), some (42, true), (.p .mv), [(.t 47)], none⟩,
      ⟨(some 49), some (48, false), (.p .mv), [(.t 0)], none⟩,
      ⟨(some 50), some (48, false), (.p .nilck), [(.t 49)], none⟩,
      ⟨(some 51), some (48, false), (.p (.fieldAddr 0)), [(.t 50)], none⟩,
      ⟨(some 52), some (48, false), (.l (.load none)), [(.t 51)], none⟩,
      ⟨(some 53), some (48, false), (.p .len), [(.t 52)], none⟩,
      ⟨(some 54), some (48, false), (.p (.bin .gtr)), [(.t 53), (.c (.int .i64 (.ofNat 4000)))], none⟩,
      ⟨(some 55), some (42, true), (.p .pick), [(.t 48), (.c (.bool true)), (.t 54)], none⟩,
      ⟨(some 56), none, (.p .pick), [(.t 42), (.t 55), (.c (.bool false))], none⟩])
    (.keep [0, 56] (.cond (.t 56)
     .skip
     (.keep [] (.exit 0)))))
    (.keep [0] (.block 1
     (.seq (.draw [⟨(some 57), none, (.p .mv), [(.t 0)], none⟩,
       ⟨(some 58), none, (.p .mv), [(.t 0)], none⟩,
       ⟨(some 59), none, (.p .nilck), [(.t 58)], none⟩,
       ⟨(some 60), none, (.p (.fieldAddr 3)), [(.t 59)], none⟩,
       ⟨(some 61), none, (.l (.load none)), [(.t 60)], none⟩,
       ⟨(some 62), none, (.p .mv), [(.t 61)], none⟩,
       ⟨(some 63), some (62, false), (.p .mv), [(.t 0)], none⟩,
       ⟨(some 64), some (62, false), (.p .nilck), [(.t 63)], none⟩,
       ⟨(some 65), some (62, false), (.p (.fieldAddr 0)), [(.t 64)], none⟩,
       ⟨(some 66), some (62, false), (.l (.load none)), [(.t 65)], none⟩,
       ⟨(some 67), some (62, false), (.p (.slIdx 1)), [(.t 66), (.c (.int .i64 (.ofNat 0)))], none⟩,
       ⟨(some 68), some (62, false), (.l (.load none)), [(.t 67)], none⟩,
       ⟨(some 69), some (62, false), (.p .mv), [(.t 0)], none⟩,
       ⟨(some 70), some (62, false), (.p .nilck), [(.t 69)], none⟩,
       ⟨(some 71), some (62, false), (.p (.fieldAddr 1)), [(.t 70)], none⟩,
       ⟨(some 72), some (62, false), (.l (.load none)), [(.t 71)], none⟩,
       ⟨(some 73), some (62, false), (.p (.slIdx 1)), [(.t 72), (.c (.int .i64 (.ofNat 0)))], none⟩,
       ⟨(some 74), some (62, false), (.l (.load none)), [(.t 73)], none⟩,
       ⟨(some 75), some (62, false), (.call 26), [(.t 68), (.t 74)], none⟩,
       ⟨(some 76), some (62, false), (.p (.un .not)), [(.t 75)], none⟩,
       ⟨(some 77), none, (.p .pick), [(.t 62), (.c (.bool true)), (.t 76)], none⟩,
       ⟨(some 78), none, (.p .nilck), [(.t 57)], none⟩,
       ⟨(some 79), none, (.p (.fieldAddr 3)), [(.t 78)], none⟩,
       ⟨none, none, (.e (.store 1)), [(.t 79), (.t 77)], none⟩])
     (.keep [0] (.seq (.draw [⟨(some 80), none, (.p .mv), [(.t 0)], none⟩,
       ⟨(some 81), none, (.p .mv), [(.t 0)], none⟩,
       ⟨(some 82), none, (.p .nilck), [(.t 81)], none⟩,
       ⟨(some 83), none, (.p (.fieldAddr 2)), [(.t 82)], none⟩,
       ⟨(some 84), none, (.l (.load none)), [(.t 83)], none⟩,
       ⟨(some 85), none, (.p .mv), [(.t 0)], none⟩,
       ⟨(some 86), none, (.p .nilck), [(.t 85)], none⟩,
       ⟨(some 87), none, (.p (.fieldAddr 0)), [(.t 86)], none⟩,
       ⟨(some 88), none, (.l (.load none)), [(.t 87)], none⟩,
       ⟨(some 89), none, (.p (.slIdx 1)), [(.t 88), (.c (.int .i64 (.ofNat 0)))], none⟩,
       ⟨(some 90), none, (.l (.load none)), [(.t 89)], none⟩,
       ⟨(some 91), none, (.p .cap), [(.t 90)], none⟩,
       ⟨(some 92), none, (.p (.bin .sub)), [(.t 84), (.t 91)], none⟩,
       ⟨(some 93), none, (.p (.bin .sub)), [(.t 92), (.c (.int .i64 (.ofNat 1)))], none⟩,
       ⟨(some 94), none, (.p .nilck), [(.t 80)], none⟩,
       ⟨(some 95), none, (.p (.fieldAddr 2)), [(.t 94)], none⟩,
       ⟨none, none, (.e (.store 1)), [(.t 95), (.t 93)], none⟩])
     (.keep [0] (.seq (.reg [⟨(some 96), none, (.p .mv), [(.t 0)], none⟩,
       ⟨(some 97), none, (.p .mv), [(.t 0)], none⟩,
       ⟨(some 98), none, (.p .nilck), [(.t 97)], none⟩,
       ⟨(some 99), none, (.p (.fieldAddr 0)), [(.t 98)], none⟩,
       ⟨(some 100), none, (.l (.load none)), [(.t 99)], none⟩,
       ⟨(some 101), none, (.p (.slSlice 1 true false false)), [(.t 100), (.c (.int .i64 (.ofNat 1)))], none⟩,
       ⟨(some 102), none, (.p .nilck), [(.t 96)], none⟩,
       ⟨(some 103), none, (.p (.fieldAddr 0)), [(.t 102)], none⟩,
       ⟨none, none, (.e (.store 1)), [(.t 103), (.t 101)], none⟩])
     (.keep [0] (.reg [⟨(some 104), none, (.p .mv), [(.t 0)], none⟩,
       ⟨(some 105), none, (.p .mv), [(.t 0)], none⟩,
       ⟨(some 106), none, (.p .nilck), [(.t 105)], none⟩,
       ⟨(some 107), none, (.p (.fieldAddr 1)), [(.t 106)], none⟩,
       ⟨(some 108), none, (.l (.load none)), [(.t 107)], none⟩,
       ⟨(some 109), none, (.p (.slSlice 1 true false false)), [(.t 108), (.c (.int .i64 (.ofNat 1)))], none⟩,
       ⟨(some 110), none, (.p .nilck), [(.t 104)], none⟩,
       ⟨(some 111), none, (.p (.fieldAddr 1)), [(.t 110)], none⟩,
       ⟨none, none, (.e (.store 1)), [(.t 111), (.t 109)], none⟩]))))))))))))))))))),
  []⟩
def s17_l0 (call : CallK) (N : Nat) (st : St) (τ : Tape) (k : KC) : Ans :=
  match st with
  | ⟨fr, H⟩ =>
  getK fr 0 fun t0 =>
  someK (pNilck [t0]) fun v42 =>
  someK (pFieldAddr 0 [v42]) fun v43 =>
  someK (lLoad1 [v43] H) fun v44 =>
  someK (pLen [v44]) fun v45 =>
  binK .gtr v45 (.int .i64 (.ofNat 1)) fun v46 =>
  gK v46 true (fun q' => q' t0 H τ) H τ fun v47 H48 τ49 =>
  gK v46 true (fun q' => someK (pNilck [v47]) fun v => q' v H48 τ49) H48 τ49 fun v50 H51 τ52 =>
  gK v46 true (fun q' => someK (pFieldAddr 2 [v50]) fun v => q' v H51 τ52) H51 τ52 fun v53 H54 τ55 =>
  gK v46 true (fun q' => someK (lLoad1 [v53] H54) fun v => q' v H54 τ55) H54 τ55 fun v56 H57 τ58 =>
  gK v46 true (fun q' => binK .gtr v56 (.int .i64 (.ofNat 1000000)) fun v => q' v H57 τ58) H57 τ58 fun v59 H60 τ61 =>
  gK v46 true (fun q' => q' v59 H60 τ61) H60 τ61 fun v62 H63 τ64 =>
  gK v62 false (fun q' => q' t0 H63 τ64) H63 τ64 fun v65 H66 τ67 =>
  gK v62 false (fun q' => someK (pNilck [v65]) fun v => q' v H66 τ67) H66 τ67 fun v68 H69 τ70 =>
  gK v62 false (fun q' => someK (pFieldAddr 0 [v68]) fun v => q' v H69 τ70) H69 τ70 fun v71 H72 τ73 =>
  gK v62 false (fun q' => someK (lLoad1 [v71] H72) fun v => q' v H72 τ73) H72 τ73 fun v74 H75 τ76 =>
  gK v62 false (fun q' => someK (pLen [v74]) fun v => q' v H75 τ76) H75 τ76 fun v77 H78 τ79 =>
  gK v62 false (fun q' => binK .gtr v77 (.int .i64 (.ofNat 4000)) fun v => q' v H78 τ79) H78 τ79 fun v80 H81 τ82 =>
  gK v46 true (fun q' => someK (pPick [v62, (.bool true), v80]) fun v => q' v H81 τ82) H81 τ82 fun v83 H84 τ85 =>
  someK (pPick [v46, v83, (.bool false)]) fun v86 =>
  condK v86
    (someK (pNilck [t0]) fun v87 =>
  someK (pFieldAddr 3 [v87]) fun v88 =>
  someK (lLoad1 [v88] H84) fun v89 =>
  gK v89 false (fun q' => q' t0 H84 τ85) H84 τ85 fun v90 H91 τ92 =>
  gK v89 false (fun q' => someK (pNilck [v90]) fun v => q' v H91 τ92) H91 τ92 fun v93 H94 τ95 =>
  gK v89 false (fun q' => someK (pFieldAddr 0 [v93]) fun v => q' v H94 τ95) H94 τ95 fun v96 H97 τ98 =>
  gK v89 false (fun q' => someK (lLoad1 [v96] H97) fun v => q' v H97 τ98) H97 τ98 fun v99 H100 τ101 =>
  gK v89 false (fun q' => someK (pSlIdx 1 [v99, (.int .i64 (.ofNat 0))]) fun v => q' v H100 τ101) H100 τ101 fun v102 H103 τ104 =>
  gK v89 false (fun q' => someK (lLoad1 [v102] H103) fun v => q' v H103 τ104) H103 τ104 fun v105 H106 τ107 =>
  gK v89 false (fun q' => q' t0 H106 τ107) H106 τ107 fun v108 H109 τ110 =>
  gK v89 false (fun q' => someK (pNilck [v108]) fun v => q' v H109 τ110) H109 τ110 fun v111 H112 τ113 =>
  gK v89 false (fun q' => someK (pFieldAddr 1 [v111]) fun v => q' v H112 τ113) H112 τ113 fun v114 H115 τ116 =>
  gK v89 false (fun q' => someK (lLoad1 [v114] H115) fun v => q' v H115 τ116) H115 τ116 fun v117 H118 τ119 =>
  gK v89 false (fun q' => someK (pSlIdx 1 [v117, (.int .i64 (.ofNat 0))]) fun v => q' v H118 τ119) H118 τ119 fun v120 H121 τ122 =>
  gK v89 false (fun q' => someK (lLoad1 [v120] H121) fun v => q' v H121 τ122) H121 τ122 fun v123 H124 τ125 =>
  gK v89 false (fun q' => call 26 [v105, v123] H124 τ125 q') H124 τ125 fun v126 H127 τ128 =>
  gK v89 false (fun q' => unK .not v126 fun v => q' v H127 τ128) H127 τ128 fun v129 H130 τ131 =>
  someK (pPick [v89, (.bool true), v129]) fun v132 =>
  someK (pNilck [t0]) fun v133 =>
  someK (pFieldAddr 3 [v133]) fun v134 =>
  effK (eStore 1 [v134, v132] H130 τ131) fun v135 H136 τ137 =>
  someK (pNilck [t0]) fun v138 =>
  someK (pFieldAddr 2 [v138]) fun v139 =>
  someK (lLoad1 [v139] H136) fun v140 =>
  someK (pNilck [t0]) fun v141 =>
  someK (pFieldAddr 0 [v141]) fun v142 =>
  someK (lLoad1 [v142] H136) fun v143 =>
  someK (pSlIdx 1 [v143, (.int .i64 (.ofNat 0))]) fun v144 =>
  someK (lLoad1 [v144] H136) fun v145 =>
  someK (pCap [v145]) fun v146 =>
  binK .sub v140 v146 fun v147 =>
  binK .sub v147 (.int .i64 (.ofNat 1)) fun v148 =>
  someK (pNilck [t0]) fun v149 =>
  someK (pFieldAddr 2 [v149]) fun v150 =>
  effK (eStore 1 [v150, v148] H136 τ137) fun v151 H152 τ153 =>
  someK (pNilck [t0]) fun v154 =>
  someK (pFieldAddr 0 [v154]) fun v155 =>
  someK (lLoad1 [v155] H152) fun v156 =>
  someK (pSlSlice 1 true false false [v156, (.int .i64 (.ofNat 1))]) fun v157 =>
  someK (pNilck [t0]) fun v158 =>
  someK (pFieldAddr 0 [v158]) fun v159 =>
  effK (eStore 1 [v159, v157] H152 τ153) fun v160 H161 τ162 =>
  someK (pNilck [t0]) fun v163 =>
  someK (pFieldAddr 1 [v163]) fun v164 =>
  someK (lLoad1 [v164] H161) fun v165 =>
  someK (pSlSlice 1 true false false [v165, (.int .i64 (.ofNat 1))]) fun v166 =>
  someK (pNilck [t0]) fun v167 =>
  someK (pFieldAddr 1 [v167]) fun v168 =>
  effK (eStore 1 [v168, v166] H161 τ162) fun v169 H170 τ171 =>
  k .normal ⟨(T.set (T.set (T.set (T.set (T.set (T.set (T.set (T.set (T.set .leaf 0 t0) 104 t0) 105 t0) 106 v163) 107 v164) 108 v165) 109 v166) 110 v167) 111 v168), H170⟩ τ171)
    (k (.exit 0) ⟨.leaf, H84⟩ τ85)
def s17 (call : CallK) (N : Nat) (a0 a1 : V) (H : Heap) (τ : Tape) (q : KV) : Ans :=
  someK (pNilck [a0]) fun v0 =>
  someK (pFieldAddr 0 [v0]) fun v1 =>
  someK (lLoad1 [v1] H) fun v2 =>
  effK (eBuildSlice 1 1 [.nils] [(0, 1)] [a1] H τ) fun v3 H4 τ5 =>
  effK (eAppend 1 24 [v2, v3] H4 τ5) fun v6 H7 τ8 =>
  someK (pNilck [a0]) fun v9 =>
  someK (pFieldAddr 0 [v9]) fun v10 =>
  effK (eStore 1 [v10, v6] H7 τ8) fun v11 H12 τ13 =>
  someK (pNilck [a0]) fun v14 =>
  someK (pFieldAddr 1 [v14]) fun v15 =>
  someK (lLoad1 [v15] H12) fun v16 =>
  effK (eAppend 1 1 [.nils, a1] H12 τ13) fun v17 H18 τ19 =>
  effK (eBuildSlice 1 1 [.nils] [(0, 1)] [v17] H18 τ19) fun v20 H21 τ22 =>
  effK (eAppend 1 24 [v16, v20] H21 τ22) fun v23 H24 τ25 =>
  someK (pNilck [a0]) fun v26 =>
  someK (pFieldAddr 1 [v26]) fun v27 =>
  effK (eStore 1 [v27, v23] H24 τ25) fun v28 H29 τ30 =>
  bif chkLoads [H12, H18, H21, H24, H29] (((.load none), [v15], 0, 2) :: []) then
  someK (pNilck [a0]) fun v31 =>
  someK (pFieldAddr 2 [v31]) fun v32 =>
  someK (lLoad1 [v32] H29) fun v33 =>
  someK (pCap [a1]) fun v34 =>
  binK .add v33 v34 fun v35 =>
  binK .add v35 (.int .i64 (.ofNat 1)) fun v36 =>
  someK (pNilck [a0]) fun v37 =>
  someK (pFieldAddr 2 [v37]) fun v38 =>
  effK (eStore 1 [v38, v36] H29 τ30) fun v39 H40 τ41 =>
  loopK (s17_l0 call N) N ⟨(T.set .leaf 0 a0), H40⟩ τ41 (blockK 0 (endK [] q))
  else none
theorem s17_eq (call : CallK) (N : Nat) (a0 a1 : V) (H : Heap) (τ : Tape) (q : KV) : s17 call N a0 a1 H τ q = funK call N fn17 [a0, a1] H τ q := by kernel_rfl
def e17 (call : CallK) (N : Nat) (vs : List V) (H : Heap) (τ : Tape) (q : KV) : Ans := match vs with | [a0, a1] => s17 call N a0 a1 H τ q | _ => none
theorem e17_ok : EntOk fn17 e17 := by
  intro call N vs H τ q r h
  unfold e17 at h
  split at h
  · rw [s17_eq] at h; exact h
  · cases h
theorem e17_nat : EntNat e17 := by
  intro c hn N vs H τ q
  unfold e17
  split
  · rw [s17_eq, s17_eq]; exact funK_ent hn _ _ _ _ _ _
  · rfl
/-- (*ostiary/ostiarybook.Book[byte]).Apart -/
def fn18 : Fun := ⟨2,
  (.seq (.reg [⟨(some 4), none, (.p .mv), [(.c (.bool false))], none⟩])
  (.keep [0, 1] (.seq (.seq (.reg [⟨(some 11), none, (.p .mv), [(.t 0)], none⟩,
    ⟨(some 12), none, (.call 27), [(.t 11)], none⟩,
    ⟨(some 13), none, (.p (.un .not)), [(.t 12)], none⟩])
  (.keep [0, 1, 13] (.cond (.t 13)
   (.seq (.reg [⟨(some 4), none, (.p .mv), [(.c (.bool false))], none⟩])
   (.keep [4] (.keep [4] .ret)))
   .skip)))
  (.keep [0, 1] (.seq (.seq (.reg [⟨(some 5), none, (.p .mv), [(.c (.int .i64 (.ofNat 0)))], none⟩])
  (.keep [0, 1, 5] (.block 0
   (.loop
    (.keep [0, 1, 5] (.seq (.seq (.reg [⟨(some 14), none, (.p .mv), [(.t 5)], none⟩,
      ⟨(some 15), none, (.p .mv), [(.t 0)], none⟩,
      ⟨(some 16), none, (.p .nilck), [(.t 15)], none⟩,
      ⟨(some 17), none, (.p (.fieldAddr 0)), [(.t 16)], none⟩,
      ⟨(some 18), none, (.l (.load none)), [(.t 17)], none⟩,
      ⟨(some 19), none, (.p .len), [(.t 18)], none⟩,
      ⟨(some 20), none, (.p (.bin .lss)), [(.t 14), (.t 19)], none⟩])
    (.keep [0, 1, 5, 20] (.cond (.t 20)
     .skip
     (.keep [0, 1] (.exit 0)))))
    (.keep [0, 1, 5] (.seq (.block 1
     (.seq (.draw [⟨(some 23), none, (.p .mv), [(.t 0)], none⟩,
       ⟨(some 24), none, (.p .nilck), [(.t 23)], none⟩,
       ⟨(some 25), none, (.p (.fieldAddr 0)), [(.t 24)], none⟩,
       ⟨(some 26), none, (.l (.load none)), [(.t 25)], none⟩,
       ⟨(some 27), none, (.p .mv), [(.t 5)], none⟩,
       ⟨(some 28), none, (.p (.slIdx 1)), [(.t 26), (.t 27)], none⟩,
       ⟨(some 29), none, (.l (.load none)), [(.t 28)], none⟩,
       ⟨(some 30), none, (.p .mv), [(.t 0)], none⟩,
       ⟨(some 31), none, (.p .nilck), [(.t 30)], none⟩,
       ⟨(some 32), none, (.p (.fieldAddr 0)), [(.t 31)], none⟩,
       ⟨(some 33), none, (.l (.load none)), [(.t 32)], none⟩,
       ⟨(some 34), none, (.p .mv), [(.t 5)], none⟩,
       ⟨(some 35), none, (.p (.slIdx 1)), [(.t 33), (.t 34)], none⟩,
       ⟨(some 36), none, (.l (.load none)), [(.t 35)], none⟩,
       ⟨(some 37), none, (.p .cap), [(.t 36)], none⟩,
       ⟨(some 38), none, (.p (.slSlice 1 false true false)), [(.t 29), (.t 37)], none⟩,
       ⟨(some 6), none, (.p .mv), [(.t 38)], none⟩])
     (.keep [0, 1, 5, 6] (.seq (.reg [⟨(some 7), none, (.p .mv), [(.c (.int .i64 (.ofNat 0)))], none⟩])
     (.keep [0, 1, 5, 6, 7] (.block 2
      (.loop
       (.keep [0, 1, 5, 6, 7] (.seq (.seq (.reg [⟨(some 39), none, (.p .mv), [(.t 7)], none⟩,
         ⟨(some 40), none, (.p .mv), [(.t 6)], none⟩,
         ⟨(some 41), none, (.p .len), [(.t 40)], none⟩,
         ⟨(some 42), none, (.p (.bin .lss)), [(.t 39), (.t 41)], none⟩])
       (.keep [0, 1, 5, 6, 7, 42] (.cond (.t 42)
        .skip
        (.keep [0, 1, 5] (.exit 2)))))
       (.keep [0, 1, 5, 6, 7] (.seq (.block 3
        (.reg [⟨(some 45), none, (.p .mv), [(.t 6)], none⟩,
          ⟨(some 46), none, (.p .mv), [(.t 7)], none⟩,
          ⟨(some 47), none, (.p .mv), [(.t 1)], none⟩,
          ⟨(some 48), none, (.p .mv), [(.t 5)], none⟩,
          ⟨(some 49), none, (.p .mv), [(.t 7)], none⟩,
          ⟨(some 50), none, .callv, [(.t 47), (.t 48), (.t 49)], none⟩,
          ⟨(some 51), none, (.p (.slIdx 1)), [(.t 45), (.t 46)], none⟩,
          ⟨none, none, (.e (.store 1)), [(.t 51), (.t 50)], none⟩]))
       (.keep [0, 1, 5, 6, 7] (.reg [⟨(some 43), none, (.p .mv), [(.t 7)], none⟩,
         ⟨(some 44), none, (.p (.bin .add)), [(.t 43), (.c (.int .i64 (.ofNat 1)))], none⟩,
         ⟨(some 7), none, (.p .mv), [(.t 44)], none⟩])))))))))))))
    (.keep [0, 1, 5] (.reg [⟨(some 21), none, (.p .mv), [(.t 5)], none⟩,
      ⟨(some 22), none, (.p (.bin .add)), [(.t 21), (.c (.int .i64 (.ofNat 1)))], none⟩,
      ⟨(some 5), none, (.p .mv), [(.t 22)], none⟩]))))))))))
  (.keep [0, 1] (.seq (.seq (.reg [⟨(some 8), none, (.p .mv), [(.c (.int .i64 (.ofNat 0)))], none⟩])
  (.keep [0, 1, 8] (.block 4
   (.loop
    (.keep [0, 1, 8] (.seq (.seq (.reg [⟨(some 52), none, (.p .mv), [(.t 8)], none⟩,
      ⟨(some 53), none, (.p .mv), [(.t 0)], none⟩,
      ⟨(some 54), none, (.p .nilck), [(.t 53)], none⟩,
      ⟨(some 55), none, (.p (.fieldAddr 0)), [(.t 54)], none⟩,
      ⟨(some 56), none, (.l (.load none)), [(.t 55)], none⟩,
      ⟨(some 57), none, (.p .len), [(.t 56)], none⟩,
      ⟨(some 58), none, (.p (.bin .lss)), [(.t 52), (.t 57)], none⟩])
    (.keep [0, 1, 8, 58] (.cond (.t 58)
     .skip
     (.keep [0] (.exit 4)))))
    (.keep [0, 1, 8] (.seq (.block 5
     (.seq (.draw [⟨(some 61), none, (.p .mv), [(.t 0)], none⟩,
       ⟨(some 62), none, (.p .nilck), [(.t 61)], none⟩,
       ⟨(some 63), none, (.p (.fieldAddr 0)), [(.t 62)], none⟩,
       ⟨(some 64), none, (.l (.load none)), [(.t 63)], none⟩,
       ⟨(some 65), none, (.p .mv), [(.t 8)], none⟩,
       ⟨(some 66), none, (.p (.slIdx 1)), [(.t 64), (.t 65)], none⟩,
       ⟨(some 67), none, (.l (.load none)), [(.t 66)], none⟩,
       ⟨(some 68), none, (.p .mv), [(.t 0)], none⟩,
       ⟨(some 69), none, (.p .nilck), [(.t 68)], none⟩,
       ⟨(some 70), none, (.p (.fieldAddr 0)), [(.t 69)], none⟩,
       ⟨(some 71), none, (.l (.load none)), [(.t 70)], none⟩,
       ⟨(some 72), none, (.p .mv), [(.t 8)], none⟩,
       ⟨(some 73), none, (.p (.slIdx 1)), [(.t 71), (.t 72)], none⟩,
       ⟨(some 74), none, (.l (.load none)), [(.t 73)], none⟩,
       ⟨(some 75), none, (.p .cap), [(.t 74)], none⟩,
       ⟨(some 76), none, (.p (.slSlice 1 false true false)), [(.t 67), (.t 75)], none⟩,
       ⟨(some 9), none, (.p .mv), [(.t 76)], none⟩])
     (.keep [0, 1, 8, 9] (.seq (.reg [⟨(some 10), none, (.p .mv), [(.c (.int .i64 (.ofNat 0)))], none⟩])
     (.keep [0, 1, 8, 9, 10] (.block 6
      (.loop
       (.keep [0, 1, 8, 9, 10] (.seq (.seq (.reg [⟨(some 77), none, (.p .mv), [(.t 10)], none⟩,
         ⟨(some 78), none, (.p .mv), [(.t 9)], none⟩,
         ⟨(some 79), none, (.p .len), [(.t 78)], none⟩,
         ⟨(some 80), none, (.p (.bin .lss)), [(.t 77), (.t 79)], none⟩])
       (.keep [0, 1, 8, 9, 10, 80] (.cond (.t 80)
        .skip
        (.keep [0, 1, 8] (.exit 6)))))
       (.keep [0, 1, 8, 9, 10] (.seq (.block 7
        (.seq (.draw [⟨(some 83), none, (.p .mv), [(.t 9)], none⟩,
          ⟨(some 84), none, (.p .mv), [(.t 10)], none⟩,
          ⟨(some 85), none, (.p (.slIdx 1)), [(.t 83), (.t 84)], none⟩,
          ⟨(some 86), none, (.l (.load none)), [(.t 85)], some (0, 1)⟩,
          ⟨(some 87), none, (.p .mv), [(.t 1)], none⟩,
          ⟨(some 88), none, (.p .mv), [(.t 8)], none⟩,
          ⟨(some 89), none, (.p .mv), [(.t 10)], none⟩,
          ⟨(some 90), none, .callv, [(.t 87), (.t 88), (.t 89)], none⟩,
          ⟨(some 91), none, (.p (.bin .neq)), [(.t 86), (.t 90)], none⟩])
        (.keep [0, 1, 8, 9, 10, 91] (.cond (.t 91)
         (.seq (.reg [⟨(some 4), none, (.p .mv), [(.c (.bool false))], none⟩])
         (.keep [4] (.keep [4] .ret)))
         .skip))))
       (.keep [0, 1, 8, 9, 10] (.reg [⟨(some 81), none, (.p .mv), [(.t 10)], none⟩,
         ⟨(some 82), none, (.p (.bin .add)), [(.t 81), (.c (.int .i64 (.ofNat 1)))], none⟩,
         ⟨(some 10), none, (.p .mv), [(.t 82)], none⟩])))))))))))))
    (.keep [0, 1, 8] (.reg [⟨(some 59), none, (.p .mv), [(.t 8)], none⟩,
      ⟨(some 60), none, (.p (.bin .add)), [(.t 59), (.c (.int .i64 (.ofNat 1)))], none⟩,
      ⟨(some 8), none, (.p .mv), [(.t 60)], none⟩]))))))))))
  (.keep [0] (.seq (.reg [⟨(some 92), none, (.p .mv), [(.t 0)], none⟩,
    ⟨(some 93), none, (.p .nilck), [(.t 92)], none⟩,
    ⟨(some 94), none, (.p (.fieldAddr 0)), [(.t 93)], none⟩,
    ⟨none, none, (.e (.store 1)), [(.t 94), (.c .nils)], none⟩])
  (.keep [0] (.seq (.reg [⟨(some 95), none, (.p .mv), [(.t 0)], none⟩,
    ⟨(some 96), none, (.p .nilck), [(.t 95)], none⟩,
    ⟨(some 97), none, (.p (.fieldAddr 1)), [(.t 96)], none⟩,
    ⟨none, none, (.e (.store 1)), [(.t 97), (.c .nils)], none⟩])
  (.keep [0] (.seq (.reg [⟨(some 98), none, (.p .mv), [(.t 0)], none⟩,
    ⟨(some 99), none, (.p .nilck), [(.t 98)], none⟩,
    ⟨(some 100), none, (.p (.fieldAddr 2)), [(.t 99)], none⟩,
    ⟨none, none, (.e (.store 1)), [(.t 100), (.c (.int .i64 (.ofNat 0)))], none⟩])
  (.keep [] (.seq (.reg [⟨(some 4), none, (.p .mv), [(.c (.bool true))], none⟩])
  (.keep [4] (.keep [4] .ret))))))))))))))))),
  [(.t 4)]⟩
def s18_j1 (call : CallK) (N : Nat) (q : KV) (st : St) (τ : Tape) : Ans :=
  match st with
  | ⟨fr, H⟩ =>
  getK fr 0 fun t0 =>
  someK (pNilck [t0]) fun v4 =>
  someK (pFieldAddr 0 [v4]) fun v5 =>
  effK (eStore 1 [v5, .nils] H τ) fun v6 H7 τ8 =>
  someK (pNilck [t0]) fun v9 =>
  someK (pFieldAddr 1 [v9]) fun v10 =>
  effK (eStore 1 [v10, .nils] H7 τ8) fun v11 H12 τ13 =>
  someK (pNilck [t0]) fun v14 =>
  someK (pFieldAddr 2 [v14]) fun v15 =>
  effK (eStore 1 [v15, (.int .i64 (.ofNat 0))] H12 τ13) fun v16 H17 τ18 =>
  q (.bool true) H17 τ18
def s18_j3 (call : CallK) (N : Nat) (k : KC) (st : St) (τ : Tape) : Ans :=
  match st with
  | ⟨fr, H⟩ =>
  getK fr 0 fun t0 =>
  getK fr 1 fun t1 =>
  getK fr 8 fun t8 =>
  binK .add t8 (.int .i64 (.ofNat 1)) fun v24 =>
  k .normal ⟨(T.set (T.set (T.set (T.set (T.set (T.set .leaf 0 t0) 1 t1) 8 t8) 59 t8) 60 v24) 8 v24), H⟩ τ
def s18_l4 (call : CallK) (N : Nat) (st : St) (τ : Tape) (k : KC) : Ans :=
  match st with
  | ⟨fr, H⟩ =>
  getK fr 0 fun t0 =>
  getK fr 1 fun t1 =>
  getK fr 8 fun t8 =>
  getK fr 9 fun t9 =>
  getK fr 10 fun t10 =>
  someK (pLen [t9]) fun v37 =>
  binK .lss t10 v37 fun v38 =>
  condK v38
    (someK (pSlIdx 1 [t9, t10]) fun v39 =>
  someK (lLoad1 [v39] H) fun v40 =>
  opK call .callv [t1, t8, t10] H τ fun v41 H42 τ43 =>
  binK .neq v40 v41 fun v44 =>
  bif chkLoads [H, H42] (((.load none), [v39], 0, 1) :: []) then
  condK v44
    (k .ret ⟨(T.set .leaf 4 (.bool false)), H42⟩ τ43)
    (binK .add t10 (.int .i64 (.ofNat 1)) fun v45 =>
  k .normal ⟨(T.set (T.set (T.set (T.set (T.set (T.set (T.set (T.set .leaf 0 t0) 1 t1) 8 t8) 9 t9) 10 t10) 81 t10) 82 v45) 10 v45), H42⟩ τ43)
  else none)
    (k (.exit 6) ⟨(T.set (T.set (T.set .leaf 0 t0) 1 t1) 8 t8), H⟩ τ)
def s18_l2 (call : CallK) (N : Nat) (st : St) (τ : Tape) (k : KC) : Ans :=
  match st with
  | ⟨fr, H⟩ =>
  getK fr 0 fun t0 =>
  getK fr 1 fun t1 =>
  getK fr 8 fun t8 =>
  someK (pNilck [t0]) fun v19 =>
  someK (pFieldAddr 0 [v19]) fun v20 =>
  someK (lLoad1 [v20] H) fun v21 =>
  someK (pLen [v21]) fun v22 =>
  binK .lss t8 v22 fun v23 =>
  condK v23
    (someK (pNilck [t0]) fun v25 =>
  someK (pFieldAddr 0 [v25]) fun v26 =>
  someK (lLoad1 [v26] H) fun v27 =>
  someK (pSlIdx 1 [v27, t8]) fun v28 =>
  someK (lLoad1 [v28] H) fun v29 =>
  someK (pNilck [t0]) fun v30 =>
  someK (pFieldAddr 0 [v30]) fun v31 =>
  someK (lLoad1 [v31] H) fun v32 =>
  someK (pSlIdx 1 [v32, t8]) fun v33 =>
  someK (lLoad1 [v33] H) fun v34 =>
  someK (pCap [v34]) fun v35 =>
  someK (pSlSlice 1 false true false [v29, v35]) fun v36 =>
  loopK (s18_l4 call N) N ⟨(T.set (T.set (T.set (T.set (T.set .leaf 0 t0) 1 t1) 8 t8) 9 v36) 10 (.int .i64 (.ofNat 0))), H⟩ τ (blockK 6 (blockK 5 (seqK (s18_j3 call N k) k))))
    (k (.exit 4) ⟨(T.set .leaf 0 t0), H⟩ τ)
def s18_j0 (call : CallK) (N : Nat) (q : KV) (st : St) (τ : Tape) : Ans :=
  match st with
  | ⟨fr, H⟩ =>
  getK fr 0 fun t0 =>
  getK fr 1 fun t1 =>
  loopK (s18_l2 call N) N ⟨(T.set (T.set (T.set .leaf 0 t0) 1 t1) 8 (.int .i64 (.ofNat 0))), H⟩ τ (blockK 4 (seqK (s18_j1 call N q) (endK [(.t 4)] q)))
def s18_j6 (call : CallK) (N : Nat) (k : KC) (st : St) (τ : Tape) : Ans :=
  match st with
  | ⟨fr, H⟩ =>
  getK fr 0 fun t0 =>
  getK fr 1 fun t1 =>
  getK fr 5 fun t5 =>
  binK .add t5 (.int .i64 (.ofNat 1)) fun v51 =>
  k .normal ⟨(T.set (T.set (T.set (T.set (T.set (T.set .leaf 0 t0) 1 t1) 5 t5) 21 t5) 22 v51) 5 v51), H⟩ τ
def s18_l7 (call : CallK) (N : Nat) (st : St) (τ : Tape) (k : KC) : Ans :=
  match st with
  | ⟨fr, H⟩ =>
  getK fr 0 fun t0 =>
  getK fr 1 fun t1 =>
  getK fr 5 fun t5 =>
  getK fr 6 fun t6 =>
  getK fr 7 fun t7 =>
  someK (pLen [t6]) fun v64 =>
  binK .lss t7 v64 fun v65 =>
  condK v65
    (opK call .callv [t1, t5, t7] H τ fun v66 H67 τ68 =>
  someK (pSlIdx 1 [t6, t7]) fun v69 =>
  effK (eStore 1 [v69, v66] H67 τ68) fun v70 H71 τ72 =>
  binK .add t7 (.int .i64 (.ofNat 1)) fun v73 =>
  k .normal ⟨(T.set (T.set (T.set (T.set (T.set (T.set (T.set (T.set .leaf 0 t0) 1 t1) 5 t5) 6 t6) 7 t7) 43 t7) 44 v73) 7 v73), H71⟩ τ72)
    (k (.exit 2) ⟨(T.set (T.set (T.set .leaf 0 t0) 1 t1) 5 t5), H⟩ τ)
def s18_l5 (call : CallK) (N : Nat) (st : St) (τ : Tape) (k : KC) : Ans :=
  match st with
  | ⟨fr, H⟩ =>
  getK fr 0 fun t0 =>
  getK fr 1 fun t1 =>
  getK fr 5 fun t5 =>
  someK (pNilck [t0]) fun v46 =>
  someK (pFieldAddr 0 [v46]) fun v47 =>
  someK (lLoad1 [v47] H) fun v48 =>
  someK (pLen [v48]) fun v49 =>
  binK .lss t5 v49 fun v50 =>
  condK v50
    (someK (pNilck [t0]) fun v52 =>
  someK (pFieldAddr 0 [v52]) fun v53 =>
  someK (lLoad1 [v53] H) fun v54 =>
  someK (pSlIdx 1 [v54, t5]) fun v55 =>
  someK (lLoad1 [v55] H) fun v56 =>
  someK (pNilck [t0]) fun v57 =>
  someK (pFieldAddr 0 [v57]) fun v58 =>
  someK (lLoad1 [v58] H) fun v59 =>
  someK (pSlIdx 1 [v59, t5]) fun v60 =>
  someK (lLoad1 [v60] H) fun v61 =>
  someK (pCap [v61]) fun v62 =>
  someK (pSlSlice 1 false true false [v56, v62]) fun v63 =>
  loopK (s18_l7 call N) N ⟨(T.set (T.set (T.set (T.set (T.set .leaf 0 t0) 1 t1) 5 t5) 6 v63) 7 (.int .i64 (.ofNat 0))), H⟩ τ (blockK 2 (blockK 1 (seqK (s18_j6 call N k) k))))
    (k (.exit 0) ⟨(T.set (T.set .leaf 0 t0) 1 t1), H⟩ τ)
def s18 (call : CallK) (N : Nat) (a0 a1 : V) (H : Heap) (τ : Tape) (q : KV) : Ans :=
  call 27 [a0] H τ fun v0 H1 τ2 =>
  unK .not v0 fun v3 =>
  condK v3
    (q (.bool false) H1 τ2)
    (loopK (s18_l5 call N) N ⟨(T.set (T.set (T.set .leaf 0 a0) 1 a1) 5 (.int .i64 (.ofNat 0))), H1⟩ τ2 (blockK 0 (seqK (s18_j0 call N q) (endK [(.t 4)] q))))
theorem s18_eq (call : CallK) (N : Nat) (a0 a1 : V) (H : Heap) (τ : Tape) (q : KV) : s18 call N a0 a1 H τ q = funK call N fn18 [a0, a1] H τ q := by kernel_rfl
def e18 (call : CallK) (N : Nat) (vs : List V) (H : Heap) (τ : Tape) (q : KV) : Ans := match vs with | [a0, a1] => s18 call N a0 a1 H τ q | _ => none
theorem e18_ok : EntOk fn18 e18 := by
  intro call N vs H τ q r h
  unfold e18 at h
  split at h
  · rw [s18_eq] at h; exact h
  · cases h
theorem e18_nat : EntNat e18 := by
  intro c hn N vs H τ q
  unfold e18
  split
  · rw [s18_eq, s18_eq]; exact funK_ent hn _ _ _ _ _ _
  · rfl
/-- ostiary/ostiarybook.Bytes -/
def fn19 : Fun := ⟨2,
  (.seq (.reg [⟨(some 4), none, (.p .mv), [(.c (.int .u8 (.ofNat 0)))], none⟩])
  (.keep [0, 1] (.seq (.reg [⟨(some 5), none, (.p .mv), [(.t 0)], none⟩,
    ⟨(some 6), none, (.p (.bin .add)), [(.t 5), (.c (.int .i64 (.ofNat 1)))], none⟩,
    ⟨(some 7), none, (.p .mv), [(.t 1)], none⟩,
    ⟨(some 8), none, (.p (.bin .rem)), [(.t 7), (.c (.int .i64 (.ofNat 3)))], none⟩,
    ⟨(some 9), none, (.p (.bin .mul)), [(.c (.int .i64 (.ofNat 8))), (.t 8)], none⟩,
    ⟨(some 10), none, (.p (.toInt .u64)), [(.t 9)], none⟩,
    ⟨(some 11), none, (.p (.bin .shr)), [(.t 6), (.t 10)], none⟩,
    ⟨(some 12), none, (.p (.toInt .u8)), [(.t 11)], none⟩,
    ⟨(some 4), none, (.p .mv), [(.t 12)], none⟩])
  (.keep [4] (.keep [4] .ret))))),
  [(.t 4)]⟩
def s19 (call : CallK) (N : Nat) (a0 a1 : V) (H : Heap) (τ : Tape) (q : KV) : Ans :=
  binK .add a0 (.int .i64 (.ofNat 1)) fun v0 =>
  binK .rem a1 (.int .i64 (.ofNat 3)) fun v1 =>
  binK .mul (.int .i64 (.ofNat 8)) v1 fun v2 =>
  toIntK .u64 v2 fun v3 =>
  binK .shr v0 v3 fun v4 =>
  toIntK .u8 v4 fun v5 =>
  q v5 H τ
theorem s19_eq (call : CallK) (N : Nat) (a0 a1 : V) (H : Heap) (τ : Tape) (q : KV) : s19 call N a0 a1 H τ q = funK call N fn19 [a0, a1] H τ q := by kernel_rfl
def e19 (call : CallK) (N : Nat) (vs : List V) (H : Heap) (τ : Tape) (q : KV) : Ans := match vs with | [a0, a1] => s19 call N a0 a1 H τ q | _ => none
theorem e19_ok : EntOk fn19 e19 := by
  intro call N vs H τ q r h
  unfold e19 at h
  split at h
  · rw [s19_eq] at h; exact h
  · cases h
theorem e19_nat : EntNat e19 := by
  intro c hn N vs H τ q
  unfold e19
  split
  · rw [s19_eq, s19_eq]; exact funK_ent hn _ _ _ _ _ _
  · rfl
/-- ostiary/digest.hash[uint32] -/
def fn20 : Fun := ⟨3,
  (.seq (.reg [⟨(some 3), none, (.e .box), [(.t 0)], none⟩,
    ⟨(some 4), none, (.e .box), [(.t 1)], none⟩,
    ⟨(some 6), none, (.p .mv), [(.c .nils)], none⟩])
  (.keep [2, 3, 4] (.seq (.draw [⟨(some 17), none, (.p .mv), [(.t 2)], none⟩,
    ⟨(some 18), none, (.p .len), [(.t 17)], none⟩,
    ⟨(some 19), none, (.p (.fieldAddr 14)), [(.t 3)], none⟩,
    ⟨(some 20), none, (.l (.load none)), [(.t 19)], none⟩,
    ⟨(some 21), none, (.p (.bin .quo)), [(.t 18), (.t 20)], none⟩,
    ⟨(some 22), none, (.p (.fieldAddr 14)), [(.t 3)], none⟩,
    ⟨(some 23), none, (.l (.load none)), [(.t 22)], none⟩,
    ⟨(some 24), none, (.p (.bin .mul)), [(.t 21), (.t 23)], none⟩,
    ⟨(some 7), none, (.p .mv), [(.t 24)], none⟩])
  (.keep [2, 3, 4, 7] (.seq (.seq (.reg [⟨(some 8), none, (.p .mv), [(.c (.int .i64 (.ofNat 0)))], none⟩])
  (.keep [2, 3, 4, 7, 8] (.block 0
   (.loop
    (.keep [2, 3, 4, 7, 8] (.seq (.seq (.reg [⟨(some 25), none, (.p .mv), [(.t 8)], none⟩,
      ⟨(some 26), none, (.p .mv), [(.t 7)], none⟩,
      ⟨(some 27), none, (.p (.bin .lss)), [(.t 25), (.t 26)], none⟩])
    (.keep [2, 3, 4, 7, 8, 27] (.cond (.t 27)
     .skip
     (.keep [2, 3, 4, 7] (.exit 0)))))
    (.keep [2, 3, 4, 7, 8] (.seq (.block 1
     (.reg [⟨(some 32), none, (.p .mv), [(.t 2)], none⟩,
       ⟨(some 33), none, (.p .mv), [(.t 8)], none⟩,
       ⟨(some 34), none, (.p (.slSlice 1 true false false)), [(.t 32), (.t 33)], none⟩,
       ⟨(some 35), none, (.call 28), [(.t 3), (.t 4), (.t 34)], none⟩]))
    (.keep [2, 3, 4, 7, 8] (.reg [⟨(some 28), none, (.p .mv), [(.t 8)], none⟩,
      ⟨(some 29), none, (.p (.fieldAddr 14)), [(.t 3)], none⟩,
      ⟨(some 30), none, (.l (.load none)), [(.t 29)], none⟩,
      ⟨(some 31), none, (.p (.bin .add)), [(.t 28), (.t 30)], none⟩,
      ⟨(some 8), none, (.p .mv), [(.t 31)], none⟩]))))))))))
  (.keep [2, 3, 4, 7] (.seq (.reg [⟨(some 36), none, (.e (.buildSlice 0 1 [] [])), [], none⟩,
    ⟨(some 37), none, (.p .mv), [(.t 2)], none⟩,
    ⟨(some 38), none, (.p .mv), [(.t 7)], none⟩,
    ⟨(some 39), none, (.p (.slSlice 1 true false false)), [(.t 37), (.t 38)], none⟩,
    ⟨(some 40), none, (.e (.append 1 1)), [(.t 36), (.t 39)], none⟩,
    ⟨(some 41), none, (.e (.buildSlice 1 1 [(.int .u8 (.ofNat 0))] [(0, 1)])), [(.c (.int .u8 (.ofNat 128)))], none⟩,
    ⟨(some 42), none, (.e (.append 1 1)), [(.t 40), (.t 41)], none⟩,
    ⟨(some 9), none, (.p .mv), [(.t 42)], none⟩])
  (.keep [2, 3, 4, 9] (.seq (.block 2
   (.loop
    (.keep [2, 3, 4, 9] (.seq (.seq (.reg [⟨(some 43), none, (.p .mv), [(.t 9)], none⟩,
      ⟨(some 44), none, (.p .len), [(.t 43)], none⟩,
      ⟨(some 45), none, (.p (.fieldAddr 15)), [(.t 3)], none⟩,
      ⟨(some 46), none, (.l (.load none)), [(.t 45)], none⟩,
      ⟨(some 47), none, (.p (.bin .add)), [(.t 44), (.t 46)], none⟩,
      ⟨(some 48), none, (.p (.fieldAddr 14)), [(.t 3)], none⟩,
      ⟨(some 49), none, (.l (.load none)), [(.t 48)], none⟩,
      ⟨(some 50), none, (.p (.bin .rem)), [(.t 47), (.t 49)], none⟩,
      ⟨(some 51), none, (.p (.bin .neq)), [(.t 50), (.c (.int .i64 (.ofNat 0)))], none⟩])
    (.keep [2, 3, 4, 9, 51] (.cond (.t 51)
     .skip
     (.keep [2, 3, 4, 9] (.exit 2)))))
    (.keep [2, 3, 4, 9] (.block 3
     (.reg [⟨(some 52), none, (.p .mv), [(.t 9)], none⟩,
       ⟨(some 53), none, (.e (.buildSlice 1 1 [(.int .u8 (.ofNat 0))] [(0, 1)])), [(.c (.int .u8 (.ofNat 0)))], none⟩,
       ⟨(some 54), none, (.e (.append 1 1)), [(.t 52), (.t 53)], none⟩,
       ⟨(some 9), none, (.p .mv), [(.t 54)], none⟩])))))))
  (.keep [2, 3, 4, 9] (.seq (.seq (.reg [⟨(some 55), none, (.p (.fieldAddr 15)), [(.t 3)], none⟩,
    ⟨(some 56), none, (.l (.load none)), [(.t 55)], none⟩,
    ⟨(some 57), none, (.p (.bin .sub)), [(.t 56), (.c (.int .i64 (.ofNat 1)))], none⟩,
    ⟨(some 10), none, (.p .mv), [(.t 57)], none⟩])
  (.keep [2, 3, 4, 9, 10] (.block 4
   (.loop
    (.keep [2, 3, 4, 9, 10] (.seq (.seq (.reg [⟨(some 58), none, (.p .mv), [(.t 10)], none⟩,
      ⟨(some 59), none, (.p (.bin .geq)), [(.t 58), (.c (.int .i64 (.ofNat 0)))], none⟩])
    (.keep [2, 3, 4, 9, 10, 59] (.cond (.t 59)
     .skip
     (.keep [3, 4, 9] (.exit 4)))))
    (.keep [2, 3, 4, 9, 10] (.seq (.block 5
     (.seq (.reg [⟨(some 11), none, (.p .mv), [(.c (.int .u8 (.ofNat 0)))], none⟩])
     (.keep [2, 3, 4, 9, 10, 11] (.seq (.seq (.reg [⟨(some 62), none, (.p .mv), [(.t 10)], none⟩,
       ⟨(some 63), none, (.p (.bin .lss)), [(.t 62), (.c (.int .i64 (.ofNat 8)))], none⟩])
     (.keep [2, 3, 4, 9, 10, 11, 63] (.cond (.t 63)
      (.reg [⟨(some 64), none, (.p .mv), [(.t 2)], none⟩,
        ⟨(some 65), none, (.p .len), [(.t 64)], none⟩,
        ⟨(some 66), none, (.p (.toInt .u64)), [(.t 65)], none⟩,
        ⟨(some 67), none, (.p (.bin .mul)), [(.t 66), (.c (.int .u64 (.ofNat 8)))], none⟩,
        ⟨(some 68), none, (.p .mv), [(.t 10)], none⟩,
        ⟨(some 69), none, (.p (.bin .mul)), [(.c (.int .i64 (.ofNat 8))), (.t 68)], none⟩,
        ⟨(some 70), none, (.p (.bin .shr)), [(.t 67), (.t 69)], none⟩,
        ⟨(some 71), none, (.p (.toInt .u8)), [(.t 70)], none⟩,
        ⟨(some 11), none, (.p .mv), [(.t 71)], none⟩])
      .skip)))
     (.keep [2, 3, 4, 9, 10, 11] (.reg [⟨(some 72), none, (.p .mv), [(.t 9)], none⟩,
       ⟨(some 73), none, (.p .mv), [(.t 11)], none⟩,
       ⟨(some 74), none, (.e (.buildSlice 1 1 [(.int .u8 (.ofNat 0))] [(0, 1)])), [(.t 73)], none⟩,
       ⟨(some 75), none, (.e (.append 1 1)), [(.t 72), (.t 74)], none⟩,
       ⟨(some 9), none, (.p .mv), [(.t 75)], none⟩]))))))
    (.keep [2, 3, 4, 9, 10] (.reg [⟨(some 60), none, (.p .mv), [(.t 10)], none⟩,
      ⟨(some 61), none, (.p (.bin .sub)), [(.t 60), (.c (.int .i64 (.ofNat 1)))], none⟩,
      ⟨(some 10), none, (.p .mv), [(.t 61)], none⟩]))))))))))
  (.keep [3, 4, 9] (.seq (.seq (.reg [⟨(some 12), none, (.p .mv), [(.c (.int .i64 (.ofNat 0)))], none⟩])
  (.keep [3, 4, 9, 12] (.block 6
   (.loop
    (.keep [3, 4, 9, 12] (.seq (.seq (.reg [⟨(some 76), none, (.p .mv), [(.t 12)], none⟩,
      ⟨(some 77), none, (.p .mv), [(.t 9)], none⟩,
      ⟨(some 78), none, (.p .len), [(.t 77)], none⟩,
      ⟨(some 79), none, (.p (.bin .lss)), [(.t 76), (.t 78)], none⟩])
    (.keep [3, 4, 9, 12, 79] (.cond (.t 79)
     .skip
     (.keep [3, 4] (.exit 6)))))
    (.keep [3, 4, 9, 12] (.seq (.block 7
     (.reg [⟨(some 84), none, (.p .mv), [(.t 9)], none⟩,
       ⟨(some 85), none, (.p .mv), [(.t 12)], none⟩,
       ⟨(some 86), none, (.p (.slSlice 1 true false false)), [(.t 84), (.t 85)], none⟩,
       ⟨(some 87), none, (.call 28), [(.t 3), (.t 4), (.t 86)], none⟩]))
    (.keep [3, 4, 9, 12] (.reg [⟨(some 80), none, (.p .mv), [(.t 12)], none⟩,
      ⟨(some 81), none, (.p (.fieldAddr 14)), [(.t 3)], none⟩,
      ⟨(some 82), none, (.l (.load none)), [(.t 81)], none⟩,
      ⟨(some 83), none, (.p (.bin .add)), [(.t 80), (.t 82)], none⟩,
      ⟨(some 12), none, (.p .mv), [(.t 83)], none⟩]))))))))))
  (.keep [3, 4] (.seq (.reg [⟨(some 13), none, (.p .mv), [(.c .nils)], none⟩])
  (.keep [3, 4, 13] (.seq (.seq (.reg [⟨(some 88), none, (.l (.load (some 8))), [(.t 4)], none⟩,
    ⟨(some 89), none, (.p .mv), [(.c (.int .i64 (.ofNat 0)))], none⟩])
  (.keep [3, 13, 88, 89] (.block 8
   (.loop
    (.keep [3, 13, 88, 89] (.seq (.reg [⟨(some 90), none, (.p (.bin .lss)), [(.t 89), (.c (.int .i64 (.ofNat 8)))], none⟩])
    (.keep [3, 13, 88, 89, 90] (.seq (.cond (.t 90)
     .skip
     (.keep [13] (.exit 8)))
    (.keep [3, 13, 88, 89] (.seq (.block 9
     (.seq (.reg [⟨(some 91), none, (.p (.arrIndex 8 1 false)), [(.t 88), (.t 89)], none⟩,
       ⟨(some 15), none, (.p .mv), [(.t 91)], none⟩])
     (.keep [3, 13, 15, 88, 89] (.seq (.reg [⟨(some 92), none, (.p (.fieldAddr 0)), [(.t 3)], none⟩,
       ⟨(some 93), none, (.l (.load none)), [(.t 92)], none⟩,
       ⟨(some 94), none, (.p (.bin .sub)), [(.t 93), (.c (.int .i64 (.ofNat 8)))], none⟩,
       ⟨(some 16), none, (.p .mv), [(.t 94)], none⟩])
     (.keep [3, 13, 15, 16, 88, 89] (.block 10
      (.loop
       (.keep [3, 13, 15, 16, 88, 89] (.seq (.seq (.reg [⟨(some 95), none, (.p .mv), [(.t 16)], none⟩,
         ⟨(some 96), none, (.p (.bin .geq)), [(.t 95), (.c (.int .i64 (.ofNat 0)))], none⟩])
       (.keep [3, 13, 15, 16, 88, 89, 96] (.cond (.t 96)
        .skip
        (.keep [3, 13, 88, 89] (.exit 10)))))
       (.keep [3, 13, 15, 16, 88, 89] (.seq (.block 11
        (.reg [⟨(some 99), none, (.p .mv), [(.t 13)], none⟩,
          ⟨(some 100), none, (.p .mv), [(.t 15)], none⟩,
          ⟨(some 101), none, (.p .mv), [(.t 16)], none⟩,
          ⟨(some 102), none, (.p (.bin .shr)), [(.t 100), (.t 101)], none⟩,
          ⟨(some 103), none, (.p (.toInt .u8)), [(.t 102)], none⟩,
          ⟨(some 104), none, (.e (.buildSlice 1 1 [(.int .u8 (.ofNat 0))] [(0, 1)])), [(.t 103)], none⟩,
          ⟨(some 105), none, (.e (.append 1 1)), [(.t 99), (.t 104)], none⟩,
          ⟨(some 13), none, (.p .mv), [(.t 105)], none⟩]))
       (.keep [3, 13, 15, 16, 88, 89] (.reg [⟨(some 97), none, (.p .mv), [(.t 16)], none⟩,
         ⟨(some 98), none, (.p (.bin .sub)), [(.t 97), (.c (.int .i64 (.ofNat 8)))], none⟩,
         ⟨(some 16), none, (.p .mv), [(.t 98)], none⟩])))))))))))))
    (.keep [3, 13, 88, 89] (.reg [⟨(some 106), none, (.p (.bin .add)), [(.t 89), (.c (.int .i64 (.ofNat 1)))], none⟩,
      ⟨(some 89), none, (.p .mv), [(.t 106)], none⟩]))))))))))))
  (.keep [13] (.seq (.reg [⟨(some 107), none, (.p .mv), [(.t 13)], none⟩,
    ⟨(some 6), none, (.p .mv), [(.t 107)], none⟩])
  (.keep [6] (.keep [6] .ret))))))))))))))))))))),
  [(.t 6)]⟩
def s20_j4 (call : CallK) (N : Nat) (q : KV) (st : St) (τ : Tape) : Ans :=
  match st with
  | ⟨fr, H⟩ =>
  getK fr 13 fun t13 =>
  q t13 H τ
def s20_j6 (call : CallK) (N : Nat) (k : KC) (st : St) (τ : Tape) : Ans :=
  match st with
  | ⟨fr, H⟩ =>
  getK fr 3 fun t3 =>
  getK fr 13 fun t13 =>
  getK fr 88 fun t88 =>
  getK fr 89 fun t89 =>
  binK .add t89 (.int .i64 (.ofNat 1)) fun v31 =>
  k .normal ⟨(T.set (T.set (T.set (T.set (T.set (T.set .leaf 3 t3) 13 t13) 88 t88) 89 t89) 106 v31) 89 v31), H⟩ τ
def s20_l7 (call : CallK) (N : Nat) (st : St) (τ : Tape) (k : KC) : Ans :=
  match st with
  | ⟨fr, H⟩ =>
  getK fr 3 fun t3 =>
  getK fr 13 fun t13 =>
  getK fr 15 fun t15 =>
  getK fr 16 fun t16 =>
  getK fr 88 fun t88 =>
  getK fr 89 fun t89 =>
  binK .geq t16 (.int .i64 (.ofNat 0)) fun v36 =>
  condK v36
    (binK .shr t15 t16 fun v37 =>
  toIntK .u8 v37 fun v38 =>
  effK (eBuildSlice 1 1 [(.int .u8 (.ofNat 0))] [(0, 1)] [v38] H τ) fun v39 H40 τ41 =>
  effK (eAppend 1 1 [t13, v39] H40 τ41) fun v42 H43 τ44 =>
  binK .sub t16 (.int .i64 (.ofNat 8)) fun v45 =>
  k .normal ⟨(T.set (T.set (T.set (T.set (T.set (T.set (T.set (T.set (T.set .leaf 3 t3) 13 v42) 15 t15) 16 t16) 88 t88) 89 t89) 97 t16) 98 v45) 16 v45), H43⟩ τ44)
    (k (.exit 10) ⟨(T.set (T.set (T.set (T.set .leaf 3 t3) 13 t13) 88 t88) 89 t89), H⟩ τ)
def s20_l5 (call : CallK) (N : Nat) (st : St) (τ : Tape) (k : KC) : Ans :=
  match st with
  | ⟨fr, H⟩ =>
  getK fr 3 fun t3 =>
  getK fr 13 fun t13 =>
  getK fr 88 fun t88 =>
  getK fr 89 fun t89 =>
  binK .lss t89 (.int .i64 (.ofNat 8)) fun v30 =>
  condK v30
    (someK (pArrIndex 8 1 false [t88, t89]) fun v32 =>
  someK (pFieldAddr 0 [t3]) fun v33 =>
  someK (lLoad1 [v33] H) fun v34 =>
  binK .sub v34 (.int .i64 (.ofNat 8)) fun v35 =>
  loopK (s20_l7 call N) N ⟨(T.set (T.set (T.set (T.set (T.set (T.set .leaf 3 t3) 13 t13) 15 v32) 16 v35) 88 t88) 89 t89), H⟩ τ (blockK 10 (blockK 9 (seqK (s20_j6 call N k) k))))
    (k (.exit 8) ⟨(T.set .leaf 13 t13), H⟩ τ)
def s20_j3 (call : CallK) (N : Nat) (q : KV) (st : St) (τ : Tape) : Ans :=
  match st with
  | ⟨fr, H⟩ =>
  getK fr 3 fun t3 =>
  getK fr 4 fun t4 =>
  someK (lLoadN 8 [t4] H) fun v29 =>
  loopK (s20_l5 call N) N ⟨(T.set (T.set (T.set (T.set .leaf 3 t3) 13 .nils) 88 v29) 89 (.int .i64 (.ofNat 0))), H⟩ τ (blockK 8 (seqK (s20_j4 call N q) (endK [(.t 6)] q)))
def s20_l8 (call : CallK) (N : Nat) (st : St) (τ : Tape) (k : KC) : Ans :=
  match st with
  | ⟨fr, H⟩ =>
  getK fr 3 fun t3 =>
  getK fr 4 fun t4 =>
  getK fr 9 fun t9 =>
  getK fr 12 fun t12 =>
  someK (pLen [t9]) fun v46 =>
  binK .lss t12 v46 fun v47 =>
  condK v47
    (someK (pSlSlice 1 true false false [t9, t12]) fun v48 =>
  call 28 [t3, t4, v48] H τ fun v49 H50 τ51 =>
  someK (pFieldAddr 14 [t3]) fun v52 =>
  someK (lLoad1 [v52] H50) fun v53 =>
  binK .add t12 v53 fun v54 =>
  k .normal ⟨(T.set (T.set (T.set (T.set (T.set (T.set (T.set (T.set (T.set .leaf 3 t3) 4 t4) 9 t9) 12 t12) 80 t12) 81 v52) 82 v53) 83 v54) 12 v54), H50⟩ τ51)
    (k (.exit 6) ⟨(T.set (T.set .leaf 3 t3) 4 t4), H⟩ τ)
def s20_j2 (call : CallK) (N : Nat) (q : KV) (st : St) (τ : Tape) : Ans :=
  match st with
  | ⟨fr, H⟩ =>
  getK fr 3 fun t3 =>
  getK fr 4 fun t4 =>
  getK fr 9 fun t9 =>
  loopK (s20_l8 call N) N ⟨(T.set (T.set (T.set (T.set .leaf 3 t3) 4 t4) 9 t9) 12 (.int .i64 (.ofNat 0))), H⟩ τ (blockK 6 (seqK (s20_j3 call N q) (endK [(.t 6)] q)))
def s20_j10 (call : CallK) (N : Nat) (k : KC) (st : St) (τ : Tape) : Ans :=
  match st with
  | ⟨fr, H⟩ =>
  getK fr 2 fun t2 =>
  getK fr 3 fun t3 =>
  getK fr 4 fun t4 =>
  getK fr 9 fun t9 =>
  getK fr 10 fun t10 =>
  binK .sub t10 (.int .i64 (.ofNat 1)) fun v57 =>
  k .normal ⟨(T.set (T.set (T.set (T.set (T.set (T.set (T.set (T.set .leaf 2 t2) 3 t3) 4 t4) 9 t9) 10 t10) 60 t10) 61 v57) 10 v57), H⟩ τ
def s20_j11 (call : CallK) (N : Nat) (k : KC) (st : St) (τ : Tape) : Ans :=
  match st with
  | ⟨fr, H⟩ =>
  getK fr 2 fun t2 =>
  getK fr 3 fun t3 =>
  getK fr 4 fun t4 =>
  getK fr 9 fun t9 =>
  getK fr 10 fun t10 =>
  getK fr 11 fun t11 =>
  effK (eBuildSlice 1 1 [(.int .u8 (.ofNat 0))] [(0, 1)] [t11] H τ) fun v58 H59 τ60 =>
  effK (eAppend 1 1 [t9, v58] H59 τ60) fun v61 H62 τ63 =>
  s20_j10 call N k ⟨(T.set (T.set (T.set (T.set (T.set (T.set (T.set (T.set (T.set (T.set (T.set .leaf 2 t2) 3 t3) 4 t4) 9 t9) 10 t10) 11 t11) 72 t9) 73 t11) 74 v58) 75 v61) 9 v61), H62⟩ τ63
def s20_l9 (call : CallK) (N : Nat) (st : St) (τ : Tape) (k : KC) : Ans :=
  match st with
  | ⟨fr, H⟩ =>
  getK fr 2 fun t2 =>
  getK fr 3 fun t3 =>
  getK fr 4 fun t4 =>
  getK fr 9 fun t9 =>
  getK fr 10 fun t10 =>
  binK .geq t10 (.int .i64 (.ofNat 0)) fun v55 =>
  condK v55
    (binK .lss t10 (.int .i64 (.ofNat 8)) fun v56 =>
  condK v56
    (someK (pLen [t2]) fun v64 =>
  toIntK .u64 v64 fun v65 =>
  binK .mul v65 (.int .u64 (.ofNat 8)) fun v66 =>
  binK .mul (.int .i64 (.ofNat 8)) t10 fun v67 =>
  binK .shr v66 v67 fun v68 =>
  toIntK .u8 v68 fun v69 =>
  s20_j11 call N k ⟨(T.set (T.set (T.set (T.set (T.set (T.set (T.set (T.set (T.set (T.set (T.set (T.set (T.set (T.set (T.set (T.set .leaf 2 t2) 3 t3) 4 t4) 9 t9) 10 t10) 11 (.int .u8 (.ofNat 0))) 63 v56) 64 t2) 65 v64) 66 v65) 67 v66) 68 t10) 69 v67) 70 v68) 71 v69) 11 v69), H⟩ τ)
    (s20_j11 call N k ⟨(T.set (T.set (T.set (T.set (T.set (T.set (T.set .leaf 2 t2) 3 t3) 4 t4) 9 t9) 10 t10) 11 (.int .u8 (.ofNat 0))) 63 v56), H⟩ τ))
    (k (.exit 4) ⟨(T.set (T.set (T.set .leaf 3 t3) 4 t4) 9 t9), H⟩ τ)
def s20_j1 (call : CallK) (N : Nat) (q : KV) (st : St) (τ : Tape) : Ans :=
  match st with
  | ⟨fr, H⟩ =>
  getK fr 2 fun t2 =>
  getK fr 3 fun t3 =>
  getK fr 4 fun t4 =>
  getK fr 9 fun t9 =>
  someK (pFieldAddr 15 [t3]) fun v26 =>
  someK (lLoad1 [v26] H) fun v27 =>
  binK .sub v27 (.int .i64 (.ofNat 1)) fun v28 =>
  loopK (s20_l9 call N) N ⟨(T.set (T.set (T.set (T.set (T.set .leaf 2 t2) 3 t3) 4 t4) 9 t9) 10 v28), H⟩ τ (blockK 4 (seqK (s20_j2 call N q) (endK [(.t 6)] q)))
def s20_l12 (call : CallK) (N : Nat) (st : St) (τ : Tape) (k : KC) : Ans :=
  match st with
  | ⟨fr, H⟩ =>
  getK fr 2 fun t2 =>
  getK fr 3 fun t3 =>
  getK fr 4 fun t4 =>
  getK fr 9 fun t9 =>
  someK (pLen [t9]) fun v70 =>
  someK (pFieldAddr 15 [t3]) fun v71 =>
  someK (lLoad1 [v71] H) fun v72 =>
  binK .add v70 v72 fun v73 =>
  someK (pFieldAddr 14 [t3]) fun v74 =>
  someK (lLoad1 [v74] H) fun v75 =>
  binK .rem v73 v75 fun v76 =>
  binK .neq v76 (.int .i64 (.ofNat 0)) fun v77 =>
  condK v77
    (effK (eBuildSlice 1 1 [(.int .u8 (.ofNat 0))] [(0, 1)] [(.int .u8 (.ofNat 0))] H τ) fun v78 H79 τ80 =>
  effK (eAppend 1 1 [t9, v78] H79 τ80) fun v81 H82 τ83 =>
  k .normal ⟨(T.set (T.set (T.set (T.set (T.set (T.set (T.set (T.set .leaf 2 t2) 3 t3) 4 t4) 9 t9) 52 t9) 53 v78) 54 v81) 9 v81), H82⟩ τ83)
    (k (.exit 2) ⟨(T.set (T.set (T.set (T.set .leaf 2 t2) 3 t3) 4 t4) 9 t9), H⟩ τ)
def s20_j0 (call : CallK) (N : Nat) (q : KV) (st : St) (τ : Tape) : Ans :=
  match st with
  | ⟨fr, H⟩ =>
  getK fr 2 fun t2 =>
  getK fr 3 fun t3 =>
  getK fr 4 fun t4 =>
  getK fr 7 fun t7 =>
  effK (eBuildSlice 0 1 [] [] [] H τ) fun v13 H14 τ15 =>
  someK (pSlSlice 1 true false false [t2, t7]) fun v16 =>
  effK (eAppend 1 1 [v13, v16] H14 τ15) fun v17 H18 τ19 =>
  effK (eBuildSlice 1 1 [(.int .u8 (.ofNat 0))] [(0, 1)] [(.int .u8 (.ofNat 128))] H18 τ19) fun v20 H21 τ22 =>
  effK (eAppend 1 1 [v17, v20] H21 τ22) fun v23 H24 τ25 =>
  loopK (s20_l12 call N) N ⟨(T.set (T.set (T.set (T.set .leaf 2 t2) 3 t3) 4 t4) 9 v23), H24⟩ τ25 (blockK 2 (seqK (s20_j1 call N q) (endK [(.t 6)] q)))
def s20_l13 (call : CallK) (N : Nat) (st : St) (τ : Tape) (k : KC) : Ans :=
  match st with
  | ⟨fr, H⟩ =>
  getK fr 2 fun t2 =>
  getK fr 3 fun t3 =>
  getK fr 4 fun t4 =>
  getK fr 7 fun t7 =>
  getK fr 8 fun t8 =>
  binK .lss t8 t7 fun v84 =>
  condK v84
    (someK (pSlSlice 1 true false false [t2, t8]) fun v85 =>
  call 28 [t3, t4, v85] H τ fun v86 H87 τ88 =>
  someK (pFieldAddr 14 [t3]) fun v89 =>
  someK (lLoad1 [v89] H87) fun v90 =>
  binK .add t8 v90 fun v91 =>
  k .normal ⟨(T.set (T.set (T.set (T.set (T.set (T.set (T.set (T.set (T.set (T.set .leaf 2 t2) 3 t3) 4 t4) 7 t7) 8 t8) 28 t8) 29 v89) 30 v90) 31 v91) 8 v91), H87⟩ τ88)
    (k (.exit 0) ⟨(T.set (T.set (T.set (T.set .leaf 2 t2) 3 t3) 4 t4) 7 t7), H⟩ τ)
def s20 (call : CallK) (N : Nat) (a0 a1 a2 : V) (H : Heap) (τ : Tape) (q : KV) : Ans :=
  effK (eBox [a0] H τ) fun v0 H1 τ2 =>
  effK (eBox [a1] H1 τ2) fun v3 H4 τ5 =>
  someK (pLen [a2]) fun v6 =>
  someK (pFieldAddr 14 [v0]) fun v7 =>
  someK (lLoad1 [v7] H4) fun v8 =>
  binK .quo v6 v8 fun v9 =>
  someK (pFieldAddr 14 [v0]) fun v10 =>
  someK (lLoad1 [v10] H4) fun v11 =>
  binK .mul v9 v11 fun v12 =>
  loopK (s20_l13 call N) N ⟨(T.set (T.set (T.set (T.set (T.set .leaf 2 a2) 3 v0) 4 v3) 7 v12) 8 (.int .i64 (.ofNat 0))), H4⟩ τ5 (blockK 0 (seqK (s20_j0 call N q) (endK [(.t 6)] q)))
theorem s20_eq (call : CallK) (N : Nat) (a0 a1 a2 : V) (H : Heap) (τ : Tape) (q : KV) : s20 call N a0 a1 a2 H τ q = funK call N fn20 [a0, a1, a2] H τ q := by kernel_rfl
def e20 (call : CallK) (N : Nat) (vs : List V) (H : Heap) (τ : Tape) (q : KV) : Ans := match vs with | [a0, a1, a2] => s20 call N a0 a1 a2 H τ q | _ => none
theorem e20_ok : EntOk fn20 e20 := by
  intro call N vs H τ q r h
  unfold e20 at h
  split at h
  · rw [s20_eq] at h; exact h
  · cases h
theorem e20_nat : EntNat e20 := by
  intro c hn N vs H τ q
  unfold e20
  split
  · rw [s20_eq, s20_eq]; exact funK_ent hn _ _ _ _ _ _
  · rfl
/-- ostiary/digest.hash[uint64] -/
def fn21 : Fun := ⟨3,
  (.seq (.reg [⟨(some 3), none, (.e .box), [(.t 0)], none⟩,
    ⟨(some 4), none, (.e .box), [(.t 1)], none⟩,
    ⟨(some 6), none, (.p .mv), [(.c .nils)], none⟩])
  (.keep [2, 3, 4] (.seq (.draw [⟨(some 17), none, (.p .mv), [(.t 2)], none⟩,
    ⟨(some 18), none, (.p .len), [(.t 17)], none⟩,
    ⟨(some 19), none, (.p (.fieldAddr 14)), [(.t 3)], none⟩,
    ⟨(some 20), none, (.l (.load none)), [(.t 19)], none⟩,
    ⟨(some 21), none, (.p (.bin .quo)), [(.t 18), (.t 20)], none⟩,
    ⟨(some 22), none, (.p (.fieldAddr 14)), [(.t 3)], none⟩,
    ⟨(some 23), none, (.l (.load none)), [(.t 22)], none⟩,
    ⟨(some 24), none, (.p (.bin .mul)), [(.t 21), (.t 23)], none⟩,
    ⟨(some 7), none, (.p .mv), [(.t 24)], none⟩])
  (.keep [2, 3, 4, 7] (.seq (.seq (.reg [⟨(some 8), none, (.p .mv), [(.c (.int .i64 (.ofNat 0)))], none⟩])
  (.keep [2, 3, 4, 7, 8] (.block 0
   (.loop
    (.keep [2, 3, 4, 7, 8] (.seq (.seq (.reg [⟨(some 25), none, (.p .mv), [(.t 8)], none⟩,
      ⟨(some 26), none, (.p .mv), [(.t 7)], none⟩,
      ⟨(some 27), none, (.p (.bin .lss)), [(.t 25), (.t 26)], none⟩])
    (.keep [2, 3, 4, 7, 8, 27] (.cond (.t 27)
     .skip
     (.keep [2, 3, 4, 7] (.exit 0)))))
    (.keep [2, 3, 4, 7, 8] (.seq (.block 1
     (.reg [⟨(some 32), none, (.p .mv), [(.t 2)], none⟩,
       ⟨(some 33), none, (.p .mv), [(.t 8)], none⟩,
       ⟨(some 34), none, (.p (.slSlice 1 true false false)), [(.t 32), (.t 33)], none⟩,
       ⟨(some 35), none, (.call 29), [(.t 3), (.t 4), (.t 34)], none⟩]))
    (.keep [2, 3, 4, 7, 8] (.reg [⟨(some 28), none, (.p .mv), [(.t 8)], none⟩,
      ⟨(some 29), none, (.p (.fieldAddr 14)), [(.t 3)], none⟩,
      ⟨(some 30), none, (.l (.load none)), [(.t 29)], none⟩,
      ⟨(some 31), none, (.p (.bin .add)), [(.t 28), (.t 30)], none⟩,
      ⟨(some 8), none, (.p .mv), [(.t 31)], none⟩]))))))))))
  (.keep [2, 3, 4, 7] (.seq (.reg [⟨(some 36), none, (.e (.buildSlice 0 1 [] [])), [], none⟩,
    ⟨(some 37), none, (.p .mv), [(.t 2)], none⟩,
    ⟨(some 38), none, (.p .mv), [(.t 7)], none⟩,
    ⟨(some 39), none, (.p (.slSlice 1 true false false)), [(.t 37), (.t 38)], none⟩,
    ⟨(some 40), none, (.e (.append 1 1)), [(.t 36), (.t 39)], none⟩,
    ⟨(some 41), none, (.e (.buildSlice 1 1 [(.int .u8 (.ofNat 0))] [(0, 1)])), [(.c (.int .u8 (.ofNat 128)))], none⟩,
    ⟨(some 42), none, (.e (.append 1 1)), [(.t 40), (.t 41)], none⟩,
    ⟨(some 9), none, (.p .mv), [(.t 42)], none⟩])
  (.keep [2, 3, 4, 9] (.seq (.block 2
   (.loop
    (.keep [2, 3, 4, 9] (.seq (.seq (.reg [⟨(some 43), none, (.p .mv), [(.t 9)], none⟩,
      ⟨(some 44), none, (.p .len), [(.t 43)], none⟩,
      ⟨(some 45), none, (.p (.fieldAddr 15)), [(.t 3)], none⟩,
      ⟨(some 46), none, (.l (.load none)), [(.t 45)], none⟩,
      ⟨(some 47), none, (.p (.bin .add)), [(.t 44), (.t 46)], none⟩,
      ⟨(some 48), none, (.p (.fieldAddr 14)), [(.t 3)], none⟩,
      ⟨(some 49), none, (.l (.load none)), [(.t 48)], none⟩,
      ⟨(some 50), none, (.p (.bin .rem)), [(.t 47), (.t 49)], none⟩,
      ⟨(some 51), none, (.p (.bin .neq)), [(.t 50), (.c (.int .i64 (.ofNat 0)))], none⟩])
    (.keep [2, 3, 4, 9, 51] (.cond (.t 51)
     .skip
     (.keep [2, 3, 4, 9] (.exit 2)))))
    (.keep [2, 3, 4, 9] (.block 3
     (.reg [⟨(some 52), none, (.p .mv), [(.t 9)], none⟩,
       ⟨(some 53), none, (.e (.buildSlice 1 1 [(.int .u8 (.ofNat 0))] [(0, 1)])), [(.c (.int .u8 (.ofNat 0)))], none⟩,
       ⟨(some 54), none, (.e (.append 1 1)), [(.t 52), (.t 53)], none⟩,
       ⟨(some 9), none, (.p .mv), [(.t 54)], none⟩])))))))
  (.keep [2, 3, 4, 9] (.seq (.seq (.reg [⟨(some 55), none, (.p (.fieldAddr 15)), [(.t 3)], none⟩,
    ⟨(some 56), none, (.l (.load none)), [(.t 55)], none⟩,
    ⟨(some 57), none, (.p (.bin .sub)), [(.t 56), (.c (.int .i64 (.ofNat 1)))], none⟩,
    ⟨(some 10), none, (.p .mv), [(.t 57)], none⟩])
  (.keep [2, 3, 4, 9, 10] (.block 4
   (.loop
    (.keep [2, 3, 4, 9, 10] (.seq (.seq (.reg [⟨(some 58), none, (.p .mv), [(.t 10)], none⟩,
      ⟨(some 59), none, (.p (.bin .geq)), [(.t 58), (.c (.int .i64 (.ofNat 0)))], none⟩])
    (.keep [2, 3, 4, 9, 10, 59] (.cond (.t 59)
     .skip
     (.keep [3, 4, 9] (.exit 4)))))
    (.keep [2, 3, 4, 9, 10] (.seq (.block 5
     (.seq (.reg [⟨(some 11), none, (.p .mv), [(.c (.int .u8 (.ofNat 0)))], none⟩])
     (.keep [2, 3, 4, 9, 10, 11] (.seq (.seq (.reg [⟨(some 62), none, (.p .mv), [(.t 10)], none⟩,
       ⟨(some 63), none, (.p (.bin .lss)), [(.t 62), (.c (.int .i64 (.ofNat 8)))], none⟩])
     (.keep [2, 3, 4, 9, 10, 11, 63] (.cond (.t 63)
      (.reg [⟨(some 64), none, (.p .mv), [(.t 2)], none⟩,
        ⟨(some 65), none, (.p .len), [(.t 64)], none⟩,
        ⟨(some 66), none, (.p (.toInt .u64)), [(.t 65)], none⟩,
        ⟨(some 67), none, (.p (.bin .mul)), [(.t 66), (.c (.int .u64 (.ofNat 8)))], none⟩,
        ⟨(some 68), none, (.p .mv), [(.t 10)], none⟩,
        ⟨(some 69), none, (.p (.bin .mul)), [(.c (.int .i64 (.ofNat 8))), (.t 68)], none⟩,
        ⟨(some 70), none, (.p (.bin .shr)), [(.t 67), (.t 69)], none⟩,
        ⟨(some 71), none, (.p (.toInt .u8)), [(.t 70)], none⟩,
        ⟨(some 11), none, (.p .mv), [(.t 71)], none⟩])
      .skip)))
     (.keep [2, 3, 4, 9, 10, 11] (.reg [⟨(some 72), none, (.p .mv), [(.t 9)], none⟩,
       ⟨(some 73), none, (.p .mv), [(.t 11)], none⟩,
       ⟨(some 74), none, (.e (.buildSlice 1 1 [(.int .u8 (.ofNat 0))] [(0, 1)])), [(.t 73)], none⟩,
       ⟨(some 75), none, (.e (.append 1 1)), [(.t 72), (.t 74)], none⟩,
       ⟨(some 9), none, (.p .mv), [(.t 75)], none⟩]))))))
    (.keep [2, 3, 4, 9, 10] (.reg [⟨(some 60), none, (.p .mv), [(.t 10)], none⟩,
      ⟨(some 61), none, (.p (.bin .sub)), [(.t 60), (.c (.int .i64 (.ofNat 1)))], none⟩,
      ⟨(some 10), none, (.p .mv), [(.t 61)], none⟩]))))))))))
  (.keep [3, 4, 9] (.seq (.seq (.reg [⟨(some 12), none, (.p .mv), [(.c (.int .i64 (.ofNat 0)))], none⟩])
  (.keep [3, 4, 9, 12] (.block 6
   (.loop
    (.keep [3, 4, 9, 12] (.seq (.seq (.reg [⟨(some 76), none, (.p .mv), [(.t 12)], none⟩,
      ⟨(some 77), none, (.p .mv), [(.t 9)], none⟩,
      ⟨(some 78), none, (.p .len), [(.t 77)], none⟩,
      ⟨(some 79), none, (.p (.bin .lss)), [(.t 76), (.t 78)], none⟩])
    (.keep [3, 4, 9, 12, 79] (.cond (.t 79)
     .skip
     (.keep [3, 4] (.exit 6)))))
    (.keep [3, 4, 9, 12] (.seq (.block 7
     (.reg [⟨(some 84), none, (.p .mv), [(.t 9)], none⟩,
       ⟨(some 85), none, (.p .mv), [(.t 12)], none⟩,
       ⟨(some 86), none, (.p (.slSlice 1 true false false)), [(.t 84), (.t 85)], none⟩,
       ⟨(some 87), none, (.call 29), [(.t 3), (.t 4), (.t 86)], none⟩]))
    (.keep [3, 4, 9, 12] (.reg [⟨(some 80), none, (.p .mv), [(.t 12)], none⟩,
      ⟨(some 81), none, (.p (.fieldAddr 14)), [(.t 3)], none⟩,
      ⟨(some 82), none, (.l (.load none)), [(.t 81)], none⟩,
      ⟨(some 83), none, (.p (.bin .add)), [(.t 80), (.t 82)], none⟩,
      ⟨(some 12), none, (.p .mv), [(.t 83)], none⟩]))))))))))
  (.keep [3, 4] (.seq (.reg [⟨(some 13), none, (.p .mv), [(.c .nils)], none⟩])
  (.keep [3, 4, 13] (.seq (.seq (.reg [⟨(some 88), none, (.l (.load (some 8))), [(.t 4)], none⟩,
    ⟨(some 89), none, (.p .mv), [(.c (.int .i64 (.ofNat 0)))], none⟩])
  (.keep [3, 13, 88, 89] (.block 8
   (.loop
    (.keep [3, 13, 88, 89] (.seq (.reg [⟨(some 90), none, (.p (.bin .lss)), [(.t 89), (.c (.int .i64 (.ofNat 8)))], none⟩])
    (.keep [3, 13, 88, 89, 90] (.seq (.cond (.t 90)
     .skip
     (.keep [13] (.exit 8)))
    (.keep [3, 13, 88, 89] (.seq (.block 9
     (.seq (.reg [⟨(some 91), none, (.p (.arrIndex 8 1 false)), [(.t 88), (.t 89)], none⟩,
       ⟨(some 15), none, (.p .mv), [(.t 91)], none⟩])
     (.keep [3, 13, 15, 88, 89] (.seq (.reg [⟨(some 92), none, (.p (.fieldAddr 0)), [(.t 3)], none⟩,
       ⟨(some 93), none, (.l (.load none)), [(.t 92)], none⟩,
       ⟨(some 94), none, (.p (.bin .sub)), [(.t 93), (.c (.int .i64 (.ofNat 8)))], none⟩,
       ⟨(some 16), none, (.p .mv), [(.t 94)], none⟩])
     (.keep [3, 13, 15, 16, 88, 89] (.block 10
      (.loop
       (.keep [3, 13, 15, 16, 88, 89] (.seq (.seq (.reg [⟨(some 95), none, (.p .mv), [(.t 16)], none⟩,
         ⟨(some 96), none, (.p (.bin .geq)), [(.t 95), (.c (.int .i64 (.ofNat 0)))], none⟩])
       (.keep [3, 13, 15, 16, 88, 89, 96] (.cond (.t 96)
        .skip
        (.keep [3, 13, 88, 89] (.exit 10)))))
       (.keep [3, 13, 15, 16, 88, 89] (.seq (.block 11
        (.reg [⟨(some 99), none, (.p .mv), [(.t 13)], none⟩,
          ⟨(some 100), none, (.p .mv), [(.t 15)], none⟩,
          ⟨(some 101), none, (.p .mv), [(.t 16)], none⟩,
          ⟨(some 102), none, (.p (.bin .shr)), [(.t 100), (.t 101)], none⟩,
          ⟨(some 103), none, (.p (.toInt .u8)), [(.t 102)], none⟩,
          ⟨(some 104), none, (.e (.buildSlice 1 1 [(.int .u8 (.ofNat 0))] [(0, 1)])), [(.t 103)], none⟩,
          ⟨(some 105), none, (.e (.append 1 1)), [(.t 99), (.t 104)], none⟩,
          ⟨(some 13), none, (.p .mv), [(.t 105)], none⟩]))
       (.keep [3, 13, 15, 16, 88, 89] (.reg [⟨(some 97), none, (.p .mv), [(.t 16)], none⟩,
         ⟨(some 98), none, (.p (.bin .sub)), [(.t 97), (.c (.int .i64 (.ofNat 8)))], none⟩,
         ⟨(some 16), none, (.p .mv), [(.t 98)], none⟩])))))))))))))
    (.keep [3, 13, 88, 89] (.reg [⟨(some 106), none, (.p (.bin .add)), [(.t 89), (.c (.int .i64 (.ofNat 1)))], none⟩,
      ⟨(some 89), none, (.p .mv), [(.t 106)], none⟩]))))))))))))
  (.keep [13] (.seq (.reg [⟨(some 107), none, (.p .mv), [(.t 13)], none⟩,
    ⟨(some 6), none, (.p .mv), [(.t 107)], none⟩])
  (.keep [6] (.keep [6] .ret))))))))))))))))))))),
  [(.t 6)]⟩
def s21_j4 (call : CallK) (N : Nat) (q : KV) (st : St) (τ : Tape) : Ans :=
  match st with
  | ⟨fr, H⟩ =>
  getK fr 13 fun t13 =>
  q t13 H τ
def s21_j6 (call : CallK) (N : Nat) (k : KC) (st : St) (τ : Tape) : Ans :=
  match st with
  | ⟨fr, H⟩ =>
  getK fr 3 fun t3 =>
  getK fr 13 fun t13 =>
  getK fr 88 fun t88 =>
  getK fr 89 fun t89 =>
  binK .add t89 (.int .i64 (.ofNat 1)) fun v31 =>
  k .normal ⟨(T.set (T.set (T.set (T.set (T.set (T.set .leaf 3 t3) 13 t13) 88 t88) 89 t89) 106 v31) 89 v31), H⟩ τ
def s21_l7 (call : CallK) (N : Nat) (st : St) (τ : Tape) (k : KC) : Ans :=
  match st with
  | ⟨fr, H⟩ =>
  getK fr 3 fun t3 =>
  getK fr 13 fun t13 =>
  getK fr 15 fun t15 =>
  getK fr 16 fun t16 =>
  getK fr 88 fun t88 =>
  getK fr 89 fun t89 =>
  binK .geq t16 (.int .i64 (.ofNat 0)) fun v36 =>
  condK v36
    (binK .shr t15 t16 fun v37 =>
  toIntK .u8 v37 fun v38 =>
  effK (eBuildSlice 1 1 [(.int .u8 (.ofNat 0))] [(0, 1)] [v38] H τ) fun v39 H40 τ41 =>
  effK (eAppend 1 1 [t13, v39] H40 τ41) fun v42 H43 τ44 =>
  binK .sub t16 (.int .i64 (.ofNat 8)) fun v45 =>
  k .normal ⟨(T.set (T.set (T.set (T.set (T.set (T.set (T.set (T.set (T.set .leaf 3 t3) 13 v42) 15 t15) 16 t16) 88 t88) 89 t89) 97 t16) 98 v45) 16 v45), H43⟩ τ44)
    (k (.exit 10) ⟨(T.set (T.set (T.set (T.set .leaf 3 t3) 13 t13) 88 t88) 89 t89), H⟩ τ)
def s21_l5 (call : CallK) (N : Nat) (st : St) (τ : Tape) (k : KC) : Ans :=
  match st with
  | ⟨fr, H⟩ =>
  getK fr 3 fun t3 =>
  getK fr 13 fun t13 =>
  getK fr 88 fun t88 =>
  getK fr 89 fun t89 =>
  binK .lss t89 (.int .i64 (.ofNat 8)) fun v30 =>
  condK v30
    (someK (pArrIndex 8 1 false [t88, t89]) fun v32 =>
  someK (pFieldAddr 0 [t3]) fun v33 =>
  someK (lLoad1 [v33] H) fun v34 =>
  binK .sub v34 (.int .i64 (.ofNat 8)) fun v35 =>
  loopK (s21_l7 call N) N ⟨(T.set (T.set (T.set (T.set (T.set (T.set .leaf 3 t3) 13 t13) 15 v32) 16 v35) 88 t88) 89 t89), H⟩ τ (blockK 10 (blockK 9 (seqK (s21_j6 call N k) k))))
    (k (.exit 8) ⟨(T.set .leaf 13 t13), H⟩ τ)
def s21_j3 (call : CallK) (N : Nat) (q : KV) (st : St) (τ : Tape) : Ans :=
  match st with
  | ⟨fr, H⟩ =>
  getK fr 3 fun t3 =>
  getK fr 4 fun t4 =>
  someK (lLoadN 8 [t4] H) fun v29 =>
  loopK (s21_l5 call N) N ⟨(T.set (T.set (T.set (T.set .leaf 3 t3) 13 .nils) 88 v29) 89 (.int .i64 (.ofNat 0))), H⟩ τ (blockK 8 (seqK (s21_j4 call N q) (endK [(.t 6)] q)))
def s21_l8 (call : CallK) (N : Nat) (st : St) (τ : Tape) (k : KC) : Ans :=
  match st with
  | ⟨fr, H⟩ =>
  getK fr 3 fun t3 =>
  getK fr 4 fun t4 =>
  getK fr 9 fun t9 =>
  getK fr 12 fun t12 =>
  someK (pLen [t9]) fun v46 =>
  binK .lss t12 v46 fun v47 =>
  condK v47
    (someK (pSlSlice 1 true false false [t9, t12]) fun v48 =>
  call 29 [t3, t4, v48] H τ fun v49 H50 τ51 =>
  someK (pFieldAddr 14 [t3]) fun v52 =>
  someK (lLoad1 [v52] H50) fun v53 =>
  binK .add t12 v53 fun v54 =>
  k .normal ⟨(T.set (T.set (T.set (T.set (T.set (T.set (T.set (T.set (T.set .leaf 3 t3) 4 t4) 9 t9) 12 t12) 80 t12) 81 v52) 82 v53) 83 v54) 12 v54), H50⟩ τ51)
    (k (.exit 6) ⟨(T.set (T.set .leaf 3 t3) 4 t4), H⟩ τ)
def s21_j2 (call : CallK) (N : Nat) (q : KV) (st : St) (τ : Tape) : Ans :=
  match st with
  | ⟨fr, H⟩ =>
  getK fr 3 fun t3 =>
  getK fr 4 fun t4 =>
  getK fr 9 fun t9 =>
  loopK (s21_l8 call N) N ⟨(T.set (T.set (T.set (T.set .leaf 3 t3) 4 t4) 9 t9) 12 (.int .i64 (.ofNat 0))), H⟩ τ (blockK 6 (seqK (s21_j3 call N q) (endK [(.t 6)] q)))
def s21_j10 (call : CallK) (N : Nat) (k : KC) (st : St) (τ : Tape) : Ans :=
  match st with
  | ⟨fr, H⟩ =>
  getK fr 2 fun t2 =>
  getK fr 3 fun t3 =>
  getK fr 4 fun t4 =>
  getK fr 9 fun t9 =>
  getK fr 10 fun t10 =>
  binK .sub t10 (.int .i64 (.ofNat 1)) fun v57 =>
  k .normal ⟨(T.set (T.set (T.set (T.set (T.set (T.set (T.set (T.set .leaf 2 t2) 3 t3) 4 t4) 9 t9) 10 t10) 60 t10) 61 v57) 10 v57), H⟩ τ
def s21_j11 (call : CallK) (N : Nat) (k : KC) (st : St) (τ : Tape) : Ans :=
  match st with
  | ⟨fr, H⟩ =>
  getK fr 2 fun t2 =>
  getK fr 3 fun t3 =>
  getK fr 4 fun t4 =>
  getK fr 9 fun t9 =>
  getK fr 10 fun t10 =>
  getK fr 11 fun t11 =>
  effK (eBuildSlice 1 1 [(.int .u8 (.ofNat 0))] [(0, 1)] [t11] H τ) fun v58 H59 τ60 =>
  effK (eAppend 1 1 [t9, v58] H59 τ60) fun v61 H62 τ63 =>
  s21_j10 call N k ⟨(T.set (T.set (T.set (T.set (T.set (T.set (T.set (T.set (T.set (T.set (T.set .leaf 2 t2) 3 t3) 4 t4) 9 t9) 10 t10) 11 t11) 72 t9) 73 t11) 74 v58) 75 v61) 9 v61), H62⟩ τ63
def s21_l9 (call : CallK) (N : Nat) (st : St) (τ : Tape) (k : KC) : Ans :=
  match st with
  | ⟨fr, H⟩ =>
  getK fr 2 fun t2 =>
  getK fr 3 fun t3 =>
  getK fr 4 fun t4 =>
  getK fr 9 fun t9 =>
  getK fr 10 fun t10 =>
  binK .geq t10 (.int .i64 (.ofNat 0)) fun v55 =>
  condK v55
    (binK .lss t10 (.int .i64 (.ofNat 8)) fun v56 =>
  condK v56
    (someK (pLen [t2]) fun v64 =>
  toIntK .u64 v64 fun v65 =>
  binK .mul v65 (.int .u64 (.ofNat 8)) fun v66 =>
  binK .mul (.int .i64 (.ofNat 8)) t10 fun v67 =>
  binK .shr v66 v67 fun v68 =>
  toIntK .u8 v68 fun v69 =>
  s21_j11 call N k ⟨(T.set (T.set (T.set (T.set (T.set (T.set (T.set (T.set (T.set (T.set (T.set (T.set (T.set (T.set (T.set (T.set .leaf 2 t2) 3 t3) 4 t4) 9 t9) 10 t10) 11 (.int .u8 (.ofNat 0))) 63 v56) 64 t2) 65 v64) 66 v65) 67 v66) 68 t10) 69 v67) 70 v68) 71 v69) 11 v69), H⟩ τ)
    (s21_j11 call N k ⟨(T.set (T.set (T.set (T.set (T.set (T.set (T.set .leaf 2 t2) 3 t3) 4 t4) 9 t9) 10 t10) 11 (.int .u8 (.ofNat 0))) 63 v56), H⟩ τ))
    (k (.exit 4) ⟨(T.set (T.set (T.set .leaf 3 t3) 4 t4) 9 t9), H⟩ τ)
def s21_j1 (call : CallK) (N : Nat) (q : KV) (st : St) (τ : Tape) : Ans :=
  match st with
  | ⟨fr, H⟩ =>
  getK fr 2 fun t2 =>
  getK fr 3 fun t3 =>
  getK fr 4 fun t4 =>
  getK fr 9 fun t9 =>
  someK (pFieldAddr 15 [t3]) fun v26 =>
  someK (lLoad1 [v26] H) fun v27 =>
  binK .sub v27 (.int .i64 (.ofNat 1)) fun v28 =>
  loopK (s21_l9 call N) N ⟨(T.set (T.set (T.set (T.set (T.set .leaf 2 t2) 3 t3) 4 t4) 9 t9) 10 v28), H⟩ τ (blockK 4 (seqK (s21_j2 call N q) (endK [(.t 6)] q)))
def s21_l12 (call : CallK) (N : Nat) (st : St) (τ : Tape) (k : KC) : Ans :=
  match st with
  | ⟨fr, H⟩ =>
  getK fr 2 fun t2 =>
  getK fr 3 fun t3 =>
  getK fr 4 fun t4 =>
  getK fr 9 fun t9 =>
  someK (pLen [t9]) fun v70 =>
  someK (pFieldAddr 15 [t3]) fun v71 =>
  someK (lLoad1 [v71] H) fun v72 =>
  binK .add v70 v72 fun v73 =>
  someK (pFieldAddr 14 [t3]) fun v74 =>
  someK (lLoad1 [v74] H) fun v75 =>
  binK .rem v73 v75 fun v76 =>
  binK .neq v76 (.int .i64 (.ofNat 0)) fun v77 =>
  condK v77
    (effK (eBuildSlice 1 1 [(.int .u8 (.ofNat 0))] [(0, 1)] [(.int .u8 (.ofNat 0))] H τ) fun v78 H79 τ80 =>
  effK (eAppend 1 1 [t9, v78] H79 τ80) fun v81 H82 τ83 =>
  k .normal ⟨(T.set (T.set (T.set (T.set (T.set (T.set (T.set (T.set .leaf 2 t2) 3 t3) 4 t4) 9 t9) 52 t9) 53 v78) 54 v81) 9 v81), H82⟩ τ83)
    (k (.exit 2) ⟨(T.set (T.set (T.set (T.set .leaf 2 t2) 3 t3) 4 t4) 9 t9), H⟩ τ)
def s21_j0 (call : CallK) (N : Nat) (q : KV) (st : St) (τ : Tape) : Ans :=
  match st with
  | ⟨fr, H⟩ =>
  getK fr 2 fun t2 =>
  getK fr 3 fun t3 =>
  getK fr 4 fun t4 =>
  getK fr 7 fun t7 =>
  effK (eBuildSlice 0 1 [] [] [] H τ) fun v13 H14 τ15 =>
  someK (pSlSlice 1 true false false [t2, t7]) fun v16 =>
  effK (eAppend 1 1 [v13, v16] H14 τ15) fun v17 H18 τ19 =>
  effK (eBuildSlice 1 1 [(.int .u8 (.ofNat 0))] [(0, 1)] [(.int .u8 (.ofNat 128))] H18 τ19) fun v20 H21 τ22 =>
  effK (eAppend 1 1 [v17, v20] H21 τ22) fun v23 H24 τ25 =>
  loopK (s21_l12 call N) N ⟨(T.set (T.set (T.set (T.set .leaf 2 t2) 3 t3) 4 t4) 9 v23), H24⟩ τ25 (blockK 2 (seqK (s21_j1 call N q) (endK [(.t 6)] q)))
def s21_l13 (call : CallK) (N : Nat) (st : St) (τ : Tape) (k : KC) : Ans :=
  match st with
  | ⟨fr, H⟩ =>
  getK fr 2 fun t2 =>
  getK fr 3 fun t3 =>
  getK fr 4 fun t4 =>
  getK fr 7 fun t7 =>
  getK fr 8 fun t8 =>
  binK .lss t8 t7 fun v84 =>
  condK v84
    (someK (pSlSlice 1 true false false [t2, t8]) fun v85 =>
  call 29 [t3, t4, v85] H τ fun v86 H87 τ88 =>
  someK (pFieldAddr 14 [t3]) fun v89 =>
  someK (lLoad1 [v89] H87) fun v90 =>
  binK .add t8 v90 fun v91 =>
  k .normal ⟨(T.set (T.set (T.set (T.set (T.set (T.set (T.set (T.set (T.set (T.set .leaf 2 t2) 3 t3) 4 t4) 7 t7) 8 t8) 28 t8) 29 v89) 30 v90) 31 v91) 8 v91), H87⟩ τ88)
    (k (.exit 0) ⟨(T.set (T.set (T.set (T.set .leaf 2 t2) 3 t3) 4 t4) 7 t7), H⟩ τ)
def s21 (call : CallK) (N : Nat) (a0 a1 a2 : V) (H : Heap) (τ : Tape) (q : KV) : Ans :=
  effK (eBox [a0] H τ) fun v0 H1 τ2 =>
  effK (eBox [a1] H1 τ2) fun v3 H4 τ5 =>
  someK (pLen [a2]) fun v6 =>
  someK (pFieldAddr 14 [v0]) fun v7 =>
  someK (lLoad1 [v7] H4) fun v8 =>
  binK .quo v6 v8 fun v9 =>
  someK (pFieldAddr 14 [v0]) fun v10 =>
  someK (lLoad1 [v10] H4) fun v11 =>
  binK .mul v9 v11 fun v12 =>
  loopK (s21_l13 call N) N ⟨(T.set (T.set (T.set (T.set (T.set .leaf 2 a2) 3 v0) 4 v3) 7 v12) 8 (.int .i64 (.ofNat 0))), H4⟩ τ5 (blockK 0 (seqK (s21_j0 call N q) (endK [(.t 6)] q)))
theorem s21_eq (call : CallK) (N : Nat) (a0 a1 a2 : V) (H : Heap) (τ : Tape) (q : KV) : s21 call N a0 a1 a2 H τ q = funK call N fn21 [a0, a1, a2] H τ q := by kernel_rfl
def e21 (call : CallK) (N : Nat) (vs : List V) (H : Heap) (τ : Tape) (q : KV) : Ans := match vs with | [a0, a1, a2] => s21 call N a0 a1 a2 H τ q | _ => none
theorem e21_ok : EntOk fn21 e21 := by
  intro call N vs H τ q r h
  unfold e21 at h
  split at h
  · rw [s21_eq] at h; exact h
  · cases h
theorem e21_nat : EntNat e21 := by
  intro c hn N vs H τ q
  unfold e21
  split
  · rw [s21_eq, s21_eq]; exact funK_ent hn _ _ _ _ _ _
  · rfl
/-- ostiary/ostiarylaw8.hex -/
def fn22 : Fun := ⟨1,
  (.seq (.reg [⟨(some 2), none, (.p .mv), [(.c (.str []))], none⟩])
  (.keep [0] (.seq (.reg [⟨(some 3), none, (.p .mv), [(.c (.str []))], none⟩])
  (.keep [0, 3] (.seq (.seq (.reg [⟨(some 4), none, (.p .mv), [(.c (.int .i64 (.ofNat 0)))], none⟩])
  (.keep [0, 3, 4] (.block 0
   (.loop
    (.keep [0, 3, 4] (.seq (.seq (.reg [⟨(some 5), none, (.p .mv), [(.t 4)], none⟩,
      ⟨(some 6), none, (.p .mv), [(.t 0)], none⟩,
      ⟨(some 7), none, (.p .len), [(.t 6)], none⟩,
      ⟨(some 8), none, (.p (.bin .lss)), [(.t 5), (.t 7)], none⟩])
    (.keep [0, 3, 4, 8] (.cond (.t 8)
     .skip
     (.keep [3] (.exit 0)))))
    (.keep [0, 3, 4] (.seq (.block 1
     (.draw [⟨(some 11), none, (.p .mv), [(.t 3)], none⟩,
       ⟨(some 12), none, (.p .mv), [(.t 0)], none⟩,
       ⟨(some 13), none, (.p .mv), [(.t 4)], none⟩,
       ⟨(some 14), none, (.p (.slIdx 1)), [(.t 12), (.t 13)], none⟩,
       ⟨(some 15), none, (.l (.load none)), [(.t 14)], none⟩,
       ⟨(some 16), none, (.p (.bin .shr)), [(.t 15), (.c (.int .u64 (.ofNat 4)))], none⟩,
       ⟨(some 17), none, (.p .mv), [(.t 0)], none⟩,
       ⟨(some 18), none, (.p .mv), [(.t 4)], none⟩,
       ⟨(some 19), none, (.p (.slIdx 1)), [(.t 17), (.t 18)], none⟩,
       ⟨(some 20), none, (.l (.load none)), [(.t 19)], none⟩,
       ⟨(some 21), none, (.p (.bin .shr)), [(.t 20), (.c (.int .u64 (.ofNat 4)))], none⟩,
       ⟨(some 22), none, (.p (.bin .add)), [(.t 21), (.c (.int .u8 (.ofNat 1)))], none⟩,
       ⟨(some 23), none, (.p (.strSlice true true)), [(.c (.str (bs [48, 49, 50, 51, 52, 53, 54, 55, 56, 57, 97, 98, 99, 100, 101, 102]))), (.t 16), (.t 22)], none⟩,
       ⟨(some 24), none, (.p (.bin .add)), [(.t 11), (.t 23)], none⟩,
       ⟨(some 25), none, (.p .mv), [(.t 0)], none⟩,
       ⟨(some 26), none, (.p .mv), [(.t 4)], none⟩,
       ⟨(some 27), none, (.p (.slIdx 1)), [(.t 25), (.t 26)], none⟩,
       ⟨(some 28), none, (.l (.load none)), [(.t 27)], none⟩,
       ⟨(some 29), none, (.p (.bin .and)), [(.t 28), (.c (.int .u8 (.ofNat 15)))], none⟩,
       ⟨(some 30), none, (.p .mv), [(.t 0)], none⟩,
       ⟨(some 31), none, (.p .mv), [(.t 4)], none⟩,
       ⟨(some 32), none, (.p (.slIdx 1)), [(.t 30), (.t 31)], none⟩,
       ⟨(some 33), none, (.l (.load none)), [(.t 32)], none⟩,
       ⟨(some 34), none, (.p (.bin .and)), [(.t 33), (.c (.int .u8 (.ofNat 15)))], none⟩,
       ⟨(some 35), none, (.p (.bin .add)), [(.t 34), (.c (.int .u8 (.ofNat 1)))], none⟩,
       ⟨(some 36), none, (.p (.strSlice true true)), [(.c (.str (bs [48, 49, 50, 51, 52, 53, 54, 55, 56, 57, 97, 98, 99, 100, 101, 102]))), (.t 29), (.t 35)], none⟩,
       ⟨(some 37), none, (.p (.bin .add)), [(.t 24), (.t 36)], none⟩,
       ⟨(some 3), none, (.p .mv), [(.t 37)], none⟩]))
    (.keep [0, 3, 4] (.reg [⟨(some 9), none, (.p .mv), [(.t 4)], none⟩,
      ⟨(some 10), none, (.p (.bin .add)), [(.t 9), (.c (.int .i64 (.ofNat 1)))], none⟩,
      ⟨(some 4), none, (.p .mv), [(.t 10)], none⟩]))))))))))
  (.keep [3] (.seq (.reg [⟨(some 38), none, (.p .mv), [(.t 3)], none⟩,
    ⟨(some 2), none, (.p .mv), [(.t 38)], none⟩])
  (.keep [2] (.keep [2] .ret))))))))),
  [(.t 2)]⟩
def s22_j0 (call : CallK) (N : Nat) (q : KV) (st : St) (τ : Tape) : Ans :=
  match st with
  | ⟨fr, H⟩ =>
  getK fr 3 fun t3 =>
  q t3 H τ
def s22_l1 (call : CallK) (N : Nat) (st : St) (τ : Tape) (k : KC) : Ans :=
  match st with
  | ⟨fr, H⟩ =>
  getK fr 0 fun t0 =>
  getK fr 3 fun t3 =>
  getK fr 4 fun t4 =>
  someK (pLen [t0]) fun v0 =>
  binK .lss t4 v0 fun v1 =>
  condK v1
    (someK (pSlIdx 1 [t0, t4]) fun v2 =>
  someK (lLoad1 [v2] H) fun v3 =>
  binK .shr v3 (.int .u64 (.ofNat 4)) fun v4 =>
  someK (pSlIdx 1 [t0, t4]) fun v5 =>
  someK (lLoad1 [v5] H) fun v6 =>
  binK .shr v6 (.int .u64 (.ofNat 4)) fun v7 =>
  binK .add v7 (.int .u8 (.ofNat 1)) fun v8 =>
  someK (pStrSlice true true [(.str (bs [48, 49, 50, 51, 52, 53, 54, 55, 56, 57, 97, 98, 99, 100, 101, 102])), v4, v8]) fun v9 =>
  binK .add t3 v9 fun v10 =>
  someK (pSlIdx 1 [t0, t4]) fun v11 =>
  someK (lLoad1 [v11] H) fun v12 =>
  binK .and v12 (.int .u8 (.ofNat 15)) fun v13 =>
  someK (pSlIdx 1 [t0, t4]) fun v14 =>
  someK (lLoad1 [v14] H) fun v15 =>
  binK .and v15 (.int .u8 (.ofNat 15)) fun v16 =>
  binK .add v16 (.int .u8 (.ofNat 1)) fun v17 =>
  someK (pStrSlice true true [(.str (bs [48, 49, 50, 51, 52, 53, 54, 55, 56, 57, 97, 98, 99, 100, 101, 102])), v13, v17]) fun v18 =>
  binK .add v10 v18 fun v19 =>
  binK .add t4 (.int .i64 (.ofNat 1)) fun v20 =>
  k .normal ⟨(T.set (T.set (T.set (T.set (T.set (T.set .leaf 0 t0) 3 v19) 4 t4) 9 t4) 10 v20) 4 v20), H⟩ τ)
    (k (.exit 0) ⟨(T.set .leaf 3 t3), H⟩ τ)
def s22 (call : CallK) (N : Nat) (a0 : V) (H : Heap) (τ : Tape) (q : KV) : Ans :=
  loopK (s22_l1 call N) N ⟨(T.set (T.set (T.set .leaf 0 a0) 3 (.str [])) 4 (.int .i64 (.ofNat 0))), H⟩ τ (blockK 0 (seqK (s22_j0 call N q) (endK [(.t 2)] q)))
theorem s22_eq (call : CallK) (N : Nat) (a0 : V) (H : Heap) (τ : Tape) (q : KV) : s22 call N a0 H τ q = funK call N fn22 [a0] H τ q := by kernel_rfl
def e22 (call : CallK) (N : Nat) (vs : List V) (H : Heap) (τ : Tape) (q : KV) : Ans := match vs with | [a0] => s22 call N a0 H τ q | _ => none
theorem e22_ok : EntOk fn22 e22 := by
  intro call N vs H τ q r h
  unfold e22 at h
  split at h
  · rw [s22_eq] at h; exact h
  · cases h
theorem e22_nat : EntNat e22 := by
  intro c hn N vs H τ q
  unfold e22
  split
  · rw [s22_eq, s22_eq]; exact funK_ent hn _ _ _ _ _ _
  · rfl
/-- ostiary/ostiaryref8.root -/
def fn23 : Fun := ⟨2,
  (.seq (.reg [⟨(some 4), none, (.p .mv), [(.c (.int .u64 (.ofNat 0)))], none⟩])
  (.keep [0, 1] (.seq (.reg [⟨(some 5), none, (.e (.alloc (repl 16 [(.int .u64 (.ofNat 0))]))), [], none⟩])
  (.keep [0, 1, 5] (.seq (.seq (.reg [⟨(some 6), none, (.p .mv), [(.c (.int .i64 (.ofNat 71)))], none⟩])
  (.keep [0, 1, 5, 6] (.block 0
   (.loop
    (.keep [0, 1, 5, 6] (.seq (.seq (.reg [⟨(some 8), none, (.p .mv), [(.t 6)], none⟩,
      ⟨(some 9), none, (.p (.bin .geq)), [(.t 8), (.c (.int .i64 (.ofNat 0)))], none⟩])
    (.keep [0, 1, 5, 6, 9] (.cond (.t 9)
     .skip
     (.keep [5] (.exit 0)))))
    (.keep [0, 1, 5, 6] (.seq (.block 1
     (.seq (.reg [⟨(some 12), none, (.l (.load (some 16))), [(.t 5)], none⟩,
       ⟨(some 7), none, (.e (.alloc (repl 16 [(.int .u64 (.ofNat 0))]))), [], none⟩,
       ⟨none, none, (.e (.store 16)), [(.t 7), (.t 12)], none⟩])
     (.keep [0, 1, 5, 6, 7] (.seq (.reg [⟨(some 13), none, (.p .mv), [(.t 6)], none⟩,
       ⟨(some 14), none, (.p (.bin .quo)), [(.t 13), (.c (.int .i64 (.ofNat 16)))], none⟩,
       ⟨(some 15), none, (.p .mv), [(.t 6)], none⟩,
       ⟨(some 16), none, (.p (.bin .quo)), [(.t 15), (.c (.int .i64 (.ofNat 16)))], none⟩,
       ⟨(some 17), none, (.p (.arrIdx 16 1)), [(.t 7), (.t 16)], none⟩,
       ⟨(some 18), none, (.l (.load none)), [(.t 17)], none⟩,
       ⟨(some 19), none, (.p .mv), [(.t 6)], none⟩,
       ⟨(some 20), none, (.p (.bin .rem)), [(.t 19), (.c (.int .i64 (.ofNat 16)))], none⟩,
       ⟨(some 21), none, (.p (.toInt .u64)), [(.t 20)], none⟩,
       ⟨(some 22), none, (.p (.bin .shl)), [(.c (.int .u64 (.ofNat 1))), (.t 21)], none⟩,
       ⟨(some 23), none, (.p (.bin .or)), [(.t 18), (.t 22)], none⟩,
       ⟨(some 24), none, (.p (.arrIdx 16 1)), [(.t 7), (.t 14)], none⟩,
       ⟨none, none, (.e (.store 1)), [(.t 24), (.t 23)], none⟩])
     (.keep [0, 1, 5, 6, 7] (.seq (.reg [⟨(some 25), none, (.l (.load (some 16))), [(.t 7)], none⟩,
       ⟨(some 26), none, (.p .mv), [(.t 0)], none⟩,
       ⟨(some 27), none, (.p .mv), [(.t 1)], none⟩,
       ⟨(some 28), none, (.call 30), [(.t 25), (.t 26), (.t 27)], none⟩])
     (.keep [0, 1, 5, 6, 7, 28] (.cond (.t 28)
      (.reg [⟨(some 29), none, (.l (.load (some 16))), [(.t 7)], none⟩,
        ⟨none, none, (.e (.store 16)), [(.t 5), (.t 29)], none⟩])
      .skip))))))))
    (.keep [0, 1, 5, 6] (.reg [⟨(some 10), none, (.p .mv), [(.t 6)], none⟩,
      ⟨(some 11), none, (.p (.bin .sub)), [(.t 10), (.c (.int .i64 (.ofNat 1)))], none⟩,
      ⟨(some 6), none, (.p .mv), [(.t 11)], none⟩]))))))))))
  (.keep [5] (.seq (.reg [⟨(some 30), none, (.p (.arrIdx 16 1)), [(.t 5), (.c (.int .i64 (.ofNat 0)))], none⟩,
    ⟨(some 31), none, (.l (.load none)), [(.t 30)], none⟩,
    ⟨(some 32), none, (.p (.arrIdx 16 1)), [(.t 5), (.c (.int .i64 (.ofNat 1)))], none⟩,
    ⟨(some 33), none, (.l (.load none)), [(.t 32)], none⟩,
    ⟨(some 34), none, (.p (.bin .shl)), [(.t 33), (.c (.int .u64 (.ofNat 16)))], none⟩,
    ⟨(some 35), none, (.p (.bin .or)), [(.t 31), (.t 34)], none⟩,
    ⟨(some 36), none, (.p (.arrIdx 16 1)), [(.t 5), (.c (.int .i64 (.ofNat 2)))], none⟩,
    ⟨(some 37), none, (.l (.load none)), [(.t 36)], none⟩,
    ⟨(some 38), none, (.p (.bin .shl)), [(.t 37), (.c (.int .u64 (.ofNat 32)))], none⟩,
    ⟨(some 39), none, (.p (.bin .or)), [(.t 35), (.t 38)], none⟩,
    ⟨(some 40), none, (.p (.arrIdx 16 1)), [(.t 5), (.c (.int .i64 (.ofNat 3)))], none⟩,
    ⟨(some 41), none, (.l (.load none)), [(.t 40)], none⟩,
    ⟨(some 42), none, (.p (.bin .shl)), [(.t 41), (.c (.int .u64 (.ofNat 48)))], none⟩,
    ⟨(some 43), none, (.p (.bin .or)), [(.t 39), (.t 42)], none⟩,
    ⟨(some 4), none, (.p .mv), [(.t 43)], none⟩])
  (.keep [4] (.keep [4] .ret))))))))),
  [(.t 4)]⟩
def s23_j0 (call : CallK) (N : Nat) (q : KV) (st : St) (τ : Tape) : Ans :=
  match st with
  | ⟨fr, H⟩ =>
  getK fr 5 fun t5 =>
  someK (pArrIdx 16 1 [t5, (.int .i64 (.ofNat 0))]) fun v3 =>
  someK (lLoad1 [v3] H) fun v4 =>
  someK (pArrIdx 16 1 [t5, (.int .i64 (.ofNat 1))]) fun v5 =>
  someK (lLoad1 [v5] H) fun v6 =>
  binK .shl v6 (.int .u64 (.ofNat 16)) fun v7 =>
  binK .or v4 v7 fun v8 =>
  someK (pArrIdx 16 1 [t5, (.int .i64 (.ofNat 2))]) fun v9 =>
  someK (lLoad1 [v9] H) fun v10 =>
  binK .shl v10 (.int .u64 (.ofNat 32)) fun v11 =>
  binK .or v8 v11 fun v12 =>
  someK (pArrIdx 16 1 [t5, (.int .i64 (.ofNat 3))]) fun v13 =>
  someK (lLoad1 [v13] H) fun v14 =>
  binK .shl v14 (.int .u64 (.ofNat 48)) fun v15 =>
  binK .or v12 v15 fun v16 =>
  q v16 H τ
def s23_j2 (call : CallK) (N : Nat) (k : KC) (st : St) (τ : Tape) : Ans :=
  match st with
  | ⟨fr, H⟩ =>
  getK fr 0 fun t0 =>
  getK fr 1 fun t1 =>
  getK fr 5 fun t5 =>
  getK fr 6 fun t6 =>
  binK .sub t6 (.int .i64 (.ofNat 1)) fun v18 =>
  k .normal ⟨(T.set (T.set (T.set (T.set (T.set (T.set (T.set .leaf 0 t0) 1 t1) 5 t5) 6 t6) 10 t6) 11 v18) 6 v18), H⟩ τ
def s23_l1 (call : CallK) (N : Nat) (st : St) (τ : Tape) (k : KC) : Ans :=
  match st with
  | ⟨fr, H⟩ =>
  getK fr 0 fun t0 =>
  getK fr 1 fun t1 =>
  getK fr 5 fun t5 =>
  getK fr 6 fun t6 =>
  binK .geq t6 (.int .i64 (.ofNat 0)) fun v17 =>
  condK v17
    (someK (lLoadN 16 [t5] H) fun v19 =>
  effK (eAlloc (repl 16 [(.int .u64 (.ofNat 0))]) [] H τ) fun v20 H21 τ22 =>
  effK (eStore 16 [v20, v19] H21 τ22) fun v23 H24 τ25 =>
  binK .quo t6 (.int .i64 (.ofNat 16)) fun v26 =>
  binK .quo t6 (.int .i64 (.ofNat 16)) fun v27 =>
  someK (pArrIdx 16 1 [v20, v27]) fun v28 =>
  someK (lLoad1 [v28] H24) fun v29 =>
  binK .rem t6 (.int .i64 (.ofNat 16)) fun v30 =>
  toIntK .u64 v30 fun v31 =>
  binK .shl (.int .u64 (.ofNat 1)) v31 fun v32 =>
  binK .or v29 v32 fun v33 =>
  someK (pArrIdx 16 1 [v20, v26]) fun v34 =>
  effK (eStore 1 [v34, v33] H24 τ25) fun v35 H36 τ37 =>
  someK (lLoadN 16 [v20] H36) fun v38 =>
  call 30 [v38, t0, t1] H36 τ37 fun v39 H40 τ41 =>
  condK v39
    (someK (lLoadN 16 [v20] H40) fun v42 =>
  effK (eStore 16 [t5, v42] H40 τ41) fun v43 H44 τ45 =>
  s23_j2 call N k ⟨(T.set (T.set (T.set (T.set (T.set (T.set (T.set .leaf 0 t0) 1 t1) 5 t5) 6 t6) 7 v20) 28 v39) 29 v42), H44⟩ τ45)
    (s23_j2 call N k ⟨(T.set (T.set (T.set (T.set (T.set (T.set .leaf 0 t0) 1 t1) 5 t5) 6 t6) 7 v20) 28 v39), H40⟩ τ41))
    (k (.exit 0) ⟨(T.set .leaf 5 t5), H⟩ τ)
def s23 (call : CallK) (N : Nat) (a0 a1 : V) (H : Heap) (τ : Tape) (q : KV) : Ans :=
  effK (eAlloc (repl 16 [(.int .u64 (.ofNat 0))]) [] H τ) fun v0 H1 τ2 =>
  loopK (s23_l1 call N) N ⟨(T.set (T.set (T.set (T.set .leaf 0 a0) 1 a1) 5 v0) 6 (.int .i64 (.ofNat 71))), H1⟩ τ2 (blockK 0 (seqK (s23_j0 call N q) (endK [(.t 4)] q)))
theorem s23_eq (call : CallK) (N : Nat) (a0 a1 : V) (H : Heap) (τ : Tape) (q : KV) : s23 call N a0 a1 H τ q = funK call N fn23 [a0, a1] H τ q := by kernel_rfl
def e23 (call : CallK) (N : Nat) (vs : List V) (H : Heap) (τ : Tape) (q : KV) : Ans := match vs with | [a0, a1] => s23 call N a0 a1 H τ q | _ => none
theorem e23_ok : EntOk fn23 e23 := by
  intro call N vs H τ q r h
  unfold e23 at h
  split at h
  · rw [s23_eq] at h; exact h
  · cases h
theorem e23_nat : EntNat e23 := by
  intro c hn N vs H τ q
  unfold e23
  split
  · rw [s23_eq, s23_eq]; exact funK_ent hn _ _ _ _ _ _
  · rfl
/-- ostiary/ostiaryref8.pad -/
def fn24 : Fun := ⟨2,
  (.seq (.reg [⟨(some 4), none, (.p .mv), [(.c .nils)], none⟩])
  (.keep [0, 1] (.seq (.reg [⟨(some 8), none, (.e (.buildSlice 0 1 [] [])), [], none⟩,
    ⟨(some 9), none, (.p .mv), [(.t 0)], none⟩,
    ⟨(some 10), none, (.e (.append 1 1)), [(.t 8), (.t 9)], none⟩,
    ⟨(some 11), none, (.e (.buildSlice 1 1 [(.int .u8 (.ofNat 0))] [(0, 1)])), [(.c (.int .u8 (.ofNat 128)))], none⟩,
    ⟨(some 12), none, (.e (.append 1 1)), [(.t 10), (.t 11)], none⟩,
    ⟨(some 5), none, (.p .mv), [(.t 12)], none⟩])
  (.keep [0, 1, 5] (.seq (.block 0
   (.loop
    (.keep [0, 1, 5] (.seq (.seq (.reg [⟨(some 13), none, (.p .mv), [(.t 5)], none⟩,
      ⟨(some 14), none, (.p .len), [(.t 13)], none⟩,
      ⟨(some 15), none, (.p .mv), [(.t 1)], none⟩,
      ⟨(some 16), none, (.p (.bin .rem)), [(.t 14), (.t 15)], none⟩,
      ⟨(some 17), none, (.p .mv), [(.t 1)], none⟩,
      ⟨(some 18), none, (.p .mv), [(.t 1)], none⟩,
      ⟨(some 19), none, (.p (.bin .quo)), [(.t 18), (.c (.int .i64 (.ofNat 8)))], none⟩,
      ⟨(some 20), none, (.p (.bin .sub)), [(.t 17), (.t 19)], none⟩,
      ⟨(some 21), none, (.p (.bin .neq)), [(.t 16), (.t 20)], none⟩])
    (.keep [0, 1, 5, 21] (.cond (.t 21)
     .skip
     (.keep [0, 1, 5] (.exit 0)))))
    (.keep [0, 1, 5] (.block 1
     (.reg [⟨(some 22), none, (.p .mv), [(.t 5)], none⟩,
       ⟨(some 23), none, (.e (.buildSlice 1 1 [(.int .u8 (.ofNat 0))] [(0, 1)])), [(.c (.int .u8 (.ofNat 0)))], none⟩,
       ⟨(some 24), none, (.e (.append 1 1)), [(.t 22), (.t 23)], none⟩,
       ⟨(some 5), none, (.p .mv), [(.t 24)], none⟩])))))))
  (.keep [0, 1, 5] (.seq (.seq (.reg [⟨(some 25), none, (.p .mv), [(.t 1)], none⟩,
    ⟨(some 26), none, (.p (.bin .quo)), [(.t 25), (.c (.int .i64 (.ofNat 8)))], none⟩,
    ⟨(some 27), none, (.p (.bin .sub)), [(.t 26), (.c (.int .i64 (.ofNat 1)))], none⟩,
    ⟨(some 6), none, (.p .mv), [(.t 27)], none⟩])
  (.keep [0, 5, 6] (.block 2
   (.loop
    (.keep [0, 5, 6] (.seq (.seq (.reg [⟨(some 28), none, (.p .mv), [(.t 6)], none⟩,
      ⟨(some 29), none, (.p (.bin .geq)), [(.t 28), (.c (.int .i64 (.ofNat 0)))], none⟩])
    (.keep [0, 5, 6, 29] (.cond (.t 29)
     .skip
     (.keep [5] (.exit 2)))))
    (.keep [0, 5, 6] (.seq (.block 3
     (.seq (.reg [⟨(some 7), none, (.p .mv), [(.c (.int .u64 (.ofNat 0)))], none⟩])
     (.keep [0, 5, 6, 7] (.seq (.seq (.reg [⟨(some 32), none, (.p .mv), [(.t 6)], none⟩,
       ⟨(some 33), none, (.p (.bin .lss)), [(.t 32), (.c (.int .i64 (.ofNat 8)))], none⟩])
     (.keep [0, 5, 6, 7, 33] (.cond (.t 33)
      (.reg [⟨(some 34), none, (.p .mv), [(.t 0)], none⟩,
        ⟨(some 35), none, (.p .len), [(.t 34)], none⟩,
        ⟨(some 36), none, (.p (.toInt .u64)), [(.t 35)], none⟩,
        ⟨(some 37), none, (.p (.bin .mul)), [(.t 36), (.c (.int .u64 (.ofNat 8)))], none⟩,
        ⟨(some 38), none, (.p .mv), [(.t 6)], none⟩,
        ⟨(some 39), none, (.p (.bin .mul)), [(.c (.int .i64 (.ofNat 8))), (.t 38)], none⟩,
        ⟨(some 40), none, (.p (.toInt .u64)), [(.t 39)], none⟩,
        ⟨(some 41), none, (.p (.bin .shr)), [(.t 37), (.t 40)], none⟩,
        ⟨(some 7), none, (.p .mv), [(.t 41)], none⟩])
      .skip)))
     (.keep [0, 5, 6, 7] (.reg [⟨(some 42), none, (.p .mv), [(.t 5)], none⟩,
       ⟨(some 43), none, (.p .mv), [(.t 7)], none⟩,
       ⟨(some 44), none, (.p (.toInt .u8)), [(.t 43)], none⟩,
       ⟨(some 45), none, (.e (.buildSlice 1 1 [(.int .u8 (.ofNat 0))] [(0, 1)])), [(.t 44)], none⟩,
       ⟨(some 46), none, (.e (.append 1 1)), [(.t 42), (.t 45)], none⟩,
       ⟨(some 5), none, (.p .mv), [(.t 46)], none⟩]))))))
    (.keep [0, 5, 6] (.reg [⟨(some 30), none, (.p .mv), [(.t 6)], none⟩,
      ⟨(some 31), none, (.p (.bin .sub)), [(.t 30), (.c (.int .i64 (.ofNat 1)))], none⟩,
      ⟨(some 6), none, (.p .mv), [(.t 31)], none⟩]))))))))))
  (.keep [5] (.seq (.reg [⟨(some 47), none, (.p .mv), [(.t 5)], none⟩,
    ⟨(some 4), none, (.p .mv), [(.t 47)], none⟩])
  (.keep [4] (.keep [4] .ret))))))))))),
  [(.t 4)]⟩
def s24_j1 (call : CallK) (N : Nat) (q : KV) (st : St) (τ : Tape) : Ans :=
  match st with
  | ⟨fr, H⟩ =>
  getK fr 5 fun t5 =>
  q t5 H τ
def s24_j3 (call : CallK) (N : Nat) (k : KC) (st : St) (τ : Tape) : Ans :=
  match st with
  | ⟨fr, H⟩ =>
  getK fr 0 fun t0 =>
  getK fr 5 fun t5 =>
  getK fr 6 fun t6 =>
  binK .sub t6 (.int .i64 (.ofNat 1)) fun v16 =>
  k .normal ⟨(T.set (T.set (T.set (T.set (T.set (T.set .leaf 0 t0) 5 t5) 6 t6) 30 t6) 31 v16) 6 v16), H⟩ τ
def s24_j4 (call : CallK) (N : Nat) (k : KC) (st : St) (τ : Tape) : Ans :=
  match st with
  | ⟨fr, H⟩ =>
  getK fr 0 fun t0 =>
  getK fr 5 fun t5 =>
  getK fr 6 fun t6 =>
  getK fr 7 fun t7 =>
  toIntK .u8 t7 fun v17 =>
  effK (eBuildSlice 1 1 [(.int .u8 (.ofNat 0))] [(0, 1)] [v17] H τ) fun v18 H19 τ20 =>
  effK (eAppend 1 1 [t5, v18] H19 τ20) fun v21 H22 τ23 =>
  s24_j3 call N k ⟨(T.set (T.set (T.set (T.set (T.set (T.set (T.set (T.set (T.set (T.set .leaf 0 t0) 5 t5) 6 t6) 7 t7) 42 t5) 43 t7) 44 v17) 45 v18) 46 v21) 5 v21), H22⟩ τ23
def s24_l2 (call : CallK) (N : Nat) (st : St) (τ : Tape) (k : KC) : Ans :=
  match st with
  | ⟨fr, H⟩ =>
  getK fr 0 fun t0 =>
  getK fr 5 fun t5 =>
  getK fr 6 fun t6 =>
  binK .geq t6 (.int .i64 (.ofNat 0)) fun v14 =>
  condK v14
    (binK .lss t6 (.int .i64 (.ofNat 8)) fun v15 =>
  condK v15
    (someK (pLen [t0]) fun v24 =>
  toIntK .u64 v24 fun v25 =>
  binK .mul v25 (.int .u64 (.ofNat 8)) fun v26 =>
  binK .mul (.int .i64 (.ofNat 8)) t6 fun v27 =>
  toIntK .u64 v27 fun v28 =>
  binK .shr v26 v28 fun v29 =>
  s24_j4 call N k ⟨(T.set (T.set (T.set (T.set (T.set (T.set (T.set (T.set (T.set (T.set (T.set (T.set (T.set (T.set .leaf 0 t0) 5 t5) 6 t6) 7 (.int .u64 (.ofNat 0))) 33 v15) 34 t0) 35 v24) 36 v25) 37 v26) 38 t6) 39 v27) 40 v28) 41 v29) 7 v29), H⟩ τ)
    (s24_j4 call N k ⟨(T.set (T.set (T.set (T.set (T.set .leaf 0 t0) 5 t5) 6 t6) 7 (.int .u64 (.ofNat 0))) 33 v15), H⟩ τ))
    (k (.exit 2) ⟨(T.set .leaf 5 t5), H⟩ τ)
def s24_j0 (call : CallK) (N : Nat) (q : KV) (st : St) (τ : Tape) : Ans :=
  match st with
  | ⟨fr, H⟩ =>
  getK fr 0 fun t0 =>
  getK fr 1 fun t1 =>
  getK fr 5 fun t5 =>
  binK .quo t1 (.int .i64 (.ofNat 8)) fun v12 =>
  binK .sub v12 (.int .i64 (.ofNat 1)) fun v13 =>
  loopK (s24_l2 call N) N ⟨(T.set (T.set (T.set .leaf 0 t0) 5 t5) 6 v13), H⟩ τ (blockK 2 (seqK (s24_j1 call N q) (endK [(.t 4)] q)))
def s24_l5 (call : CallK) (N : Nat) (st : St) (τ : Tape) (k : KC) : Ans :=
  match st with
  | ⟨fr, H⟩ =>
  getK fr 0 fun t0 =>
  getK fr 1 fun t1 =>
  getK fr 5 fun t5 =>
  someK (pLen [t5]) fun v30 =>
  binK .rem v30 t1 fun v31 =>
  binK .quo t1 (.int .i64 (.ofNat 8)) fun v32 =>
  binK .sub t1 v32 fun v33 =>
  binK .neq v31 v33 fun v34 =>
  condK v34
    (effK (eBuildSlice 1 1 [(.int .u8 (.ofNat 0))] [(0, 1)] [(.int .u8 (.ofNat 0))] H τ) fun v35 H36 τ37 =>
  effK (eAppend 1 1 [t5, v35] H36 τ37) fun v38 H39 τ40 =>
  k .normal ⟨(T.set (T.set (T.set (T.set (T.set (T.set (T.set .leaf 0 t0) 1 t1) 5 t5) 22 t5) 23 v35) 24 v38) 5 v38), H39⟩ τ40)
    (k (.exit 0) ⟨(T.set (T.set (T.set .leaf 0 t0) 1 t1) 5 t5), H⟩ τ)
def s24 (call : CallK) (N : Nat) (a0 a1 : V) (H : Heap) (τ : Tape) (q : KV) : Ans :=
  effK (eBuildSlice 0 1 [] [] [] H τ) fun v0 H1 τ2 =>
  effK (eAppend 1 1 [v0, a0] H1 τ2) fun v3 H4 τ5 =>
  effK (eBuildSlice 1 1 [(.int .u8 (.ofNat 0))] [(0, 1)] [(.int .u8 (.ofNat 128))] H4 τ5) fun v6 H7 τ8 =>
  effK (eAppend 1 1 [v3, v6] H7 τ8) fun v9 H10 τ11 =>
  loopK (s24_l5 call N) N ⟨(T.set (T.set (T.set .leaf 0 a0) 1 a1) 5 v9), H10⟩ τ11 (blockK 0 (seqK (s24_j0 call N q) (endK [(.t 4)] q)))
theorem s24_eq (call : CallK) (N : Nat) (a0 a1 : V) (H : Heap) (τ : Tape) (q : KV) : s24 call N a0 a1 H τ q = funK call N fn24 [a0, a1] H τ q := by kernel_rfl
def e24 (call : CallK) (N : Nat) (vs : List V) (H : Heap) (τ : Tape) (q : KV) : Ans := match vs with | [a0, a1] => s24 call N a0 a1 H τ q | _ => none
theorem e24_ok : EntOk fn24 e24 := by
  intro call N vs H τ q r h
  unfold e24 at h
  split at h
  · rw [s24_eq] at h; exact h
  · cases h
theorem e24_nat : EntNat e24 := by
  intro c hn N vs H τ q
  unfold e24
  split
  · rw [s24_eq, s24_eq]; exact funK_ent hn _ _ _ _ _ _
  · rfl
end Go.Am.AmTrydDig
