/- The abstract machine, printed functions of the program, and what they are shown to be. -/
import Derived.Test.YtnijdmamheiebaaDoorCLSL9
import Derived.Test.YtnijdmamheiebaaDoorCLSM4
set_option linter.unusedSimpArgs false
set_option linter.unusedVariables false
set_option linter.unusedSectionVars false
set_option maxRecDepth 100000
namespace Go.Am.X
theorem zRN (c:zG)(N:Nat)(hU:UrlOk c)(hO:OfOk c)(s:Bs){H:Heap}(hw:WF H)(Z:Tape) :
  ∃ (o:OR) (H':Heap) (Z':Tape),OGd o/\Gr H.size H H'/\∀ q,zM0 c N (.str s) H Z q=q (.agg o.cs) H' Z':=by
 have a1:zBV [(.str []),(.str []),(.int .i64 (.ofNat 0)),(.bool false)] [] H Z=some (.ptr H.size 0,H.new (OR.mk [] [] 0 false).cs 4 true,Z):=rfl
 have g1:=Gr.new hw (OR.mk [] [] 0 false).cs 4 true
 have x1:Bx (H.new (OR.mk [] [] 0 false).cs 4 true) H.size (OR.mk [] [] 0 false).cs:=Bx.new H _ _ _ nl
 have z1:(H.new (OR.mk [] [] 0 false).cs 4 true).size=H.size+1:=rfl
 generalize H.new (OR.mk [] [] 0 false).cs 4 true=H1 at a1 g1 x1 z1
 obtain⟨e,u,H2,Z2,b1,b2,_,b3⟩:=hU s g1.wf Z
 have z2:=b2.size
 have a2:zBV [(.str []),(.str []),(.str []),(.str []),(.bool false),(.int .i64 (.ofNat 0)),(.bool false),.nils,(.str []),(.str []),(.bool false),(.bool false)] [] H2 Z2=some (.ptr H2.size 0,H2.new u00.cs 12 true,Z2):=rfl
 have g3:=Gr.new b2.wf u00.cs 12 true
 have y3:Bx (H2.new u00.cs 12 true) H2.size u00.cs:=Bx.new H2 _ _ _ nl
 have z3:(H2.new u00.cs 12 true).size=H2.size+1:=rfl
 generalize H2.new u00.cs 12 true=H3 at a2 g3 y3 z3
 obtain⟨H4,c1,c2,c3⟩:=ur_st (u:=u) y3 g3.wf b1.pv.scal Z2
 have z4:=c3.size
 have hq:Chg (fun j=>j=H2.size) H2 H4:=g3.chg.trans c3 fun _ _ h=>h
 have hu4:=b1.chg b2.wf hq fun i hi _ h=>by omega
 obtain⟨o,H5,Z5,d1,d2,d3⟩:=hO u c3.wf hu4 (by omega) Z2
 have z5:=d2.size
 have x5:=((x1.gr b2 (by omega)).chg b2.wf hq (by omega)).gr d2 (by omega)
 obtain⟨H6,n1,n2,n3⟩:=or_st x5 rfl d2.wf o Z5
 refine⟨o,H6,Z5,d1,(((g1.trans b2 (by omega)).trans (hq.gr (B:=H.size) (by omega) fun i hi h=>by omega) nl).trans d2 (by omega)).trans (n3.gr (B:=H.size) (by omega) fun i hi h=>by omega) nl,fun q=>?_⟩
 simp only[zM0,a1,zN,b3,ext0,ext1,zB,a2,c1,zOz c2,d3,n1]
 rw[res_cO (by simp[T.get_set]) (zJ4 n2)]
 simp only[zB]
noncomputable abbrev zH:List Row:=[Row.fn zHY zBs zEx,Row.fn zBl zCR zG1,Row.fn zEL zBf zFe,Row.fn zD6 zFJ zKn,Row.fn zEW zBh zF7,Row.fn zOf zFK zMH,Row.fn zEt zBC zEq,Row.fn zCP zAd zCI,Row.fn zB8 zAV zB7,Row.prim zAv (outP (RH zQb FewHG)),Row.prim zAx (outP (RH GetPre GetG)),Row.prim zDI (outP TokR),Row.prim zBA (outP LowR),Row.prim zFh zKm,Row.fn zBe zBa zFP,Row.fn zHo zBo zFk,Row.fn zDW zEE zKJ,Row.fn zO2 zFQ zMd,Row.fn zHv zBm zFo,Row.fn zz zBJ zEm,Row.fn zDS zAw zDT,Row.fn zA2 zED zJ9,Row.fn zK9 zC3 zIO,Row.fn zAg zBd zFf,Row.fn zH0 zDu zKA,Row.fn zFd zBi zF4,Row.fn zDi zA4 zDl,Row.fn zHl zBj zFV,Row.fn zIe zC1 zIM,Row.fn zCk zBD zEi,Row.fn zHE zCb zGz,Row.fn zHu zBc zFz,Row.fn zFg zA3 zEC,Row.fn zEX zBp zFp,Row.fn zMz zD9 zJ0,Row.fn zJB zCT zGw,Row.fn zI8 zCJ zHA,Row.fn zGd zDt zKE,Row.fn zBg zBE zEk,Row.fn zJH zCM zG4,Row.fn zCW zCV zG2,Row.fn zKo zC2 zH9,Row.fn zHs zBn zF8,Row.fn zGs zBF zEj,Row.fn zK8 zCv zIP,Row.fn zE0 zAu zDP,Row.fn zGP zCy zIU,Row.fn zG3 zCN zG6,Row.fn zIo zC4 zIJ,Row.fn zJ6 zDv zJy,Row.fn zKv zC0 zIb,Row.fn zJA zCc zG7,Row.fn zHC zCa zHI,Row.fn zDV zDC zH2,Row.fn zM6 zDy zKC,Row.fn zKh zCz zIm,Row.fn zIG zFH zMZ,Row.fn zH1 zDr zKB,Row.fn zF6 zA5 zDm,Row.fn zJD zCU zHD,Row.fn zDA zAX zB1,Row.fn zC7 zAT zBt,Row.fn zDN zAW zB5,Row.fn zCB zAH zA8,Row.prim zBI (outP LowR),Row.prim zCh (outP PartR),Row.prim zFR (outP IntR)]
theorem zRo:zLh PG zH :=
 .fn zJp zIL (.fn zKZ zIX (.fn zJR zHL (.fn zPo zNT (.fn zJc zHS (.fn zPN zMb (.fn zIN zGh (.fn zFE zDk (.fn zEg zDc (.prim zPQ (.prim zSV (.prim zR8 (.prim zRu (.prim zG0 (.fn zHh zFx (.fn zJO zHO (.fn zNs zKu (.fn zPd zMC (.fn zJg zHP (.fn zIZ zGf (.fn zGQ zFB (.fn zN0 zK7 (.fn zMW zJY (.fn zJK zHU (.fn zN7 zKs (.fn zJV zHZ (.fn zHQ zFl (.fn zJe zHK (.fn zML zJf (.fn zIa zGb (.fn zKz zH7 (.fn zJd zHR (.fn zHW zFn (.fn zJi zHV (.fn zNp zKe (.fn zKW zIE (.fn zKl zIc (.fn zOD zKV (.fn zIC zGe (.fn zK2 zIW (.fn zKj zIh (.fn zL2 zJh (.fn zJS zHN (.fn zIF zGS (.fn zL6 zJJ (.fn zGc zE6 (.fn zMU zJk (.fn zKa zIT (.fn zMo zJN (.fn zN2 zKy (.fn zMA zJM (.fn zKk zIV (.fn zKi zH8 (.fn zKT zHr (.fn zNz zKf (.fn zMl zJj (.fn zPE zMg (.fn zNq zLA (.fn zHa zF9 (.fn zK6 zIg (.fn zEb zDb (.fn zEf zDe (.fn zEe zDd (.fn zDE zCg (.prim p_ref1_Lower (.prim p_ref1_Part (.prim p_ref1_Int (.nil _)))))))))))))))))))))))))))))))))))))))))))))))))))))))))))))))))))
section
variable {N:Nat} (hN:9223372036854775808<N)
include hN
theorem zN1 (d:Nat):zQg (CR zH N (d+1)):=k_ref1_Lower (c:=CR zH N (d+1)) fun _ _ _ _=>rfl
theorem zO7 (d:Nat):PartOk (CR zH N (d+1)):=k_ref1_Part (c:=CR zH N (d+1)) fun _ _ _ _=>rfl
theorem cl_r1_Int (d:Nat):zQB (CR zH N (d+1)):=k_ref1_Int (c:=CR zH N (d+1)) fun _ _ _ _=>rfl
theorem zN9 (d:Nat):zRg (CR zH N (d+1)):=by
 intros
 apply zLe (CR zH N d)
 all_goals first | assumption | omega
theorem cl_r1_Letter (d:Nat):LetOk1 (CR zH N (d+1)):=by
 intros
 apply zPY (CR zH N d)
 all_goals first | assumption | omega
theorem zOo (d:Nat):zQX (CR zH N (d+2)):=by
 intros
 apply zQ8 (CR zH N (d+1))
 all_goals first | assumption | omega | exact zN9 hN _
theorem cl_r1_In (d:Nat):InOk (CR zH N (d+1)):=by
 intros
 apply zSB (CR zH N d)
 all_goals first | assumption | omega
theorem cl_r1_Escape (d:Nat):EscOk (CR zH N (d+1)):=by
 intros
 apply zO9 (CR zH N d)
 all_goals first | assumption | omega
theorem zEU (d:Nat):zSH (CR zH N (d+2)):=by
 intros
 apply zOp (CR zH N (d+1))
 all_goals first | assumption | omega | exact cl_r1_In hN _ | exact cl_r1_Escape hN _
theorem zQr (d:Nat):UnpOk (CR zH N (d+3)):=by
 intros
 apply zNF (CR zH N (d+2))
 all_goals first | assumption | omega | exact zOo hN _
theorem zMG (d:Nat):zQC (CR zH N (d+1)):=by
 intros
 apply zRT (CR zH N d)
 all_goals first | assumption | omega
theorem cl_r1_Ends (d:Nat):EndOk1 (CR zH N (d+1)):=by
 intros
 apply zQQ (CR zH N d)
 all_goals first | assumption | omega
theorem zG8 (d:Nat):zPr (CR zH N (d+1)):=by
 intros
 apply zPH (CR zH N d)
 all_goals first | assumption | omega
theorem cl_r2_bad (d:Nat):BadOk (CR zH N (d+1)):=by
 intros
 apply zRK (CR zH N d)
 all_goals first | assumption | omega
theorem zPp (d:Nat):LblOk (CR zH N (d+2)):=by
 intros
 apply zPG (CR zH N (d+1))
 all_goals first | assumption | omega | exact zMG hN _
theorem zQ3 (d:Nat):NumbOk (CR zH N (d+3)):=by
 intros
 apply zNu (CR zH N (d+2))
 all_goals first | assumption | omega | exact zPp hN _ | exact zG8 hN _ | exact zN9 hN _ | exact zOo hN _
theorem cl_r2_number (d:Nat):NumOk2 (CR zH N (d+3)):=by
 intros
 apply zPL (CR zH N (d+2))
 all_goals first | assumption | omega | exact zG8 hN _ | exact zOo hN _
theorem cl_r2_Four (d:Nat):FourOk (CR zH N (d+4)):=by
 intros
 apply zQZ (CR zH N (d+3))
 all_goals first | assumption | omega | exact zPp hN _ | exact cl_r2_number hN _
theorem zSa (d:Nat):NmlOk (CR zH N (d+1)):=by
 intros
 apply zOu (CR zH N d)
 all_goals first | assumption | omega
theorem cl_r2_Text4 (d:Nat):Tx4Ok (CR zH N (d+2)):=by
 intros
 apply zPv (CR zH N (d+1))
 all_goals first | assumption | omega | exact zSa hN _
theorem cl_r2_digits (d:Nat):D16Ok (CR zH N (d+1)):=by
 intros
 apply zPO (CR zH N d)
 all_goals first | assumption | omega
theorem zRR (d:Nat):DecOk (CR zH N (d+2)):=by
 intros
 apply zNr (CR zH N (d+1))
 all_goals first | assumption | omega | exact zMG hN _ | exact cl_r1_Int hN _
theorem cl_r2_pieces (d:Nat):PcsOk (CR zH N (d+3)):=by
 intros
 apply zPX (CR zH N (d+2))
 all_goals first | assumption | omega | exact zOo hN _ | exact zMG hN _ | exact zRR hN _
theorem cl_r2_Six (d:Nat):SixOk (CR zH N (d+4)):=by
 intros
 apply zRC (CR zH N (d+3))
 all_goals first | assumption | omega | exact cl_r2_pieces hN _
theorem cl_r2_Text6 (d:Nat):Tx6Ok (CR zH N (d+2)):=by
 intros
 apply zPx (CR zH N (d+1))
 all_goals first | assumption | omega | exact cl_r2_digits hN _
theorem cl_r2_Parse (d:Nat):HostOk (CR zH N (d+5)):=by
 intros
 apply zPz (CR zH N (d+4))
 all_goals first | assumption | omega | exact zG8 hN _ | exact cl_r1_Ends hN _ | exact cl_r2_Six hN _ | exact cl_r2_Text6 hN _ | exact cl_r2_bad hN _ | exact zEU hN _ | exact zQr hN _ | exact zN1 hN _ | exact zMG hN _ | exact zQ3 hN _ | exact cl_r2_Four hN _ | exact cl_r2_Text4 hN _
theorem zOw (d:Nat):zQK (CR zH N (d+1)):=by
 intros
 apply zRA (CR zH N d)
 all_goals first | assumption | omega
theorem zEH (d:Nat):zRP (CR zH N (d+2)):=by
 intros
 apply zOh (CR zH N (d+1))
 all_goals first | assumption | omega | exact zOw hN _
theorem cl_r3_clean (d:Nat):CleanOk (CR zH N (d+1)):=by
 intros
 apply zP2 (CR zH N d)
 all_goals first | assumption | omega
theorem zN8 (d:Nat):AhdOk (CR zH N (d+1)):=by
 intros
 apply zPw (CR zH N d)
 all_goals first | assumption | omega
theorem cl_r3_over (d:Nat):OverOk (CR zH N (d+1)):=by
 intros
 apply zQw (CR zH N d)
 all_goals first | assumption | omega
theorem cl_r3_scheme (d:Nat):SchOk (CR zH N (d+2)):=by
 intros
 apply zPT (CR zH N (d+1))
 all_goals first | assumption | omega | exact zN1 hN _ | exact cl_r1_Letter hN _ | exact zN9 hN _
theorem zSI (d:Nat):SlaOk (CR zH N (d+1)):=by
 intros
 apply zOb (CR zH N d)
 all_goals first | assumption | omega
theorem cl_r3_dots (d:Nat):DotOk (CR zH N (d+2)):=by
 intros
 apply zQN (CR zH N (d+1))
 all_goals first | assumption | omega | exact zN1 hN _ | exact zG8 hN _
theorem zQ0 (d:Nat):AutOk (CR zH N (d+6)):=by
 intros
 apply zNA (CR zH N (d+5))
 all_goals first | assumption | omega | exact zEH hN _ | exact cl_r2_Parse hN _ | exact cl_r1_Int hN _ | exact zOw hN _ | exact zO7 hN _ | exact zEU hN _
theorem cl_r3_path (d:Nat):PthOk (CR zH N (d+3)):=by
 intros
 apply zQW (CR zH N (d+2))
 all_goals first | assumption | omega | exact zEU hN _ | exact cl_r3_dots hN _ | exact zMG hN _
theorem zQU (d:Nat):QueOk (CR zH N (d+3)):=by
 intros
 apply zP6 (CR zH N (d+2))
 all_goals first | assumption | omega | exact zO7 hN _ | exact zEH hN _ | exact zEU hN _
theorem zRa (d:Nat):RstOk (CR zH N (d+4)):=by
 intros
 apply zQz (CR zH N (d+3))
 all_goals first | assumption | omega | exact zN8 hN _ | exact zQU hN _ | exact zEH hN _ | exact cl_r3_path hN _
theorem cl_r3_far (d:Nat):FarOk (CR zH N (d+7)):=by
 intros
 apply zQ9 (CR zH N (d+6))
 all_goals first | assumption | omega | exact zN8 hN _ | exact zQ0 hN _ | exact zRa hN _
theorem cl_r3_full (d:Nat):FulOk (CR zH N (d+8)):=by
 intros
 apply zQR (CR zH N (d+7))
 all_goals first | assumption | omega | exact zEH hN _ | exact zSI hN _ | exact cl_r3_over hN _ | exact cl_r3_far hN _ | exact zG8 hN _ | exact zRa hN _ | exact zN8 hN _ | exact zEU hN _ | exact zQU hN _
theorem cl_r3_split (d:Nat):SplOk (CR zH N (d+3)):=by
 intros
 apply zP0 (CR zH N (d+2))
 all_goals first | assumption | omega | exact zO7 hN _ | exact zEU hN _
theorem zQP (d:Nat):ParOk (CR zH N (d+9)):=by
 intros
 apply zPu (CR zH N (d+8))
 all_goals first | assumption | omega | exact cl_r3_clean hN _ | exact cl_r3_split hN _ | exact cl_r3_scheme hN _ | exact cl_r3_full hN _
theorem zQy (d:Nat):FewOk (CR zH N (d+1)):=by
 intros
 apply zNn (CR zH N d)
 all_goals first | assumption | omega
theorem cl_keep_URL (d:Nat):UrlOk (CR zH N (d+10)):=by
 intros
 apply zRF (CR zH N (d+9))
 all_goals first | assumption | omega | exact zQy hN _ | exact zQP hN _
theorem zRk (d:Nat):PrtOk (CR zH N (d+2)):=fun u hu {H} hw Z=>zQI (CR zH N (d+1)) N (zOw hN _) u hu hw Z
theorem cl_of0 (d:Nat):OfOk0 (CR zH N (d+3)):=fun u {D M H} hw hu hb Z=>zOx (CR zH N (d+2)) N (zEH hN _) (zRk hN _) u hw hu (fun h=>absurd h hb) Z
theorem cl_Of (d:Nat):OfOk (CR zH N (d+10)):=fun u {D M H} hw hu hm Z=>zOx (CR zH N (d+9)) N (zEH hN _) (zRk hN _) u hw hu (fun _=>⟨hm,zQP hN _,cl_of0 hN _⟩) Z
theorem cl_of (d:Nat):LofOk (CR zH N (d+11)) zH1:=fun s {H} hw Z=>zRN (CR zH N (d+10)) N (cl_keep_URL hN _) (cl_Of hN _) s hw Z
theorem cl_c_small (d:Nat):SmlOk (CR zH N (d+1)):=by
 intros
 apply zNy (CR zH N d)
 all_goals first | assumption | omega
theorem zRq (d:Nat):LenOk (CR zH N (d+1)):=by
 intros
 apply zP5 (CR zH N d)
 all_goals first | assumption | omega
theorem zQ6 (d:Nat):LogOk (CR zH N (d+1)):=by
 intros
 apply zKr (CR zH N d)
 all_goals first | assumption | omega
theorem zRH (d:Nat):B2iOk (CR zH N (d+1)):=by
 intros
 apply zK4 (CR zH N d)
 all_goals first | assumption | omega
theorem zRV (d:Nat):NdgOk (CR zH N (d+2)):=by
 intros
 apply zKq (CR zH N (d+1))
 all_goals first | assumption | omega | exact zRq hN _ | exact zQ6 hN _ | exact zRH hN _
theorem zPa (d:Nat):B10Ok (CR zH N (d+1)):=by
 intros
 apply zIq (CR zH N d)
 all_goals first | assumption | omega
theorem cl_fi1 (d:Nat):FmtIOk (CR zH N (d+3)) zB8:=fun n hn {H} hw hp Z=>zK1 (CR zH N (d+2)) N (cl_c_small hN _) (zRV hN _) (zPa hN _) n hn hw hp Z
theorem cl_ito1 (d:Nat):ItoOk (CR zH N (d+4)) zCP:=fun n hn {H} hw hp Z=>zLq (CR zH N (d+3)) N (cl_fi1 hN _) n hn hw hp Z
theorem cl_ito (d:Nat):ItoOk (CR zH N (d+5)) zEt:=fun n hn {H} hw hp Z=>zOr (CR zH N (d+4)) N (cl_ito1 hN _) n hn hw hp Z
theorem cl_uown (d:Nat):UOwnOk (CR zH N (d+1)):=fun s H Z q=>zSY (CR zH N d) N s H Z q
theorem cl_otx (d:Nat):TxtOk (CR zH N (d+6)) zEL:=fun o ho {H} hw hp Z=>zPC (CR zH N (d+5)) N (cl_uown hN _) (cl_ito hN _) o ho hw hp Z
theorem cl_chk (d:Nat):ChkOk (CR zH N (d+7)) zBl:=fun o ho cred {hs} hsm {lv H} hw hp hr Z=>zP1 (CR zH N (d+6)) N (fun _ _ _ _=>rfl) (cl_otx hN _) o ho cred hsm hw hp hr Z
theorem cl_nmlx (d:Nat):NmlXOk (CR zH N (d+1)):=fun n hn H Z q=>zNH (CR zH N d) (N:=N) (by omega) n hn H Z q
theorem cl_rtx (d:Nat):TxtOk (CR zH N (d+2)) zD6:=fun o ho {H} hw hp Z=>zQF (CR zH N (d+1)) N (zOw hN _) (cl_nmlx hN _) o ho hw Z
theorem cl_met (d:Nat):MetOk (CR zH N (d+2)) zEW:=fun s hs H Z q=>zPW (CR zH N (d+1)) N (zRs fun _ _ _ _=>rfl) (zSK fun _ _ _ _=>rfl) s hs H Z q
end
end Go.Am.X

namespace Go.Am.X
def CLessR (vs:List V)(H:Heap)(o:Out):Prop:=(∃ (lv:V) (hs:List Hd) (a b m:Bs),vs=[.str a,.str b,lv,.str m]/\RdH H lv hs/\hs.length<=9223372036854775807/\PowH H)/\o=.val (.bool true)
theorem corsLess_ok:∀ base w0,zDf PG base w0 zHY (outP CLessR):=by
 obtain⟨N,hN⟩:∃ N:Nat,9223372036854775808<N:=⟨9223372036854775809,by decide⟩
 refine zPK zOG zRo N 12 _ ?_
 rintro vs H o hw hvs ⟨⟨lv,hs,a,b,m,rfl,hr,hl,hp⟩,rfl⟩ Z
 obtain⟨H',Z',g,k⟩:=zM8 (CR zH N 11) N (fun _ _ _ _=>rfl) (zQy hN _) (cl_of hN 0) (cl_chk hN 4) (cl_rtx hN 9) (cl_met hN 9) (fun _ _ _=>rfl) a b m hl hw hp hr Z
 exact⟨_,H',Z',k retK,g,rfl,trivial⟩
theorem cless_fun:Fun1 CLessR:=fun vs H o o' k k'=>k.2.trans k'.2.symm
theorem corsLess_in {lv:V}{H:Heap}{hs:List Hd}(hr:RdH H lv hs)(hl:hs.length<=9223372036854775807)(a b m:Bs)(hp:PowH H)(Z:Tape):outP CLessR [.str a,.str b,lv,.str m] H Z=some (.bool true,H,Z) :=
 zR4 cless_fun ⟨⟨lv,hs,a,b,m,rfl,hr,hl,hp⟩,rfl⟩ Z
end Go.Am.X

