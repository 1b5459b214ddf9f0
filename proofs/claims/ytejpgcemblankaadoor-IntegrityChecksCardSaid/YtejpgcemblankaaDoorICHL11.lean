/- The abstract machine, printed functions of the program, and what they are shown to be. -/
import Derived.Test.YtejpgcemblankaaDoorICHL10
set_option linter.unusedSimpArgs false
set_option linter.unusedVariables false
set_option linter.unusedSectionVars false
set_option maxRecDepth 100000
namespace Go.Am.X
theorem tabs_startG {l ents:List (Option (List V))} (h:l=zEl):inH (start (l++ents)) 0 zEl=true:=by
 subst h
 refine inH_mk zEl 0 zQK fun j cs hj=>?_
 rw [Nat.zero_add]
 exact zPn (by rw [List.getElem?_append_left (List.getElem?_eq_some_iff.1 hj).1];exact hj)
theorem known_G {c:zD} {f:Nat} (h:∀ vs H τ q,c f vs H τ q=effK (tabsP vs H τ) q):∀ H,inH H 0 zEl=true→∀ τ q,c f [] H τ q=q (.bool true) H τ:=fun H hin τ q=>by
 rw [h]
 show effK (zMj zEl [] H τ) q=_
 simp only [zMj,hin,cond_true]
 rfl
def ChecksR (vs:List V) (H:Heap) (o:Out):Prop:=(∃ (s:Bs) (v:V) (bs:List Nat),vs=[.str s,v]∧(∀ b ∈ bs,b < 256)∧Rd H 1 v bs.length (ws .u8 bs)∧Src H v∧Roomy v∧inH H 0 zEl=true)∧o=.val (.bool true)
noncomputable abbrev zu:List Row:=[Row.fn zEu zAs zC6,Row.fn zK6 zH4 zMr,Row.fn zFO zDJ zG3,Row.prim zAr (outP ParR),Row.prim zEB (outP ParR),Row.prim zAE (outP StrR),Row.prim zBO (outP StrR),Row.fn zJk zEC zJh,Row.prim zBg (outP HolR),
 Row.fn zMs zIF zMl,Row.fn zKK zFd zJ8,Row.fn zFV zEn zI7,Row.fn zGc zEY zIZ,Row.fn zIK zDn zIM,Row.fn zGF zCR zGD,Row.fn zMo zID zMt,Row.fn zE2 zBZ zE1,
 Row.fn zJO zGm zLF,Row.fn zKO zFS zJ9,Row.fn zFK zFe zJ6,Row.fn zCd zDF zHG,Row.fn zBP zCS zGG,Row.fn zA3 zDG zHc,Row.prim zIR tabsP]
theorem rows_Checks:zLr PG zu :=
 .fn zHA zFz (.fn zP3 zOH (.fn zLm zKF (.prim zKx (.prim p_ref9_Parse (.prim zIt (.prim zPL (.fn zMO zKX (.prim zOq
 (.fn zPz zN1 (.fn zOQ zMK (.fn zNQ zLp (.fn zLI zJa (.fn zMR zKh (.fn zKf zJR (.fn zQE zOJ (.fn zJS zIe
 (.fn zPH zNJ (.fn zOO zMP (.fn zOV zMB (.fn zLi zKC (.fn zKw zJU (.fn zLj zKG (.prim zIw (.nil _))))))))))))))))))))))))
section
variable {N:Nat} (hN:9223372036854775808 < N)
include hN
theorem ck_cut (d:Nat):Cut31 (CR zu N (d+1)):=fun bits x H hw τ=>zNT (CR zu N d) N bits x H hw τ
theorem ck_turn (d:Nat):Turn38 (CR zu N (d+2)):=fun bits x n hn hb H hw τ=>zM2 (CR zu N (d+1)) N (ck_cut hN d) bits x n hn hb H hw τ
theorem ck_mix (d:Nat):Mix32 (CR zu N (d+3)):=fun bits x a b e s ha hb he h64 H hw τ=>zNb (CR zu N (d+2)) N (ck_turn hN d) bits x a b e s ha hb he h64 H hw τ
theorem ck_block (d:Nat):zRt (CR zu N (d+4)):=fun bits t K L v bs hb hK hL hlen h16 H hw hbt hRd τ=>zLz (CR zu N (d+3)) N (by omega) (ck_mix hN d) (ck_cut hN (d+2)) bits hb t K L hK hL v bs hlen h16 H hw hbt hRd τ
theorem ck_pad (d:Nat):Pad24 (CR zu N (d+1)):=fun size v bs hsz hlen H hw hRd hsr τ=>zQQ (CR zu N d) N (by omega) size hsz v bs hlen H hw hRd hsr τ
theorem ck_sum (d:Nat):TSumOk (CR zu N (d+5)):=by
 intro bits hb t v bs hbs hlen H hw hbt hRd hsr τ
 rw [← sums_eq hb bs hbs]
 exact zM4 (CR zu N (d+4)) N (by omega) (ck_block hN d) (ck_pad hN (d+3)) bits hb t zBW tableP_len v bs hlen H hw hbt hRd hsr τ
theorem ck_times (d:Nat):Times37 (CR zu N (d+1)):=fun A B M n hA hB hMn hn H hw τ=>zPY (CR zu N d) N (by omega) A B hA hB M n hMn hn H hw τ
theorem ck_below (d:Nat):Below30 (CR zu N (d+2)):=fun x p cube hx H hw τ=>zPV (CR zu N (d+1)) N (by omega) (ck_times hN d) x hx p cube H hw τ
theorem ck_root (d:Nat):Root23 (CR zu N (d+3)):=fun p cube H hw τ=>zPx (CR zu N (d+2)) N (by omega) (ck_below hN d) p cube H hw τ
theorem ck_new (d:Nat):RNewOk (CR zu N (d+4)):=fun H hw τ=>zQn (CR zu N (d+3)) N (by omega) (ck_root hN d) H hw τ
theorem ck_b64 (d:Nat):B64Ok (CR zu N (d+2)) zFV:=fun s hs H hw τ=>zOu (CR zu N (d+1)) (N:=N) (by omega) (fun n H τ q=>zLk (CR zu N d) N n H τ q) (fun x H τ q=>zOE (CR zu N d) (N:=N) (by omega) x H τ q) s hs H hw τ
theorem ck_holds (d:Nat):RHolOk (CR zu N (d+6)):=fun s hs t v bs hbb hbl H hw hbt hr hsr τ=>zPN (CR zu N (d+5)) (N:=N) (by omega) (k_Par fun _ _ _ _=>rfl) (k_Str fun _ _ _ _=>rfl) (ck_b64 hN (d+3)) (ck_sum hN d) s hs t v bs hbb hbl H hw hbt hr hsr τ
end
theorem zOb:∀ base w0,zFJ PG base w0 zEu (outP ChecksR):=by
 obtain ⟨N,hN⟩:=zQ4
 refine zIC zJJ rows_Checks N 7 _ ?_
 rintro vs H o hw hvs ⟨⟨s,v,bs,rfl,hbb,hr,hsr,hro,ht⟩,rfl⟩ τ
 obtain ⟨H',τ',g,k⟩:=zJx (CR zu N 6) N (fun s m H τ q=>s14_eval (CR zu N 5) N s m H τ q) (fun v n k cs hk hkk H hR hRd=>zNW (CR zu N 5) N v n k cs hk hkk H hR hRd)
  (k_Par fun _ _ _ _=>rfl) (k_Par fun _ _ _ _=>rfl) (k_Str fun _ _ _ _=>rfl) (k_Str fun _ _ _ _=>rfl) (fun its hil a b H ha hb τ q=>zPv (CR zu N 5) (N:=N) (by omega) its hil a b H ha hb τ q) (k_Holds fun _ _ _ _=>rfl) (ck_new hN 2) (ck_holds hN 0) (known_G fun _ _ _ _=>rfl) s v bs hbb hro H hw ht hr hsr τ
 exact ⟨_,H',τ',k retK,g,rfl,trivial⟩
theorem checks_fun:Fun1 ChecksR:=fun vs H o o' k k'=>k.2.trans k'.2.symm
theorem zNs {s:Bs} {v:V} {H:Heap} {bs:List Nat} (hbb:∀ b ∈ bs,b < 256) (hr:Rd H 1 v bs.length (ws .u8 bs)∧Src H v) (hro:Roomy v) (ht:inH H 0 zEl=true) (τ:Tape):outP ChecksR [.str s,v] H τ=some (.bool true,H,τ) :=
 zRb checks_fun ⟨⟨s,v,bs,rfl,hbb,hr.1,hr.2,hro,ht⟩,rfl⟩ τ
end Go.Am.X

