/- The abstract machine, printed functions of the program, and what they are shown to be. -/
import Derived.Test.YtejpgcemblankaaDoorIMAL11
import Derived.Test.YtejpgcemblankaaDoorIMAL0
set_option linter.unusedSimpArgs false
set_option linter.unusedVariables false
set_option linter.unusedSectionVars false
set_option maxRecDepth 100000
namespace Go.Am.X
abbrev WithinOk9 (c:zD):Prop:=∀ (n:Int) {h:Nat},h<4611686018427387903->∀ (H:Heap) (Z:Tape),∃ m:Nat,m<=h/\∀ q,c zHs [.int .i64 n,.int .i64 (.ofNat 0),.int .i64 (h:Int)] H Z q=q (.int .i64 (m:Int)) H Z
theorem ofS_len {bits:Nat}{d:Bs}(h:Bit3 bits d)(l:List Nat):(ofS bits d l).length<=300:=by
 have he:=enc64_len (sumT bits l).length (sumT bits l)
 rw[zQv h.is]at he
 have h64:bits / 8<=64:=by rcases h.is with h | h | h <;> rw[h] <;> decide
 have hd:d.length=3:=by rcases h with⟨_,rfl⟩ | ⟨_,rfl⟩ | ⟨_,rfl⟩ <;> rfl
 unfold ofS zSz
 rw[zQv h.is]
 simp;omega
theorem zLQ (c:zD)(N:Nat)(hFB:FewBOk c)(hW:WithinOk9 c)(hM:MakeOk c)(hH:HolOk c)(hNew:RNewOk c)(hRH:RHolOk c)
  (hK:∀ H,inH H 0 zDG=true->∀ Z q,c zJH [] H Z q=q (.bool true) H Z) (v w:V) (la lb:List Nat) (hla:∀ b ∈ la,b<256) (hlb:∀ b ∈ lb,b<256) (hrv:Roomy v) (hrw:Roomy w) (n:Int)
  (H:Heap) (hw:WF H) (ht:inH H 0 zDG=true) (h1:Rd H 1 v la.length (ws .u8 la)) (h2:Src H v) (h3:Rd H 1 w lb.length (ws .u8 lb)) (h4:Src H w) (Z:Tape) :
  ∃ H' Z',Gr H.size H H'/\∀ q,zCA c N v w (.int .i64 n) H Z q=q (.bool true) H' Z':=by
 have few:∀ (v:V) (l:List Nat),(∀ b ∈ l,b<256)->Roomy v->Rd H 1 v l.length (ws .u8 l)->Src H v->∃ (v':V) (l':List Nat),(∀ b ∈ l',b<256)/\l'.length<=500/\Roomy v'/\Rd H 1 v' l'.length (ws .u8 l')/\Src H v'/\∀ Z q,c zEb [v,.int .i64 (.ofNat 500)] H Z q=q v' H Z:=by
  intro v l hl hr hd hs
  obtain⟨v',a1,a2,a3,a4⟩:=hFB v l.length 500 (ws .u8 l) (by omega) (by omega) H hr hd
  have e5:(ws .u8 l).take 500=ws .u8 (l.take 500):=by simp[ws,List.map_take]
  have hl5:min l.length 500=(l.take 500).length:=by rw[List.length_take];omega
  rw[e5,hl5]at a3
  exact⟨v',l.take 500,fun b h=>hl b (List.mem_of_mem_take h),by rw[List.length_take];omega,a1,a3,a2 hs,a4⟩
 obtain⟨v0,ls,b0,l0,ro0,r0,s0,k0⟩:=few v la hla hrv h1 h2
 obtain⟨v3,lo,b3,l3,ro3,r3,s3,k3⟩:=few w lb hlb hrw h3 h4
 have g1:=Gr.new hw [.int .i64 (.ofNat 256),.int .i64 (.ofNat 384),.int .i64 (.ofNat 512)] 3 false
 have cc:=zBp H [.int .i64 (.ofNat 256),.int .i64 (.ofNat 384),.int .i64 (.ofNat 512)] 3 false
 have bb:zL 3 1 [(.int .i64 (.ofNat 0)),(.int .i64 (.ofNat 0)),(.int .i64 (.ofNat 0))] [(0,1),(1,1),(2,1)] [(.int .i64 (.ofNat 256)),(.int .i64 (.ofNat 384)),(.int .i64 (.ofNat 512))] H Z=some (.sl H.size 0 3 3 none 1,H.new [.int .i64 (.ofNat 256),.int .i64 (.ofNat 384),.int .i64 (.ofNat 512)] 3 false,Z):=rfl
 generalize H.new [.int .i64 (.ofNat 256),.int .i64 (.ofNat 384),.int .i64 (.ofNat 512)] 3 false=H1 at g1 cc bb
 obtain⟨m,hm,kw⟩:=hW n (h:=2) (by omega) H1 Z
 have kw':∀ q,c zHs [.int .i64 n,.int .i64 (.ofNat 0),.int .i64 (.ofNat 2)] H1 Z q=q (.int .i64 (m:Int)) H1 Z:=kw
 have pick:∃ (bits:Nat) (d:Bs) (p:V),Bit3 bits d/\256<=bits/\zA3 1 [.sl H.size 0 3 3 none 1,.int .i64 (m:Int)]=some p/\zF [p] H1=some (.int .i64 (bits:Int)):=by
  obtain rfl | rfl | rfl:m=0∨m=1∨m=2:=by omega
  ·exact⟨256,_,.ptr H.size 0,.inl ⟨rfl,rfl⟩,by omega,rfl,zg cc rfl⟩
  ·exact⟨384,_,.ptr H.size 1,.inr (.inl ⟨rfl,rfl⟩),by omega,rfl,zg cc rfl⟩
  ·exact⟨512,_,.ptr H.size 2,.inr (.inr ⟨rfl,rfl⟩),by omega,rfl,zg cc rfl⟩
 obtain⟨bits,d,p,h3b,h256,p1,p2⟩:=pick
 obtain⟨H2,Z2,g2,kM⟩:=hM h3b v0 ls (by omega) ro0 H1 g1.wf (zOc ht g1 hw nl) (r0.gr g1 hw nl) (s0.gr g1 hw nl) Z
 have g12:=g1.trans g2 g1.size
 have h2d:Bit3 256 [50,53,54]:=.inl ⟨rfl,rfl⟩
 obtain⟨H3,Z3,g3,kM2⟩:=hM h2d v3 lo (by omega) ro3 H2 g2.wf (zOc ht g12 hw nl) (r3.gr g12 hw nl) (s3.gr g12 hw nl) Z2
 have g13:=g12.trans g3 g12.size
 have kM2':∀ q,c zDm [.int .i64 (.ofNat 256),v3] H2 Z2 q=q (.tup [.str (ofS 256 [50,53,54] lo),.int .i64 (.ofNat 0)]) H3 Z3:=kM2
 have t3:=zOc ht g13 hw nl
 have rv:=r0.gr g13 hw nl
 have sv:=s0.gr g13 hw nl
 have rw':=r3.gr g13 hw nl
 have sw:=s3.gr g13 hw nl
 have n1:=ofS_len h3b ls
 have n2:=ofS_len h2d lo
 have kH:=fun(s:Bs) (hs:s.length<=100000) q=>hH s hs v0 ls (by omega) H3 rv sv t3 Z3 q
 have m1:=makes1 h3b.sh ls
 have m2:=makes2 h3b.sh ls
 have m3:=makes3 h3b.sh ls
 have m4:=makes4 h3b.sh h2d.sh h256 ls lo (x:=32) (by decide)
 have m5:=makes4 h3b.sh h2d.sh h256 ls lo (x:=9) (by decide)
 have sz:∀ (q:V->Ans) (x:Bs),unK .not (.bool true) q=q (.bool false):=fun q _=>rfl
 generalize hS:ofS bits d ls=S at kM n1 m1 m2 m3 m4 m5
 generalize hT:ofS 256 [50,53,54] lo=T at kM2' n2 m4 m5
 have q1:=kH S (by omega)
 have q2:=kH (S++[63]++[120]) (by simp;omega)
 have q3:=kH (md5x++S++sha1y) (by unfold md5x sha1y;simp;omega)
 have q4:=kH (T++[32]++S) (by simp;omega)
 have q5:=kH (S++[9]++T) (by simp;omega)
 rw[m1]at q1
 rw[m2]at q2
 rw[m3]at q3
 rw[m4.1]at q4
 rw[m5.2]at q5
 have a63:zD6 .add S (bs [63])=some (.str (S++[63])):=zKk (by simp[bs];omega)
 have a120:zD6 .add (S++[63]) (bs [120])=some (.str (S++[63]++[120])):=zKk (by simp[bs];omega)
 have amd:zD6 .add (bs [109,100,53,45,120,32]) S=some (.str (md5x++S)):=zKk (by simp[bs];omega)
 have ash:zD6 .add (md5x++S) (bs [32,115,104,97,49,45,121])=some (.str (md5x++S++sha1y)):=zKk (by simp[bs,md5x];omega)
 have a32:zD6 .add T (bs [32])=some (.str (T++[32])):=zKk (by simp[bs];omega)
 have aTS:zD6 .add (T++[32]) S=some (.str (T++[32]++S)):=zKk (by simp;omega)
 have a9:zD6 .add S (bs [9])=some (.str (S++[9])):=zKk (by simp[bs];omega)
 have aST:zD6 .add (S++[9]) T=some (.str (S++[9]++T)):=zKk (by simp;omega)
 have kO:=fun q=>hH S (by omega) v3 lo (by omega) H3 rw' sw t3 Z3 q
 obtain⟨H4,Z4,b4,g4,k4⟩:=hNew H3 g3.wf Z3
 have g14:=g13.trans g4 g13.size
 obtain⟨H5,Z5,g5,k5⟩:=hRH S (by omega) H3.size v3 lo b3 (by omega) H4 g4.wf b4 (r3.gr g14 hw nl) (s3.gr g14 hw nl) Z4
 have g15:=g14.trans g5 g14.size
 refine⟨H5,Z5,g15,fun q=>?_⟩
 have x0:∀ a b:V,zR 0 [.tup [a,b]]=some a:=fun _ _=>rfl
 have x1:∀ a b:V,zR 1 [.tup [a,b]]=some b:=fun _ _=>rfl
 have ez:(Int.ofNat 0 != Int.ofNat 0)=false:=rfl
 have ee:pEq false .bool [.bool (zJR S lo),.bool (zJR S lo)]=some (.bool true):=by cases zJR S lo <;> rfl
 have kk:=hK H5 (zOc ht g15 hw nl)
 by_cases hm0:m=0
 ·have d1:decide (Int.ofNat 0<(m:Int))=false:=decide_eq_false (by rw[hm0];decide)
  have d2:((m:Int) == Int.ofNat 0)=true:=by rw[hm0];rfl
  simp only[zCA,k0,k3,bb,za,kw',p1,p2,zK,kM,x0,x1,kM2',zCV,ez,zFR,zHc,zCo,zEO,zBw,retK,zi,cond_true,cond_false,zO,zM,zCm,q1,q2,q3,q4,q5,zKK,Bool.not_true,Bool.not_false,a63,a120,amd,ash,a32,aTS,a9,aST,zAs,zZ,d1,d2,kO,k4,k5,ee,kk]
 ·have d1:decide (Int.ofNat 0<(m:Int))=true:=decide_eq_true (by have:Int.ofNat 0=0:=rfl;omega)
  have d2:((m:Int) == Int.ofNat 0)=false:=by rw[beq_eq_false_iff_ne];have:Int.ofNat 0=0:=rfl;omega
  simp only[zCA,k0,k3,bb,za,kw',p1,p2,zK,kM,x0,x1,kM2',zCV,ez,zFR,zHc,zCo,zEO,zBw,retK,zi,cond_true,cond_false,zO,zM,zCm,q1,q2,q3,q4,q5,zKK,Bool.not_true,Bool.not_false,a63,a120,amd,ash,a32,aTS,a9,aST,zAs,zZ,d1,d2,kO,k4,k5,ee,kk]
end Go.Am.X

namespace Go.Am.X
theorem zPm (c:zD)(N:Nat)(n:Int){h:Nat}(hh:h<4611686018427387903)(H:Heap)(Z:Tape):∃ m:Nat,m<=h/\∀ q,zHy c N (.int .i64 n) (.int .i64 (.ofNat 0)) (.int .i64 (h:Int)) H Z q=q (.int .i64 (m:Int)) H Z:=by
 have h1:=Int.tmod_lt_of_pos n (b:=(h:Int)+1) (by omega)
 have h2:=Int.lt_tmod_of_pos n (b:=(h:Int)+1) (by omega)
 have e1:wr .i64 ((h:Int)-Int.ofNat 0)=h:=by rw[zAZ (by simp <;> omega) (by simp <;> omega)];simp
 have e2:wr .i64 ((h:Int)+Int.ofNat 1)=(h:Int)+1:=by rw[zAZ (by simp <;> omega) (by simp <;> omega)];simp
 have er:=zFh (k:=.i64) n ((h:Int)+1)
 generalize hr:n.tmod ((h:Int)+1)=r at h1 h2
 by_cases hneg:r<0
 ·refine⟨(r+(h+1)).toNat,by omega,fun q=>?_⟩
  have e3:decide (r<Int.ofNat 0)=true:=decide_eq_true hneg
  have e4:wr .i64 (r+(h:Int))=r+h:=by rw[zAZ (by omega) (by omega)]
  have e5:wr .i64 (r+h-Int.ofNat 0)=r+h:=by rw[zAZ (by simp <;> omega) (by simp <;> omega)];simp
  have e6:wr .i64 (r+h+Int.ofNat 1)=r+(h+1):=by rw[zAZ (by simp <;> omega) (by simp <;> omega)];simp;try omega
  have e7:wr .i64 (Int.ofNat 0+(r+(h+1)))=(((r+(h+1)).toNat:Nat):Int):=by rw[zAZ (by simp <;> omega) (by simp <;> omega)];simp;try omega
  simp only[zHy,zAC,e1,zQ,e2,zFh _ _ ((h:Int)+1) (by omega),hr,zI,e3,zO,e4,e5,e6,zGg,zJ,↓reduceIte,Nat.reduceEqDiff,e7]
 ·refine⟨r.toNat,by omega,fun q=>?_⟩
  have e3:decide (r<Int.ofNat 0)=false:=decide_eq_false hneg
  have e7:wr .i64 (Int.ofNat 0+r)=((r.toNat:Nat):Int):=by rw[zAZ (by simp <;> omega) (by simp <;> omega)];simp;omega
  simp only[zHy,zAC,e1,zQ,e2,zFh _ _ ((h:Int)+1) (by omega),hr,zI,e3,zM,zGg,zJ,↓reduceIte,Nat.reduceEqDiff,e7]
end Go.Am.X

namespace Go.Am.X
theorem zS9:(fun Z=>allA [256,384,512] fun n=>zOs (zMl tabEk 100000) 40 zEE [.int .i64 (Int.ofNat n)] (start zDG) Z (isK (.str (dig3 (Int.ofNat n)))))=fun _=>doneA:=by kernel_rfl
theorem p_ito3:∀ base w0,zFL PG base w0 zEE (outP (RG zDG It3Pre It3G)):=by
 refine zSo zJD allk_ok (tabk_ok 100000) (by kernel_rfl) (N:=100000) (d:=40) zDG (by kernel_rfl) zOl ?_
 intro vs hp
 unfold It3Pre at hp
 split at hp
 ·rename_i n
  rcases hp with rfl | rfl | rfl
  ·exact⟨rfl,fun Z=>zSl zS9 (x:=256) (by simp) Z⟩
  ·exact⟨rfl,fun Z=>zSl zS9 (x:=384) (by simp) Z⟩
  ·exact⟨rfl,fun Z=>zSl zS9 (x:=512) (by simp) Z⟩
 ·exact hp.elim
theorem k_ito3 {c:zD}(h:IsP c zEE (RG zDG It3Pre It3G)):ItoOk3 c:=fun {bits d} hb H hin Z q=>by
 rw[zSm h (RG_fun _ _ _) (v:=.str (dig3 (bits:Int))) ⟨(by rcases hb.is with rfl | rfl | rfl <;> simp[It3Pre]),hin,rfl⟩ Z q,hb.dig]
def MakesR (vs:List V)(H:Heap)(o:Out):Prop:=(∃ (v w:V) (la lb:List Nat) (n:Int),vs=[v,w,.int .i64 n]/\((∀ b ∈ la,b<256)/\∀ b ∈ lb,b<256)/\(Roomy v/\Roomy w)/\(Rd H 1 v la.length (ws .u8 la)/\Src H v)/\(Rd H 1 w lb.length (ws .u8 lb)/\Src H w)/\inH H 0 zDG=true)/\o=.val (.bool true)
noncomputable abbrev zX:List Row:=[Row.fn zFr zBE zDy,Row.fn zEb zDv zIC,Row.fn zHs zFP zKC,Row.fn zDm zC0 zGn,Row.fn zFl zCt zHB,Row.fn zCb zAL zBi,Row.fn zBk zAM zBh,Row.fn zBx zAX zBy,Row.fn zB5 zAU zBt,Row.fn zAt zy zBG,Row.fn zBM zAW zB0,Row.fn zAq zx zBF,Row.fn zBO zAV zBz,Row.fn zz zAF zBR,Row.fn zAA zAG zBS,Row.prim zEE (outP (RG zDG It3Pre It3G)),Row.fn zGi zC2 zGj,Row.prim zAB (outP HolR),Row.fn zNi zIv zNg,Row.fn zLE zGB zKt,Row.prim zHK (outP ParR),Row.prim zDs (outP StrR),Row.fn zF1 zFQ zJz,Row.fn zHL zEu zJS,Row.fn zI9 zEf zJC,Row.fn zGm zCx zGp,Row.fn zNk zI6 zNn,Row.fn zFZ zBs zFb,Row.fn zKH zG8 zMA,Row.fn zLK zFz zLJ,Row.fn zFs zF8 zLM,Row.fn zDF zDo zIS,Row.fn zBm zCy zGf,Row.fn zBH zDu zH8,Row.prim zJH (tabsP)]
theorem rows_Makes:zMW PG zX :=
 .fn zIo zHJ (.fn zMP zK5 (.fn zOQ zMb (.fn zLl zKf (.fn zJ5 zIU (.fn zD0 zCe (.fn zEC zCs (.fn zEM zDh (.fn zES zDc (.fn zCn zB9 (.fn zEP zDZ (.fn zCd zB8 (.fn zET zDO (.fn zDY zCI (.fn zDX zCR (.prim p_ito3 (.fn zLX zKh (.prim zPr (.fn zRN zPA (.fn zPM zM1 (.prim p_ref9_Parse (.prim zQg (.fn zOC zMQ (.fn zMF zKe (.fn zNY zLx (.fn zLW zKa (.fn zRW zPR (.fn zKj zJP (.fn zQH zOK (.fn zO0 zNX (.fn zPC zNF (.fn zMU zKz (.fn zLo zKR (.fn zMd zKy (.prim zJy (.nil _)))))))))))))))))))))))))))))))))))
section
variable {N:Nat} (hN:9223372036854775808<N)
include hN
theorem mk_cut (d:Nat):Cut31 (CR zX N (d+1)):=fun bits x H hw Z=>zOp (CR zX N d) N bits x H hw Z
theorem mk_turn (d:Nat):Turn38 (CR zX N (d+2)):=fun bits x n hn hb H hw Z=>zN7 (CR zX N (d+1)) N (mk_cut hN d) bits x n hn hb H hw Z
theorem mk_mix (d:Nat):Mix32 (CR zX N (d+3)):=fun bits x a b e s ha hb he h64 H hw Z=>zOm (CR zX N (d+2)) N (mk_turn hN d) bits x a b e s ha hb he h64 H hw Z
theorem mk_block (d:Nat):zS7 (CR zX N (d+4)):=fun bits t K L v bs hb hK hL hlen h16 H hw hbt hRd Z=>zMn (CR zX N (d+3)) N (by omega) (mk_mix hN d) (mk_cut hN (d+2)) bits hb t K L hK hL v bs hlen h16 H hw hbt hRd Z
theorem mk_pad (d:Nat):Pad24 (CR zX N (d+1)):=fun size v bs hsz hlen H hw hRd hsr Z=>zRs (CR zX N d) N (by omega) size hsz v bs hlen H hw hRd hsr Z
theorem mk_sum (d:Nat):TSumOk (CR zX N (d+5)):=by
 intro bits hb t v bs hbs hlen H hw hbt hRd hsr Z
 rw[<- sums_eq hb bs hbs]
 exact zNt (CR zX N (d+4)) N (by omega) (mk_block hN d) (mk_pad hN (d+3)) bits hb t zBr tableP_len v bs hlen H hw hbt hRd hsr Z
theorem mk_times (d:Nat):Times37 (CR zX N (d+1)):=fun A B M n hA hB hMn hn H hw Z=>zQi (CR zX N d) N (by omega) A B hA hB M n hMn hn H hw Z
theorem mk_below (d:Nat):Below30 (CR zX N (d+2)):=fun x p cube hx H hw Z=>zQl (CR zX N (d+1)) N (by omega) (mk_times hN d) x hx p cube H hw Z
theorem mk_root (d:Nat):Root23 (CR zX N (d+3)):=fun p cube H hw Z=>zRE (CR zX N (d+2)) N (by omega) (mk_below hN d) p cube H hw Z
theorem mk_new (d:Nat):RNewOk (CR zX N (d+4)):=fun H hw Z=>zR3 (CR zX N (d+3)) N (by omega) (mk_root hN d) H hw Z
theorem mk_b64 (d:Nat):B64Ok (CR zX N (d+2)) zF1:=fun s hs H hw Z=>zPt (CR zX N (d+1)) (N:=N) (by omega) (fun n H Z q=>zMX (CR zX N d) N n H Z q) (fun x H Z q=>zPN (CR zX N d) (N:=N) (by omega) x H Z q) s hs H hw Z
theorem mk_holds (d:Nat):RHolOk (CR zX N (d+6)):=fun s hs t v bs hbb hbl H hw hbt hr hsr Z=>zQW (CR zX N (d+5)) (N:=N) (by omega) (k_Par fun _ _ _ _=>rfl) (k_Str fun _ _ _ _=>rfl) (mk_b64 hN (d+3)) (mk_sum hN d) s hs t v bs hbb hbl H hw hbt hr hsr Z
theorem mk_sumR:SumOkR (CR zX N 5):=by
 have li32:Lit33 (CR zX N 2):=fun x a b e ha hb he H hw Z=>dg33_eval (CR zX N 1) N ha hb he (by omega) (fun n hn H Z q=>zOu (CR zX N 0) N hn (by omega) H Z q) H hw Z
 have bi32:Big34 (CR zX N 2):=fun x a b e ha hb he H hw Z=>dg34_eval (CR zX N 1) N ha hb he (by omega) (fun n hn H Z q=>zOu (CR zX N 0) N hn (by omega) H Z q) H hw Z
 have li64:Lit35 (CR zX N 2):=fun x a b e ha hb he H hw Z=>dg35_eval (CR zX N 1) N ha hb he nl (fun n hn H Z q=>zOw (CR zX N 0) N hn nl H Z q) H hw Z
 have bi64:Big36 (CR zX N 2):=fun x a b e ha hb he H hw Z=>dg36_eval (CR zX N 1) N ha hb he nl (fun n hn H Z q=>zOw (CR zX N 0) N hn nl H Z q) H hw Z
 have mx32:Mix28 (CR zX N 3) consts:=fun S K v bs st hKS hlen h64 hR hst H hw hK hS hC5 hRd Z=>zHZ (CR zX N 2) N (by omega) S K hKS v bs st consts hlen h64 hR hst zF2 li32 bi32 H hw hK hS hC5 hRd Z
 have mx64:Mix29 (CR zX N 3) consts:=fun S K v bs st hKS hlen h64 hR hst H hw hK hS hC5 hRd Z=>zHp (CR zX N 2) N (by omega) S K hKS v bs st consts hlen h64 hR hst zF2 li64 bi64 H hw hK hS hC5 hRd Z
 have h32:Has32 (CR zX N 4):=fun v bs hlen hR H hw ht hRd hsr Z=>zHF (CR zX N 3) N (by omega) v bs zFa consts hlen hR zHG mx32 H hw (zOD ht st0_5) hRd hsr Z
 have h64:Has64 (CR zX N 4):=fun st hst v bs hlen hR H hw ht hRd hsr Z=>zHO (CR zX N 3) N (by omega) v bs st consts hlen hR hst mx64 H hw (zOD ht st0_5) hRd hsr Z
 intro bits hb v bs hlen hR H hw ht hRd hsr Z
 exact zMR (CR zX N 4) N h32 h64 hb v bs hlen hR H hw ht hRd hsr Z
end
theorem zPv:∀ base w0,zFL PG base w0 zFr (outP MakesR):=by
 obtain⟨N,hN⟩:=zSa
 refine zI7 zJD rows_Makes N 7 _ ?_
 rintro vs H o hw hvs ⟨⟨v,w,la,lb,n,rfl,⟨hla,hlb⟩,⟨hrv,hrw⟩,⟨h1,h2⟩,⟨h3,h4⟩,ht⟩,rfl⟩ Z
 have hM:MakeOk (CR zX N 6):=fun hb v bs hbl hro H hw ht hr hs Z=>zOB (CR zX N 5) N (mk_sumR hN) (k_ito3 fun _ _ _ _=>rfl) (fun l hl hlt v hro H hw hr hs Z=>zOA (CR zX N 4) (N:=N) (by omega) l hl hlt v hro H hw hr hs Z) hb v bs hbl hro H hw ht hr hs Z
 obtain⟨H',Z',g,k⟩:=zLQ (CR zX N 6) N (fun v n k cs hk hkk H hR hRd=>zOg (CR zX N 5) N v n k cs hk hkk H hR hRd) (fun n _ hh H Z=>zPm (CR zX N 5) N n hh H Z) hM
  (k_Holds fun _ _ _ _=>rfl) (mk_new hN 2) (mk_holds hN 0) (known_G fun _ _ _ _=>rfl) v w la lb hla hlb hrv hrw n H hw ht h1 h2 h3 h4 Z
 exact⟨_,H',Z',k retK,g,rfl,trivial⟩
theorem makes_fun:Fun1 MakesR:=fun vs H o o' k k'=>k.2.trans k'.2.symm
theorem zQC {v w:V}{H:Heap}{la lb:List Nat}{n:Int}(hla:∀ b ∈ la,b<256)(hlb:∀ b ∈ lb,b<256)(hr:Rd H 1 v la.length (ws .u8 la)/\Src H v)(hr':Rd H 1 w lb.length (ws .u8 lb)/\Src H w)(hro:Roomy v)(hro':Roomy w)(ht:inH H 0 zDG=true)(Z:Tape):outP MakesR [v,w,.int .i64 n] H Z=some (.bool true,H,Z) :=
 zQ0 makes_fun ⟨⟨v,w,la,lb,n,rfl,⟨hla,hlb⟩,⟨hro,hro'⟩,hr,hr',ht⟩,rfl⟩ Z
end Go.Am.X

