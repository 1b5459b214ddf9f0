/- The abstract machine, printed functions of the program, and what they are shown to be. -/
import Derived.Test.YtejpgcemblankaaGreatDoorCRNL8
import Derived.Test.YtejpgcemblankaaGreatDoorCRNL1
import Derived.Test.YtejpgcemblankaaGreatDoorCRNL3
import Derived.Test.YtejpgcemblankaaGreatDoorCRNL4
import Derived.Test.YtejpgcemblankaaGreatDoorCRNM4
set_option linter.unusedSimpArgs false
set_option linter.unusedVariables false
set_option linter.unusedSectionVars false
set_option maxRecDepth 100000
namespace Go.Am.X
theorem cells_key {H:Heap}{id:Nat}{all:List V}(h:H.cells? id=some all):∃ room fam ver wr pl st fr la,H.blk.get id=some (.mem all room fam ver wr pl st)/\H.fams.get fam=some (fr,la)/\fr<=ver:=by
 unfold Heap.cells? at h
 split at h
 ·rename_i cs room fam ver wr pl st hb
  split at h
  ·rename_i fr la hf
   cases hb2:Nat.ble fr ver with
   | true =>
    rw[hb2]at h
    have h':cs=all:=by simpa using h
    subst h'
    exact⟨room,fam,ver,wr,pl,st,fr,la,hb,hf,Nat.le_of_ble_eq_true hb2⟩
   | false=>rw[hb2]at h;simp at h
  ·cases h
 ·cases h
theorem DatP.any {H:Heap}(hw:WF H){z n:Nat}{v:V}{cs:List V}(h:Rd H z v n cs)(hs:Src H v):DatP (fun i=>i<H.size) H z v n cs:=by
 rcases h with⟨h | ⟨id,off,lo,ex,rfl⟩,rfl,rfl⟩ | ⟨id,off,lo,ex,all,rfl,h1,h2,h3⟩
 ·exact .inl ⟨h,rfl,rfl⟩
 ·obtain⟨all,ha⟩:=hs
  obtain⟨room,fam,ver,wr,pl,st,fr,la,hb,hf,hv⟩:=cells_key ha
  exact .inr ⟨id,off,lo,ex,all,room,fam,ver,wr,pl,st,fr,la,rfl,hb,hf,hv,hw.blk _ _ hb,hw.fam _ _ _ _ _ _ _ _ hb,by simp,by simp⟩
 ·obtain⟨room,fam,ver,wr,pl,st,fr,la,hb,hf,hv⟩:=cells_key h1
  exact .inr ⟨id,off,lo,ex,all,room,fam,ver,wr,pl,st,fr,la,rfl,hb,hf,hv,hw.blk _ _ hb,hw.fam _ _ _ _ _ _ _ _ hb,h2.symm,h3⟩
end Go.Am.X

namespace Go.Am.X
def toB (l:List Nat):Bs:=l.map UInt8.ofNat
theorem zSY:∀ l:List Nat,bytesOf (ws .u8 l)=some (toB l):=by
 intro l;induction l with
 | nil=>rfl
 | cons x l ih =>
  show(match bytesOf (ws .u8 l)with | some r=>some (UInt8.ofNat (x:Int).toNat::r) | none=>none)=_
  rw[ih];rfl
theorem str_rd {H:Heap}{v:V}{n:Nat}{l:List Nat}(h:Rd H 1 v n (ws .u8 l))(hs:Src H v):zDC [v] H=some (.str (toB l)):=by
 obtain⟨h1,h2⟩:=h.loads hs
 rcases h with⟨rfl | ⟨id,off,lo,ex,rfl⟩,rfl,h0⟩ | ⟨id,off,lo,ex,all,rfl,_⟩
 ·cases l with
  | nil=>rfl
  | cons a l=>simp[ws]at h0
 ·simp only[zCA,Nat.beq_refl,cond_true]at h2
  rw[Nat.zero_mul]at h2
  simp only[zDC,Nat.beq_refl,cond_true,h2,zSY]
 ·simp only[zCA,Nat.beq_refl,cond_true]at h2
  rw[Nat.mul_one]at h2
  simp only[zDC,Nat.beq_refl,cond_true,h2,zSY]
end Go.Am.X

namespace Go.Am.X
end Go.Am.X

namespace Go.Am.X
theorem fewC_ret (c:zC)(N:Nat)(v:V)(n k:Nat)(cs:List V)(hk:0<k)(hkk:k<1000000)(H:Heap)(hR:Roomy v)(hRd:Rd H 1 v n cs) :
  ∃ v',Roomy v'/\(∀ H',Src H' v->Src H' v')/\(∀ H',Rd H' 1 v n cs->Rd H' 1 v' (min n k) (cs.take k))/\∀ H Z q,zEY c N v (.int .i64 (k:Int)) H Z q=q v' H Z:=by
 by_cases h:k<n
 ·rcases hRd with⟨_,h0,_⟩ | ⟨id,off,lo,ex,all,rfl,q1,q2,q3⟩
  ·omega
  ·have hb:zCs false true false [V.int .i64 (k:Int)]=some (none,some k,none):=by simp only[zCs,optN,natOf_mk]
   have hwi:within k lo ex=true:=by have hR:within n lo ex=true:=hR;rw[within_iff]at hR ⊢;omega
   have h0:Nat.ble 0 k=true:=Nat.ble_eq_true_of_le (Nat.zero_le _)
   have h1:Nat.ble 0 lo=true:=Nat.ble_eq_true_of_le (Nat.zero_le _)
   have e1:decide ((k:Int)<(n:Int))=true:=decide_eq_true (by omega)
   refine⟨.sl id off k lo ex 1,hwi,fun _ h=>h,fun H' hd=>?_,fun H Z q=>?_⟩
   ·rcases hd with⟨_,h0,_⟩ | ⟨id',off',lo',ex',all',e,q1,q2,q3⟩
    ·omega
    ·cases e
     rw[Nat.min_eq_right (by omega)]
     refine .inr ⟨id,off,lo,ex,all',rfl,q1,?_,?_⟩
     ·rw[q2,List.take_take];congr 1;omega
     ·rw[List.length_take];omega
   ·have hp:pLen [V.sl id off n lo ex 1]=some (.int .i64 (n:Int)):=rfl
    have hs:zAA 1 false true false [V.sl id off n lo ex 1,V.int .i64 (k:Int)]=some (.sl id off k lo ex 1):=by
     simp only[zAA,Nat.beq_refl,cond_true,hb,zPD,Option.getD_some,Option.getD_none,hwi,h0,Bool.and_self,h1,zQW,Nat.sub_zero]
    simp only[zEY,hp,zK,zAW,e1,zBE,hs]
 ·have e1:decide ((k:Int)<(n:Int))=false:=decide_eq_false (by omega)
  refine⟨v,hR,fun _ h=>h,fun H' hd=>?_,fun H Z q=>?_⟩
  ·rw[Nat.min_eq_left (by omega),List.take_of_length_le (by have:=hd.len;omega)]
   exact hd
  ·simp only[zEY,hRd.pLen,zK,zAW,e1,zAM]
theorem ws_takeC (la:List Nat)(k:Nat):(ws .u8 la).take k=ws .u8 (la.take k):=by simp[ws,List.map_take]
theorem zS6 (n:Nat):(dig n).length<=8:=by
 have:=(digF_ok 8 n [] (fun x hx=>by simp at hx) (.inr (by omega))).2.2
 simpa [dig] using this
theorem smallM {n:Nat}(hn:n<=900):Small (hsM (dig n)):=⟨by simp[hsM],fun h hh=>by
 rw[show h=([67,97,99,104,101,45,67,111,110,116,114,111,108],[109,97,120,45,97,103,101,61]++dig n)from List.mem_singleton.1 hh]
 have:=zS6 n
 simp;omega⟩
theorem dropsM (l:Bs):zNr nm4 (hsM l)=hsM l:=by kernel_rfl
theorem dropM (l:Bs):zBg ageN (hsM l)=hsM l:=by kernel_rfl
theorem find1 {x:CRow}(hv:x.vs=[]):zMQ x.url [] [x]=some x:=by
 unfold zMQ
 rw[parse0.1,if_neg (by decide)]
 simp[zQ8,zNC,hv]
theorem find0 {x:CRow}{u:Bs}(hu:x.url≠u):zMQ u [] [x]=none:=by
 unfold zMQ
 rw[parse0.1,if_neg (by decide)]
 simp[zQ8,zNC,hu]
end Go.Am.X

namespace Go.Am.X
abbrev ccN:Bs:=[67,97,99,104,101,45,67,111,110,116,114,111,108]
abbrev CcOkU (cc:zC):Prop:=∀ (s:Bs) (H:Heap) (Z:Tape) (q:KV),cc zGB [.str s] H Z q=q (.sl H.size 0 1 1 none 2) (H.new [.str ccN,.str s] 2 false) Z
theorem datM {H:Heap}(w:Bs){s:Bs}(e:s=[109,97,120,45,97,103,101,61]++w):DatP (fun i=>i=H.size) (H.new [.str ccN,.str s] 2 false) 2 (.sl H.size 0 1 1 none 2) (hsM w).length (hcells (hsM w)):=by
 subst e
 obtain⟨room,ver,pl,st,fr,h1,h2,h3,_⟩:=Bx.new H [.str ccN,.str ([109,97,120,45,97,103,101,61]++w)] 2 false (by simp)
 exact .inr ⟨H.size,0,1,none,_,room,H.size,ver,true,pl,st,fr,ver,rfl,h1,h2,h3,rfl,rfl,rfl,rfl⟩
theorem body_cells {H:Heap}{v:V}{n:Nat}{cs:List V}(h:Rd H 1 v n cs):v=.nils∨∃ id off lo ex,v=.sl id off n lo ex 1:=by
 rcases h with⟨rfl | ⟨id,off,lo,ex,rfl⟩,rfl,_⟩ | ⟨id,off,lo,ex,all,rfl,_⟩
 ·exact .inl rfl
 ·exact .inr ⟨id,off,lo,ex,rfl⟩
 ·exact .inr ⟨id,off,lo,ex,rfl⟩
theorem s_put1 (cc:zC)(hPut:PutOkR cc)(hCc:CcOkU cc){H H1:Heap}(hw:WF H)(g1:Gr H.size H H1)(z1:H1.size=H.size+1)(c1:CacM (fun _=>False) (fun _=>False) H1 H.size [] 0){bv:V}{lb:List Nat}(hb:lb.length<=100)(hr:Rd H 1 bv lb.length (ws .u8 lb))(hs:Src H bv)(Z:Tape) :
  ∃ P D H3 Z3 x,CacM P D H3 H.size [x] 1/\(x.url=[117]/\x.vs=[]/\x.st=200/\x.hs=hsM [49]/\x.bd=ws .u8 lb/\x.sto=0/\x.ord=1)/\Gr H.size H H3/\(∀ i,i<=H.size->¬ P i/\¬ D i)/\H1.size<=H3.size/\H.size<x.id /\
   ∀ q,cc zGB [(.str (bs [109,97,120,45,97,103,101,61,49]))] H1 Z (fun v H2 Z2=>cc zC5 [.ptr H.size 0,.str (bs [117]),.nils,.agg [.int .i64 (.ofNat 200),v,bv],.int .i64 (.ofNat 0)] H2 Z2 q)=q (.bool true) H3 Z3:=by
 have kc:=hCc [109,97,120,45,97,103,101,61,49] H1 Z
 have g2:=Gr.new g1.wf [.str ccN,.str [109,97,120,45,97,103,101,61,49]] 2 false
 have d2:=datM (H:=H1) [49] (s:=[109,97,120,45,97,103,101,61,49]) rfl
 have z2:(H1.new [.str ccN,.str [109,97,120,45,97,103,101,61,49]] 2 false).size=H1.size+1:=rfl
 generalize H1.new [.str ccN,.str [109,97,120,45,97,103,101,61,49]] 2 false=H2 at kc g2 d2 z2
 have c2:=c1.gr g1.wf g2
 have g12:=g1.trans g2 g1.size
 have db:=(DatP.any hw hr hs).gr hw g12
 have lw:(ws .u8 lb).length=lb.length:=zRj _ _
 obtain⟨P,D,H3,Z3,x,c3,⟨x1,x2,x3,x4,x5,x6,x7,x8⟩,p3,p3d,q3,k3⟩:=hPut (E:=fun i=>i=H1.size∨i<H.size) c2 g2.wf (by simp) (fun r hr=>by simp at hr) (by omega) (by omega) [117] small0 (by constructor <;> simp[hsM]) (by simp[hsM]) (ws .u8 lb) (by rw[lw];omega) (av:=.nils) (hv:=.sl H1.size 0 1 1 none 2) (bv:=bv)
  (fun i hi=>⟨by omega,fun h=>h,by omega⟩) (DatP.nil _ _ _) (d2.weaken g2.wf fun i _ h=>.inl h) (by rw[lw];exact db.weaken g2.wf fun i _ h=>.inr h) parse1 parse0.1 (varyM [49]).1 (by rw[(varyM [49]).2];simp) (by rw[(varyM [49]).2];simp) 0 Z
 rw[(varyM [49]).2]at x2
 refine⟨P,D,H3,Z3,x,c3,⟨x1,x2,x3,x4,x5,x6,x7⟩,g12.trans (q3.gr (by omega) fun i hi h=>h.elim (fun h=>h) (fun e=>by omega)) nl,fun i hi=>⟨fun h=>p3 i (by omega) h,fun h=>p3d i (by omega) h⟩,?_,by omega,fun q=>?_⟩
 ·have:=q3.size;omega
 ·rw[show bs [109,97,120,45,97,103,101,61,49]=[109,97,120,45,97,103,101,61,49]from rfl,kc]
  exact k3 q
end Go.Am.X

namespace Go.Am.X
theorem s_ren1 (cc:zC)(hR:RenOkR cc)(hCc:CcOkU cc){P D:Nat->Prop}{H:Heap}{c:Nat}{x:CRow}{lb:List Nat}(hw:WF H)(hc:CacM P D H c [x] 1)(hx:x.url=[117]/\x.vs=[]/\x.st=200/\x.hs=hsM [49]/\x.bd=ws .u8 lb/\x.sto=0/\x.ord=1)(hb:lb.length<=100){m:Nat}(hm:m<=900)(Z:Tape) :
  ∃ P' D' H' Z' hvR bvR y,CacM P' D' H' c [y] 2/\(y.url=[117]/\y.vs=[]/\y.st=200/\y.hs=hsM (dig m)/\y.bd=ws .u8 lb/\y.sto=50/\y.id=x.id)/\(∀ i,i<H.size->P' i->P i)/\(∀ i,i<H.size->D' i->D i) /\
   BodP (fun i=>H.size<=i/\¬ P' i/\¬ D' i/\i<H'.size) H' bvR lb.length (ws .u8 lb)/\Chg (fun i=>P i∨i=c∨i=x.id) H H'/\(hvR.cells=[hvR]/\hvR.scal=true) /\
   ∀ q,cc zGB [.str ([109,97,120,45,97,103,101,61]++dig m)] H Z (fun v H2 Z2=>cc zAd [.ptr c 0,.str (bs [117]),.nils,.agg [.int .i64 (.ofNat 304),v,.nils],.int .i64 (.ofNat 50)] H2 Z2 q)=q (.tup [.agg [.int .i64 200,hvR,bvR],.bool true]) H' Z':=by
 obtain⟨x1,x2,x3,x4,x5,x6,x7⟩:=hx
 have kc:=hCc ([109,97,120,45,97,103,101,61]++dig m) H Z
 have g2:=Gr.new hw [.str ccN,.str ([109,97,120,45,97,103,101,61]++dig m)] 2 false
 have d2:=datM (H:=H) (dig m) (s:=[109,97,120,45,97,103,101,61]++dig m) rfl
 have z2:(H.new [.str ccN,.str ([109,97,120,45,97,103,101,61]++dig m)] 2 false).size=H.size+1:=rfl
 generalize H.new [.str ccN,.str ([109,97,120,45,97,103,101,61]++dig m)] 2 false=H2 at kc g2 d2 z2
 have c2:=hc.gr hw g2
 have lw:(ws .u8 lb).length=lb.length:=zRj _ _
 have hcl:c<H.size:=by obtain⟨v,h1,_⟩:=hc.bx;exact h1.lt hw
 have hxl:x.id<H.size:=(hc.mem x (by simp)).bx.bx.lt hw
 have ren:=(okM_at hm).1
 have hn:zMQ [117] [] [x]=some x:=by have:=find1 (x:=x) x2;rwa [x1]at this
 obtain⟨P',D',H',Z',hvR,bvR,y,c3,⟨y1,y2,y3,y4,y5,y6,y7,y8⟩,p3,p3d,b3,gh3,q3,k3⟩:=hR (E:=fun i=>i=H.size) c2 g2.wf (by simp) (fun r hr=>by rw[List.mem_singleton.1 hr];exact⟨by rw[x2];simp,by rw[x2];simp⟩) (by omega) (by omega) [117] small0 (smallM hm) (av:=.nils) (hv2:=.sl H.size 0 1 1 none 2) (bv2:=.nils) ⟨(DatP.nil (fun _=>False) H2 2).rd,trivial⟩ 304
  (fun i hi=>⟨by omega,fun h=>by have:=hc.pl i h;omega,by omega,fun r hr=>by rw[List.mem_singleton.1 hr];omega⟩) d2 hn (by rw[x4];simp[hsM]) (by rw[x4];simp[hsM]) (by rw[x5,lw];omega)
  (fun pre l e=>by
   rw[dropsM]at e
   rw[x4,dropM]
   cases pre with
   | nil=>exact⟨by simp[zJG,hsM],by simp[zJG,hsM]⟩
   | cons h pre =>
    have e1:pre=[]/\l=[]:=by have:=congrArg List.length e;simp only[hsM,List.length_append,List.length_cons,List.length_nil]at this;exact⟨List.eq_nil_of_length_eq_zero (by omega),List.eq_nil_of_length_eq_zero (by omega)⟩
    obtain⟨rfl,rfl⟩:=e1
    have e2:[h]=hsM (dig m):=by simpa using e.symm
    have e3:zJG [h] (hsM [49])=hsM (dig m):=by rw[e2];have:=ren;unfold renT at this;rwa [dropsM,dropM]at this
    rw[e3]
    exact⟨by simp[hsM],by simp[hsM]⟩) 50 Z
 have ef:([x].filter fun r=>!decide (x.id=r.id))++[y]=[y]:=by simp
 rw[ef]at c3
 rw[x4,ren]at y4
 refine⟨P',D',H',Z',hvR,bvR,y,c3,⟨y1.trans x1,y2.trans x2,y3.trans x3,y4,y5.trans x5,y6,y8⟩,fun i hi h=>p3 i (by omega) h,fun i hi h=>p3d i (by omega) h,?_,?_,gh3.scal,fun q=>?_⟩
 ·rw[x5,lw]at b3
  exact b3.weaken q3.wf fun i _ h=>⟨by omega,h.2⟩
 ·exact(g2.chg (P:=fun i=>P i∨i=c∨i=x.id)).trans q3 fun _ _ h=>h
 ·rw[kc]
  have:=k3 q
  rw[x3]at this
  exact this
end Go.Am.X

namespace Go.Am.X
theorem s_fnd1 (cc:zC)(hF:FndOkR cc)(hFm:IsP cc zG (RG tabs FmtPre FmtG)){P D:Nat->Prop}{H:Heap}{c:Nat}{y:CRow}{puts:Int}{lb:List Nat}{m:Nat}(hm:m<=900){t:Nat}(ht:t<=1500)(hw:WF H)(hc:CacM P D H c [y] puts)(hy:y.url=[117]/\y.vs=[]/\y.st=200/\y.hs=hsM (dig m)/\y.bd=ws .u8 lb/\y.sto=50)(hb:lb.length<=100)
  (hin:∀ H',Chg (fun i=>P i∨i=c) H H'->inH H' 0 tabs=true) (Z:Tape) :
  ∃ P' H' Z' hvF bvF,CacM P' D H' c [y] puts/\(∀ i,i<H.size->P' i->P i)/\BodP (fun i=>H.size<=i/\¬ P' i/\i<H'.size) H' bvF lb.length (ws .u8 lb)/\Chg (fun i=>P i∨i=c) H H'/\hvF.cells=[hvF]/\hvF.scal=true /\
   ∀ q,cc zDs [.ptr c 0,.str (bs [117]),.nils,.int .i64 (50+(t:Int))] H Z q=q (.agg [.int .i64 (if t<m then 2 else 1),.int .i64 200,hvF,bvF,.nils]) H' Z':=by
 obtain⟨y1,y2,y3,y4,y5,y6⟩:=hy
 have lw:(ws .u8 lb).length=lb.length:=zRj _ _
 have hn:zMQ [117] [] [y]=some y:=by have:=find1 (x:=y) y2;rwa [y1]at this
 have ea:ageT y.hs y.sto (50+(t:Int))=t:=by rw[y4,y6];exact ageM _ t ht
 obtain⟨P',H',Z',hvF,bvF,nh,ch,c3,p3,b3,h3,q3,k3⟩:=hF (E:=fun _=>False) hc hw (by simp) (fun r hr=>by rw[List.mem_singleton.1 hr];exact⟨by rw[y2];simp,by rw[y2];simp⟩) [117] small0 (av:=.nils) (fun i h=>h.elim) (DatP.nil _ _ _) hn (by rw[y4];exact smallM hm) (by rw[y4];simp[hsM]) (by rw[y4];simp[hsM]) (by rw[y5,lw];omega) (by rw[y4];exact(selM _).1) (by rw[y4];exact(selM _).2)
  (now:=50+(t:Int)) (by unfold InI zL4 zD3;omega) (by rw[y6];unfold InI zL4 zD3;omega) (s:=dig t) (by have:=zS6 t;omega) (fun H' hch Z q=>by
   rw[ea]
   exact zS7 hFm (RG_fun _ _ _) (vs:=[.int .i64 (t:Int),.int .i64 (.ofNat 10)]) (H:=H') (v:=.str (dig t)) ⟨⟨by omega,by omega,rfl⟩,hin H' hch,rfl⟩ Z q) Z
 have eu:useT y [y]=[y]:=by simp[useT]
 rw[eu]at c3
 have ef:zPk [] y (50+(t:Int))=decide (t<m):=by
  unfold zPk
  rw[y4,y6,freshM hm ht,parse0.2];simp
 rw[y5,lw]at b3
 refine⟨P',H',Z',hvF,bvF,c3,p3,b3,q3,h3.scal.1,h3.scal.2,fun q=>?_⟩
 have:=k3 q
 rw[ef,y3]at this
 by_cases h:t<m
 ·rw[if_pos h];rw[decide_eq_true h,if_pos rfl]at this;exact this
 ·rw[if_neg h];rw[decide_eq_false h,if_neg (by decide)]at this;exact this
end Go.Am.X

namespace Go.Am.X
set_option maxHeartbeats 1000000
theorem newvC {H:Heap}(hw:WF H)(zs:List V)(u:V)(n:Nat)(hz:zs.length=n)(hn:u.cells.length=n)(hn0:0<n)(hs:u.cells.all V.scal=true)(Z:Tape) :
  ∃ H1 H',zBl zs [] H Z=some (.ptr H.size 0,H1,Z)/\eStore n [.ptr H.size 0,u] H1 Z=some (.tup [],H',Z)/\Bx H' H.size u.cells/\Gr H.size H H'/\H'.size=H.size+1:=by
 have g1:=Gr.new hw zs zs.length true
 have x1:Bx (H.new zs zs.length true) H.size zs:=Bx.new H _ _ _ nl
 obtain⟨H',s1,s2,s3⟩:=x1.eStore g1.wf 0 u n hn (by omega) hn0 hs Z
 refine⟨_,H',rfl,s1,?_,g1.trans (s3.gr nl) nl,s3.size⟩
 have:zs.drop (0+n)=[]:=List.drop_eq_nil_of_le (by omega)
 rw[this]at s2
 simpa using s2
theorem zMN (cc c0:zC){N:Nat}(hN:9223372036854775807<=N)(hNew:NewOkU cc)(hCc:CcOkU cc)(hPut:PutOkR cc)(hF:FndOkR cc)(hR:RenOkR cc)(hR0:Ren0OkR cc)(hFm:IsP cc zG (RG tabs FmtPre FmtG))(hDig:∀ n:Nat,n<100000000->∀ H Z q,cc zI8 [.int .i64 (n:Int)] H Z q=q (.str (dig n)) H Z)(hW:WithinOkU cc)
  (hFew:∀ v k H Z q,cc zFn [v,k] H Z q=zEY c0 N v k H Z q) (hK:∀ H Z q,inH H 0 tabs=true->cc zHT [] H Z q=q (.bool true) H Z)
  (la:List Nat) {v:V} (a b:Int) {H:Heap} (hw:WF H) (hr:Rd H 1 v la.length (ws .u8 la)) (hs:Src H v) (hro:Roomy v) (ht:inH H 0 tabs=true) (Z:Tape) :
  ∃ H' Z',Gr H.size H H'/\∀ q,zEN cc N v (.int .i64 a) (.int .i64 b) H Z q=q (.bool true) H' Z':=by
 obtain⟨H1,c1,g1,z1,k1⟩:=hNew hw Z
 obtain⟨bv,w1,w2,w3,w4⟩:=fewC_ret c0 N v la.length 100 (ws .u8 la) (by omega) (by omega) H hro hr
 rw[ws_takeC,show min la.length 100=(la.take 100).length by rw[List.length_take,Nat.min_comm]]at w3
 generalize hlb:la.take 100=lb at w3
 have hl100:lb.length<=100:=by rw[<- hlb,List.length_take];omega
 have rb:=w3 H hr
 have sb:=w2 H hs
 obtain⟨m,hm,km⟩:=hW (a.tmod 1000) (h:=900) (by omega) H1 Z
 obtain⟨t,htl,kt⟩:=hW (b.tmod 2000) (h:=1500) (by omega) H1 Z
 have km':∀ q,cc zFE [.int .i64 (a.tmod (.ofNat 1000)),.int .i64 (.ofNat 0),.int .i64 (.ofNat 900)] H1 Z q=q (.int .i64 (m:Int)) H1 Z:=km
 have kt':∀ q,cc zFE [.int .i64 (b.tmod (.ofNat 2000)),.int .i64 (.ofNat 0),.int .i64 (.ofNat 1500)] H1 Z q=q (.int .i64 (t:Int)) H1 Z:=kt
 have kb:∀ q,cc zFn [v,.int .i64 (.ofNat 100)] H1 Z q=q bv H1 Z:=fun q=>by rw[hFew];exact w4 H1 Z q
 have en:lPeq false [.ptr H.size 0,.nilp] H1=some (.bool false):=rfl
 have er1:∀ q:V->Ans,binK .rem (.int .i64 a) (.int .i64 (.ofNat 1000)) q=q (.int .i64 (a.tmod (.ofNat 1000))):=fun q=>zPL _ _ _ (by decide) q
 have er2:∀ q:V->Ans,binK .rem (.int .i64 b) (.int .i64 (.ofNat 2000)) q=q (.int .i64 (b.tmod (.ofNat 2000))):=fun q=>zPL _ _ _ (by decide) q
 have hbc:=body_cells rb
 have pb1:∀ id,zDm [(.int .i64 (.ofNat 0)),.nils,.nils] [(0,1),(2,1),(1,1)] [(.int .i64 (.ofNat 200)),bv,.sl id 0 1 1 none 2]=some (.agg [.int .i64 (.ofNat 200),.sl id 0 1 1 none 2,bv]):=by
  intro id
  rcases hbc with rfl | ⟨_,_,_,_,rfl⟩ <;> rfl
 obtain⟨P3,D3,H3,Z3,x,c3,hx,g3,p3,z3,xid,k3⟩:=s_put1 cc hPut hCc hw g1 z1 c1 hl100 rb sb Z
 have kc1:∀ q,cc zGB [.str (bs [109,97,120,45,97,103,101,61,49])] H1 Z q=q (.sl H1.size 0 1 1 none 2) (H1.new [.str ccN,.str (bs [109,97,120,45,97,103,101,61,49])] 2 false) Z:=fun q=>hCc _ H1 Z q
 have k3':∀ q,cc zC5 [.ptr H.size 0,.str (bs [117]),.nils,.agg [.int .i64 (.ofNat 200),.sl H1.size 0 1 1 none 2,bv],.int .i64 (.ofNat 0)] (H1.new [.str ccN,.str (bs [109,97,120,45,97,103,101,61,49])] 2 false) Z q=q (.bool true) H3 Z3:=fun q=>by
  have:=k3 q;rw[kc1]at this;exact this
 have kd:=hDig m (by omega) H3 Z3
 have ed:zJn .add (bs [109,97,120,45,97,103,101,61]) (dig m)=some (.str ([109,97,120,45,97,103,101,61]++dig m)):=str_add (by have:=zS6 m;rw[show(bs [109,97,120,45,97,103,101,61]).length=8 from rfl];omega)
 obtain⟨P4,D4,H4,Z4,hvR,bvR,y,c4,hy,p4,p4d,b4,q4,hvs,k4⟩:=s_ren1 cc hR hCc g3.wf c3 hx hl100 hm Z3
 have kc2:∀ q,cc zGB [.str ([109,97,120,45,97,103,101,61]++dig m)] H3 Z3 q=q (.sl H3.size 0 1 1 none 2) (H3.new [.str ccN,.str ([109,97,120,45,97,103,101,61]++dig m)] 2 false) Z3:=fun q=>hCc _ H3 Z3 q
 have k4':∀ q,cc zAd [.ptr H.size 0,.str (bs [117]),.nils,.agg [.int .i64 (.ofNat 304),.sl H3.size 0 1 1 none 2,.nils],.int .i64 (.ofNat 50)] (H3.new [.str ccN,.str ([109,97,120,45,97,103,101,61]++dig m)] 2 false) Z3 q=q (.tup [.agg [.int .i64 200,hvR,bvR],.bool true]) H4 Z4:=fun q=>by
  have:=k4 q;rw[kc2]at this;exact this
 have pb2:∀ id,zDm [(.int .i64 (.ofNat 0)),.nils,.nils] [(0,1),(1,1)] [(.int .i64 (.ofNat 304)),.sl id 0 1 1 none 2]=some (.agg [.int .i64 (.ofNat 304),.sl id 0 1 1 none 2,.nils]):=fun _=>rfl
 have g34:Gr H.size H3 H4:=q4.gr (by omega) fun i hi h=>by
  rcases h with h | h | h
  ·exact(p3 i (by omega)).1 h
  ·omega
  ·omega
 have g4:Gr H.size H H4:=g3.trans g34 nl
 have s4:=q4.size
 have bvs:=b4.scal
 obtain⟨H5,H6,n1,n2,n3,n4,n5⟩:=newvC q4.wf [(.int .i64 (.ofNat 0)),.nils,.nils] (.agg [.int .i64 200,hvR,bvR]) 3 rfl rfl (by omega) (by show(true && (hvR.scal && (bvR.scal && true)))=true;rw[hvs.2,bvs.2];rfl) Z4
 have g6:Gr H.size H H6:=g4.trans n4 g4.size
 obtain⟨P7,H7,Z7,hvF,bvF,c7,p7,b7,q7,f1,f2,k7⟩:=s_fnd1 cc hF hFm hm htl n4.wf (c4.gr q4.wf n4) ⟨hy.1,hy.2.1,hy.2.2.1,hy.2.2.2.1,hy.2.2.2.2.1,hy.2.2.2.2.2.1⟩ hl100 (fun H' hch=>inH_gr ht zOM (g6.trans (hch.gr (B:=H.size) g6.size fun i hi h=>by
  rcases h with h | h
  ·have:=g3.size;exact(p3 i (by omega)).1 (p4 i (by omega) h)
  ·omega) nl) hw nl) Z4
 have g67:Gr H.size H6 H7:=q7.gr g6.size fun i hi h=>by
  rcases h with h | h
  ·have:=g3.size;exact(p3 i (by omega)).1 (p4 i (by omega) h)
  ·omega
 have g7:Gr H.size H H7:=g6.trans g67 nl
 have bfs:=b7.scal
 obtain⟨H8,H9,v1,v2,v3,v4,v5⟩:=newvC q7.wf [(.int .i64 (.ofNat 0)),(.int .i64 (.ofNat 0)),.nils,.nils,.nils] (.agg [.int .i64 (if t<m then 2 else 1),.int .i64 200,hvF,bvF,.nils]) 5 rfl rfl (by omega) (by show(true && (true && (hvF.scal && (bvF.scal && (true && true)))))=true;rw[f2,bfs.2];rfl) Z7
 have g9:Gr H.size H H9:=g7.trans v4 g7.size
 have c9:=c7.gr q7.wf v4
 have hyn:zMQ [118] [] [y]=none:=find0 (by rw[hy.1];decide)
 obtain⟨H10,Z10,g10,k10⟩:=hR0 c9 v4.wf (by simp) (fun r hr=>by rw[List.mem_singleton.1 hr];exact⟨by rw[hy.2.1];simp,by rw[hy.2.1];simp⟩) [118] small0 (av:=.nils) ⟨(DatP.nil (fun _=>False) H9 2).rd,trivial⟩ hyn 304 .nils .nils (.int .i64 50) Z7
 obtain⟨H11,H12,m1,m2,m3,m4,m5⟩:=newvC g10.wf [(.int .i64 (.ofNat 0)),.nils,.nils] (.agg [.int .i64 0,.nils,.nils]) 3 rfl rfl (by omega) rfl Z10
 have g12:Gr H.size H H12:=(g9.trans g10 g9.size).trans m4 ((g9.trans g10 g9.size).size)
 have g912:Gr H9.size H9 H12:=g10.trans m4 g10.size
 have g712:Gr H7.size H7 H12:=v4.trans g912 v4.size
 have pb3:zDm [(.int .i64 (.ofNat 0)),.nils,.nils] [(0,1)] [(.int .i64 (.ofNat 304))]=some (.agg [.int .i64 304,.nils,.nils]):=rfl
 have k10':∀ q,cc zAd [.ptr H.size 0,.str (bs [118]),.nils,.agg [.int .i64 304,.nils,.nils],.int .i64 (.ofNat 50)] H9 Z7 q=q (.tup [.agg [.int .i64 0,.nils,.nils],.bool false]) H10 Z10:=k10
 have x6:Bx H6 H4.size [.int .i64 200,hvR,bvR]:=n3
 have hn4:¬ P4 H4.size:=fun h=>Nat.lt_irrefl _ (c4.pl _ h)
 have x7:Bx H7 H4.size [.int .i64 200,hvR,bvR]:=x6.chg n4.wf q7 fun h=>h.elim (fun h=>hn4 h) (fun e=>by omega)
 have x12:Bx H12 H4.size [.int .i64 200,hvR,bvR]:=zDk x7 q7.wf g712
 have y9:Bx H9 H7.size [.int .i64 (if t<m then 2 else 1),.int .i64 200,hvF,bvF,.nils]:=v3
 have y12:=zDk y9 v4.wf g912
 have la0:zL [.ptr H4.size 0] H12=some (.int .i64 200):=zR x12.cells rfl
 have la2:zL [.ptr H4.size 2] H12=some bvR:=zR x12.cells rfl
 have lb0:zL [.ptr H7.size 0] H12=some (.int .i64 (if t<m then 2 else 1)):=zR y12.cells rfl
 have lb3:zL [.ptr H7.size 3] H12=some bvF:=zR y12.cells rfl
 have b6:=b4.chg q4.wf n4.chg (Q:=fun _=>False) (fun _ _ _ h=>h)
 have b7R:BodP _ H7 bvR lb.length (ws .u8 lb):=(b6.weaken (Q:=fun i=>H3.size<=i/\¬ P4 i) n4.wf fun i _ h=>⟨h.1,h.2.1⟩).chg n4.wf q7 fun i _ h k=>k.elim h.2 (fun e=>by have:=g3.size;omega)
 have b12R:BodP _ H12 bvR lb.length (ws .u8 lb):=b7R.chg q7.wf g712.chg (Q:=fun _=>False) (fun _ _ _ h=>h)
 have b12F:BodP _ H12 bvF lb.length (ws .u8 lb):=b7.chg q7.wf g712.chg (Q:=fun _=>False) (fun _ _ _ h=>h)
 have t1:=str_rd b12R.rd b12R.src
 have t2:=str_rd (rb.gr g12 hw nl) (sb.gr g12 hw nl)
 have t3:=str_rd b12F.rd b12F.src
 have es:zJn .eql (toB lb) (toB lb)=some (.bool true):=by rw[zFe];congr 2;exact beq_self_eq_true _
 have ex0:∀ a b,zH 0 [.tup [a,b]]=some a:=fun _ _=>rfl
 have ex1:∀ a b,zH 1 [.tup [a,b]]=some b:=fun _ _=>rfl
 have ea:wr .i64 (Int.ofNat 50+(t:Int))=50+(t:Int):=by have:Int.ofNat 50=50:=rfl;rw[this,zEM (by omega) (by omega)]
 have e200:((200:Int) == Int.ofNat 200)=true:=rfl
 have esame:pEq false .bool [.bool ((if t<m then(2:Int)else 1) == Int.ofNat 2),.bool (decide ((t:Int)<(m:Int)))]=some (.bool true):=by
  by_cases h:t<m
  ·have h':(t:Int)<(m:Int):=by omega
   rw[if_pos h,decide_eq_true h'];rfl
  ·have h':¬(t:Int)<(m:Int):=by omega
   rw[if_neg h,decide_eq_false h'];rfl
 have hKn:=fun q=>hK H12 Z10 q (inH_gr ht zOM g12 hw nl)
 refine⟨H12,Z10,g12,fun q=>?_⟩
 simp only[zEN,k1,er1,km',er2,kt',kb,en,zJ,zEK,retK,zf,kc1,pb1,k3',zCD,Bool.not_true,zW,cond_false,zO,kd,zA1,ed,kc2,pb2,k4',ex0,ex1,n1,n2,zY,ea,k7,v1,v2,pb3,k10',m1,m2,zDX,fa_ptr,Nat.zero_add,Nat.reduceAdd,la0,zAb,e200,cond_true,la2,t1,t2,es,lb0,zM,esame,lb3,t3,Bool.not_false,hKn]
end Go.Am.X

namespace Go.Am.X
def CRenR (vs:List V)(H:Heap)(o:Out):Prop:=(∃ (v:V) (la:List Nat) (a b:Int),vs=[v,.int .i64 a,.int .i64 b]/\Rd H 1 v la.length (ws .u8 la)/\Src H v/\Roomy v/\inH H 0 tabs=true)/\o=.val (.bool true)
theorem zRc:∀ base w0,zCC PG base w0 zGQ (outP CRenR):=by
 obtain⟨N,hN⟩:∃ N:Nat,9223372036854775808<N:=⟨9223372036854775809,by decide⟩
 refine zON zMg zQP N 8 _ ?_
 rintro vs H o hw hvs ⟨⟨v,la,a,b,rfl,hr,hs,hro,ht⟩,rfl⟩ Z
 obtain⟨H',Z',g,k⟩:=zMN (CR zD N 7) (CR zD N 6) (N:=N) (by omega) (fun hw Z=>zRV (CR zD N 6) N hw Z) (fun s H Z q=>zSE (CR zD N 6) N s H Z q) (cr_PutOkR hN) (cr_FndOkR hN) (cr_RenOkR hN) (cr_Ren0OkR hN) (fun _ _ _ _=>rfl)
  (fun n hn H Z q=>zPm (CR zD N 6) N (by omega) n hn H Z q) (fun n _ hh H Z=>zQb (CR zD N 6) N n hh H Z) (fun _ _ _ _ _=>rfl) (fun H Z q _=>zS0 (fun _ _ _ _=>rfl) H Z q) la a b hw hr hs hro ht Z
 exact⟨_,H',Z',k retK,g,rfl,trivial⟩
theorem cren_fun:Fun1 CRenR:=fun vs H o o' k k'=>k.2.trans k'.2.symm
theorem zRd {v:V}{H:Heap}{la:List Nat}(hr:Rd H 1 v la.length (ws .u8 la)/\Src H v)(hro:Roomy v)(a b:Int)(ht:inH H 0 tabs=true)(Z:Tape):outP CRenR [v,.int .i64 a,.int .i64 b] H Z=some (.bool true,H,Z) :=
 zRh cren_fun ⟨⟨v,la,a,b,rfl,hr.1,hr.2,hro,ht⟩,rfl⟩ Z
theorem tabs_start {l:List (Option (List V))}(h:l[0]?=some (some pow10V)):inH (start l) 0 tabs=true :=
 inH_mk tabs 0 zOM fun j cs hj=>by
  obtain⟨rfl,rfl⟩:=tabs_at hj
  rw[Nat.zero_add];exact zRG h
end Go.Am.X

