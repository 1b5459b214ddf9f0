/- The abstract machine, printed functions of the program, and what they are shown to be. -/
import Derived.Test.YtejpgcemblankaaGreatDoorCFRL5
import Derived.Test.YtejpgcemblankaaGreatDoorCFRL4
set_option linter.unusedSimpArgs false
set_option linter.unusedVariables false
set_option linter.unusedSectionVars false
set_option maxRecDepth 100000
namespace Go.Am.X
theorem splitF_mem:∀ (n:Nat) (s:Bs),s.length<=n->∀ (q:Bool) (cur:Bs),(∀ p ∈ (zt q cur s).1,p.length<=cur.length+s.length)/\(zt q cur s).2.length<=cur.length+s.length:=by
 intro n
 induction n with
 | zero =>
  intro s hn q cur
  obtain rfl:=List.eq_nil_of_length_eq_zero (by omega:s.length=0)
  simp[zt]
 | succ n ih =>
  intro s hn q cur
  cases s with
  | nil=>simp[zt]
  | cons x r =>
   have hr:r.length<=n:=by simp at hn;omega
   have up:∀ (q':Bool) (cur' r':Bs),r'.length<=n->cur'.length+r'.length<=cur.length+(x::r).length->zt q cur (x::r)=zt q' cur' r'->(∀ p ∈ (zt q cur (x::r)).1,p.length<=cur.length+(x::r).length)/\(zt q cur (x::r)).2.length<=cur.length+(x::r).length:=by
    intro q' cur' r' h1 h2 h3
    rw[h3]
    obtain⟨a,b⟩:=ih r' h1 q' cur'
    exact⟨fun p hp=>by have:=a p hp;omega,by omega⟩
   by_cases c34:x=34
   ·exact up (!q) (cur++[x]) r hr (by simp;omega) (zOB q cur r c34)
   ·cases q with
    | true =>
     by_cases c92:x=92
     ·cases r with
      | nil=>rw[zQP cur c34 c92];simp
      | cons y r'=>exact up true (cur++[x,y]) r' (by simp at hr;omega) (by simp;omega) (zQD cur y r' c34 c92)
     ·exact up true (cur++[x]) r hr (by simp;omega) (zRc cur r c34 c92)
    | false =>
     by_cases c44:x=44
     ·rw[zNn cur r c34 c44]
      obtain⟨a,b⟩:=ih r hr false []
      refine⟨fun p hp=>?_,by simp at b ⊢;omega⟩
      rcases List.mem_cons.1 hp with e | e
      ·rw[e];omega
      ·have:=a p e;simp at this ⊢;omega
     ·exact up false (cur++[x]) r hr (by simp;omega) (zP7 cur r c34 c44)
theorem piece_len {s p:Bs}(h:p ∈ zLR s):p.length<=s.length:=by
 unfold zLR at h
 obtain⟨y,hy,rfl⟩:=List.mem_map.1 h
 obtain⟨a,b⟩:=splitF_mem s.length s nl false []
 have:=zHB tight y
 rcases List.mem_append.1 hy with e | e
 ·have:=a y e;simp at this;omega
 ·rw[List.mem_singleton]at e;subst e;simp at b;omega
theorem zP9 {name:Bs}{hs:List Hd}(hS:Small hs){p:Bs}(h:p ∈ zBw name hs):p.length<=10002000:=by
 unfold zBw at h
 split at h
 ·have:=piece_len h;have:=zLt hS name;omega
 ·simp at h
theorem zQl {name:Bs}{hs:List Hd}(hS:Small hs):(zBw name hs).length<=10002001:=by
 unfold zBw
 split
 ·have:=piecesB_len (getT name hs);have:=zLt hS name;omega
 ·simp
theorem unq_len (v:Bs):(unq v).length<=v.length:=by
 unfold unq
 split
 ·rw[List.length_drop,List.length_take];omega
 ·exact Nat.le_refl _
theorem pieceT_len (s:Bs):(zBY s).1.length<=s.length/\(zBY s).2.length<=s.length:=by
 unfold zBY
 cases h:cutB 61 s with
 | none =>
  have h1:=zPy s
  have h2:=zPy ([]:Bs)
  have h3:=unq_len (strip [])
  exact⟨by rw[lower_len];exact h1,by simp at h2;simp only;rw[h2]at h3 ⊢;simp at h3;simp[h3]⟩
 | some ab =>
  obtain⟨a,b⟩:=ab
  have h0:=cutB_len 61 s a b h
  have h1:=zPy a
  have h2:=zPy b
  have h3:=unq_len (strip b)
  exact⟨by simp only;rw[lower_len];omega,by simp only;omega⟩
theorem cutOk_of {c:zC}(h:RCutOk c)(x:UInt8):CutOk c x:=fun s hs H Z q=>h s x hs H Z q
theorem stripOk_of {c:zC}(h:zSa c):StripOk c:=fun s hs H hw Z q=>⟨H,Gr.refl hw,h s (by omega) H Z q⟩
theorem stripOk'_of {c:zC}(h:zSa c):zTR c:=fun s hs H hw Z=>⟨H,Z,Gr.refl hw,fun q=>h s (by omega) H Z q⟩
theorem lowOk_of {c:zC}(h:NLowOk c):LowOk c:=fun s hs H hw Z q=>⟨H,Z,Gr.refl hw,h s hs H Z q⟩
theorem intOk_of {c:zC}(h:NIntOk c):IntOk c:=fun s hs H Z q=>h s (by omega) H Z q
abbrev PieceR:=RS 140737488355328 fun s=>.tup [.str (zBY s).1,.str (zBY s).2]
noncomputable abbrev rw_piece:List Row:=[Row.fn zGr zEc zKj,Row.prim zDe (outP CutR),Row.prim zBu (outP zTG),Row.prim zBD (outP LowR)]
theorem p_age_piece:∀ base w0,zCA PG base w0 zGr (outP PieceR):=by
 obtain⟨N,hN⟩:=someN
 refine zOP zMi (l:=rw_piece) (.fn zNz zLc (.prim zSt (.prim zPV (.prim zPS (.nil _))))) N 2 _ ?_
 rintro vs H o hw hvs ⟨hp,rfl⟩ Z
 unfold strP at hp;split at hp
 ·obtain⟨H',Z',g,k⟩:=zRm (CR rw_piece N 1) N (cutOk_of (zTL fun _ _ _ _=>rfl) 61) (stripOk_of (zPv fun _ _ _ _=>rfl)) (lowOk_of (zPn fun _ _ _ _=>rfl)) _ hp H hw Z retK
  exact⟨_,H',Z',k,g,rfl,trivial,trivial,trivial⟩
 ·exact hp.elim
abbrev zQo (hs:List Hd):List V->Prop | []=>Small hs | _=>False
abbrev CtlG (_:Bool)(hs:List Hd):List V->Out | []=>.val (.agg (ctlC (zA8 hs))) | _=>.val (.tup [])
theorem ctl_vok (H:Heap)(st:Ctl):VOk H (.agg (ctlC st)):=⟨trivial,trivial,trivial,trivial⟩
noncomputable abbrev zRI:List Row:=[Row.fn zBn zEX zKn,Row.prim zA0 (outP (RH zNf SplitG)),Row.prim zGr (outP PieceR),Row.prim zEy (outP IntR)]
theorem zRL:∀ base w0,zCA PG base w0 zBn (outP (RH zQo CtlG)):=by
 obtain⟨N,hN⟩:=someN
 refine primRH (N:=N) (l:=zRI) (.fn zNb zLO (.prim zN7 (.prim p_age_piece (.prim zRw (.nil _))))) 2 _ (fun hs args hp lv H hw hr Z=>?_)
 unfold zQo at hp;split at hp
 ·obtain⟨H',Z',g,k⟩:=zRe (CR zRI N 1) N (Nat.le_of_lt hN) hs (intOk_of (zRh fun _ _ _ _=>rfl)) (fun s hs H hw Z=>⟨H,Z,Gr.refl hw,fun q=>callS (c:=CR zRI N 1) (f:=zGr) (M:=140737488355328) (g:=fun s=>.tup [.str (zBY s).1,.str (zBY s).2]) (fun _ _ _ _=>rfl) s hs H Z q⟩)
   (fun v H hw hr Z=>by
    obtain⟨v',H',Z',a1,a2,a3⟩:=k_Split (c:=CR zRI N 1) (f:=zA0) (fun _ _ _ _=>rfl) hp (name:=zO1) (by decide) hw hr Z
    exact⟨v',H',Z',a1,by have:=zQl (name:=zO1) hp;omega,a2,a3⟩) (fun s hs'=>by have:=zP9 hp hs';omega) (fun s hs'=>by have:=zP9 hp hs';have:=(pieceT_len s).2;omega) lv H hw hr Z
  exact⟨_,H',Z',g,⟨rfl,ctl_vok _ _⟩,k⟩
 ·exact hp.elim
theorem k_Ctl {c:zC}{f:Nat}(h:IsP c f (RH zQo CtlG)){hs:List Hd}(hS:Small hs){lv:V}{H:Heap}(hr:RdH H lv hs)(Z:Tape)(q:KV):c f [lv] H Z q=q (.agg (ctlC (zA8 hs))) H Z:=RH_val (l:=[]) h hr hS rfl Z q
abbrev TwoI (vs:List V):Prop:=∃ a b:Int,vs=[.int .i64 a,.int .i64 b]/\InI a/\InI b
abbrev AddG2:List V->V | [.int .i64 a,.int .i64 b]=>.int .i64 (addT a b) | _=>.tup []
abbrev AgeAddR:=RV TwoI AddG2
theorem p_age_Add:∀ base w0,zCA PG base w0 zJN (outP AgeAddR):=by
 obtain⟨N,hN⟩:=someN
 refine primRV (N:=N) (l:=[Row.fn zJN zFy zLk]) (.fn zQL zN2 (.nil _)) 1 _ (fun vs H h=>?_) (fun vs h H hw Z=>?_)
 ·obtain⟨a,b,rfl,_⟩:=h;trivial
 ·obtain⟨a,b,rfl,ha,hb⟩:=h
  exact⟨H,Z,Gr.refl hw,fun q=>s_age_Add_ev (CR [Row.fn zJN zFy zLk] N 0) N ha hb H Z q⟩
theorem k_Add2 {c:zC}{f:Nat}(h:IsP c f AgeAddR){a b:Int}(ha:InI a)(hb:InI b)(H:Heap)(Z:Tape)(q:KV):c f [.int .i64 a,.int .i64 b] H Z q=q (.int .i64 (addT a b)) H Z:=RV_call h (vs:=[.int .i64 a,.int .i64 b]) ⟨a,b,rfl,ha,hb⟩ H Z q
abbrev zRp (hs:List Hd)(l:List V):Prop:=∃ a b:Int,l=[.int .i64 a,.int .i64 b]/\InI a/\InI b/\Small hs
abbrev AgeG (_:Bool)(hs:List Hd):List V->Out | [.int .i64 a,.int .i64 b]=>.val (.int .i64 (ageT hs a b)) | _=>.val (.tup [])
abbrev FreshG (_:Bool)(hs:List Hd):List V->Out | [.int .i64 a,.int .i64 b]=>.val (.bool (zM1 hs a b)) | _=>.val (.tup [])
noncomputable abbrev rw_Age:List Row:=[Row.fn zFk zHF zN6,Row.fn zMI zEW zKU,Row.prim zJN (outP AgeAddR),Row.prim zAS (outP (RH zNf GetG)),Row.prim zBu (outP zTG),Row.prim zEy (outP IntR)]
theorem p_age_Age:∀ base w0,zCA PG base w0 zFk (outP (RH zRp AgeG)):=by
 obtain⟨N,hN⟩:=someN
 refine primRH (N:=N) (l:=rw_Age) (.fn zQG zOK (.fn zOE zLb (.prim p_age_Add (.prim zPi (.prim zPV (.prim zRw (.nil _))))))) 2 _ (fun hs args hp lv H hw hr Z=>?_)
 obtain⟨a,b,rfl,ha,hb,hS⟩:=hp
 obtain⟨H',Z',g,k⟩:=zSj (CR rw_Age N 1) N hs (fun v H hw hr Z=>⟨H,Z,Gr.refl hw,fun q=>k_Get (c:=CR rw_Age N 1) (f:=zAS) (fun _ _ _ _=>rfl) hS (name:=zKh) (by decide) hr Z q⟩) (by have:=zLt hS zKh;omega) (stripOk'_of (zPv fun _ _ _ _=>rfl)) (intOk_of (zRh fun _ _ _ _=>rfl))
  (fun a b ha hb H Z q=>zSE (CR rw_Age N 0) N ha hb H Z q) (fun a b ha hb H Z q=>k_Add2 (c:=CR rw_Age N 1) (f:=zJN) (fun _ _ _ _=>rfl) ha hb H Z q) ha hb lv H hw hr Z
 exact⟨_,H',Z',g,⟨rfl,trivial⟩,k⟩
theorem k_Age {c:zC}{f:Nat}(h:IsP c f (RH zRp AgeG)){hs:List Hd}(hS:Small hs){a b:Int}(ha:InI a)(hb:InI b){lv:V}{H:Heap}(hr:RdH H lv hs)(Z:Tape)(q:KV):c f [lv,.int .i64 a,.int .i64 b] H Z q=q (.int .i64 (ageT hs a b)) H Z :=
 RH_val (l:=[.int .i64 a,.int .i64 b]) h hr ⟨a,b,rfl,ha,hb,hS⟩ rfl Z q
noncomputable abbrev zRE:List Row:=[Row.fn zGv zEZ zKN,Row.prim zBn (outP (RH zQo CtlG)),Row.prim zFk (outP (RH zRp AgeG))]
theorem p_age_Fresh:∀ base w0,zCA PG base w0 zGv (outP (RH zRp FreshG)):=by
 obtain⟨N,hN⟩:=someN
 refine primRH (N:=N) (l:=zRE) (.fn zOJ zLf (.prim zRL (.prim p_age_Age (.nil _)))) 2 _ (fun hs args hp lv H hw hr Z=>?_)
 obtain⟨a,b,rfl,ha,hb,hS⟩:=hp
 obtain⟨H',Z',g,k⟩:=zRs (CR zRE N 1) N hs (fun v H hw hr Z=>⟨H,Z,Gr.refl hw,fun q=>k_Ctl (c:=CR zRE N 1) (f:=zBn) (fun _ _ _ _=>rfl) hS hr Z q⟩) (fun a b ha hb v H hw hr Z=>⟨H,Z,Gr.refl hw,fun q=>k_Age (c:=CR zRE N 1) (f:=zFk) (fun _ _ _ _=>rfl) hS ha hb hr Z q⟩) ha hb lv H hw hr Z
 exact⟨_,H',Z',g,⟨rfl,trivial⟩,k⟩
theorem k_Fresh {c:zC}{f:Nat}(h:IsP c f (RH zRp FreshG)){hs:List Hd}(hS:Small hs){a b:Int}(ha:InI a)(hb:InI b){lv:V}{H:Heap}(hr:RdH H lv hs)(Z:Tape)(q:KV):c f [lv,.int .i64 a,.int .i64 b] H Z q=q (.bool (zM1 hs a b)) H Z :=
 RH_val (l:=[.int .i64 a,.int .i64 b]) h hr ⟨a,b,rfl,ha,hb,hS⟩ rfl Z q
end Go.Am.X

namespace Go.Am.X
abbrev fvM (a:Nat):V:=.func zFn [] [.ptr a 0,.ptr (a+1) 0]
theorem zQZ (c:zC)(N:Nat)(url:Bs){av:V}(ha:av.cells=[av]){H:Heap}(hw:WF H)(Z:Tape) :
  ∃ H',Gr H.size H H'/\H'.size=H.size+2/\Bx H' H.size [.str url]/\Bx H' (H.size+1) [av]/\∀ q,zJ0 c N (.str url) av H Z q=q (fvM H.size) H' Z:=by
 have e0:eBox [.str url] H Z=some (.ptr H.size 0,H.new [.str url] 1 true,Z):=rfl
 have g1:=Gr.new hw [.str url] 1 true
 have b1:Bx (H.new [.str url] 1 true) H.size [.str url]:=Bx.new H _ 1 true (by simp)
 have z1:(H.new [.str url] 1 true).size=H.size+1:=rfl
 generalize H.new [.str url] 1 true=H1 at e0 g1 b1 z1
 have e1:eBox [av] H1 Z=some (.ptr (H.size+1) 0,H1.new [av] 1 true,Z):=by rw[<- z1];simp only[eBox,ha];rfl
 have g2:=Gr.new g1.wf [av] 1 true
 have b2:Bx (H1.new [av] 1 true) (H.size+1) [av]:=by rw[<- z1];exact Bx.new H1 _ 1 true (by simp)
 have ef:V.func zFn (List.take 0 [V.ptr H.size 0,V.ptr (H.size+1) 0]) (List.drop 0 [V.ptr H.size 0,V.ptr (H.size+1) 0])=fvM H.size:=rfl
 exact⟨_,g1.trans g2 g1.size,by rw[show(H1.new [av] 1 true).size=H1.size+1 from rfl,z1],zE6 b1 g1.wf g2,b2,fun q=>by simp only[zJ0,e0,e1,zh,ef,zJ]⟩
abbrev MeantOk (c:zC):Prop:=∀ (url:Bs) {av:V},av.cells=[av]->∀ {H:Heap},WF H->∀ Z,∃ H',Gr H.size H H'/\H'.size=H.size+2/\Bx H' H.size [.str url]/\Bx H' (H.size+1) [av]/\∀ q,c zH2 [.str url,av] H Z q=q (fvM H.size) H' Z
abbrev zOR (c:zC):Prop:=∀ {ask:List Hd},Small ask->∀ {av:V} {a:Nat} {url:Bs} {D:Nat->Prop} {r:CRow} {H:Heap},WF H->RowM D H r->r.vs.length<=1000000->(∀ x ∈ r.vs,x.1.length<=140737488355328)->H.cells? a=some [.str url]->H.cells? (a+1)=some [av]->RdH H av ask->∀ Z,
  ∃ H' Z',Gr H.size H H'/\∀ q,opK c .callv [fvM a,rpV r] H Z q=q (.bool (zJe url ask r)) H' Z'
def zQT (url:Bs)(ask:List Hd)(o:Option CRow)(r:CRow):Option CRow:=if zJe url ask r=true/\(match o with | none=>true | some b=>decide (b.ord<r.ord))=true then some r else o
def outV:Option CRow->V
 | none=>.nilp
 | some b=>rpV b
def OkVs (r:CRow):Prop:=r.vs.length<=1000000/\∀ x ∈ r.vs,x.1.length<=140737488355328
theorem l_find (c:zC)(N:Nat)(hM:zOR c){ask:List Hd}(hsm:Small ask){av:V}{a:Nat}{url:Bs}{D:Nat->Prop}(rows:List CRow)(hl:rows.length<=1000)(v:V){H0:Heap}(hw0:WF H0)(hr:Rd H0 1 v rows.length (rows.flatMap rpC))(hm:∀ r ∈ rows,RowM D H0 r/\OkVs r)(hu:Bx H0 a [.str url])(hb:Bx H0 (a+1) [av])(ha:RdH H0 av ask)(t2:V) :
  ∀ (l pre:List CRow) (o:Option CRow) (H:Heap) (Z:Tape) (m:Nat),rows=pre++l->l.length<m->Gr H0.size H0 H->(∀ b,o=some b->b ∈ rows) ->
  ∃ H' Z',Gr H0.size H0 H'/\(∀ b,l.foldl (zQT url ask) o=some b->b ∈ rows)/\∀ (fr:T V) k,fr.get 2=some t2->fr.get 7=some (outV o)->fr.get 8=some (fvM a)->fr.get 17=some v->fr.get 18=some (.int .i64 (rows.length:Int))->fr.get 19=some (.int .i64 (pre.length:Int)) ->
   zAZ (zAA c N) m ⟨fr,H⟩ Z k=k (.exit 0) ⟨(T.s (T.s .leaf 2 t2) 7 (outV (l.foldl (zQT url ask) o))),H'⟩ Z':=by
 intro l
 induction l with
 | nil =>
  intro pre o H Z m he hm' hg ho
  obtain⟨m,rfl⟩:∃ j,m=j+1:=⟨m-1,by omega⟩
  have e1:decide ((pre.length:Int)<(rows.length:Int))=false:=decide_eq_false (by rw[he];simp)
  refine⟨H,Z,hg,ho,fun fr k f2 f7 f8 f17 f18 f19=>?_⟩
  rw[zI]
  simp only[zAA,zA f2,zA f7,zA f8,zA f17,zA f18,zA f19,zN,e1,zO]
  rfl
 | cons r l ih =>
  intro pre o H Z m he hm' hg ho
  obtain⟨m,rfl⟩:∃ j,m=j+1:=⟨m-1,by omega⟩
  have hw:=hg.wf
  have hlt:pre.length<rows.length:=by rw[he];simp
  have e1:decide ((pre.length:Int)<(rows.length:Int))=true:=decide_eq_true (by omega)
  have e3:wr .i64 ((pre.length:Int)+Int.ofNat 1)=((pre++[r]).length:Int):=by rw[adI (by omega)];simp
  have hrm:r ∈ rows:=by rw[he];simp
  have hrH:=hr.gr hg hw0 nl
  obtain⟨id,o',p1,p2⟩:=Cells.at rpOk (v:=v) pre r l (H:=H) (by rw[<- he];exact hrH)
  have q1:=(p2 H (by rw[<- he];exact hrH)).2 0 _ (rp0 r)
  rw[Nat.add_zero]at q1
  have lift:∀ {Hx},Gr H0.size H0 Hx->∀ b ∈ rows,RowM D Hx b:=fun hx b hb=>(hm b hb).1.chg hw0 (hx.chg (P:=fun _=>False)) (fun _ _ _=>not_false) not_false
  obtain⟨H1,Z1,g1,k1⟩:=hM hsm hw (lift hg r hrm) (hm r hrm).2.1 (hm r hrm).2.2 (zE6 hu hw0 hg).cells (zE6 hb hw0 hg).cells (ha.gr hg hw0 nl) Z
  have hg1:=hg.trans g1 hg.size
  have nil0:lPeq false [.nilp,.nilp] H1=some (.bool true):=rfl
  have nil1:∀ b:CRow,lPeq false [rpV b,.nilp] H1=some (.bool false):=fun _=>rfl
  have nck:∀ b:CRow,zBB [rpV b]=some (.ptr b.id 0):=fun _=>rfl
  have lo:∀ b ∈ rows,zM [.ptr b.id (0+6)] H1=some (.int .i64 b.ord):=fun b hb=>zR (lift hg1 b hb).bx.bx.cells rfl
  have go:∀ (o2:Option CRow),zQT url ask o r=o2->(∀ b,o2=some b->b ∈ rows) ->
    (∀ (fr:T V) k,fr.get 2=some t2->fr.get 7=some (outV o)->fr.get 8=some (fvM a)->fr.get 17=some v->fr.get 18=some (.int .i64 (rows.length:Int))->fr.get 19=some (.int .i64 (pre.length:Int)) ->
     zAZ (zAA c N) (m+1) ⟨fr,H⟩ Z k=zAZ (zAA c N) m ⟨(T.s (T.s (T.s (T.s (T.s (T.s (T.s (T.s .leaf 2 t2) 7 (outV o2)) 8 (fvM a)) 17 v) 18 (.int .i64 (rows.length:Int))) 19 (.int .i64 (pre.length:Int))) 42 (.int .i64 ((pre++[r]).length:Int))) 19 (.int .i64 ((pre++[r]).length:Int))),H1⟩ Z1 k) ->
    ∃ H' Z',Gr H0.size H0 H'/\(∀ b,(r::l).foldl (zQT url ask) o=some b->b ∈ rows)/\∀ (fr:T V) k,fr.get 2=some t2->fr.get 7=some (outV o)->fr.get 8=some (fvM a)->fr.get 17=some v->fr.get 18=some (.int .i64 (rows.length:Int))->fr.get 19=some (.int .i64 (pre.length:Int)) ->
     zAZ (zAA c N) (m+1) ⟨fr,H⟩ Z k=k (.exit 0) ⟨(T.s (T.s .leaf 2 t2) 7 (outV ((r::l).foldl (zQT url ask) o))),H'⟩ Z':=by
   intro o2 hs ho2 step
   obtain⟨H',Z',i1,i2,i3⟩:=ih (pre++[r]) o2 H1 Z1 m (by rw[he];simp) (by simp at hm';omega) hg1 ho2
   refine⟨H',Z',i1,by rw[List.foldl_cons,hs];exact i2,fun fr k f2 f7 f8 f17 f18 f19=>?_⟩
   rw[step fr k f2 f7 f8 f17 f18 f19,List.foldl_cons,hs]
   exact i3 _ k (by simp[T.get_set]) (by simp[T.get_set]) (by simp[T.get_set]) (by simp[T.get_set]) (by simp[T.get_set]) (by simp[T.get_set])
  cases hmt:zJe url ask r with
  | false =>
   rw[hmt]at k1
   refine go o (by unfold zQT;rw[hmt,if_neg (by simp)]) ho fun fr k f2 f7 f8 f17 f18 f19=>?_
   rw[zI]
   simp only[zAA,zA f2,zA f7,zA f8,zA f17,zA f18,zA f19,zN,e1,zQ,p1,q1,zJ,k1,zBP,zCo,zS,cond_false,zO,zBd,zV,↓reduceIte,Nat.reduceEqDiff,ze,e3]
   rfl
  | true =>
   rw[hmt]at k1
   cases o with
   | none =>
    refine go (some r) (by unfold zQT;rw[hmt,if_pos (by simp)]) (fun b hb=>by cases hb;exact hrm) fun fr k f2 f7 f8 f17 f18 f19=>?_
    rw[zI]
    have f7':fr.get 7=some .nilp:=f7
    simp only[zAA,zA f2,zA f7',zA f8,zA f17,zA f18,zA f19,zN,e1,zQ,p1,q1,zJ,k1,zCs,retK,zh,nil0,zCa,zCo,zS,cond_true,zBd,zV,↓reduceIte,Nat.reduceEqDiff,ze,e3]
    rfl
   | some b =>
    have hb:=ho b rfl
    have f7g:∀ {fr:T V},fr.get 7=some (outV (some b))->fr.get 7=some (rpV b):=fun h=>h
    by_cases hgt:b.ord<r.ord
    ·refine go (some r) (by unfold zQT;rw[hmt,if_pos (by simp[hgt])]) (fun b hb=>by cases hb;exact hrm) fun fr k f2 f7 f8 f17 f18 f19=>?_
     rw[zI]
     simp only[zAA,zA f2,zA (f7g f7),zA f8,zA f17,zA f18,zA f19,zN,e1,zQ,p1,q1,zJ,k1,zCs,zD5,retK,zh,nil1,nck,zF,lo r hrm,lo b hb,zAV,decide_eq_true hgt,zS,cond_true,cond_false,zBd,zV,↓reduceIte,Nat.reduceEqDiff,ze,e3]
     rfl
    ·refine go (some b) (by unfold zQT;rw[hmt,if_neg (by simp[hgt])]) ho fun fr k f2 f7 f8 f17 f18 f19=>?_
     rw[zI]
     simp only[zAA,zA f2,zA (f7g f7),zA f8,zA f17,zA f18,zA f19,zN,e1,zQ,p1,q1,zJ,k1,zCs,zD5,retK,zh,nil1,nck,zF,lo r hrm,lo b hb,zAV,decide_eq_false hgt,zS,cond_true,cond_false,zO,zBd,zV,↓reduceIte,Nat.reduceEqDiff,ze,e3]
     rfl
abbrev ParsOk (c:zC):Prop:=∀ {hs:List Hd},Small hs->∀ {lv:V} {H:Heap},RdH H lv hs->∀ (Z:Tape) (q:KV),c zBn [lv] H Z q=q (.agg (ctlC (zA8 hs))) H Z
def zNU (url:Bs)(ask:List Hd)(rows:List CRow):Option CRow:=if(zA8 ask).1=true then none else rows.foldl (zQT url ask) none
theorem zNX (cc:zC){N:Nat}(hN:9223372036854775807<=N)(hMt:MeantOk cc)(hM:zOR cc)(hP:ParsOk cc){P D:Nat->Prop}{H:Heap}{c:Nat}{rows:List CRow}{puts:Int}(hc:CacM P D H c rows puts)(hw:WF H)(hl:rows.length<=1000)(hok:∀ r ∈ rows,OkVs r)(url:Bs){ask:List Hd}(hsm:Small ask){av:V}(ha:RdH H av ask)(Z:Tape) :
  ∃ H' Z',Gr H.size H H'/\(∀ b,zNU url ask rows=some b->b ∈ rows)/\∀ q,zFJ cc N (.ptr c 0) (.str url) av H Z q=q (outV (zNU url ask rows)) H' Z':=by
 obtain⟨v,hb,hg⟩:=hc.bx
 obtain⟨H1,g1,z1,b1,b2,k1⟩:=hMt url (rd_same ha.1).2.1 hw Z
 have l1:zM [.ptr c 0] H1=some v:=zR (zE6 hb hw g1).cells rfl
 have nck:zBB [.ptr c 0]=some (.ptr c 0):=rfl
 have pl:=GenL.pLen hg
 have e1:((rows.length:Nat):Int)=(rows.length:Int):=rfl
 obtain⟨H2,Z2,g2,m2,k2⟩:=l_find cc N hM hsm rows hl v g1.wf ((GenL.rd hg).gr g1 hw nl) (fun r hr=>⟨(hc.mem r hr).chg hw (g1.chg (P:=fun _=>False)) (fun _ _ _=>not_false) not_false,hok r hr⟩) b1 b2 (ha.gr g1 hw nl) av rows [] none H1 Z N rfl (by omega) (Gr.refl g1.wf) (fun b h=>by cases h)
 have g12:=g1.trans g2 g1.size
 have kP:=hP hsm (ha.gr g12 hw nl) Z2
 have pf:zKk 0 1 false [.agg (ctlC (zA8 ask))]=some (.bool (zA8 ask).1):=rfl
 refine⟨H2,Z2,g12,fun b hb'=>?_,fun q=>?_⟩
 ·unfold zNU at hb'
  split at hb'
  ·cases hb'
  ·exact m2 b hb'
 ·simp only[zFJ,k1,nck,zF,Nat.add_zero,zJ,l1,pl]
  rw[k2 _ _ (by simp[T.get_set]) (by simp[T.get_set];rfl) (by simp[T.get_set]) (by simp[T.get_set]) (by simp[T.get_set]) (by simp[T.get_set])]
  unfold zNU
  cases hns:(zA8 ask).1 with
  | true =>
   rw[hns]at pf
   rw[if_pos rfl]
   simp only[zX,Nat.beq_refl,cond_true,seqK,zFa,zV,↓reduceIte,Nat.reduceEqDiff,kP,pf,zJ,zQ]
   rfl
  | false =>
   rw[hns]at pf
   rw[if_neg (by decide)]
   simp only[zX,Nat.beq_refl,cond_true,seqK,zFa,zV,↓reduceIte,Nat.reduceEqDiff,kP,pf,zJ,zO]
end Go.Am.X

namespace Go.Am.X
theorem zRt (cc:zC)(N:Nat){H:Heap}(hw:WF H)(Z:Tape):∃ H',CacM (fun _=>False) (fun _=>False) H' H.size [] 0/\Gr H.size H H'/\H'.size=H.size+1/\∀ q,zMW cc N H Z q=q (.ptr H.size 0) H' Z:=by
 have b1:Bx (H.new [.nils,.int .i64 (.ofNat 0)] 2 true) H.size [.nils,.int .i64 0]:=Bx.new H _ 2 true (by simp)
 have pb:zC7 [.nils,(.int .i64 (.ofNat 0))] [] []=some (.agg [.nils,(.int .i64 (.ofNat 0))]):=rfl
 have e0:eBox [.agg [.nils,(.int .i64 (.ofNat 0))]] H Z=some (.ptr H.size 0,H.new [.nils,.int .i64 (.ofNat 0)] 2 true,Z):=rfl
 exact⟨_,⟨⟨.nils,b1,GenL.nil _ _ _⟩,fun r h=>by simp at h,fun _ h=>h.elim,fun _ h=>h.elim,fun _ h=>h.elim,fun h=>h,fun h=>h,fun r h=>by simp at h⟩,Gr.new hw _ _ _,rfl,fun q=>by simp only[zMW,pb,zJ,e0,zh]⟩
theorem zNd (cc:zC)(N:Nat){P D:Nat->Prop}{H:Heap}{c:Nat}{rows:List CRow}{puts:Int}(hc:CacM P D H c rows puts)(Z:Tape)(q:KV):zFx cc N (.ptr c 0) H Z q=q (.int .i64 (rows.length:Int)) H Z:=by
 obtain⟨v,hb,hg⟩:=hc.bx
 have l1:zM [.ptr c 0] H=some v:=zR hb.cells rfl
 have nck:zBB [.ptr c 0]=some (.ptr c 0):=rfl
 have pl:=GenL.pLen hg
 simp only[zFx,nck,zF,Nat.add_zero,zJ,l1,pl]
abbrev zSn (c:zC):Prop:=∀ {a:Nat} {url:Bs} {D:Nat->Prop} {r:CRow} {H:Heap},RowM D H r->H.cells? a=some [.str url]->∀ Z q,c zAq [rpV r,.ptr a 0] H Z q=q (.bool (decide (r.url=url))) H Z
theorem zNV (cc c' c'':zC)(N:Nat)(hD:DelC cc c' c'')(h1:zSn c')(h1':zSn c''){P D:Nat->Prop}{H:Heap}{c:Nat}{rows:List CRow}{puts:Int}(hc:CacM P D H c rows puts)(hw:WF H)(hl:rows.length<=1000)(url:Bs)(Z:Tape) :
  ∃ P' H' Z',CacM P' D H' c (rows.filter fun r=>!decide (r.url=url)) puts/\(∀ i,i<H.size->P' i->P i)/\Chg (fun i=>P i∨i=c) H H'/\∀ q,zFR cc N (.ptr c 0) (.str url) H Z q=q (.int .i64 ((rows.length-(rows.filter fun r=>!decide (r.url=url)).length:Nat):Int)) H' Z':=by
 obtain⟨v,hb,hg⟩:=hc.bx
 have hcl:=hb.lt hw
 have e0:eBox [.str url] H Z=some (.ptr H.size 0,H.new [.str url] 1 true,Z):=rfl
 have g1:=Gr.new hw [.str url] 1 true
 have b1:Bx (H.new [.str url] 1 true) H.size [.str url]:=Bx.new H _ 1 true (by simp)
 have z1:(H.new [.str url] 1 true).size=H.size+1:=rfl
 generalize H.new [.str url] 1 true=H1 at e0 g1 b1 z1
 let P1:Nat->Prop:=fun i=>P i∨H1.size<=i
 have hP1:zQt P1 H1:=fun i hi=>.inr hi
 have na:¬ P1 H.size:=fun h=>h.elim (fun h=>by have:=hc.pl _ h;omega) (fun h=>by omega)
 have nc:¬ P1 c:=fun h=>h.elim hc.pc (fun h=>by omega)
 have nr:∀ r ∈ rows,¬ P1 r.id:=fun r hr h=>h.elim (hc.pr r hr).1 (fun h=>by have:=(hc.mem r hr).bx.bx.lt hw;omega)
 have sepD:∀ i,P1 i->¬ D i:=fun i h hd=>h.elim (fun h=>hc.sep i h hd) (fun h=>by have:=hc.dl i hd;omega)
 have c1:=zE6 hb hw g1
 have r1:∀ r ∈ rows,RowM D H1 r:=fun r hr=>(hc.mem r hr).chg hw (g1.chg (P:=fun _=>False)) (fun _ _ _=>not_false) not_false
 have hg1:GenE P1 H1 rpC 1 v rows:=GenL.gr (GenL.weaken hg hw (fun i _ h=>.inl h)) hw g1
 have l1:zM [.ptr c 0] H1=some v:=zR c1.cells rfl
 have tst:∀ {c':zC},zSn c'->TstV c' (.func zAq [] [.ptr H.size 0]) rpV (fun r=>decide (r.url=url)) P1 H1 rows:=fun h1 r hr Ha hh τa =>
  ⟨Ha,τa,Gr.refl hh.wf,fun q=>h1 ((r1 r hr).chg g1.wf hh (fun i _ hd h=>sepD i h hd) (nr r hr)) (b1.chg g1.wf hh na).cells τa q⟩
 obtain⟨w,H3,Z3,d1,d2,d3⟩:=hD (fun r=>decide (r.url=url)) (.func zAq [] [.ptr H.size 0]) g1.wf rows (by omega) v hg1 (tst h1) (tst h1') hP1 Z
 have c3:=c1.chg g1.wf d2 nc
 obtain⟨H6,f1,f2,f3⟩:=c3.eStore d2.wf 0 w 1 (by rw[(GenL.scal d1).1];rfl) (by simp) (by omega) (by rw[(GenL.scal d1).1];simp[(GenL.scal d1).2]) Z3
 have f2':Bx H6 c [w,.int .i64 puts]:=by rw[(GenL.scal d1).1]at f2;exact f2
 have o6:Chg (fun i=>i=c) H3 H6:=f3.chg (P:=fun i=>i=c) rfl
 have d6:GenE P1 H6 rpC 1 w (rows.filter fun r=>!decide (r.url=url)):=GenL.chg d1 d2.wf o6 (fun i _ h e=>nc (e ▸ h))
 have s16:Chg (fun i=>P1 i∨i=c) H1 H6:=(d2.weaken (fun i _ h=>.inl h)).trans o6 (fun i _ h=>.inr h)
 have q16:Chg (fun i=>P i∨i=c) H H6:=(g1.chg (P:=fun i=>P i∨i=c)).trans s16 fun i hi h=>h.elim (fun h=>h.elim .inl (fun h=>by have:=g1.size;omega)) .inr
 have l6:zM [.ptr c 0] H6=some w:=zR f2'.cells rfl
 have nck:zBB [.ptr c 0]=some (.ptr c 0):=rfl
 have ef:V.func zAq (List.take 0 [V.ptr H.size 0]) (List.drop 0 [V.ptr H.size 0])=.func zAq [] [.ptr H.size 0]:=rfl
 have pl:=GenL.pLen hg
 have pl6:=GenL.pLen d6
 have hfl:(rows.filter fun r=>!decide (r.url=url)).length<=rows.length:=List.length_filter_le _ _
 have esb:=sbN (i:=rows.length) (k:=(rows.filter fun r=>!decide (r.url=url)).length) hfl (by omega)
 have h6:H.size<=H6.size:=Nat.le_trans g1.size s16.size
 refine⟨fun i=>P1 i/\i<H6.size,H6,Z3,⟨⟨w,f2',GenL.weaken d6 f3.wf (fun i hi h=>⟨h,hi⟩)⟩,fun r hr=>?_,fun i h=>sepD i h.1,fun i h=>h.2,fun i h=>Nat.lt_of_lt_of_le (hc.dl i h) h6,fun h=>nc h.1,hc.dc,fun r hr=>?_⟩,fun i hi h=>h.1.elim (fun h=>h) (fun h=>by omega),q16,fun q=>?_⟩
 ·have hr:=(List.mem_filter.1 hr).1
  exact(r1 r hr).chg g1.wf s16 (fun i _ hd h=>h.elim (fun h=>sepD i h hd) (fun h=>hc.dc (h ▸ hd))) (fun h=>h.elim (nr r hr) (hc.pr r hr).2.2)
 ·have hr:=(List.mem_filter.1 hr).1
  exact⟨fun h=>nr r hr h.1,(hc.pr r hr).2⟩
 ·simp only[zFR,e0,zh,nck,zF,Nat.add_zero,zJ,l1,pl,ef,d3,f1,l6,pl6,zCn,esb]
abbrev Del0C (c:zC):Prop:=∀ {P:Nat->Prop} {H:Heap} {v:V} {x:CRow} {l:List CRow},GenE P H rpC 1 v (x::l)->WF H->0<l.length->l.length<=1000000->∀ Z,∃ v' H',GenE P H' rpC 1 v' l/\Chg P H H'/\∀ q,c zBV [v,.int .i64 (.ofNat 0),.int .i64 (.ofNat 1)] H Z q=q v' H' Z
theorem zJR (c:zC)(N:Nat){P:Nat->Prop}{H:Heap}{v:V}{x:CRow}{l:List CRow}(hg:GenE P H rpC 1 v (x::l))(hw:WF H)(hl:0<l.length)(hl':l.length<=1000000)(Z:Tape) :
  ∃ v' H',GenE P H' rpC 1 v' l/\Chg P H H'/\∀ q,zCF c N v (.int .i64 (.ofNat 0)) (.int .i64 (.ofNat 1)) H Z q=q v' H' Z:=by
 obtain⟨a,w1,w2,v',H1,w3,H2,e1,e2,e3,e4,e5,e6,e7,e8,e9⟩:=GenE.delete0 rpOk hg hw hl 8 [.nilp] rfl rfl Z
 have pl:pLen [v]=some (.int .i64 ((l.length+1:Nat):Int)):=GenL.pLen hg
 have e1':zAL 1 true true true [v,.int .i64 (.ofNat 0),.int .i64 (.ofNat 1),.int .i64 ((l.length+1:Nat):Int)]=some a:=e1
 have e2':zAL 1 false true false [v,.int .i64 (.ofNat 0)]=some w1:=e2
 have e3':zAL 1 true false false [v,.int .i64 (.ofNat 1)]=some w2:=e3
 have ne:(Int.ofNat 0 == Int.ofNat 1)=false:=rfl
 exact⟨v',H2,e8,e9,fun q=>by simp only[zCF,pl,zJ,e1',zAv,ne,zO,e2',e3',e4,zh,e5,e6,e7]⟩
end Go.Am.X

namespace Go.Am.X
abbrev P1of (P:Nat->Prop)(H:Heap):Nat->Prop:=fun i=>P i∨H.size<=i
theorem CacM.delete {cc c' c'':zC}(hD:DelC cc c' c''){f:CRow->Bool}{fv:V}{P D:Nat->Prop}{H:Heap}{c:Nat}{rows:List CRow}{puts:Int}(hc:CacM P D H c rows puts)(hw:WF H)(hl:rows.length<=1000)(t1:TstV c' fv rpV f (P1of P H) H rows)(t2:TstV c'' fv rpV f (P1of P H) H rows)(Z:Tape) :
  ∃ v w H3 Z3 H6,zM [.ptr c 0] H=some v/\(∀ q,cc zo [v,fv] H Z q=q w H3 Z3)/\zM [.ptr c 0] H3=some v/\same v v=true/\eStore 1 [.ptr c 0,w] H3 Z3=some (.tup [],H6,Z3)/\zM [.ptr c 0] H6=some w/\pLen [w]=some (.int .i64 (((rows.filter fun r=>!f r).length:Nat):Int)) /\
   CacM (fun i=>P1of P H i/\i<H6.size) D H6 c (rows.filter fun r=>!f r) puts/\Chg (fun i=>P i∨i=c) H H6:=by
 obtain⟨v,hb,hg⟩:=hc.bx
 have hcl:=hb.lt hw
 have hP1:zQt (P1of P H) H:=fun i hi=>.inr hi
 have nc:¬ P1of P H c:=fun h=>h.elim hc.pc (fun h=>by omega)
 have nr:∀ r ∈ rows,¬ P1of P H r.id:=fun r hr h=>h.elim (hc.pr r hr).1 (fun h=>by have:=(hc.mem r hr).bx.bx.lt hw;omega)
 have sepD:∀ i,P1of P H i->¬ D i:=fun i h hd=>h.elim (fun h=>hc.sep i h hd) (fun h=>by have:=hc.dl i hd;omega)
 have hg1:GenE (P1of P H) H rpC 1 v rows:=GenL.weaken hg hw (fun i _ h=>.inl h)
 obtain⟨w,H3,Z3,d1,d2,d3⟩:=hD f fv hw rows (by omega) v hg1 t1 t2 hP1 Z
 have c3:=hb.chg hw d2 nc
 obtain⟨H6,f1,f2,f3⟩:=c3.eStore d2.wf 0 w 1 (by rw[(GenL.scal d1).1];rfl) (by simp) (by omega) (by rw[(GenL.scal d1).1];simp[(GenL.scal d1).2]) Z3
 have f2':Bx H6 c [w,.int .i64 puts]:=by rw[(GenL.scal d1).1]at f2;exact f2
 have o6:Chg (fun i=>i=c) H3 H6:=f3.chg (P:=fun i=>i=c) rfl
 have d6:GenE (P1of P H) H6 rpC 1 w (rows.filter fun r=>!f r):=GenL.chg d1 d2.wf o6 (fun i _ h e=>nc (e ▸ h))
 have s16:Chg (fun i=>P1of P H i∨i=c) H H6:=(d2.weaken (fun i _ h=>.inl h)).trans o6 (fun i _ h=>.inr h)
 have q16:Chg (fun i=>P i∨i=c) H H6:=s16.weaken fun i hi h=>h.elim (fun h=>h.elim .inl (fun h=>by omega)) .inr
 have h6:H.size<=H6.size:=s16.size
 refine⟨v,w,H3,Z3,H6,zR hb.cells rfl,d3,zR c3.cells rfl,same_genC hg,f1,zR f2'.cells rfl,GenL.pLen d6,⟨⟨w,f2',GenL.weaken d6 f3.wf (fun i hi h=>⟨h,hi⟩)⟩,fun r hr=>?_,fun i h=>sepD i h.1,fun i h=>h.2,fun i h=>Nat.lt_of_lt_of_le (hc.dl i h) h6,fun h=>nc h.1,hc.dc,fun r hr=>?_⟩,q16⟩
 ·have hr:=(List.mem_filter.1 hr).1
  exact(hc.mem r hr).chg hw s16 (fun i _ hd h=>h.elim (fun h=>sepD i h hd) (fun h=>hc.dc (h ▸ hd))) (fun h=>h.elim (nr r hr) (hc.pr r hr).2.2)
 ·have hr:=(List.mem_filter.1 hr).1
  exact⟨fun h=>nr r hr h.1,(hc.pr r hr).2⟩
theorem CacM.delete0 {cc:zC}(hD:Del0C cc){P D:Nat->Prop}{H:Heap}{c:Nat}{r0:CRow}{l:List CRow}{puts:Int}(hc:CacM P D H c (r0::l) puts)(hw:WF H)(hl0:0<l.length)(hl:l.length<=1000)(Z:Tape) :
  ∃ v w H3 H6,zM [.ptr c 0] H=some v/\(∀ q,cc zBV [v,.int .i64 (.ofNat 0),.int .i64 (.ofNat 1)] H Z q=q w H3 Z)/\eStore 1 [.ptr c 0,w] H3 Z=some (.tup [],H6,Z) /\
   CacM (fun i=>P i/\i<H6.size) D H6 c l puts/\Chg (fun i=>P i∨i=c) H H6:=by
 obtain⟨v,hb,hg⟩:=hc.bx
 obtain⟨w,H3,d1,d2,d3⟩:=hD hg hw hl0 (by omega) Z
 have c3:=hb.chg hw d2 hc.pc
 obtain⟨H6,f1,f2,f3⟩:=c3.eStore d2.wf 0 w 1 (by rw[(GenL.scal d1).1];rfl) (by simp) (by omega) (by rw[(GenL.scal d1).1];simp[(GenL.scal d1).2]) Z
 have f2':Bx H6 c [w,.int .i64 puts]:=by rw[(GenL.scal d1).1]at f2;exact f2
 have o6:Chg (fun i=>i=c) H3 H6:=f3.chg (P:=fun i=>i=c) rfl
 have d6:GenE P H6 rpC 1 w l:=GenL.chg d1 d2.wf o6 (fun i _ h e=>hc.pc (e ▸ h))
 have s16:Chg (fun i=>P i∨i=c) H H6:=(d2.weaken (fun i _ h=>.inl h)).trans o6 (fun i _ h=>.inr h)
 refine⟨v,w,H3,H6,zR hb.cells rfl,d3,f1,⟨⟨w,f2',GenL.weaken d6 f3.wf (fun i hi h=>⟨h,hi⟩)⟩,fun r hr=>?_,fun i h=>hc.sep i h.1,fun i h=>h.2,fun i h=>Nat.lt_of_lt_of_le (hc.dl i h) s16.size,fun h=>hc.pc h.1,hc.dc,fun r hr=>?_⟩,s16⟩
 ·have hr:r ∈ r0::l:=List.mem_cons_of_mem _ hr
  exact(hc.mem r hr).chg hw s16 (fun i _ hd h=>h.elim (fun h=>hc.sep i h hd) (fun h=>hc.dc (h ▸ hd))) (fun h=>h.elim (hc.pr r hr).1 (hc.pr r hr).2.2)
 ·have hr:r ∈ r0::l:=List.mem_cons_of_mem _ hr
  exact⟨fun h=>(hc.pr r hr).1 h.1,(hc.pr r hr).2⟩
def vryT (ask:List Hd)(n:Bs):Vry:=(n,getT n ask,decide (0<(sel n ask).length))
abbrev rowV (url:Bs)(vv:V)(st:Int)(hv bv:V):List V:=[.str url,vv,.int .i64 st,hv,bv,.int .i64 (.ofNat 0),.int .i64 (.ofNat 0)]
theorem l_cput (cc:zC)(N:Nat)(hG:zSZ cc){ask:List Hd}(hsm:Small ask){av:V}(names:List Bs)(hnl:names.length<=1000000)(hns:∀ n ∈ names,n.length<=140737488355328)(nv:V)(t0 t4:V)(url:Bs)(st:Int)(hv bv:V)(x:Nat){H0:Heap}(hw0:WF H0)(hxl:x<H0.size){Q:Nat->Prop}(hQ:∀ i,i<H0.size->(Q i ↔ i=x))(hQn:∀ i,H0.size<=i->Q i)
  (hr:∀ H,Chg Q H0 H->Rd H 1 nv names.length (names.map V.str)) (ha:∀ H,Chg Q H0 H->RdH H av ask) :
  ∀ (l pre:List Bs) (vv:V) (H:Heap) (Z:Tape) (m:Nat),names=pre++l->l.length<m->Chg Q H0 H->BxT H x (rowV url vv st hv bv)->GenE (fun i=>H0.size<=i) H vaC 3 vv (pre.map (vryT ask)) ->
  ∃ vv' H' Z',Chg Q H0 H'/\BxT H' x (rowV url vv' st hv bv)/\GenE (fun i=>H0.size<=i) H' vaC 3 vv' (names.map (vryT ask)) /\
   ∀ (fr:T V) k,fr.get 0=some t0->fr.get 2=some av->fr.get 4=some t4->fr.get 13=some (.ptr x 0)->fr.get 72=some nv->fr.get 73=some (.int .i64 (names.length:Int))->fr.get 74=some (.int .i64 (pre.length:Int)) ->
    zAZ (zD8 cc N) m ⟨fr,H⟩ Z k=k (.exit 0) ⟨(T.s (T.s (T.s .leaf 0 t0) 4 t4) 13 (.ptr x 0)),H'⟩ Z':=by
 intro l
 induction l with
 | nil =>
  intro pre vv H Z m he hm hg hb hv'
  obtain⟨m,rfl⟩:∃ j,m=j+1:=⟨m-1,by omega⟩
  have e1:decide ((pre.length:Int)<(names.length:Int))=false:=decide_eq_false (by rw[he];simp)
  rw[List.append_nil]at he
  refine⟨vv,H,Z,hg,hb,by rw[he];exact hv',fun fr k f0 f2 f4 f13 f72 f73 f74=>?_⟩
  rw[zI]
  simp only[zD8,zA f0,zA f2,zA f4,zA f13,zA f72,zA f73,zA f74,zN,e1,zO]
  rfl
 | cons n l ih =>
  intro pre vv H Z m he hm hg hb hv'
  obtain⟨m,rfl⟩:∃ j,m=j+1:=⟨m-1,by omega⟩
  have hw:=hg.wf
  have hlt:pre.length<names.length:=by rw[he];simp
  have e1:decide ((pre.length:Int)<(names.length:Int))=true:=decide_eq_true (by omega)
  have e3:wr .i64 ((pre.length:Int)+Int.ofNat 1)=((pre++[n]).length:Int):=by rw[adI (by omega)];simp
  obtain⟨p,p1,p2⟩:=(hr H hg).elem1 (i:=pre.length) (x:=.str n) (by rw[he];simp)
  have kG:=hG hsm (hns n (by rw[he];simp)) (ha H hg) Z
  have x0:∀ a b:V,zH 0 [.tup [a,b]]=some a:=fun _ _=>rfl
  have x1:∀ a b:V,zH 1 [.tup [a,b]]=some b:=fun _ _=>rfl
  have nck:zBB [.ptr x 0]=some (.ptr x 0):=rfl
  have l1:zM [.ptr x (0+1)] H=some vv:=zR hb.bx.cells rfl
  have pb:zC7 [(.str []),(.str []),(.bool false)] [(0,1),(1,1),(2,1)] [.str n,.str (getT n ask),.bool (decide (0<(sel n ask).length))]=some (.agg (vaC (vryT ask n))):=rfl
  have bs:zP 1 3 [(.str []),(.str []),(.bool false)] [(0,3)] [.agg (vaC (vryT ask n))] H Z=some (.sl H.size 0 1 1 none 3,H.new (vaC (vryT ask n)) 3 false,Z):=rfl
  obtain⟨vv',H1,Z1,a1,a2,a3,a4⟩:=GenE.put vaOk (bytes:=40) hv' hw (fun i hi=>Nat.le_trans hg.size hi) (vryT ask n) (by rw[List.length_map];omega) (by rw[List.length_map];omega) Z false
  have hb1:=hb.chg hw a3 (show ¬ H0.size<=x by omega)
  obtain⟨H2,s1,s2,s3⟩:=hb1.eStore a3.wf 1 vv' 1 (by rw[(GenL.scal a2).1];rfl) (by simp) (by omega) (by rw[(GenL.scal a2).1];simp[(GenL.scal a2).2]) Z1
  have s2':BxT H2 x (rowV url vv' st hv bv):=by rw[(GenL.scal a2).1]at s2;exact s2
  have o2:Chg (fun i=>i=x) H1 H2:=s3.chg (P:=fun i=>i=x) rfl
  have g2:GenE (fun i=>H0.size<=i) H2 vaC 3 vv' ((pre++[n]).map (vryT ask)):=by
   rw[List.map_append]
   exact GenL.chg a2 a3.wf o2 (fun i _ h e=>by omega)
  have hq2:Chg Q H0 H2:=(hg.trans a3 (fun i _ h=>hQn i h)).trans o2 (fun i hi h=>(hQ i hi).2 h)
  obtain⟨vv2,H',Z',i1,i2,i3,i4⟩:=ih (pre++[n]) vv' H2 Z1 m (by rw[he];simp) (by simp at hm;omega) hq2 s2' g2
  refine⟨vv2,H',Z',i1,i2,i3,fun fr k f0 f2 f4 f13 f72 f73 f74=>?_⟩
  rw[zI]
  simp only[zD8,zA f0,zA f2,zA f4,zA f13,zA f72,zA f73,zA f74,zN,e1,zQ,p1,p2,zJ,kG,x0,x1,nck,zF,l1,pb,bs,zh,a1,s1,ze,e3]
  exact i4 _ k (by simp[T.get_set]) (by simp[T.get_set]) (by simp[T.get_set]) (by simp[T.get_set]) (by simp[T.get_set]) (by simp[T.get_set]) (by simp[T.get_set])
end Go.Am.X

namespace Go.Am.X
end Go.Am.X

namespace Go.Am.X
end Go.Am.X

