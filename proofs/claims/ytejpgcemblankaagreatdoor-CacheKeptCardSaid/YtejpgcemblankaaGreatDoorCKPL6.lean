/- The abstract machine, printed functions of the program, and what they are shown to be. -/
import Derived.Test.YtejpgcemblankaaGreatDoorCKPL5
set_option linter.unusedSimpArgs false
set_option linter.unusedVariables false
set_option linter.unusedSectionVars false
set_option maxRecDepth 100000
namespace Go.Am.X
theorem splitF_mem:∀ (n:Nat) (s:Bs),s.length<=n->∀ (q:Bool) (cur:Bs),(∀ p ∈ (zAI q cur s).1,p.length<=cur.length+s.length)/\(zAI q cur s).2.length<=cur.length+s.length:=by
 intro n
 induction n with
 | zero =>
  intro s hn q cur
  obtain rfl:=List.eq_nil_of_length_eq_zero (by omega:s.length=0)
  simp[zAI]
 | succ n ih =>
  intro s hn q cur
  cases s with
  | nil=>simp[zAI]
  | cons x r =>
   have hr:r.length<=n:=by simp at hn;omega
   have up:∀ (q':Bool) (cur' r':Bs),r'.length<=n->cur'.length+r'.length<=cur.length+(x::r).length->zAI q cur (x::r)=zAI q' cur' r'->(∀ p ∈ (zAI q cur (x::r)).1,p.length<=cur.length+(x::r).length)/\(zAI q cur (x::r)).2.length<=cur.length+(x::r).length:=by
    intro q' cur' r' h1 h2 h3
    rw[h3]
    obtain⟨a,b⟩:=ih r' h1 q' cur'
    exact⟨fun p hp=>by have:=a p hp;omega,by omega⟩
   by_cases c34:x=34
   ·exact up (!q) (cur++[x]) r hr (by simp;omega) (zNo q cur r c34)
   ·cases q with
    | true =>
     by_cases c92:x=92
     ·cases r with
      | nil=>rw[zQL cur c34 c92];simp
      | cons y r'=>exact up true (cur++[x,y]) r' (by simp at hr;omega) (by simp;omega) (zQG cur y r' c34 c92)
     ·exact up true (cur++[x]) r hr (by simp;omega) (zRc cur r c34 c92)
    | false =>
     by_cases c44:x=44
     ·rw[zOO cur r c34 c44]
      obtain⟨a,b⟩:=ih r hr false []
      refine⟨fun p hp=>?_,by simp at b ⊢;omega⟩
      rcases List.mem_cons.1 hp with e | e
      ·rw[e];omega
      ·have:=a p e;simp at this ⊢;omega
     ·exact up false (cur++[x]) r hr (by simp;omega) (zQP cur r c34 c44)
theorem piece_len {s p:Bs}(h:p ∈ zLg s):p.length<=s.length:=by
 unfold zLg at h
 obtain⟨y,hy,rfl⟩:=List.mem_map.1 h
 obtain⟨a,b⟩:=splitF_mem s.length s nl false []
 have:=zHf tight y
 rcases List.mem_append.1 hy with e | e
 ·have:=a y e;simp at this;omega
 ·rw[List.mem_singleton]at e;subst e;simp at b;omega
theorem zQS {name:Bs}{hs:List Hd}(hS:Small hs){p:Bs}(h:p ∈ zB8 name hs):p.length<=10002000:=by
 unfold zB8 at h
 split at h
 ·have:=piece_len h;have:=zMN hS name;omega
 ·simp at h
theorem zQu {name:Bs}{hs:List Hd}(hS:Small hs):(zB8 name hs).length<=10002001:=by
 unfold zB8
 split
 ·have:=piecesB_len (getT name hs);have:=zMN hS name;omega
 ·simp
theorem unq_len (v:Bs):(unq v).length<=v.length:=by
 unfold unq
 split
 ·rw[List.length_drop,List.length_take];omega
 ·exact Nat.le_refl _
theorem pieceT_len (s:Bs):(zBt s).1.length<=s.length/\(zBt s).2.length<=s.length:=by
 unfold zBt
 cases h:cutB 61 s with
 | none =>
  have h1:=zP1 s
  have h2:=zP1 ([]:Bs)
  have h3:=unq_len (strip [])
  exact⟨by rw[lower_len];exact h1,by simp at h2;simp only;rw[h2]at h3 ⊢;simp at h3;simp[h3]⟩
 | some ab =>
  obtain⟨a,b⟩:=ab
  have h0:=cutB_len 61 s a b h
  have h1:=zP1 a
  have h2:=zP1 b
  have h3:=unq_len (strip b)
  exact⟨by simp only;rw[lower_len];omega,by simp only;omega⟩
theorem cutOk_of {c:zD}(h:RCutOk c)(x:UInt8):CutOk c x:=fun s hs H Z q=>h s x hs H Z q
theorem stripOk_of {c:zD}(h:zSm c):StripOk c:=fun s hs H hw Z q=>⟨H,Gr.refl hw,h s (by omega) H Z q⟩
theorem stripOk'_of {c:zD}(h:zSm c):zSh c:=fun s hs H hw Z=>⟨H,Z,Gr.refl hw,fun q=>h s (by omega) H Z q⟩
theorem lowOk_of {c:zD}(h:NLowOk c):LowOk c:=fun s hs H hw Z q=>⟨H,Z,Gr.refl hw,h s hs H Z q⟩
theorem intOk_of {c:zD}(h:NIntOk c):IntOk c:=fun s hs H Z q=>h s (by omega) H Z q
abbrev PieceR:=RS 140737488355328 fun s=>.tup [.str (zBt s).1,.str (zBt s).2]
noncomputable abbrev rw_piece:List Row:=[Row.fn zHQ zFD zKj,Row.prim zD5 (outP CutR),Row.prim zCA (outP zTB),Row.prim zBU (outP LowR)]
theorem p_age_piece:∀ base w0,zCP PG base w0 zHQ (outP PieceR):=by
 obtain⟨N,hN⟩:=someN
 refine zOa zMT (l:=rw_piece) (.fn zOT zLT (.prim zSl (.prim zQC (.prim zP0 (.nil _))))) N 2 _ ?_
 rintro vs H o hw hvs ⟨hp,rfl⟩ Z
 unfold strP at hp;split at hp
 ·obtain⟨H',Z',g,k⟩:=zRV (CR rw_piece N 1) N (cutOk_of (zSw fun _ _ _ _=>rfl) 61) (stripOk_of (zP9 fun _ _ _ _=>rfl)) (lowOk_of (zPt fun _ _ _ _=>rfl)) _ hp H hw Z retK
  exact⟨_,H',Z',k,g,rfl,trivial,trivial,trivial⟩
 ·exact hp.elim
abbrev zQr (hs:List Hd):List V->Prop | []=>Small hs | _=>False
abbrev CtlG (_:Bool)(hs:List Hd):List V->Out | []=>.val (.agg (ctlC (zCH hs))) | _=>.val (.tup [])
theorem ctl_vok (H:Heap)(st:Ctl):VOk H (.agg (ctlC st)):=⟨trivial,trivial,trivial,trivial⟩
noncomputable abbrev zRB:List Row:=[Row.fn zCD zFG zKe,Row.prim zBP (outP (RH zOE SplitG)),Row.prim zHQ (outP PieceR),Row.prim zFP (outP IntR)]
theorem zRI:∀ base w0,zCP PG base w0 zCD (outP (RH zQr CtlG)):=by
 obtain⟨N,hN⟩:=someN
 refine primRH (N:=N) (l:=zRB) (.fn zN2 zLe (.prim zNg (.prim p_age_piece (.prim zRK (.nil _))))) 2 _ (fun hs args hp lv H hw hr Z=>?_)
 unfold zQr at hp;split at hp
 ·obtain⟨H',Z',g,k⟩:=zRX (CR zRB N 1) N (Nat.le_of_lt hN) hs (intOk_of (zRS fun _ _ _ _=>rfl)) (fun s hs H hw Z=>⟨H,Z,Gr.refl hw,fun q=>callS (c:=CR zRB N 1) (f:=zHQ) (M:=140737488355328) (g:=fun s=>.tup [.str (zBt s).1,.str (zBt s).2]) (fun _ _ _ _=>rfl) s hs H Z q⟩)
   (fun v H hw hr Z=>by
    obtain⟨v',H',Z',a1,a2,a3⟩:=k_Split (c:=CR zRB N 1) (f:=zBP) (fun _ _ _ _=>rfl) hp (name:=zOu) (by decide) hw hr Z
    exact⟨v',H',Z',a1,by have:=zQu (name:=zOu) hp;omega,a2,a3⟩) (fun s hs'=>by have:=zQS hp hs';omega) (fun s hs'=>by have:=zQS hp hs';have:=(pieceT_len s).2;omega) lv H hw hr Z
  exact⟨_,H',Z',g,⟨rfl,ctl_vok _ _⟩,k⟩
 ·exact hp.elim
theorem k_Ctl {c:zD}{f:Nat}(h:IsP c f (RH zQr CtlG)){hs:List Hd}(hS:Small hs){lv:V}{H:Heap}(hr:RdH H lv hs)(Z:Tape)(q:KV):c f [lv] H Z q=q (.agg (ctlC (zCH hs))) H Z:=zSM (l:=[]) h hr hS rfl Z q
abbrev TwoI (vs:List V):Prop:=∃ a b:Int,vs=[.int .i64 a,.int .i64 b]/\InI a/\InI b
abbrev AddG2:List V->V | [.int .i64 a,.int .i64 b]=>.int .i64 (addT a b) | _=>.tup []
abbrev AgeAddR:=RV TwoI AddG2
theorem p_age_Add:∀ base w0,zCP PG base w0 zJV (outP AgeAddR):=by
 obtain⟨N,hN⟩:=someN
 refine primRV (N:=N) (l:=[Row.fn zJV zGQ zL8]) (.fn zQc zNy (.nil _)) 1 _ (fun vs H h=>?_) (fun vs h H hw Z=>?_)
 ·obtain⟨a,b,rfl,_⟩:=h;trivial
 ·obtain⟨a,b,rfl,ha,hb⟩:=h
  exact⟨H,Z,Gr.refl hw,fun q=>s_age_Add_ev (CR [Row.fn zJV zGQ zL8] N 0) N ha hb H Z q⟩
theorem k_Add2 {c:zD}{f:Nat}(h:IsP c f AgeAddR){a b:Int}(ha:InI a)(hb:InI b)(H:Heap)(Z:Tape)(q:KV):c f [.int .i64 a,.int .i64 b] H Z q=q (.int .i64 (addT a b)) H Z:=zTP h (vs:=[.int .i64 a,.int .i64 b]) ⟨a,b,rfl,ha,hb⟩ H Z q
abbrev zRG (hs:List Hd)(l:List V):Prop:=∃ a b:Int,l=[.int .i64 a,.int .i64 b]/\InI a/\InI b/\Small hs
abbrev AgeG (_:Bool)(hs:List Hd):List V->Out | [.int .i64 a,.int .i64 b]=>.val (.int .i64 (ageT hs a b)) | _=>.val (.tup [])
abbrev FreshG (_:Bool)(hs:List Hd):List V->Out | [.int .i64 a,.int .i64 b]=>.val (.bool (zOM hs a b)) | _=>.val (.tup [])
noncomputable abbrev rw_Age:List Row:=[Row.fn zGE zHi zOR,Row.fn zMh zE9 zKa,Row.prim zJV (outP AgeAddR),Row.prim zAh (outP (RH zOE GetG)),Row.prim zCA (outP zTB),Row.prim zFP (outP IntR)]
theorem p_age_Age:∀ base w0,zCP PG base w0 zGE (outP (RH zRG AgeG)):=by
 obtain⟨N,hN⟩:=someN
 refine primRH (N:=N) (l:=rw_Age) (.fn zQT zNk (.fn zN6 zLb (.prim p_age_Add (.prim zPj (.prim zQC (.prim zRK (.nil _))))))) 2 _ (fun hs args hp lv H hw hr Z=>?_)
 obtain⟨a,b,rfl,ha,hb,hS⟩:=hp
 obtain⟨H',Z',g,k⟩:=zS2 (CR rw_Age N 1) N hs (fun v H hw hr Z=>⟨H,Z,Gr.refl hw,fun q=>k_Get (c:=CR rw_Age N 1) (f:=zAh) (fun _ _ _ _=>rfl) hS (name:=zLj) (by decide) hr Z q⟩) (by have:=zMN hS zLj;omega) (stripOk'_of (zP9 fun _ _ _ _=>rfl)) (intOk_of (zRS fun _ _ _ _=>rfl))
  (fun a b ha hb H Z q=>zR8 (CR rw_Age N 0) N ha hb H Z q) (fun a b ha hb H Z q=>k_Add2 (c:=CR rw_Age N 1) (f:=zJV) (fun _ _ _ _=>rfl) ha hb H Z q) ha hb lv H hw hr Z
 exact⟨_,H',Z',g,⟨rfl,trivial⟩,k⟩
theorem k_Age {c:zD}{f:Nat}(h:IsP c f (RH zRG AgeG)){hs:List Hd}(hS:Small hs){a b:Int}(ha:InI a)(hb:InI b){lv:V}{H:Heap}(hr:RdH H lv hs)(Z:Tape)(q:KV):c f [lv,.int .i64 a,.int .i64 b] H Z q=q (.int .i64 (ageT hs a b)) H Z :=
 zSM (l:=[.int .i64 a,.int .i64 b]) h hr ⟨a,b,rfl,ha,hb,hS⟩ rfl Z q
noncomputable abbrev zRD:List Row:=[Row.fn zHV zE8 zKT,Row.prim zCD (outP (RH zQr CtlG)),Row.prim zGE (outP (RH zRG AgeG))]
theorem p_age_Fresh:∀ base w0,zCP PG base w0 zHV (outP (RH zRG FreshG)):=by
 obtain⟨N,hN⟩:=someN
 refine primRH (N:=N) (l:=zRD) (.fn zOH zLh (.prim zRI (.prim p_age_Age (.nil _)))) 2 _ (fun hs args hp lv H hw hr Z=>?_)
 obtain⟨a,b,rfl,ha,hb,hS⟩:=hp
 obtain⟨H',Z',g,k⟩:=zRr (CR zRD N 1) N hs (fun v H hw hr Z=>⟨H,Z,Gr.refl hw,fun q=>k_Ctl (c:=CR zRD N 1) (f:=zCD) (fun _ _ _ _=>rfl) hS hr Z q⟩) (fun a b ha hb v H hw hr Z=>⟨H,Z,Gr.refl hw,fun q=>k_Age (c:=CR zRD N 1) (f:=zGE) (fun _ _ _ _=>rfl) hS ha hb hr Z q⟩) ha hb lv H hw hr Z
 exact⟨_,H',Z',g,⟨rfl,trivial⟩,k⟩
theorem k_Fresh {c:zD}{f:Nat}(h:IsP c f (RH zRG FreshG)){hs:List Hd}(hS:Small hs){a b:Int}(ha:InI a)(hb:InI b){lv:V}{H:Heap}(hr:RdH H lv hs)(Z:Tape)(q:KV):c f [lv,.int .i64 a,.int .i64 b] H Z q=q (.bool (zOM hs a b)) H Z :=
 zSM (l:=[.int .i64 a,.int .i64 b]) h hr ⟨a,b,rfl,ha,hb,hS⟩ rfl Z q
end Go.Am.X

namespace Go.Am.X
abbrev fvM (a:Nat):V:=.func zF4 [] [.ptr a 0,.ptr (a+1) 0]
theorem zQK (c:zD)(N:Nat)(url:Bs){av:V}(ha:av.cells=[av]){H:Heap}(hw:WF H)(Z:Tape) :
  ∃ H',Gr H.size H H'/\H'.size=H.size+2/\Bx H' H.size [.str url]/\Bx H' (H.size+1) [av]/\∀ q,zKE c N (.str url) av H Z q=q (fvM H.size) H' Z:=by
 have e0:eBox [.str url] H Z=some (.ptr H.size 0,H.new [.str url] 1 true,Z):=rfl
 have g1:=Gr.new hw [.str url] 1 true
 have b1:Bx (H.new [.str url] 1 true) H.size [.str url]:=Bx.new H _ 1 true (by simp)
 have z1:(H.new [.str url] 1 true).size=H.size+1:=rfl
 generalize H.new [.str url] 1 true=H1 at e0 g1 b1 z1
 have e1:eBox [av] H1 Z=some (.ptr (H.size+1) 0,H1.new [av] 1 true,Z):=by rw[<- z1];simp only[eBox,ha];rfl
 have g2:=Gr.new g1.wf [av] 1 true
 have b2:Bx (H1.new [av] 1 true) (H.size+1) [av]:=by rw[<- z1];exact Bx.new H1 _ 1 true (by simp)
 have ef:V.func zF4 (List.take 0 [V.ptr H.size 0,V.ptr (H.size+1) 0]) (List.drop 0 [V.ptr H.size 0,V.ptr (H.size+1) 0])=fvM H.size:=rfl
 exact⟨_,g1.trans g2 g1.size,by rw[show(H1.new [av] 1 true).size=H1.size+1 from rfl,z1],zEn b1 g1.wf g2,b2,fun q=>by simp only[zKE,e0,e1,zT,ef,zI]⟩
abbrev MeantOk (c:zD):Prop:=∀ (url:Bs) {av:V},av.cells=[av]->∀ {H:Heap},WF H->∀ Z,∃ H',Gr H.size H H'/\H'.size=H.size+2/\Bx H' H.size [.str url]/\Bx H' (H.size+1) [av]/\∀ q,c zII [.str url,av] H Z q=q (fvM H.size) H' Z
abbrev zOb (c:zD):Prop:=∀ {ask:List Hd},Small ask->∀ {av:V} {a:Nat} {url:Bs} {D:Nat->Prop} {r:CRow} {H:Heap},WF H->RowM D H r->r.vs.length<=1000000->(∀ x ∈ r.vs,x.1.length<=140737488355328)->H.cells? a=some [.str url]->H.cells? (a+1)=some [av]->RdH H av ask->∀ Z,
  ∃ H' Z',Gr H.size H H'/\∀ q,opK c .callv [fvM a,rpV r] H Z q=q (.bool (zM6 url ask r)) H' Z'
def zRM (url:Bs)(ask:List Hd)(o:Option CRow)(r:CRow):Option CRow:=if zM6 url ask r=true/\(match o with | none=>true | some b=>decide (b.ord<r.ord))=true then some r else o
def outV:Option CRow->V
 | none=>.nilp
 | some b=>rpV b
def OkVs (r:CRow):Prop:=r.vs.length<=1000000/\∀ x ∈ r.vs,x.1.length<=140737488355328
theorem l_find (c:zD)(N:Nat)(hM:zOb c){ask:List Hd}(hsm:Small ask){av:V}{a:Nat}{url:Bs}{D:Nat->Prop}(rows:List CRow)(hl:rows.length<=1000)(v:V){H0:Heap}(hw0:WF H0)(hr:Rd H0 1 v rows.length (rows.flatMap rpC))(hm:∀ r ∈ rows,RowM D H0 r/\OkVs r)(hu:Bx H0 a [.str url])(hb:Bx H0 (a+1) [av])(ha:RdH H0 av ask)(t2:V) :
  ∀ (l pre:List CRow) (o:Option CRow) (H:Heap) (Z:Tape) (m:Nat),rows=pre++l->l.length<m->Gr H0.size H0 H->(∀ b,o=some b->b ∈ rows) ->
  ∃ H' Z',Gr H0.size H0 H'/\(∀ b,l.foldl (zRM url ask) o=some b->b ∈ rows)/\∀ (fr:T V) k,fr.get 2=some t2->fr.get 7=some (outV o)->fr.get 8=some (fvM a)->fr.get 17=some v->fr.get 18=some (.int .i64 (rows.length:Int))->fr.get 19=some (.int .i64 (pre.length:Int)) ->
   zAP (zAQ c N) m ⟨fr,H⟩ Z k=k (.exit 0) ⟨(T.s (T.s .leaf 2 t2) 7 (outV (l.foldl (zRM url ask) o))),H'⟩ Z':=by
 intro l
 induction l with
 | nil =>
  intro pre o H Z m he hm' hg ho
  obtain⟨m,rfl⟩:∃ j,m=j+1:=⟨m-1,by omega⟩
  have e1:decide ((pre.length:Int)<(rows.length:Int))=false:=decide_eq_false (by rw[he];simp)
  refine⟨H,Z,hg,ho,fun fr k f2 f7 f8 f17 f18 f19=>?_⟩
  rw[zF]
  simp only[zAQ,zA f2,zA f7,zA f8,zA f17,zA f18,zA f19,zL,e1,zK]
  rfl
 | cons r l ih =>
  intro pre o H Z m he hm' hg ho
  obtain⟨m,rfl⟩:∃ j,m=j+1:=⟨m-1,by omega⟩
  have hw:=hg.wf
  have hlt:pre.length<rows.length:=by rw[he];simp
  have e1:decide ((pre.length:Int)<(rows.length:Int))=true:=decide_eq_true (by omega)
  have e3:wr .i64 ((pre.length:Int)+Int.ofNat 1)=((pre++[r]).length:Int):=by rw[adI (by omega)];simp
  have hrm:r ∈ rows:=by rw[he];simp
  have hrH:=hr.gr hg hw0 nl
  obtain⟨id,o',p1,p2⟩:=Cells.at rpOk (v:=v) pre r l (H:=H) (by rw[<- he];exact hrH)
  have q1:=(p2 H (by rw[<- he];exact hrH)).2 0 _ (rp0 r)
  rw[Nat.add_zero]at q1
  have lift:∀ {Hx},Gr H0.size H0 Hx->∀ b ∈ rows,RowM D Hx b:=fun hx b hb=>(hm b hb).1.chg hw0 (hx.chg (P:=fun _=>False)) (fun _ _ _=>not_false) not_false
  obtain⟨H1,Z1,g1,k1⟩:=hM hsm hw (lift hg r hrm) (hm r hrm).2.1 (hm r hrm).2.2 (zEn hu hw0 hg).cells (zEn hb hw0 hg).cells (ha.gr hg hw0 nl) Z
  have hg1:=hg.trans g1 hg.size
  have nil0:lPeq false [.nilp,.nilp] H1=some (.bool true):=rfl
  have nil1:∀ b:CRow,lPeq false [rpV b,.nilp] H1=some (.bool false):=fun _=>rfl
  have nck:∀ b:CRow,zf [rpV b]=some (.ptr b.id 0):=fun _=>rfl
  have lo:∀ b ∈ rows,zH [.ptr b.id (0+6)] H1=some (.int .i64 b.ord):=fun b hb=>zN (lift hg1 b hb).bx.bx.cells rfl
  have go:∀ (o2:Option CRow),zRM url ask o r=o2->(∀ b,o2=some b->b ∈ rows) ->
    (∀ (fr:T V) k,fr.get 2=some t2->fr.get 7=some (outV o)->fr.get 8=some (fvM a)->fr.get 17=some v->fr.get 18=some (.int .i64 (rows.length:Int))->fr.get 19=some (.int .i64 (pre.length:Int)) ->
     zAP (zAQ c N) (m+1) ⟨fr,H⟩ Z k=zAP (zAQ c N) m ⟨(T.s (T.s (T.s (T.s (T.s (T.s (T.s (T.s .leaf 2 t2) 7 (outV o2)) 8 (fvM a)) 17 v) 18 (.int .i64 (rows.length:Int))) 19 (.int .i64 (pre.length:Int))) 42 (.int .i64 ((pre++[r]).length:Int))) 19 (.int .i64 ((pre++[r]).length:Int))),H1⟩ Z1 k) ->
    ∃ H' Z',Gr H0.size H0 H'/\(∀ b,(r::l).foldl (zRM url ask) o=some b->b ∈ rows)/\∀ (fr:T V) k,fr.get 2=some t2->fr.get 7=some (outV o)->fr.get 8=some (fvM a)->fr.get 17=some v->fr.get 18=some (.int .i64 (rows.length:Int))->fr.get 19=some (.int .i64 (pre.length:Int)) ->
     zAP (zAQ c N) (m+1) ⟨fr,H⟩ Z k=k (.exit 0) ⟨(T.s (T.s .leaf 2 t2) 7 (outV ((r::l).foldl (zRM url ask) o))),H'⟩ Z':=by
   intro o2 hs ho2 step
   obtain⟨H',Z',i1,i2,i3⟩:=ih (pre++[r]) o2 H1 Z1 m (by rw[he];simp) (by simp at hm';omega) hg1 ho2
   refine⟨H',Z',i1,by rw[List.foldl_cons,hs];exact i2,fun fr k f2 f7 f8 f17 f18 f19=>?_⟩
   rw[step fr k f2 f7 f8 f17 f18 f19,List.foldl_cons,hs]
   exact i3 _ k (by simp[T.get_set]) (by simp[T.get_set]) (by simp[T.get_set]) (by simp[T.get_set]) (by simp[T.get_set]) (by simp[T.get_set])
  cases hmt:zM6 url ask r with
  | false =>
   rw[hmt]at k1
   refine go o (by unfold zRM;rw[hmt,if_neg (by simp)]) ho fun fr k f2 f7 f8 f17 f18 f19=>?_
   rw[zF]
   simp only[zAQ,zA f2,zA f7,zA f8,zA f17,zA f18,zA f19,zL,e1,zM,p1,q1,zI,k1,zq,zAH,zQ,cond_false,zK,zB1,zO,↓reduceIte,Nat.reduceEqDiff,zS,e3]
   rfl
  | true =>
   rw[hmt]at k1
   cases o with
   | none =>
    refine go (some r) (by unfold zRM;rw[hmt,if_pos (by simp)]) (fun b hb=>by cases hb;exact hrm) fun fr k f2 f7 f8 f17 f18 f19=>?_
    rw[zF]
    have f7':fr.get 7=some .nilp:=f7
    simp only[zAQ,zA f2,zA f7',zA f8,zA f17,zA f18,zA f19,zL,e1,zM,p1,q1,zI,k1,zBE,retK,zT,nil0,zo,zAH,zQ,cond_true,zB1,zO,↓reduceIte,Nat.reduceEqDiff,zS,e3]
    rfl
   | some b =>
    have hb:=ho b rfl
    have f7g:∀ {fr:T V},fr.get 7=some (outV (some b))->fr.get 7=some (rpV b):=fun h=>h
    by_cases hgt:b.ord<r.ord
    ·refine go (some r) (by unfold zRM;rw[hmt,if_pos (by simp[hgt])]) (fun b hb=>by cases hb;exact hrm) fun fr k f2 f7 f8 f17 f18 f19=>?_
     rw[zF]
     simp only[zAQ,zA f2,zA (f7g f7),zA f8,zA f17,zA f18,zA f19,zL,e1,zM,p1,q1,zI,k1,zBE,zAr,retK,zT,nil1,nck,zC,lo r hrm,lo b hb,ze,decide_eq_true hgt,zQ,cond_true,cond_false,zB1,zO,↓reduceIte,Nat.reduceEqDiff,zS,e3]
     rfl
    ·refine go (some b) (by unfold zRM;rw[hmt,if_neg (by simp[hgt])]) ho fun fr k f2 f7 f8 f17 f18 f19=>?_
     rw[zF]
     simp only[zAQ,zA f2,zA (f7g f7),zA f8,zA f17,zA f18,zA f19,zL,e1,zM,p1,q1,zI,k1,zBE,zAr,retK,zT,nil1,nck,zC,lo r hrm,lo b hb,ze,decide_eq_false hgt,zQ,cond_true,cond_false,zK,zB1,zO,↓reduceIte,Nat.reduceEqDiff,zS,e3]
     rfl
abbrev ParsOk (c:zD):Prop:=∀ {hs:List Hd},Small hs->∀ {lv:V} {H:Heap},RdH H lv hs->∀ (Z:Tape) (q:KV),c zCD [lv] H Z q=q (.agg (ctlC (zCH hs))) H Z
def zPz (url:Bs)(ask:List Hd)(rows:List CRow):Option CRow:=if(zCH ask).1=true then none else rows.foldl (zRM url ask) none
theorem zNO (cc:zD){N:Nat}(hN:9223372036854775807<=N)(hMt:MeantOk cc)(hM:zOb cc)(hP:ParsOk cc){P D:Nat->Prop}{H:Heap}{c:Nat}{rows:List CRow}{puts:Int}(hc:CacM P D H c rows puts)(hw:WF H)(hl:rows.length<=1000)(hok:∀ r ∈ rows,OkVs r)(url:Bs){ask:List Hd}(hsm:Small ask){av:V}(ha:RdH H av ask)(Z:Tape) :
  ∃ H' Z',Gr H.size H H'/\(∀ b,zPz url ask rows=some b->b ∈ rows)/\∀ q,zFt cc N (.ptr c 0) (.str url) av H Z q=q (outV (zPz url ask rows)) H' Z':=by
 obtain⟨v,hb,hg⟩:=hc.bx
 obtain⟨H1,g1,z1,b1,b2,k1⟩:=hMt url (rd_same ha.1).2.1 hw Z
 have l1:zH [.ptr c 0] H1=some v:=zN (zEn hb hw g1).cells rfl
 have nck:zf [.ptr c 0]=some (.ptr c 0):=rfl
 have pl:=GenL.pLen hg
 have e1:((rows.length:Nat):Int)=(rows.length:Int):=rfl
 obtain⟨H2,Z2,g2,m2,k2⟩:=l_find cc N hM hsm rows hl v g1.wf ((GenL.rd hg).gr g1 hw nl) (fun r hr=>⟨(hc.mem r hr).chg hw (g1.chg (P:=fun _=>False)) (fun _ _ _=>not_false) not_false,hok r hr⟩) b1 b2 (ha.gr g1 hw nl) av rows [] none H1 Z N rfl (by omega) (Gr.refl g1.wf) (fun b h=>by cases h)
 have g12:=g1.trans g2 g1.size
 have kP:=hP hsm (ha.gr g12 hw nl) Z2
 have pf:zM7 0 1 false [.agg (ctlC (zCH ask))]=some (.bool (zCH ask).1):=rfl
 refine⟨H2,Z2,g12,fun b hb'=>?_,fun q=>?_⟩
 ·unfold zPz at hb'
  split at hb'
  ·cases hb'
  ·exact m2 b hb'
 ·simp only[zFt,k1,nck,zC,Nat.add_zero,zI,l1,pl]
  rw[k2 _ _ (by simp[T.get_set]) (by simp[T.get_set];rfl) (by simp[T.get_set]) (by simp[T.get_set]) (by simp[T.get_set]) (by simp[T.get_set])]
  unfold zPz
  cases hns:(zCH ask).1 with
  | true =>
   rw[hns]at pf
   rw[if_pos rfl]
   simp only[zU,Nat.beq_refl,cond_true,seqK,zF6,zO,↓reduceIte,Nat.reduceEqDiff,kP,pf,zI,zM]
   rfl
  | false =>
   rw[hns]at pf
   rw[if_neg (by decide)]
   simp only[zU,Nat.beq_refl,cond_true,seqK,zF6,zO,↓reduceIte,Nat.reduceEqDiff,kP,pf,zI,zK]
end Go.Am.X

namespace Go.Am.X
theorem zRE (cc:zD)(N:Nat){H:Heap}(hw:WF H)(Z:Tape):∃ H',CacM (fun _=>False) (fun _=>False) H' H.size [] 0/\Gr H.size H H'/\H'.size=H.size+1/\∀ q,zMc cc N H Z q=q (.ptr H.size 0) H' Z:=by
 have b1:Bx (H.new [.nils,.int .i64 (.ofNat 0)] 2 true) H.size [.nils,.int .i64 0]:=Bx.new H _ 2 true (by simp)
 have pb:zFA [.nils,(.int .i64 (.ofNat 0))] [] []=some (.agg [.nils,(.int .i64 (.ofNat 0))]):=rfl
 have e0:eBox [.agg [.nils,(.int .i64 (.ofNat 0))]] H Z=some (.ptr H.size 0,H.new [.nils,.int .i64 (.ofNat 0)] 2 true,Z):=rfl
 exact⟨_,⟨⟨.nils,b1,GenL.nil _ _ _⟩,fun r h=>by simp at h,fun _ h=>h.elim,fun _ h=>h.elim,fun _ h=>h.elim,fun h=>h,fun h=>h,fun r h=>by simp at h⟩,Gr.new hw _ _ _,rfl,fun q=>by simp only[zMc,pb,zI,e0,zT]⟩
abbrev Del0C (c:zD):Prop:=∀ {P:Nat->Prop} {H:Heap} {v:V} {x:CRow} {l:List CRow},GenE P H rpC 1 v (x::l)->WF H->0<l.length->l.length<=1000000->∀ Z,∃ v' H',GenE P H' rpC 1 v' l/\Chg P H H'/\∀ q,c zBp [v,.int .i64 (.ofNat 0),.int .i64 (.ofNat 1)] H Z q=q v' H' Z
theorem zJY (c:zD)(N:Nat){P:Nat->Prop}{H:Heap}{v:V}{x:CRow}{l:List CRow}(hg:GenE P H rpC 1 v (x::l))(hw:WF H)(hl:0<l.length)(hl':l.length<=1000000)(Z:Tape) :
  ∃ v' H',GenE P H' rpC 1 v' l/\Chg P H H'/\∀ q,zCd c N v (.int .i64 (.ofNat 0)) (.int .i64 (.ofNat 1)) H Z q=q v' H' Z:=by
 obtain⟨a,w1,w2,v',H1,w3,H2,e1,e2,e3,e4,e5,e6,e7,e8,e9⟩:=GenE.delete0 rpOk hg hw hl 8 [.nilp] rfl rfl Z
 have pl:pLen [v]=some (.int .i64 ((l.length+1:Nat):Int)):=GenL.pLen hg
 have e1':zt 1 true true true [v,.int .i64 (.ofNat 0),.int .i64 (.ofNat 1),.int .i64 ((l.length+1:Nat):Int)]=some a:=e1
 have e2':zt 1 false true false [v,.int .i64 (.ofNat 0)]=some w1:=e2
 have e3':zt 1 true false false [v,.int .i64 (.ofNat 1)]=some w2:=e3
 have ne:(Int.ofNat 0 == Int.ofNat 1)=false:=rfl
 exact⟨v',H2,e8,e9,fun q=>by simp only[zCd,pl,zI,e1',zZ,ne,zK,e2',e3',e4,zT,e5,e6,e7]⟩
end Go.Am.X

namespace Go.Am.X
abbrev P1of (P:Nat->Prop)(H:Heap):Nat->Prop:=fun i=>P i∨H.size<=i
theorem CacM.delete {cc c' c'':zD}(hD:DelC cc c' c''){f:CRow->Bool}{fv:V}{P D:Nat->Prop}{H:Heap}{c:Nat}{rows:List CRow}{puts:Int}(hc:CacM P D H c rows puts)(hw:WF H)(hl:rows.length<=1000)(t1:TstV c' fv rpV f (P1of P H) H rows)(t2:TstV c'' fv rpV f (P1of P H) H rows)(Z:Tape) :
  ∃ v w H3 Z3 H6,zH [.ptr c 0] H=some v/\(∀ q,cc zAW [v,fv] H Z q=q w H3 Z3)/\zH [.ptr c 0] H3=some v/\same v v=true/\eStore 1 [.ptr c 0,w] H3 Z3=some (.tup [],H6,Z3)/\zH [.ptr c 0] H6=some w/\pLen [w]=some (.int .i64 (((rows.filter fun r=>!f r).length:Nat):Int)) /\
   CacM (fun i=>P1of P H i/\i<H6.size) D H6 c (rows.filter fun r=>!f r) puts/\Chg (fun i=>P i∨i=c) H H6:=by
 obtain⟨v,hb,hg⟩:=hc.bx
 have hcl:=hb.lt hw
 have hP1:zR0 (P1of P H) H:=fun i hi=>.inr hi
 have nc:¬ P1of P H c:=fun h=>h.elim hc.pc (fun h=>by omega)
 have nr:∀ r ∈ rows,¬ P1of P H r.id:=fun r hr h=>h.elim (hc.pr r hr).1 (fun h=>by have:=(hc.mem r hr).bx.bx.lt hw;omega)
 have sepD:∀ i,P1of P H i->¬ D i:=fun i h hd=>h.elim (fun h=>hc.sep i h hd) (fun h=>by have:=hc.dl i hd;omega)
 have hg1:GenE (P1of P H) H rpC 1 v rows:=GenL.weaken hg hw (fun i _ h=>.inl h)
 obtain⟨w,H3,Z3,d1,d2,d3⟩:=hD f fv hw rows (by omega) v hg1 t1 t2 hP1 Z
 have c3:=hb.chg hw d2 nc
 obtain⟨H6,f1,f2,f3⟩:=c3.eStore d2.wf 0 w 1 (by rw[(GenL.scal d1).1];rfl) (by simp) (by omega) (by rw[(GenL.scal d1).1];simp[(GenL.scal d1).2]) Z3
 have f2':Bx H6 c [w,.int .i64 puts]:=by rw[(GenL.scal d1).1]at f2;exact f2
 have o6:Chg (fun i=>i=c) H3 H6:=f3.chg (P:=fun i=>i=c) rfl
 have d6:GenE (P1of P H) H6 rpC 1 w (rows.filter fun r=>!f r):=GenL.chg d1 d2.wf o6 (fun i _ h e=>nc (e ▸ h))
 have s16:Chg (fun i=>P1of P H i∨i=c) H H6:=(d2.weaken (fun i _ h=>.inl h)).trans o6 (fun i _ h=>.inr h)
 have q16:Chg (fun i=>P i∨i=c) H H6:=s16.weaken fun i hi h=>h.elim (fun h=>h.elim .inl (fun h=>by omega)) .inr
 have h6:H.size<=H6.size:=s16.size
 refine⟨v,w,H3,Z3,H6,zN hb.cells rfl,d3,zN c3.cells rfl,same_genC hg,f1,zN f2'.cells rfl,GenL.pLen d6,⟨⟨w,f2',GenL.weaken d6 f3.wf (fun i hi h=>⟨h,hi⟩)⟩,fun r hr=>?_,fun i h=>sepD i h.1,fun i h=>h.2,fun i h=>Nat.lt_of_lt_of_le (hc.dl i h) h6,fun h=>nc h.1,hc.dc,fun r hr=>?_⟩,q16⟩
 ·have hr:=(List.mem_filter.1 hr).1
  exact(hc.mem r hr).chg hw s16 (fun i _ hd h=>h.elim (fun h=>sepD i h hd) (fun h=>hc.dc (h ▸ hd))) (fun h=>h.elim (nr r hr) (hc.pr r hr).2.2)
 ·have hr:=(List.mem_filter.1 hr).1
  exact⟨fun h=>nr r hr h.1,(hc.pr r hr).2⟩
theorem CacM.delete0 {cc:zD}(hD:Del0C cc){P D:Nat->Prop}{H:Heap}{c:Nat}{r0:CRow}{l:List CRow}{puts:Int}(hc:CacM P D H c (r0::l) puts)(hw:WF H)(hl0:0<l.length)(hl:l.length<=1000)(Z:Tape) :
  ∃ v w H3 H6,zH [.ptr c 0] H=some v/\(∀ q,cc zBp [v,.int .i64 (.ofNat 0),.int .i64 (.ofNat 1)] H Z q=q w H3 Z)/\eStore 1 [.ptr c 0,w] H3 Z=some (.tup [],H6,Z) /\
   CacM (fun i=>P i/\i<H6.size) D H6 c l puts/\Chg (fun i=>P i∨i=c) H H6:=by
 obtain⟨v,hb,hg⟩:=hc.bx
 obtain⟨w,H3,d1,d2,d3⟩:=hD hg hw hl0 (by omega) Z
 have c3:=hb.chg hw d2 hc.pc
 obtain⟨H6,f1,f2,f3⟩:=c3.eStore d2.wf 0 w 1 (by rw[(GenL.scal d1).1];rfl) (by simp) (by omega) (by rw[(GenL.scal d1).1];simp[(GenL.scal d1).2]) Z
 have f2':Bx H6 c [w,.int .i64 puts]:=by rw[(GenL.scal d1).1]at f2;exact f2
 have o6:Chg (fun i=>i=c) H3 H6:=f3.chg (P:=fun i=>i=c) rfl
 have d6:GenE P H6 rpC 1 w l:=GenL.chg d1 d2.wf o6 (fun i _ h e=>hc.pc (e ▸ h))
 have s16:Chg (fun i=>P i∨i=c) H H6:=(d2.weaken (fun i _ h=>.inl h)).trans o6 (fun i _ h=>.inr h)
 refine⟨v,w,H3,H6,zN hb.cells rfl,d3,f1,⟨⟨w,f2',GenL.weaken d6 f3.wf (fun i hi h=>⟨h,hi⟩)⟩,fun r hr=>?_,fun i h=>hc.sep i h.1,fun i h=>h.2,fun i h=>Nat.lt_of_lt_of_le (hc.dl i h) s16.size,fun h=>hc.pc h.1,hc.dc,fun r hr=>?_⟩,s16⟩
 ·have hr:r ∈ r0::l:=List.mem_cons_of_mem _ hr
  exact(hc.mem r hr).chg hw s16 (fun i _ hd h=>h.elim (fun h=>hc.sep i h hd) (fun h=>hc.dc (h ▸ hd))) (fun h=>h.elim (hc.pr r hr).1 (hc.pr r hr).2.2)
 ·have hr:r ∈ r0::l:=List.mem_cons_of_mem _ hr
  exact⟨fun h=>(hc.pr r hr).1 h.1,(hc.pr r hr).2⟩
def vryT (ask:List Hd)(n:Bs):Vry:=(n,getT n ask,decide (0<(sel n ask).length))
abbrev rowV (url:Bs)(vv:V)(st:Int)(hv bv:V):List V:=[.str url,vv,.int .i64 st,hv,bv,.int .i64 (.ofNat 0),.int .i64 (.ofNat 0)]
theorem l_cput (cc:zD)(N:Nat)(hG:zSc cc){ask:List Hd}(hsm:Small ask){av:V}(names:List Bs)(hnl:names.length<=1000000)(hns:∀ n ∈ names,n.length<=140737488355328)(nv:V)(t0 t4:V)(url:Bs)(st:Int)(hv bv:V)(x:Nat){H0:Heap}(hw0:WF H0)(hxl:x<H0.size){Q:Nat->Prop}(hQ:∀ i,i<H0.size->(Q i ↔ i=x))(hQn:∀ i,H0.size<=i->Q i)
  (hr:∀ H,Chg Q H0 H->Rd H 1 nv names.length (names.map V.str)) (ha:∀ H,Chg Q H0 H->RdH H av ask) :
  ∀ (l pre:List Bs) (vv:V) (H:Heap) (Z:Tape) (m:Nat),names=pre++l->l.length<m->Chg Q H0 H->BxT H x (rowV url vv st hv bv)->GenE (fun i=>H0.size<=i) H vaC 3 vv (pre.map (vryT ask)) ->
  ∃ vv' H' Z',Chg Q H0 H'/\BxT H' x (rowV url vv' st hv bv)/\GenE (fun i=>H0.size<=i) H' vaC 3 vv' (names.map (vryT ask)) /\
   ∀ (fr:T V) k,fr.get 0=some t0->fr.get 2=some av->fr.get 4=some t4->fr.get 13=some (.ptr x 0)->fr.get 72=some nv->fr.get 73=some (.int .i64 (names.length:Int))->fr.get 74=some (.int .i64 (pre.length:Int)) ->
    zAP (zEd cc N) m ⟨fr,H⟩ Z k=k (.exit 0) ⟨(T.s (T.s (T.s .leaf 0 t0) 4 t4) 13 (.ptr x 0)),H'⟩ Z':=by
 intro l
 induction l with
 | nil =>
  intro pre vv H Z m he hm hg hb hv'
  obtain⟨m,rfl⟩:∃ j,m=j+1:=⟨m-1,by omega⟩
  have e1:decide ((pre.length:Int)<(names.length:Int))=false:=decide_eq_false (by rw[he];simp)
  rw[List.append_nil]at he
  refine⟨vv,H,Z,hg,hb,by rw[he];exact hv',fun fr k f0 f2 f4 f13 f72 f73 f74=>?_⟩
  rw[zF]
  simp only[zEd,zA f0,zA f2,zA f4,zA f13,zA f72,zA f73,zA f74,zL,e1,zK]
  rfl
 | cons n l ih =>
  intro pre vv H Z m he hm hg hb hv'
  obtain⟨m,rfl⟩:∃ j,m=j+1:=⟨m-1,by omega⟩
  have hw:=hg.wf
  have hlt:pre.length<names.length:=by rw[he];simp
  have e1:decide ((pre.length:Int)<(names.length:Int))=true:=decide_eq_true (by omega)
  have e3:wr .i64 ((pre.length:Int)+Int.ofNat 1)=((pre++[n]).length:Int):=by rw[adI (by omega)];simp
  obtain⟨p,p1,p2⟩:=(hr H hg).elem1 (i:=pre.length) (x:=.str n) (by rw[he];simp)
  have kG:=hG hsm (hns n (by rw[he];simp)) (ha H hg) Z
  have x0:∀ a b:V,zG 0 [.tup [a,b]]=some a:=fun _ _=>rfl
  have x1:∀ a b:V,zG 1 [.tup [a,b]]=some b:=fun _ _=>rfl
  have nck:zf [.ptr x 0]=some (.ptr x 0):=rfl
  have l1:zH [.ptr x (0+1)] H=some vv:=zN hb.bx.cells rfl
  have pb:zFA [(.str []),(.str []),(.bool false)] [(0,1),(1,1),(2,1)] [.str n,.str (getT n ask),.bool (decide (0<(sel n ask).length))]=some (.agg (vaC (vryT ask n))):=rfl
  have bs:zR 1 3 [(.str []),(.str []),(.bool false)] [(0,3)] [.agg (vaC (vryT ask n))] H Z=some (.sl H.size 0 1 1 none 3,H.new (vaC (vryT ask n)) 3 false,Z):=rfl
  obtain⟨vv',H1,Z1,a1,a2,a3,a4⟩:=GenE.put vaOk (bytes:=40) hv' hw (fun i hi=>Nat.le_trans hg.size hi) (vryT ask n) (by rw[List.length_map];omega) (by rw[List.length_map];omega) Z false
  have hb1:=hb.chg hw a3 (show ¬ H0.size<=x by omega)
  obtain⟨H2,s1,s2,s3⟩:=hb1.eStore a3.wf 1 vv' 1 (by rw[(GenL.scal a2).1];rfl) (by simp) (by omega) (by rw[(GenL.scal a2).1];simp[(GenL.scal a2).2]) Z1
  have s2':BxT H2 x (rowV url vv' st hv bv):=by rw[(GenL.scal a2).1]at s2;exact s2
  have o2:Chg (fun i=>i=x) H1 H2:=s3.chg (P:=fun i=>i=x) rfl
  have g2:GenE (fun i=>H0.size<=i) H2 vaC 3 vv' ((pre++[n]).map (vryT ask)):=by
   rw[List.map_append]
   exact GenL.chg a2 a3.wf o2 (fun i _ h e=>by omega)
  have hq2:Chg Q H0 H2:=(hg.trans a3 (fun i _ h=>hQn i h)).trans o2 (fun i hi h=>(hQ i hi).2 h)
  obtain⟨vv2,H',Z',i1,i2,i3,i4⟩:=ih (pre++[n]) vv' H2 Z1 m (by rw[he];simp) (by simp at hm;omega) hq2 s2' g2
  refine⟨vv2,H',Z',i1,i2,i3,fun fr k f0 f2 f4 f13 f72 f73 f74=>?_⟩
  rw[zF]
  simp only[zEd,zA f0,zA f2,zA f4,zA f13,zA f72,zA f73,zA f74,zL,e1,zM,p1,p2,zI,kG,x0,x1,nck,zC,l1,pb,bs,zT,a1,s1,zS,e3]
  exact i4 _ k (by simp[T.get_set]) (by simp[T.get_set]) (by simp[T.get_set]) (by simp[T.get_set]) (by simp[T.get_set]) (by simp[T.get_set]) (by simp[T.get_set])
end Go.Am.X

namespace Go.Am.X
end Go.Am.X

namespace Go.Am.X
end Go.Am.X

namespace Go.Am.X
theorem Own.compactF {H:Heap}{B:Nat}{v:V}{ss:List Bs}(h:Own H B 1 v ss.length (ss.map V.str))(hw:WF H)(hl:ss.length<4611686018427387904)(h0:ss≠[]) :
  ∃ v' H',(∀ Z,zCi [v] H Z=some (v',H',Z))/\FreshL B H' 1 (zIw ss).length ((zIw ss).map V.str) v'/\Gr B H H':=by
 have hle:=compL_le ss
 have hpos:=List.length_pos_iff.2 h0
 obtain⟨id,e,rfl⟩:=Own.form h hpos
 have hpl:((zIw ss++List.replicate (ss.length-(zIw ss).length) []).map V.str).length=(ss.map V.str).length:=by
  rw[List.length_map,List.length_map,List.length_append,List.length_replicate];omega
 obtain⟨H',s1,o1,g1⟩:=Own.stores h hw 0 ((zIw ss++List.replicate (ss.length-(zIw ss).length) []).map V.str) (by rw[hpl];omega) (strs_scal _)
 have hld:H.loads id 0 ss.length=some (ss.map V.str):=by
  rw[zCU (Own.cellsQ h) (by simp),List.drop_zero]
  rw[show ss.length=(ss.map V.str).length by simp,List.take_length]
 rw[List.take_zero,List.nil_append,Nat.zero_add,hpl,List.drop_length,List.append_nil]at o1
 refine⟨.sl id 0 (zIw ss).length ss.length (some e) 1,H',fun Z=>?_,?_,g1⟩
 ·obtain⟨m,hm⟩:∃ m,ss.length=m+1:=⟨ss.length-1,by omega⟩
  have hb:Nat.ble ss.length 9223372036854775807=true:=Nat.ble_eq_true_of_le (by omega)
  rw[hm]at hb hld
  rw[hm]
  simp only[zCi,Nat.beq_refl,hb,Bool.and_self,cond_true,hld,zQV,s1]
 ·rcases o1 with⟨h,_⟩ | ⟨id',e',room,fam,ver,pl,st,fr,q,h1,h2,h3,h4,h5,h7⟩
  ·cases h
  ·cases q
   refine⟨id,0,ss.length,some e,_,room,fam,ver,pl,st,fr,ver,rfl,h1,h2,h3,h5,?_,by simp,.inl rfl⟩
   rw[List.drop_zero,Nat.mul_one,List.map_append]
   have:(zIw ss).length=((zIw ss).map V.str).length:=by simp
   rw[this,List.take_left]
theorem zOD (c:zD)(N:Nat)(lv:V)(ss:List Bs)(x:Bs)(hl:ss.length<1000000000)(H:Heap)(hr:Rd H 1 lv ss.length (ss.map V.str)):∀ (l pre:List Bs) (Z:Tape) (m:Nat),ss=pre++l->l.length<m ->
  ∃ j:Nat,∀ (fr:T V) k,fr.get 0=some lv->fr.get 1=some (.str x)->fr.get 7=some (.int .i64 (ss.length:Int))->fr.get 8=some (.int .i64 (pre.length:Int)) ->
   zAP (zB0 c N) m ⟨fr,H⟩ Z k=bif l.contains x then k .ret ⟨(T.s .leaf 4 (.int .i64 (j:Int))),H⟩ Z else k (.exit 0) ⟨.leaf,H⟩ Z:=by
 intro l
 induction l with
 | nil =>
  intro pre Z m he hm
  obtain⟨m,rfl⟩:∃ j,m=j+1:=⟨m-1,by omega⟩
  have e1:decide (pre.length<ss.length)=false:=decide_eq_false (by rw[he];simp)
  refine⟨0,fun fr k f0 f1 f7 f8=>?_⟩
  rw[zF]
  simp only[zB0,zA f0,zA f1,zA f7,zA f8,zO,↓reduceIte,Nat.reduceEqDiff,zI,zT,retK,zBE,zAr,zq,zo,zAH,zQ,cond_true,cond_false,zM,zK,zZ,zAE,zL,zAB,ze,zAC,zAN,Bool.not_true,Bool.not_false,zw,za,zE5,zEz,zE0,zE4,zE6,zE2,zEa,zEp,zEx,zE3,ext0,ext1,zEw,zEy,zE1,zS,zAK,decide_true,decide_false,e1]
  rfl
 | cons y l ih =>
  intro pre Z m he hm
  obtain⟨m,rfl⟩:∃ j,m=j+1:=⟨m-1,by omega⟩
  have hlt:pre.length<ss.length:=by rw[he];simp
  have e1:decide (pre.length<ss.length)=true:=decide_eq_true hlt
  have e3:wr .i64 ((pre.length:Int)+Int.ofNat 1)=((pre++[y]).length:Int):=by rw[adI (by omega)];simp
  obtain⟨p,p1,p2⟩:=hr.elem1 (i:=pre.length) (x:=.str y) (by rw[he];simp)
  have ec:(y::l).contains x=((x == y) || l.contains x):=List.contains_cons
  rw[ec]
  cases hb:(x == y)with
  | true =>
   refine⟨pre.length,fun fr k f0 f1 f7 f8=>?_⟩
   rw[zF]
   simp only[zB0,zA f0,zA f1,zA f7,zA f8,zO,↓reduceIte,Nat.reduceEqDiff,zI,zT,retK,zBE,zAr,zq,zo,zAH,zQ,cond_true,cond_false,zM,zK,zZ,zAE,zL,zAB,ze,zAC,zAN,Bool.not_true,Bool.not_false,zw,za,zE5,zEz,zE0,zE4,zE6,zE2,zEa,zEp,zEx,zE3,ext0,ext1,zEw,zEy,zE1,zS,zAK,decide_true,decide_false,e1,p1,p2,zI0,hb,Bool.true_or]
   rfl
  | false =>
   obtain⟨j,i1⟩:=ih (pre++[y]) Z m (by rw[he];simp) (by simp at hm;omega)
   refine⟨j,fun fr k f0 f1 f7 f8=>?_⟩
   rw[zF]
   simp only[zB0,zA f0,zA f1,zA f7,zA f8,zO,↓reduceIte,Nat.reduceEqDiff,zI,zT,retK,zBE,zAr,zq,zo,zAH,zQ,cond_true,cond_false,zM,zK,zZ,zAE,zL,zAB,ze,zAC,zAN,Bool.not_true,Bool.not_false,zw,za,zE5,zEz,zE0,zE4,zE6,zE2,zEa,zEp,zEx,zE3,ext0,ext1,zEw,zEy,zE1,zS,zAK,decide_true,decide_false,e1,p1,p2,zI0,hb,Bool.false_or,e3]
   exact i1 _ k (by simp[T.get_set]) (by simp[T.get_set]) (by simp[T.get_set]) (by simp[T.get_set])
theorem zLl (c:zD){N:Nat}(hN:9223372036854775807<N)(lv:V)(ss:List Bs)(x:Bs)(hl:ss.length<1000000000)(H:Heap)(hr:Rd H 1 lv ss.length (ss.map V.str))(Z:Tape) :
  ∃ n:Int,decide (0<=n)=ss.contains x/\∀ q,zCu c N lv (.str x) H Z q=q (.int .i64 n) H Z:=by
 obtain⟨j,i1⟩:=zOD c N lv ss x hl H hr ss [] Z N rfl (by omega)
 have pl:=hr.pLen
 cases hb:ss.contains x with
 | true =>
  rw[hb]at i1
  refine⟨j,decide_eq_true (by omega),fun q=>?_⟩
  simp only[zCu,pl,zI]
  rw[i1 _ _ (by simp[T.get_set]) (by simp[T.get_set]) (by simp[T.get_set]) (by simp[T.get_set])]
  simp only[cond_true,zU,seqK,endK]
  rfl
 | false =>
  rw[hb]at i1
  refine⟨-1,rfl,fun q=>?_⟩
  simp only[zCu,pl,zI]
  rw[i1 _ _ (by simp[T.get_set]) (by simp[T.get_set]) (by simp[T.get_set]) (by simp[T.get_set])]
  simp only[cond_false,zU,Nat.beq_refl,cond_true,seqK,zHh]
  rfl
theorem zKM (c:zD)(N:Nat)(lv:V)(ss:List Bs)(x:Bs)(H:Heap)(Z:Tape)(h:∃ n:Int,decide (0<=n)=ss.contains x/\∀ q,c zDv [lv,.str x] H Z q=q (.int .i64 n) H Z)(q:KV) :
  zCz c N lv (.str x) H Z q=q (.bool (ss.contains x)) H Z:=by
 obtain⟨n,h1,h2⟩:=h
 have z0:decide (Int.ofNat 0<=n)=decide (0<=n):=rfl
 simp only[zCz,h2,zAC,z0,h1]
def zQi:Bs:=[118,97,114,121]
def nonE (p:Bs):Bool:=p != []
def varL (ps:List Bs):List Bs:=(ps.filter nonE).map lower
theorem lower_nonE (p:Bs):(lower p != [])=nonE p:=by
 unfold nonE
 cases p with
 | nil=>rfl
 | cons x p=>rfl
theorem lower_star (p:Bs):lower p=[42] ↔ p=[42]:=by
 constructor
 ·intro h
  cases p with
  | nil=>cases h
  | cons x p =>
   cases p with
   | cons y p=>simp[lower]at h
   | nil =>
    have e:lowB x=42:=by simpa [lower] using h
    have:x=42:=by
     unfold lowB at e
     split at e
     ·rename_i hx
      have:=congrArg UInt8.toNat e
      rw[show(UInt8.ofNat (x.toNat+32)).toNat=x.toNat+32 by simp;omega]at this
      have h42:(42:UInt8).toNat=42:=rfl
      omega
     ·exact e
    rw[this]
 ·intro h;rw[h];rfl
theorem varL_star (ps:List Bs):(varL ps).contains [42]=ps.contains [42]:=by
 rw[Bool.eq_iff_iff,List.contains_iff_mem,List.contains_iff_mem]
 unfold varL
 constructor
 ·intro h
  obtain⟨p,hp,e⟩:=List.mem_map.1 h
  rw[lower_star]at e
  rw[<- e];exact(List.mem_filter.1 hp).1
 ·intro h
  exact List.mem_map.2 ⟨[42],List.mem_filter.2 ⟨h,rfl⟩,rfl⟩
theorem varL_snoc (pre:List Bs)(p:Bs):varL (pre++[p])=varL pre++(if nonE p=true then [lower p]else []):=by
 unfold varL
 rw[List.filter_append,List.map_append]
 congr 1
 cases h:nonE p <;> simp[h]
theorem varL_len (ps:List Bs):(varL ps).length<=ps.length:=by
 unfold varL;rw[List.length_map];exact List.length_filter_le _ _
theorem l_age_Vary (c:zD)(N:Nat)(hL:NLowOk c)(pv:V)(ps:List Bs)(hl:ps.length<20000000)(hsz:∀ s ∈ ps,s.length<=100000000)(B:Nat):∀ (l pre:List Bs) (ov:V) (H:Heap) (Z:Tape) (m:Nat),ps=pre++l->l.length<m->WF H->B<=H.size->(∀ H',Gr B H H'->Rd H' 1 pv ps.length (ps.map V.str))->LsS H B ov (varL pre) ->
  ∃ ov' H' Z',LsS H' B ov' (varL ps)/\Gr B H H'/\∀ (fr:T V) k,fr.get 6=some ov->fr.get 14=some pv->fr.get 15=some (.int .i64 (ps.length:Int))->fr.get 16=some (.int .i64 (pre.length:Int)) ->
   zAP (zIJ c N) m ⟨fr,H⟩ Z k=k (.exit 0) ⟨(T.s .leaf 6 ov'),H'⟩ Z':=by
 intro l
 induction l with
 | nil =>
  intro pre ov H Z m he hm hw hB hrd ho
  obtain⟨m,rfl⟩:∃ j,m=j+1:=⟨m-1,by omega⟩
  have e1:decide (pre.length<ps.length)=false:=decide_eq_false (by rw[he];simp)
  refine⟨ov,H,Z,by rw[he,List.append_nil];exact ho,Gr.refl hw,fun fr k f6 f14 f15 f16=>?_⟩
  rw[zF]
  simp only[zIJ,zA f6,zA f14,zA f15,zA f16,zO,↓reduceIte,Nat.reduceEqDiff,zI,zT,retK,zBE,zAr,zq,zo,zAH,zQ,cond_true,cond_false,zM,zK,zZ,zAE,zL,zAB,ze,zAC,zAN,Bool.not_true,Bool.not_false,zw,za,zE5,zEz,zE0,zE4,zE6,zE2,zEa,zEp,zEx,zE3,ext0,ext1,zEw,zEy,zE1,zS,zAK,decide_true,decide_false,e1]
  rfl
 | cons x l ih =>
  intro pre ov H Z m he hm hw hB hrd ho
  obtain⟨m,rfl⟩:∃ j,m=j+1:=⟨m-1,by omega⟩
  have hlt:pre.length<ps.length:=by rw[he];simp
  have e1:decide (pre.length<ps.length)=true:=decide_eq_true hlt
  have e3:wr .i64 ((pre.length:Int)+Int.ofNat 1)=((pre++[x]).length:Int):=by rw[adI (by omega)];simp
  obtain⟨p,p1,p2⟩:=(hrd H (Gr.refl hw)).elem1 (i:=pre.length) (x:=.str x) (by rw[he];simp)
  have hx:=hsz x (by rw[he];simp)
  have kl:=hL x (by omega)
  have hne:=lower_nonE x
  cases hb:nonE x with
  | false =>
   rw[hb]at hne
   obtain⟨ov',H',Z',i1,i2,i3⟩:=ih (pre++[x]) ov H Z m (by rw[he];simp) (by simp at hm;omega) hw hB hrd (by rw[varL_snoc,hb];simpa using ho)
   refine⟨ov',H',Z',i1,i2,fun fr k f6 f14 f15 f16=>?_⟩
   rw[zF]
   simp only[zIJ,zA f6,zA f14,zA f15,zA f16,zO,↓reduceIte,Nat.reduceEqDiff,zI,zT,retK,zBE,zAr,zq,zo,zAH,zQ,cond_true,cond_false,zM,zK,zZ,zAE,zL,zAB,ze,zAC,zAN,Bool.not_true,Bool.not_false,zw,za,zE5,zEz,zE0,zE4,zE6,zE2,zEa,zEp,zEx,zE3,ext0,ext1,zEw,zEy,zE1,zS,zAK,decide_true,decide_false,e1,p1,p2,kl,zS5,hne,zKF,e3]
   exact i3 _ k (by simp[T.get_set]) (by simp[T.get_set]) (by simp[T.get_set]) (by simp[T.get_set])
  | true =>
   rw[hb]at hne
   have hvl:=varL_len pre
   obtain⟨w,H1,v',H2,Z2,r1,r2,r3,r4⟩:=ho.put hw hB (lower x) (by omega) Z
   obtain⟨ov',H',Z',i1,i2,i3⟩:=ih (pre++[x]) v' H2 Z2 m (by rw[he];simp) (by simp at hm;omega) r4.wf (Nat.le_trans hB r4.size) (fun H' hg=>hrd H' (r4.trans hg nl)) (by rw[varL_snoc,hb];simpa using r3)
   refine⟨ov',H',Z',i1,r4.trans i2 nl,fun fr k f6 f14 f15 f16=>?_⟩
   rw[zF]
   simp only[zIJ,zA f6,zA f14,zA f15,zA f16,zO,↓reduceIte,Nat.reduceEqDiff,zI,zT,retK,zBE,zAr,zq,zo,zAH,zQ,cond_true,cond_false,zM,zK,zZ,zAE,zL,zAB,ze,zAC,zAN,Bool.not_true,Bool.not_false,zw,za,zE5,zEz,zE0,zE4,zE6,zE2,zEa,zEp,zEx,zE3,ext0,ext1,zEw,zEy,zE1,zS,zAK,decide_true,decide_false,e1,p1,p2,kl,zS5,hne,r1,r2,zKF,e3]
   exact i3 _ k (by simp[T.get_set]) (by simp[T.get_set]) (by simp[T.get_set]) (by simp[T.get_set])
def varyO (hs:List Hd):Out:=if(zB8 zQi hs).contains [42]=true then .val (.tup [.nils,.bool false])else lstO 1 (srtT (varL (zB8 zQi hs))).length ((srtT (varL (zB8 zQi hs))).map V.str) (fun v=>.tup [v,.bool true])
abbrev VaryG (_:Bool)(hs:List Hd):List V->Out | []=>varyO hs | _=>.val (.tup [])
theorem zSC (c:zD){N:Nat}(hN:9223372036854775807<N)(hSp:IsP c zBP (RH zOE SplitG))(hL:NLowOk c)(hSr:∀ vs H Z q,c zGr vs H Z q=effK (zMD vs H Z) q)(hCo:∀ vs H Z q,c zFJ vs H Z q=effK (zCi vs H Z) q)
  (hCn:∀ (lv:V) (ss:List Bs) (x:Bs) (H:Heap),ss.length<1000000000->Rd H 1 lv ss.length (ss.map V.str)->∀ Z q,c zC3 [lv,.str x] H Z q=q (.bool (ss.contains x)) H Z)
  (hs:List Hd) (hsm:Small hs) (lv:V) (H:Heap) (hw:WF H) (hr:RdH H lv hs) (Z:Tape) :
  ∃ v H' Z',Gr H.size H H'/\(varyO hs).Met H v H'/\∀ q,zKP c N lv H Z q=q v H' Z':=by
 obtain⟨pv,H1,Z1,o1,g1,k1⟩:=k_Split hSp hsm (name:=zQi) (by decide) hw hr Z
 have hcnt:=zQu (name:=zQi) hsm
 have hmem:=fun s (h:s ∈ zB8 zQi hs)=>zQS hsm h
 unfold varyO
 generalize zB8 zQi hs=ps at o1 hcnt hmem ⊢
 obtain⟨ov,H2,Z2,i1,i2,i3⟩:=l_age_Vary c N hL pv ps (by omega) (fun s h=>by have:=hmem s h;omega) H1.size ps [] .nils H1 Z1 N rfl (by omega) g1.wf nl (fun H' hg=>o1.rd.gr hg g1.wf nl) (LsS.nil _ _)
 have hvl:=varL_len ps
 obtain⟨H3,j1,j2,j3⟩:=Own.sort i1.1 i2.wf (by omega)
 have hso:=zRa (varL ps)
 have kc:=fun Z q=>hCn ov (sorted (varL ps)) [42] H3 (by rw[hso.2.2];omega) j2.rd Z q
 have hst:(sorted (varL ps)).contains [42]=ps.contains [42]:=by
  rw[<- varL_star ps,Bool.eq_iff_iff,List.contains_iff_mem,List.contains_iff_mem,hso.2.1]
 rw[hst]at kc
 have g13:=(g1.trans i2 g1.size).trans (j3.weaken g1.size) (by have:=g1.size;have:=i2.size;omega)
 have pl:=o1.rd.pLen
 have en:bs [118,97,114,121]=zQi:=rfl
 have e42:bs [42]=[42]:=rfl
 cases hb:ps.contains [42]with
 | true =>
  rw[if_pos rfl]
  refine⟨.tup [.nils,.bool false],H3,Z2,g13,⟨rfl,trivial,trivial,trivial⟩,fun q=>?_⟩
  rw[hb]at kc
  simp only[zKP,en,k1,ext0,ext1,pl,zI]
  rw[i3 _ _ (by simp[T.get_set]) (by simp[T.get_set]) (by simp[T.get_set]) (by simp[T.get_set])]
  simp only[zU,Nat.beq_refl,cond_true,seqK,zKB,zO,↓reduceIte,Nat.reduceEqDiff,zI,zT,retK,zBE,zAr,zq,zo,zAH,zQ,cond_true,cond_false,zM,zK,zZ,zAE,zL,zAB,ze,zAC,zAN,Bool.not_true,Bool.not_false,zw,za,zE5,zEz,zE0,zE4,zE6,zE2,zEa,zEp,zEx,zE3,ext0,ext1,zEw,zEy,zE1,zS,zAK,decide_true,decide_false,hSr,j1,e42,kc]
 | false =>
  rw[if_neg (by simp)]
  rw[hb]at kc
  by_cases h0:varL ps=[]
  ·have hov:=i1.2 h0
   subst hov
   have hs0:srtT (varL ps)=[]:=by rw[h0];rfl
   have hc0:∀ H Z,zCi [.nils] H Z=some (.nils,H,Z):=fun _ _=>rfl
   refine⟨.tup [.nils,.bool true],H3,Z2,g13,?_,fun q=>?_⟩
   ·rw[hs0];exact⟨rfl,trivial,trivial,trivial⟩
   ·simp only[zKP,en,k1,ext0,ext1,pl,zI]
    rw[i3 _ _ (by simp[T.get_set]) (by simp[T.get_set]) (by simp[T.get_set]) (by simp[T.get_set])]
    simp only[zU,Nat.beq_refl,cond_true,seqK,zKB,zO,↓reduceIte,Nat.reduceEqDiff,zI,zT,retK,zBE,zAr,zq,zo,zAH,zQ,cond_true,cond_false,zM,zK,zZ,zAE,zL,zAB,ze,zAC,zAN,Bool.not_true,Bool.not_false,zw,za,zE5,zEz,zE0,zE4,zE6,zE2,zEa,zEp,zEx,zE3,ext0,ext1,zEw,zEy,zE1,zS,zAK,decide_true,decide_false,hSr,j1,e42,kc,hCo,hc0]
  ·have hsn:sorted (varL ps)≠[]:=fun e=>h0 (List.eq_nil_of_length_eq_zero (by rw[<- hso.2.2,e];rfl))
   obtain⟨v3,H4,k2,k3,k4⟩:=Own.compactF j2 j3.wf (by rw[hso.2.2];omega) hsn
   rw[zSG]at k3
   refine⟨.tup [v3,.bool true],H4,Z2,g13.trans (k4.weaken g1.size) (by have:=g13.size;omega),?_,fun q=>?_⟩
   ·have hne:(srtT (varL ps)).length≠0:=by
     intro e
     have h2:=List.eq_nil_of_length_eq_zero e
     obtain⟨z,hz⟩:=List.exists_mem_of_ne_nil _ h0
     have:=((srtT_ok (varL ps)).2.1 z).2 hz
     rw[h2]at this;simp at this
    refine Got.met (mk:=fun v=>.tup [v,.bool true]) (.inr ?_) (fun h=>absurd h hne) (mkOk_bool _) (strs_vok _ _) ⟨trivial,trivial,trivial⟩
    obtain⟨id,off,lo,ex,all,room,fam,ver,pl',st,fr,la,h1,h2,h3,h4,h5,h6⟩:=k3
    exact⟨id,off,lo,ex,all,room,fam,ver,pl',st,fr,la,h1,h2,h3,h4,Nat.le_trans g1.size h5,h6⟩
   ·simp only[zKP,en,k1,ext0,ext1,pl,zI]
    rw[i3 _ _ (by simp[T.get_set]) (by simp[T.get_set]) (by simp[T.get_set]) (by simp[T.get_set])]
    simp only[zU,Nat.beq_refl,cond_true,seqK,zKB,zO,↓reduceIte,Nat.reduceEqDiff,zI,zT,retK,zBE,zAr,zq,zo,zAH,zQ,cond_true,cond_false,zM,zK,zZ,zAE,zL,zAB,ze,zAC,zAN,Bool.not_true,Bool.not_false,zw,za,zE5,zEz,zE0,zE4,zE6,zE2,zEa,zEp,zEx,zE3,ext0,ext1,zEw,zEy,zE1,zS,zAK,decide_true,decide_false,hSr,j1,e42,kc,hCo,k2]
noncomputable abbrev zTE:List Row:=[Row.fn zIu zGD zL5,Row.fn zC3 zAO zB3,Row.fn zDv zAg zCo,Row.prim zBP (outP (RH zOE SplitG)),Row.prim zBU (outP LowR),Row.prim zGr zMD,Row.prim zFJ zCi]
theorem p_age_Vary:∀ base w0,zCP PG base w0 zIu (outP (RH zQr VaryG)):=by
 obtain⟨N,hN⟩:=someN
 refine primRH (N:=N) (l:=zTE) (.fn zPS zMl (.fn zEU zDX (.fn zFf zEo (.prim zNg (.prim zP0 (.prim sortP_ok (.prim compactP_ok (.nil _)))))))) 3 _ (fun hs args hp lv H hw hr Z=>?_)
 unfold zQr at hp;split at hp
 ·exact zSC (CR zTE N 2) hN (fun _ _ _ _=>rfl) (zPt fun _ _ _ _=>rfl) (fun _ _ _ _=>rfl) (fun _ _ _ _=>rfl) (fun lv ss x H hl hr Z q=>zKM (CR zTE N 1) N lv ss x H Z (zLl (CR zTE N 0) hN lv ss x hl H hr Z) q) hs hp lv H hw hr Z
 ·exact hp.elim
end Go.Am.X

