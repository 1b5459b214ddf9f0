/- The abstract machine, printed functions of the program, and what they are shown to be. -/
import Derived.Test.YtnijdmamheiebaaDoorCLSM3
import Derived.Sort.Row
import Derived.Sort.Grow
import Derived.Sort.EncStr
import Derived.Lib.Slices
import Derived.Lib.SlicesCompact
import Derived.JoinedOf
import Derived.Maps.Own
import Derived.Maps.Ext
import Derived.Maps.Range
import Derived.Sort.KeysCollected
import Derived.Lib.SlMapMerge
set_option linter.unusedSimpArgs false
set_option linter.unusedVariables false
namespace Go.Am
structure WF (H:Heap):Prop where
 blk:∀ id b,H.blk.get id=some b->id<H.size
 fams:∀ f x,H.fams.get f=some x->f<H.size
 fam:∀ id cs room fam ver wr pl st,H.blk.get id=some (.mem cs room fam ver wr pl st)->fam<H.size
structure Gr (B:Nat) (H H':Heap):Prop where
 wf:WF H'
 size:H.size<=H'.size
 blk:∀ id,id<B->H'.blk.get id=H.blk.get id
 fams:∀ f,f<B->H'.fams.get f=H.fams.get f
theorem Gr.refl {B:Nat}{H:Heap}(h:WF H):Gr B H H:=⟨h,Nat.le_refl _,fun _ _=>rfl,fun _ _=>rfl⟩
theorem Gr.trans {B C:Nat}{H H1 H2:Heap}(h:Gr B H H1)(k:Gr C H1 H2)(hBC:B<=C):Gr B H H2 :=
 ⟨k.wf,Nat.le_trans h.size k.size,fun id hid=>(k.blk id (by omega)).trans (h.blk id hid),fun f hf=>(k.fams f (by omega)).trans (h.fams f hf)⟩
theorem Gr.weaken {B C:Nat}{H H':Heap}(h:Gr C H H')(hBC:B<=C):Gr B H H' :=
 ⟨h.wf,h.size,fun id hid=>h.blk id (by omega),fun f hf=>h.fams f (by omega)⟩
theorem WF.cells_lt {H:Heap}(h:WF H){id:Nat}{cs:List V}(hc:H.cells? id=some cs):id<H.size:=by
 unfold Heap.cells? at hc
 split at hc
 ·rename_i hb;exact h.blk _ _ hb
 ·cases hc
theorem Gr.cells {B:Nat}{H H':Heap}(h:Gr B H H')(hw:WF H)(hB:H.size<=B){id:Nat}{cs:List V}(hc:H.cells? id=some cs):H'.cells? id=some cs:=by
 have hlt:=hw.cells_lt hc
 unfold Heap.cells? at hc ⊢
 rw[h.blk id (by omega)]
 split at hc
 ·rename_i cs' room fam ver wr pl st hb
  have hf:=hw.fam _ _ _ _ _ _ _ _ hb
  rw[h.fams fam (by omega)]
  exact hc
 ·cases hc
theorem WF.new {H:Heap}(h:WF H)(cells:List V)(room:Nat)(pl:Bool):WF (H.new cells room pl):=by
 refine⟨?_,?_,?_⟩
 ·intro id b hb
  simp only[Heap.new,T.get_set]at hb ⊢
  split at hb
  ·omega
  ·have:=h.blk _ _ hb;omega
 ·intro f x hf
  simp only[Heap.new,T.get_set]at hf ⊢
  split at hf
  ·omega
  ·have:=h.fams _ _ hf;omega
 ·intro id cs r fam ver wr p st hb
  simp only[Heap.new,T.get_set]at hb ⊢
  split at hb
  ·cases hb;omega
  ·have:=h.fam _ _ _ _ _ _ _ _ hb;omega
theorem Gr.new {H:Heap}(h:WF H)(cells:List V)(room:Nat)(pl:Bool):Gr H.size H (H.new cells room pl):=by
 refine⟨h.new _ _ _,Nat.le_succ _,fun id hid=>?_,fun f hf=>?_⟩
 ·simp only[Heap.new,T.get_set];rw[if_neg (by omega)]
 ·simp only[Heap.new,T.get_set];rw[if_neg (by omega)]
theorem zOd (H:Heap)(cells:List V)(room:Nat)(pl:Bool):(H.new cells room pl).cells? H.size=some cells:=by
 simp only[Heap.cells?,Heap.new,T.get_set_same]
 rfl
def Rd (H:Heap)(z:Nat)(v:V)(n:Nat)(cs:List V):Prop :=
 ((v=.nils∨∃ id off lo ex,v=.sl id off 0 lo ex z)/\n=0/\cs=[])∨∃ id off lo ex all,v=.sl id off n lo ex z/\H.cells? id=some all/\cs=(all.drop off).take (n*z)/\cs.length=n*z
theorem Rd.gr {B:Nat}{H H':Heap}{z:Nat}{v:V}{n:Nat}{cs:List V}(h:Rd H z v n cs)(hg:Gr B H H')(hw:WF H)(hB:H.size<=B):Rd H' z v n cs:=by
 rcases h with h | ⟨id,off,lo,ex,all,h1,h2,h3,h4⟩
 ·exact .inl h
 ·exact .inr ⟨id,off,lo,ex,all,h1,hg.cells hw hB h2,h3,h4⟩
def Own (H:Heap)(B z:Nat)(v:V)(n:Nat)(cs:List V):Prop :=
 (v=.nils/\n=0/\cs=[])∨∃ id e room fam ver pl st fr,v=.sl id 0 n n (some e) z/\H.blk.get id=some (.mem cs room fam ver true pl st)/\H.fams.get fam=some (fr,ver)/\fr<=ver/\B<=id/\B<=fam/\cs.length=n*z
theorem Own.nil (H:Heap)(B z:Nat):Own H B z .nils 0 []:=.inl ⟨rfl,rfl,rfl⟩
theorem Own.rd {H:Heap}{B z:Nat}{v:V}{n:Nat}{cs:List V}(h:Own H B z v n cs):Rd H z v n cs:=by
 rcases h with h | ⟨id,e,room,fam,ver,pl,st,fr,h1,h2,h3,h4,_,_,h7⟩
 ·exact .inl ⟨.inl h.1,h.2⟩
 ·refine .inr ⟨id,0,n,some e,cs,h1,?_,?_,h7⟩
  ·simp only[Heap.cells?,h2,h3]
   rw[show Nat.ble fr ver=true from Nat.ble_eq_true_of_le h4]
   rfl
  ·simp[<- h7]
theorem Own.gr {H H':Heap}{B C z:Nat}{v:V}{n:Nat}{cs:List V}(h:Own H B z v n cs)(hg:Gr C H H')(hw:WF H)(hC:H.size<=C):Own H' B z v n cs:=by
 rcases h with h | ⟨id,e,room,fam,ver,pl,st,fr,h1,h2,h3,h4,h5,h6,h7⟩
 ·exact .inl h
 ·have:=hw.blk _ _ h2
  have:=hw.fams _ _ h3
  exact .inr ⟨id,e,room,fam,ver,pl,st,fr,h1,by rw[hg.blk id (by omega)];exact h2,by rw[hg.fams fam (by omega)];exact h3,h4,h5,h6,h7⟩
theorem zMB:∀ (n:Nat) (l:List V),n<=l.length->takeN n l=some (l.take n):=by
 intro n
 induction n with
 | zero=>intro l _;cases l <;> rfl
 | succ n ih =>
  intro l h
  cases l with
  | nil=>simp at h
  | cons v l=>simp only[takeN,ih l (by simpa using h)];rfl
theorem WF.version {H:Heap}(h:WF H)(cells:List V)(room fam fr last:Nat)(pl:Bool)(hf:fam<H.size):WF (H.version cells room fam fr last pl):=by
 refine⟨?_,?_,?_⟩
 ·intro id b hb
  simp only[Heap.version,T.get_set]at hb ⊢
  split at hb
  ·omega
  ·have:=h.blk _ _ hb;omega
 ·intro f x hf'
  simp only[Heap.version,T.get_set]at hf' ⊢
  split at hf'
  ·omega
  ·have:=h.fams _ _ hf';omega
 ·intro id cs r fam' ver wr p st hb
  simp only[Heap.version,T.get_set]at hb ⊢
  split at hb
  ·cases hb;omega
  ·have:=h.fam _ _ _ _ _ _ _ _ hb;omega
theorem Own.append {H:Heap}{B z bytes:Nat}{v:V}{m:Nat}{cs:List V}(h:Own H B z v m cs)(hw:WF H)(hB:B<=H.size)(n:Nat)(new:List V)(hn:0<n)(hl:new.length=n*z)(hs:new.all V.scal=true)
  (h1:(m+n)*bytes<=140737488355328) (h2:m+n<=140737488355328) (Z:Tape) :
  ∃ v' H',Am.append H z bytes v n new Z=some (v',H',Z.tail)/\Own H' B z v' (m+n) (cs++new)/\Gr B H H'/\(∀ id cs,H.cells? id=some cs->H'.cells? id=some cs):=by
 rcases h with⟨rfl,rfl,rfl⟩ | ⟨id,e,room,fam,ver,pl,st,fr,rfl,k2,k3,k4,k5,k6,k7⟩
 ·obtain⟨k,rfl⟩:∃ k,n=k+1:=⟨n-1,by omega⟩
  refine⟨.sl H.size 0 (k+1) (k+1) (some (spare (k+1) (Z 0))) z,H.new new ((k+1+spare (k+1) (Z 0))*z) false,?_,?_,(Gr.new hw _ _ _).weaken hB,?_⟩
  ·have e1:Nat.ble ((k+1)*bytes) 140737488355328=true:=Nat.ble_eq_true_of_le (by simpa using h1)
   have e2:Nat.ble (k+1) 140737488355328=true:=Nat.ble_eq_true_of_le (by simpa using h2)
   simp only[Am.append,e1,e2,Bool.and_self,cond_true,fresh]
  ·refine .inr ⟨H.size,spare (k+1) (Z 0),_,H.size,0,false,0,0,by simp,by rw[List.nil_append];exact T.get_set_same _ _ _,T.get_set_same _ _ _,Nat.le_refl _,hB,hB,by simpa using hl⟩
  ·intro id cs hc
   exact(Gr.new hw new _ false).cells hw nl hc
 ·have hfam:fam<H.size:=hw.fams _ _ k3
  have hid:id<H.size:=hw.blk _ _ k2
  have hcells:H.cells? id=some cs:=by
   simp only[Heap.cells?,k2,k3]
   rw[show Nat.ble fr ver=true from Nat.ble_eq_true_of_le k4]
   rfl
  have hloads:H.loads id 0 (m*z)=some cs:=by
   simp only[Heap.loads,hcells,List.drop_zero]
   rw[zMB _ _ (by omega),<- k7,List.take_length]
  refine⟨.sl H.size 0 (m+n) (m+n) (some (spare (m+n) (Z 0))) z,H.version (cs++new) ((m+n+spare (m+n) (Z 0))*z) fam fr ver pl,?_,?_,⟨hw.version _ _ _ _ _ _ hfam,Nat.le_succ _,fun i hi=>?_,fun f hf=>?_⟩,?_⟩
  ·have e1:Nat.ble ((m+n)*bytes) 140737488355328=true:=Nat.ble_eq_true_of_le h1
   have e2:Nat.ble (m+n) 140737488355328=true:=Nat.ble_eq_true_of_le h2
   have e3:Nat.ble (m+n) m=false:=by
    cases hb:Nat.ble (m+n) m with
    | false=>rfl
    | true=>have:=Nat.le_of_ble_eq_true hb;omega
   have e4:Nat.beq z z=true:=Nat.beq_refl z
   have e5:Nat.beq ver ver=true:=Nat.beq_refl ver
   have e6:Nat.beq (0+m*z) cs.length=true:=by rw[k7,Nat.zero_add];exact Nat.beq_refl _
   simp only[Am.append,e4,cond_true,e3,cond_false,e1,e2,Bool.and_self,hloads,k2,k3,e5,e6,hs]
  ·refine .inr ⟨H.size,spare (m+n) (Z 0),_,fam,ver+1,pl,0,fr,rfl,T.get_set_same _ _ _,T.get_set_same _ _ _,by omega,hB,k6,by rw[List.length_append,k7,hl,Nat.add_mul]⟩
  ·simp only[Heap.version,T.get_set];rw[if_neg (by omega)]
  ·simp only[Heap.version,T.get_set];rw[if_neg (by omega)]
  ·intro i c hc
   have hilt:=hw.cells_lt hc
   unfold Heap.cells? at hc ⊢
   simp only[Heap.version,T.get_set]
   rw[if_neg (by omega)]
   split at hc
   ·rename_i cs' room' fam' ver' wr' pl' st' hb
    by_cases he:fam=fam'
    ·subst he
     rw[k3]at hc
     simpa using hc
    ·rw[if_neg he]
     exact hc
   ·cases hc
end Go.Am

namespace Go.Am
open Go.RowKit (Below)
def zKm (vs:List V)(H:Heap)(Z:Tape):Option (V × Heap × Tape) :=
 match vs with
 | []=>some (.bool true,H,Z)
 | _=>none
theorem closedP_ev:zRh zKm:=by
 intro vs H Z v H' Z' h
 simp only[zKm,Bool.cond_eq_ite]at h
 (repeat' split at h) <;> first
  | (cases h;done)
  | (simp only[Option.some.injEq,Prod.mk.injEq]at h;obtain⟨_,rfl,_⟩:=h;first | exact Ev.refl _)
theorem zSZ {P:Program}(hm:P.follows .mixedOrders=true){F:T Def}(hF:∀ base w0,T.All (fun f d=>zQo P base w0 f d) F (fun k=>k)){E:T Ent}{N d f:Nat}(ht:TabOk F.get N (zOA E N))(hp:zEp P f=true)
  (n:Nat) (hn:P.globals.size<=n) (h:(fun Z=>zPJ (zOA E N) d f [] (start (List.replicate n none)) Z trueK)=fun _=>doneA) (base:Base) (w0:World):zDf P base w0 f zKm:=by
 refine⟨closedP_ev,fun vs H U w hM hG hok hn0=>⟨hp,?_⟩⟩
 cases vs with
 | cons a l=>exact absurd rfl (hn0 (fun _=>0))
 | nil =>
  refine(call_true hm (W:=w) (fun f d hd base w0=>defs_ok (hF base w0) f d hd) N d f [] (List.replicate n none) (fun id=>(id,0)) (fun id cs hid=>?_) (fun g _=>rfl) (by simpa using hn) trivial (run_true ht h)).mono fun e w' ⟨he,hb⟩=>?_
  ·rw[List.getElem?_replicate]at hid
   split at hid <;> cases hid
  ·exact⟨.bool true,H,U,[],by rw[he];rfl,fun Z=>rfl,hM.keep hb,Ext.refl _ _,Evol.refl _,trivial⟩
theorem zBX (v:V)(c:V->Ans):zC (some v) c=c v:=rfl
theorem zJL (v:V)(H:Heap)(Z:Tape)(c:KV):effK (some (v,H,Z)) c=c v H Z:=rfl
theorem zPP (x y:Ans):zV (.bool true) x y=x:=rfl
theorem zJU (x y:Ans):zV (.bool false) x y=y:=rfl
theorem ze (body:KV->Ans)(H:Heap)(Z:Tape)(c:KV):gK (.bool false) true body H Z c=c (.tup []) H Z:=rfl
theorem zh (body:KV->Ans)(H:Heap)(Z:Tape)(c:KV):gK (.bool true) false body H Z c=c (.tup []) H Z:=rfl
theorem zAB (body:KV->Ans)(H:Heap)(Z:Tape)(c:KV):gK (.bool true) true body H Z c=effK (body retK) c:=rfl
theorem zu (body:KV->Ans)(H:Heap)(Z:Tape)(c:KV):gK (.bool false) false body H Z c=effK (body retK) c:=rfl
theorem zX (w:Bool)(body:KV->Ans)(H:Heap)(Z:Tape)(c:KV):gK (.tup []) w body H Z c=c (.tup []) H Z:=rfl
theorem zA {fr:T V}{i:Nat}{v:V}(h:fr.get i=some v)(c:V->Ans):getK fr i c=c v:=by simp[getK,h]
theorem zES {n:Int}(h:-9223372036854775808<=n)(h':n<=9223372036854775807):wr .i64 n=n:=by
 rw[zPZ]
 simp only[IntKind.wrap,IntKind.signed,IntKind.bits]
 simp only[Bool.true_and]
 split <;> simp_all <;> omega
theorem zS (k:IntKind)(x y:Int)(c:V->Ans):binK .add (.int k x) (.int k y) c=c (.int k (wr k (x+y))):=by simp[binK,zB4,intK,zHe]
theorem zAA (k:IntKind)(x y:Int)(c:V->Ans):binK .sub (.int k x) (.int k y) c=c (.int k (wr k (x-y))):=by simp[binK,zB4,intK,zHe]
theorem zJT (k:IntKind)(x y:Int)(c:V->Ans):binK .mul (.int k x) (.int k y) c=c (.int k (wr k (x*y))):=by simp[binK,zB4,intK,zHe]
theorem zU (k:IntKind)(x y:Int)(c:V->Ans):binK .eql (.int k x) (.int k y) c=c (.bool (x == y)):=by simp[binK,zB4,intK]
theorem zAM (k:IntKind)(x y:Int)(c:V->Ans):binK .neq (.int k x) (.int k y) c=c (.bool (x != y)):=by simp[binK,zB4,intK]
theorem zL (k:IntKind)(x y:Int)(c:V->Ans):binK .lss (.int k x) (.int k y) c=c (.bool (decide (x<y))):=by simp[binK,zB4,intK]
theorem zAY (k:IntKind)(x y:Int)(c:V->Ans):binK .leq (.int k x) (.int k y) c=c (.bool (decide (x<=y))):=by simp[binK,zB4,intK]
theorem zY (k:IntKind)(x y:Int)(c:V->Ans):binK .gtr (.int k x) (.int k y) c=c (.bool (decide (y<x))):=by simp[binK,zB4,intK]
theorem zi (k:IntKind)(x y:Int)(c:V->Ans):binK .geq (.int k x) (.int k y) c=c (.bool (decide (y<=x))):=by simp[binK,zB4,intK]
theorem zPU (k:IntKind)(x:Int)(y:Int)(hy:y≠0)(c:V->Ans):binK .quo (.int k x) (.int k y) c=c (.int k (wr k (x.tdiv y))):=by
 simp only[binK,zB4,intK,zHe,if_true]
 split
 ·exact absurd rfl hy
 ·rfl
theorem zSQ (k:IntKind)(x:Int)(y:Int)(hy:y≠0)(c:V->Ans):binK .rem (.int k x) (.int k y) c=c (.int k (x.tmod y)):=by
 simp only[binK,zB4,intK,zHe,if_true]
 split
 ·exact absurd rfl hy
 ·rfl
theorem zP (b:BinOp)(x y:List UInt8)(c:V->Ans):binK b (.str x) (.str y) c=zC (zAL b x y) c:=rfl
theorem zD7 {x y:List UInt8}(h:x.length+y.length<=4611686018427387904):zAL .add x y=some (.str (x++y)):=by
 simp only[zAL]
 rw[Nat.ble_eq_true_of_le h]
 rfl
theorem zSX (x y:List UInt8):zAL .eql x y=some (.bool (x == y)):=by simp[zAL,zOq]
theorem str_neq (x y:List UInt8):zAL .neq x y=some (.bool (x != y)):=by simp[zAL,zOq,bne]
theorem zg (b:Bool)(c:V->Ans):unK .not (.bool b) c=c (.bool (!b)):=by simp[unK,unOp,zC]
theorem zBB (k k':IntKind)(n:Int)(c:V->Ans):zCS k (.int k' n) c=c (.int k (wr k n)):=by simp[zCS,zHe]
theorem zJ (b:Bool)(x y:V):zAE [.bool b,x,y]=some (bif b then x else y):=by cases b <;> rfl
theorem zO (s:List UInt8):zBW [.str s]=some (.int .i64 (s.length:Int)):=rfl
theorem zBK (n:Nat):zNC (n:Int)=some n:=by simp[zNC,zBG]
theorem zk {s:List UInt8}{i:Nat}{c:UInt8}(h:s[i]?=some c):zM [.str s,.int .i64 (i:Int)]=some (.int .u8 (c.toNat:Int)):=by
 simp[zM,zBK,h]
theorem zI (body:St->Tape->KC->Ans)(n:Nat)(st:St)(Z:Tape)(k:KC):zq body (n+1) st Z k=body st Z (seqK (fun st Z=>zq body n st Z k) k):=rfl
end Go.Am

namespace Go.Am
def Blk (H:Heap)(B id:Nat)(cs:List V):Prop :=
 ∃ room fam ver pl st fr,H.blk.get id=some (.mem cs room fam ver true pl st)/\H.fams.get fam=some (fr,ver)/\fr<=ver/\B<=id/\B<=fam/\cs.length<=room
theorem Blk.cells {H:Heap}{B id:Nat}{cs:List V}(h:Blk H B id cs):H.cells? id=some cs:=by
 obtain⟨room,fam,ver,pl,st,fr,h1,h2,h3,_,_⟩:=h
 simp only[Heap.cells?,h1,h2]
 rw[show Nat.ble fr ver=true from Nat.ble_eq_true_of_le h3]
 rfl
theorem Blk.new (H:Heap)(cells:List V)(room:Nat)(pl:Bool)(hr:cells.length<=room):Blk (H.new cells room pl) H.size H.size cells :=
 ⟨room,H.size,0,pl,0,0,T.get_set_same _ _ _,T.get_set_same _ _ _,Nat.le_refl _,Nat.le_refl _,Nat.le_refl _,hr⟩
theorem Blk.gr {H H':Heap}{B C id:Nat}{cs:List V}(h:Blk H B id cs)(hg:Gr C H H')(hw:WF H)(hC:H.size<=C):Blk H' B id cs:=by
 obtain⟨room,fam,ver,pl,st,fr,h1,h2,h3,h4,h5,h6⟩:=h
 have:=hw.blk _ _ h1
 have:=hw.fams _ _ h2
 exact⟨room,fam,ver,pl,st,fr,by rw[hg.blk id (by omega)];exact h1,by rw[hg.fams fam (by omega)];exact h2,h3,h4,h5,h6⟩
theorem Blk.lt {H:Heap}{B id:Nat}{cs:List V}(h:Blk H B id cs)(hw:WF H):id<H.size:=by
 obtain⟨room,fam,ver,pl,st,fr,h1,_⟩:=h
 exact hw.blk _ _ h1
theorem over_in:∀ (off room:Nat) (vs cs:List V),off+vs.length<=cs.length->over room off vs cs=some (cs.take off++vs++cs.drop (off+vs.length)):=by
 intro off
 induction off with
 | zero =>
  intro room vs
  induction vs generalizing room with
  | nil=>intro cs _;cases cs <;> simp[over]
  | cons v vs ih =>
   intro cs h
   cases cs with
   | nil=>simp at h
   | cons c cs =>
    have:=ih (room-1) cs (by simp at h ⊢;omega)
    simp only[over,this]
    simp[Nat.add_comm]
 | succ off ih =>
  intro room vs cs h
  cases cs with
  | nil =>
   exfalso
   simp at h
  | cons c cs =>
   cases vs with
   | nil=>simp[over]
   | cons v vs =>
    have:=ih (room-1) (v::vs) cs (by simp at h ⊢;omega)
    simp only[over,this]
    simp only[List.take_succ_cons,List.cons_append,Option.some.injEq,List.cons.injEq,true_and]
    rw[show off+1+(v::vs).length=(off+(v::vs).length)+1 by omega,List.drop_succ_cons]
theorem Blk.stores {H:Heap}{B id:Nat}{cs:List V}(h:Blk H B id cs)(hw:WF H)(off:Nat)(vs:List V)(hl:off+vs.length<=cs.length)(hs:vs.all V.scal=true) :
  ∃ H',H.stores id off vs=some H'/\Blk H' B id (cs.take off++vs++cs.drop (off+vs.length))/\Gr B H H'/\H'.size=H.size:=by
 obtain⟨room,fam,ver,pl,st,fr,h1,h2,h3,h4,h5,h6⟩:=h
 cases vs with
 | nil=>exact⟨H,rfl,by simpa using ⟨room,fam,ver,pl,st,fr,h1,h2,h3,h4,h5,h6⟩,Gr.refl hw,rfl⟩
 | cons v vs =>
  have hroom:H.room? id=room:=by simp only[Heap.room?,h1]
  have hov:=over_in off room (v::vs) cs hl
  refine⟨{ size:=H.size,blk:=H.blk.s id (.mem (cs.take off++(v::vs)++cs.drop (off+(v::vs).length)) room fam ver true pl (st+1)),fams:=H.fams.s fam (ver,ver) },?_,?_,?_,rfl⟩
  ·simp only[Heap.stores,hs,cond_true,Heap.write,h1,h2,hroom,hov]
   rw[show Nat.beq ver ver=true from Nat.beq_refl ver,show Nat.ble fr ver=true from Nat.ble_eq_true_of_le h3]
   rfl
  ·refine⟨room,fam,ver,pl,st+1,ver,T.get_set_same _ _ _,T.get_set_same _ _ _,Nat.le_refl _,h4,h5,?_⟩
   have:(cs.take off++(v::vs)++cs.drop (off+(v::vs).length)).length=cs.length:=by
    simp only[List.length_append,List.length_take,List.length_drop]
    omega
   omega
  ·have hid:=hw.blk _ _ h1
   have hfam:=hw.fams _ _ h2
   refine⟨⟨?_,?_,?_⟩,Nat.le_refl _,fun i hi=>?_,fun f hf=>?_⟩
   ·intro i b hb
    simp only[T.get_set]at hb ⊢
    split at hb
    ·omega
    ·exact hw.blk _ _ hb
   ·intro f x hf
    simp only[T.get_set]at hf ⊢
    split at hf
    ·omega
    ·exact hw.fams _ _ hf
   ·intro i c r f v' w p s hb
    simp only[T.get_set]at hb ⊢
    split at hb
    ·cases hb;exact hfam
    ·exact hw.fam _ _ _ _ _ _ _ _ hb
   ·simp only[T.get_set];rw[if_neg (by omega)]
   ·simp only[T.get_set];rw[if_neg (by omega)]
theorem Blk.eStore {H:Heap}{B id:Nat}{cs:List V}(h:Blk H B id cs)(hw:WF H)(off:Nat)(x:V)(n:Nat)(hn:x.cells.length=n)(hl:off+n<=cs.length)(hs:x.cells.all V.scal=true)(Z:Tape) :
  ∃ H',Am.eStore n [.ptr id off,x] H Z=some (.tup [],H',Z)/\Blk H' B id (cs.take off++x.cells++cs.drop (off+n))/\Gr B H H'/\H'.size=H.size:=by
 obtain⟨H',h1,h2,h3,h4⟩:=h.stores hw off x.cells (by omega) hs
 refine⟨H',?_,by rw[<- hn];exact h2,h3,h4⟩
 simp only[Am.eStore,hn,h1]
 rw[show Nat.beq n n=true from Nat.beq_refl n]
 rfl
theorem zDQ {H:Heap}{id off:Nat}{cs:List V}{v:V}(h:H.cells? id=some cs)(hv:cs[off]?=some v):zf [.ptr id off] H=some v:=by
 simp[zf,Heap.load,h,hv]
theorem zJm {H:Heap}{id off n:Nat}{cs:List V}(h:H.cells? id=some cs)(hl:off+n<=cs.length):zA7 n [.ptr id off] H=some (.agg ((cs.drop off).take n)):=by
 simp only[zA7,Heap.loads,h]
 rw[zMB _ _ (by rw[List.length_drop];omega)]
theorem zCj {H:Heap}{id off n:Nat}{cs:List V}(h:H.cells? id=some cs)(hl:off+n<=cs.length):H.loads id off n=some ((cs.drop off).take n):=by
 simp only[Heap.loads,h]
 rw[zMB _ _ (by rw[List.length_drop];omega)]
theorem zAt {s:List UInt8}{k:IntKind}{i:Nat}(h:i<=s.length):zR true false [.str s,.int k (i:Int)]=some (.str (s.drop i)):=by
 simp only[zR,zE8,optN,zBK,zRi,Option.getD_none,Option.getD_some,Nat.ble_eq_true_of_le h,Nat.ble_eq_true_of_le (Nat.le_refl s.length),Bool.and_self,cond_true,List.take_length]
theorem zDB {s:List UInt8}{k:IntKind}{j:Nat}(h:j<=s.length):zR false true [.str s,.int k (j:Int)]=some (.str (s.take j)):=by
 simp only[zR,zE8,optN,zBK,zRi,Option.getD_none,Option.getD_some,Nat.ble_eq_true_of_le h,Nat.ble_eq_true_of_le (Nat.zero_le j),Bool.and_self,cond_true,List.drop_zero]
theorem zAp {s:List UInt8}{k k':IntKind}{i j:Nat}(h1:i<=j)(h2:j<=s.length):zR true true [.str s,.int k (i:Int),.int k' (j:Int)]=some (.str ((s.take j).drop i)):=by
 simp only[zR,zE8,optN,zBK,zRi,Option.getD_some,Nat.ble_eq_true_of_le h1,Nat.ble_eq_true_of_le h2,Bool.and_self,cond_true]
theorem zK (t:T V)(i:Nat)(v:V)(j:Nat)(c:V->Ans):getK (T.s t i v) j c=if i=j then c v else getK t j c:=by
 unfold getK
 rw[T.get_set]
 by_cases h:i=j
 ·rw[if_pos h,if_pos h]
 ·rw[if_neg h,if_neg h]
end Go.Am

namespace Go.Am
def Bx (H:Heap)(id:Nat)(cs:List V):Prop :=
 ∃ room ver pl st fr,H.blk.get id=some (.mem cs room id ver true pl st)/\H.fams.get id=some (fr,ver)/\fr<=ver/\cs.length<=room
structure Only (i:Nat) (H H':Heap):Prop where
 wf:WF H'
 size:H'.size=H.size
 blk:∀ id,id≠i->H'.blk.get id=H.blk.get id
 fams:∀ f,f≠i->H'.fams.get f=H.fams.get f
theorem Only.gr {i B:Nat}{H H':Heap}(h:Only i H H')(hB:B<=i):Gr B H H' :=
 ⟨h.wf,by rw[h.size];exact Nat.le_refl _,fun id hid=>h.blk id (by omega),fun f hf=>h.fams f (by omega)⟩
theorem Bx.blk {H:Heap}{id:Nat}{cs:List V}(h:Bx H id cs):Blk H id id cs:=by
 obtain⟨room,ver,pl,st,fr,h1,h2,h3,h4⟩:=h
 exact⟨room,id,ver,pl,st,fr,h1,h2,h3,Nat.le_refl _,Nat.le_refl _,h4⟩
theorem Bx.cells {H:Heap}{id:Nat}{cs:List V}(h:Bx H id cs):H.cells? id=some cs:=h.blk.cells
theorem Bx.lt {H:Heap}{id:Nat}{cs:List V}(h:Bx H id cs)(hw:WF H):id<H.size:=h.blk.lt hw
theorem Bx.new (H:Heap)(cells:List V)(room:Nat)(pl:Bool)(hr:cells.length<=room):Bx (H.new cells room pl) H.size cells :=
 ⟨room,0,pl,0,0,T.get_set_same _ _ _,T.get_set_same _ _ _,Nat.le_refl _,hr⟩
theorem Bx.gr {H H':Heap}{C id:Nat}{cs:List V}(h:Bx H id cs)(hg:Gr C H H')(hC:id<C):Bx H' id cs:=by
 obtain⟨room,ver,pl,st,fr,h1,h2,h3,h4⟩:=h
 exact⟨room,ver,pl,st,fr,by rw[hg.blk id hC];exact h1,by rw[hg.fams id hC];exact h2,h3,h4⟩
theorem Bx.only {H H':Heap}{i id:Nat}{cs:List V}(h:Bx H id cs)(hg:Only i H H')(hC:id≠i):Bx H' id cs:=by
 obtain⟨room,ver,pl,st,fr,h1,h2,h3,h4⟩:=h
 exact⟨room,ver,pl,st,fr,by rw[hg.blk id hC];exact h1,by rw[hg.fams id hC];exact h2,h3,h4⟩
theorem Bx.eStore {H:Heap}{id:Nat}{cs:List V}(h:Bx H id cs)(hw:WF H)(off:Nat)(x:V)(n:Nat)(hn:x.cells.length=n)(hl:off+n<=cs.length)(hn0:0<n)(hs:x.cells.all V.scal=true)(Z:Tape) :
  ∃ H',Am.eStore n [.ptr id off,x] H Z=some (.tup [],H',Z)/\Bx H' id (cs.take off++x.cells++cs.drop (off+n))/\Only id H H':=by
 obtain⟨room,ver,pl,st,fr,h1,h2,h3,h4⟩:=h
 have hroom:H.room? id=room:=by simp only[Heap.room?,h1]
 have hov:=over_in off room x.cells cs (by omega)
 obtain⟨y,ys,hy⟩:∃ y ys,x.cells=y::ys:=by
  cases hx:x.cells with
  | nil=>rw[hx]at hn;simp at hn;omega
  | cons y ys=>exact⟨y,ys,rfl⟩
 refine⟨{ size:=H.size,blk:=H.blk.s id (.mem (cs.take off++x.cells++cs.drop (off+n)) room id ver true pl (st+1)),fams:=H.fams.s id (ver,ver) },?_,?_,?_⟩
 ·have:H.stores id off x.cells=some { size:=H.size,blk:=H.blk.s id (.mem (cs.take off++x.cells++cs.drop (off+n)) room id ver true pl (st+1)),fams:=H.fams.s id (ver,ver) }:=by
   rw[hy]at hs hov ⊢
   simp only[Heap.stores,hs,cond_true,Heap.write,h1,h2,hroom,hov]
   rw[show Nat.beq ver ver=true from Nat.beq_refl ver,show Nat.ble fr ver=true from Nat.ble_eq_true_of_le h3]
   rw[<- hy,hn]
   rfl
  simp only[Am.eStore,hn,this]
  rw[show Nat.beq n n=true from Nat.beq_refl n]
  rfl
 ·refine⟨room,ver,pl,st+1,ver,T.get_set_same _ _ _,T.get_set_same _ _ _,Nat.le_refl _,?_⟩
  have:(cs.take off++x.cells++cs.drop (off+n)).length=cs.length:=by
   simp only[List.length_append,List.length_take,List.length_drop]
   omega
  omega
 ·have hid:=hw.blk _ _ h1
  refine⟨⟨?_,?_,?_⟩,rfl,fun i hi=>?_,fun f hf=>?_⟩
  ·intro i b hb
   simp only[T.get_set]at hb ⊢
   split at hb
   ·omega
   ·exact hw.blk _ _ hb
  ·intro f x hf
   simp only[T.get_set]at hf ⊢
   split at hf
   ·omega
   ·exact hw.fams _ _ hf
  ·intro i c r f v' w p s hb
   simp only[T.get_set]at hb ⊢
   split at hb
   ·cases hb;exact hid
   ·exact hw.fam _ _ _ _ _ _ _ _ hb
  ·simp only[T.get_set];rw[if_neg (Ne.symm hi)]
  ·simp only[T.get_set];rw[if_neg (Ne.symm hf)]
theorem Rd.elem1 {H:Heap}{v:V}{n:Nat}{cs:List V}(h:Rd H 1 v n cs){i:Nat}{x:V}(hi:cs[i]?=some x):∃ p,zn 1 [v,.int .i64 (i:Int)]=some p/\zf [p] H=some x:=by
 rcases h with⟨_,rfl,rfl⟩ | ⟨id,off,lo,ex,all,rfl,h2,h3,h4⟩
 ·simp at hi
 ·have hlt:i<n:=by have:=(List.getElem?_eq_some_iff.1 hi).1;omega
  refine⟨.ptr id (off+i),?_,?_⟩
  ·have:Nat.blt i n=true:=by simp[Nat.blt];omega
   simp[zn,zBK,this]
  ·refine zDQ h2 ?_
   rw[h3,List.getElem?_take_of_lt (by omega),List.getElem?_drop]at hi
   exact hi
end Go.Am

namespace Go.Am
def zKw (c:zG):Prop:=∀ f vs H Z q,c f vs H Z q=effK (c f vs H Z retK) q
theorem zKw.mk {c:zG}(hn:zKw c){f:Nat}{vs:List V}{H H':Heap}{Z Z':Tape}{v:V}(h:c f vs H Z retK=retK v H' Z')(q:KV):c f vs H Z q=q v H' Z':=by
 rw[hn,h];rfl
theorem zMh (o:Ans)(q q':KV):effK (effK o q) q'=effK o fun v H Z=>effK (q v H Z) q':=by
 cases o with
 | none=>rfl
 | some x=>rfl
theorem zPF (o:Option V)(c:V->Ans)(q:KV):effK (zC o c) q=zC o fun v=>effK (c v) q:=by
 cases o <;> rfl
theorem gK_nat (g:V)(w:Bool)(body:KV->Ans)(H:Heap)(Z:Tape)(k q:KV):effK (gK g w body H Z k) q=gK g w body H Z fun v H Z=>effK (k v H Z) q:=by
 unfold gK
 split
 ·rename_i b
  cases b <;> cases w <;> first | exact zMh _ _ _ | rfl
 ·rfl
 ·rfl
section
variable {c:zG} (hn:zKw c)
include hn
theorem opK_nat (o:AOp)(vs:List V)(H:Heap)(Z:Tape)(k q:KV):effK (opK c o vs H Z k) q=opK c o vs H Z fun v H Z=>effK (k v H Z) q:=by
 cases o with
 | p o=>simp only[opK,pK_eq,zPF]
 | l o=>simp only[opK,zPF]
 | e o=>simp only[opK,zMh]
 | call f=>simp only[opK];rw[hn f vs H Z k,zMh,<- hn f vs H Z]
 | callv =>
  simp only[opK]
  split
  ·rename_i f first cap vs'
   rw[hn f _ H Z k,zMh,<- hn f _ H Z]
  ·rfl
omit hn in
theorem argsK_nat (fr:T V)(args:List O)(k:List V->Ans)(q:KV):effK (argsK fr args k) q=argsK fr args fun vs=>effK (k vs) q:=by
 unfold argsK
 split <;> rfl
theorem insK_nat (i:Ins)(st:St)(Z:Tape)(k:St->Tape->Ans)(q:KV):effK (insK c i st Z k) q=insK c i st Z fun st Z=>effK (k st Z) q:=by
 unfold insK
 split
 ·simp only[argsK_nat,opK_nat hn]
 ·split
  ·exact gK_nat _ _ _ _ _ _ _
  ·rfl
theorem regK_nat:∀ (is:List Ins) (st:St) (Z:Tape) (k:St->Tape->Ans) (q:KV),effK (regK c is st Z k) q=regK c is st Z fun st Z=>effK (k st Z) q:=by
 intro is
 induction is with
 | nil=>intro st Z k q;rfl
 | cons i is ih=>intro st Z k q;simp only[regK,insK_nat hn,ih]
theorem drawK_nat:∀ (is:List Ins) (st:St) (Z:Tape) (hs:List Heap) (ls:List zPD) (k:St->Tape->List Heap->List zPD->Ans) (q:KV),effK (drawK c is st Z hs ls k) q=drawK c is st Z hs ls fun st Z hs ls=>effK (k st Z hs ls) q:=by
 intro is
 induction is with
 | nil=>intro st Z hs ls k q;rfl
 | cons i is ih=>intro st Z hs ls k q;simp only[drawK,insK_nat hn,ih]
omit hn in
theorem keepK_nat:∀ (l:List Nat) (fr acc:T V) (k:T V->Ans) (q:KV),effK (keepK l fr acc k) q=keepK l fr acc fun fr=>effK (k fr) q:=by
 intro l
 induction l with
 | nil=>intro fr acc k q;rfl
 | cons i l ih =>
  intro fr acc k q
  simp only[keepK,getK]
  split
  ·exact ih _ _ _ _
  ·rfl
def KC.eff (k:KC)(q:KV):KC:=fun ex st Z=>effK (k ex st Z) q
omit hn in
theorem seqK_eff (rest:St->Tape->Ans)(k:KC)(q:KV):KC.eff (seqK rest k) q=seqK (fun st Z=>effK (rest st Z) q) (KC.eff k q):=by
 funext ex st Z
 cases ex <;> rfl
omit hn in
theorem blockK_eff (id:Nat)(k:KC)(q:KV):KC.eff (zW id k) q=zW id (KC.eff k q):=by
 funext ex st Z
 cases ex with
 | exit id'=>simp only[KC.eff,zW];cases Nat.beq id' id <;> rfl
 | _=>rfl
omit hn in
theorem endK_eff (rs:List R)(k q:KV):KC.eff (endK rs k) q=endK rs fun v H Z=>effK (k v H Z) q:=by
 funext ex st Z
 cases ex <;> simp only[KC.eff,endK,zPF] <;> rfl
theorem execK_nat (N:Nat):∀ (x:C) (st:St) (Z:Tape) (k:KC) (q:KV),effK (zHw c N x st Z k) q=zHw c N x st Z (KC.eff k q):=by
 intro x
 induction x with
 | skip=>intro st Z k q;rfl
 | reg ops=>intro st Z k q;simp only[zHw,regK_nat hn];rfl
 | draw ops =>
  intro st Z k q
  simp only[zHw,drawK_nat hn]
  congr 1
  funext st' Z' hs ls
  cases zAZ hs.reverse ls <;> rfl
 | seq a b iha ihb =>
  intro st Z k q
  simp only[zHw,iha,seqK_eff]
  congr 2
  funext st Z
  exact ihb st Z k q
 | cond v a b iha ihb =>
  intro st Z k q
  simp only[zHw]
  split
  ·simp only[zV]
   split
   ·exact iha _ _ _ _
   ·exact ihb _ _ _ _
   ·rfl
  ·rfl
 | block id x ih=>intro st Z k q;simp only[zHw,ih,blockK_eff]
 | loop x ih =>
  intro st Z k q
  simp only[zHw]
  have:∀ n (st:St) (Z:Tape) (k:KC),effK (zq (zHw c N x) n st Z k) q=zq (zHw c N x) n st Z (KC.eff k q):=by
   intro n
   induction n with
   | zero=>intro st Z k;rfl
   | succ n ihn =>
    intro st Z k
    simp only[zq,ih,seqK_eff]
    congr 2
    funext st Z
    exact ihn st Z k
  exact this N st Z k
 | exit id=>intro st Z k q;rfl
 | ret=>intro st Z k q;rfl
 | scope x ih=>intro st Z k q;exact ih st Z k q
 | keep l x ih=>intro st Z k q;simp only[zHw,keepK_nat,ih]
 | bad=>intro st Z k q;rfl
theorem funK_nat (N:Nat)(fn:Fun)(vs:List V)(H:Heap)(Z:Tape)(k q:KV):effK (funK c N fn vs H Z k) q=funK c N fn vs H Z fun v H Z=>effK (k v H Z) q:=by
 unfold funK
 cases Nat.beq vs.length fn.nparams with
 | false=>rfl
 | true=>simp only[cond_true,execK_nat hn,endK_eff]
end
def zt (e:Ent):Prop:=∀ c,zKw c->∀ N vs H Z q,e c N vs H Z q=effK (e c N vs H Z retK) q
theorem zO1 {c:zG}(hn:zKw c)(N:Nat)(fn:Fun)(vs:List V)(H:Heap)(Z:Tape)(q:KV):funK c N fn vs H Z q=effK (funK c N fn vs H Z retK) q:=by
 rw[funK_nat hn];rfl
theorem zIA (p:List V->Heap->Tape->Option (V × Heap × Tape)):zt (zHM p):=by
 intro c _ N vs H Z q
 simp only[zHM,zMh]
 rfl
theorem callK_nat {E:T Ent}(N:Nat)(h:∀ f e,E.get f=some e->zt e):∀ d,zKw (zPJ (zOA E N) d):=by
 intro d
 induction d with
 | zero=>intro f vs H Z q;rfl
 | succ d ih =>
  intro f vs H Z q
  simp only[zPJ,zOA]
  split
  ·rename_i e he
   exact h f e he _ ih N vs H Z q
  ·rfl
end Go.Am

namespace Go.Am
theorem zQ5:∀ (l:List (Option (List V))) (H:Heap) (f:Nat),f<H.size->(zD8 l H).blk.get f=H.blk.get f:=by
 intro l
 induction l with
 | nil=>intro H f _;rfl
 | cons x l ih =>
  intro H f hf
  cases x with
  | none=>simp only[zD8];rw[ih _ f (by simp only;omega),T.get_set_ne _ _ (by omega)]
  | some cs=>simp only[zD8];rw[ih _ f (by simp only;omega),T.get_set_ne _ _ (by omega)]
theorem zRL:∀ (l:List (Option (List V))) (H:Heap) (j:Nat) (cs:List V),l[j]?=some (some cs)->(zD8 l H).blk.get (H.size+j)=some (.mem cs cs.length (H.size+j) 0 false false 0):=by
 intro l
 induction l with
 | nil=>intro H j cs h;simp at h
 | cons x l ih =>
  intro H j cs h
  cases j with
  | zero =>
   simp only[List.getElem?_cons_zero,Option.some.injEq]at h
   subst h
   simp only[zD8]
   rw[zQ5 _ _ _ (by simp only;omega)]
   exact T.get_set_same _ _ _
  | succ j =>
   have h':l[j]?=some (some cs):=by simpa using h
   have e:H.size+(j+1)=H.size+1+j:=by omega
   rw[e]
   cases x with
   | none=>exact ih { size:=H.size+1,blk:=H.blk.s H.size .gone,fams:=H.fams } j cs h'
   | some c=>exact ih { size:=H.size+1,blk:=H.blk.s H.size (.mem c c.length H.size 0 false false 0),fams:=H.fams.s H.size (0,0) } j cs h'
theorem zQA {l:List (Option (List V))}{j:Nat}{cs:List V}(h:l[j]?=some (some cs)):(start l).cells? j=some cs:=by
 have h1:=zRL l H0 j cs h
 have h2:=zNR l H0 j cs h
 rw[show H0.size+j=j from Nat.zero_add _]at h1 h2
 simp only[Heap.cells?,start,h1,h2]
 rfl
end Go.Am

namespace Go.Am
theorem zQe (m:Nat):wr .u32 (m:Int)=((m % 4294967296:Nat):Int):=by
 rw[zPZ];simp only[IntKind.wrap,IntKind.signed,IntKind.bits];simp
theorem zPq (m:Nat):wr .u64 (m:Int)=((m % 18446744073709551616:Nat):Int):=by
 rw[zPZ];simp only[IntKind.wrap,IntKind.signed,IntKind.bits];simp
theorem wr_u8 (m:Nat):wr .u8 (m:Int)=((m % 256:Nat):Int):=by
 rw[zPZ];simp only[IntKind.wrap,IntKind.signed,IntKind.bits];simp
def Uk (k:IntKind):Prop:=∀ m:Nat,wr k (m:Int)=((m % pow2 k:Nat):Int)
theorem uk32:Uk .u32:=zQe
theorem uk64:Uk .u64:=zPq
theorem uk8:Uk .u8:=wr_u8
theorem u_add {k:IntKind}(h:Uk k)(x y:Nat)(c:V->Ans):binK .add (.int k (x:Int)) (.int k (y:Int)) c=c (.int k (((x+y) % pow2 k:Nat):Int)):=by
 rw[zS,<- Int.natCast_add,h]
theorem u_mul {k:IntKind}(h:Uk k)(x y:Nat)(c:V->Ans):binK .mul (.int k (x:Int)) (.int k (y:Int)) c=c (.int k (((x*y) % pow2 k:Nat):Int)):=by
 rw[zJT,<- Int.natCast_mul,h]
theorem u_shr {k k':IntKind}(x n:Nat)(c:V->Ans):binK .shr (.int k (x:Int)) (.int k' (n:Int)) c=c (.int k ((x / 2 ^ (min n k.bits):Nat):Int)):=by
 have:((x:Int).fdiv ((2 ^ (min n k.bits):Nat):Int))=((x / 2 ^ (min n k.bits):Nat):Int):=by
  rw[Int.fdiv_eq_ediv_of_nonneg _ (Int.natCast_nonneg _)];rfl
 show zB4 .shr k x k' n c=_
 simp only[zB4,zQL]
 simp only[zBG,zHe]
 exact congrArg (fun z=>c (.int k z)) this
theorem u_shl {k k':IntKind}(h:Uk k)(x n:Nat)(c:V->Ans):binK .shl (.int k (x:Int)) (.int k' (n:Int)) c=c (.int k (((x*2 ^ (min n k.bits)) % pow2 k:Nat):Int)):=by
 show zB4 .shl k x k' n c=_
 simp only[zB4,zQL]
 simp only[zBG,zHe]
 refine congrArg (fun z=>c (.int k z)) ?_
 rw[<- h,Int.natCast_mul];rfl
theorem toU_nat (k:IntKind)(x:Nat):toU k (x:Int)=x % pow2 k:=rfl
theorem u_or {k:IntKind}(h:Uk k)(x y:Nat)(c:V->Ans):binK .or (.int k (x:Int)) (.int k (y:Int)) c=c (.int k (((Nat.lor (x % pow2 k) (y % pow2 k)) % pow2 k:Nat):Int)):=by
 simp only[binK,zB4,intK,zQp,if_true,zHe,toU_nat]
 exact congrArg (fun z=>c (.int k z)) (h _)
theorem u_and {k:IntKind}(h:Uk k)(x y:Nat)(c:V->Ans):binK .and (.int k (x:Int)) (.int k (y:Int)) c=c (.int k (((Nat.land (x % pow2 k) (y % pow2 k)) % pow2 k:Nat):Int)):=by
 simp only[binK,zB4,intK,zQp,if_true,zHe,toU_nat]
 exact congrArg (fun z=>c (.int k z)) (h _)
end Go.Am

namespace Go.Am
end Go.Am

namespace Go.Am
theorem within_iff {m lo:Nat}{ex:Option Nat}:within m lo ex=true ↔ m<=lo∨m<=lo+ex.getD 0:=by
 unfold within
 cases h:Nat.ble m lo with
 | true =>
  have:=Nat.le_of_ble_eq_true h
  simp[this]
 | false =>
  have:¬ m<=lo:=fun h'=>by rw[Nat.ble_eq_true_of_le h']at h;cases h
  cases ex with
  | none=>simp;omega
  | some e=>simp;omega
theorem natOf_mk (n:Nat):zNC (n:Int)=some n:=zBK n
end Go.Am

namespace Go.Am
def Src (H:Heap):V->Prop
 | .sl id _ _ _ _ _=>∃ all,H.cells? id=some all
 | _=>True
theorem Src.gr {H H':Heap}{B:Nat}{v:V}(h:Src H v)(hg:Gr B H H')(hw:WF H)(hB:H.size<=B):Src H' v:=by
 cases v with
 | sl id _ _ _ _ _=>obtain⟨all,h⟩:=h;exact⟨all,hg.cells hw hB h⟩
 | _=>trivial
theorem Rd.pLen {H:Heap}{z:Nat}{v:V}{n:Nat}{cs:List V}(h:Rd H z v n cs):pLen [v]=some (.int .i64 (n:Int)):=by
 rcases h with⟨rfl | ⟨id,off,lo,ex,rfl⟩,rfl,rfl⟩ | ⟨id,off,lo,ex,all,rfl,_,_,h4⟩ <;> rfl
theorem Own.push {H:Heap}{B bytes:Nat}{v:V}{m:Nat}{cs:List V}(h:Own H B 1 v m cs)(hw:WF H)(hB:B<=H.size)(x zero:V)(hx:x.cells=[x])(hs:x.scal=true)
  (h1:(m+1)*bytes<=140737488355328) (h2:m+1<=140737488355328) (Z:Tape) :
  ∃ w H1 v' H',zZ 1 1 [zero] [(0,1)] [x] H Z=some (w,H1,Z)/\zAj 1 bytes [v,w] H1 Z=some (v',H',Z.tail)/\Own H' B 1 v' (m+1) (cs++[x])/\Gr B H H'/\(∀ id cs,H.cells? id=some cs->H'.cells? id=some cs):=by
 have g1:=Gr.new hw [x] 1 false
 have o1:=h.gr g1 hw nl
 obtain⟨v',H',r1,r2,r3,r4⟩:=o1.append (bytes:=bytes) g1.wf (Nat.le_trans hB g1.size) 1 [x] (by omega) rfl (by simp[hs]) h1 h2 Z
 refine⟨.sl H.size 0 1 1 none 1,H.new [x] 1 false,v',H',?_,?_,r2,(g1.weaken hB).trans r3 nl,fun id cs hc=>r4 id cs (g1.cells hw nl hc)⟩
 ·simp only[zZ,zM7,hx];rfl
 ·have hl:(H.new [x] 1 false).loads H.size 0 (1*1)=some [x]:=by
   have:=zCj (n:=1) (off:=0) (zOd H [x] 1 false) (by simp)
   simpa using this
  simp only[zAj,zHg,zDg,Nat.beq_refl,cond_true,hl,r1]
end Go.Am

namespace Go.Am
structure Chg (P:Nat->Prop) (H H':Heap):Prop where
 wf:WF H'
 size:H.size<=H'.size
 blk:∀ id,id<H.size->¬ P id->H'.blk.get id=H.blk.get id
 fams:∀ f,f<H.size->¬ P f->H'.fams.get f=H.fams.get f
theorem Chg.refl {P:Nat->Prop}{H:Heap}(h:WF H):Chg P H H:=⟨h,Nat.le_refl _,fun _ _ _=>rfl,fun _ _ _=>rfl⟩
theorem Gr.chg {P:Nat->Prop}{H H':Heap}(h:Gr H.size H H'):Chg P H H':=⟨h.wf,h.size,fun id hid _=>h.blk id hid,fun f hf _=>h.fams f hf⟩
theorem Only.chg {P:Nat->Prop}{i:Nat}{H H':Heap}(h:Only i H H')(hi:P i):Chg P H H' :=
 ⟨h.wf,by rw[h.size];exact Nat.le_refl _,fun id _ hp=>h.blk id (fun e=>hp (e ▸ hi)),fun f _ hp=>h.fams f (fun e=>hp (e ▸ hi))⟩
theorem Chg.trans {P Q:Nat->Prop}{H H1 H2:Heap}(h:Chg P H H1)(k:Chg Q H1 H2)(hPQ:∀ i,i<H.size->Q i->P i):Chg P H H2 :=
 ⟨k.wf,Nat.le_trans h.size k.size,fun id hid hp=>(k.blk id (Nat.lt_of_lt_of_le hid h.size) fun q=>hp (hPQ id hid q)).trans (h.blk id hid hp),
  fun f hf hp=>(k.fams f (Nat.lt_of_lt_of_le hf h.size) fun q=>hp (hPQ f hf q)).trans (h.fams f hf hp)⟩
theorem Chg.weaken {P Q:Nat->Prop}{H H':Heap}(h:Chg P H H')(hPQ:∀ i,i<H.size->P i->Q i):Chg Q H H' :=
 ⟨h.wf,h.size,fun id hid hp=>h.blk id hid fun q=>hp (hPQ id hid q),fun f hf hp=>h.fams f hf fun q=>hp (hPQ f hf q)⟩
theorem Chg.gr {P:Nat->Prop}{B:Nat}{H H':Heap}(h:Chg P H H')(hB:B<=H.size)(hP:∀ i,i<B->¬ P i):Gr B H H' :=
 ⟨h.wf,h.size,fun id hid=>h.blk id (by omega) (hP id hid),fun f hf=>h.fams f (by omega) (hP f hf)⟩
theorem Bx.chg {H H':Heap}{P:Nat->Prop}{id:Nat}{cs:List V}(h:Bx H id cs)(hw:WF H)(hg:Chg P H H')(hp:¬ P id):Bx H' id cs:=by
 have hlt:=h.lt hw
 obtain⟨room,ver,pl,st,fr,h1,h2,h3,h4⟩:=h
 exact⟨room,ver,pl,st,fr,by rw[hg.blk id hlt hp];exact h1,by rw[hg.fams id hlt hp];exact h2,h3,h4⟩
end Go.Am

namespace Go.Am
end Go.Am

namespace Go.Am
end Go.Am

namespace Go.Am
open Go.RowKit (Below)
end Go.Am

namespace Go.Am
theorem nrfl {α:Type}{a b:α}(h:a=b):a=b:=by
 cases h;exact rfl
theorem zB (v:V)(c:V->Ans):zC (some v) c=c v:=nrfl rfl
theorem zN (v:V)(H:Heap)(Z:Tape)(c:KV):effK (some (v,H,Z)) c=c v H Z:=nrfl rfl
theorem zF (x y:Ans):zV (.bool true) x y=x:=nrfl rfl
theorem zD (x y:Ans):zV (.bool false) x y=y:=nrfl rfl
end Go.Am

namespace Go.Am
theorem blt_yes {a b:Nat}(h:a<b):Nat.blt a b=true:=Nat.ble_eq_true_of_le h
end Go.Am

namespace Go.Am
def Apd (H:Heap)(B z:Nat)(v:V)(n:Nat)(cs:List V):Prop:=Own H B z v n cs∨(n=0/\cs=[]/\∃ id,v=.sl id 0 0 0 none z/\Blk H B id [])
theorem Own.apd {H:Heap}{B z:Nat}{v:V}{n:Nat}{cs:List V}(h:Own H B z v n cs):Apd H B z v n cs:=.inl h
theorem Own.src {H:Heap}{B z:Nat}{v:V}{n:Nat}{cs:List V}(h:Own H B z v n cs):Src H v:=by
 rcases h with⟨rfl,_⟩ | ⟨id,e,room,fam,ver,pl,st,fr,rfl,h2,h3,h4,_⟩
 ·trivial
 ·refine⟨cs,?_⟩
  simp only[Heap.cells?,h2,h3]
  rw[show Nat.ble fr ver=true from Nat.ble_eq_true_of_le h4]
  rfl
theorem Rd.loads {H:Heap}{z:Nat}{x:V}{n:Nat}{cs:List V}(hx:Rd H z x n cs)(hsr:Src H x):zHg x=some n/\zDg H z n x=some cs:=by
 rcases hx with⟨rfl | ⟨id',off,lo,ex,rfl⟩,rfl,rfl⟩ | ⟨id',off,lo,ex,all,rfl,k1,k2,k3⟩
 ·exact⟨rfl,rfl⟩
 ·obtain⟨all,ha⟩:=hsr
  refine⟨rfl,?_⟩
  simp only[zDg,Nat.beq_refl,cond_true,Heap.loads,ha,Nat.zero_mul]
  cases all.drop off <;> rfl
 ·refine⟨rfl,?_⟩
  simp only[zDg,Nat.beq_refl,cond_true,Heap.loads,k1]
  rw[zMB,<- k2]
  have:=congrArg List.length k2
  rw[k3,List.length_take]at this
  omega
end Go.Am

namespace Go.Am
open Go.RowKit (Below)
abbrev Prim:=List V->Heap->Tape->Option (V × Heap × Tape)
inductive Out where
 | val (v:V)
 | lst (z n:Nat) (cs:List V) (mk:V->V)
structure MkOk (mk:V->V):Prop where
 same:∀ (U U':Inj) v v',cv U v=cv U' v'->cv U (mk v)=cv U' (mk v')
 ok:∀ H v,VOk H v->VOk H (mk v)
 un:∀ H v,VOk H (mk v)->VOk H v
def Out.run (o:Out)(H:Heap)(Z:Tape):V × Heap × Tape :=
 match o with
 | .val v=>(v,H,Z)
 | .lst z n cs mk=>(mk (.sl H.size 0 n n (some (spare n (Z 0))) z),H.new cs ((n+spare n (Z 0))*z) false,Z.tail)
def FreshL (B:Nat)(H':Heap)(z n:Nat)(cs:List V)(lv:V):Prop :=
 ∃ id off lo ex all room fam ver pl st fr la,lv=.sl id off n lo ex z/\H'.blk.get id=some (.mem all room fam ver true pl st)/\H'.fams.get fam=some (fr,la)/\fr<=ver/\B<=fam /\
  (all.drop off).take (n*z)=cs/\cs.length=n*z/\(ex.isSome=true∨(off+lo*z<=room/\lo<9223372036854775808))
def Out.Met (o:Out)(H:Heap)(v:V)(H':Heap):Prop :=
 match o with
 | .val u=>v=u/\VOk H u
 | .lst z n cs mk=>MkOk mk/\VsOk H cs/\∃ lv,v=mk lv/\FreshL H.size H' z n cs lv
theorem MRel.wf {U:Inj}{base:Base}{w0 w:World}{H:Heap}(h:MRel U base w0 H w):WF H :=
 ⟨h.lt,h.famlt,fun id cs room fam ver wr pl st hb=>(h.fam id cs room fam ver wr pl st hb).1⟩
theorem MRel.old {U U1:Inj}{base:Base}{w0 w w':World}{H H1:Heap}(hM:MRel U base w0 H w)(h1:MRel U1 base w0 H1 w')(hg:Gr H.size H H1):MRel U1 base w0 H w':=by
 have hb:∀ {id b},H.blk.get id=some b->H1.blk.get id=some b:=fun {id b} h=>by rw[hg.blk _ (hM.lt _ _ h)];exact h
 have hf:∀ {f x},H.fams.get f=some x->H1.fams.get f=some x:=fun {f x} h=>by rw[hg.fams _ (hM.famlt _ _ h)];exact h
 refine⟨h1.below,h1.base_le,hM.lt,hM.fam,hM.cells,?_,?_,hM.ver,?_,hM.famlt,?_,?_,fun id cs room fam ver wr pl st fr la a b c=>h1.gh _ _ _ _ _ _ _ _ _ _ (hb a) (hf b) c,fun id cs room fam ver wr st fr la a b c d=>h1.plok _ _ _ _ _ _ _ _ _ (hb a) (hf b) c d,hM.plfam,fun id es clk a=>by
   obtain⟨a1,a2,_⟩:=h1.maps id es clk (hb a)
   exact⟨a1,a2,(hM.maps id es clk a).2.2⟩,fun i es c j es' c' a a' e=>h1.msep _ _ _ _ _ _ (hb a) (hb a') e⟩
 ·intro id cs room fam ver wr pl st fr la a b c
  exact h1.ok _ _ _ _ _ _ _ _ _ _ (hb a) (hf b) c
 ·intro i cs room fam ver pl st fr la j cs' room' fam' ver' wr' pl' st' fr' la' a b c a' b' c' e
  exact h1.sep _ _ _ _ _ _ _ _ _ _ _ _ _ _ _ _ _ _ _ (hb a) (hf b) c (hb a') (hf b') c' e
 ·intro id s pos a
  exact h1.iter _ _ _ (hb a)
 ·intro i cs room fam ver wr pl st fr la j cs' room' ver' wr' pl' st' a b c a' c' e l
  exact h1.ends _ _ _ _ _ _ _ _ _ _ _ _ _ _ _ _ _ (hb a) (hf b) c (hb a') c' e l
 ·intro i s p j s' p' a a' e
  exact h1.isep _ _ _ _ _ _ (hb a) (hb a') e
theorem MRel.freshL {U1:Inj}{base:Base}{w0 w':World}{H H1:Heap}(hM:MRel U1 base w0 H w')(h1:MRel U1 base w0 H1 w')(hg:Gr H.size H H1)
  {id off k room' fr la fam ver room st:Nat} {all cs:List V} {pl:Bool} (hblk:H1.blk.get id=some (.mem all room fam ver true pl st)) (hfam:H1.fams.get fam=some (fr,la)) (hle:fr<=ver) (hB:H.size<=fam)
  (hcs:(all.drop off).take k=cs) (hlen:cs.length=k) (hr:off+room'<=room) (hk:k<=room') (hvs:VsOk H cs) :
  MRel (upd U1 H.size ((U1 id).1,(U1 id).2+off)) base w0 (H.new cs room' false) w':=by
 have hev:=Evol.new hM cs room' false
 have hext:=Ext.upd H U1 ((U1 id).1,(U1 id).2+off)
 have hb:∀ {id b},H.blk.get id=some b->H1.blk.get id=some b:=fun {id b} h=>by rw[hg.blk _ (hM.lt _ _ h)];exact h
 have hf:∀ {f x},H.fams.get f=some x->H1.fams.get f=some x:=fun {f x} h=>by rw[hg.fams _ (hM.famlt _ _ h)];exact h
 have part:∀ i cs0 r fam ver wr p st,(H.new cs room' false).blk.get i=some (.mem cs0 r fam ver wr p st) ->
   (i=H.size/\cs0=cs/\r=room'/\fam=H.size/\ver=0/\wr=true)∨(i<H.size/\fam<H.size/\H.blk.get i=some (.mem cs0 r fam ver wr p st)):=by
  intro i cs0 r fam ver wr p st h
  by_cases e:i=H.size
  ·subst e
   rw[zb]at h
   injection h with h
   injection h with h1 h2 h3 h4 h5 h6 h7
   exact .inl ⟨rfl,h1.symm,h2.symm,h3.symm,h4.symm,h5.symm⟩
  ·rw[za e]at h
   exact .inr ⟨hM.lt _ _ h,(hM.fam _ _ _ _ _ _ _ _ h).1,h⟩
 have famOld:∀ f,f<H.size->(H.new cs room' false).fams.get f=H.fams.get f:=fun f hf=>by rw[zDL,if_neg (by omega)]
 refine⟨hM.below,hM.base_le,?_,?_,?_,?_,?_,?_,?_,?_,?_,?_,?_,?_,?_,?_,?_⟩
 ·intro i b h
  by_cases e:i=H.size
  ·subst e;exact Nat.lt_succ_self _
  ·rw[za e]at h;exact Nat.lt_succ_of_lt (hM.lt _ _ h)
 ·intro i cs0 r fam ver wr p st h
  rcases part _ _ _ _ _ _ _ _ h with⟨rfl,_,_,rfl,rfl,_⟩ | ⟨_,hf',h⟩
  ·exact⟨Nat.lt_succ_self _,0,0,by rw[zDL,if_pos rfl],Nat.le_refl _⟩
  ·obtain⟨_,fr,la,h1,h2⟩:=hM.fam _ _ _ _ _ _ _ _ h
   exact⟨Nat.lt_succ_of_lt hf',fr,la,by rw[famOld _ hf'];exact h1,h2⟩
 ·intro i cs0 r fam ver wr p st h
  rcases part _ _ _ _ _ _ _ _ h with⟨rfl,rfl,rfl,_⟩ | ⟨_,_,h⟩
  ·exact⟨by omega,hvs.mono hev⟩
  ·obtain⟨h1,h2⟩:=hM.cells _ _ _ _ _ _ _ _ h
   exact⟨h1,h2.mono hev⟩
 ·intro i cs0 r fam' ver' wr p st' fr' la' h hfm hv
  rcases part _ _ _ _ _ _ _ _ h with⟨rfl,rfl,rfl,_,_,rfl⟩ | ⟨hid,hf',h⟩
  ·obtain⟨c,el,lo,hi,k1,k2,k3,k4⟩:=h1.ok _ _ _ _ _ _ _ _ _ _ hblk hfam hle
   refine⟨c,el,lo,hi,by rw[upd_same];exact k1,by rw[upd_same];simp only;omega,fun j v hv=>?_,fun _=>by rw[upd_same];exact k4 rfl⟩
   rw[upd_same,zB9 hext v ((zw H cs0).1 hvs v (List.mem_of_getElem? hv))]
   have hj:j<k:=by have:=(List.getElem?_eq_some_iff.1 hv).1;omega
   rw[<- hcs,List.getElem?_take_of_lt hj,List.getElem?_drop]at hv
   have:=k3 _ _ hv
   rw[Nat.add_assoc]
   exact this
  ·rw[famOld _ hf']at hfm
   obtain⟨c,el,lo,hi,k1,k2,k3,k4⟩:=hM.ok _ _ _ _ _ _ _ _ _ _ h hfm hv
   have e:upd U1 H.size ((U1 id).1,(U1 id).2+off) i=U1 i:=upd_ne U1 _ (by omega)
   refine⟨c,el,lo,hi,by rw[e];exact k1,by rw[e];exact k2,fun j v hv=>?_,by rw[e];exact k4⟩
   rw[e,zB9 hext v ((zw H cs0).1 (hM.cells _ _ _ _ _ _ _ _ h).2 v (List.mem_of_getElem? hv))]
   exact k3 j v hv
 ·intro i cs1 r fam1 ver1 p st1 fr1 la1 j cs' r' fam' ver' wr' p' st' fr' la' hi hfi hvi hj hfj hvj he
  rcases part _ _ _ _ _ _ _ _ hi with⟨rfl,_,_,rfl,_⟩ | ⟨hid,hf1,hi⟩
  ·rcases part _ _ _ _ _ _ _ _ hj with⟨rfl,_,_,rfl,_⟩ | ⟨hjd,hf',hj⟩
   ·rfl
   ·rw[famOld _ hf']at hfj
    rw[upd_same,upd_ne U1 _ (by omega)]at he
    have:=h1.sep _ _ _ _ _ _ _ _ _ _ _ _ _ _ _ _ _ _ _ hblk hfam hle (hb hj) (hf hfj) hvj he
    omega
  ·rw[famOld _ hf1]at hfi
   rcases part _ _ _ _ _ _ _ _ hj with⟨rfl,_,_,rfl,_⟩ | ⟨hjd,hf',hj⟩
   ·rw[upd_same,upd_ne U1 _ (by omega)]at he
    have:=h1.sep _ _ _ _ _ _ _ _ _ _ _ _ _ _ _ _ _ _ _ (hb hi) (hf hfi) hvi hblk hfam hle he
    omega
   ·rw[famOld _ hf']at hfj
    rw[upd_ne U1 _ (by omega),upd_ne U1 _ (by omega)]at he
    exact hM.sep _ _ _ _ _ _ _ _ _ _ _ _ _ _ _ _ _ _ _ hi hfi hvi hj hfj hvj he
 ·intro i cs1 r fam1 ver1 wr p st1 j cs' r' wr' p' st' hi hj
  rcases part _ _ _ _ _ _ _ _ hi with⟨rfl,_,_,rfl,_⟩ | ⟨hid,hf1,hi⟩
  ·rcases part _ _ _ _ _ _ _ _ hj with⟨rfl,_⟩ | ⟨_,hf',_⟩
   ·rfl
   ·omega
  ·rcases part _ _ _ _ _ _ _ _ hj with⟨_,_,_,rfl,_⟩ | ⟨_,_,hj⟩
   ·omega
   ·exact hM.ver _ _ _ _ _ _ _ _ _ _ _ _ _ _ hi hj
 ·intro i s pos h
  by_cases e:i=H.size
  ·subst e;rw[zb]at h;cases h
  ·rw[za e]at h
   rw[upd_ne U1 _ e]
   exact hM.iter _ _ _ h
 ·intro f x h
  rw[zDL]at h
  by_cases e:H.size=f
  ·subst e;exact Nat.lt_succ_self _
  ·rw[if_neg e]at h;exact Nat.lt_succ_of_lt (hM.famlt _ _ h)
 ·intro i cs1 r fam1 ver1 wr p st1 fr1 la1 j cs' r' ver' wr' p' st' hi hf1 hvi hj hvj he hl
  rcases part _ _ _ _ _ _ _ _ hi with⟨rfl,rfl,_,rfl,_⟩ | ⟨hid,hf',hi⟩
  ·rcases part _ _ _ _ _ _ _ _ hj with⟨rfl,rfl,_⟩ | ⟨_,hf'',_⟩
   ·exact Nat.le_refl _
   ·omega
  ·rcases part _ _ _ _ _ _ _ _ hj with⟨_,_,_,rfl,_⟩ | ⟨hjd,_,hj⟩
   ·omega
   ·rw[famOld _ hf']at hf1
    rw[upd_ne U1 _ (by omega),upd_ne U1 _ (by omega)]at he ⊢
    exact hM.ends _ _ _ _ _ _ _ _ _ _ _ _ _ _ _ _ _ hi hf1 hvi hj hvj he hl
 ·intro i s p j s' p' hi hj he
  have hi':i≠H.size:=fun e=>by subst e;rw[zb]at hi;cases hi
  have hj':j≠H.size:=fun e=>by subst e;rw[zb]at hj;cases hj
  rw[za hi']at hi
  rw[za hj']at hj
  rw[upd_ne U1 _ hi',upd_ne U1 _ hj']at he
  exact hM.isep _ _ _ _ _ _ hi hj he
 ·intro i cs0 r fam' ver' wr p st' fr' la' h hfm hv
  rcases part _ _ _ _ _ _ _ _ h with⟨rfl,_⟩ | ⟨hid,hf',h⟩
  ·rw[upd_same];exact h1.gh _ _ _ _ _ _ _ _ _ _ hblk hfam hle
  ·rw[famOld _ hf']at hfm
   rw[upd_ne U1 _ (by omega)]
   exact hM.gh _ _ _ _ _ _ _ _ _ _ h hfm hv
 ·intro i cs0 r fam' ver' wr st' fr' la' h hfm hv hw
  by_cases e:i=H.size
  ·subst e;rw[zb]at h;cases h
  ·rw[za e]at h
   rw[famOld _ (hM.fam _ _ _ _ _ _ _ _ h).1]at hfm
   rw[upd_ne U1 _ e]
   exact hM.plok _ _ _ _ _ _ _ _ _ h hfm hv hw
 ·intro i cs0 r fam' ver' wr p st' j cs2 r2 ver2 wr2 p2 st2 hi hj
  by_cases ei:i=H.size
  ·subst ei
   rw[zb]at hi
   injection hi with hi
   injection hi with _ _ e3 _ _ e6 _
   by_cases ej:j=H.size
   ·subst ej
    rw[zb]at hj
    injection hj with hj
    injection hj with _ _ _ _ _ e6' _
    rw[<- e6,<- e6']
   ·rw[za ej]at hj
    have:=(hM.fam _ _ _ _ _ _ _ _ hj).1
    omega
  ·rw[za ei]at hi
   by_cases ej:j=H.size
   ·subst ej
    rw[zb]at hj
    injection hj with hj
    injection hj with _ _ e3 _ _ _ _
    have:=(hM.fam _ _ _ _ _ _ _ _ hi).1
    omega
   ·rw[za ej]at hj
    exact hM.plfam _ _ _ _ _ _ _ _ _ _ _ _ _ _ _ hi hj
 ·intro id' es clk hg
  by_cases e:id'=H.size
  ·subst e;rw[zb]at hg;cases hg
  ·rw[za e]at hg
   obtain⟨a,⟨ents,clock,b,k⟩,d⟩:=hM.maps _ _ _ hg
   rw[upd_ne U1 _ e]
   exact⟨a,⟨ents,clock,b,k.ext (H:=H) hext d⟩,fun p hp=>(d p hp).mono hev⟩
 ·intro i es c1 j es' c2 hi hj he
  have hi':i≠H.size:=fun e=>by subst e;rw[zb]at hi;cases hi
  have hj':j≠H.size:=fun e=>by subst e;rw[zb]at hj;cases hj
  rw[za hi']at hi
  rw[za hj']at hj
  rw[upd_ne U1 _ hi',upd_ne U1 _ hj']at he
  exact hM.msep _ _ _ _ _ _ hi hj he
structure Row where
 f:Nat
 e:Ent
 d:Def
def Row.fn (f:Nat)(fn:Fun)(e:Ent):Row:=⟨f,e,.fn fn⟩
def Row.prim (f:Nat)(p:Prim):Row:=⟨f,zHM p,.prim p⟩
def findR:List Row->Nat->Option Row
 | [],_=>none
 | r::l,f=>bif Nat.beq r.f f then some r else findR l f
theorem findR_mem:∀ {l:List Row} {f:Nat} {r:Row},findR l f=some r->r ∈ l/\r.f=f:=by
 intro l
 induction l with
 | nil=>intro f r h;cases h
 | cons a l ih =>
  intro f r h
  unfold findR at h
  cases hb:Nat.beq a.f f with
  | true =>
   rw[hb,cond_true]at h
   cases h
   exact⟨by simp,Nat.eq_of_beq_eq_true hb⟩
  | false =>
   rw[hb,cond_false]at h
   obtain⟨h1,h2⟩:=ih h
   exact⟨by simp[h1],h2⟩
def Row.Ok (r:Row):Prop:=(∃ fn,r.d=.fn fn/\zAN fn r.e)∨(∃ p,r.d=.prim p/\r.e=zHM p)
theorem Row.fn_ok {f:Nat}{fn:Fun}{e:Ent}(h:zAN fn e):(Row.fn f fn e).Ok:=.inl ⟨fn,rfl,h⟩
theorem Row.prim_ok (f:Nat)(p:Prim):(Row.prim f p).Ok:=.inr ⟨p,rfl,rfl⟩
def tabR (l:List Row)(N:Nat):Nat->zG->List V->Heap->Tape->KV->Ans:=fun f c vs H Z q =>
 match findR l f with
 | some r=>r.e c N vs H Z q
 | none=>none
def progR (l:List Row)(f:Nat):Option Def:=(findR l f).map Row.d
theorem tabR_ok {l:List Row}(h:∀ r ∈ l,r.Ok)(N:Nat):TabOk (progR l) N (tabR l N):=by
 intro f cK vs H Z k r hr
 unfold tabR at hr
 split at hr
 ·rename_i x hx
  have hm:=findR_mem hx
  rcases h x hm.1 with⟨fn,h1,h2⟩ | ⟨p,h1,h2⟩
  ·exact .inl ⟨fn,by unfold progR;rw[hx];simp[h1],h2 _ _ _ _ _ _ _ hr⟩
  ·refine .inr ⟨p,by unfold progR;rw[hx];simp[h1],?_⟩
   rw[h2]at hr;exact hr
 ·cases hr
def zLh (P:Program)(l:List Row):Prop:=∀ r ∈ l,r.Ok/\∀ base w0,zQo P base w0 r.f r.d
theorem zLh.nil (P:Program):zLh P []:=fun _ h=>by cases h
theorem zLh.fn {P:Program}{l:List Row}{f:Nat}{fn:Fun}{e:Ent}(h:FnOk P f fn)(he:zAN fn e)(hl:zLh P l):zLh P (Row.fn f fn e::l):=by
 intro r hr
 rcases List.mem_cons.1 hr with rfl | hr
 ·exact⟨Row.fn_ok he,fun _ _=>h⟩
 ·exact hl r hr
theorem zLh.prim {P:Program}{l:List Row}{f:Nat}{p:Prim}(h:∀ base w0,zDf P base w0 f p)(hl:zLh P l):zLh P (Row.prim f p::l):=by
 intro r hr
 rcases List.mem_cons.1 hr with rfl | hr
 ·exact⟨Row.prim_ok f p,h⟩
 ·exact hl r hr
abbrev CR (l:List Row)(N d:Nat):zG:=zPJ (tabR l N) d
open Classical in
noncomputable def outP (R:List V->Heap->Out->Prop):Prim:=fun vs H Z =>
 if h:∃ o,R vs H o then some (h.choose.run H Z)else none
def Fun1 (R:List V->Heap->Out->Prop):Prop:=∀ vs H o o',R vs H o->R vs H o'->o=o'
theorem zR4 {R:List V->Heap->Out->Prop}(hf:Fun1 R){vs:List V}{H:Heap}{o:Out}(h:R vs H o)(Z:Tape):outP R vs H Z=some (o.run H Z):=by
 have hx:∃ o,R vs H o:=⟨o,h⟩
 unfold outP
 rw[dif_pos hx,hf _ _ _ _ hx.choose_spec h]
theorem spare_id {n e:Nat}(h:n+e<9223372036854775808):spare n e=e:=by
 unfold spare;exact Nat.mod_eq_of_lt (by omega)
theorem outP_ev (R:List V->Heap->Out->Prop):zRh (outP R):=by
 intro vs H Z v H' Z' h
 unfold outP at h
 split at h
 ·rename_i hx
  generalize hx.choose=o at h
  cases o with
  | val u=>cases h;exact Ev.refl _
  | lst z n cs mk =>
   simp only[Out.run,Option.some.injEq,Prod.mk.injEq]at h
   obtain⟨_,rfl,_⟩:=h
   exact ev_new _ _ _ _
 ·cases h
theorem zRY {P:Program}(hm:P.follows .mixedOrders=true){prog:Nat->Option Def}{tab:Nat->zG->List V->Heap->Tape->KV->Ans}{N:Nat}(ht:TabOk prog N tab)(hp:∀ f d,prog f=some d->∀ base w0,zQo P base w0 f d)(d f:Nat){R:List V->Heap->Out->Prop}
  (hR:∀ vs H o,WF H->VsOk H vs->R vs H o->∀ Z,∃ v H' Z',zPJ tab d f vs H Z retK=some (v,H',Z')/\Gr H.size H H'/\o.Met H v H') (base:Base) (w0:World):zDf P base w0 f (outP R):=by
 refine⟨outP_ev R,fun vs H U w hM hG hok hn=>?_⟩
 have hx:∃ o,R vs H o:=by
  have:=hn (fun _=>0)
  unfold outP at this
  by_cases h:∃ o,R vs H o
  ·exact h
  ·rw[dif_neg h]at this;exact absurd rfl this
 have hans:∀ Z,outP R vs H Z=some (hx.choose.run H Z):=fun Z=>by unfold outP;rw[dif_pos hx]
 have hRo:=hx.choose_spec
 generalize hx.choose=o at hans hRo
 have hrun:∀ Z,∃ v H' Z',call prog N d f vs H Z=some (v,H',Z')/\Gr H.size H H'/\o.Met H v H':=by
  intro Z
  obtain⟨v,H',Z',h1,h2,h3⟩:=hR vs H o hM.wf hok hRo Z
  obtain⟨v2,H2,Z2,h4,h5⟩:=callK_le ht d f vs H Z retK _ h1
  cases h5
  exact⟨v,H',Z',h4,h2,h3⟩
 have hcs:=zRc hm (prog:=prog) hp N d base w0 f vs H U w hM hG hok (fun Z hnn=>by
    obtain⟨v,H',Z',h1,_⟩:=hrun Z
    rw[hnn]at h1;cases h1)
 refine⟨hcs.1,hcs.2.mono fun e w' ⟨v,H',U',pre,he,hcall,hM',hE,hEv,hvok⟩=>?_⟩
 obtain⟨v2,H2,Z2,h1,hgr,hmet⟩:=hrun (Tape.app pre fun _=>0)
 rw[hcall]at h1
 cases h1
 have hold:=hM.old hM' hgr
 cases o with
 | val u =>
  obtain⟨rfl,hu⟩:=hmet
  exact⟨v,H,U',[],he,fun Z=>hans Z,hold,hE,Evol.refl _,hu⟩
 | lst z n cs mk =>
  obtain⟨hmk,hvs,lv,rfl,id,off,lo,ex,all,room,fam,ver,pl,st,fr,la,rfl,hblk,hfam,hle,hB,hc1,hc2,hrm⟩:=hmet
  obtain⟨_,hcap,hex⟩:=hmk.un _ _ hvok
  have hroom:H'.room? id=room:=by simp only[Heap.room?,hblk]
  have hb:off+(lo+ex.getD 0)*z<=room/\lo+ex.getD 0<9223372036854775808:=by
   rcases hrm with h | h
   ·have:=hex h;rw[hroom]at this;exact this
   ·cases ex with
    | none=>simpa using h
    | some e=>have:=hex rfl;rw[hroom]at this;exact this
  have hsp:spare n (lo+ex.getD 0-n)=lo+ex.getD 0-n:=spare_id (by omega)
  have hcapn:n+(lo+ex.getD 0-n)=lo+ex.getD 0:=by omega
  have hfr:=hold.freshL hM' hgr (room':=(lo+ex.getD 0)*z) hblk hfam hle hB hc1 hc2 hb.1 (Nat.mul_le_mul_right _ hcap) hvs
  refine⟨mk (.sl H.size 0 n n (some (lo+ex.getD 0-n)) z),H.new cs ((lo+ex.getD 0)*z) false,upd U' H.size ((U' id).1,(U' id).2+off),[lo+ex.getD 0-n],?_,fun Z=>?_,hfr,?_,Evol.new hM _ _ _,?_⟩
  ·rw[he]
   congr 1
   apply hmk.same
   simp only[cv,upd_same,Option.getD_some,hcapn,Nat.add_zero]
  ·rw[hans]
   show some (Out.run (.lst z n cs mk) H (Tape.cons _ Z))=_
   simp only[Out.run,Tape.head_cons,hsp,hcapn]
   rfl
  ·intro i hi
   rw[upd_ne U' _ (by omega)]
   exact hE i hi
  ·apply hmk.ok
   refine⟨Nat.lt_succ_self _,by simp only[Option.getD_some];omega,fun _=>⟨?_,by simp only[Option.getD_some];omega⟩⟩
   simp only[Option.getD_some,hcapn,Heap.room?,zb]
   omega
theorem zPK {P:Program}(hm:P.follows .mixedOrders=true){l:List Row}(hl:zLh P l)(N d f:Nat){R:List V->Heap->Out->Prop}
  (hR:∀ vs H o,WF H->VsOk H vs->R vs H o->∀ Z,∃ v H' Z',CR l N d f vs H Z retK=some (v,H',Z')/\Gr H.size H H'/\o.Met H v H') (base:Base) (w0:World):zDf P base w0 f (outP R) :=
 zRY hm (tabR_ok (fun r hr=>(hl r hr).1) N) (fun f d hd base w0=>by
  unfold progR at hd
  cases hr:findR l f with
  | none=>rw[hr]at hd;cases hd
  | some r =>
   rw[hr]at hd
   cases hd
   obtain⟨h1,rfl⟩:=findR_mem hr
   exact(hl r h1).2 base w0) d f hR base w0
def RV (Pre:List V->Prop)(g:List V->V)(vs:List V)(_:Heap)(o:Out):Prop:=Pre vs/\o=.val (g vs)
theorem RV_fun (Pre:List V->Prop)(g:List V->V):Fun1 (RV Pre g):=fun _ _ _ _ h h'=>h.2.trans h'.2.symm
theorem RV_call {c:zG}{f:Nat}{Pre:List V->Prop}{g:List V->V}(hc:∀ vs H Z q,c f vs H Z q=effK (outP (RV Pre g) vs H Z) q){vs:List V}(h:Pre vs)(H:Heap)(Z:Tape)(q:KV):c f vs H Z q=q (g vs) H Z:=by
 rw[hc,zR4 (RV_fun Pre g) ⟨h,rfl⟩];rfl
theorem mkOk_id:MkOk fun v=>v:=⟨fun _ _ _ _ h=>h,fun _ _ h=>h,fun _ _ h=>h⟩
theorem outK_val {c:zG}{f:Nat}{R:List V->Heap->Out->Prop}(hc:∀ vs H Z q,c f vs H Z q=effK (outP R vs H Z) q)(hf:Fun1 R){vs:List V}{H:Heap}{v:V}(h:R vs H (.val v))(Z:Tape)(q:KV):c f vs H Z q=q v H Z:=by
 rw[hc,zR4 hf h];rfl
theorem outK_lst {c:zG}{f:Nat}{R:List V->Heap->Out->Prop}(hc:∀ vs H Z q,c f vs H Z q=effK (outP R vs H Z) q)(hf:Fun1 R){vs:List V}{H:Heap}{z n:Nat}{cs:List V}{mk:V->V}(h:R vs H (.lst z n cs mk))(hw:WF H)(hlen:cs.length=n*z)(Z:Tape) :
  ∃ lv H' Z',Own H' H.size z lv n cs/\lv≠.nils/\Gr H.size H H'/\∀ q,c f vs H Z q=q (mk lv) H' Z':=by
 refine⟨.sl H.size 0 n n (some (spare n (Z 0))) z,H.new cs ((n+spare n (Z 0))*z) false,Z.tail,.inr ⟨H.size,spare n (Z 0),_,H.size,0,false,0,0,rfl,T.get_set_same _ _ _,T.get_set_same _ _ _,Nat.le_refl _,Nat.le_refl _,Nat.le_refl _,hlen⟩,(fun h=>by cases h),Gr.new hw _ _ _,fun q=>?_⟩
 rw[hc,zR4 hf h];rfl
theorem outK_list {c:zG}{f:Nat}{R:List V->Heap->Out->Prop}(hc:∀ vs H Z q,c f vs H Z q=effK (outP R vs H Z) q)(hf:Fun1 R){vs:List V}{H:Heap}{z n:Nat}{cs:List V}{mk:V->V}(h:R vs H (if n=0 then .val (mk .nils)else .lst z n cs mk))(hw:WF H)(hlen:cs.length=n*z)(Z:Tape) :
  ∃ lv H' Z',Own H' H.size z lv n cs/\Gr H.size H H'/\∀ q,c f vs H Z q=q (mk lv) H' Z':=by
 by_cases h0:n=0
 ·rw[if_pos h0]at h
  subst h0
  have:cs=[]:=List.eq_nil_of_length_eq_zero (by omega)
  subst this
  exact⟨.nils,H,Z,Own.nil _ _ _,Gr.refl hw,fun q=>outK_val hc hf h Z q⟩
 ·rw[if_neg h0]at h
  obtain⟨lv,H',Z',h1,_,h2,h3⟩:=outK_lst hc hf h hw hlen Z
  exact⟨lv,H',Z',h1,h2,h3⟩
theorem law_true {P:Program}{f:FuncId}{W:World}{p:Prim}(hp:zDf P (baseOf W) W f p)(vs:List V)(l:List (Option (List V)))(U:Inj)
  (hok:∀ id cs,l[id]?=some (some cs)->VsOk (start l) cs/\BOk U W.heap.size W id cs cs.length false) (hg:∀ g,g<P.globals.size->U g=(g,0)) (hgl:P.globals.size<=l.length) (hvs:VsOk (start l) vs)
  (h:∀ Z,p vs (start l) Z=some (.bool true,start l,Z)) :
  Calls P f (cvl U vs).toArray W fun e W'=>e=.returned (.bool true)/\Below W.heap.size W W':=by
 have hM:=MRel.start W U l hok
 have hs:=hp.2 vs (start l) U W hM ⟨hg,by rw[zO8];exact hgl⟩ hvs (fun Z hn=>by rw[h]at hn;cases hn)
 refine hs.2.mono fun e W' ⟨v,H',U',pre,h1,h2,h3,_⟩=>?_
 have hx:=h2 (fun _=>0)
 rw[h]at hx
 simp only[Option.some.injEq,Prod.mk.injEq]at hx
 obtain⟨rfl,_,_⟩:=hx
 exact⟨h1,h3.below.low⟩
theorem Rd.uniq {H:Heap}{z n n':Nat}{v:V}{cs cs':List V}(h:Rd H z v n cs)(h':Rd H z v n' cs'):n=n'/\cs=cs':=by
 rcases h with⟨rfl | ⟨id,off,lo,ex,rfl⟩,rfl,rfl⟩ | ⟨id,off,lo,ex,all,rfl,h1,h2,h3⟩
 ·rcases h' with⟨_,rfl,rfl⟩ | ⟨id',off',lo',ex',all',e,k1,k2,k3⟩
  ·exact⟨rfl,rfl⟩
  ·cases e
 ·rcases h' with⟨_,rfl,rfl⟩ | ⟨id',off',lo',ex',all',e,k1,k2,k3⟩
  ·exact⟨rfl,rfl⟩
  ·cases e;exact⟨rfl,(List.eq_nil_of_length_eq_zero (by omega)).symm⟩
 ·rcases h' with⟨e | ⟨id',off',lo',ex',e⟩,rfl,rfl⟩ | ⟨id',off',lo',ex',all',e,k1,k2,k3⟩
  ·cases e
  ·cases e;exact⟨rfl,List.eq_nil_of_length_eq_zero (by omega)⟩
  ·cases e
   rw[h1]at k1
   cases k1
   exact⟨rfl,h2.trans k2.symm⟩
def Got (H:Heap)(B z:Nat)(v:V)(n:Nat)(cs:List V):Prop:=(v=.nils/\n=0/\cs=[])∨FreshL B H z n cs v
theorem Apd.got {H:Heap}{B z:Nat}{v:V}{n:Nat}{cs:List V}(h:Apd H B z v n cs):Got H B z v n cs:=by
 rcases h with(h | ⟨id,e,room,fam,ver,pl,st,fr,h1,h2,h3,h4,h5,h6,h7⟩) | ⟨rfl,rfl,id,rfl,room,fam,ver,pl,st,fr,h1,h2,h3,h4,h5,h6⟩
 ·exact .inl h
 ·exact .inr ⟨id,0,n,some e,cs,room,fam,ver,pl,st,fr,ver,h1,h2,h3,h4,h6,by rw[List.drop_zero,<- h7,List.take_length],h7,.inl rfl⟩
 ·exact .inr ⟨id,0,0,none,[],room,fam,ver,pl,st,fr,ver,rfl,h1,h2,h3,h5,by simp,by simp,.inr ⟨by omega,by omega⟩⟩
end Go.Am

namespace Go.Am
theorem ext0 (a b:V):zT 0 [.tup [a,b]]=some a:=by simp[zT]
theorem ext1 (a b:V):zT 1 [.tup [a,b]]=some b:=by simp[zT]
theorem zGZ (a b c:V):zT 0 [.tup [a,b,c]]=some a:=by simp[zT]
theorem zGW (a b c:V):zT 1 [.tup [a,b,c]]=some b:=by simp[zT]
theorem zGa (a b c:V):zT 2 [.tup [a,b,c]]=some c:=by simp[zT]
theorem zLo (a b:Nat):decide (Int.ofNat a<=(b:Int))=decide (a<=b):=by simp
theorem zLx (a b:Nat):decide ((a:Int)<=Int.ofNat b)=decide (a<=b):=by simp
theorem zLm (a b:Nat):decide ((a:Int)<=(b:Int))=decide (a<=b):=by simp
theorem zLu (a b:Nat):decide (Int.ofNat a<(b:Int))=decide (a<b):=by simp
theorem zLn (a b:Nat):decide ((a:Int)<Int.ofNat b)=decide (a<b):=by simp
theorem zLl (a b:Nat):decide ((a:Int)<(b:Int))=decide (a<b):=by simp
theorem zJu (a b:Nat):((a:Int) == Int.ofNat b)=decide (a=b):=by
 by_cases h:a=b
 ·subst h;simp
 ·rw[decide_eq_false h,beq_eq_false_iff_ne];intro e;exact h (Int.ofNat.inj e)
theorem zK5 (a b:Nat):((a:Int) ==(b:Int))=decide (a=b):=zJu a b
theorem zLs (a b:Nat):((a:Int) != Int.ofNat b)=!decide (a=b):=by rw[bne,zJu]
theorem zLt (a b:Nat):((a:Int) !=(b:Int))=!decide (a=b):=by rw[bne,zK5]
theorem adI {i k:Nat}(h:i+k<=9223372036854775807):wr .i64 ((i:Int)+Int.ofNat k)=((i+k:Nat):Int):=by
 rw[zES (by simp;omega) (by simp;omega)];simp
theorem adN2 {i k:Nat}(h:i+k<=9223372036854775807):wr .i64 ((i:Int)+(k:Int))=((i+k:Nat):Int):=by
 rw[zES (by omega) (by omega)];simp
theorem sbI {i k:Nat}(h:k<=i)(h':i<=9223372036854775807):wr .i64 ((i:Int)-Int.ofNat k)=((i-k:Nat):Int):=by
 rw[zES (by simp;omega) (by simp;omega)];simp;omega
theorem u8beq (x y:UInt8):(x == y)=decide (x.toNat=y.toNat):=by
 by_cases h:x=y
 ·subst h;simp
 ·rw[decide_eq_false (fun e=>h (UInt8.toNat_inj.1 e))];simpa using h
end Go.Am

namespace Go.Am
open Go.Sort (putRow grow Holds mapBlock putCells onCells heap_ahead)
open Go.Proofs (encStr)
def insS (a:List UInt8):List (List UInt8)->List (List UInt8)
 | []=>[a]
 | b::l=>bif decide (a<=b)then a::b::l else b::insS a l
def sorted:List (List UInt8)->List (List UInt8)
 | []=>[]
 | a::l=>insS a (sorted l)
end Go.Am

namespace Go.Am
end Go.Am

namespace Go.Am
end Go.Am

namespace Go.Am
end Go.Am

namespace Go.Am
end Go.Am

namespace Go.Am
abbrev Lab:=Nat->Nat × Nat
abbrev Of (L:Lab)(b:Nat):Nat->Prop:=fun i=>(L i).1=b/\(L i).2≠0
end Go.Am

namespace Go.Am
section
variable (P:Program) (f:FuncId) (fn:Func) (s:ChangeSpec) (c:OpenClaim)
def jA:Bool:=c.wf (OpenSpec.ofChange s) && laidOutB P && mapsRowed P &&
 fn.params.all (P.readableRec ·) && namedTie P c.named s.vars &&
 (c.stops == []) && (P.stops == []) && (c.knobs == []) && (P.stopKnobs == [])
def jB:Bool:=c.inPlace == P.inPlace f
def jC:Bool:=c.unfollowed == P.unfollowed f
def jD:Bool:=c.recurses == P.recurses f
def jE:Bool:=c.named == P.varsNamed f
def jF:Bool:=(c.maps ==(fn.params.toList++s.plain.varTypes P).any (P.mapsRec ·)) && (c.ifaces ==(fn.params.toList++s.plain.varTypes P).any (P.ifacesRec ·)) && (c.mapsOut == P.mapsAmong fn.resultTypes.toList) &&
 (c.loops ==(fn.params.toList++s.plain.varTypes P).any (P.loopsFrom ·)) && (c.wideKeys ==(fn.params.toList++s.plain.varTypes P++fn.resultTypes.toList).any (P.wideKeysFrom ·)) &&
 s.vars.all (P.varReadable ·) && fn.resultTypes.all (fun t=>P.readableRec t && decide (t<P.types.size)) && (c.ifacesOut == fn.resultTypes.toList.any (P.ifacesRec ·)) && (c.loopsOut == fn.resultTypes.toList.any (P.loopsFrom ·)) && (c.plainKeys == P.plainKeys) && c.shortTexts.isNone
def jG:Bool:=P.stopsHeard
def jH:Bool:=P.mayEnter
def jI:Bool:=(c.lifted == P.liftsFinal) && (P.make == some c.make) && (c.kinds ==(if c.domain.isEmpty then []else fn.params.toList.map fun t=>match P.underlying t with | some (.int k)=>some k | _=>none)) && (c.pinned == c.pinnedBy) &&
 (c.veiled ==(fn.params.toList++s.plain.varTypes P++fn.resultTypes.toList).any (P.veiledRec ·)) && c.veiledFits P fn.params.toList (fn.params.toList++s.plain.varTypes P++fn.resultTypes.toList)
end
theorem joined_of {P:Program}{f:FuncId}{fn:Func}{s:ChangeSpec}{c:OpenClaim}(hA:jA P fn s c=true)(hB:jB P f c=true)(hC:jC P f c=true)(hD:jD P f c=true)(hE:jE P f c=true)(hF:jF P fn s c=true)(hG:jG P=true)(hH:jH P=true)(hI:jI P fn s c=true):joinedFacts P f fn s c=true:=by
 simp only[jA,jB,jC,jD,jE,jF,jG,jH,jI,Bool.and_eq_true,and_assoc]at hA hB hC hD hE hF hG hH hI
 simp only[joinedFacts,Bool.and_eq_true,and_assoc]
 exact⟨hA.1,hA.2.1,hA.2.2.1,hA.2.2.2.1,hA.2.2.2.2.1,hA.2.2.2.2.2.1,hA.2.2.2.2.2.2.1,hA.2.2.2.2.2.2.2.1,hA.2.2.2.2.2.2.2.2,hB,hC,hD,hE,hF.1,hF.2.1,hF.2.2.1,hF.2.2.2.1,hF.2.2.2.2.1,hF.2.2.2.2.2.1,hF.2.2.2.2.2.2.1,hF.2.2.2.2.2.2.2.1,hF.2.2.2.2.2.2.2.2.1,hF.2.2.2.2.2.2.2.2.2.1,hF.2.2.2.2.2.2.2.2.2.2,hG,hH,hI.1,hI.2.1,hI.2.2.1,hI.2.2.2.1,hI.2.2.2.2.1,hI.2.2.2.2.2⟩
end Go.Am

namespace Go.Am
open Go.RowKit (Below)
end Go.Am

namespace Go.Am
open Go.RowKit (Below)
end Go.Am

namespace Go.Am
end Go.Am

namespace Go.Am
open Go.RowKit (Below)
open Go.Proofs (encStr)
open Go.WideElems (Fit rg rd)
end Go.Am

namespace Go.Am
theorem Bx.storesL {H:Heap}{id:Nat}{cs:List V}(h:Bx H id cs)(hw:WF H)(off:Nat)(vs:List V)(hl:off+vs.length<=cs.length)(h0:0<vs.length)(hs:vs.all V.scal=true) :
  ∃ H',H.stores id off vs=some H'/\Bx H' id (cs.take off++vs++cs.drop (off+vs.length))/\Only id H H':=by
 obtain⟨H',r1,r2,r3⟩:=h.eStore hw off (.agg vs) vs.length rfl hl h0 hs (fun _=>0)
 refine⟨H',?_,r2,r3⟩
 simp only[Am.eStore,V.cells,Nat.beq_refl,cond_true]at r1
 cases hst:H.stores id off vs with
 | none=>rw[hst]at r1;cases r1
 | some x=>rw[hst]at r1;cases r1;rfl
abbrev NewIn (P:Nat->Prop)(H:Heap):Prop:=∀ i,H.size<=i->P i
end Go.Am

namespace Go.Am
def BlkP (P:Nat->Prop)(H:Heap)(id:Nat)(cs:List V):Prop :=
 ∃ room fam ver pl st fr,H.blk.get id=some (.mem cs room fam ver true pl st)/\H.fams.get fam=some (fr,ver)/\fr<=ver/\P id/\P fam
theorem BlkP.cells {P:Nat->Prop}{H:Heap}{id:Nat}{cs:List V}(h:BlkP P H id cs):H.cells? id=some cs:=by
 obtain⟨room,fam,ver,pl,st,fr,h1,h2,h3,_,_⟩:=h
 simp only[Heap.cells?,h1,h2]
 rw[show Nat.ble fr ver=true from Nat.ble_eq_true_of_le h3]
 rfl
theorem BlkP.chg {P Q:Nat->Prop}{H H':Heap}{id:Nat}{cs:List V}(h:BlkP P H id cs)(hw:WF H)(hg:Chg Q H H')(hPQ:∀ i,i<H.size->P i->¬ Q i):BlkP P H' id cs:=by
 obtain⟨room,fam,ver,pl,st,fr,h1,h2,h3,h4,h5⟩:=h
 have a:=hw.blk _ _ h1
 have b:=hw.fams _ _ h2
 exact⟨room,fam,ver,pl,st,fr,by rw[hg.blk id a (hPQ _ a h4)];exact h1,by rw[hg.fams fam b (hPQ _ b h5)];exact h2,h3,h4,h5⟩
theorem BlkP.weaken {P Q:Nat->Prop}{H:Heap}{id:Nat}{cs:List V}(h:BlkP P H id cs)(hw:WF H)(hPQ:∀ i,i<H.size->P i->Q i):BlkP Q H id cs:=by
 obtain⟨room,fam,ver,pl,st,fr,h1,h2,h3,h4,h5⟩:=h
 exact⟨room,fam,ver,pl,st,fr,h1,h2,h3,hPQ _ (hw.blk _ _ h1) h4,hPQ _ (hw.fams _ _ h2) h5⟩
theorem BlkP.stores {P:Nat->Prop}{H:Heap}{id:Nat}{cs:List V}(h:BlkP P H id cs)(hw:WF H)(off:Nat)(vs:List V)(hl:off+vs.length<=cs.length)(hs:vs.all V.scal=true) :
  ∃ H',H.stores id off vs=some H'/\BlkP P H' id (cs.take off++vs++cs.drop (off+vs.length))/\Chg P H H'/\H'.size=H.size:=by
 obtain⟨room,fam,ver,pl,st,fr,h1,h2,h3,h4,h5⟩:=h
 cases vs with
 | nil=>exact⟨H,rfl,by simpa using ⟨room,fam,ver,pl,st,fr,h1,h2,h3,h4,h5⟩,Chg.refl hw,rfl⟩
 | cons v vs =>
  have hroom:H.room? id=room:=by simp only[Heap.room?,h1]
  have hov:=over_in off room (v::vs) cs hl
  refine⟨{ size:=H.size,blk:=H.blk.s id (.mem (cs.take off++(v::vs)++cs.drop (off+(v::vs).length)) room fam ver true pl (st+1)),fams:=H.fams.s fam (ver,ver) },?_,?_,?_,rfl⟩
  ·simp only[Heap.stores,hs,cond_true,Heap.write,h1,h2,hroom,hov]
   rw[show Nat.beq ver ver=true from Nat.beq_refl ver,show Nat.ble fr ver=true from Nat.ble_eq_true_of_le h3]
   rfl
  ·exact⟨room,fam,ver,pl,st+1,ver,T.get_set_same _ _ _,T.get_set_same _ _ _,Nat.le_refl _,h4,h5⟩
  ·have hid:=hw.blk _ _ h1
   have hfam:=hw.fams _ _ h2
   refine⟨⟨?_,?_,?_⟩,Nat.le_refl _,fun i _ hi=>?_,fun f _ hf=>?_⟩
   ·intro i b hb
    simp only[T.get_set]at hb ⊢
    split at hb
    ·omega
    ·exact hw.blk _ _ hb
   ·intro f x hf
    simp only[T.get_set]at hf ⊢
    split at hf
    ·omega
    ·exact hw.fams _ _ hf
   ·intro i c r f v' w p s hb
    simp only[T.get_set]at hb ⊢
    split at hb
    ·cases hb;exact hfam
    ·exact hw.fam _ _ _ _ _ _ _ _ hb
   ·simp only[T.get_set];rw[if_neg (fun e=>hi (by rw[e]at h4;exact h4))]
   ·simp only[T.get_set];rw[if_neg (fun e=>hf (by rw[e]at h5;exact h5))]
def GenL (P:Nat->Prop)(H:Heap)(z:Nat)(v:V)(m:Nat)(cs:List V):Prop :=
 (v=.nils/\m=0/\cs=[])∨∃ id lo ex all,v=.sl id 0 m lo ex z/\BlkP P H id all/\m<=lo/\all.length=lo*z/\cs.length=m*z/\all.take (m*z)=cs
theorem GenL.rd {P:Nat->Prop}{H:Heap}{z:Nat}{v:V}{m:Nat}{cs:List V}(h:GenL P H z v m cs):Rd H z v m cs:=by
 rcases h with⟨rfl,h⟩ | ⟨id,lo,ex,all,rfl,h1,h2,h3,h4,h5⟩
 ·exact .inl ⟨.inl rfl,h⟩
 ·exact .inr ⟨id,0,lo,ex,all,rfl,h1.cells,by rw[List.drop_zero,h5],h4⟩
theorem GenL.pLen {P:Nat->Prop}{H:Heap}{z:Nat}{v:V}{m:Nat}{cs:List V}(h:GenL P H z v m cs):Am.pLen [v]=some (.int .i64 (m:Int)):=h.rd.pLen
theorem GenL.chg {P Q:Nat->Prop}{H H':Heap}{z:Nat}{v:V}{m:Nat}{cs:List V}(h:GenL P H z v m cs)(hw:WF H)(hg:Chg Q H H')(hPQ:∀ i,i<H.size->P i->¬ Q i):GenL P H' z v m cs:=by
 rcases h with h | ⟨id,lo,ex,all,h0,h1,h2⟩
 ·exact .inl h
 ·exact .inr ⟨id,lo,ex,all,h0,h1.chg hw hg hPQ,h2⟩
theorem GenL.weaken {P Q:Nat->Prop}{H:Heap}{z:Nat}{v:V}{m:Nat}{cs:List V}(h:GenL P H z v m cs)(hw:WF H)(hPQ:∀ i,i<H.size->P i->Q i):GenL Q H z v m cs:=by
 rcases h with h | ⟨id,lo,ex,all,h0,h1,h2⟩
 ·exact .inl h
 ·exact .inr ⟨id,lo,ex,all,h0,h1.weaken hw hPQ,h2⟩
theorem GenL.gr {P:Nat->Prop}{H H':Heap}{z:Nat}{v:V}{m:Nat}{cs:List V}(h:GenL P H z v m cs)(hw:WF H)(hg:Gr H.size H H'):GenL P H' z v m cs:=h.chg hw (hg.chg (P:=fun _=>False)) fun _ _ _=>not_false
theorem GenL.append1 {P:Nat->Prop}{H:Heap}{z bytes:Nat}{v:V}{m:Nat}{cs:List V}(h:GenL P H z v m cs)(hw:WF H)(hP:NewIn P H)(new:List V)(hz:0<z)(hl:new.length=z)(hs:new.all V.scal=true)
  (h1:(m+1)*bytes<=140737488355328) (h2:m+1<=140737488355328) (Z:Tape) :
  ∃ v' H' Z',Am.append H z bytes v 1 new Z=some (v',H',Z')/\GenL P H' z v' (m+1) (cs++new)/\Chg P H H':=by
 have e1:Nat.ble ((m+1)*bytes) 140737488355328=true:=Nat.ble_eq_true_of_le h1
 have e2:Nat.ble (m+1) 140737488355328=true:=Nat.ble_eq_true_of_le h2
 rcases h with⟨rfl,rfl,rfl⟩ | ⟨id,lo,ex,all,rfl,k1,k2,k3,k4,k5⟩
 ·refine⟨.sl H.size 0 1 1 (some (spare 1 (Z 0))) z,H.new new ((1+spare 1 (Z 0))*z) false,Z.tail,?_,?_,(Gr.new hw _ _ _).chg⟩
  ·simp only[Am.append,Nat.zero_add]at e1 e2 ⊢
   simp only[e1,e2,Bool.and_self,cond_true,fresh]
  ·exact .inr ⟨H.size,1,_,new,rfl,⟨_,H.size,0,false,0,0,T.get_set_same _ _ _,T.get_set_same _ _ _,Nat.le_refl _,hP _ nl,hP _ nl⟩,Nat.le_refl _,by omega,by simp;omega,by rw[List.nil_append,Nat.zero_add,Nat.one_mul,<- hl,List.take_length]⟩
 ·by_cases hin:m+1<=lo
  ·have e3:Nat.ble (m+1) lo=true:=Nat.ble_eq_true_of_le hin
   have hle:m*z+z<=lo*z:=by rw[<- Nat.succ_mul];exact Nat.mul_le_mul_right _ hin
   obtain⟨H',r1,r2,r3,r4⟩:=k1.stores hw (m*z) new (by omega) hs
   refine⟨.sl id 0 (m+1) lo ex z,H',Z,?_,.inr ⟨id,lo,ex,_,rfl,r2,hin,?_,?_,?_⟩,r3⟩
   ·simp only[Am.append,Nat.beq_refl,cond_true,e3,Nat.zero_add,r1]
   ·simp only[List.length_append,List.length_take,List.length_drop];omega
   ·rw[List.length_append,k4,hl,Nat.succ_mul]
   ·rw[k5,List.take_append_of_le_length (by rw[List.length_append,k4,hl,Nat.succ_mul];exact Nat.le_refl _)]
    exact List.take_of_length_le (by rw[List.length_append,k4,hl,Nat.succ_mul];exact Nat.le_refl _)
  ·have hml:m=lo:=by omega
   subst hml
   have e3:Nat.ble (m+1) m=false:=by
    cases hb:Nat.ble (m+1) m with
    | false=>rfl
    | true=>have:=Nat.le_of_ble_eq_true hb;omega
   have hall:all=cs:=by rw[<- k5,<- k3,List.take_length]
   subst hall
   have hloads:H.loads id 0 (m*z)=some all:=by
    simp only[Heap.loads,k1.cells,List.drop_zero]
    rw[zMB _ _ (by omega),k5]
   have hlen2:(all++new).length=(m+1)*z:=by rw[List.length_append,k3,hl,Nat.succ_mul]
   cases ex with
   | none =>
    refine⟨.sl H.size 0 (m+1) (m+1) (some (spare (m+1) (Z 0))) z,H.new (all++new) ((m+1+spare (m+1) (Z 0))*z) false,Z.tail,?_,?_,(Gr.new hw _ _ _).chg⟩
    ·simp only[Am.append,Nat.beq_refl,cond_true,e3,cond_false,e1,e2,Bool.and_self,hloads,fresh]
    ·exact .inr ⟨H.size,m+1,_,_,rfl,⟨_,H.size,0,false,0,0,T.get_set_same _ _ _,T.get_set_same _ _ _,Nat.le_refl _,hP _ nl,hP _ nl⟩,Nat.le_refl _,hlen2,hlen2,by rw[<- hlen2,List.take_length]⟩
   | some e =>
    obtain⟨room,fam,ver,pl,st,fr,q1,q2,q3,q4,q5⟩:=k1
    have hid:=hw.blk _ _ q1
    have hfam:=hw.fams _ _ q2
    have e6:Nat.beq (0+m*z) all.length=true:=by rw[k3,Nat.zero_add];exact Nat.beq_refl _
    refine⟨.sl H.size 0 (m+1) (m+1) (some (spare (m+1) (Z 0))) z,H.version (all++new) ((m+1+spare (m+1) (Z 0))*z) fam fr ver pl,Z.tail,?_,?_,⟨hw.version _ _ _ _ _ _ hfam,Nat.le_succ _,fun i hi hp=>?_,fun f hf hp=>?_⟩⟩
    ·simp only[Am.append,Nat.beq_refl,cond_true,e3,cond_false,e1,e2,Bool.and_self,hloads,q1,q2,e6,hs]
    ·exact .inr ⟨H.size,m+1,_,_,rfl,⟨_,fam,ver+1,pl,0,fr,T.get_set_same _ _ _,T.get_set_same _ _ _,by omega,hP _ nl,q5⟩,Nat.le_refl _,hlen2,hlen2,by rw[<- hlen2,List.take_length]⟩
    ·simp only[Heap.version,T.get_set];rw[if_neg (by omega)]
    ·simp only[Heap.version,T.get_set];rw[if_neg (fun e=>hp (by rw[e]at q5;exact q5))]
theorem GenL.put {P:Nat->Prop}{H:Heap}{z bytes:Nat}{v:V}{m:Nat}{cs:List V}(h:GenL P H z v m cs)(hw:WF H)(hP:NewIn P H)(new:List V)(hz:0<z)(hl:new.length=z)(hs:new.all V.scal=true)
  (h1:(m+1)*bytes<=140737488355328) (h2:m+1<=140737488355328) (Z:Tape) (pl:Bool) :
  ∃ v' H' Z',zAj z bytes [v,.sl H.size 0 1 1 none z] (H.new new z pl) Z=some (v',H',Z')/\GenL P H' z v' (m+1) (cs++new)/\Chg P H H'/\Chg P (H.new new z pl) H':=by
 have hG:=Gr.new hw new z pl
 have hc:=zOd H new z pl
 obtain⟨v',H',Z',r1,r2,r3⟩:=(h.gr hw hG).append1 (bytes:=bytes) hG.wf (fun i hi=>hP i (Nat.le_trans hG.size hi)) new hz hl hs h1 h2 Z
 refine⟨v',H',Z',?_,r2,((hG.chg (P:=fun _=>False)).weaken (fun _ _ h=>h.elim)).trans r3 fun _ _ h=>h,r3⟩
 have hld:(H.new new z pl).loads H.size 0 (1*z)=some new:=by
  rw[zCj hc (by omega),List.drop_zero,List.take_of_length_le (by omega)]
 simp only[zAj,zHg,zDg,Nat.beq_refl,cond_true,hld,r1]
theorem GenL.upto {P:Nat->Prop}{H:Heap}{z:Nat}{v:V}{m:Nat}{cs:List V}(h:GenL P H z v m cs){k:Nat}(hk:k<=m)(hv:v≠.nils) :
  ∃ v',zHq z false true false [v,.int .i64 (k:Int)]=some v'/\v'≠.nils/\GenL P H z v' k (cs.take (k*z)):=by
 rcases h with⟨rfl,_⟩ | ⟨id,lo,ex,all,rfl,k1,k2,k3,k4,k5⟩
 ·exact absurd rfl hv
 ·have hb:zE8 false true false [V.int .i64 (k:Int)]=some (none,some k,none):=by simp only[zE8,optN,zBK]
  have hwi:within k lo ex=true:=by rw[within_iff];exact .inl (by omega)
  have h0:Nat.ble 0 k=true:=Nat.ble_eq_true_of_le (Nat.zero_le _)
  have h0':Nat.ble 0 lo=true:=Nat.ble_eq_true_of_le (Nat.zero_le _)
  have ho:offIn 0 0 lo ex z=0:=rfl
  have hkz:k*z<=m*z:=Nat.mul_le_mul_right _ hk
  refine⟨.sl id 0 k lo ex z,by simp only[zHq,Nat.beq_refl,cond_true,hb,zSR,Option.getD_some,Option.getD_none,hwi,h0,h0',Bool.and_self,ho,Nat.sub_zero],(fun h=>by cases h),.inr ⟨id,lo,ex,all,rfl,k1,by omega,k3,?_,?_⟩⟩
  ·rw[List.length_take,k4];exact Nat.min_eq_left hkz
  ·rw[<- k5,List.take_take,Nat.min_eq_left hkz]
end Go.Am

namespace Go.Am
section
variable {E:Type} {cf:E->List V} {z:Nat}
end
end Go.Am

namespace Go.Am
end Go.Am

namespace Go.Am
def DatP (D:Nat->Prop)(H:Heap)(z:Nat)(v:V)(n:Nat)(cs:List V):Prop :=
 (v=.nils/\n=0/\cs=[])∨∃ id off lo ex all room fam ver wr pl st fr la,v=.sl id off n lo ex z/\H.blk.get id=some (.mem all room fam ver wr pl st)/\H.fams.get fam=some (fr,la)/\fr<=ver/\D id/\D fam/\(all.drop off).take (n*z)=cs/\cs.length=n*z
theorem DatP.nil (D:Nat->Prop)(H:Heap)(z:Nat):DatP D H z .nils 0 []:=.inl ⟨rfl,rfl,rfl⟩
theorem zOn {H:Heap}{id:Nat}{all:List V}{room fam ver:Nat}{wr pl:Bool}{st fr la:Nat}(h1:H.blk.get id=some (.mem all room fam ver wr pl st))(h2:H.fams.get fam=some (fr,la))(h3:fr<=ver):H.cells? id=some all:=by
 simp only[Heap.cells?,h1,h2]
 rw[show Nat.ble fr ver=true from Nat.ble_eq_true_of_le h3]
 rfl
theorem DatP.rd {D:Nat->Prop}{H:Heap}{z:Nat}{v:V}{n:Nat}{cs:List V}(h:DatP D H z v n cs):Rd H z v n cs:=by
 rcases h with⟨rfl,h⟩ | ⟨id,off,lo,ex,all,room,fam,ver,wr,pl,st,fr,la,rfl,h1,h2,h3,_,_,h6,h7⟩
 ·exact .inl ⟨.inl rfl,h⟩
 ·exact .inr ⟨id,off,lo,ex,all,rfl,zOn h1 h2 h3,h6.symm,h7⟩
theorem DatP.src {D:Nat->Prop}{H:Heap}{z:Nat}{v:V}{n:Nat}{cs:List V}(h:DatP D H z v n cs):Src H v:=by
 rcases h with⟨rfl,h⟩ | ⟨id,off,lo,ex,all,room,fam,ver,wr,pl,st,fr,la,rfl,h1,h2,h3,_⟩
 ·trivial
 ·exact⟨all,zOn h1 h2 h3⟩
theorem DatP.scal {D:Nat->Prop}{H:Heap}{z:Nat}{v:V}{n:Nat}{cs:List V}(h:DatP D H z v n cs):v.cells=[v]/\v.scal=true:=by
 rcases h with⟨rfl,h⟩ | ⟨_,_,_,_,_,_,_,_,_,_,_,_,_,rfl,_⟩ <;> exact⟨rfl,rfl⟩
theorem DatP.chg {D Q:Nat->Prop}{H H':Heap}{z:Nat}{v:V}{n:Nat}{cs:List V}(h:DatP D H z v n cs)(hw:WF H)(hg:Chg Q H H')(hDQ:∀ i,i<H.size->D i->¬ Q i):DatP D H' z v n cs:=by
 rcases h with h | ⟨id,off,lo,ex,all,room,fam,ver,wr,pl,st,fr,la,e,h1,h2,h3,h4,h5,h6⟩
 ·exact .inl h
 ·have a:=hw.blk _ _ h1
  have b:=hw.fams _ _ h2
  exact .inr ⟨id,off,lo,ex,all,room,fam,ver,wr,pl,st,fr,la,e,by rw[hg.blk id a (hDQ _ a h4)];exact h1,by rw[hg.fams fam b (hDQ _ b h5)];exact h2,h3,h4,h5,h6⟩
theorem DatP.weaken {D Q:Nat->Prop}{H:Heap}{z:Nat}{v:V}{n:Nat}{cs:List V}(h:DatP D H z v n cs)(hw:WF H)(hDQ:∀ i,i<H.size->D i->Q i):DatP Q H z v n cs:=by
 rcases h with h | ⟨id,off,lo,ex,all,room,fam,ver,wr,pl,st,fr,la,e,h1,h2,h3,h4,h5,h6⟩
 ·exact .inl h
 ·exact .inr ⟨id,off,lo,ex,all,room,fam,ver,wr,pl,st,fr,la,e,h1,h2,h3,hDQ _ (hw.blk _ _ h1) h4,hDQ _ (hw.fams _ _ h2) h5,h6⟩
theorem DatP.own {H:Heap}{B z:Nat}{v:V}{n:Nat}{cs:List V}(h:Own H B z v n cs):DatP (fun i=>B<=i) H z v n cs:=by
 rcases h with⟨rfl,h⟩ | ⟨id,e,room,fam,ver,pl,st,fr,rfl,h2,h3,h4,h5,h6,h7⟩
 ·exact .inl ⟨rfl,h⟩
 ·exact .inr ⟨id,0,n,some e,cs,room,fam,ver,true,pl,st,fr,ver,rfl,h2,h3,h4,h5,h6,by rw[List.drop_zero,<- h7,List.take_length],h7⟩
theorem DatP.gen {P:Nat->Prop}{H:Heap}{z:Nat}{v:V}{n:Nat}{cs:List V}(h:GenL P H z v n cs):DatP P H z v n cs:=by
 rcases h with⟨rfl,h⟩ | ⟨id,lo,ex,all,rfl,⟨room,fam,ver,pl,st,fr,h1,h2,h3,h4,h5⟩,k2,k3,k4,k5⟩
 ·exact .inl ⟨rfl,h⟩
 ·exact .inr ⟨id,0,lo,ex,all,room,fam,ver,true,pl,st,fr,ver,rfl,h1,h2,h3,h4,h5,by rw[List.drop_zero];exact k5,k4⟩
end Go.Am

namespace Go.Am
theorem Gr.refl' {B:Nat}{H:Heap}(h:WF H):Gr B H H:=⟨h,Nat.le_refl _,fun _ _=>rfl,fun _ _=>rfl⟩
end Go.Am

