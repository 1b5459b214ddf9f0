/- The abstract machine, printed functions of the program, and what they are shown to be. -/
import Derived.Deep.Strs
import Derived.ChangeSlices
import Derived.Test.YtejpgcemblankaaGreatDoorCFRM3
import Derived.Test.YtejpgcemblankaaGreatDoorCFRM4
set_option linter.unusedSimpArgs false
set_option linter.unusedVariables false
namespace Go.Am
open Go Go.ChangeShapes Go.WideShapes Go.RowKit
end Go.Am

namespace Go.Am
open Go Go.ChangeShapes Go.WideShapes Go.RowKit
theorem cell_inv' {w:World}{b o:Nat}{v:Value}(h:w.cell? ⟨b,o,none⟩=some v):∃ c el fz,w.heap[b]?=some (.cells c el fz)/\c[o]?=some v:=by
 unfold World.cell? at h
 split at h
 ·rename_i c el fz hh
  exact⟨c,el,fz,hh,by simpa using h⟩
 ·cases h
theorem shape_inv {w:World}{b:Nat}{x:TypeId × Nat}(h:w.shape? b=some x):∃ c el fz,w.heap[b]?=some (.cells c el fz):=by
 unfold World.shape? at h
 split at h
 ·rename_i c el fz hh
  exact⟨c,el,fz,hh⟩
 ·cases h
theorem open_bytes {P:Program}{W:World}{X:Type}{enc:TypeId × Value->X}{t e:TypeId}(ht:P.underlying t=some (.slice e))(he:P.underlying e=some (.int .u8))
  (ce:P.cellsOf e=1) {v:Value} {d:DataW X} {p:List MemPlace} {base:Nat} (hval:Value.okWide P W .any base t v) (hd:DataW.Trod enc P W 0 (fun _=>true) true t v d p) (n:Nat) :
  ∃ (bs:List Nat) (u:V) (ent:Option (List V)) (addr:Nat × Nat),bs.length<=9223372036854775807/\(∀ x ∈ bs,x<256)/\(∀ U:Inj,U n=addr->cv U u=v) /\
   (∀ cs,ent=some cs->cs=ws .u8 bs/\∀ (U:Inj) base,U n=addr->BOk U base W n cs cs.length false)/\(∀ H:Heap,n<H.size->VOk H u)/\Roomy u /\
   (∀ H:Heap,(∀ cs,ent=some cs->H.cells? n=some cs)->Rd H 1 u bs.length (ws .u8 bs)/\Src H u):=by
 obtain⟨fuel,hf⟩:=hd
 have hv1:Cell.ok P W .any base t v:=by
  unfold Value.okWide at hval
  rw[ht]at hval
  unfold Cell.okWide at hval
  rw[ht]at hval
  exact hval
 have hcl:v.cells.toList=[v]:=by
  cases v <;> first | rfl | (unfold Cell.ok at hv1;rw[ht]at hv1;exact hv1.elim)
 rw[hcl]at hf
 rcases open_ints ht he ce hf with⟨hcs,_⟩ | ⟨a,len,cap,zs,hcs,_,hlc,hcm,hm,_,hall,hwf⟩
 ·have:v=.slice none 0 0:=by simpa using hcs
  subst this
  exact⟨[],.nils,none,(0,0),by simp,by simp,fun _ _=>rfl,(fun cs h=>by cases h),fun _ _=>trivial,trivial,fun _ _=>⟨.inl ⟨.inl rfl,rfl,rfl⟩,trivial⟩⟩
 ·have:v=.slice (some a) len cap:=by simpa using hcs
  subst this
  have hhas:=hv1
  unfold Cell.ok at hhas
  rw[ht]at hhas
  have hspot:a.spot=none:=hhas.2.2.2.1
  obtain⟨row,cells,hsh,_⟩:=hhas.2.2.2.2
  obtain⟨ab,ao,sp⟩:=a
  simp only at hspot hsh
  subst hspot
  have hmc:zs.length=cap:=by simpa using hm
  obtain⟨c,el,fz,hb⟩:=shape_inv hsh
  by_cases h0:len=0
  ·subst h0
   refine⟨[],.sl n ao 0 cap none 1,some [],(ab,0),by simp,by simp,fun U hU=>?_,fun cs h=>?_,fun H hn=>⟨hn,by simp,(fun h=>by cases h)⟩,?_,fun H hH=>⟨.inl ⟨.inr ⟨_,_,_,_,rfl⟩,rfl,rfl⟩,⟨[],hH _ rfl⟩⟩⟩
   ·simp[cv,hU]
   ·cases h
    refine⟨rfl,fun U base hU=>⟨c,el,fz.1,fz.2,by rw[hU];exact hb,by rw[hU];simp,fun j u hu=>by simp at hu,fun h=>by cases h⟩⟩
   ·show within 0 cap none=true
    rw[within_iff];exact .inl (Nat.zero_le _)
  ·have hlen:((zs.take len).map Int.toNat).length=len:=by simp;omega
   have hz:∀ i,i<cap->∃ x:Nat,zs.getD i 0=(x:Int)/\x<256:=by
    intro i hi
    have hmem:zs.getD i 0 ∈ zs:=by
     rw[List.getD_eq_getElem?_getD,List.getElem?_eq_getElem (by omega)]
     exact List.getElem_mem _
    have h:=hwf _ hmem
    have h':IntKind.u8.min<=zs.getD i 0/\zs.getD i 0<=IntKind.u8.max:=by simpa [Lit.wf] using h
    have h1:(0:Int)<=zs.getD i 0:=h'.1
    have h2:zs.getD i 0<=255:=h'.2
    exact⟨(zs.getD i 0).toNat,by omega,by omega⟩
   have hbs:∀ i,i<len->(ws .u8 ((zs.take len).map Int.toNat))[i]?=some (.int .u8 (zs.getD i 0)):=by
    intro i hi
    obtain⟨x,hx,_⟩:=hz i (by omega)
    have e1:zs[i]?=some (zs.getD i 0):=by rw[List.getD_eq_getElem?_getD,List.getElem?_eq_getElem (by omega)];rfl
    simp only[ws,List.getElem?_map,List.getElem?_take_of_lt hi,e1,Option.map_some,hx]
    simp
   refine⟨(zs.take len).map Int.toNat,.sl n 0 len cap none 1,some (ws .u8 ((zs.take len).map Int.toNat)),(ab,ao),?_,?_,fun U hU=>?_,fun cs h=>?_,fun H hn=>⟨hn,by simpa using hlc,(fun h=>by cases h)⟩,?_,fun H hH=>?_⟩
   ·rw[hlen]
    unfold maxLen at hcm
    omega
   ·intro x hx
    obtain⟨y,hy,rfl⟩:=List.mem_map.1 hx
    obtain⟨i,hi,hiy⟩:=List.getElem_of_mem hy
    rw[List.length_take]at hi
    obtain⟨x,hx,hx2⟩:=hz i (by omega)
    have:zs.getD i 0=y:=by
     rw[List.getD_eq_getElem?_getD,List.getElem?_eq_getElem (by omega)]
     simpa using hiy
    omega
   ·simp[cv,hU]
   ·cases h
    refine⟨rfl,fun U base hU=>?_⟩
    have hall':∀ i,i<zs.length->W.cell? ⟨ab,ao+i,none⟩=some (.int .u8 (zs.getD i 0)):=fun i hi=>by
     have:=hall i hi
     unfold Addr.add at this
     split at this
     ·rename_i h0;subst h0;exact this
     ·exact this
    refine⟨c,el,fz.1,fz.2,by rw[hU];exact hb,?_,fun j u hu=>?_,(fun h=>by cases h)⟩
    ·rw[hU,zSL,hlen]
     have:W.cell? ⟨ab,ao+(len-1),none⟩=_:=hall' (len-1) (by omega)
     obtain⟨c',el',fz',hb',hc'⟩:=cell_inv' (b:=ab) (o:=ao+(len-1)) this
     rw[hb]at hb'
     cases hb'
     have:=(Array.getElem?_eq_some_iff.1 hc').1
     simp only
     omega
    ·have hj:j<len:=by
      have:=(List.getElem?_eq_some_iff.1 hu).1
      rw[zSL,hlen]at this
      exact this
     rw[hbs j hj]at hu
     cases hu
     have:W.cell? ⟨ab,ao+j,none⟩=_:=hall' j (by omega)
     obtain⟨c',el',fz',hb',hc'⟩:=cell_inv' (b:=ab) (o:=ao+j) this
     rw[hb]at hb'
     cases hb'
     rw[hU]
     exact hc'
   ·show within len cap none=true
    rw[within_iff];exact .inl hlc
   ·refine⟨.inr ⟨n,0,cap,none,_,by rw[hlen],hH _ rfl,?_,by rw[zSL,Nat.mul_one]⟩,⟨_,hH _ rfl⟩⟩
    rw[List.drop_zero,Nat.mul_one]
    exact(List.take_of_length_le (by rw[zSL];exact Nat.le_refl _)).symm
end Go.Am

