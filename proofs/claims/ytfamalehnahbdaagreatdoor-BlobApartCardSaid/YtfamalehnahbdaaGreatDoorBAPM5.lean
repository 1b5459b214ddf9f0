/- The abstract machine, printed functions of the program, and what they are shown to be. -/
import Derived.Test.YtfamalehnahbdaaGreatDoorBAPM4
import Derived.JoinedOf
import Derived.Maps.Own
import Derived.Maps.Ext
import Derived.Maps.Range
import Derived.Sort.KeysCollected
import Derived.Lib.SlMapMerge
set_option linter.unusedSimpArgs false
set_option linter.unusedVariables false
namespace Go.Am
abbrev Lab := Nat → Nat × Nat
def selL (b : Nat) (L : Lab) : Nat → Nat := fun i => if (L i).1 = b then (L i).2 else 0
def labN (L : Lab) (n b m : Nat) : Lab := fun i => if n ≤ i then (b, m) else L i
theorem labN_lt (L : Lab) {n i : Nat} (b m : Nat) (h : i < n) : labN L n b m i = L i := if_neg (by omega)
theorem labN_ge (L : Lab) {n i : Nat} (b m : Nat) (h : n ≤ i) : labN L n b m i = (b, m) := if_pos h
theorem selL_eq {b : Nat} {L L' : Lab} {i : Nat} (h : L' i = L i) : selL b L' i = selL b L i := by unfold selL; rw [h]
theorem selL_ne {b : Nat} {L : Lab} {i : Nat} (h : selL b L i ≠ 0) : (L i).1 = b ∧ (L i).2 = selL b L i := by
 unfold selL at h ⊢
 split at h
 ·rename_i e; rw [if_pos e]; exact ⟨e, rfl⟩
 ·exact absurd rfl h
theorem selL_at {b m : Nat} {L : Lab} {i : Nat} (h : L i = (b, m)) : selL b L i = m := by unfold selL; rw [h]; simp
abbrev Of (L : Lab) (b : Nat) : Nat → Prop := fun i => (L i).1 = b ∧ (L i).2 ≠ 0
abbrev OfB (L : Lab) (b : Nat) : Nat → Prop := fun i => (L i).1 = b ∧ (L i).2 ≠ 0 ∧ (L i).2 ≤ 3
theorem BookZ.grL {z b : Nat} {L L' : Lab} {H H1 : Heap} {K : Nat} {its : List ItZ} (h : BookZ z (selL b L) H K its) (hw : WF H) (g : Gr H.size H H1) (hl : ∀ i, i < H.size → L' i = L i) : BookZ z (selL b L') H1 K its :=
 h.chg hw (g.chg (P := fun _ => False)) (fun _ _ q => q.elim) fun i hi => selL_eq (hl i hi)
def LstZ (L : Lab) (b key : Nat) (H : Heap) (v : V) (z cap n : Nat) (cs : List V) : Prop :=
 RoomZ (fun i => L i = (b, 2 * key + 4)) H v z cap cs ∧ cs.length = n * z ∧ pLen [v] = some (.int .i64 (n : Int)) ∧ cap < 9223372036854775808
theorem LstZ.chg {L L' : Lab} {b key : Nat} {Q : Nat → Prop} {H H1 : Heap} {v : V} {z cap n : Nat} {cs : List V} (h : LstZ L b key H v z cap n cs) (hw : WF H) (g : Chg Q H H1) (hQ : ∀ i, i < H.size → L i = (b, 2 * key + 4) → ¬ Q i) (hl : ∀ i, i < H.size → L' i = L i) : LstZ L' b key H1 v z cap n cs := by
 obtain ⟨a, c⟩ := h
 refine ⟨?_, c⟩
 have := (a.weaken (Q := fun i => i < H.size ∧ L' i = (b, 2 * key + 4)) hw fun i hi e => ⟨hi, by rw [hl i hi]; exact e⟩).chg hw g fun i hi e => hQ i hi (by rw [← hl i hi]; exact e.2)
 exact this.weaken g.wf fun i _ e => e.2
theorem LstZ.grL {L L' : Lab} {b key : Nat} {H H1 : Heap} {v : V} {z cap n : Nat} {cs : List V} (h : LstZ L b key H v z cap n cs) (hw : WF H) (g : Gr H.size H H1) (hl : ∀ i, i < H.size → L' i = L i) : LstZ L' b key H1 v z cap n cs :=
 h.chg hw (g.chg (P := fun _ => False)) (fun _ _ _ => not_false) hl
theorem LstZ.new {H H1 : Heap} {v : V} {z cap n : Nat} {cs : List V} (h : RoomZ (fun i => H.size ≤ i) H1 v z cap cs) (hw : WF H1) (hn : cs.length = n * z) (hp : pLen [v] = some (.int .i64 (n : Int))) (hc : cap < 9223372036854775808) (L : Lab) (b key : Nat) : LstZ (labN L H.size b (2 * key + 4)) b key H1 v z cap n cs :=
 ⟨h.weaken hw fun i _ e => labN_ge L _ _ e, hn, hp, hc⟩
theorem LstZ.rd {L : Lab} {b key : Nat} {H : Heap} {v : V} {z cap n : Nat} {cs : List V} (h : LstZ L b key H v z cap n cs) : Rd H z v n cs ∧ Src H v := h.1.rd h.2.1 h.2.2.1
def KeepZ (c : CallK) (f z : Nat) (Good : List V → Nat → Prop) : Prop :=
 ∀ (L : Lab) (b K : Nat) (its : List ItZ) (H : Heap) (x : V) (cap n : Nat) (cs : List V) (key : Nat), WF H → BookZ z (selL b L) H K its → key ∉ its.map ItZ.key → LstZ L b key H x z cap n cs → cs.all V.scal = true → n < 1000000000 → its.length + 1 < 1000000 →
  (∀ it ∈ its, Good it.cs it.n) → Good cs n → ∀ τ, ∃ its' H' τ' L', BookZ z (selL b L') H' K its' ∧ (∀ it ∈ its', it ∈ its ∨ (it.key = key ∧ it.cs = cs ∧ it.n = n)) ∧ its'.length ≤ its.length + 1 ∧ Chg (OfB L b) H H' ∧ (∀ i, i < H.size → L' i = L i) ∧ ∀ q, c f [.ptr K 0, x] H τ q = q (.tup []) H' τ'
theorem KeepZ.mk {c : CallK} {f z : Nat} {Good : List V → Nat → Prop}
  (h : ∀ (lab : Nat → Nat) (H : Heap), WF H → ∀ (K : Nat) (its : List ItZ), BookZ z lab H K its → ∀ (x : V) (cap n : Nat) (cs : List V) (key : Nat), key ∉ its.map ItZ.key → RoomZ (fun i => lab i = 2 * key + 4) H x z cap cs → cs.length = n * z → pLen [x] = some (.int .i64 (n : Int)) → cap < 9223372036854775808 → cs.all V.scal = true → n < 1000000000 → its.length + 1 < 1000000 →
   (∀ it ∈ its, Good it.cs it.n) → Good cs n → ∀ τ, ∃ its' H' τ' lab', BookZ z lab' H' K its' ∧ ((∀ it ∈ its', it ∈ its ∨ (it.key = key ∧ it.cs = cs ∧ it.n = n)) ∧ its'.length ≤ its.length + 1) ∧ Chg (fun i => lab i = 1 ∨ lab i = 2 ∨ lab i = 3) H H' ∧ (∀ i, i < H.size → lab' i = lab i) ∧ ∀ q, c f [.ptr K 0, x] H τ q = q (.tup []) H' τ') : KeepZ c f z Good := by
 intro L b K its H x cap n cs key hw hb hk hx hs hn hits hg hg' τ
 obtain ⟨x1, x2, x3, x4⟩ := hx
 obtain ⟨its', H', τ', lab', h1, h2, h3, h4, h5⟩ := h (selL b L) H hw K its hb x cap n cs key hk (x1.weaken hw fun i _ e => selL_at e) x2 x3 x4 hs hn hits hg hg' τ
 have e : selL b (fun i => if i < H.size then L i else (b, lab' i)) = lab' := by
  funext i
  by_cases hi : i < H.size
  ·rw [h4 i hi]; unfold selL; simp [hi]
  ·unfold selL; simp [hi]
 refine ⟨its', H', τ', fun i => if i < H.size then L i else (b, lab' i), by rw [e]; exact h1, h2.1, h2.2, h3.weaken fun i _ q => ?_, fun i hi => if_pos hi, h5⟩
 have hne : selL b L i ≠ 0 := by omega
 obtain ⟨a1, a2⟩ := selL_ne hne
 exact ⟨a1, by omega, by omega⟩
def ApartZ (c : CallK) (f z fm : Nat) (Good : List V → Nat → Prop) : Prop :=
 ∀ (L : Lab) (b K : Nat) (its : List ItZ) (H : Heap), WF H → BookZ z (selL b L) H K its → its.length < 1000000 → (∀ it ∈ its, Good it.cs it.n) → ∀ τ, ∃ H' τ', Chg (Of L b) H H' ∧ ∀ q, c f [.ptr K 0, .func fm [] []] H τ q = q (.bool true) H' τ'
theorem ApartZ.mk {c : CallK} {f z fm : Nat} {Good : List V → Nat → Prop}
  (h : ∀ (lab : Nat → Nat) (K : Nat) (its : List ItZ), its.length < 1000000 → (∀ it ∈ its, Good it.cs it.n) → ∀ H, WF H → BookZ z lab H K its → ∀ τ, ∃ H' τ', Chg (fun i => lab i ≠ 0) H H' ∧ ∀ q, c f [.ptr K 0, .func fm [] []] H τ q = q (.bool true) H' τ') : ApartZ c f z fm Good := by
 intro L b K its H hw hb hl hg τ
 obtain ⟨H', τ', h1, h2⟩ := h (selL b L) K its hl hg H hw hb τ
 exact ⟨H', τ', h1.weaken fun i _ q => ⟨(selL_ne q).1, by rw [(selL_ne q).2]; exact q⟩, h2⟩
theorem LstZ.mono {L : Lab} {b key : Nat} {H H1 : Heap} {v : V} {z cap n : Nat} {cs : List V} (h : LstZ L b key H v z cap n cs) (hw : WF H) (b' m : Nat) (g : Gr H.size H H1) : LstZ (labN L H.size b' m) b key H1 v z cap n cs := h.grL hw g fun i hi => labN_lt L _ _ hi
theorem BookZ.mono {z b : Nat} {L : Lab} {H H1 : Heap} {K : Nat} {its : List ItZ} (h : BookZ z (selL b L) H K its) (hw : WF H) (b' m : Nat) (g : Gr H.size H H1) : BookZ z (selL b (labN L H.size b' m)) H1 K its := h.grL hw g fun i hi => labN_lt L _ _ hi
theorem OfB.of {L : Lab} {b : Nat} {H H1 : Heap} (h : Chg (OfB L b) H H1) : Chg (Of L b) H H1 := h.weaken fun i _ q => ⟨q.1, q.2.1⟩
theorem Of.gr {L : Lab} {b B : Nat} {H H1 : Heap} (h : Chg (Of L b) H H1) (hB : B ≤ H.size) (hL : ∀ i, i < B → L i = (0, 0)) : Gr B H H1 := h.gr hB fun i hi q => by
 have q : (L i).1 = b ∧ (L i).2 ≠ 0 := q
 rw [hL i hi] at q
 exact q.2 rfl
end Go.Am

namespace Go.Am
section
variable (P : Program) (f : FuncId) (fn : Func) (s : ChangeSpec) (c : OpenClaim)
def jA : Bool := c.wf (OpenSpec.ofChange s) && laidOutB P && mapsRowed P &&
 fn.params.all (P.readableRec ·) && namedTie P c.named s.vars &&
 (c.stops == []) && (P.stops == []) && (c.knobs == []) && (P.stopKnobs == [])
def jB : Bool := c.inPlace == P.inPlace f
def jC : Bool := c.unfollowed == P.unfollowed f
def jD : Bool := c.recurses == P.recurses f
def jE : Bool := c.named == P.varsNamed f
def jF : Bool := (c.maps == (fn.params.toList ++ s.plain.varTypes P).any (P.mapsRec ·)) && (c.ifaces == (fn.params.toList ++ s.plain.varTypes P).any (P.ifacesRec ·)) && (c.mapsOut == P.mapsAmong fn.resultTypes.toList) &&
 (c.loops == (fn.params.toList ++ s.plain.varTypes P).any (P.loopsFrom ·)) && (c.wideKeys == (fn.params.toList ++ s.plain.varTypes P ++ fn.resultTypes.toList).any (P.wideKeysFrom ·)) &&
 s.vars.all (P.varReadable ·) && fn.resultTypes.all (fun t => P.readableRec t && decide (t < P.types.size)) && (c.ifacesOut == fn.resultTypes.toList.any (P.ifacesRec ·)) && (c.loopsOut == fn.resultTypes.toList.any (P.loopsFrom ·)) && (c.plainKeys == P.plainKeys) && c.shortTexts.isNone
def jG : Bool := P.stopsHeard
def jH : Bool := P.mayEnter
def jI : Bool := (c.lifted == P.liftsFinal) && (P.make == some c.make) && (c.kinds == (if c.domain.isEmpty then [] else fn.params.toList.map fun t => match P.underlying t with | some (.int k) => some k | _ => none)) && (c.pinned == c.pinnedBy) &&
 (c.veiled == (fn.params.toList ++ s.plain.varTypes P ++ fn.resultTypes.toList).any (P.veiledRec ·)) && c.veiledFits P fn.params.toList (fn.params.toList ++ s.plain.varTypes P ++ fn.resultTypes.toList)
end
theorem joined_of {P : Program} {f : FuncId} {fn : Func} {s : ChangeSpec} {c : OpenClaim} (hA : jA P fn s c = true) (hB : jB P f c = true) (hC : jC P f c = true) (hD : jD P f c = true) (hE : jE P f c = true) (hF : jF P fn s c = true) (hG : jG P = true) (hH : jH P = true) (hI : jI P fn s c = true) : joinedFacts P f fn s c = true := by
 simp only [jA, jB, jC, jD, jE, jF, jG, jH, jI, Bool.and_eq_true, and_assoc] at hA hB hC hD hE hF hG hH hI
 simp only [joinedFacts, Bool.and_eq_true, and_assoc]
 exact ⟨hA.1, hA.2.1, hA.2.2.1, hA.2.2.2.1, hA.2.2.2.2.1, hA.2.2.2.2.2.1, hA.2.2.2.2.2.2.1, hA.2.2.2.2.2.2.2.1, hA.2.2.2.2.2.2.2.2, hB, hC, hD, hE, hF.1, hF.2.1, hF.2.2.1, hF.2.2.2.1, hF.2.2.2.2.1, hF.2.2.2.2.2.1, hF.2.2.2.2.2.2.1, hF.2.2.2.2.2.2.2.1, hF.2.2.2.2.2.2.2.2.1, hF.2.2.2.2.2.2.2.2.2.1, hF.2.2.2.2.2.2.2.2.2.2, hG, hH, hI.1, hI.2.1, hI.2.2.1, hI.2.2.2.1, hI.2.2.2.2.1, hI.2.2.2.2.2⟩
end Go.Am

namespace Go.Am
open Go.RowKit (Below)
def flat : V → Bool
 | .bool _ => true
 | .int _ _ => true
 | .str _ => true
 | .agg cs => cs.all plainV
 | .tup cs => cs.all plainV
 | _ => false
def eqFl (u v : V) : Bool :=
 match u, v with
 | .agg a, .agg b => a.all plainV && sameL same0 a b
 | .tup a, .tup b => a.all plainV && sameL same0 a b
 | .bool a, .bool b => a == b
 | .int k n, .int k' n' => decide (k = k') && decide (n = n')
 | .str a, .str b => eqB a b
 | _, _ => false
theorem same0_plain {a b : V} (h : same0 a b = true) (hp : plainV a = true) : a = b := by
 cases a <;> simp only [plainV, Bool.false_eq_true] at hp <;> cases b <;> simp only [same0, Bool.false_eq_true, beq_iff_eq, Bool.and_eq_true, decide_eq_true_eq] at h
 ·rw [h]
 ·rw [h.1, h.2]
 ·rw [h]
theorem sameL_plain : ∀ {a b : List V}, sameL same0 a b = true → a.all plainV = true → a = b := by
 intro a
 induction a with
 | nil => intro b h _; cases b with
  | nil => rfl
  | cons y m => simp [sameL] at h
 | cons x l ih =>
  intro b h hp
  cases b with
  | nil => simp [sameL] at h
  | cons y m =>
   simp only [sameL, Bool.and_eq_true] at h
   simp only [List.all_cons, Bool.and_eq_true] at hp
   rw [same0_plain h.1 hp.1, ih h.2 hp.2]
theorem eqFl_spec {u v : V} (h : eqFl u v = true) : u = v ∧ flat u = true := by
 unfold eqFl at h
 split at h
 ·simp only [Bool.and_eq_true] at h; exact ⟨by rw [sameL_plain h.2 h.1], h.1⟩
 ·simp only [Bool.and_eq_true] at h; exact ⟨by rw [sameL_plain h.2 h.1], h.1⟩
 ·exact ⟨by rw [beq_iff_eq.1 h], rfl⟩
 ·simp only [Bool.and_eq_true, decide_eq_true_eq] at h; exact ⟨by rw [h.1, h.2], rfl⟩
 ·rw [eqB_eq] at h; exact ⟨by rw [beq_iff_eq.1 h], rfl⟩
 ·cases h
theorem cv_plain {a : V} (h : plainV a = true) (ι ι' : Inj) : cv ι a = cv ι' a := by
 cases a <;> simp only [plainV, Bool.false_eq_true] at h <;> simp only [cv]
theorem cvl_plain : ∀ {a : List V}, a.all plainV = true → ∀ ι ι' : Inj, cvl ι a = cvl ι' a := by
 intro a
 induction a with
 | nil => intros; rfl
 | cons x l ih =>
  intro h ι ι'
  simp only [List.all_cons, Bool.and_eq_true] at h
  simp only [cvl, cv_plain h.1 ι ι', ih h.2 ι ι']
theorem cv_flat {u : V} (h : flat u = true) (ι ι' : Inj) : cv ι u = cv ι' u := by
 cases u <;> simp only [flat, Bool.false_eq_true] at h <;> simp only [cv]
 ·rw [cvl_plain h ι ι']
 ·rw [cvl_plain h ι ι']
theorem vok_flat {u : V} (h : flat u = true) (H : Heap) : VOk H u := by
 cases u <;> simp only [flat, Bool.false_eq_true] at h <;> first | trivial | exact VsOk_plain H _ h
theorem cvl_flat : ∀ {a : List V}, a.all flat = true → ∀ ι ι' : Inj, cvl ι a = cvl ι' a := by
 intro a
 induction a with
 | nil => intros; rfl
 | cons x l ih =>
  intro h ι ι'
  simp only [List.all_cons, Bool.and_eq_true] at h
  simp only [cvl, cv_flat h.1 ι ι', ih h.2 ι ι']
theorem vsok_flat : ∀ {a : List V}, a.all flat = true → ∀ H : Heap, VsOk H a := by
 intro a
 induction a with
 | nil => intros; trivial
 | cons x l ih =>
  intro h H
  simp only [List.all_cons, Bool.and_eq_true] at h
  exact ⟨vok_flat h.1 H, ih h.2 H⟩
def isK (u : V) : KV := fun v _ _ => bif eqFl u v then doneA else none
theorem isK_some {u v : V} {H : Heap} {τ : Tape} {r : V × Heap × Tape} (h : isK u v H τ = some r) : v = u ∧ flat u = true := by
 unfold isK at h
 cases hb : eqFl u v with
 | true => exact ⟨(eqFl_spec hb).1.symm, (eqFl_spec hb).2⟩
 | false => rw [hb] at h; cases h
theorem primOk_const {P : Program} (hm : P.follows .mixedOrders = true) {F : T Def} (hF : ∀ base w0, T.All (fun f d => DefOk P base w0 f d) F (fun k => k)) {E : T Ent} {N d f : Nat} (ht : TabOk F.get N (tabOf E N)) (hp : plainCall P f = true)
  (n : Nat) (hn : P.globals.size ≤ n) {Pre : List V → Prop} {g : List V → V}
  (h : ∀ vs, Pre vs → vs.all flat = true ∧ ∀ τ, ∃ r, callK (tabOf E N) d f vs (start (List.replicate n none)) τ (isK (g vs)) = some r) (base : Base) (w0 : World) : PrimOk P base w0 f (outP (RV Pre g)) := by
 refine ⟨outP_ev _, fun vs H ι w hM hG hok hn0 => ⟨hp, ?_⟩⟩
 have hPre : Pre vs := by
  have := hn0 (fun _ => 0)
  unfold outP at this
  by_cases hx : ∃ o, RV Pre g vs H o
  ·obtain ⟨o, h1, _⟩ := hx; exact h1
  ·rw [dif_neg hx] at this; exact absurd rfl this
 obtain ⟨hfl, hrun⟩ := h vs hPre
 have hr : ∀ τ, ∃ v H' τ', call F.get N d f vs (start (List.replicate n none)) τ = some (v, H', τ') ∧ (v = g vs ∧ flat (g vs) = true) := by
  intro τ
  obtain ⟨r, hr⟩ := hrun τ
  obtain ⟨v, H', τ', h2, h3⟩ := callK_le ht d f vs _ τ (isK (g vs)) _ hr
  exact ⟨v, H', τ', h2, isK_some h3⟩
 rw [cvl_flat hfl ι (fun id => (id, 0))]
 refine (call_start hm (W := w) (fun f d hd base w0 => defs_ok (hF base w0) f d hd) N d f vs (List.replicate n none) (fun id => (id, 0)) (fun id cs hid => ?_) (fun g _ => rfl) (by simpa using hn) (vsok_flat hfl _) (fun v _ => v = g vs ∧ flat (g vs) = true) hr).mono fun e w' ⟨v, H', ι', he, ⟨hv, hg⟩, hM', _⟩ => ?_
 ·rw [List.getElem?_replicate] at hid
  split at hid <;> cases hid
 ·subst hv
  exact ⟨g vs, H, ι, [], by rw [he, cv_flat hg ι' ι], fun τ => outP_mk (RV_fun Pre g) ⟨hPre, rfl⟩ τ, hM.keep hM'.below.low, Ext.refl _ _, Evol.refl _, vok_flat hg H⟩
end Go.Am

namespace Go.Am
open Go.RowKit (Below)
def RG (st : List (Option (List V))) (Pre : List V → Prop) (g : List V → V) (vs : List V) (H : Heap) (o : Out) : Prop := Pre vs ∧ inH H 0 st = true ∧ o = .val (g vs)
theorem RG_fun (st : List (Option (List V))) (Pre : List V → Prop) (g : List V → V) : Fun1 (RG st Pre g) := fun _ _ _ _ h h' => h.2.2.trans h'.2.2.symm
theorem primOk_constG {P : Program} (hm : P.follows .mixedOrders = true) {F : T Def} (hF : ∀ base w0, T.All (fun f d => DefOk P base w0 f d) F (fun k => k)) {E : T Ent} {N d f : Nat} (ht : TabOk F.get N (tabOf E N)) (hp : plainCall P f = true)
  (st : List (Option (List V))) (hn : P.globals.size = st.length) (hpl : plainL st = true) {Pre : List V → Prop} {g : List V → V}
  (h : ∀ vs, Pre vs → vs.all flat = true ∧ ∀ τ, ∃ r, callK (tabOf E N) d f vs (start st) τ (isK (g vs)) = some r) (base : Base) (w0 : World) : PrimOk P base w0 f (outP (RG st Pre g)) := by
 refine ⟨outP_ev _, fun vs H ι w hM hG hok hn0 => ⟨hp, ?_⟩⟩
 have hPre : Pre vs ∧ inH H 0 st = true := by
  have := hn0 (fun _ => 0)
  unfold outP at this
  by_cases hx : ∃ o, RG st Pre g vs H o
  ·obtain ⟨o, h1, h2, _⟩ := hx; exact ⟨h1, h2⟩
  ·rw [dif_neg hx] at this; exact absurd rfl this
 obtain ⟨hPre, hin⟩ := hPre
 obtain ⟨hfl, hrun⟩ := h vs hPre
 have hget := inH_get st 0 hin
 have hr : ∀ τ, ∃ v H' τ', call F.get N d f vs (start st) τ = some (v, H', τ') ∧ (v = g vs ∧ flat (g vs) = true) := by
  intro τ
  obtain ⟨r, hr⟩ := hrun τ
  obtain ⟨v, H', τ', h2, h3⟩ := callK_le ht d f vs _ τ (isK (g vs)) _ hr
  exact ⟨v, H', τ', h2, isK_some h3⟩
 refine (call_start hm (W := w) (fun f d hd base w0 => defs_ok (hF base w0) f d hd) N d f vs st ι (fun id cs hid => ?_) hG.1 (by omega) (vsok_flat hfl _) (fun v _ => v = g vs ∧ flat (g vs) = true) hr).mono fun e w' ⟨v, H', ι', he, ⟨hv, hg⟩, hM', _⟩ => ?_
 ·refine ⟨VsOk_plain _ _ (plainL_get st hpl id cs hid), ?_⟩
  have hc := hget id cs hid
  rw [Nat.zero_add] at hc
  unfold Heap.cells? at hc
  split at hc
  ·rename_i cs' room fam ver wr pl stp hblk
   split at hc
   ·rename_i fr la hfam
    cases hle : Nat.ble fr ver with
    | false => rw [hle] at hc; cases hc
    | true =>
     rw [hle] at hc
     cases hc
     obtain ⟨c, el, lo, hi, k1, k2, k3, k4⟩ := hM.ok id cs room fam ver wr pl stp fr la hblk hfam (Nat.le_of_ble_eq_true hle)
     have := (hM.cells id cs room fam ver wr pl stp hblk).1
     exact ⟨c, el, lo, hi, k1, by omega, k3, fun h => by cases h⟩
   ·cases hc
  ·cases hc
 ·subst hv
  exact ⟨g vs, H, ι, [], by rw [he, cv_flat hg ι' ι], fun τ => outP_mk (RG_fun st Pre g) ⟨hPre, hin, rfl⟩ τ, hM.keep hM'.below.low, Ext.refl _ _, Evol.refl _, vok_flat hg H⟩
def thenA (a b : Ans) : Ans :=
 match a with
 | some _ => b
 | none => none
def allA {α : Type} (l : List α) (f : α → Ans) : Ans :=
 match l with
 | [] => doneA
 | x :: l => thenA (f x) (allA l f)
theorem allA_some {α : Type} {f : α → Ans} : ∀ {l : List α} {r : V × Heap × Tape}, allA l f = some r → ∀ x ∈ l, ∃ r, f x = some r := by
 intro l
 induction l with
 | nil => intro r _ x hx; cases hx
 | cons a l ih =>
  intro r h x hx
  unfold allA thenA at h
  split at h
  ·rename_i r' he
   rcases List.mem_cons.1 hx with rfl | hx
   ·exact ⟨_, he⟩
   ·exact ih h x hx
  ·cases h
theorem allA_run {α : Type} {l : List α} {f : Tape → α → Ans} (h : (fun τ => allA l (f τ)) = fun _ => doneA) {x : α} (hx : x ∈ l) (τ : Tape) : ∃ r, f τ x = some r :=
 allA_some (show allA l (f τ) = some _ from congrFun h τ) x hx
theorem inH_gr {H H' : Heap} {B : Nat} {st : List (Option (List V))} (h : inH H 0 st = true) (hpl : plainL st = true) (hg : Gr B H H') (hw : WF H) (hB : H.size ≤ B) : inH H' 0 st = true := by
 refine inH_mk st 0 hpl fun j cs hj => ?_
 have hc := inH_get st 0 h j cs hj
 unfold Heap.cells? at hc ⊢
 split at hc
 ·rename_i cs' room fam ver wr pl stp hblk
  split at hc
  ·rename_i fr la hfam
   rw [hg.blk _ (Nat.lt_of_lt_of_le (hw.blk _ _ hblk) hB), hblk]
   simp only
   rw [hg.fams _ (Nat.lt_of_lt_of_le (hw.fams _ _ hfam) hB), hfam]
   exact hc
  ·cases hc
 ·cases hc
end Go.Am

namespace Go.Am
theorem Rd.cut {H : Heap} {z : Nat} {v : V} {n : Nat} {cs : List V} (h : Rd H z v n cs) (hs : Src H v) (hr : Roomy v) {l k : Nat} (hl : l ≤ k) (hk : k ≤ n) :
  ∃ v', pSlSlice z true true false [v, .int .i64 (l : Int), .int .i64 (k : Int)] = some v' ∧ Roomy v' ∧ Src H v' ∧ Rd H z v' (k - l) ((cs.take (k * z)).drop (l * z)) := by
 have key : ∀ {id off lo ex}, v = .sl id off n lo ex z → ∃ v', pSlSlice z true true false [v, .int .i64 (l : Int), .int .i64 (k : Int)] = some v' ∧ Roomy v' ∧ Src H v' ∧ Rd H z v' (k - l) ((cs.take (k * z)).drop (l * z)) := by
  rintro id off lo ex rfl
  obtain ⟨off', lo', ex', e1, e2, e3⟩ := cut_mk (id := id) (off := off) (z := z) hr hl hk
  refine ⟨_, e1, e3, hs, ?_⟩
  have hlen := h.len
  rcases h with ⟨_, h0, rfl⟩ | ⟨id', off'', lo'', ex'', all, q0, q1, q2, q3⟩
  ·exact .inl ⟨.inr ⟨id, off', lo', ex', by rw [show k - l = 0 by omega]⟩, by omega, by simp⟩
  ·cases q0
   by_cases hlt : l < k
   ·have e2 := e2 hlt
    subst e2
    have hmin : k * z ≤ n * z := Nat.mul_le_mul_right _ hk
    refine .inr ⟨id, _, _, _, all, rfl, q1, ?_, ?_⟩
    ·rw [q2, List.take_take, Nat.min_eq_left hmin, List.drop_take, List.drop_drop, Nat.sub_mul]
    ·rw [List.length_drop, List.length_take, hlen, Nat.min_eq_left hmin, Nat.sub_mul]
   ·refine .inl ⟨.inr ⟨id, off', lo', ex', by rw [show k - l = 0 by omega]⟩, by omega, ?_⟩
    rw [List.drop_eq_nil_of_le]
    rw [List.length_take, hlen, Nat.min_eq_left (Nat.mul_le_mul_right _ hk)]
    exact Nat.mul_le_mul_right _ (by omega)
 rcases h with ⟨rfl | ⟨id, off, lo, ex, rfl⟩, rfl, rfl⟩ | ⟨id, off, lo, ex, all, rfl, _, _, h4⟩
 ·obtain rfl : l = 0 := by omega
  obtain rfl : k = 0 := by omega
  exact ⟨.nils, rfl, trivial, trivial, .inl ⟨.inl rfl, rfl, by simp⟩⟩
 ·exact key rfl
 ·exact key rfl
theorem append_none {H : Heap} {id m z bytes n : Nat} {old new : List V} (hl : H.loads id 0 (m * z) = some old) (hn : 0 < n) (h1 : (m + n) * bytes ≤ 140737488355328) (h2 : m + n ≤ 140737488355328) (τ : Tape) :
  append H z bytes (.sl id 0 m m none z) n new τ = some (.sl H.size 0 (m + n) (m + n) (some (spare (m + n) (τ 0))) z, H.new (old ++ new) ((m + n + spare (m + n) (τ 0)) * z) false, τ.tail) := by
 have e3 : Nat.ble (m + n) m = false := by
  cases hb : Nat.ble (m + n) m with
  | false => rfl
  | true => have := Nat.le_of_ble_eq_true hb; omega
 simp only [append, Nat.beq_refl, cond_true, e3, cond_false, Nat.ble_eq_true_of_le h1, Nat.ble_eq_true_of_le h2, Bool.and_self, hl, fresh]
def BodP (P : Nat → Prop) (H : Heap) (v : V) (n : Nat) (cs : List V) : Prop :=
 (v = .nils ∧ n = 0 ∧ cs = []) ∨ ∃ id lo ex room fam ver pl st fr, v = .sl id 0 n lo ex 1 ∧ H.blk.get id = some (.mem cs room fam ver true pl st) ∧ H.fams.get fam = some (fr, ver) ∧ fr ≤ ver ∧ P id ∧ P fam ∧
  cs.length = n ∧ n ≤ lo + ex.getD 0 ∧ lo + ex.getD 0 ≤ room ∧ lo + ex.getD 0 < 9223372036854775808
theorem BodP.nil (P : Nat → Prop) (H : Heap) : BodP P H .nils 0 [] := .inl ⟨rfl, rfl, rfl⟩
theorem BodP.cells {P : Nat → Prop} {H : Heap} {id n lo : Nat} {ex : Option Nat} {cs : List V} (h : BodP P H (.sl id 0 n lo ex 1) n cs) : H.cells? id = some cs := by
 rcases h with ⟨h, _⟩ | ⟨id', lo', ex', room, fam, ver, pl, st, fr, e, h1, h2, h3, _⟩
 ·cases h
 ·cases e
  simp only [Heap.cells?, h1, h2]
  rw [show Nat.ble fr ver = true from Nat.ble_eq_true_of_le h3]
  rfl
theorem BodP.rd {P : Nat → Prop} {H : Heap} {v : V} {n : Nat} {cs : List V} (h : BodP P H v n cs) : Rd H 1 v n cs := by
 have h0 := h
 rcases h with ⟨rfl, rfl, rfl⟩ | ⟨id, lo, ex, room, fam, ver, pl, st, fr, rfl, h1, h2, h3, h4, h5, h6, _⟩
 ·exact .inl ⟨.inl rfl, rfl, rfl⟩
 ·exact .inr ⟨id, 0, lo, ex, cs, rfl, h0.cells, by rw [List.drop_zero, Nat.mul_one, ← h6, List.take_length], by omega⟩
theorem BodP.src {P : Nat → Prop} {H : Heap} {v : V} {n : Nat} {cs : List V} (h : BodP P H v n cs) : Src H v := by
 have h0 := h
 rcases h with ⟨rfl, rfl, rfl⟩ | ⟨id, lo, ex, room, fam, ver, pl, st, fr, rfl, _⟩
 ·trivial
 ·exact ⟨_, h0.cells⟩
theorem BodP.roomy {P : Nat → Prop} {H : Heap} {v : V} {n : Nat} {cs : List V} (h : BodP P H v n cs) : Roomy v := by
 rcases h with ⟨rfl, rfl, rfl⟩ | ⟨id, lo, ex, room, fam, ver, pl, st, fr, rfl, h1, h2, h3, h4, h5, h6, h7, _⟩
 ·trivial
 ·exact within_iff.2 (.inr h7)
theorem BodP.scal {P : Nat → Prop} {H : Heap} {v : V} {n : Nat} {cs : List V} (h : BodP P H v n cs) : v.cells = [v] ∧ v.scal = true := by
 rcases h with ⟨rfl, _⟩ | ⟨id, lo, ex, room, fam, ver, pl, st, fr, rfl, _⟩ <;> exact ⟨rfl, rfl⟩
theorem BodP.chg {P Q : Nat → Prop} {H H' : Heap} {v : V} {n : Nat} {cs : List V} (h : BodP P H v n cs) (hw : WF H) (hg : Chg Q H H') (hPQ : ∀ i, i < H.size → P i → ¬ Q i) : BodP P H' v n cs := by
 rcases h with h | ⟨id, lo, ex, room, fam, ver, pl, st, fr, e, h1, h2, h3, h4, h5, h6⟩
 ·exact .inl h
 ·exact .inr ⟨id, lo, ex, room, fam, ver, pl, st, fr, e, by rw [hg.blk id (hw.blk _ _ h1) (hPQ _ (hw.blk _ _ h1) h4)]; exact h1, by rw [hg.fams fam (hw.fams _ _ h2) (hPQ _ (hw.fams _ _ h2) h5)]; exact h2, h3, h4, h5, h6⟩
theorem BodP.weaken {P Q : Nat → Prop} {H : Heap} {v : V} {n : Nat} {cs : List V} (h : BodP P H v n cs) (hw : WF H) (hPQ : ∀ i, i < H.size → P i → Q i) : BodP Q H v n cs := by
 rcases h with h | ⟨id, lo, ex, room, fam, ver, pl, st, fr, e, h1, h2, h3, h4, h5, h6⟩
 ·exact .inl h
 ·exact .inr ⟨id, lo, ex, room, fam, ver, pl, st, fr, e, h1, h2, h3, hPQ _ (hw.blk _ _ h1) h4, hPQ _ (hw.fams _ _ h2) h5, h6⟩
theorem clone1 {H : Heap} {v : V} {n : Nat} {cs : List V} (hw : WF H) (hr : Rd H 1 v n cs) (hs : Src H v) (hn : n ≤ 140737488355328) (τ : Tape) :
  ∃ v' H' τ', eAppend 1 1 [.sl H.size 0 0 0 none 1, v] (H.new [] 0 false) τ = some (v', H', τ') ∧ BodP (fun i => H.size ≤ i) H' v' n cs ∧ Gr H.size H H' := by
 have hc : Bx (H.new [] 0 false) H.size [] := Bx.new H [] 0 false (Nat.le_refl _)
 have g1 : Gr H.size H (H.new [] 0 false) := Gr.new hw _ _ _
 generalize hH1 : H.new [] 0 false = H1 at hc g1
 have z1 : H1.size = H.size + 1 := hH1 ▸ rfl
 have hr1 := hr.gr g1 hw (Nat.le_refl _)
 have hs1 := hs.gr g1 hw (Nat.le_refl _)
 have hlen := hr.len
 cases n with
 | zero =>
  have hE : Emp H1 H.size (.sl H.size 0 0 0 none 1) := ⟨H.size, rfl, hc.cells, Nat.le_refl _⟩
  obtain ⟨v', H', τ', r1, r2, r3⟩ := hE.append (bytes := 1) g1.wf g1.size hr1 hs1 (by omega) hn τ
  rcases r2 with ⟨_, h0⟩ | ⟨_, rfl, rfl, rfl⟩
  ·omega
  ·obtain ⟨room, ver, pl, st, fr, k1, k2, k3, _⟩ := hc
   exact ⟨_, _, τ', r1, .inr ⟨H.size, 0, none, room, H.size, ver, pl, st, fr, rfl, k1, k2, k3, Nat.le_refl _, Nat.le_refl _, rfl, Nat.le_refl _, Nat.zero_le _, by simp⟩, g1⟩
 | succ m =>
  have l0 : H1.loads H.size 0 (0 * 1) = some [] := by
   have := loads_cells (n := 0) (off := 0) hc.cells (by simp)
   simpa using this
  have hap := append_none (z := 1) (bytes := 1) (n := m + 1) (new := cs) l0 (by omega) (by omega) (by omega) τ
  rcases hr1 with ⟨_, h0, _⟩ | ⟨id', off, lo, ex, all, rfl, k1, k2, k3⟩
  ·omega
  ·have hload : H1.loads id' off ((m + 1) * 1) = some cs := by
    simp only [Heap.loads, k1]
    rw [takeN_all, ← k2]
    have := congrArg List.length k2
    rw [k3, List.length_take] at this
    omega
   refine ⟨_, H1.new cs ((m + 1 + spare (m + 1) (τ 0)) * 1) false, τ.tail, ?_, .inr ⟨H1.size, m + 1, some (spare (m + 1) (τ 0)), _, H1.size, 0, false, 0, 0, rfl, T.get_set_same _ _ _, T.get_set_same _ _ _, Nat.le_refl _, by omega, by omega, by omega, by simp, by simp, ?_⟩, g1.trans (Gr.new g1.wf _ _ _) (by omega)⟩
   ·simp only [eAppend, srcLen, srcCells, Nat.beq_refl, cond_true, hload]
    simpa using hap
   ·have : spare (m + 1) (τ 0) < 9223372036854775808 - (m + 1) := Nat.mod_lt _ (by omega)
    simp only [Option.getD_some]; omega
end Go.Am

namespace Go.Am
open Go.RowKit (Below)
open Go.Proofs (encStr)
open Go.WideElems (Fit rg rd)
theorem MRel.place {ι : Inj} {base : Base} {w0 w w1 : World} {H : Heap} (h : MRel ι base w0 H w) (hb1 : Below w.heap.size w w1) {g : Nat} (hg1 : w.heap.size ≤ g) (cells : List V) (room : Nat) (pl : Bool) (c : Array Value) (el : TypeId)
  (hheap' : w1.heap[g]? = some (.cells c el (0, 0))) (hvs : VsOk H cells) (hlen : cells.length ≤ room) (hsz : room ≤ c.size) (hc : ∀ (j : Nat) (v : V), cells[j]? = some v → c[j]? = some (cv ι v)) :
  MRel (upd ι H.size (g, 0)) base w0 (H.new cells room pl) w1 := by
 have hev := Evol.new h cells room pl
 have hext := Ext.upd H ι (g, 0)
 have hheap : ∀ b, b < w.heap.size → w1.heap[b]? = w.heap[b]? := hb1.block
 have part : ∀ id cs r fam ver wr p st, (H.new cells room pl).blk.get id = some (.mem cs r fam ver wr p st) →
   (id = H.size ∧ cs = cells ∧ r = room ∧ fam = H.size ∧ ver = 0 ∧ wr = true) ∨ (id < H.size ∧ fam < H.size ∧ H.blk.get id = some (.mem cs r fam ver wr p st)) := by
  intro id cs r fam ver wr p st hg
  by_cases e : id = H.size
  ·subst e
   rw [get_new_new] at hg
   injection hg with hg
   injection hg with h1 h2 h3 h4 h5 h6 h7
   exact .inl ⟨rfl, h1.symm, h2.symm, h3.symm, h4.symm, h5.symm⟩
  ·rw [get_new_old e] at hg
   exact .inr ⟨h.lt _ _ hg, (h.fam _ _ _ _ _ _ _ _ hg).1, hg⟩
 have famOld : ∀ f, f < H.size → (H.new cells room pl).fams.get f = H.fams.get f := fun f hf => by rw [fams_new, if_neg (by omega)]
 have oldBlk : ∀ id cs r fam ver wr p st fr la, H.blk.get id = some (.mem cs r fam ver wr p st) → H.fams.get fam = some (fr, la) → fr ≤ ver → (ι id).1 < w.heap.size :=
  fun id cs r fam ver wr p st fr la h1 h2 h3 => (h.ok id cs r fam ver wr p st fr la h1 h2 h3).block_lt
 refine ⟨h.below.keep h.base_le hb1, Nat.le_trans h.base_le hb1.size, ?_, ?_, ?_, ?_, ?_, ?_, ?_, ?_, ?_, ?_, ?_, ?_, ?_, ?_, ?_⟩
 ·intro id b hg
  by_cases e : id = H.size
  ·subst e; exact Nat.lt_succ_self _
  ·rw [get_new_old e] at hg; exact Nat.lt_succ_of_lt (h.lt _ _ hg)
 ·intro id cs r fam ver wr p st hg
  rcases part _ _ _ _ _ _ _ _ hg with ⟨rfl, _, _, rfl, rfl, _⟩ | ⟨_, hf, hg⟩
  ·exact ⟨Nat.lt_succ_self _, 0, 0, by rw [fams_new, if_pos rfl], Nat.le_refl _⟩
  ·obtain ⟨_, fr, la, h1, h2⟩ := h.fam _ _ _ _ _ _ _ _ hg
   exact ⟨Nat.lt_succ_of_lt hf, fr, la, by rw [famOld _ hf]; exact h1, h2⟩
 ·intro id cs r fam ver wr p st hg
  rcases part _ _ _ _ _ _ _ _ hg with ⟨rfl, rfl, rfl, _⟩ | ⟨_, _, hg⟩
  ·exact ⟨hlen, hvs.mono hev⟩
  ·obtain ⟨h1, h2⟩ := h.cells _ _ _ _ _ _ _ _ hg
   exact ⟨h1, h2.mono hev⟩
 ·intro id cs r fam ver wr p st fr la hg hf hv
  rcases part _ _ _ _ _ _ _ _ hg with ⟨rfl, rfl, rfl, _, _, rfl⟩ | ⟨hid, hf', hg⟩
  ·refine ⟨c, el, 0, 0, by rw [upd_same]; exact hheap', by rw [upd_same]; simpa using hsz, fun j v hv => ?_, fun _ => ?_⟩
   ·rw [upd_same, cv_congr hext v ((VsOk_iff H cs).1 hvs v (List.mem_of_getElem? hv))]
    simpa using hc j v hv
   ·rw [upd_same]; exact ⟨Nat.le_trans h.base_le hg1, .inl rfl⟩
  ·rw [famOld _ hf'] at hf
   have hk := h.ok _ _ _ _ _ _ _ _ _ _ hg hf hv
   exact hk.keep (hheap _ hk.block_lt) (upd_ne ι _ (by omega)) hext (h.cells _ _ _ _ _ _ _ _ hg).2
 ·intro i cs r fam ver p st fr la j cs' r' fam' ver' wr' p' st' fr' la' hi hfi hvi hj hfj hvj he
  rcases part _ _ _ _ _ _ _ _ hi with ⟨rfl, _, _, rfl, _⟩ | ⟨hid, hf, hi⟩
  ·rcases part _ _ _ _ _ _ _ _ hj with ⟨rfl, _, _, rfl, _⟩ | ⟨hjd, hf', hj⟩
   ·rfl
   ·rw [famOld _ hf'] at hfj
    have := oldBlk _ _ _ _ _ _ _ _ _ _ hj hfj hvj
    rw [upd_same, upd_ne ι _ (by omega)] at he
    omega
  ·rw [famOld _ hf] at hfi
   rcases part _ _ _ _ _ _ _ _ hj with ⟨rfl, _, _, rfl, _⟩ | ⟨hjd, hf', hj⟩
   ·have := oldBlk _ _ _ _ _ _ _ _ _ _ hi hfi hvi
    rw [upd_same, upd_ne ι _ (by omega)] at he
    omega
   ·rw [famOld _ hf'] at hfj
    rw [upd_ne ι _ (by omega), upd_ne ι _ (by omega)] at he
    exact h.sep _ _ _ _ _ _ _ _ _ _ _ _ _ _ _ _ _ _ _ hi hfi hvi hj hfj hvj he
 ·intro i cs r fam ver wr p st j cs' r' wr' p' st' hi hj
  rcases part _ _ _ _ _ _ _ _ hi with ⟨rfl, _, _, rfl, _⟩ | ⟨hid, hf, hi⟩
  ·rcases part _ _ _ _ _ _ _ _ hj with ⟨rfl, _⟩ | ⟨_, hf', _⟩
   ·rfl
   ·omega
  ·rcases part _ _ _ _ _ _ _ _ hj with ⟨_, _, _, rfl, _⟩ | ⟨_, _, hj⟩
   ·omega
   ·exact h.ver _ _ _ _ _ _ _ _ _ _ _ _ _ _ hi hj
 ·intro id s pos hg
  by_cases e : id = H.size
  ·subst e; rw [get_new_new] at hg; cases hg
  ·rw [get_new_old e] at hg
   obtain ⟨ha, hz, hb⟩ := h.iter _ _ _ hg
   rw [upd_ne ι _ e]
   exact ⟨ha, hz, by rw [hheap _ (Array.getElem?_eq_some_iff.1 hb).1]; exact hb⟩
 ·intro f x hg
  rw [fams_new] at hg
  by_cases e : H.size = f
  ·subst e; exact Nat.lt_succ_self _
  ·rw [if_neg e] at hg; exact Nat.lt_succ_of_lt (h.famlt _ _ hg)
 ·intro i cs r fam ver wr p st fr la j cs' r' ver' wr' p' st' hi hf hvi hj hvj he hle
  rcases part _ _ _ _ _ _ _ _ hi with ⟨rfl, rfl, _, rfl, _⟩ | ⟨hid, hf', hi⟩
  ·rcases part _ _ _ _ _ _ _ _ hj with ⟨rfl, rfl, _⟩ | ⟨_, hf'', _⟩
   ·exact Nat.le_refl _
   ·omega
  ·rcases part _ _ _ _ _ _ _ _ hj with ⟨_, _, _, rfl, _⟩ | ⟨hjd, _, hj⟩
   ·omega
   ·rw [famOld _ hf'] at hf
    rw [upd_ne ι _ (by omega), upd_ne ι _ (by omega)] at he ⊢
    exact h.ends _ _ _ _ _ _ _ _ _ _ _ _ _ _ _ _ _ hi hf hvi hj hvj he hle
 ·intro i s p j s' p' hi hj he
  have hi' : i ≠ H.size := fun e => by subst e; rw [get_new_new] at hi; cases hi
  have hj' : j ≠ H.size := fun e => by subst e; rw [get_new_new] at hj; cases hj
  rw [get_new_old hi'] at hi
  rw [get_new_old hj'] at hj
  rw [upd_ne ι _ hi', upd_ne ι _ hj'] at he
  exact h.isep _ _ _ _ _ _ hi hj he
 ·intro id cs r fam ver wr p st fr la hg hf hv
  rcases part _ _ _ _ _ _ _ _ hg with ⟨rfl, _⟩ | ⟨hid, hf', hg⟩
  ·rw [upd_same]; exact fun hm => absurd (h.below.gh _ hm).1 (by simp only; omega)
  ·rw [famOld _ hf'] at hf
   rw [upd_ne ι _ (by omega)]
   exact h.gh _ _ _ _ _ _ _ _ _ _ hg hf hv
 ·intro id cs r fam ver wr st fr la hg hf hv hw
  rcases part _ _ _ _ _ _ _ _ hg with ⟨rfl, _⟩ | ⟨hid, hf', hg⟩
  ·rw [upd_same]; exact ⟨c, el, 0, hheap'⟩
  ·rw [famOld _ hf'] at hf
   rw [upd_ne ι _ (by omega)]
   obtain ⟨c', el', lo', e⟩ := h.plok _ _ _ _ _ _ _ _ _ hg hf hv hw
   exact ⟨c', el', lo', by rw [hheap _ (Array.getElem?_eq_some_iff.1 e).1]; exact e⟩
 ·intro i cs r fam ver wr p st j cs' r' ver' wr' p' st' hi hj
  by_cases ei : i = H.size
  ·subst ei
   rw [get_new_new] at hi
   injection hi with hi
   injection hi with _ _ e3 _ _ e6 _
   by_cases ej : j = H.size
   ·subst ej
    rw [get_new_new] at hj
    injection hj with hj
    injection hj with _ _ _ _ _ e6' _
    rw [← e6, ← e6']
   ·rw [get_new_old ej] at hj
    have := (h.fam _ _ _ _ _ _ _ _ hj).1
    omega
  ·rw [get_new_old ei] at hi
   by_cases ej : j = H.size
   ·subst ej
    rw [get_new_new] at hj
    injection hj with hj
    injection hj with _ _ e3 _ _ _ _
    have := (h.fam _ _ _ _ _ _ _ _ hi).1
    omega
   ·rw [get_new_old ej] at hj
    exact h.plfam _ _ _ _ _ _ _ _ _ _ _ _ _ _ _ hi hj
 ·intro id es clk hg
  by_cases e : id = H.size
  ·subst e; rw [get_new_new] at hg; cases hg
  ·rw [get_new_old e] at hg
   obtain ⟨a, ⟨ents, clock, b, k⟩, d⟩ := h.maps _ _ _ hg
   rw [upd_ne ι _ e]
   exact ⟨a, ⟨ents, clock, by rw [hheap _ (Array.getElem?_eq_some_iff.1 b).1]; exact b, k.ext (H := H) hext d⟩, fun p hp => (d p hp).mono hev⟩
 ·intro i es c1 j es' c2 hi hj he
  have hi' : i ≠ H.size := fun e => by subst e; rw [get_new_new] at hi; cases hi
  have hj' : j ≠ H.size := fun e => by subst e; rw [get_new_new] at hj; cases hj
  rw [get_new_old hi'] at hi
  rw [get_new_old hj'] at hj
  rw [upd_ne ι _ hi', upd_ne ι _ hj'] at he
  exact h.msep _ _ _ _ _ _ hi hj he
def keysE (es : List (List UInt8 × V × Nat)) : List (List UInt8) := es.map (·.1)
theorem MapR.keysP {ι : Inj} {es : List (List UInt8 × V × Nat)} {clk : Option Nat} {ents : Array MapEntry} {clock : Nat} (h : MapR ι es clk ents clock) : (ents.toList.map (·.key)).Perm ((keysE es).map encStr) := by
 cases clk with
 | none =>
  have := h.keys rfl
  rw [keysE, List.map_map]
  exact this
 | some c =>
  have := (h.rows c rfl).2
  have e : ents.toList.map (·.key) = (keysE es).map encStr := by
   have h1 : (ents.toList.map fun e => (e.key, e.val, e.born)).map (·.1) = (es.map fun p => (Value.string ⟨p.1.toArray⟩, cv ι p.2.1, p.2.2)).map (·.1) := by rw [this]
   rw [List.map_map, List.map_map] at h1
   rw [keysE, List.map_map]
   exact h1
  rw [e]
theorem MapR.nodup {ι : Inj} {es : List (List UInt8 × V × Nat)} {clk : Option Nat} {ents : Array MapEntry} {clock : Nat} (h : MapR ι es clk ents clock) : (keysE es).Nodup := by
 have h1 := h.stamped.2.2
 have h2 := h.keysP.nodup_iff.1 h1
 exact (List.pairwise_map.1 h2).imp fun hne e => hne (by rw [e])
end Go.Am

