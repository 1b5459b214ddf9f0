/- The abstract machine, printed functions of the program, and what they are shown to be. -/
import Derived.Test.YtlpedafppdffoaaDoorFKEM4
import Derived.JoinedOf
import Derived.Maps.Own
import Derived.Maps.Ext
import Derived.Maps.Range
import Derived.Sort.KeysCollected
import Derived.Lib.SlMapMerge
set_option linter.unusedSimpArgs false
set_option linter.unusedVariables false
namespace Go.Am
theorem TailP.scal {P : Nat → Prop} {H : Heap} {v : V} {vs : List V} (h : TailP P H v vs) : v.cells = [v] ∧ v.scal = true := by
 rcases h with ⟨rfl, _⟩ | ⟨id, off, e, all, room, fam, ver, pl, st, fr, rfl, _⟩ <;> exact ⟨rfl, rfl⟩
theorem TailP.push {P : Nat → Prop} {H : Heap} {bytes : Nat} {v : V} {vs : List V} (h : TailP P H v vs) (hw : WF H) (x zero : V) (hx : x.cells = [x]) (hs : x.scal = true)
  (h1 : (vs.length + 1) * bytes ≤ 140737488355328) (h2 : vs.length + 1 ≤ 140737488355328) (τ : Tape) :
  ∃ w H1 v' H', eBuildSlice 1 1 [zero] [(0, 1)] [x] H τ = some (w, H1, τ) ∧ eAppend 1 bytes [v, w] H1 τ = some (v', H', τ.tail) ∧ TailP (fun i => (i < H.size ∧ P i) ∨ H.size ≤ i) H' v' (vs ++ [x]) ∧ Chg P H H' ∧ (∀ id cs, H.cells? id = some cs → H'.cells? id = some cs) ∧ Gr H.size H H1 ∧ Chg P H1 H' := by
 have g1 := Gr.new hw [x] 1 false
 have o1 : TailP (fun i => i < H.size ∧ P i) (H.new [x] 1 false) v vs := by
  refine (h.weaken (Q := fun i => i < H.size ∧ P i) hw fun i hi hp => ⟨hi, hp⟩).chg hw (g1.chg (P := fun _ => False)) fun _ _ _ => not_false
 obtain ⟨v', H', r1, r2, r3, r4⟩ := o1.append (bytes := bytes) g1.wf x hs h1 h2 τ
 refine ⟨.sl H.size 0 1 1 none 1, H.new [x] 1 false, v', H', ?_, ?_, ?_, ?_, fun id cs hc => r4 id cs (g1.cells hw (Nat.le_refl _) hc), g1, r3.weaken fun i _ h => h.2⟩
 ·simp only [eBuildSlice, fillC, hx]; rfl
 ·have hl : (H.new [x] 1 false).loads H.size 0 (1 * 1) = some [x] := by
   have := loads_cells (n := 1) (off := 0) (cells_new H [x] 1 false) (by simp)
   simpa using this
  simp only [eAppend, srcLen, srcCells, Nat.beq_refl, cond_true, hl, r1]
 ·refine r2.weaken r3.wf fun i _ hi => ?_
  rcases hi with ⟨_, h⟩ | h
  ·exact .inl h
  ·exact .inr (by have := g1.size; omega)
 ·exact (g1.chg (P := P)).trans r3 fun i _ h => h.2
theorem RoomZ.copy {P : Nat → Prop} {H : Heap} {v : V} {z cap n : Nat} {l : List V} (h : RoomZ P H v z cap l) (hn : l.length = n * z) (hl : pLen [v] = some (.int .i64 (n : Int))) (hw : WF H) (bytes : Nat) (hs : l.all V.scal = true) (h1 : n * bytes ≤ 140737488355328) (h2 : n ≤ 140737488355328) (τ : Tape) :
  ∃ w H' τ', eAppend z bytes [.nils, v] H τ = some (w, H', τ') ∧ OwnP (fun i => H.size ≤ i) H' z w n l ∧ Gr H.size H H' := by
 obtain ⟨hr, hsr⟩ := h.rd hn hl
 obtain ⟨e1, e2⟩ := hr.loads hsr
 by_cases h0 : n = 0
 ·subst h0
  have : l = [] := List.eq_nil_of_length_eq_zero (by omega)
  subst this
  refine ⟨.nils, H, τ, ?_, OwnP.nil _ _ _, Gr.refl hw⟩
  simp only [eAppend, e1, e2]
  rfl
 ·obtain ⟨w, H', r1, r2, r3, _⟩ := (OwnP.nil (fun _ => False) H z).append (bytes := bytes) hw n l (by omega) hn hs (by rw [Nat.zero_add]; exact h1) (by omega) τ
  refine ⟨w, H', τ.tail, ?_, ?_, r3.gr (Nat.le_refl _) fun _ _ h => h⟩
  ·simp only [eAppend, e1, e2]; exact r1
  ·have := r2.weaken (Q := fun i => H.size ≤ i) r3.wf fun i _ h => by rcases h with ⟨_, h⟩ | h; exact h.elim; exact h
   simpa using this
end Go.Am

namespace Go.Am
abbrev Lab := Nat → Nat × Nat
def selL (b : Nat) (L : Lab) : Nat → Nat := fun i => if (L i).1 = b then (L i).2 else 0
def labN (L : Lab) (n b m : Nat) : Lab := fun i => if n ≤ i then (b, m) else L i
theorem labN_lt (L : Lab) {n i : Nat} (b m : Nat) (h : i < n) : labN L n b m i = L i := if_neg (by omega)
theorem labN_ge (L : Lab) {n i : Nat} (b m : Nat) (h : n ≤ i) : labN L n b m i = (b, m) := if_pos h
theorem selL_eq {b : Nat} {L L' : Lab} {i : Nat} (h : L' i = L i) : selL b L' i = selL b L i := by unfold selL; rw [h]
theorem selL_ne {b : Nat} {L : Lab} {i : Nat} (h : selL b L i ≠ 0) : (L i).1 = b ∧ (L i).2 = selL b L i := by
 unfold selL at h ⊢
 split at h
 ·rename_i e; rw [if_pos e]; exact ⟨e, rfl⟩
 ·exact absurd rfl h
theorem selL_at {b m : Nat} {L : Lab} {i : Nat} (h : L i = (b, m)) : selL b L i = m := by unfold selL; rw [h]; simp
abbrev Of (L : Lab) (b : Nat) : Nat → Prop := fun i => (L i).1 = b ∧ (L i).2 ≠ 0
abbrev OfB (L : Lab) (b : Nat) : Nat → Prop := fun i => (L i).1 = b ∧ (L i).2 ≠ 0 ∧ (L i).2 ≤ 3
theorem BookZ.grL {z b : Nat} {L L' : Lab} {H H1 : Heap} {K : Nat} {its : List ItZ} (h : BookZ z (selL b L) H K its) (hw : WF H) (g : Gr H.size H H1) (hl : ∀ i, i < H.size → L' i = L i) : BookZ z (selL b L') H1 K its :=
 h.chg hw (g.chg (P := fun _ => False)) (fun _ _ q => q.elim) fun i hi => selL_eq (hl i hi)
def LstZ (L : Lab) (b key : Nat) (H : Heap) (v : V) (z cap n : Nat) (cs : List V) : Prop :=
 RoomZ (fun i => L i = (b, 2 * key + 4)) H v z cap cs ∧ cs.length = n * z ∧ pLen [v] = some (.int .i64 (n : Int)) ∧ cap < 9223372036854775808
theorem LstZ.chg {L L' : Lab} {b key : Nat} {Q : Nat → Prop} {H H1 : Heap} {v : V} {z cap n : Nat} {cs : List V} (h : LstZ L b key H v z cap n cs) (hw : WF H) (g : Chg Q H H1) (hQ : ∀ i, i < H.size → L i = (b, 2 * key + 4) → ¬ Q i) (hl : ∀ i, i < H.size → L' i = L i) : LstZ L' b key H1 v z cap n cs := by
 obtain ⟨a, c⟩ := h
 refine ⟨?_, c⟩
 have := (a.weaken (Q := fun i => i < H.size ∧ L' i = (b, 2 * key + 4)) hw fun i hi e => ⟨hi, by rw [hl i hi]; exact e⟩).chg hw g fun i hi e => hQ i hi (by rw [← hl i hi]; exact e.2)
 exact this.weaken g.wf fun i _ e => e.2
theorem LstZ.grL {L L' : Lab} {b key : Nat} {H H1 : Heap} {v : V} {z cap n : Nat} {cs : List V} (h : LstZ L b key H v z cap n cs) (hw : WF H) (g : Gr H.size H H1) (hl : ∀ i, i < H.size → L' i = L i) : LstZ L' b key H1 v z cap n cs :=
 h.chg hw (g.chg (P := fun _ => False)) (fun _ _ _ => not_false) hl
theorem LstZ.kept {L L' : Lab} {b b' key : Nat} {H H1 : Heap} {v : V} {z cap n : Nat} {cs : List V} (h : LstZ L b key H v z cap n cs) (hw : WF H) (g : Chg (OfB L b') H H1) (hl : ∀ i, i < H.size → L' i = L i) : LstZ L' b key H1 v z cap n cs :=
 h.chg hw g (fun i _ e q => by have := q.2.2; rw [e] at this; simp only at this; omega) hl
theorem LstZ.new {H H1 : Heap} {v : V} {z cap n : Nat} {cs : List V} (h : RoomZ (fun i => H.size ≤ i) H1 v z cap cs) (hw : WF H1) (hn : cs.length = n * z) (hp : pLen [v] = some (.int .i64 (n : Int))) (hc : cap < 9223372036854775808) (L : Lab) (b key : Nat) : LstZ (labN L H.size b (2 * key + 4)) b key H1 v z cap n cs :=
 ⟨h.weaken hw fun i _ e => labN_ge L _ _ e, hn, hp, hc⟩
theorem LstZ.rd {L : Lab} {b key : Nat} {H : Heap} {v : V} {z cap n : Nat} {cs : List V} (h : LstZ L b key H v z cap n cs) : Rd H z v n cs ∧ Src H v := h.1.rd h.2.1 h.2.2.1
def KeepZ (c : CallK) (f z : Nat) (Good : List V → Nat → Prop) : Prop :=
 ∀ (L : Lab) (b K : Nat) (its : List ItZ) (H : Heap) (x : V) (cap n : Nat) (cs : List V) (key : Nat), WF H → BookZ z (selL b L) H K its → key ∉ its.map ItZ.key → LstZ L b key H x z cap n cs → cs.all V.scal = true → n < 1000000000 → its.length + 1 < 1000000 →
  (∀ it ∈ its, Good it.cs it.n) → Good cs n → ∀ τ, ∃ its' H' τ' L', BookZ z (selL b L') H' K its' ∧ (∀ it ∈ its', it ∈ its ∨ (it.key = key ∧ it.cs = cs ∧ it.n = n)) ∧ its'.length ≤ its.length + 1 ∧ Chg (OfB L b) H H' ∧ (∀ i, i < H.size → L' i = L i) ∧ ∀ q, c f [.ptr K 0, x] H τ q = q (.tup []) H' τ'
theorem KeepZ.mk {c : CallK} {f z : Nat} {Good : List V → Nat → Prop}
  (h : ∀ (lab : Nat → Nat) (H : Heap), WF H → ∀ (K : Nat) (its : List ItZ), BookZ z lab H K its → ∀ (x : V) (cap n : Nat) (cs : List V) (key : Nat), key ∉ its.map ItZ.key → RoomZ (fun i => lab i = 2 * key + 4) H x z cap cs → cs.length = n * z → pLen [x] = some (.int .i64 (n : Int)) → cap < 9223372036854775808 → cs.all V.scal = true → n < 1000000000 → its.length + 1 < 1000000 →
   (∀ it ∈ its, Good it.cs it.n) → Good cs n → ∀ τ, ∃ its' H' τ' lab', BookZ z lab' H' K its' ∧ ((∀ it ∈ its', it ∈ its ∨ (it.key = key ∧ it.cs = cs ∧ it.n = n)) ∧ its'.length ≤ its.length + 1) ∧ Chg (fun i => lab i = 1 ∨ lab i = 2 ∨ lab i = 3) H H' ∧ (∀ i, i < H.size → lab' i = lab i) ∧ ∀ q, c f [.ptr K 0, x] H τ q = q (.tup []) H' τ') : KeepZ c f z Good := by
 intro L b K its H x cap n cs key hw hb hk hx hs hn hits hg hg' τ
 obtain ⟨x1, x2, x3, x4⟩ := hx
 obtain ⟨its', H', τ', lab', h1, h2, h3, h4, h5⟩ := h (selL b L) H hw K its hb x cap n cs key hk (x1.weaken hw fun i _ e => selL_at e) x2 x3 x4 hs hn hits hg hg' τ
 have e : selL b (fun i => if i < H.size then L i else (b, lab' i)) = lab' := by
  funext i
  by_cases hi : i < H.size
  ·rw [h4 i hi]; unfold selL; simp [hi]
  ·unfold selL; simp [hi]
 refine ⟨its', H', τ', fun i => if i < H.size then L i else (b, lab' i), by rw [e]; exact h1, h2.1, h2.2, h3.weaken fun i _ q => ?_, fun i hi => if_pos hi, h5⟩
 have hne : selL b L i ≠ 0 := by omega
 obtain ⟨a1, a2⟩ := selL_ne hne
 exact ⟨a1, by omega, by omega⟩
def ApartZ (c : CallK) (f z fm : Nat) (Good : List V → Nat → Prop) : Prop :=
 ∀ (L : Lab) (b K : Nat) (its : List ItZ) (H : Heap), WF H → BookZ z (selL b L) H K its → its.length < 1000000 → (∀ it ∈ its, Good it.cs it.n) → ∀ τ, ∃ H' τ', Chg (Of L b) H H' ∧ ∀ q, c f [.ptr K 0, .func fm [] []] H τ q = q (.bool true) H' τ'
theorem ApartZ.mk {c : CallK} {f z fm : Nat} {Good : List V → Nat → Prop}
  (h : ∀ (lab : Nat → Nat) (K : Nat) (its : List ItZ), its.length < 1000000 → (∀ it ∈ its, Good it.cs it.n) → ∀ H, WF H → BookZ z lab H K its → ∀ τ, ∃ H' τ', Chg (fun i => lab i ≠ 0) H H' ∧ ∀ q, c f [.ptr K 0, .func fm [] []] H τ q = q (.bool true) H' τ') : ApartZ c f z fm Good := by
 intro L b K its H hw hb hl hg τ
 obtain ⟨H', τ', h1, h2⟩ := h (selL b L) K its hl hg H hw hb τ
 exact ⟨H', τ', h1.weaken fun i _ q => ⟨(selL_ne q).1, by rw [(selL_ne q).2]; exact q⟩, h2⟩
theorem BookZ.newL (z b : Nat) (H : Heap) (L : Lab) : BookZ z (selL b (labN L H.size b 1)) (H.new [.nils, .nils, .int .i64 ((0 : Nat) : Int), .bool false] 4 true) H.size [] :=
 BookZ.new z H _ (selL_at (labN_ge L _ _ (Nat.le_refl _)))
theorem LstZ.mono {L : Lab} {b key : Nat} {H H1 : Heap} {v : V} {z cap n : Nat} {cs : List V} (h : LstZ L b key H v z cap n cs) (hw : WF H) (b' m : Nat) (g : Gr H.size H H1) : LstZ (labN L H.size b' m) b key H1 v z cap n cs := h.grL hw g fun i hi => labN_lt L _ _ hi
theorem BookZ.mono {z b : Nat} {L : Lab} {H H1 : Heap} {K : Nat} {its : List ItZ} (h : BookZ z (selL b L) H K its) (hw : WF H) (b' m : Nat) (g : Gr H.size H H1) : BookZ z (selL b (labN L H.size b' m)) H1 K its := h.grL hw g fun i hi => labN_lt L _ _ hi
theorem OfB.of {L : Lab} {b : Nat} {H H1 : Heap} (h : Chg (OfB L b) H H1) : Chg (Of L b) H H1 := h.weaken fun i _ q => ⟨q.1, q.2.1⟩
theorem Of.gr {L : Lab} {b B : Nat} {H H1 : Heap} (h : Chg (Of L b) H H1) (hB : B ≤ H.size) (hL : ∀ i, i < B → L i = (0, 0)) : Gr B H H1 := h.gr hB fun i hi q => by
 have q : (L i).1 = b ∧ (L i).2 ≠ 0 := q
 rw [hL i hi] at q
 exact q.2 rfl
end Go.Am

namespace Go.Am
section
variable (P : Program) (f : FuncId) (fn : Func) (s : ChangeSpec) (c : OpenClaim)
def jA : Bool := c.wf (OpenSpec.ofChange s) && laidOutB P && mapsRowed P &&
 fn.params.all (P.readableRec ·) && namedTie P c.named s.vars &&
 (c.stops == []) && (P.stops == []) && (c.knobs == []) && (P.stopKnobs == [])
def jB : Bool := c.inPlace == P.inPlace f
def jC : Bool := c.unfollowed == P.unfollowed f
def jD : Bool := c.recurses == P.recurses f
def jE : Bool := c.named == P.varsNamed f
def jF : Bool := (c.maps == (fn.params.toList ++ s.plain.varTypes P).any (P.mapsRec ·)) && (c.ifaces == (fn.params.toList ++ s.plain.varTypes P).any (P.ifacesRec ·)) && (c.mapsOut == P.mapsAmong fn.resultTypes.toList) &&
 (c.loops == (fn.params.toList ++ s.plain.varTypes P).any (P.loopsFrom ·)) && (c.wideKeys == (fn.params.toList ++ s.plain.varTypes P ++ fn.resultTypes.toList).any (P.wideKeysFrom ·)) &&
 s.vars.all (P.varReadable ·) && fn.resultTypes.all (fun t => P.readableRec t && decide (t < P.types.size)) && (c.ifacesOut == fn.resultTypes.toList.any (P.ifacesRec ·)) && (c.loopsOut == fn.resultTypes.toList.any (P.loopsFrom ·)) && (c.plainKeys == P.plainKeys) && c.shortTexts.isNone
def jG : Bool := P.stopsHeard
def jH : Bool := P.mayEnter
def jI : Bool := (c.lifted == P.liftsFinal) && (P.make == some c.make) && (c.kinds == (if c.domain.isEmpty then [] else fn.params.toList.map fun t => match P.underlying t with | some (.int k) => some k | _ => none)) && (c.pinned == c.pinnedBy) &&
 (c.veiled == (fn.params.toList ++ s.plain.varTypes P ++ fn.resultTypes.toList).any (P.veiledRec ·)) && c.veiledFits P fn.params.toList (fn.params.toList ++ s.plain.varTypes P ++ fn.resultTypes.toList)
end
theorem joined_of {P : Program} {f : FuncId} {fn : Func} {s : ChangeSpec} {c : OpenClaim} (hA : jA P fn s c = true) (hB : jB P f c = true) (hC : jC P f c = true) (hD : jD P f c = true) (hE : jE P f c = true) (hF : jF P fn s c = true) (hG : jG P = true) (hH : jH P = true) (hI : jI P fn s c = true) : joinedFacts P f fn s c = true := by
 simp only [jA, jB, jC, jD, jE, jF, jG, jH, jI, Bool.and_eq_true, and_assoc] at hA hB hC hD hE hF hG hH hI
 simp only [joinedFacts, Bool.and_eq_true, and_assoc]
 exact ⟨hA.1, hA.2.1, hA.2.2.1, hA.2.2.2.1, hA.2.2.2.2.1, hA.2.2.2.2.2.1, hA.2.2.2.2.2.2.1, hA.2.2.2.2.2.2.2.1, hA.2.2.2.2.2.2.2.2, hB, hC, hD, hE, hF.1, hF.2.1, hF.2.2.1, hF.2.2.2.1, hF.2.2.2.2.1, hF.2.2.2.2.2.1, hF.2.2.2.2.2.2.1, hF.2.2.2.2.2.2.2.1, hF.2.2.2.2.2.2.2.2.1, hF.2.2.2.2.2.2.2.2.2.1, hF.2.2.2.2.2.2.2.2.2.2, hG, hH, hI.1, hI.2.1, hI.2.2.1, hI.2.2.2.1, hI.2.2.2.2.1, hI.2.2.2.2.2⟩
end Go.Am

namespace Go.Am
open Go.RowKit (Below)
def flat : V → Bool
 | .bool _ => true
 | .int _ _ => true
 | .str _ => true
 | .agg cs => cs.all plainV
 | .tup cs => cs.all plainV
 | _ => false
end Go.Am

namespace Go.Am
open Go.RowKit (Below)
end Go.Am

namespace Go.Am
theorem Rd.cut {H : Heap} {z : Nat} {v : V} {n : Nat} {cs : List V} (h : Rd H z v n cs) (hs : Src H v) (hr : Roomy v) {l k : Nat} (hl : l ≤ k) (hk : k ≤ n) :
  ∃ v', pSlSlice z true true false [v, .int .i64 (l : Int), .int .i64 (k : Int)] = some v' ∧ Roomy v' ∧ Src H v' ∧ Rd H z v' (k - l) ((cs.take (k * z)).drop (l * z)) := by
 have key : ∀ {id off lo ex}, v = .sl id off n lo ex z → ∃ v', pSlSlice z true true false [v, .int .i64 (l : Int), .int .i64 (k : Int)] = some v' ∧ Roomy v' ∧ Src H v' ∧ Rd H z v' (k - l) ((cs.take (k * z)).drop (l * z)) := by
  rintro id off lo ex rfl
  obtain ⟨off', lo', ex', e1, e2, e3⟩ := cut_mk (id := id) (off := off) (z := z) hr hl hk
  refine ⟨_, e1, e3, hs, ?_⟩
  have hlen := h.len
  rcases h with ⟨_, h0, rfl⟩ | ⟨id', off'', lo'', ex'', all, q0, q1, q2, q3⟩
  ·exact .inl ⟨.inr ⟨id, off', lo', ex', by rw [show k - l = 0 by omega]⟩, by omega, by simp⟩
  ·cases q0
   by_cases hlt : l < k
   ·have e2 := e2 hlt
    subst e2
    have hmin : k * z ≤ n * z := Nat.mul_le_mul_right _ hk
    refine .inr ⟨id, _, _, _, all, rfl, q1, ?_, ?_⟩
    ·rw [q2, List.take_take, Nat.min_eq_left hmin, List.drop_take, List.drop_drop, Nat.sub_mul]
    ·rw [List.length_drop, List.length_take, hlen, Nat.min_eq_left hmin, Nat.sub_mul]
   ·refine .inl ⟨.inr ⟨id, off', lo', ex', by rw [show k - l = 0 by omega]⟩, by omega, ?_⟩
    rw [List.drop_eq_nil_of_le]
    rw [List.length_take, hlen, Nat.min_eq_left (Nat.mul_le_mul_right _ hk)]
    exact Nat.mul_le_mul_right _ (by omega)
 rcases h with ⟨rfl | ⟨id, off, lo, ex, rfl⟩, rfl, rfl⟩ | ⟨id, off, lo, ex, all, rfl, _, _, h4⟩
 ·obtain rfl : l = 0 := by omega
  obtain rfl : k = 0 := by omega
  exact ⟨.nils, rfl, trivial, trivial, .inl ⟨.inl rfl, rfl, by simp⟩⟩
 ·exact key rfl
 ·exact key rfl
theorem append_none {H : Heap} {id m z bytes n : Nat} {old new : List V} (hl : H.loads id 0 (m * z) = some old) (hn : 0 < n) (h1 : (m + n) * bytes ≤ 140737488355328) (h2 : m + n ≤ 140737488355328) (τ : Tape) :
  append H z bytes (.sl id 0 m m none z) n new τ = some (.sl H.size 0 (m + n) (m + n) (some (spare (m + n) (τ 0))) z, H.new (old ++ new) ((m + n + spare (m + n) (τ 0)) * z) false, τ.tail) := by
 have e3 : Nat.ble (m + n) m = false := by
  cases hb : Nat.ble (m + n) m with
  | false => rfl
  | true => have := Nat.le_of_ble_eq_true hb; omega
 simp only [append, Nat.beq_refl, cond_true, e3, cond_false, Nat.ble_eq_true_of_le h1, Nat.ble_eq_true_of_le h2, Bool.and_self, hl, fresh]
def BodP (P : Nat → Prop) (H : Heap) (v : V) (n : Nat) (cs : List V) : Prop :=
 (v = .nils ∧ n = 0 ∧ cs = []) ∨ ∃ id lo ex room fam ver pl st fr, v = .sl id 0 n lo ex 1 ∧ H.blk.get id = some (.mem cs room fam ver true pl st) ∧ H.fams.get fam = some (fr, ver) ∧ fr ≤ ver ∧ P id ∧ P fam ∧
  cs.length = n ∧ n ≤ lo + ex.getD 0 ∧ lo + ex.getD 0 ≤ room ∧ lo + ex.getD 0 < 9223372036854775808
theorem BodP.nil (P : Nat → Prop) (H : Heap) : BodP P H .nils 0 [] := .inl ⟨rfl, rfl, rfl⟩
theorem BodP.cells {P : Nat → Prop} {H : Heap} {id n lo : Nat} {ex : Option Nat} {cs : List V} (h : BodP P H (.sl id 0 n lo ex 1) n cs) : H.cells? id = some cs := by
 rcases h with ⟨h, _⟩ | ⟨id', lo', ex', room, fam, ver, pl, st, fr, e, h1, h2, h3, _⟩
 ·cases h
 ·cases e
  simp only [Heap.cells?, h1, h2]
  rw [show Nat.ble fr ver = true from Nat.ble_eq_true_of_le h3]
  rfl
theorem BodP.rd {P : Nat → Prop} {H : Heap} {v : V} {n : Nat} {cs : List V} (h : BodP P H v n cs) : Rd H 1 v n cs := by
 have h0 := h
 rcases h with ⟨rfl, rfl, rfl⟩ | ⟨id, lo, ex, room, fam, ver, pl, st, fr, rfl, h1, h2, h3, h4, h5, h6, _⟩
 ·exact .inl ⟨.inl rfl, rfl, rfl⟩
 ·exact .inr ⟨id, 0, lo, ex, cs, rfl, h0.cells, by rw [List.drop_zero, Nat.mul_one, ← h6, List.take_length], by omega⟩
theorem BodP.src {P : Nat → Prop} {H : Heap} {v : V} {n : Nat} {cs : List V} (h : BodP P H v n cs) : Src H v := by
 have h0 := h
 rcases h with ⟨rfl, rfl, rfl⟩ | ⟨id, lo, ex, room, fam, ver, pl, st, fr, rfl, _⟩
 ·trivial
 ·exact ⟨_, h0.cells⟩
theorem BodP.scal {P : Nat → Prop} {H : Heap} {v : V} {n : Nat} {cs : List V} (h : BodP P H v n cs) : v.cells = [v] ∧ v.scal = true := by
 rcases h with ⟨rfl, _⟩ | ⟨id, lo, ex, room, fam, ver, pl, st, fr, rfl, _⟩ <;> exact ⟨rfl, rfl⟩
theorem BodP.roomZ {P : Nat → Prop} {H : Heap} {v : V} {n : Nat} {cs : List V} (h : BodP P H v n cs) : ∃ cap, RoomZ P H v 1 cap cs ∧ cap < 9223372036854775808 := by
 rcases h with ⟨rfl, rfl, rfl⟩ | ⟨id, lo, ex, room, fam, ver, pl, st, fr, rfl, h1, h2, h3, h4, h5, h6, h7, h8, h9⟩
 ·exact ⟨0, .inl ⟨rfl, rfl, rfl⟩, by omega⟩
 ·exact ⟨lo + ex.getD 0, .inr ⟨id, 0, n, lo, ex, cs, room, fam, ver, pl, st, fr, rfl, rfl, h1, h2, h3, h4, h5, by omega, by rw [List.drop_zero, List.take_length], .inr (by omega), by omega⟩, h9⟩
theorem BodP.chg {P Q : Nat → Prop} {H H' : Heap} {v : V} {n : Nat} {cs : List V} (h : BodP P H v n cs) (hw : WF H) (hg : Chg Q H H') (hPQ : ∀ i, i < H.size → P i → ¬ Q i) : BodP P H' v n cs := by
 rcases h with h | ⟨id, lo, ex, room, fam, ver, pl, st, fr, e, h1, h2, h3, h4, h5, h6⟩
 ·exact .inl h
 ·exact .inr ⟨id, lo, ex, room, fam, ver, pl, st, fr, e, by rw [hg.blk id (hw.blk _ _ h1) (hPQ _ (hw.blk _ _ h1) h4)]; exact h1, by rw [hg.fams fam (hw.fams _ _ h2) (hPQ _ (hw.fams _ _ h2) h5)]; exact h2, h3, h4, h5, h6⟩
theorem BodP.weaken {P Q : Nat → Prop} {H : Heap} {v : V} {n : Nat} {cs : List V} (h : BodP P H v n cs) (hw : WF H) (hPQ : ∀ i, i < H.size → P i → Q i) : BodP Q H v n cs := by
 rcases h with h | ⟨id, lo, ex, room, fam, ver, pl, st, fr, e, h1, h2, h3, h4, h5, h6⟩
 ·exact .inl h
 ·exact .inr ⟨id, lo, ex, room, fam, ver, pl, st, fr, e, h1, h2, h3, hPQ _ (hw.blk _ _ h1) h4, hPQ _ (hw.fams _ _ h2) h5, h6⟩
theorem clone1 {H : Heap} {v : V} {n : Nat} {cs : List V} (hw : WF H) (hr : Rd H 1 v n cs) (hs : Src H v) (hn : n ≤ 140737488355328) (τ : Tape) :
  ∃ v' H' τ', eAppend 1 1 [.sl H.size 0 0 0 none 1, v] (H.new [] 0 false) τ = some (v', H', τ') ∧ BodP (fun i => H.size ≤ i) H' v' n cs ∧ Gr H.size H H' := by
 have hc : Bx (H.new [] 0 false) H.size [] := Bx.new H [] 0 false (Nat.le_refl _)
 have g1 : Gr H.size H (H.new [] 0 false) := Gr.new hw _ _ _
 generalize hH1 : H.new [] 0 false = H1 at hc g1
 have z1 : H1.size = H.size + 1 := hH1 ▸ rfl
 have hr1 := hr.gr g1 hw (Nat.le_refl _)
 have hs1 := hs.gr g1 hw (Nat.le_refl _)
 have hlen := hr.len
 cases n with
 | zero =>
  have hE : Emp H1 H.size (.sl H.size 0 0 0 none 1) := ⟨H.size, rfl, hc.cells, Nat.le_refl _⟩
  obtain ⟨v', H', τ', r1, r2, r3⟩ := hE.append (bytes := 1) g1.wf g1.size hr1 hs1 (by omega) hn τ
  rcases r2 with ⟨_, h0⟩ | ⟨_, rfl, rfl, rfl⟩
  ·omega
  ·obtain ⟨room, ver, pl, st, fr, k1, k2, k3, _⟩ := hc
   exact ⟨_, _, τ', r1, .inr ⟨H.size, 0, none, room, H.size, ver, pl, st, fr, rfl, k1, k2, k3, Nat.le_refl _, Nat.le_refl _, rfl, Nat.le_refl _, Nat.zero_le _, by simp⟩, g1⟩
 | succ m =>
  have l0 : H1.loads H.size 0 (0 * 1) = some [] := by
   have := loads_cells (n := 0) (off := 0) hc.cells (by simp)
   simpa using this
  have hap := append_none (z := 1) (bytes := 1) (n := m + 1) (new := cs) l0 (by omega) (by omega) (by omega) τ
  rcases hr1 with ⟨_, h0, _⟩ | ⟨id', off, lo, ex, all, rfl, k1, k2, k3⟩
  ·omega
  ·have hload : H1.loads id' off ((m + 1) * 1) = some cs := by
    simp only [Heap.loads, k1]
    rw [takeN_all, ← k2]
    have := congrArg List.length k2
    rw [k3, List.length_take] at this
    omega
   refine ⟨_, H1.new cs ((m + 1 + spare (m + 1) (τ 0)) * 1) false, τ.tail, ?_, .inr ⟨H1.size, m + 1, some (spare (m + 1) (τ 0)), _, H1.size, 0, false, 0, 0, rfl, T.get_set_same _ _ _, T.get_set_same _ _ _, Nat.le_refl _, by omega, by omega, by omega, by simp, by simp, ?_⟩, g1.trans (Gr.new g1.wf _ _ _) (by omega)⟩
   ·simp only [eAppend, srcLen, srcCells, Nat.beq_refl, cond_true, hload]
    simpa using hap
   ·have : spare (m + 1) (τ 0) < 9223372036854775808 - (m + 1) := Nat.mod_lt _ (by omega)
    simp only [Option.getD_some]; omega
end Go.Am

namespace Go.Am
open Go.RowKit (Below)
open Go.Proofs (encStr)
open Go.WideElems (Fit rg rd)
theorem MRel.place {ι : Inj} {base : Base} {w0 w w1 : World} {H : Heap} (h : MRel ι base w0 H w) (hb1 : Below w.heap.size w w1) {g : Nat} (hg1 : w.heap.size ≤ g) (cells : List V) (room : Nat) (pl : Bool) (c : Array Value) (el : TypeId)
  (hheap' : w1.heap[g]? = some (.cells c el (0, 0))) (hvs : VsOk H cells) (hlen : cells.length ≤ room) (hsz : room ≤ c.size) (hc : ∀ (j : Nat) (v : V), cells[j]? = some v → c[j]? = some (cv ι v)) :
  MRel (upd ι H.size (g, 0)) base w0 (H.new cells room pl) w1 := by
 have hev := Evol.new h cells room pl
 have hext := Ext.upd H ι (g, 0)
 have hheap : ∀ b, b < w.heap.size → w1.heap[b]? = w.heap[b]? := hb1.block
 have part : ∀ id cs r fam ver wr p st, (H.new cells room pl).blk.get id = some (.mem cs r fam ver wr p st) →
   (id = H.size ∧ cs = cells ∧ r = room ∧ fam = H.size ∧ ver = 0 ∧ wr = true) ∨ (id < H.size ∧ fam < H.size ∧ H.blk.get id = some (.mem cs r fam ver wr p st)) := by
  intro id cs r fam ver wr p st hg
  by_cases e : id = H.size
  ·subst e
   rw [get_new_new] at hg
   injection hg with hg
   injection hg with h1 h2 h3 h4 h5 h6 h7
   exact .inl ⟨rfl, h1.symm, h2.symm, h3.symm, h4.symm, h5.symm⟩
  ·rw [get_new_old e] at hg
   exact .inr ⟨h.lt _ _ hg, (h.fam _ _ _ _ _ _ _ _ hg).1, hg⟩
 have famOld : ∀ f, f < H.size → (H.new cells room pl).fams.get f = H.fams.get f := fun f hf => by rw [fams_new, if_neg (by omega)]
 have oldBlk : ∀ id cs r fam ver wr p st fr la, H.blk.get id = some (.mem cs r fam ver wr p st) → H.fams.get fam = some (fr, la) → fr ≤ ver → (ι id).1 < w.heap.size :=
  fun id cs r fam ver wr p st fr la h1 h2 h3 => (h.ok id cs r fam ver wr p st fr la h1 h2 h3).block_lt
 refine ⟨h.below.keep h.base_le hb1, Nat.le_trans h.base_le hb1.size, ?_, ?_, ?_, ?_, ?_, ?_, ?_, ?_, ?_, ?_, ?_, ?_, ?_, ?_, ?_⟩
 ·intro id b hg
  by_cases e : id = H.size
  ·subst e; exact Nat.lt_succ_self _
  ·rw [get_new_old e] at hg; exact Nat.lt_succ_of_lt (h.lt _ _ hg)
 ·intro id cs r fam ver wr p st hg
  rcases part _ _ _ _ _ _ _ _ hg with ⟨rfl, _, _, rfl, rfl, _⟩ | ⟨_, hf, hg⟩
  ·exact ⟨Nat.lt_succ_self _, 0, 0, by rw [fams_new, if_pos rfl], Nat.le_refl _⟩
  ·obtain ⟨_, fr, la, h1, h2⟩ := h.fam _ _ _ _ _ _ _ _ hg
   exact ⟨Nat.lt_succ_of_lt hf, fr, la, by rw [famOld _ hf]; exact h1, h2⟩
 ·intro id cs r fam ver wr p st hg
  rcases part _ _ _ _ _ _ _ _ hg with ⟨rfl, rfl, rfl, _⟩ | ⟨_, _, hg⟩
  ·exact ⟨hlen, hvs.mono hev⟩
  ·obtain ⟨h1, h2⟩ := h.cells _ _ _ _ _ _ _ _ hg
   exact ⟨h1, h2.mono hev⟩
 ·intro id cs r fam ver wr p st fr la hg hf hv
  rcases part _ _ _ _ _ _ _ _ hg with ⟨rfl, rfl, rfl, _, _, rfl⟩ | ⟨hid, hf', hg⟩
  ·refine ⟨c, el, 0, 0, by rw [upd_same]; exact hheap', by rw [upd_same]; simpa using hsz, fun j v hv => ?_, fun _ => ?_⟩
   ·rw [upd_same, cv_congr hext v ((VsOk_iff H cs).1 hvs v (List.mem_of_getElem? hv))]
    simpa using hc j v hv
   ·rw [upd_same]; exact ⟨Nat.le_trans h.base_le hg1, .inl rfl⟩
  ·rw [famOld _ hf'] at hf
   have hk := h.ok _ _ _ _ _ _ _ _ _ _ hg hf hv
   exact hk.keep (hheap _ hk.block_lt) (upd_ne ι _ (by omega)) hext (h.cells _ _ _ _ _ _ _ _ hg).2
 ·intro i cs r fam ver p st fr la j cs' r' fam' ver' wr' p' st' fr' la' hi hfi hvi hj hfj hvj he
  rcases part _ _ _ _ _ _ _ _ hi with ⟨rfl, _, _, rfl, _⟩ | ⟨hid, hf, hi⟩
  ·rcases part _ _ _ _ _ _ _ _ hj with ⟨rfl, _, _, rfl, _⟩ | ⟨hjd, hf', hj⟩
   ·rfl
   ·rw [famOld _ hf'] at hfj
    have := oldBlk _ _ _ _ _ _ _ _ _ _ hj hfj hvj
    rw [upd_same, upd_ne ι _ (by omega)] at he
    omega
  ·rw [famOld _ hf] at hfi
   rcases part _ _ _ _ _ _ _ _ hj with ⟨rfl, _, _, rfl, _⟩ | ⟨hjd, hf', hj⟩
   ·have := oldBlk _ _ _ _ _ _ _ _ _ _ hi hfi hvi
    rw [upd_same, upd_ne ι _ (by omega)] at he
    omega
   ·rw [famOld _ hf'] at hfj
    rw [upd_ne ι _ (by omega), upd_ne ι _ (by omega)] at he
    exact h.sep _ _ _ _ _ _ _ _ _ _ _ _ _ _ _ _ _ _ _ hi hfi hvi hj hfj hvj he
 ·intro i cs r fam ver wr p st j cs' r' wr' p' st' hi hj
  rcases part _ _ _ _ _ _ _ _ hi with ⟨rfl, _, _, rfl, _⟩ | ⟨hid, hf, hi⟩
  ·rcases part _ _ _ _ _ _ _ _ hj with ⟨rfl, _⟩ | ⟨_, hf', _⟩
   ·rfl
   ·omega
  ·rcases part _ _ _ _ _ _ _ _ hj with ⟨_, _, _, rfl, _⟩ | ⟨_, _, hj⟩
   ·omega
   ·exact h.ver _ _ _ _ _ _ _ _ _ _ _ _ _ _ hi hj
 ·intro id s pos hg
  by_cases e : id = H.size
  ·subst e; rw [get_new_new] at hg; cases hg
  ·rw [get_new_old e] at hg
   obtain ⟨ha, hz, hb⟩ := h.iter _ _ _ hg
   rw [upd_ne ι _ e]
   exact ⟨ha, hz, by rw [hheap _ (Array.getElem?_eq_some_iff.1 hb).1]; exact hb⟩
 ·intro f x hg
  rw [fams_new] at hg
  by_cases e : H.size = f
  ·subst e; exact Nat.lt_succ_self _
  ·rw [if_neg e] at hg; exact Nat.lt_succ_of_lt (h.famlt _ _ hg)
 ·intro i cs r fam ver wr p st fr la j cs' r' ver' wr' p' st' hi hf hvi hj hvj he hle
  rcases part _ _ _ _ _ _ _ _ hi with ⟨rfl, rfl, _, rfl, _⟩ | ⟨hid, hf', hi⟩
  ·rcases part _ _ _ _ _ _ _ _ hj with ⟨rfl, rfl, _⟩ | ⟨_, hf'', _⟩
   ·exact Nat.le_refl _
   ·omega
  ·rcases part _ _ _ _ _ _ _ _ hj with ⟨_, _, _, rfl, _⟩ | ⟨hjd, _, hj⟩
   ·omega
   ·rw [famOld _ hf'] at hf
    rw [upd_ne ι _ (by omega), upd_ne ι _ (by omega)] at he ⊢
    exact h.ends _ _ _ _ _ _ _ _ _ _ _ _ _ _ _ _ _ hi hf hvi hj hvj he hle
 ·intro i s p j s' p' hi hj he
  have hi' : i ≠ H.size := fun e => by subst e; rw [get_new_new] at hi; cases hi
  have hj' : j ≠ H.size := fun e => by subst e; rw [get_new_new] at hj; cases hj
  rw [get_new_old hi'] at hi
  rw [get_new_old hj'] at hj
  rw [upd_ne ι _ hi', upd_ne ι _ hj'] at he
  exact h.isep _ _ _ _ _ _ hi hj he
 ·intro id cs r fam ver wr p st fr la hg hf hv
  rcases part _ _ _ _ _ _ _ _ hg with ⟨rfl, _⟩ | ⟨hid, hf', hg⟩
  ·rw [upd_same]; exact fun hm => absurd (h.below.gh _ hm).1 (by simp only; omega)
  ·rw [famOld _ hf'] at hf
   rw [upd_ne ι _ (by omega)]
   exact h.gh _ _ _ _ _ _ _ _ _ _ hg hf hv
 ·intro id cs r fam ver wr st fr la hg hf hv hw
  rcases part _ _ _ _ _ _ _ _ hg with ⟨rfl, _⟩ | ⟨hid, hf', hg⟩
  ·rw [upd_same]; exact ⟨c, el, 0, hheap'⟩
  ·rw [famOld _ hf'] at hf
   rw [upd_ne ι _ (by omega)]
   obtain ⟨c', el', lo', e⟩ := h.plok _ _ _ _ _ _ _ _ _ hg hf hv hw
   exact ⟨c', el', lo', by rw [hheap _ (Array.getElem?_eq_some_iff.1 e).1]; exact e⟩
 ·intro i cs r fam ver wr p st j cs' r' ver' wr' p' st' hi hj
  by_cases ei : i = H.size
  ·subst ei
   rw [get_new_new] at hi
   injection hi with hi
   injection hi with _ _ e3 _ _ e6 _
   by_cases ej : j = H.size
   ·subst ej
    rw [get_new_new] at hj
    injection hj with hj
    injection hj with _ _ _ _ _ e6' _
    rw [← e6, ← e6']
   ·rw [get_new_old ej] at hj
    have := (h.fam _ _ _ _ _ _ _ _ hj).1
    omega
  ·rw [get_new_old ei] at hi
   by_cases ej : j = H.size
   ·subst ej
    rw [get_new_new] at hj
    injection hj with hj
    injection hj with _ _ e3 _ _ _ _
    have := (h.fam _ _ _ _ _ _ _ _ hi).1
    omega
   ·rw [get_new_old ej] at hj
    exact h.plfam _ _ _ _ _ _ _ _ _ _ _ _ _ _ _ hi hj
 ·intro id es clk hg
  by_cases e : id = H.size
  ·subst e; rw [get_new_new] at hg; cases hg
  ·rw [get_new_old e] at hg
   obtain ⟨a, ⟨ents, clock, b, k⟩, d⟩ := h.maps _ _ _ hg
   rw [upd_ne ι _ e]
   exact ⟨a, ⟨ents, clock, by rw [hheap _ (Array.getElem?_eq_some_iff.1 b).1]; exact b, k.ext (H := H) hext d⟩, fun p hp => (d p hp).mono hev⟩
 ·intro i es c1 j es' c2 hi hj he
  have hi' : i ≠ H.size := fun e => by subst e; rw [get_new_new] at hi; cases hi
  have hj' : j ≠ H.size := fun e => by subst e; rw [get_new_new] at hj; cases hj
  rw [get_new_old hi'] at hi
  rw [get_new_old hj'] at hj
  rw [upd_ne ι _ hi', upd_ne ι _ hj'] at he
  exact h.msep _ _ _ _ _ _ hi hj he
abbrev R0 : Value → Option (DataW Unit × List MemPlace) := fun _ => some (.lit (.bool true), [])
def strK : Value → List UInt8
 | .string s => s.data.toList
 | _ => []
theorem strK_enc (k : List UInt8) : strK (encStr k) = k := by simp [strK, encStr]
theorem key_R0 {P : Program} {kt : TypeId} (hk : P.underlying kt = some .string) {x : MapEntry} {k : List UInt8} (h : x.key = encStr k) (hl : k.length ≤ maxLen) : rd P kt R0 x = some (.string k, .lit (.bool true)) := by
 have hs : (ByteArray.mk k.toArray).size ≤ maxLen := by simpa [ByteArray.size] using hl
 simp [rd, keyOf, hk, mapKey, h, encStr, R0, hs]
theorem own_of {P : Program} {kt : TypeId} (hk : P.underlying kt = some .string) {w : World} {b : Nat} {ents : Array MapEntry} {clock : Nat} (hb : w.heap[b]? = some (.map ents clock)) (hst : MapKept.Stamped ents clock) {ks : List (List UInt8)}
  (hks : (ents.toList.map (·.key)).Perm (ks.map encStr)) (hlen : ks.length ≤ maxLen) (hkl : ∀ k ∈ ks, k.length ≤ maxLen) :
  ∃ D, w.ownsMap P kt R0 b ks.length D ∧ (strKeys D).Perm ks ∧ Maps.size D = ks.length := by
 have hsz : ents.size = ks.length := by have := hks.length_eq; simpa using this
 have hkey : ∀ x ∈ ents.toList, ∃ k ∈ ks, x.key = encStr k := by
  intro x hx
  have : x.key ∈ ks.map encStr := hks.mem_iff.1 (List.mem_map.2 ⟨x, hx, rfl⟩)
  obtain ⟨k, hk1, hk2⟩ := List.mem_map.1 this
  exact ⟨k, hk1, hk2.symm⟩
 have hrd : ∀ x ∈ ents.toList, ∃ k ∈ ks, x.key = encStr k ∧ rd P kt R0 x = some (.string k, .lit (.bool true)) := by
  intro x hx
  obtain ⟨k, h1, h2⟩ := hkey x hx
  exact ⟨k, h1, h2, key_R0 hk h2 (hkl k h1)⟩
 have F : Fit P kt R0 ents clock := ⟨by omega, hst, fun x hx => by obtain ⟨k, _, _, h⟩ := hrd x hx; exact ⟨_, h⟩⟩
 refine ⟨_, ⟨ents, clock, hb, F, by omega, rfl⟩, ?_, ?_⟩
 ·show ((((ents.toList.map (rg P kt R0)).foldr DataW.insert []).map fun p => strOf p.1)).Perm ks
  refine ((WideShapes.sorted_perm _).map _).trans ?_
  have h1 : (ents.toList.map (rg P kt R0)).map (fun p => strOf p.1) = ents.toList.map fun x => strK x.key := by
   rw [List.map_map]
   apply List.map_congr_left
   intro x hx
   obtain ⟨k, _, h2, h3⟩ := hrd x hx
   simp only [Function.comp, rg, h3, Option.getD_some, strOf, h2, strK_enc]
  rw [h1]
  have h2 : (ents.toList.map fun x => strK x.key) = (ents.toList.map (·.key)).map strK := by rw [List.map_map]; rfl
  rw [h2]
  refine (hks.map _).trans ?_
  rw [List.map_map]
  have : ks.map (strK ∘ encStr) = ks := by
   conv => rhs; rw [← List.map_id ks]
   apply List.map_congr_left
   intro k _
   exact strK_enc k
  rw [this]
 ·show ((ents.toList.map (rg P kt R0)).foldr DataW.insert []).length = ks.length
  rw [(WideShapes.sorted_perm _).length_eq, List.length_map, Array.length_toList, hsz]
def keysE (es : List (List UInt8 × V × Nat)) : List (List UInt8) := es.map (·.1)
def okKeys (es : List (List UInt8 × V × Nat)) : Bool := Nat.ble es.length 8796093022208 && es.all fun p => Nat.ble p.1.length 9223372036854775807
theorem okKeys_spec {es : List (List UInt8 × V × Nat)} (h : okKeys es = true) : (keysE es).length ≤ 8796093022208 ∧ ∀ k ∈ keysE es, k.length ≤ maxLen := by
 simp only [okKeys, Bool.and_eq_true, List.all_eq_true] at h
 refine ⟨by simpa [keysE] using Nat.le_of_ble_eq_true h.1, fun k hk => ?_⟩
 obtain ⟨p, hp, rfl⟩ := List.mem_map.1 hk
 exact Nat.le_of_ble_eq_true (h.2 p hp)
theorem MapR.keysP {ι : Inj} {es : List (List UInt8 × V × Nat)} {clk : Option Nat} {ents : Array MapEntry} {clock : Nat} (h : MapR ι es clk ents clock) : (ents.toList.map (·.key)).Perm ((keysE es).map encStr) := by
 cases clk with
 | none =>
  have := h.keys rfl
  rw [keysE, List.map_map]
  exact this
 | some c =>
  have := (h.rows c rfl).2
  have e : ents.toList.map (·.key) = (keysE es).map encStr := by
   have h1 : (ents.toList.map fun e => (e.key, e.val, e.born)).map (·.1) = (es.map fun p => (Value.string ⟨p.1.toArray⟩, cv ι p.2.1, p.2.2)).map (·.1) := by rw [this]
   rw [List.map_map, List.map_map] at h1
   rw [keysE, List.map_map]
   exact h1
  rw [e]
def namesP (vs : List V) (H : Heap) (τ : Tape) : Option (V × Heap × Tape) :=
 match vs with
 | [.map id] => match H.blk.get id with
  | some (.mapb es _) => bif okKeys es then
    match es with
    | [] => some (.nils, H, τ)
    | p :: r => let ss := sorted (keysE (p :: r)); some (.sl H.size 0 (r.length + 1) (r.length + 1) (some (spare (r.length + 1) (τ 0))) 1, H.new (ss.map V.str) (r.length + 1 + spare (r.length + 1) (τ 0)) false, τ.tail)
   else none
  | _ => none
 | _ => none
theorem namesP_ev : PrimEv namesP := by
 intro vs H τ v H' τ' h
 simp only [namesP, Bool.cond_eq_ite] at h
 (repeat' split at h) <;> first
  | (cases h; done)
  | (simp only [Option.some.injEq, Prod.mk.injEq] at h; obtain ⟨_, rfl, _⟩ := h; first | exact Ev.refl _ | exact ev_new _ _ _ _)
theorem primOk_names {P : Program} {f : FuncId} (hp : plainCall P f = true) {kt et : TypeId} (hk : P.underlying kt = some .string)
  (h : ∀ (b nn : Nat) (D0 : DataW Unit) (w : World), w.ownsMap P kt R0 b nn D0 → Maps.size D0 ≤ maxLen → Maps.size D0 * 16 ≤ 140737488355328 →
   Calls P f #[.map (some b)] w fun e w' => ∃ (v : Value) (ss : List (List UInt8)), e = .returned v ∧ ss.Perm (strKeys D0) ∧ w'.ownsRow w.heap.size et 1 v ss.length ((ss.mergeSort fun x y => decide (x ≤ y)).map encStr) ∧ (v = .slice none 0 0 ↔ ss = []) ∧ Below w.heap.size w w')
  (base : Base) (w0 : World) : PrimOk P base w0 f namesP := by
 refine ⟨namesP_ev, fun vs H ι w hM hG hok hn0 => ⟨hp, ?_⟩⟩
 have hn := hn0 (fun _ => 0)
 unfold namesP at hn
 split at hn
 ·rename_i id
  split at hn
  ·rename_i es clk hg
   cases hz : okKeys es with
   | false => rw [hz, cond_false] at hn; exact absurd rfl hn
   | true =>
    obtain ⟨hl, hkl⟩ := okKeys_spec hz
    obtain ⟨_, ⟨ents, clock, b1, b2⟩, _⟩ := hM.maps _ _ _ hg
    obtain ⟨D, hD, hDk, hDs⟩ := own_of hk b1 b2.stamped b2.keysP (by have : maxLen = 2 ^ 63 - 1 := rfl; omega) hkl
    refine (h _ _ D w hD (by rw [hDs]; have : maxLen = 2 ^ 63 - 1 := rfl; omega) (by rw [hDs]; omega)).mono fun e w' ⟨v, ss, he, hss, ⟨hrl, hrow⟩, hnil, hb⟩ => ?_
    have hperm : ss.Perm (keysE es) := hss.trans hDk
    have hsort : (ss.mergeSort fun x y => decide (x ≤ y)) = sorted (keysE es) := by rw [sorted_eq]; exact mergeSort_of_perm hperm
    rw [hsort] at hrow
    have hlen : ss.length = (keysE es).length := hperm.length_eq
    cases es with
    | nil =>
     have hs0 : ss = [] := by apply List.eq_nil_of_length_eq_zero; rw [hlen]; rfl
     refine ⟨.nils, H, ι, [], by rw [he, hnil.2 hs0]; rfl, fun τ => by simp only [namesP, Tape.app, hg, hz, cond_true], hM.keep hb, Ext.refl _ _, Evol.refl _, trivial⟩
    | cons p r =>
     rcases hrow with ⟨_, h0⟩ | ⟨g, cap, cur, rfl, hg1, hg2, hc1, hc2, hc3, hc4⟩
     ·rw [hlen] at h0; simp [keysE] at h0
     ·have hn1 : ss.length = r.length + 1 := by rw [hlen]; simp [keysE]
      rw [hn1] at hc1 hc4
      have hmax : maxLen = 9223372036854775807 := rfl
      have hsp : spare (r.length + 1) (cap - (r.length + 1)) = cap - (r.length + 1) := by
       unfold spare
       exact Nat.mod_eq_of_lt (by omega)
      have hsl : (sorted (keysE (p :: r))).length = r.length + 1 := by rw [sorted_eq, List.length_mergeSort]; simp [keysE]
      have hvs : VsOk H ((sorted (keysE (p :: r))).map V.str) := by
       rw [VsOk_iff]; intro v hv; obtain ⟨s, _, rfl⟩ := List.mem_map.1 hv; trivial
      have hM' := hM.place hb hg1 ((sorted (keysE (p :: r))).map V.str) cap false cur et hg2 hvs (by rw [List.length_map, hsl]; exact hc1) (by omega) (fun j v hv => by
       rw [List.getElem?_map] at hv
       cases hj : (sorted (keysE (p :: r)))[j]? with
       | none => rw [hj] at hv; cases hv
       | some s =>
        rw [hj] at hv
        cases hv
        have hjl : j < r.length + 1 := by have := (List.getElem?_eq_some_iff.1 hj).1; omega
        have := congrArg (fun l : List Value => l[j]?) hc4
        simp only [List.getElem?_map, hj, Option.map_some] at this
        rw [List.getElem?_take_of_lt (by omega), Array.getElem?_toList] at this
        rw [this]
        rfl)
      have hcap : r.length + 1 + (cap - (r.length + 1)) = cap := by omega
      refine ⟨.sl H.size 0 (r.length + 1) (r.length + 1) (some (cap - (r.length + 1))) 1, _, _, [cap - (r.length + 1)], ?_, fun τ => ?_, hM', Ext.upd H ι _, Evol.new hM _ _ _, ?_⟩
      ·rw [he, hn1]
       simp only [cv, upd_same, Option.getD_some, hcap, Nat.add_zero]
      ·simp only [namesP, hg, hz, cond_true, Tape.app, Tape.head_cons, Tape.tail_cons, hsp, hcap]
      ·refine ⟨Nat.lt_succ_self _, by simp, fun _ => ⟨?_, by simp only [Option.getD_some]; omega⟩⟩
       simp only [Heap.room?, get_new_new, Option.getD_some]
       omega
  ·exact absurd rfl hn
 ·exact absurd rfl hn
end Go.Am

