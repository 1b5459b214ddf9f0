/- The abstract machine, printed functions of the program, and what they are shown to be. -/
import Derived.Test.YtejpgcemblankaaGreatDoorPROM4
import Derived.JoinedOf
import Derived.Maps.Own
import Derived.Maps.Ext
import Derived.Maps.Range
import Derived.Sort.KeysCollected
import Derived.Lib.SlMapMerge
set_option linter.unusedSimpArgs false
set_option linter.unusedVariables false
namespace Go.Am
abbrev Lab := Nat → Nat × Nat
def selL (b : Nat) (L : Lab) : Nat → Nat := fun i => if (L i).1 = b then (L i).2 else 0
def labN (L : Lab) (n b m : Nat) : Lab := fun i => if n ≤ i then (b, m) else L i
theorem labN_lt (L : Lab) {n i : Nat} (b m : Nat) (h : i < n) : labN L n b m i = L i := if_neg (by omega)
theorem labN_ge (L : Lab) {n i : Nat} (b m : Nat) (h : n ≤ i) : labN L n b m i = (b, m) := if_pos h
theorem selL_eq {b : Nat} {L L' : Lab} {i : Nat} (h : L' i = L i) : selL b L' i = selL b L i := by unfold selL; rw [h]
theorem selL_ne {b : Nat} {L : Lab} {i : Nat} (h : selL b L i ≠ 0) : (L i).1 = b ∧ (L i).2 = selL b L i := by
 unfold selL at h ⊢
 split at h
 ·rename_i e; rw [if_pos e]; exact ⟨e, rfl⟩
 ·exact absurd rfl h
theorem selL_at {b m : Nat} {L : Lab} {i : Nat} (h : L i = (b, m)) : selL b L i = m := by unfold selL; rw [h]; simp
abbrev Of (L : Lab) (b : Nat) : Nat → Prop := fun i => (L i).1 = b ∧ (L i).2 ≠ 0
abbrev OfB (L : Lab) (b : Nat) : Nat → Prop := fun i => (L i).1 = b ∧ (L i).2 ≠ 0 ∧ (L i).2 ≤ 3
theorem BookZ.grL {z b : Nat} {L L' : Lab} {H H1 : Heap} {K : Nat} {its : List ItZ} (h : BookZ z (selL b L) H K its) (hw : WF H) (g : Gr H.size H H1) (hl : ∀ i, i < H.size → L' i = L i) : BookZ z (selL b L') H1 K its :=
 h.chg hw (g.chg (P := fun _ => False)) (fun _ _ q => q.elim) fun i hi => selL_eq (hl i hi)
def LstZ (L : Lab) (b key : Nat) (H : Heap) (v : V) (z cap n : Nat) (cs : List V) : Prop :=
 RoomZ (fun i => L i = (b, 2 * key + 4)) H v z cap cs ∧ cs.length = n * z ∧ pLen [v] = some (.int .i64 (n : Int)) ∧ cap < 9223372036854775808
theorem LstZ.chg {L L' : Lab} {b key : Nat} {Q : Nat → Prop} {H H1 : Heap} {v : V} {z cap n : Nat} {cs : List V} (h : LstZ L b key H v z cap n cs) (hw : WF H) (g : Chg Q H H1) (hQ : ∀ i, i < H.size → L i = (b, 2 * key + 4) → ¬ Q i) (hl : ∀ i, i < H.size → L' i = L i) : LstZ L' b key H1 v z cap n cs := by
 obtain ⟨a, c⟩ := h
 refine ⟨?_, c⟩
 have := (a.weaken (Q := fun i => i < H.size ∧ L' i = (b, 2 * key + 4)) hw fun i hi e => ⟨hi, by rw [hl i hi]; exact e⟩).chg hw g fun i hi e => hQ i hi (by rw [← hl i hi]; exact e.2)
 exact this.weaken g.wf fun i _ e => e.2
theorem LstZ.grL {L L' : Lab} {b key : Nat} {H H1 : Heap} {v : V} {z cap n : Nat} {cs : List V} (h : LstZ L b key H v z cap n cs) (hw : WF H) (g : Gr H.size H H1) (hl : ∀ i, i < H.size → L' i = L i) : LstZ L' b key H1 v z cap n cs :=
 h.chg hw (g.chg (P := fun _ => False)) (fun _ _ _ => not_false) hl
theorem LstZ.new {H H1 : Heap} {v : V} {z cap n : Nat} {cs : List V} (h : RoomZ (fun i => H.size ≤ i) H1 v z cap cs) (hw : WF H1) (hn : cs.length = n * z) (hp : pLen [v] = some (.int .i64 (n : Int))) (hc : cap < 9223372036854775808) (L : Lab) (b key : Nat) : LstZ (labN L H.size b (2 * key + 4)) b key H1 v z cap n cs :=
 ⟨h.weaken hw fun i _ e => labN_ge L _ _ e, hn, hp, hc⟩
theorem LstZ.rd {L : Lab} {b key : Nat} {H : Heap} {v : V} {z cap n : Nat} {cs : List V} (h : LstZ L b key H v z cap n cs) : Rd H z v n cs ∧ Src H v := h.1.rd h.2.1 h.2.2.1
def KeepZ (c : CallK) (f z : Nat) (Good : List V → Nat → Prop) : Prop :=
 ∀ (L : Lab) (b K : Nat) (its : List ItZ) (H : Heap) (x : V) (cap n : Nat) (cs : List V) (key : Nat), WF H → BookZ z (selL b L) H K its → key ∉ its.map ItZ.key → LstZ L b key H x z cap n cs → cs.all V.scal = true → n < 1000000000 → its.length + 1 < 1000000 →
  (∀ it ∈ its, Good it.cs it.n) → Good cs n → ∀ τ, ∃ its' H' τ' L', BookZ z (selL b L') H' K its' ∧ (∀ it ∈ its', it ∈ its ∨ (it.key = key ∧ it.cs = cs ∧ it.n = n)) ∧ its'.length ≤ its.length + 1 ∧ Chg (OfB L b) H H' ∧ (∀ i, i < H.size → L' i = L i) ∧ ∀ q, c f [.ptr K 0, x] H τ q = q (.tup []) H' τ'
theorem KeepZ.mk {c : CallK} {f z : Nat} {Good : List V → Nat → Prop}
  (h : ∀ (lab : Nat → Nat) (H : Heap), WF H → ∀ (K : Nat) (its : List ItZ), BookZ z lab H K its → ∀ (x : V) (cap n : Nat) (cs : List V) (key : Nat), key ∉ its.map ItZ.key → RoomZ (fun i => lab i = 2 * key + 4) H x z cap cs → cs.length = n * z → pLen [x] = some (.int .i64 (n : Int)) → cap < 9223372036854775808 → cs.all V.scal = true → n < 1000000000 → its.length + 1 < 1000000 →
   (∀ it ∈ its, Good it.cs it.n) → Good cs n → ∀ τ, ∃ its' H' τ' lab', BookZ z lab' H' K its' ∧ ((∀ it ∈ its', it ∈ its ∨ (it.key = key ∧ it.cs = cs ∧ it.n = n)) ∧ its'.length ≤ its.length + 1) ∧ Chg (fun i => lab i = 1 ∨ lab i = 2 ∨ lab i = 3) H H' ∧ (∀ i, i < H.size → lab' i = lab i) ∧ ∀ q, c f [.ptr K 0, x] H τ q = q (.tup []) H' τ') : KeepZ c f z Good := by
 intro L b K its H x cap n cs key hw hb hk hx hs hn hits hg hg' τ
 obtain ⟨x1, x2, x3, x4⟩ := hx
 obtain ⟨its', H', τ', lab', h1, h2, h3, h4, h5⟩ := h (selL b L) H hw K its hb x cap n cs key hk (x1.weaken hw fun i _ e => selL_at e) x2 x3 x4 hs hn hits hg hg' τ
 have e : selL b (fun i => if i < H.size then L i else (b, lab' i)) = lab' := by
  funext i
  by_cases hi : i < H.size
  ·rw [h4 i hi]; unfold selL; simp [hi]
  ·unfold selL; simp [hi]
 refine ⟨its', H', τ', fun i => if i < H.size then L i else (b, lab' i), by rw [e]; exact h1, h2.1, h2.2, h3.weaken fun i _ q => ?_, fun i hi => if_pos hi, h5⟩
 have hne : selL b L i ≠ 0 := by omega
 obtain ⟨a1, a2⟩ := selL_ne hne
 exact ⟨a1, by omega, by omega⟩
def ApartZ (c : CallK) (f z fm : Nat) (Good : List V → Nat → Prop) : Prop :=
 ∀ (L : Lab) (b K : Nat) (its : List ItZ) (H : Heap), WF H → BookZ z (selL b L) H K its → its.length < 1000000 → (∀ it ∈ its, Good it.cs it.n) → ∀ τ, ∃ H' τ', Chg (Of L b) H H' ∧ ∀ q, c f [.ptr K 0, .func fm [] []] H τ q = q (.bool true) H' τ'
theorem ApartZ.mk {c : CallK} {f z fm : Nat} {Good : List V → Nat → Prop}
  (h : ∀ (lab : Nat → Nat) (K : Nat) (its : List ItZ), its.length < 1000000 → (∀ it ∈ its, Good it.cs it.n) → ∀ H, WF H → BookZ z lab H K its → ∀ τ, ∃ H' τ', Chg (fun i => lab i ≠ 0) H H' ∧ ∀ q, c f [.ptr K 0, .func fm [] []] H τ q = q (.bool true) H' τ') : ApartZ c f z fm Good := by
 intro L b K its H hw hb hl hg τ
 obtain ⟨H', τ', h1, h2⟩ := h (selL b L) K its hl hg H hw hb τ
 exact ⟨H', τ', h1.weaken fun i _ q => ⟨(selL_ne q).1, by rw [(selL_ne q).2]; exact q⟩, h2⟩
theorem LstZ.mono {L : Lab} {b key : Nat} {H H1 : Heap} {v : V} {z cap n : Nat} {cs : List V} (h : LstZ L b key H v z cap n cs) (hw : WF H) (b' m : Nat) (g : Gr H.size H H1) : LstZ (labN L H.size b' m) b key H1 v z cap n cs := h.grL hw g fun i hi => labN_lt L _ _ hi
theorem BookZ.mono {z b : Nat} {L : Lab} {H H1 : Heap} {K : Nat} {its : List ItZ} (h : BookZ z (selL b L) H K its) (hw : WF H) (b' m : Nat) (g : Gr H.size H H1) : BookZ z (selL b (labN L H.size b' m)) H1 K its := h.grL hw g fun i hi => labN_lt L _ _ hi
theorem OfB.of {L : Lab} {b : Nat} {H H1 : Heap} (h : Chg (OfB L b) H H1) : Chg (Of L b) H H1 := h.weaken fun i _ q => ⟨q.1, q.2.1⟩
theorem Of.gr {L : Lab} {b B : Nat} {H H1 : Heap} (h : Chg (Of L b) H H1) (hB : B ≤ H.size) (hL : ∀ i, i < B → L i = (0, 0)) : Gr B H H1 := h.gr hB fun i hi q => by
 have q : (L i).1 = b ∧ (L i).2 ≠ 0 := q
 rw [hL i hi] at q
 exact q.2 rfl
end Go.Am

namespace Go.Am
section
variable (P : Program) (f : FuncId) (fn : Func) (s : ChangeSpec) (c : OpenClaim)
def jA : Bool := c.wf (OpenSpec.ofChange s) && laidOutB P && mapsRowed P &&
 fn.params.all (P.readableRec ·) && namedTie P c.named s.vars &&
 (c.stops == []) && (P.stops == []) && (c.knobs == []) && (P.stopKnobs == [])
def jB : Bool := c.inPlace == P.inPlace f
def jC : Bool := c.unfollowed == P.unfollowed f
def jD : Bool := c.recurses == P.recurses f
def jE : Bool := c.named == P.varsNamed f
def jF : Bool := (c.maps == (fn.params.toList ++ s.plain.varTypes P).any (P.mapsRec ·)) && (c.ifaces == (fn.params.toList ++ s.plain.varTypes P).any (P.ifacesRec ·)) && (c.mapsOut == P.mapsAmong fn.resultTypes.toList) &&
 (c.loops == (fn.params.toList ++ s.plain.varTypes P).any (P.loopsFrom ·)) && (c.wideKeys == (fn.params.toList ++ s.plain.varTypes P ++ fn.resultTypes.toList).any (P.wideKeysFrom ·)) &&
 s.vars.all (P.varReadable ·) && fn.resultTypes.all (fun t => P.readableRec t && decide (t < P.types.size)) && (c.ifacesOut == fn.resultTypes.toList.any (P.ifacesRec ·)) && (c.loopsOut == fn.resultTypes.toList.any (P.loopsFrom ·)) && (c.plainKeys == P.plainKeys) && c.shortTexts.isNone
def jG : Bool := P.stopsHeard
def jH : Bool := P.mayEnter
def jI : Bool := (c.lifted == P.liftsFinal) && (P.make == some c.make) && (c.kinds == (if c.domain.isEmpty then [] else fn.params.toList.map fun t => match P.underlying t with | some (.int k) => some k | _ => none)) && (c.pinned == c.pinnedBy) &&
 (c.veiled == (fn.params.toList ++ s.plain.varTypes P ++ fn.resultTypes.toList).any (P.veiledRec ·)) && c.veiledFits P fn.params.toList (fn.params.toList ++ s.plain.varTypes P ++ fn.resultTypes.toList)
end
theorem joined_of {P : Program} {f : FuncId} {fn : Func} {s : ChangeSpec} {c : OpenClaim} (hA : jA P fn s c = true) (hB : jB P f c = true) (hC : jC P f c = true) (hD : jD P f c = true) (hE : jE P f c = true) (hF : jF P fn s c = true) (hG : jG P = true) (hH : jH P = true) (hI : jI P fn s c = true) : joinedFacts P f fn s c = true := by
 simp only [jA, jB, jC, jD, jE, jF, jG, jH, jI, Bool.and_eq_true, and_assoc] at hA hB hC hD hE hF hG hH hI
 simp only [joinedFacts, Bool.and_eq_true, and_assoc]
 exact ⟨hA.1, hA.2.1, hA.2.2.1, hA.2.2.2.1, hA.2.2.2.2.1, hA.2.2.2.2.2.1, hA.2.2.2.2.2.2.1, hA.2.2.2.2.2.2.2.1, hA.2.2.2.2.2.2.2.2, hB, hC, hD, hE, hF.1, hF.2.1, hF.2.2.1, hF.2.2.2.1, hF.2.2.2.2.1, hF.2.2.2.2.2.1, hF.2.2.2.2.2.2.1, hF.2.2.2.2.2.2.2.1, hF.2.2.2.2.2.2.2.2.1, hF.2.2.2.2.2.2.2.2.2.1, hF.2.2.2.2.2.2.2.2.2.2, hG, hH, hI.1, hI.2.1, hI.2.2.1, hI.2.2.2.1, hI.2.2.2.2.1, hI.2.2.2.2.2⟩
end Go.Am

namespace Go.Am
open Go.RowKit (Below)
def flat : V → Bool
 | .bool _ => true
 | .int _ _ => true
 | .str _ => true
 | .agg cs => cs.all plainV
 | .tup cs => cs.all plainV
 | _ => false
end Go.Am

namespace Go.Am
open Go.RowKit (Below)
end Go.Am

namespace Go.Am
theorem Rd.cut {H : Heap} {z : Nat} {v : V} {n : Nat} {cs : List V} (h : Rd H z v n cs) (hs : Src H v) (hr : Roomy v) {l k : Nat} (hl : l ≤ k) (hk : k ≤ n) :
  ∃ v', pSlSlice z true true false [v, .int .i64 (l : Int), .int .i64 (k : Int)] = some v' ∧ Roomy v' ∧ Src H v' ∧ Rd H z v' (k - l) ((cs.take (k * z)).drop (l * z)) := by
 have key : ∀ {id off lo ex}, v = .sl id off n lo ex z → ∃ v', pSlSlice z true true false [v, .int .i64 (l : Int), .int .i64 (k : Int)] = some v' ∧ Roomy v' ∧ Src H v' ∧ Rd H z v' (k - l) ((cs.take (k * z)).drop (l * z)) := by
  rintro id off lo ex rfl
  obtain ⟨off', lo', ex', e1, e2, e3⟩ := cut_mk (id := id) (off := off) (z := z) hr hl hk
  refine ⟨_, e1, e3, hs, ?_⟩
  have hlen := h.len
  rcases h with ⟨_, h0, rfl⟩ | ⟨id', off'', lo'', ex'', all, q0, q1, q2, q3⟩
  ·exact .inl ⟨.inr ⟨id, off', lo', ex', by rw [show k - l = 0 by omega]⟩, by omega, by simp⟩
  ·cases q0
   by_cases hlt : l < k
   ·have e2 := e2 hlt
    subst e2
    have hmin : k * z ≤ n * z := Nat.mul_le_mul_right _ hk
    refine .inr ⟨id, _, _, _, all, rfl, q1, ?_, ?_⟩
    ·rw [q2, List.take_take, Nat.min_eq_left hmin, List.drop_take, List.drop_drop, Nat.sub_mul]
    ·rw [List.length_drop, List.length_take, hlen, Nat.min_eq_left hmin, Nat.sub_mul]
   ·refine .inl ⟨.inr ⟨id, off', lo', ex', by rw [show k - l = 0 by omega]⟩, by omega, ?_⟩
    rw [List.drop_eq_nil_of_le]
    rw [List.length_take, hlen, Nat.min_eq_left (Nat.mul_le_mul_right _ hk)]
    exact Nat.mul_le_mul_right _ (by omega)
 rcases h with ⟨rfl | ⟨id, off, lo, ex, rfl⟩, rfl, rfl⟩ | ⟨id, off, lo, ex, all, rfl, _, _, h4⟩
 ·obtain rfl : l = 0 := by omega
  obtain rfl : k = 0 := by omega
  exact ⟨.nils, rfl, trivial, trivial, .inl ⟨.inl rfl, rfl, by simp⟩⟩
 ·exact key rfl
 ·exact key rfl
def BodP (P : Nat → Prop) (H : Heap) (v : V) (n : Nat) (cs : List V) : Prop :=
 (v = .nils ∧ n = 0 ∧ cs = []) ∨ ∃ id lo ex room fam ver pl st fr, v = .sl id 0 n lo ex 1 ∧ H.blk.get id = some (.mem cs room fam ver true pl st) ∧ H.fams.get fam = some (fr, ver) ∧ fr ≤ ver ∧ P id ∧ P fam ∧
  cs.length = n ∧ n ≤ lo + ex.getD 0 ∧ lo + ex.getD 0 ≤ room ∧ lo + ex.getD 0 < 9223372036854775808
theorem BodP.nil (P : Nat → Prop) (H : Heap) : BodP P H .nils 0 [] := .inl ⟨rfl, rfl, rfl⟩
theorem BodP.cells {P : Nat → Prop} {H : Heap} {id n lo : Nat} {ex : Option Nat} {cs : List V} (h : BodP P H (.sl id 0 n lo ex 1) n cs) : H.cells? id = some cs := by
 rcases h with ⟨h, _⟩ | ⟨id', lo', ex', room, fam, ver, pl, st, fr, e, h1, h2, h3, _⟩
 ·cases h
 ·cases e
  simp only [Heap.cells?, h1, h2]
  rw [show Nat.ble fr ver = true from Nat.ble_eq_true_of_le h3]
  rfl
theorem BodP.rd {P : Nat → Prop} {H : Heap} {v : V} {n : Nat} {cs : List V} (h : BodP P H v n cs) : Rd H 1 v n cs := by
 have h0 := h
 rcases h with ⟨rfl, rfl, rfl⟩ | ⟨id, lo, ex, room, fam, ver, pl, st, fr, rfl, h1, h2, h3, h4, h5, h6, _⟩
 ·exact .inl ⟨.inl rfl, rfl, rfl⟩
 ·exact .inr ⟨id, 0, lo, ex, cs, rfl, h0.cells, by rw [List.drop_zero, Nat.mul_one, ← h6, List.take_length], by omega⟩
theorem BodP.scal {P : Nat → Prop} {H : Heap} {v : V} {n : Nat} {cs : List V} (h : BodP P H v n cs) : v.cells = [v] ∧ v.scal = true := by
 rcases h with ⟨rfl, _⟩ | ⟨id, lo, ex, room, fam, ver, pl, st, fr, rfl, _⟩ <;> exact ⟨rfl, rfl⟩
theorem BodP.chg {P Q : Nat → Prop} {H H' : Heap} {v : V} {n : Nat} {cs : List V} (h : BodP P H v n cs) (hw : WF H) (hg : Chg Q H H') (hPQ : ∀ i, i < H.size → P i → ¬ Q i) : BodP P H' v n cs := by
 rcases h with h | ⟨id, lo, ex, room, fam, ver, pl, st, fr, e, h1, h2, h3, h4, h5, h6⟩
 ·exact .inl h
 ·exact .inr ⟨id, lo, ex, room, fam, ver, pl, st, fr, e, by rw [hg.blk id (hw.blk _ _ h1) (hPQ _ (hw.blk _ _ h1) h4)]; exact h1, by rw [hg.fams fam (hw.fams _ _ h2) (hPQ _ (hw.fams _ _ h2) h5)]; exact h2, h3, h4, h5, h6⟩
theorem BodP.weaken {P Q : Nat → Prop} {H : Heap} {v : V} {n : Nat} {cs : List V} (h : BodP P H v n cs) (hw : WF H) (hPQ : ∀ i, i < H.size → P i → Q i) : BodP Q H v n cs := by
 rcases h with h | ⟨id, lo, ex, room, fam, ver, pl, st, fr, e, h1, h2, h3, h4, h5, h6⟩
 ·exact .inl h
 ·exact .inr ⟨id, lo, ex, room, fam, ver, pl, st, fr, e, h1, h2, h3, hPQ _ (hw.blk _ _ h1) h4, hPQ _ (hw.fams _ _ h2) h5, h6⟩
end Go.Am

namespace Go.Am
open Go.RowKit (Below)
open Go.Proofs (encStr)
open Go.WideElems (Fit rg rd)
theorem MRel.place {ι : Inj} {base : Base} {w0 w w1 : World} {H : Heap} (h : MRel ι base w0 H w) (hb1 : Below w.heap.size w w1) {g : Nat} (hg1 : w.heap.size ≤ g) (cells : List V) (room : Nat) (pl : Bool) (c : Array Value) (el : TypeId)
  (hheap' : w1.heap[g]? = some (.cells c el (0, 0))) (hvs : VsOk H cells) (hlen : cells.length ≤ room) (hsz : room ≤ c.size) (hc : ∀ (j : Nat) (v : V), cells[j]? = some v → c[j]? = some (cv ι v)) :
  MRel (upd ι H.size (g, 0)) base w0 (H.new cells room pl) w1 := by
 have hev := Evol.new h cells room pl
 have hext := Ext.upd H ι (g, 0)
 have hheap : ∀ b, b < w.heap.size → w1.heap[b]? = w.heap[b]? := hb1.block
 have part : ∀ id cs r fam ver wr p st, (H.new cells room pl).blk.get id = some (.mem cs r fam ver wr p st) →
   (id = H.size ∧ cs = cells ∧ r = room ∧ fam = H.size ∧ ver = 0 ∧ wr = true) ∨ (id < H.size ∧ fam < H.size ∧ H.blk.get id = some (.mem cs r fam ver wr p st)) := by
  intro id cs r fam ver wr p st hg
  by_cases e : id = H.size
  ·subst e
   rw [get_new_new] at hg
   injection hg with hg
   injection hg with h1 h2 h3 h4 h5 h6 h7
   exact .inl ⟨rfl, h1.symm, h2.symm, h3.symm, h4.symm, h5.symm⟩
  ·rw [get_new_old e] at hg
   exact .inr ⟨h.lt _ _ hg, (h.fam _ _ _ _ _ _ _ _ hg).1, hg⟩
 have famOld : ∀ f, f < H.size → (H.new cells room pl).fams.get f = H.fams.get f := fun f hf => by rw [fams_new, if_neg (by omega)]
 have oldBlk : ∀ id cs r fam ver wr p st fr la, H.blk.get id = some (.mem cs r fam ver wr p st) → H.fams.get fam = some (fr, la) → fr ≤ ver → (ι id).1 < w.heap.size :=
  fun id cs r fam ver wr p st fr la h1 h2 h3 => (h.ok id cs r fam ver wr p st fr la h1 h2 h3).block_lt
 refine ⟨h.below.keep h.base_le hb1, Nat.le_trans h.base_le hb1.size, ?_, ?_, ?_, ?_, ?_, ?_, ?_, ?_, ?_, ?_, ?_, ?_, ?_, ?_, ?_⟩
 ·intro id b hg
  by_cases e : id = H.size
  ·subst e; exact Nat.lt_succ_self _
  ·rw [get_new_old e] at hg; exact Nat.lt_succ_of_lt (h.lt _ _ hg)
 ·intro id cs r fam ver wr p st hg
  rcases part _ _ _ _ _ _ _ _ hg with ⟨rfl, _, _, rfl, rfl, _⟩ | ⟨_, hf, hg⟩
  ·exact ⟨Nat.lt_succ_self _, 0, 0, by rw [fams_new, if_pos rfl], Nat.le_refl _⟩
  ·obtain ⟨_, fr, la, h1, h2⟩ := h.fam _ _ _ _ _ _ _ _ hg
   exact ⟨Nat.lt_succ_of_lt hf, fr, la, by rw [famOld _ hf]; exact h1, h2⟩
 ·intro id cs r fam ver wr p st hg
  rcases part _ _ _ _ _ _ _ _ hg with ⟨rfl, rfl, rfl, _⟩ | ⟨_, _, hg⟩
  ·exact ⟨hlen, hvs.mono hev⟩
  ·obtain ⟨h1, h2⟩ := h.cells _ _ _ _ _ _ _ _ hg
   exact ⟨h1, h2.mono hev⟩
 ·intro id cs r fam ver wr p st fr la hg hf hv
  rcases part _ _ _ _ _ _ _ _ hg with ⟨rfl, rfl, rfl, _, _, rfl⟩ | ⟨hid, hf', hg⟩
  ·refine ⟨c, el, 0, 0, by rw [upd_same]; exact hheap', by rw [upd_same]; simpa using hsz, fun j v hv => ?_, fun _ => ?_⟩
   ·rw [upd_same, cv_congr hext v ((VsOk_iff H cs).1 hvs v (List.mem_of_getElem? hv))]
    simpa using hc j v hv
   ·rw [upd_same]; exact ⟨Nat.le_trans h.base_le hg1, .inl rfl⟩
  ·rw [famOld _ hf'] at hf
   have hk := h.ok _ _ _ _ _ _ _ _ _ _ hg hf hv
   exact hk.keep (hheap _ hk.block_lt) (upd_ne ι _ (by omega)) hext (h.cells _ _ _ _ _ _ _ _ hg).2
 ·intro i cs r fam ver p st fr la j cs' r' fam' ver' wr' p' st' fr' la' hi hfi hvi hj hfj hvj he
  rcases part _ _ _ _ _ _ _ _ hi with ⟨rfl, _, _, rfl, _⟩ | ⟨hid, hf, hi⟩
  ·rcases part _ _ _ _ _ _ _ _ hj with ⟨rfl, _, _, rfl, _⟩ | ⟨hjd, hf', hj⟩
   ·rfl
   ·rw [famOld _ hf'] at hfj
    have := oldBlk _ _ _ _ _ _ _ _ _ _ hj hfj hvj
    rw [upd_same, upd_ne ι _ (by omega)] at he
    omega
  ·rw [famOld _ hf] at hfi
   rcases part _ _ _ _ _ _ _ _ hj with ⟨rfl, _, _, rfl, _⟩ | ⟨hjd, hf', hj⟩
   ·have := oldBlk _ _ _ _ _ _ _ _ _ _ hi hfi hvi
    rw [upd_same, upd_ne ι _ (by omega)] at he
    omega
   ·rw [famOld _ hf'] at hfj
    rw [upd_ne ι _ (by omega), upd_ne ι _ (by omega)] at he
    exact h.sep _ _ _ _ _ _ _ _ _ _ _ _ _ _ _ _ _ _ _ hi hfi hvi hj hfj hvj he
 ·intro i cs r fam ver wr p st j cs' r' wr' p' st' hi hj
  rcases part _ _ _ _ _ _ _ _ hi with ⟨rfl, _, _, rfl, _⟩ | ⟨hid, hf, hi⟩
  ·rcases part _ _ _ _ _ _ _ _ hj with ⟨rfl, _⟩ | ⟨_, hf', _⟩
   ·rfl
   ·omega
  ·rcases part _ _ _ _ _ _ _ _ hj with ⟨_, _, _, rfl, _⟩ | ⟨_, _, hj⟩
   ·omega
   ·exact h.ver _ _ _ _ _ _ _ _ _ _ _ _ _ _ hi hj
 ·intro id s pos hg
  by_cases e : id = H.size
  ·subst e; rw [get_new_new] at hg; cases hg
  ·rw [get_new_old e] at hg
   obtain ⟨ha, hz, hb⟩ := h.iter _ _ _ hg
   rw [upd_ne ι _ e]
   exact ⟨ha, hz, by rw [hheap _ (Array.getElem?_eq_some_iff.1 hb).1]; exact hb⟩
 ·intro f x hg
  rw [fams_new] at hg
  by_cases e : H.size = f
  ·subst e; exact Nat.lt_succ_self _
  ·rw [if_neg e] at hg; exact Nat.lt_succ_of_lt (h.famlt _ _ hg)
 ·intro i cs r fam ver wr p st fr la j cs' r' ver' wr' p' st' hi hf hvi hj hvj he hle
  rcases part _ _ _ _ _ _ _ _ hi with ⟨rfl, rfl, _, rfl, _⟩ | ⟨hid, hf', hi⟩
  ·rcases part _ _ _ _ _ _ _ _ hj with ⟨rfl, rfl, _⟩ | ⟨_, hf'', _⟩
   ·exact Nat.le_refl _
   ·omega
  ·rcases part _ _ _ _ _ _ _ _ hj with ⟨_, _, _, rfl, _⟩ | ⟨hjd, _, hj⟩
   ·omega
   ·rw [famOld _ hf'] at hf
    rw [upd_ne ι _ (by omega), upd_ne ι _ (by omega)] at he ⊢
    exact h.ends _ _ _ _ _ _ _ _ _ _ _ _ _ _ _ _ _ hi hf hvi hj hvj he hle
 ·intro i s p j s' p' hi hj he
  have hi' : i ≠ H.size := fun e => by subst e; rw [get_new_new] at hi; cases hi
  have hj' : j ≠ H.size := fun e => by subst e; rw [get_new_new] at hj; cases hj
  rw [get_new_old hi'] at hi
  rw [get_new_old hj'] at hj
  rw [upd_ne ι _ hi', upd_ne ι _ hj'] at he
  exact h.isep _ _ _ _ _ _ hi hj he
 ·intro id cs r fam ver wr p st fr la hg hf hv
  rcases part _ _ _ _ _ _ _ _ hg with ⟨rfl, _⟩ | ⟨hid, hf', hg⟩
  ·rw [upd_same]; exact fun hm => absurd (h.below.gh _ hm).1 (by simp only; omega)
  ·rw [famOld _ hf'] at hf
   rw [upd_ne ι _ (by omega)]
   exact h.gh _ _ _ _ _ _ _ _ _ _ hg hf hv
 ·intro id cs r fam ver wr st fr la hg hf hv hw
  rcases part _ _ _ _ _ _ _ _ hg with ⟨rfl, _⟩ | ⟨hid, hf', hg⟩
  ·rw [upd_same]; exact ⟨c, el, 0, hheap'⟩
  ·rw [famOld _ hf'] at hf
   rw [upd_ne ι _ (by omega)]
   obtain ⟨c', el', lo', e⟩ := h.plok _ _ _ _ _ _ _ _ _ hg hf hv hw
   exact ⟨c', el', lo', by rw [hheap _ (Array.getElem?_eq_some_iff.1 e).1]; exact e⟩
 ·intro i cs r fam ver wr p st j cs' r' ver' wr' p' st' hi hj
  by_cases ei : i = H.size
  ·subst ei
   rw [get_new_new] at hi
   injection hi with hi
   injection hi with _ _ e3 _ _ e6 _
   by_cases ej : j = H.size
   ·subst ej
    rw [get_new_new] at hj
    injection hj with hj
    injection hj with _ _ _ _ _ e6' _
    rw [← e6, ← e6']
   ·rw [get_new_old ej] at hj
    have := (h.fam _ _ _ _ _ _ _ _ hj).1
    omega
  ·rw [get_new_old ei] at hi
   by_cases ej : j = H.size
   ·subst ej
    rw [get_new_new] at hj
    injection hj with hj
    injection hj with _ _ e3 _ _ _ _
    have := (h.fam _ _ _ _ _ _ _ _ hi).1
    omega
   ·rw [get_new_old ej] at hj
    exact h.plfam _ _ _ _ _ _ _ _ _ _ _ _ _ _ _ hi hj
 ·intro id es clk hg
  by_cases e : id = H.size
  ·subst e; rw [get_new_new] at hg; cases hg
  ·rw [get_new_old e] at hg
   obtain ⟨a, ⟨ents, clock, b, k⟩, d⟩ := h.maps _ _ _ hg
   rw [upd_ne ι _ e]
   exact ⟨a, ⟨ents, clock, by rw [hheap _ (Array.getElem?_eq_some_iff.1 b).1]; exact b, k.ext (H := H) hext d⟩, fun p hp => (d p hp).mono hev⟩
 ·intro i es c1 j es' c2 hi hj he
  have hi' : i ≠ H.size := fun e => by subst e; rw [get_new_new] at hi; cases hi
  have hj' : j ≠ H.size := fun e => by subst e; rw [get_new_new] at hj; cases hj
  rw [get_new_old hi'] at hi
  rw [get_new_old hj'] at hj
  rw [upd_ne ι _ hi', upd_ne ι _ hj'] at he
  exact h.msep _ _ _ _ _ _ hi hj he
end Go.Am

namespace Go.Am
def CapP (P : Nat → Prop) (H : Heap) (z : Nat) (v : V) (n : Nat) (cs : List V) : Prop :=
 OwnP P H z v n cs ∨ ∃ id lo all, v = .sl id 0 n lo none z ∧ Bx H id all ∧ P id ∧ n ≤ lo ∧ all.length = lo * z ∧ cs.length = n * z ∧ all.take (n * z) = cs
theorem CapP.new (P : Nat → Prop) (H : Heap) (z lo : Nat) (all : List V) (hl : all.length = lo * z) (hP : P H.size) : CapP P (H.new all (lo * z) false) z (.sl H.size 0 0 lo none z) 0 [] :=
 .inr ⟨H.size, lo, all, rfl, Bx.new H all (lo * z) false (by omega), hP, Nat.zero_le _, hl, by simp, by simp⟩
theorem CapP.rd {P : Nat → Prop} {H : Heap} {z : Nat} {v : V} {n : Nat} {cs : List V} (h : CapP P H z v n cs) : Rd H z v n cs := by
 rcases h with h | ⟨id, lo, all, rfl, h1, h2, h3, h4, h5, h6⟩
 ·exact h.rd
 ·exact .inr ⟨id, 0, lo, none, all, rfl, h1.cells, by rw [List.drop_zero, h6], h5⟩
theorem CapP.chg {P Q : Nat → Prop} {H H' : Heap} {z : Nat} {v : V} {n : Nat} {cs : List V} (h : CapP P H z v n cs) (hw : WF H) (hg : Chg Q H H') (hPQ : ∀ i, i < H.size → P i → ¬ Q i) : CapP P H' z v n cs := by
 rcases h with h | ⟨id, lo, all, h0, h1, h2, h3⟩
 ·exact .inl (h.chg hw hg hPQ)
 ·exact .inr ⟨id, lo, all, h0, h1.chg hw hg (hPQ _ (h1.lt hw) h2), h2, h3⟩
theorem Bx.storesL {H : Heap} {id : Nat} {cs : List V} (h : Bx H id cs) (hw : WF H) (off : Nat) (vs : List V) (hl : off + vs.length ≤ cs.length) (h0 : 0 < vs.length) (hs : vs.all V.scal = true) :
  ∃ H', H.stores id off vs = some H' ∧ Bx H' id (cs.take off ++ vs ++ cs.drop (off + vs.length)) ∧ Only id H H' := by
 obtain ⟨H', r1, r2, r3⟩ := h.eStore hw off (.agg vs) vs.length rfl hl h0 hs (fun _ => 0)
 refine ⟨H', ?_, r2, r3⟩
 simp only [Am.eStore, V.cells, Nat.beq_refl, cond_true] at r1
 cases hst : H.stores id off vs with
 | none => rw [hst] at r1; cases r1
 | some x => rw [hst] at r1; cases r1; rfl
abbrev NewIn (P : Nat → Prop) (H : Heap) : Prop := ∀ i, H.size ≤ i → P i
theorem CapP.append {P : Nat → Prop} {H : Heap} {z bytes : Nat} {v : V} {m : Nat} {cs : List V} (h : CapP P H z v m cs) (hw : WF H) (hP : NewIn P H) (n : Nat) (new : List V) (hz : 0 < z) (hn : 0 < n) (hl : new.length = n * z) (hs : new.all V.scal = true)
  (h1 : (m + n) * bytes ≤ 140737488355328) (h2 : m + n ≤ 140737488355328) (τ : Tape) :
  ∃ v' H' τ', Am.append H z bytes v n new τ = some (v', H', τ') ∧ CapP P H' z v' (m + n) (cs ++ new) ∧ Chg P H H' := by
 rcases h with h | ⟨id, lo, all, rfl, k1, kP, k2, k3, k4, k5⟩
 ·obtain ⟨v', H', r1, r2, r3, _⟩ := h.append hw n new hn hl hs h1 h2 τ
  exact ⟨v', H', _, r1, .inl (r2.weaken r3.wf fun i _ h => h.elim (·.2) (hP i)), r3⟩
 ·have hnz : 0 < n * z := Nat.mul_pos hn hz
  by_cases hin : m + n ≤ lo
  ·have hle : m * z + n * z ≤ lo * z := by rw [← Nat.add_mul]; exact Nat.mul_le_mul_right _ hin
   obtain ⟨H', r1, r2, r3⟩ := k1.storesL hw (m * z) new (by omega) (by omega) hs
   have e3 : Nat.ble (m + n) lo = true := Nat.ble_eq_true_of_le hin
   refine ⟨.sl id 0 (m + n) lo none z, H', τ, ?_, .inr ⟨id, lo, _, rfl, r2, kP, hin, ?_, ?_, ?_⟩, r3.chg kP⟩
   ·simp only [Am.append, Nat.beq_refl, cond_true, e3, Nat.zero_add, r1]
   ·simp only [List.length_append, List.length_take, List.length_drop]; omega
   ·rw [List.length_append, k4, hl, Nat.add_mul]
   ·rw [k5, List.take_append_of_le_length (by rw [List.length_append, k4, hl, Nat.add_mul]; exact Nat.le_refl _)]
    exact List.take_of_length_le (by rw [List.length_append, k4, hl, Nat.add_mul]; exact Nat.le_refl _)
  ·have e3 : Nat.ble (m + n) lo = false := by
    cases hb : Nat.ble (m + n) lo with
    | false => rfl
    | true => have := Nat.le_of_ble_eq_true hb; omega
   have hloads : H.loads id 0 (m * z) = some cs := by
    simp only [Heap.loads, k1.cells, List.drop_zero]
    rw [takeN_all _ _ (by rw [k3]; exact Nat.mul_le_mul_right _ k2), k5]
   refine ⟨.sl H.size 0 (m + n) (m + n) (some (spare (m + n) (τ 0))) z, H.new (cs ++ new) ((m + n + spare (m + n) (τ 0)) * z) false, τ.tail, ?_, .inl ?_, (Gr.new hw _ _ _).chg⟩
   ·simp only [Am.append, Nat.beq_refl, cond_true, e3, cond_false, Nat.ble_eq_true_of_le h1, Nat.ble_eq_true_of_le h2, Bool.and_self, hloads, fresh]
   ·exact .inr ⟨H.size, spare (m + n) (τ 0), _, H.size, 0, false, 0, 0, rfl, T.get_set_same _ _ _, T.get_set_same _ _ _, Nat.le_refl _, hP _ (Nat.le_refl _), hP _ (Nat.le_refl _), by rw [List.length_append, k4, hl, Nat.add_mul]⟩
theorem CapP.put {P : Nat → Prop} {H : Heap} {z bytes : Nat} {v : V} {m : Nat} {cs : List V} (h : CapP P H z v m cs) (hw : WF H) (hP : NewIn P H) (new : List V) (hz : 0 < z) (hl : new.length = z) (hs : new.all V.scal = true)
  (h1 : (m + 1) * bytes ≤ 140737488355328) (h2 : m + 1 ≤ 140737488355328) (τ : Tape) (pl : Bool) :
  ∃ v' H' τ', eAppend z bytes [v, .sl H.size 0 1 1 none z] (H.new new z pl) τ = some (v', H', τ') ∧ CapP P H' z v' (m + 1) (cs ++ new) ∧ Chg P H H' := by
 have hG := Gr.new hw new z pl
 have hc := cells_new H new z pl
 obtain ⟨v', H', τ', r1, r2, r3⟩ := (h.chg hw (hG.chg (P := fun _ => False)) fun _ _ _ => not_false).append (bytes := bytes) hG.wf (fun i hi => hP i (Nat.le_trans hG.size hi)) 1 new hz (by omega) (by omega) hs h1 h2 τ
 refine ⟨v', H', τ', ?_, r2, (hG.chg (P := fun _ => False)).weaken (fun _ _ h => h.elim) |>.trans r3 fun _ _ h => h⟩
 have hld : (H.new new z pl).loads H.size 0 (1 * z) = some new := by
  rw [loads_cells hc (by omega), List.drop_zero, List.take_of_length_le (by omega)]
 simp only [eAppend, srcLen, srcCells, Nat.beq_refl, cond_true, hld, r1]
theorem Iter.chg {P : Nat → Prop} {H H' : Heap} {id : Nat} {s : List UInt8} {pos : Nat} (h : Iter H id s pos) (hw : WF H) (g : Chg P H H') (hid : ¬ P id) : Iter H' id s pos := by unfold Iter; rw [g.blk id (h.lt hw) hid]; exact h
theorem boxN {H : Heap} (hw : WF H) (n : Nat) (zs xs : List V) (hz : zs.length = n) (hx : xs.length = n) (h0 : 0 < n) (hs : xs.all V.scal = true) (τ : Tape) :
  ∃ H1 H2, eAlloc zs [] H τ = some (.ptr H.size 0, H1, τ) ∧ eStore n [.ptr H.size 0, .agg xs] H1 τ = some (.tup [], H2, τ) ∧ Bx H2 H.size xs ∧ Gr H.size H H2 ∧ H.size < H2.size := by
 have g1 := Gr.new hw zs zs.length true
 have b1 := Bx.new H zs zs.length true (Nat.le_refl _)
 obtain ⟨H2, s2, b2, o2⟩ := b1.eStore g1.wf 0 (.agg xs) n hx (by omega) h0 hs τ
 refine ⟨_, H2, rfl, s2, ?_, g1.trans (o2.gr (Nat.le_refl _)) (Nat.le_refl _), b2.lt o2.wf⟩
 have e : zs.take 0 ++ (V.agg xs).cells ++ zs.drop (0 + n) = xs := by
  rw [List.take_zero, List.nil_append, V.cells, List.drop_eq_nil_of_le (by omega), List.append_nil]
 rwa [e] at b2
theorem CapP.weaken {P Q : Nat → Prop} {H : Heap} {z : Nat} {v : V} {n : Nat} {cs : List V} (h : CapP P H z v n cs) (hw : WF H) (hPQ : ∀ i, i < H.size → P i → Q i) : CapP Q H z v n cs := by
 rcases h with h | ⟨id, lo, all, h0, h1, h2, h3⟩
 ·exact .inl (h.weaken hw hPQ)
 ·exact .inr ⟨id, lo, all, h0, h1, hPQ _ (h1.lt hw) h2, h3⟩
theorem CapP.lt4 {P : Nat → Prop} {H : Heap} {z : Nat} {v : V} {n : Nat} {cs : List V} (h : CapP P H z v n cs) (hw : WF H) : CapP (fun i => i < H.size) H z v n cs := h.weaken hw fun i hi _ => hi
end Go.Am

namespace Go.Am
def BlkP (P : Nat → Prop) (H : Heap) (id : Nat) (cs : List V) : Prop :=
 ∃ room fam ver pl st fr, H.blk.get id = some (.mem cs room fam ver true pl st) ∧ H.fams.get fam = some (fr, ver) ∧ fr ≤ ver ∧ P id ∧ P fam
theorem BlkP.cells {P : Nat → Prop} {H : Heap} {id : Nat} {cs : List V} (h : BlkP P H id cs) : H.cells? id = some cs := by
 obtain ⟨room, fam, ver, pl, st, fr, h1, h2, h3, _, _⟩ := h
 simp only [Heap.cells?, h1, h2]
 rw [show Nat.ble fr ver = true from Nat.ble_eq_true_of_le h3]
 rfl
theorem BlkP.lt {P : Nat → Prop} {H : Heap} {id : Nat} {cs : List V} (h : BlkP P H id cs) (hw : WF H) : id < H.size := hw.cells_lt h.cells
theorem BlkP.chg {P Q : Nat → Prop} {H H' : Heap} {id : Nat} {cs : List V} (h : BlkP P H id cs) (hw : WF H) (hg : Chg Q H H') (hPQ : ∀ i, i < H.size → P i → ¬ Q i) : BlkP P H' id cs := by
 obtain ⟨room, fam, ver, pl, st, fr, h1, h2, h3, h4, h5⟩ := h
 have a := hw.blk _ _ h1
 have b := hw.fams _ _ h2
 exact ⟨room, fam, ver, pl, st, fr, by rw [hg.blk id a (hPQ _ a h4)]; exact h1, by rw [hg.fams fam b (hPQ _ b h5)]; exact h2, h3, h4, h5⟩
theorem BlkP.weaken {P Q : Nat → Prop} {H : Heap} {id : Nat} {cs : List V} (h : BlkP P H id cs) (hw : WF H) (hPQ : ∀ i, i < H.size → P i → Q i) : BlkP Q H id cs := by
 obtain ⟨room, fam, ver, pl, st, fr, h1, h2, h3, h4, h5⟩ := h
 exact ⟨room, fam, ver, pl, st, fr, h1, h2, h3, hPQ _ (hw.blk _ _ h1) h4, hPQ _ (hw.fams _ _ h2) h5⟩
theorem BlkP.stores {P : Nat → Prop} {H : Heap} {id : Nat} {cs : List V} (h : BlkP P H id cs) (hw : WF H) (off : Nat) (vs : List V) (hl : off + vs.length ≤ cs.length) (hs : vs.all V.scal = true) :
  ∃ H', H.stores id off vs = some H' ∧ BlkP P H' id (cs.take off ++ vs ++ cs.drop (off + vs.length)) ∧ Chg P H H' ∧ H'.size = H.size := by
 obtain ⟨room, fam, ver, pl, st, fr, h1, h2, h3, h4, h5⟩ := h
 cases vs with
 | nil => exact ⟨H, rfl, by simpa using ⟨room, fam, ver, pl, st, fr, h1, h2, h3, h4, h5⟩, Chg.refl hw, rfl⟩
 | cons v vs =>
  have hroom : H.room? id = room := by simp only [Heap.room?, h1]
  have hov := over_in off room (v :: vs) cs hl
  refine ⟨{ size := H.size, blk := H.blk.set id (.mem (cs.take off ++ (v :: vs) ++ cs.drop (off + (v :: vs).length)) room fam ver true pl (st + 1)), fams := H.fams.set fam (ver, ver) }, ?_, ?_, ?_, rfl⟩
  ·simp only [Heap.stores, hs, cond_true, Heap.write, h1, h2, hroom, hov]
   rw [show Nat.beq ver ver = true from Nat.beq_refl ver, show Nat.ble fr ver = true from Nat.ble_eq_true_of_le h3]
   rfl
  ·exact ⟨room, fam, ver, pl, st + 1, ver, T.get_set_same _ _ _, T.get_set_same _ _ _, Nat.le_refl _, h4, h5⟩
  ·have hid := hw.blk _ _ h1
   have hfam := hw.fams _ _ h2
   refine ⟨⟨?_, ?_, ?_⟩, Nat.le_refl _, fun i _ hi => ?_, fun f _ hf => ?_⟩
   ·intro i b hb
    simp only [T.get_set] at hb ⊢
    split at hb
    ·omega
    ·exact hw.blk _ _ hb
   ·intro f x hf
    simp only [T.get_set] at hf ⊢
    split at hf
    ·omega
    ·exact hw.fams _ _ hf
   ·intro i c r f v' w p s hb
    simp only [T.get_set] at hb ⊢
    split at hb
    ·cases hb; exact hfam
    ·exact hw.fam _ _ _ _ _ _ _ _ hb
   ·simp only [T.get_set]; rw [if_neg (fun e => hi (by rw [e] at h4; exact h4))]
   ·simp only [T.get_set]; rw [if_neg (fun e => hf (by rw [e] at h5; exact h5))]
theorem BlkP.eStore {P : Nat → Prop} {H : Heap} {id : Nat} {cs : List V} (h : BlkP P H id cs) (hw : WF H) (off : Nat) (x : V) (n : Nat) (hn : x.cells.length = n) (hl : off + n ≤ cs.length) (hs : x.cells.all V.scal = true) (τ : Tape) :
  ∃ H', Am.eStore n [.ptr id off, x] H τ = some (.tup [], H', τ) ∧ BlkP P H' id (cs.take off ++ x.cells ++ cs.drop (off + n)) ∧ Chg P H H' ∧ H'.size = H.size := by
 obtain ⟨H', h1, h2, h3, h4⟩ := h.stores hw off x.cells (by omega) hs
 refine ⟨H', ?_, by rw [← hn]; exact h2, h3, h4⟩
 simp only [Am.eStore, hn, h1, Nat.beq_refl, cond_true]
def GenL (P : Nat → Prop) (H : Heap) (z : Nat) (v : V) (m : Nat) (cs : List V) : Prop :=
 (v = .nils ∧ m = 0 ∧ cs = []) ∨ ∃ id lo ex all, v = .sl id 0 m lo ex z ∧ BlkP P H id all ∧ m ≤ lo ∧ all.length = lo * z ∧ cs.length = m * z ∧ all.take (m * z) = cs
theorem GenL.nil (P : Nat → Prop) (H : Heap) (z : Nat) : GenL P H z .nils 0 [] := .inl ⟨rfl, rfl, rfl⟩
theorem GenL.rd {P : Nat → Prop} {H : Heap} {z : Nat} {v : V} {m : Nat} {cs : List V} (h : GenL P H z v m cs) : Rd H z v m cs := by
 rcases h with ⟨rfl, h⟩ | ⟨id, lo, ex, all, rfl, h1, h2, h3, h4, h5⟩
 ·exact .inl ⟨.inl rfl, h⟩
 ·exact .inr ⟨id, 0, lo, ex, all, rfl, h1.cells, by rw [List.drop_zero, h5], h4⟩
theorem GenL.pLen {P : Nat → Prop} {H : Heap} {z : Nat} {v : V} {m : Nat} {cs : List V} (h : GenL P H z v m cs) : Am.pLen [v] = some (.int .i64 (m : Int)) := h.rd.pLen
theorem GenL.scal {P : Nat → Prop} {H : Heap} {z : Nat} {v : V} {m : Nat} {cs : List V} (h : GenL P H z v m cs) : v.cells = [v] ∧ v.scal = true := by
 rcases h with ⟨rfl, _⟩ | ⟨_, _, _, _, rfl, _⟩ <;> exact ⟨rfl, rfl⟩
theorem GenL.chg {P Q : Nat → Prop} {H H' : Heap} {z : Nat} {v : V} {m : Nat} {cs : List V} (h : GenL P H z v m cs) (hw : WF H) (hg : Chg Q H H') (hPQ : ∀ i, i < H.size → P i → ¬ Q i) : GenL P H' z v m cs := by
 rcases h with h | ⟨id, lo, ex, all, h0, h1, h2⟩
 ·exact .inl h
 ·exact .inr ⟨id, lo, ex, all, h0, h1.chg hw hg hPQ, h2⟩
theorem GenL.weaken {P Q : Nat → Prop} {H : Heap} {z : Nat} {v : V} {m : Nat} {cs : List V} (h : GenL P H z v m cs) (hw : WF H) (hPQ : ∀ i, i < H.size → P i → Q i) : GenL Q H z v m cs := by
 rcases h with h | ⟨id, lo, ex, all, h0, h1, h2⟩
 ·exact .inl h
 ·exact .inr ⟨id, lo, ex, all, h0, h1.weaken hw hPQ, h2⟩
theorem GenL.gr {P : Nat → Prop} {H H' : Heap} {z : Nat} {v : V} {m : Nat} {cs : List V} (h : GenL P H z v m cs) (hw : WF H) (hg : Gr H.size H H') : GenL P H' z v m cs := h.chg hw (hg.chg (P := fun _ => False)) fun _ _ _ => not_false
theorem GenL.append1 {P : Nat → Prop} {H : Heap} {z bytes : Nat} {v : V} {m : Nat} {cs : List V} (h : GenL P H z v m cs) (hw : WF H) (hP : NewIn P H) (new : List V) (hz : 0 < z) (hl : new.length = z) (hs : new.all V.scal = true)
  (h1 : (m + 1) * bytes ≤ 140737488355328) (h2 : m + 1 ≤ 140737488355328) (τ : Tape) :
  ∃ v' H' τ', Am.append H z bytes v 1 new τ = some (v', H', τ') ∧ GenL P H' z v' (m + 1) (cs ++ new) ∧ Chg P H H' := by
 have e1 : Nat.ble ((m + 1) * bytes) 140737488355328 = true := Nat.ble_eq_true_of_le h1
 have e2 : Nat.ble (m + 1) 140737488355328 = true := Nat.ble_eq_true_of_le h2
 rcases h with ⟨rfl, rfl, rfl⟩ | ⟨id, lo, ex, all, rfl, k1, k2, k3, k4, k5⟩
 ·refine ⟨.sl H.size 0 1 1 (some (spare 1 (τ 0))) z, H.new new ((1 + spare 1 (τ 0)) * z) false, τ.tail, ?_, ?_, (Gr.new hw _ _ _).chg⟩
  ·simp only [Am.append, Nat.zero_add] at e1 e2 ⊢
   simp only [e1, e2, Bool.and_self, cond_true, fresh]
  ·exact .inr ⟨H.size, 1, _, new, rfl, ⟨_, H.size, 0, false, 0, 0, T.get_set_same _ _ _, T.get_set_same _ _ _, Nat.le_refl _, hP _ (Nat.le_refl _), hP _ (Nat.le_refl _)⟩, Nat.le_refl _, by omega, by simp; omega, by rw [List.nil_append, Nat.zero_add, Nat.one_mul, ← hl, List.take_length]⟩
 ·by_cases hin : m + 1 ≤ lo
  ·have e3 : Nat.ble (m + 1) lo = true := Nat.ble_eq_true_of_le hin
   have hle : m * z + z ≤ lo * z := by rw [← Nat.succ_mul]; exact Nat.mul_le_mul_right _ hin
   obtain ⟨H', r1, r2, r3, r4⟩ := k1.stores hw (m * z) new (by omega) hs
   refine ⟨.sl id 0 (m + 1) lo ex z, H', τ, ?_, .inr ⟨id, lo, ex, _, rfl, r2, hin, ?_, ?_, ?_⟩, r3⟩
   ·simp only [Am.append, Nat.beq_refl, cond_true, e3, Nat.zero_add, r1]
   ·simp only [List.length_append, List.length_take, List.length_drop]; omega
   ·rw [List.length_append, k4, hl, Nat.succ_mul]
   ·rw [k5, List.take_append_of_le_length (by rw [List.length_append, k4, hl, Nat.succ_mul]; exact Nat.le_refl _)]
    exact List.take_of_length_le (by rw [List.length_append, k4, hl, Nat.succ_mul]; exact Nat.le_refl _)
  ·have hml : m = lo := by omega
   subst hml
   have e3 : Nat.ble (m + 1) m = false := by
    cases hb : Nat.ble (m + 1) m with
    | false => rfl
    | true => have := Nat.le_of_ble_eq_true hb; omega
   have hall : all = cs := by rw [← k5, ← k3, List.take_length]
   subst hall
   have hloads : H.loads id 0 (m * z) = some all := by
    simp only [Heap.loads, k1.cells, List.drop_zero]
    rw [takeN_all _ _ (by omega), k5]
   have hlen2 : (all ++ new).length = (m + 1) * z := by rw [List.length_append, k3, hl, Nat.succ_mul]
   cases ex with
   | none =>
    refine ⟨.sl H.size 0 (m + 1) (m + 1) (some (spare (m + 1) (τ 0))) z, H.new (all ++ new) ((m + 1 + spare (m + 1) (τ 0)) * z) false, τ.tail, ?_, ?_, (Gr.new hw _ _ _).chg⟩
    ·simp only [Am.append, Nat.beq_refl, cond_true, e3, cond_false, e1, e2, Bool.and_self, hloads, fresh]
    ·exact .inr ⟨H.size, m + 1, _, _, rfl, ⟨_, H.size, 0, false, 0, 0, T.get_set_same _ _ _, T.get_set_same _ _ _, Nat.le_refl _, hP _ (Nat.le_refl _), hP _ (Nat.le_refl _)⟩, Nat.le_refl _, hlen2, hlen2, by rw [← hlen2, List.take_length]⟩
   | some e =>
    obtain ⟨room, fam, ver, pl, st, fr, q1, q2, q3, q4, q5⟩ := k1
    have hid := hw.blk _ _ q1
    have hfam := hw.fams _ _ q2
    have e6 : Nat.beq (0 + m * z) all.length = true := by rw [k3, Nat.zero_add]; exact Nat.beq_refl _
    refine ⟨.sl H.size 0 (m + 1) (m + 1) (some (spare (m + 1) (τ 0))) z, H.version (all ++ new) ((m + 1 + spare (m + 1) (τ 0)) * z) fam fr ver pl, τ.tail, ?_, ?_, ⟨hw.version _ _ _ _ _ _ hfam, Nat.le_succ _, fun i hi hp => ?_, fun f hf hp => ?_⟩⟩
    ·simp only [Am.append, Nat.beq_refl, cond_true, e3, cond_false, e1, e2, Bool.and_self, hloads, q1, q2, e6, hs]
    ·exact .inr ⟨H.size, m + 1, _, _, rfl, ⟨_, fam, ver + 1, pl, 0, fr, T.get_set_same _ _ _, T.get_set_same _ _ _, by omega, hP _ (Nat.le_refl _), q5⟩, Nat.le_refl _, hlen2, hlen2, by rw [← hlen2, List.take_length]⟩
    ·simp only [Heap.version, T.get_set]; rw [if_neg (by omega)]
    ·simp only [Heap.version, T.get_set]; rw [if_neg (fun e => hp (by rw [e] at q5; exact q5))]
theorem GenL.put {P : Nat → Prop} {H : Heap} {z bytes : Nat} {v : V} {m : Nat} {cs : List V} (h : GenL P H z v m cs) (hw : WF H) (hP : NewIn P H) (new : List V) (hz : 0 < z) (hl : new.length = z) (hs : new.all V.scal = true)
  (h1 : (m + 1) * bytes ≤ 140737488355328) (h2 : m + 1 ≤ 140737488355328) (τ : Tape) (pl : Bool) :
  ∃ v' H' τ', eAppend z bytes [v, .sl H.size 0 1 1 none z] (H.new new z pl) τ = some (v', H', τ') ∧ GenL P H' z v' (m + 1) (cs ++ new) ∧ Chg P H H' ∧ Chg P (H.new new z pl) H' := by
 have hG := Gr.new hw new z pl
 have hc := cells_new H new z pl
 obtain ⟨v', H', τ', r1, r2, r3⟩ := (h.gr hw hG).append1 (bytes := bytes) hG.wf (fun i hi => hP i (Nat.le_trans hG.size hi)) new hz hl hs h1 h2 τ
 refine ⟨v', H', τ', ?_, r2, ((hG.chg (P := fun _ => False)).weaken (fun _ _ h => h.elim)).trans r3 fun _ _ h => h, r3⟩
 have hld : (H.new new z pl).loads H.size 0 (1 * z) = some new := by
  rw [loads_cells hc (by omega), List.drop_zero, List.take_of_length_le (by omega)]
 simp only [eAppend, srcLen, srcCells, Nat.beq_refl, cond_true, hld, r1]
theorem GenL.put_at {P : Nat → Prop} {H : Heap} {z : Nat} {v : V} {m : Nat} {cs : List V} (h : GenL P H z v m cs) (hw : WF H) {i : Nat} (hi : i < m) (hz : 0 < z) (x : List V) (hx : x.length = z) (hs : x.all V.scal = true) (τ : Tape) :
  ∃ p H', pSlIdx z [v, .int .i64 (i : Int)] = some p ∧ (∀ n, n = z → Am.eStore n [p, .agg x] H τ = some (.tup [], H', τ)) ∧ GenL P H' z v m (cs.take (i * z) ++ x ++ cs.drop (i * z + z)) ∧ Chg P H H' := by
 rcases h with ⟨_, h0, _⟩ | ⟨id, lo, ex, all, rfl, k1, k2, k3, k4, k5⟩
 ·omega
 ·have hmul : i * z + z ≤ m * z := by
   have := Nat.mul_le_mul_right z (show i + 1 ≤ m by omega)
   rwa [Nat.succ_mul] at this
  have hlo : m * z ≤ lo * z := Nat.mul_le_mul_right _ k2
  obtain ⟨H', r1, r2, r3, r4⟩ := k1.eStore hw (i * z) (.agg x) z hx (by omega) hs τ
  have hb := blt_yes hi
  refine ⟨.ptr id (0 + i * z), H', by simp only [pSlIdx, natOf_nat, Nat.beq_refl, hb, Bool.and_self, cond_true], fun n hn => by rw [hn, Nat.zero_add]; exact r1, .inr ⟨id, lo, ex, _, rfl, r2, k2, ?_, ?_, ?_⟩, r3⟩
  ·simp only [V.cells, List.length_append, List.length_take, List.length_drop]; omega
  ·simp only [List.length_append, List.length_take, List.length_drop]; omega
  ·rw [← k5, List.take_take, Nat.min_eq_left (by omega), V.cells, List.append_assoc, List.take_append, List.append_assoc, List.length_take, Nat.min_eq_left (by omega)]
   congr 1
   ·exact List.take_of_length_le (by rw [List.length_take]; omega)
   ·rw [List.take_append, List.take_of_length_le (show x.length ≤ m * z - i * z by omega)]
    congr 1
    rw [hx, List.drop_take]
    congr 1; omega
theorem repl_scal {zero : List V} (h : zero.all V.scal = true) (n : Nat) : (repl n zero).all V.scal = true := by
 unfold repl
 rw [List.all_eq_true] at h ⊢
 intro v hv
 rw [List.mem_flatten] at hv
 obtain ⟨l, h1, h2⟩ := hv
 rw [List.eq_of_mem_replicate h1] at h2
 exact h v h2
theorem GenL.upto {P : Nat → Prop} {H : Heap} {z : Nat} {v : V} {m : Nat} {cs : List V} (h : GenL P H z v m cs) {k : Nat} (hk : k ≤ m) (hv : v ≠ .nils) :
  ∃ v', pSlSlice z false true false [v, .int .i64 (k : Int)] = some v' ∧ v' ≠ .nils ∧ GenL P H z v' k (cs.take (k * z)) := by
 rcases h with ⟨rfl, _⟩ | ⟨id, lo, ex, all, rfl, k1, k2, k3, k4, k5⟩
 ·exact absurd rfl hv
 ·have hb : bounds3 false true false [V.int .i64 (k : Int)] = some (none, some k, none) := by simp only [bounds3, optN, natOf_nat]
  have hwi : within k lo ex = true := by rw [within_iff]; exact .inl (by omega)
  have h0 : Nat.ble 0 k = true := Nat.ble_eq_true_of_le (Nat.zero_le _)
  have h0' : Nat.ble 0 lo = true := Nat.ble_eq_true_of_le (Nat.zero_le _)
  have ho : offIn 0 0 lo ex z = 0 := rfl
  have hkz : k * z ≤ m * z := Nat.mul_le_mul_right _ hk
  refine ⟨.sl id 0 k lo ex z, by simp only [pSlSlice, Nat.beq_refl, cond_true, hb, slCut, Option.getD_some, Option.getD_none, hwi, h0, h0', Bool.and_self, ho, Nat.sub_zero], (fun h => by cases h), .inr ⟨id, lo, ex, all, rfl, k1, by omega, k3, ?_, ?_⟩⟩
  ·rw [List.length_take, k4]; exact Nat.min_eq_left hkz
  ·rw [← k5, List.take_take, Nat.min_eq_left hkz]
theorem GenL.clear {P : Nat → Prop} {H : Heap} {z : Nat} {v : V} {m : Nat} {cs : List V} (h : GenL P H z v m cs) (hw : WF H) (hv : v ≠ .nils) {k : Nat} (hk : k ≤ m) (zero : List V) (hzl : zero.length = z) (hzs : zero.all V.scal = true) (τ : Tape) :
  ∃ w H' v', pSlSlice z true false false [v, .int .i64 (k : Int)] = some w ∧ eClear z zero [w] H τ = some (.tup [], H', τ) ∧ pSlSlice z false true false [v, .int .i64 (k : Int)] = some v' ∧ v' ≠ .nils ∧ GenL P H' z v' k (cs.take (k * z)) ∧ Chg P H H' := by
 obtain ⟨v', u1, u2, u3⟩ := h.upto hk hv
 rcases h with ⟨rfl, _⟩ | ⟨id, lo, ex, all, rfl, k1, k2, k3, k4, k5⟩
 ·exact absurd rfl hv
 ·obtain ⟨off', lo', ex', m1, m2, m3⟩ := from_mk (id := id) (off := 0) (n := m) (lo := lo) (z := z) (ex := ex) (by rw [within_iff]; exact .inl k2) hk
  have hkz : k * z ≤ m * z := Nat.mul_le_mul_right _ hk
  have hmz : m * z ≤ lo * z := Nat.mul_le_mul_right _ k2
  have hrl : (repl (m - k) zero).length = m * z - k * z := by rw [repl_length, hzl, Nat.sub_mul]
  have hB : Nat.beq zero.length z = true := by rw [hzl]; exact Nat.beq_refl _
  by_cases hlt : k < m
  ·have ho := m2 hlt
   rw [Nat.zero_add] at ho
   subst ho
   obtain ⟨H', r1, r2, r3, r4⟩ := k1.stores hw (k * z) (repl (m - k) zero) (by omega) (repl_scal hzs _)
   refine ⟨_, H', v', m1, ?_, u1, u2, ?_, r3⟩
   ·simp only [eClear, Nat.beq_refl, hB, Bool.and_self, cond_true, r1]
   ·rcases u3 with ⟨e, _⟩ | ⟨id', lo'', ex'', all', e, j1, j2, j3, j4, j5⟩
    ·exact absurd e u2
    ·have hid : id' = id := by
      subst e
      have hb : bounds3 false true false [V.int .i64 (k : Int)] = some (none, some k, none) := by simp only [bounds3, optN, natOf_nat]
      simp only [pSlSlice, Nat.beq_refl, cond_true, hb, slCut, Option.getD_some, Option.getD_none, Bool.cond_eq_ite] at u1
      repeat' (split at u1)
      all_goals first | (cases u1; done) | (cases u1; rfl)
     subst hid
     have hall : all' = all := by
      have := j1.cells; rw [k1.cells] at this; exact (Option.some.inj this).symm
     subst hall
     refine .inr ⟨id', lo'', ex'', _, e, r2, j2, ?_, j4, ?_⟩
     ·simp only [List.length_append, List.length_take, List.length_drop]; omega
     ·rw [List.append_assoc, List.take_append, List.length_take, Nat.min_eq_left (by omega), Nat.sub_self, List.take_zero, List.append_nil, List.take_take, Nat.min_self, j5]
  ·obtain rfl : k = m := by omega
   have hr0 : repl (k - k) zero = [] := by rw [Nat.sub_self]; rfl
   refine ⟨_, H, v', m1, ?_, u1, u2, u3, Chg.refl hw⟩
   simp only [eClear, Nat.beq_refl, hB, Bool.and_self, cond_true, hr0]
   rfl
end Go.Am

namespace Go.Am
structure Cells {E : Type} (cf : E → List V) (z : Nat) : Prop where
 len : ∀ x, (cf x).length = z
 scal : ∀ x, (cf x).all V.scal = true
 pos : 0 < z
section
variable {E : Type} {cf : E → List V} {z : Nat}
theorem Cells.cat_len (h : Cells cf z) : ∀ l : List E, (l.flatMap cf).length = l.length * z := by
 intro l
 induction l with
 | nil => simp
 | cons x l ih => rw [List.flatMap_cons, List.length_append, ih, h.len, List.length_cons, Nat.succ_mul, Nat.add_comm]
theorem Cells.cat_scal (h : Cells cf z) : ∀ l : List E, (l.flatMap cf).all V.scal = true := by
 intro l
 induction l with
 | nil => rfl
 | cons x l ih => rw [List.flatMap_cons, List.all_append, ih, h.scal]; rfl
theorem Cells.cat_drop (h : Cells cf z) (pre l : List E) : ((pre ++ l).flatMap cf).drop (pre.length * z) = l.flatMap cf := by
 rw [List.flatMap_append, ← h.cat_len pre, List.drop_left]
theorem Cells.cat_take (h : Cells cf z) (pre l : List E) : ((pre ++ l).flatMap cf).take (pre.length * z) = pre.flatMap cf := by
 rw [List.flatMap_append, ← h.cat_len pre, List.take_left]
theorem Cells.cat_at (h : Cells cf z) (pre : List E) (x : E) (l : List E) : (((pre ++ x :: l).flatMap cf).drop (pre.length * z)).take z = cf x := by
 rw [h.cat_drop, List.flatMap_cons, ← h.len x, List.take_left]
theorem Cells.cat_get (h : Cells cf z) (pre : List E) (x : E) (l : List E) {j : Nat} (hj : j < z) : ((pre ++ x :: l).flatMap cf)[pre.length * z + j]? = (cf x)[j]? := by
 rw [← List.getElem?_drop, h.cat_drop, List.flatMap_cons, List.getElem?_append_left (by rw [h.len]; exact hj)]
theorem Cells.cat_store (h : Cells cf z) (out : List E) (y x : E) (l : List E) : ((out ++ y :: l).flatMap cf).take (out.length * z) ++ cf x ++ ((out ++ y :: l).flatMap cf).drop (out.length * z + z) = (out ++ x :: l).flatMap cf := by
 rw [h.cat_take, ← List.drop_drop, h.cat_drop, List.flatMap_cons, ← h.len y, List.drop_left, List.flatMap_append, List.flatMap_cons, List.append_assoc]
theorem Cells.at (h : Cells cf z) {H : Heap} {v : V} (pre : List E) (x : E) (l : List E) (hr : Rd H z v (pre ++ x :: l).length ((pre ++ x :: l).flatMap cf)) :
  ∃ id o, pSlIdx z [v, .int .i64 (pre.length : Int)] = some (.ptr id o) ∧ ∀ H', Rd H' z v (pre ++ x :: l).length ((pre ++ x :: l).flatMap cf) → lLoadN z [.ptr id o] H' = some (.agg (cf x)) ∧ ∀ j y, (cf x)[j]? = some y → lLoad1 [.ptr id (o + j)] H' = some y := by
 obtain ⟨id, o, k1, k2⟩ := hr.at h.pos (i := pre.length) (by simp)
 refine ⟨id, o, k1, fun H' h' => ?_⟩
 obtain ⟨q1, q2⟩ := k2 H' _ h'
 rw [h.cat_at] at q1
 refine ⟨q1, fun j y hj => ?_⟩
 have hjz : j < z := by
  have := (List.getElem?_eq_some_iff.1 hj).1
  rw [h.len] at this; exact this
 exact q2 j _ hjz (by rw [h.cat_get _ _ _ hjz]; exact hj)
abbrev GenE (P : Nat → Prop) (H : Heap) (cf : E → List V) (z : Nat) (v : V) (l : List E) : Prop := GenL P H z v l.length (l.flatMap cf)
theorem GenE.put (h : Cells cf z) {P : Nat → Prop} {H : Heap} {bytes : Nat} {v : V} {l : List E} (hg : GenE P H cf z v l) (hw : WF H) (hP : NewIn P H) (x : E) (h1 : (l.length + 1) * bytes ≤ 140737488355328) (h2 : l.length + 1 ≤ 140737488355328) (τ : Tape) (pl : Bool) :
  ∃ v' H' τ', eAppend z bytes [v, .sl H.size 0 1 1 none z] (H.new (cf x) z pl) τ = some (v', H', τ') ∧ GenE P H' cf z v' (l ++ [x]) ∧ Chg P H H' ∧ Chg P (H.new (cf x) z pl) H' := by
 obtain ⟨v', H', τ', r1, r2, r3, r4⟩ := GenL.put (bytes := bytes) hg hw hP (cf x) h.pos (h.len x) (h.scal x) h1 h2 τ pl
 refine ⟨v', H', τ', r1, ?_, r3, r4⟩
 unfold GenE
 rw [List.flatMap_append, List.flatMap_cons, List.flatMap_nil, List.append_nil, List.length_append]
 exact r2
theorem GenE.set (h : Cells cf z) {P : Nat → Prop} {H : Heap} {v : V} {out l : List E} {y : E} (hg : GenE P H cf z v (out ++ y :: l)) (hw : WF H) (x : E) (τ : Tape) :
  ∃ p H', pSlIdx z [v, .int .i64 (out.length : Int)] = some p ∧ (∀ n, n = z → Am.eStore n [p, .agg (cf x)] H τ = some (.tup [], H', τ)) ∧ GenE P H' cf z v (out ++ x :: l) ∧ Chg P H H' := by
 obtain ⟨p, H', r1, r2, r3, r4⟩ := GenL.put_at hg hw (i := out.length) (by simp) h.pos (cf x) (h.len x) (h.scal x) τ
 refine ⟨p, H', r1, r2, ?_, r4⟩
 unfold GenE
 rw [h.cat_store] at r3
 rw [show (out ++ x :: l).length = (out ++ y :: l).length by simp]
 exact r3
theorem GenE.clear (h : Cells cf z) {P : Nat → Prop} {H : Heap} {v : V} {out l : List E} (hg : GenE P H cf z v (out ++ l)) (hw : WF H) (hv : v ≠ .nils) (zero : List V) (hzl : zero.length = z) (hzs : zero.all V.scal = true) (τ : Tape) :
  ∃ w H' v', pSlSlice z true false false [v, .int .i64 (out.length : Int)] = some w ∧ eClear z zero [w] H τ = some (.tup [], H', τ) ∧ pSlSlice z false true false [v, .int .i64 (out.length : Int)] = some v' ∧ v' ≠ .nils ∧ GenE P H' cf z v' out ∧ Chg P H H' := by
 obtain ⟨w, H', v', r1, r2, r3, r4, r5, r6⟩ := GenL.clear hg hw hv (k := out.length) (by simp) zero hzl hzs τ
 rw [h.cat_take] at r5
 exact ⟨w, H', v', r1, r2, r3, r4, r5, r6⟩
theorem GenL.ne_nils {P : Nat → Prop} {H : Heap} {v : V} {m : Nat} {cs : List V} (h : GenL P H z v m cs) (hm : 0 < m) : v ≠ .nils := by
 rcases h with ⟨_, h0, _⟩ | ⟨id, lo, ex, all, rfl, _⟩
 ·omega
 ·exact fun e => by cases e
def findP (f : E → Bool) : List E → Nat → Int
 | [], _ => -1
 | h :: l, i => bif f h then (i : Int) else findP f l (i + 1)
theorem findP_spec (f : E → Bool) : ∀ (l : List E) (i : Nat), (findP f l i = -1 ∧ ∀ h ∈ l, f h = false) ∨ ∃ a h r, l = a ++ h :: r ∧ (∀ x ∈ a, f x = false) ∧ f h = true ∧ findP f l i = ((i + a.length : Nat) : Int) := by
 intro l
 induction l with
 | nil => intro i; exact .inl ⟨rfl, fun h hh => by simp at hh⟩
 | cons h l ih =>
  intro i
  by_cases hn : f h = true
  ·refine .inr ⟨[], h, l, rfl, fun x hx => by simp at hx, hn, ?_⟩
   rw [findP, hn]; rfl
  ·have hn' : f h = false := by simpa using hn
   rcases ih (i + 1) with ⟨h1, h2⟩ | ⟨a, x, r, h1, h2, h3, h4⟩
   ·refine .inl ⟨by rw [findP, hn']; exact h1, fun x hx => ?_⟩
    rcases List.mem_cons.1 hx with rfl | hx
    ·exact hn'
    ·exact h2 x hx
   ·refine .inr ⟨h :: a, x, r, by rw [h1]; rfl, fun y hy => ?_, h3, ?_⟩
    ·rcases List.mem_cons.1 hy with rfl | hy
     ·exact hn'
     ·exact h2 y hy
    ·rw [findP, hn', cond_false, h4]; simp; omega
theorem findP_has (f : E → Bool) (l : List E) : decide (Int.ofNat 0 ≤ findP f l 0) = l.any f := by
 rcases findP_spec f l 0 with ⟨h1, h2⟩ | ⟨a, h, r, h1, h2, h3, h4⟩
 ·rw [h1, show l.any f = false from by rw [List.any_eq_false]; intro x hx; rw [h2 x hx]; decide]
  rfl
 ·rw [h4, show l.any f = true from List.any_eq_true.2 ⟨h, by rw [h1]; simp, h3⟩]
  exact decide_eq_true (by have : Int.ofNat 0 = 0 := rfl; omega)
def TstP (c : CallK) (fv : V) (cf : E → List V) (f : E → Bool) (P : Nat → Prop) (H0 : Heap) (l : List E) : Prop := ∀ x ∈ l, ∀ H, Chg P H0 H → ∀ τ, ∃ H' τ', Gr H.size H H' ∧ ∀ q, opK c .callv [fv, .agg (cf x)] H τ q = q (.bool (f x)) H' τ'
end
end Go.Am

namespace Go.Am
theorem GenE.delete0 {E : Type} {cf : E → List V} {z : Nat} (h : Cells cf z) {P : Nat → Prop} {H : Heap} {v : V} {x : E} {l : List E} (hg : GenE P H cf z v (x :: l)) (hw : WF H) (hl : 0 < l.length) (bytes : Nat) (zero : List V) (hzl : zero.length = z) (hzs : zero.all V.scal = true) (τ : Tape) :
  ∃ a w1 w2 v' H1 w3 H2, pSlSlice z true true true [v, .int .i64 ((0 : Nat) : Int), .int .i64 ((1 : Nat) : Int), .int .i64 ((l.length + 1 : Nat) : Int)] = some a ∧ pSlSlice z false true false [v, .int .i64 ((0 : Nat) : Int)] = some w1 ∧ pSlSlice z true false false [v, .int .i64 ((1 : Nat) : Int)] = some w2 ∧
   eAppend z bytes [w1, w2] H τ = some (v', H1, τ) ∧ pLen [v'] = some (.int .i64 ((l.length : Nat) : Int)) ∧ pSlSlice z true true false [v', .int .i64 ((l.length : Nat) : Int), .int .i64 ((l.length + 1 : Nat) : Int)] = some w3 ∧ eClear z zero [w3] H1 τ = some (.tup [], H2, τ) ∧ GenE P H2 cf z v' l ∧ Chg P H H2 := by
 have hz := h.pos
 rcases hg with ⟨_, h0, _⟩ | ⟨id, lo, ex, all, rfl, k1, k2, k3, k4, k5⟩
 ·simp at h0
 ·rw [List.length_cons] at k2 k4 k5 ⊢
  have hx := h.len x
  have hL := h.cat_len l
  have hb0 : bounds3 false true false [V.int .i64 ((0 : Nat) : Int)] = some (none, some 0, none) := by simp only [bounds3, optN, natOf_nat]
  have hb3 : bounds3 true true true [V.int .i64 ((0 : Nat) : Int), V.int .i64 ((1 : Nat) : Int), V.int .i64 ((l.length + 1 : Nat) : Int)] = some (some 0, some 1, some (l.length + 1)) := by simp only [bounds3, optN, natOf_nat]
  have hb2 : bounds3 true true false [V.int .i64 ((l.length : Nat) : Int), V.int .i64 ((l.length + 1 : Nat) : Int)] = some (some l.length, some (l.length + 1), none) := by simp only [bounds3, optN, natOf_nat]
  have w_le : ∀ m, m ≤ lo → within m lo ex = true := fun m hm => by rw [within_iff]; exact .inl hm
  have ble : ∀ a b, a ≤ b → Nat.ble a b = true := fun a b hh => Nat.ble_eq_true_of_le hh
  obtain ⟨off', lo', ex', m1, m2, m3⟩ := from_mk (id := id) (off := 0) (n := l.length + 1) (lo := lo) (z := z) (ex := ex) (w_le _ k2) (l := 1) (by omega)
  have ho := m2 (by omega)
  rw [Nat.zero_add, Nat.one_mul] at ho
  rw [ho] at m1
  have hlz : (l.length + 1) * z = l.length * z + z := Nat.succ_mul _ _
  have hloz : (l.length + 1) * z ≤ lo * z := Nat.mul_le_mul_right _ k2
  have hcat : all.take ((l.length + 1) * z) = cf x ++ l.flatMap cf := by rw [k5, List.flatMap_cons]
  have hld : H.loads id z (l.length * z) = some (l.flatMap cf) := by
   simp only [Heap.loads, k1.cells]
   rw [takeN_all _ _ (by rw [List.length_drop]; omega)]
   congr 1
   have : (all.drop z).take (l.length * z) = (all.take ((l.length + 1) * z)).drop z := by
    rw [List.drop_take]; congr 1; omega
   rw [this, hcat]; conv => lhs; rw [← hx]
   rw [List.drop_left]
  obtain ⟨H1, r1, r2, r3, r4⟩ := k1.stores hw 0 (l.flatMap cf) (by omega) (h.cat_scal l)
  have hall1 : (all.take 0 ++ l.flatMap cf ++ all.drop (0 + (l.flatMap cf).length)).length = lo * z := by simp only [List.length_append, List.length_take, List.length_drop]; omega
  obtain ⟨H2, s1, s2, s3, s4⟩ := r2.stores r3.wf (l.length * z) zero (by rw [hall1]; omega) hzs
  have hmin : Nat.beq l.length 0 = false := by cases hh : Nat.beq l.length 0 with | false => rfl | true => have := Nat.eq_of_beq_eq_true hh; omega
  have hoff2 : offIn 0 l.length lo ex z = l.length * z := by
   unfold offIn
   rw [hmin, show Nat.blt l.length lo = true from by simp [Nat.blt]; omega]
   simp
  have ho0 : ∀ n, offIn 0 0 n ex z = 0 := fun _ => rfl
  have e0 : pSlSlice z true true true [.sl id 0 (l.length + 1) lo ex z, .int .i64 ((0 : Nat) : Int), .int .i64 ((1 : Nat) : Int), .int .i64 ((l.length + 1 : Nat) : Int)] = some (.sl id (offAt 0 0 (l.length + 1) z) (1 - 0) (l.length + 1 - 0) none z) := by
   simp only [pSlSlice, Nat.beq_refl, cond_true, hb3, slCut, Option.getD_some, w_le _ k2, ble 1 (l.length + 1) (by omega), ble 0 1 (by omega), Bool.and_self]
  have e1 : pSlSlice z false true false [.sl id 0 (l.length + 1) lo ex z, .int .i64 ((0 : Nat) : Int)] = some (.sl id 0 0 lo ex z) := by
   simp only [pSlSlice, Nat.beq_refl, cond_true, hb0, slCut, Option.getD_some, Option.getD_none, w_le 0 (by omega), ble 0 0 (Nat.le_refl _), ble 0 lo (Nat.zero_le _), Bool.and_self, ho0, Nat.sub_zero]
  have e3 : pSlSlice z true true false [.sl id 0 l.length lo ex z, .int .i64 ((l.length : Nat) : Int), .int .i64 ((l.length + 1 : Nat) : Int)] = some (.sl id (l.length * z) 1 (lo - l.length) ex z) := by
   simp only [pSlSlice, Nat.beq_refl, cond_true, hb2, slCut, Option.getD_some, w_le _ k2, ble l.length (l.length + 1) (by omega), ble l.length lo (by omega), Bool.and_self, hoff2, show l.length + 1 - l.length = 1 by omega]
  refine ⟨_, _, _, .sl id 0 l.length lo ex z, H1, _, H2, e0, e1, m1, ?_, rfl, e3, ?_, ?_, r3.trans s3 fun _ _ hh => hh⟩
  ·have : l.length + 1 - 1 = l.length := by omega
   rw [this]
   simp only [eAppend, srcLen, srcCells, Nat.beq_refl, cond_true, hld, Am.append, Nat.zero_add, ble l.length lo (by omega), Nat.zero_mul, r1]
  ·have : repl 1 zero = zero := by simp [repl]
   simp only [eClear, Nat.beq_refl, hzl, Bool.and_self, cond_true, this, s1]
  ·refine .inr ⟨id, lo, ex, _, rfl, s2, by omega, ?_, hL, ?_⟩
   ·simp only [List.length_append, List.length_take, List.length_drop]; omega
   ·have h0 : all.take 0 ++ l.flatMap cf ++ all.drop (0 + (l.flatMap cf).length) = l.flatMap cf ++ all.drop (0 + (l.flatMap cf).length) := by simp
    rw [h0, List.append_assoc, List.take_append, List.length_take, List.length_append, List.length_drop, Nat.min_eq_left (by omega), Nat.sub_self, List.take_zero, List.append_nil, List.take_take, Nat.min_self, ← hL, List.take_left]
end Go.Am

