/-
  THE ABSTRACT MACHINE 'Am', fourth part: how its memory stands to the model's.
-/
import Derived.Calls
import Derived.Below
import Derived.Orders
import Derived.Laws.Sem
import Derived.Laws.World
import Derived.Laws.Cells
import Derived.Laws.Rows
import Derived.Test.YtpfaceclaigpgaaDoorAm3
namespace Go.Am
open Go.RowKit (Below)

/-- which block of the model's, and from which cell on, an abstract block is -/
abbrev Inj := Nat → Nat × Nat

mutual
def cv (ι : Inj) : V → Value
  | .bool b => .bool b
  | .int k n => .int k n
  | .str s => .string ⟨s.toArray⟩
  | .ptr id off => .pointer (some ⟨(ι id).1, (ι id).2 + off, none⟩)
  | .nilp => .pointer none
  | .sl id off len lo ex _ => .slice (some ⟨(ι id).1, (ι id).2 + off, none⟩) len (lo + ex.getD 0)
  | .nils => .slice none 0 0
  | .map id => .map (some (ι id).1)
  | .nilm => .map none
  | .func f a b => .func (.func f) (cvl ι a).toArray (cvl ι b).toArray
  | .nilf => .nilFunc
  | .iface t v => .iface t (cv ι v)
  | .nili => .nilIface
  | .agg cs => .agg (cvl ι cs).toArray
  | .tup vs => .tuple (cvl ι vs).toArray
def cvl (ι : Inj) : List V → List Value
  | [] => []
  | v :: vs => cv ι v :: cvl ι vs
end

theorem cvl_eq (ι : Inj) (l : List V) : cvl ι l = l.map (cv ι) := by
  induction l with
  | nil => simp [cvl]
  | cons v l ih => simp [cvl, ih]

mutual
/-- what a value names is there -/
def VOk (H : Heap) : V → Prop
  | .ptr id _ => id < H.size
  | .sl id off len lo ex z => id < H.size ∧ len ≤ lo + ex.getD 0 ∧ (ex.isSome = true → off + (lo + ex.getD 0) * z ≤ H.room? id ∧ lo + ex.getD 0 < 9223372036854775808)
  | .map id => id < H.size
  | .func _ a b => VsOk H a ∧ VsOk H b
  | .iface _ v => VOk H v
  | .agg cs => VsOk H cs
  | .tup vs => VsOk H vs
  | _ => True
def VsOk (H : Heap) : List V → Prop
  | [] => True
  | v :: vs => VOk H v ∧ VsOk H vs
end

theorem VsOk_iff (H : Heap) (l : List V) : VsOk H l ↔ ∀ v ∈ l, VOk H v := by
  induction l with
  | nil => simp [VsOk]
  | cons v l ih => simp [VsOk, ih]

/-- one memory behind another -/
structure Evol (H H' : Heap) : Prop where
  size : H.size ≤ H'.size
  room : ∀ id, id < H.size → H'.room? id = H.room? id
  mem : ∀ id cs room fam ver wr pl st, H.blk.get id = some (.mem cs room fam ver wr pl st) →
    ∃ cs' st', H'.blk.get id = some (.mem cs' room fam ver wr pl st') ∧ st ≤ st' ∧ (st' = st → cs' = cs)
  fams : ∀ f fr la, H.fams.get f = some (fr, la) → ∃ fr' la', H'.fams.get f = some (fr', la') ∧ fr ≤ fr'

theorem Evol.refl (H : Heap) : Evol H H :=
  ⟨Nat.le_refl _, fun _ _ => rfl, fun _ cs _ _ _ _ _ st h => ⟨cs, st, h, Nat.le_refl _, fun _ => rfl⟩, fun _ fr la h => ⟨fr, la, h, Nat.le_refl _⟩⟩

theorem Evol.trans {a b c : Heap} (h : Evol a b) (k : Evol b c) : Evol a c := by
  refine ⟨Nat.le_trans h.size k.size, fun id hid => (k.room id (Nat.lt_of_lt_of_le hid h.size)).trans (h.room id hid), ?_, ?_⟩
  · intro id cs room fam ver wr pl st hg
    obtain ⟨cs1, st1, h1, hle1, he1⟩ := h.mem id cs room fam ver wr pl st hg
    obtain ⟨cs2, st2, h2, hle2, he2⟩ := k.mem id cs1 room fam ver wr pl st1 h1
    refine ⟨cs2, st2, h2, Nat.le_trans hle1 hle2, fun e => ?_⟩
    have e1 : st1 = st := by omega
    have e2 : st2 = st1 := by omega
    rw [he2 e2, he1 e1]
  · intro f fr la hg
    obtain ⟨fr1, la1, h1, hle1⟩ := h.fams f fr la hg
    obtain ⟨fr2, la2, h2, hle2⟩ := k.fams f fr1 la1 h1
    exact ⟨fr2, la2, h2, Nat.le_trans hle1 hle2⟩

mutual
theorem VOk.mono {H H' : Heap} (h : Evol H H') : ∀ v : V, VOk H v → VOk H' v
  | .ptr _ _, hv => Nat.lt_of_lt_of_le hv h.size
  | .sl id _ _ _ _ _, ⟨h1, h2, h3⟩ => ⟨Nat.lt_of_lt_of_le h1 h.size, h2, by rw [h.room id h1]; exact h3⟩
  | .map _, hv => Nat.lt_of_lt_of_le hv h.size
  | .func _ a b, ⟨ha, hb⟩ => ⟨VsOk.mono h a ha, VsOk.mono h b hb⟩
  | .iface _ v, hv => VOk.mono h v hv
  | .agg cs, hv => VsOk.mono h cs hv
  | .tup vs, hv => VsOk.mono h vs hv
  | .bool _, _ => trivial
  | .int _ _, _ => trivial
  | .str _, _ => trivial
  | .nilp, _ => trivial
  | .nils, _ => trivial
  | .nilm, _ => trivial
  | .nilf, _ => trivial
  | .nili, _ => trivial
theorem VsOk.mono {H H' : Heap} (h : Evol H H') : ∀ l : List V, VsOk H l → VsOk H' l
  | [], _ => trivial
  | v :: l, ⟨hv, hl⟩ => ⟨VOk.mono h v hv, VsOk.mono h l hl⟩
end

mutual
theorem cv_congr {ι ι' : Inj} {H : Heap} (h : ∀ id, id < H.size → ι' id = ι id) : ∀ v : V, VOk H v → cv ι' v = cv ι v
  | .ptr id _, hv => by simp only [cv, h id hv]
  | .sl id _ _ _ _ _, ⟨h1, _, _⟩ => by simp only [cv, h id h1]
  | .map id, hv => by simp only [cv, h id hv]
  | .func _ a b, ⟨ha, hb⟩ => by simp only [cv, cvl_congr h a ha, cvl_congr h b hb]
  | .iface _ v, hv => by simp only [cv, cv_congr h v hv]
  | .agg cs, hv => by simp only [cv, cvl_congr h cs hv]
  | .tup vs, hv => by simp only [cv, cvl_congr h vs hv]
  | .bool _, _ => rfl
  | .int _ _, _ => rfl
  | .str _, _ => rfl
  | .nilp, _ => rfl
  | .nils, _ => rfl
  | .nilm, _ => rfl
  | .nilf, _ => rfl
  | .nili, _ => rfl
theorem cvl_congr {ι ι' : Inj} {H : Heap} (h : ∀ id, id < H.size → ι' id = ι id) : ∀ l : List V, VsOk H l → cvl ι' l = cvl ι l
  | [], _ => rfl
  | v :: l, ⟨hv, hl⟩ => by simp only [cvl, cv_congr h v hv, cvl_congr h l hl]
end

/-- a block of the machine's lies in the model's memory -/
def BOk (ι : Inj) (base : Nat) (w : World) (id : Nat) (cs : List V) (room : Nat) (wr : Bool) : Prop :=
  ∃ c el lo hi, w.heap[(ι id).1]? = some (.cells c el (lo, hi)) ∧ (ι id).2 + room ≤ c.size ∧
    (∀ j v, cs[j]? = some v → c[(ι id).2 + j]? = some (cv ι v)) ∧ (wr = true → base ≤ (ι id).1 ∧ (lo = hi ∨ c.size ≤ lo))

structure MRel (ι : Inj) (base : Nat) (w0 : World) (H : Heap) (w : World) : Prop where
  below : Below base w0 w
  base_le : base ≤ w.heap.size
  lt : ∀ id b, H.blk.get id = some b → id < H.size
  fam : ∀ id cs room fam ver wr pl st, H.blk.get id = some (.mem cs room fam ver wr pl st) → fam < H.size ∧ ∃ fr la, H.fams.get fam = some (fr, la) ∧ ver ≤ la
  cells : ∀ id cs room fam ver wr pl st, H.blk.get id = some (.mem cs room fam ver wr pl st) → cs.length ≤ room ∧ VsOk H cs
  ok : ∀ id cs room fam ver wr pl st fr la, H.blk.get id = some (.mem cs room fam ver wr pl st) → H.fams.get fam = some (fr, la) → fr ≤ ver → BOk ι base w id cs room wr
  sep : ∀ i cs room fam ver pl st fr la j cs' room' fam' ver' wr' pl' st' fr' la',
    H.blk.get i = some (.mem cs room fam ver true pl st) → H.fams.get fam = some (fr, la) → fr ≤ ver →
    H.blk.get j = some (.mem cs' room' fam' ver' wr' pl' st') → H.fams.get fam' = some (fr', la') → fr' ≤ ver' →
    (ι i).1 = (ι j).1 → fam = fam'
  ver : ∀ i cs room fam ver wr pl st j cs' room' wr' pl' st', H.blk.get i = some (.mem cs room fam ver wr pl st) → H.blk.get j = some (.mem cs' room' fam ver wr' pl' st') → i = j
  iter : ∀ id s pos, H.blk.get id = some (.iter s pos) → base ≤ (ι id).1 ∧ (ι id).2 = 0 ∧ w.heap[(ι id).1]? = some (.stringIter ⟨s.toArray⟩ pos)
  famlt : ∀ f x, H.fams.get f = some x → f < H.size
  ends : ∀ i cs room fam ver wr pl st fr la j cs' room' ver' wr' pl' st',
    H.blk.get i = some (.mem cs room fam ver wr pl st) → H.fams.get fam = some (fr, la) → fr ≤ ver →
    H.blk.get j = some (.mem cs' room' fam ver' wr' pl' st') → fr ≤ ver' → (ι i).1 = (ι j).1 → ver ≤ ver' → (ι i).2 + cs.length ≤ (ι j).2 + cs'.length
  isep : ∀ i s p j s' p', H.blk.get i = some (.iter s p) → H.blk.get j = some (.iter s' p') → (ι i).1 = (ι j).1 → i = j

/-- 'ι'' goes on from 'ι' -/
def Ext (H : Heap) (ι ι' : Inj) : Prop := ∀ id, id < H.size → ι' id = ι id

theorem Ext.refl (H : Heap) (ι : Inj) : Ext H ι ι := fun _ _ => rfl
theorem Ext.trans {H H' : Heap} {a b c : Inj} (h : Ext H a b) (k : Ext H' b c) (e : H.size ≤ H'.size) : Ext H a c :=
  fun id hid => (k id (Nat.lt_of_lt_of_le hid e)).trans (h id hid)

def upd (ι : Inj) (n : Nat) (x : Nat × Nat) : Inj := fun id => if id = n then x else ι id
theorem upd_same (ι : Inj) (n : Nat) (x : Nat × Nat) : upd ι n x n = x := by simp [upd]
theorem upd_ne (ι : Inj) {n id : Nat} (x : Nat × Nat) (h : id ≠ n) : upd ι n x id = ι id := by simp [upd, h]
theorem Ext.upd (H : Heap) (ι : Inj) (x : Nat × Nat) : Ext H ι (upd ι H.size x) := fun id hid => upd_ne ι x (by omega)

theorem BOk.block_lt {ι : Inj} {base : Nat} {w : World} {id : Nat} {cs : List V} {room : Nat} {wr : Bool} (h : BOk ι base w id cs room wr) : (ι id).1 < w.heap.size := by
  obtain ⟨c, el, lo, hi, h1, _⟩ := h
  exact (Array.getElem?_eq_some_iff.1 h1).1

/-- a block stays as it lies where its own block of the model's does -/
theorem BOk.keep {ι ι' : Inj} {base : Nat} {w w' : World} {H : Heap} {id : Nat} {cs : List V} {room : Nat} {wr : Bool} (h : BOk ι base w id cs room wr)
    (hw : w'.heap[(ι id).1]? = w.heap[(ι id).1]?) (hι : ι' id = ι id) (hext : Ext H ι ι') (hcs : VsOk H cs) : BOk ι' base w' id cs room wr := by
  obtain ⟨c, el, lo, hi, h1, h2, h3, h4⟩ := h
  refine ⟨c, el, lo, hi, by rw [hι, hw]; exact h1, by rw [hι]; exact h2, fun j v hv => ?_, by rw [hι]; exact h4⟩
  rw [hι, cv_congr hext v ((VsOk_iff H cs).1 hcs v (List.mem_of_getElem? hv))]
  exact h3 j v hv

/-- the world may turn where no block of the machine's lies -/
theorem MRel.keep {ι : Inj} {base : Nat} {w0 : World} {H : Heap} {w w' : World} (h : MRel ι base w0 H w) (hb : Below w.heap.size w w') : MRel ι base w0 H w' := by
  have hblk : ∀ b, b < w.heap.size → w'.heap[b]? = w.heap[b]? := hb.block
  refine ⟨h.below.trans (hb.mono h.base_le), Nat.le_trans h.base_le hb.size, h.lt, h.fam, h.cells, ?_, h.sep, h.ver, ?_, h.famlt, h.ends, h.isep⟩
  · intro id cs room fam ver wr pl st fr la h1 h2 h3
    have hk := h.ok id cs room fam ver wr pl st fr la h1 h2 h3
    exact hk.keep (H := H) (hblk _ hk.block_lt) rfl (Ext.refl H ι) (h.cells _ _ _ _ _ _ _ _ h1).2
  · intro id s pos h1
    obtain ⟨ha, hz, hc⟩ := h.iter id s pos h1
    exact ⟨ha, hz, by rw [hblk _ (Array.getElem?_eq_some_iff.1 hc).1]; exact hc⟩

theorem MRel.drew {ι : Inj} {base : Nat} {w0 : World} {H : Heap} {w : World} (h : MRel ι base w0 H w) : MRel ι base w0 H w.drew :=
  h.keep ((Below.refl _ _).drew)

theorem get_new_old {H : Heap} {cells : List V} {room : Nat} {pl : Bool} {id : Nat} (h : id ≠ H.size) : (H.new cells room pl).blk.get id = H.blk.get id :=
  T.get_set_ne _ _ (Ne.symm h)
theorem get_new_new (H : Heap) (cells : List V) (room : Nat) (pl : Bool) : (H.new cells room pl).blk.get H.size = some (.mem cells room H.size 0 true pl 0) :=
  T.get_set_same _ _ _
theorem fams_new (H : Heap) (cells : List V) (room : Nat) (pl : Bool) (f : Nat) : (H.new cells room pl).fams.get f = if H.size = f then some (0, 0) else H.fams.get f :=
  T.get_set _ _ _ _

theorem Evol.new {ι : Inj} {base : Nat} {w0 w : World} {H : Heap} (h : MRel ι base w0 H w) (cells : List V) (room : Nat) (pl : Bool) : Evol H (H.new cells room pl) := by
  have hold : ∀ id, id < H.size → (H.new cells room pl).blk.get id = H.blk.get id := fun id hid => get_new_old (by omega)
  refine ⟨Nat.le_succ _, fun id hid => by simp only [Heap.room?, hold id hid], ?_, ?_⟩
  · intro id cs r fam ver wr p st hg
    exact ⟨cs, st, by rw [hold id (h.lt _ _ hg)]; exact hg, Nat.le_refl _, fun _ => rfl⟩
  · intro f fr la hg
    rw [fams_new]
    have hf := h.famlt f _ hg
    exact ⟨fr, la, by rw [if_neg (by omega)]; exact hg, Nat.le_refl _⟩

/-- a new block -/
theorem MRel.new {ι : Inj} {base : Nat} {w0 w : World} {H : Heap} (h : MRel ι base w0 H w) (cells : List V) (room : Nat) (pl : Bool) (c : Array Value) (el : TypeId)
    (hvs : VsOk H cells) (hlen : cells.length ≤ room) (hsz : room ≤ c.size) (hc : ∀ (j : Nat) (v : V), cells[j]? = some v → c[j]? = some (cv ι v)) :
    MRel (upd ι H.size (w.heap.size, 0)) base w0 (H.new cells room pl) (w.alloc (.cells c el)) := by
  have hev := Evol.new h cells room pl
  have hext := Ext.upd H ι (w.heap.size, 0)
  have hheap : ∀ b, b < w.heap.size → (w.alloc (.cells c el)).heap[b]? = w.heap[b]? := fun b hb => heap_alloc_old _ _ _ hb
  have hheap' : (w.alloc (.cells c el)).heap[w.heap.size]? = some (.cells c el (0, 0)) := heap_alloc_new _ _
  -- a block of the new memory is the new one, or an old one
  have part : ∀ id cs r fam ver wr p st, (H.new cells room pl).blk.get id = some (.mem cs r fam ver wr p st) →
      (id = H.size ∧ cs = cells ∧ r = room ∧ fam = H.size ∧ ver = 0 ∧ wr = true) ∨ (id < H.size ∧ fam < H.size ∧ H.blk.get id = some (.mem cs r fam ver wr p st)) := by
    intro id cs r fam ver wr p st hg
    by_cases e : id = H.size
    · subst e
      rw [get_new_new] at hg
      injection hg with hg
      injection hg with h1 h2 h3 h4 h5 h6 h7
      exact .inl ⟨rfl, h1.symm, h2.symm, h3.symm, h4.symm, h5.symm⟩
    · rw [get_new_old e] at hg
      exact .inr ⟨h.lt _ _ hg, (h.fam _ _ _ _ _ _ _ _ hg).1, hg⟩
  have famOld : ∀ f, f < H.size → (H.new cells room pl).fams.get f = H.fams.get f := fun f hf => by rw [fams_new, if_neg (by omega)]
  have oldBlk : ∀ id cs r fam ver wr p st fr la, H.blk.get id = some (.mem cs r fam ver wr p st) → H.fams.get fam = some (fr, la) → fr ≤ ver → (ι id).1 < w.heap.size :=
    fun id cs r fam ver wr p st fr la h1 h2 h3 => (h.ok id cs r fam ver wr p st fr la h1 h2 h3).block_lt
  refine ⟨h.below.alloc h.base_le _, by rw [World.size_alloc]; have := h.base_le; omega, ?_, ?_, ?_, ?_, ?_, ?_, ?_, ?_, ?_, ?_⟩
  · intro id b hg
    by_cases e : id = H.size
    · subst e; exact Nat.lt_succ_self _
    · rw [get_new_old e] at hg; exact Nat.lt_succ_of_lt (h.lt _ _ hg)
  · intro id cs r fam ver wr p st hg
    rcases part _ _ _ _ _ _ _ _ hg with ⟨rfl, _, _, rfl, rfl, _⟩ | ⟨_, hf, hg⟩
    · exact ⟨Nat.lt_succ_self _, 0, 0, by rw [fams_new, if_pos rfl], Nat.le_refl _⟩
    · obtain ⟨_, fr, la, h1, h2⟩ := h.fam _ _ _ _ _ _ _ _ hg
      exact ⟨Nat.lt_succ_of_lt hf, fr, la, by rw [famOld _ hf]; exact h1, h2⟩
  · intro id cs r fam ver wr p st hg
    rcases part _ _ _ _ _ _ _ _ hg with ⟨rfl, rfl, rfl, _⟩ | ⟨_, _, hg⟩
    · exact ⟨hlen, hvs.mono hev⟩
    · obtain ⟨h1, h2⟩ := h.cells _ _ _ _ _ _ _ _ hg
      exact ⟨h1, h2.mono hev⟩
  · intro id cs r fam ver wr p st fr la hg hf hv
    rcases part _ _ _ _ _ _ _ _ hg with ⟨rfl, rfl, rfl, _, _, rfl⟩ | ⟨hid, hf', hg⟩
    · refine ⟨c, el, 0, 0, by rw [upd_same]; exact hheap', by rw [upd_same]; simpa using hsz, fun j v hv => ?_, fun _ => ?_⟩
      · rw [upd_same, cv_congr hext v ((VsOk_iff H cs).1 hvs v (List.mem_of_getElem? hv))]
        simpa using hc j v hv
      · rw [upd_same]; exact ⟨h.base_le, .inl rfl⟩
    · rw [famOld _ hf'] at hf
      have hk := h.ok _ _ _ _ _ _ _ _ _ _ hg hf hv
      exact hk.keep (hheap _ hk.block_lt) (upd_ne ι _ (by omega)) hext (h.cells _ _ _ _ _ _ _ _ hg).2
  · intro i cs r fam ver p st fr la j cs' r' fam' ver' wr' p' st' fr' la' hi hfi hvi hj hfj hvj he
    rcases part _ _ _ _ _ _ _ _ hi with ⟨rfl, _, _, rfl, _⟩ | ⟨hid, hf, hi⟩
    · rcases part _ _ _ _ _ _ _ _ hj with ⟨rfl, _, _, rfl, _⟩ | ⟨hjd, hf', hj⟩
      · rfl
      · rw [famOld _ hf'] at hfj
        have := oldBlk _ _ _ _ _ _ _ _ _ _ hj hfj hvj
        rw [upd_same, upd_ne ι _ (by omega)] at he
        omega
    · rw [famOld _ hf] at hfi
      rcases part _ _ _ _ _ _ _ _ hj with ⟨rfl, _, _, rfl, _⟩ | ⟨hjd, hf', hj⟩
      · have := oldBlk _ _ _ _ _ _ _ _ _ _ hi hfi hvi
        rw [upd_same, upd_ne ι _ (by omega)] at he
        omega
      · rw [famOld _ hf'] at hfj
        rw [upd_ne ι _ (by omega), upd_ne ι _ (by omega)] at he
        exact h.sep _ _ _ _ _ _ _ _ _ _ _ _ _ _ _ _ _ _ _ hi hfi hvi hj hfj hvj he
  · intro i cs r fam ver wr p st j cs' r' wr' p' st' hi hj
    rcases part _ _ _ _ _ _ _ _ hi with ⟨rfl, _, _, rfl, _⟩ | ⟨hid, hf, hi⟩
    · rcases part _ _ _ _ _ _ _ _ hj with ⟨rfl, _⟩ | ⟨_, hf', _⟩
      · rfl
      · omega
    · rcases part _ _ _ _ _ _ _ _ hj with ⟨_, _, _, rfl, _⟩ | ⟨_, _, hj⟩
      · omega
      · exact h.ver _ _ _ _ _ _ _ _ _ _ _ _ _ _ hi hj
  · intro id s pos hg
    by_cases e : id = H.size
    · subst e; rw [get_new_new] at hg; cases hg
    · rw [get_new_old e] at hg
      obtain ⟨ha, hz, hb⟩ := h.iter _ _ _ hg
      rw [upd_ne ι _ e]
      exact ⟨ha, hz, by rw [hheap _ (Array.getElem?_eq_some_iff.1 hb).1]; exact hb⟩
  · intro f x hg
    rw [fams_new] at hg
    by_cases e : H.size = f
    · subst e; exact Nat.lt_succ_self _
    · rw [if_neg e] at hg; exact Nat.lt_succ_of_lt (h.famlt _ _ hg)
  · intro i cs r fam ver wr p st fr la j cs' r' ver' wr' p' st' hi hf hvi hj hvj he hle
    rcases part _ _ _ _ _ _ _ _ hi with ⟨rfl, rfl, _, rfl, _⟩ | ⟨hid, hf', hi⟩
    · rcases part _ _ _ _ _ _ _ _ hj with ⟨rfl, rfl, _⟩ | ⟨_, hf'', _⟩
      · exact Nat.le_refl _
      · omega
    · rcases part _ _ _ _ _ _ _ _ hj with ⟨_, _, _, rfl, _⟩ | ⟨hjd, _, hj⟩
      · omega
      · rw [famOld _ hf'] at hf
        rw [upd_ne ι _ (by omega), upd_ne ι _ (by omega)] at he ⊢
        exact h.ends _ _ _ _ _ _ _ _ _ _ _ _ _ _ _ _ _ hi hf hvi hj hvj he hle
  · intro i s p j s' p' hi hj he
    have hi' : i ≠ H.size := fun e => by subst e; rw [get_new_new] at hi; cases hi
    have hj' : j ≠ H.size := fun e => by subst e; rw [get_new_new] at hj; cases hj
    rw [get_new_old hi'] at hi
    rw [get_new_old hj'] at hj
    rw [upd_ne ι _ hi', upd_ne ι _ hj'] at he
    exact h.isep _ _ _ _ _ _ hi hj he
end Go.Am
