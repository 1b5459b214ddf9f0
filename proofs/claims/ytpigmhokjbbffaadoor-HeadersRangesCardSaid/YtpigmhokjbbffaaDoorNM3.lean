/-
  THE ABSTRACT MACHINE 'Am', thirty-third part: blocks of a call's own, read and written.
-/
import Derived.Test.YtpigmhokjbbffaaDoorNM2
namespace Go.Am

/-- a block of the call's own, from B on: it may be written -/
def Blk (H : Heap) (B id : Nat) (cs : List V) : Prop :=
  ∃ room fam ver pl st fr, H.blk.get id = some (.mem cs room fam ver true pl st) ∧ H.fams.get fam = some (fr, ver) ∧ fr ≤ ver ∧ B ≤ id ∧ B ≤ fam ∧ cs.length ≤ room

theorem Blk.cells {H : Heap} {B id : Nat} {cs : List V} (h : Blk H B id cs) : H.cells? id = some cs := by
  obtain ⟨room, fam, ver, pl, st, fr, h1, h2, h3, _, _⟩ := h
  simp only [Heap.cells?, h1, h2]
  rw [show Nat.ble fr ver = true from Nat.ble_eq_true_of_le h3]
  rfl

theorem Blk.new (H : Heap) (cells : List V) (room : Nat) (pl : Bool) (hr : cells.length ≤ room) : Blk (H.new cells room pl) H.size H.size cells :=
  ⟨room, H.size, 0, pl, 0, 0, T.get_set_same _ _ _, T.get_set_same _ _ _, Nat.le_refl _, Nat.le_refl _, Nat.le_refl _, hr⟩

theorem Blk.gr {H H' : Heap} {B C id : Nat} {cs : List V} (h : Blk H B id cs) (hg : Gr C H H') (hw : WF H) (hC : H.size ≤ C) : Blk H' B id cs := by
  obtain ⟨room, fam, ver, pl, st, fr, h1, h2, h3, h4, h5, h6⟩ := h
  have := hw.blk _ _ h1
  have := hw.fams _ _ h2
  exact ⟨room, fam, ver, pl, st, fr, by rw [hg.blk id (by omega)]; exact h1, by rw [hg.fams fam (by omega)]; exact h2, h3, h4, h5, h6⟩

theorem Blk.weaken {H : Heap} {B C id : Nat} {cs : List V} (h : Blk H C id cs) (hBC : B ≤ C) : Blk H B id cs := by
  obtain ⟨room, fam, ver, pl, st, fr, h1, h2, h3, h4, h5, h6⟩ := h
  exact ⟨room, fam, ver, pl, st, fr, h1, h2, h3, by omega, by omega, h6⟩

theorem Blk.lt {H : Heap} {B id : Nat} {cs : List V} (h : Blk H B id cs) (hw : WF H) : id < H.size := by
  obtain ⟨room, fam, ver, pl, st, fr, h1, _⟩ := h
  exact hw.blk _ _ h1

/-- cells laid over others, inside -/
theorem over_in : ∀ (off room : Nat) (vs cs : List V), off + vs.length ≤ cs.length → over room off vs cs = some (cs.take off ++ vs ++ cs.drop (off + vs.length)) := by
  intro off
  induction off with
  | zero =>
    intro room vs
    induction vs generalizing room with
    | nil => intro cs _; cases cs <;> simp [over]
    | cons v vs ih =>
      intro cs h
      cases cs with
      | nil => simp at h
      | cons c cs =>
        have := ih (room - 1) cs (by simp at h ⊢; omega)
        simp only [over, this]
        simp [Nat.add_comm]
  | succ off ih =>
    intro room vs cs h
    cases cs with
    | nil =>
      exfalso
      simp at h
    | cons c cs =>
      cases vs with
      | nil => simp [over]
      | cons v vs =>
        have := ih (room - 1) (v :: vs) cs (by simp at h ⊢; omega)
        simp only [over, this]
        simp only [List.take_succ_cons, List.cons_append, Option.some.injEq, List.cons.injEq, true_and]
        rw [show off + 1 + (v :: vs).length = (off + (v :: vs).length) + 1 by omega, List.drop_succ_cons]

/-- A STORE into a block of the call's own -/
theorem Blk.stores {H : Heap} {B id : Nat} {cs : List V} (h : Blk H B id cs) (hw : WF H) (off : Nat) (vs : List V) (hl : off + vs.length ≤ cs.length) (hs : vs.all V.scal = true) :
    ∃ H', H.stores id off vs = some H' ∧ Blk H' B id (cs.take off ++ vs ++ cs.drop (off + vs.length)) ∧ Gr B H H' ∧ H'.size = H.size := by
  obtain ⟨room, fam, ver, pl, st, fr, h1, h2, h3, h4, h5, h6⟩ := h
  cases vs with
  | nil => exact ⟨H, rfl, by simpa using ⟨room, fam, ver, pl, st, fr, h1, h2, h3, h4, h5, h6⟩, Gr.refl hw, rfl⟩
  | cons v vs =>
    have hroom : H.room? id = room := by simp only [Heap.room?, h1]
    have hov := over_in off room (v :: vs) cs hl
    refine ⟨{ size := H.size, blk := H.blk.set id (.mem (cs.take off ++ (v :: vs) ++ cs.drop (off + (v :: vs).length)) room fam ver true pl (st + 1)), fams := H.fams.set fam (ver, ver) }, ?_, ?_, ?_, rfl⟩
    · simp only [Heap.stores, hs, cond_true, Heap.write, h1, h2, hroom, hov]
      rw [show Nat.beq ver ver = true from Nat.beq_refl ver, show Nat.ble fr ver = true from Nat.ble_eq_true_of_le h3]
      rfl
    · refine ⟨room, fam, ver, pl, st + 1, ver, T.get_set_same _ _ _, T.get_set_same _ _ _, Nat.le_refl _, h4, h5, ?_⟩
      have : (cs.take off ++ (v :: vs) ++ cs.drop (off + (v :: vs).length)).length = cs.length := by
        simp only [List.length_append, List.length_take, List.length_drop]
        omega
      omega
    · have hid := hw.blk _ _ h1
      have hfam := hw.fams _ _ h2
      refine ⟨⟨?_, ?_, ?_⟩, Nat.le_refl _, fun i hi => ?_, fun f hf => ?_⟩
      · intro i b hb
        simp only [T.get_set] at hb ⊢
        split at hb
        · omega
        · exact hw.blk _ _ hb
      · intro f x hf
        simp only [T.get_set] at hf ⊢
        split at hf
        · omega
        · exact hw.fams _ _ hf
      · intro i c r f v' w p s hb
        simp only [T.get_set] at hb ⊢
        split at hb
        · cases hb; exact hfam
        · exact hw.fam _ _ _ _ _ _ _ _ hb
      · simp only [T.get_set]; rw [if_neg (by omega)]
      · simp only [T.get_set]; rw [if_neg (by omega)]

theorem Blk.eStore {H : Heap} {B id : Nat} {cs : List V} (h : Blk H B id cs) (hw : WF H) (off : Nat) (x : V) (n : Nat) (hn : x.cells.length = n) (hl : off + n ≤ cs.length) (hs : x.cells.all V.scal = true) (τ : Tape) :
    ∃ H', Am.eStore n [.ptr id off, x] H τ = some (.tup [], H', τ) ∧ Blk H' B id (cs.take off ++ x.cells ++ cs.drop (off + n)) ∧ Gr B H H' ∧ H'.size = H.size := by
  obtain ⟨H', h1, h2, h3, h4⟩ := h.stores hw off x.cells (by omega) hs
  refine ⟨H', ?_, by rw [← hn]; exact h2, h3, h4⟩
  simp only [Am.eStore, hn, h1]
  rw [show Nat.beq n n = true from Nat.beq_refl n]
  rfl

theorem load_cell {H : Heap} {id off : Nat} {cs : List V} {v : V} (h : H.cells? id = some cs) (hv : cs[off]? = some v) : lLoad1 [.ptr id off] H = some v := by
  simp [lLoad1, Heap.load, h, hv]
theorem load_cells {H : Heap} {id off n : Nat} {cs : List V} (h : H.cells? id = some cs) (hl : off + n ≤ cs.length) : lLoadN n [.ptr id off] H = some (.agg ((cs.drop off).take n)) := by
  simp only [lLoadN, Heap.loads, h]
  rw [takeN_all _ _ (by rw [List.length_drop]; omega)]
theorem loads_cells {H : Heap} {id off n : Nat} {cs : List V} (h : H.cells? id = some cs) (hl : off + n ≤ cs.length) : H.loads id off n = some ((cs.drop off).take n) := by
  simp only [Heap.loads, h]
  rw [takeN_all _ _ (by rw [List.length_drop]; omega)]

theorem strSlice_lo {s : List UInt8} {k : IntKind} {i : Nat} (h : i ≤ s.length) : pStrSlice true false [.str s, .int k (i : Int)] = some (.str (s.drop i)) := by
  simp only [pStrSlice, bounds3, optN, natOf_nat, strCut, Option.getD_none, Option.getD_some, Nat.ble_eq_true_of_le h, Nat.ble_eq_true_of_le (Nat.le_refl s.length), Bool.and_self, cond_true, List.take_length]
theorem strSlice_hi {s : List UInt8} {k : IntKind} {j : Nat} (h : j ≤ s.length) : pStrSlice false true [.str s, .int k (j : Int)] = some (.str (s.take j)) := by
  simp only [pStrSlice, bounds3, optN, natOf_nat, strCut, Option.getD_none, Option.getD_some, Nat.ble_eq_true_of_le h, Nat.ble_eq_true_of_le (Nat.zero_le j), Bool.and_self, cond_true, List.drop_zero]
theorem strSlice_lohi {s : List UInt8} {k k' : IntKind} {i j : Nat} (h1 : i ≤ j) (h2 : j ≤ s.length) : pStrSlice true true [.str s, .int k (i : Int), .int k' (j : Int)] = some (.str ((s.take j).drop i)) := by
  simp only [pStrSlice, bounds3, optN, natOf_nat, strCut, Option.getD_some, Nat.ble_eq_true_of_le h1, Nat.ble_eq_true_of_le h2, Bool.and_self, cond_true]

theorem getK_set (t : T V) (i : Nat) (v : V) (j : Nat) (c : V → Ans) : getK (T.set t i v) j c = if i = j then c v else getK t j c := by
  unfold getK
  rw [T.get_set]
  by_cases h : i = j
  · rw [if_pos h, if_pos h]
  · rw [if_neg h, if_neg h]
theorem repl_one (n : Nat) (v : V) : repl n [v] = List.replicate n v := by
  simp [repl]

/-- what a function answers, whatever the tape -/
def Ret (c : CallK) (f : Nat) (vs : List V) (H : Heap) (R : V → Heap → Prop) : Prop := ∀ τ q, ∃ v H' τ', R v H' ∧ c f vs H τ q = q v H' τ'
/-- it answers so, and memory stays -/
def Pur (c : CallK) (f : Nat) (vs : List V) (H : Heap) (v : V) : Prop := ∀ τ q, c f vs H τ q = q v H τ
end Go.Am

/-
  THE ABSTRACT MACHINE 'Am', thirty-fourth part: variables in memory.
-/
namespace Go.Am

/-- a variable's block, whose family is its own -/
def Bx (H : Heap) (id : Nat) (cs : List V) : Prop :=
  ∃ room ver pl st fr, H.blk.get id = some (.mem cs room id ver true pl st) ∧ H.fams.get id = some (fr, ver) ∧ fr ≤ ver ∧ cs.length ≤ room

/-- one block alone is turned -/
structure Only (i : Nat) (H H' : Heap) : Prop where
  wf : WF H'
  size : H'.size = H.size
  blk : ∀ id, id ≠ i → H'.blk.get id = H.blk.get id
  fams : ∀ f, f ≠ i → H'.fams.get f = H.fams.get f

theorem Only.gr {i B : Nat} {H H' : Heap} (h : Only i H H') (hB : B ≤ i) : Gr B H H' :=
  ⟨h.wf, by rw [h.size]; exact Nat.le_refl _, fun id hid => h.blk id (by omega), fun f hf => h.fams f (by omega)⟩

theorem Bx.blk {H : Heap} {id : Nat} {cs : List V} (h : Bx H id cs) : Blk H id id cs := by
  obtain ⟨room, ver, pl, st, fr, h1, h2, h3, h4⟩ := h
  exact ⟨room, id, ver, pl, st, fr, h1, h2, h3, Nat.le_refl _, Nat.le_refl _, h4⟩
theorem Bx.cells {H : Heap} {id : Nat} {cs : List V} (h : Bx H id cs) : H.cells? id = some cs := h.blk.cells
theorem Bx.lt {H : Heap} {id : Nat} {cs : List V} (h : Bx H id cs) (hw : WF H) : id < H.size := h.blk.lt hw
theorem Bx.new (H : Heap) (cells : List V) (room : Nat) (pl : Bool) (hr : cells.length ≤ room) : Bx (H.new cells room pl) H.size cells :=
  ⟨room, 0, pl, 0, 0, T.get_set_same _ _ _, T.get_set_same _ _ _, Nat.le_refl _, hr⟩
theorem Bx.gr {H H' : Heap} {C id : Nat} {cs : List V} (h : Bx H id cs) (hg : Gr C H H') (hC : id < C) : Bx H' id cs := by
  obtain ⟨room, ver, pl, st, fr, h1, h2, h3, h4⟩ := h
  exact ⟨room, ver, pl, st, fr, by rw [hg.blk id hC]; exact h1, by rw [hg.fams id hC]; exact h2, h3, h4⟩
theorem Bx.only {H H' : Heap} {i id : Nat} {cs : List V} (h : Bx H id cs) (hg : Only i H H') (hC : id ≠ i) : Bx H' id cs := by
  obtain ⟨room, ver, pl, st, fr, h1, h2, h3, h4⟩ := h
  exact ⟨room, ver, pl, st, fr, by rw [hg.blk id hC]; exact h1, by rw [hg.fams id hC]; exact h2, h3, h4⟩
theorem Own.only {H H' : Heap} {i B z : Nat} {v : V} {n : Nat} {cs : List V} (h : Own H B z v n cs) (hg : Only i H H') (hi : i < B) : Own H' B z v n cs := by
  rcases h with h | ⟨id, e, room, fam, ver, pl, st, fr, h1, h2, h3, h4, h5, h6, h7⟩
  · exact .inl h
  · exact .inr ⟨id, e, room, fam, ver, pl, st, fr, h1, by rw [hg.blk id (by omega)]; exact h2, by rw [hg.fams fam (by omega)]; exact h3, h4, h5, h6, h7⟩
theorem cells_only {H H' : Heap} {i id : Nat} {cs : List V} (hc : H.cells? id = some cs) (hg : Only i H H') (hi : id ≠ i) (hf : ∀ cs room fam ver wr pl st, H.blk.get id = some (.mem cs room fam ver wr pl st) → fam ≠ i) : H'.cells? id = some cs := by
  unfold Heap.cells? at hc ⊢
  rw [hg.blk id hi]
  split at hc
  · rename_i cs' room fam ver wr pl st hb
    rw [hg.fams fam (hf _ _ _ _ _ _ _ hb)]
    exact hc
  · cases hc

/-- a store into a variable -/
theorem Bx.eStore {H : Heap} {id : Nat} {cs : List V} (h : Bx H id cs) (hw : WF H) (off : Nat) (x : V) (n : Nat) (hn : x.cells.length = n) (hl : off + n ≤ cs.length) (hn0 : 0 < n) (hs : x.cells.all V.scal = true) (τ : Tape) :
    ∃ H', Am.eStore n [.ptr id off, x] H τ = some (.tup [], H', τ) ∧ Bx H' id (cs.take off ++ x.cells ++ cs.drop (off + n)) ∧ Only id H H' := by
  obtain ⟨room, ver, pl, st, fr, h1, h2, h3, h4⟩ := h
  have hroom : H.room? id = room := by simp only [Heap.room?, h1]
  have hov := over_in off room x.cells cs (by omega)
  obtain ⟨y, ys, hy⟩ : ∃ y ys, x.cells = y :: ys := by
    cases hx : x.cells with
    | nil => rw [hx] at hn; simp at hn; omega
    | cons y ys => exact ⟨y, ys, rfl⟩
  refine ⟨{ size := H.size, blk := H.blk.set id (.mem (cs.take off ++ x.cells ++ cs.drop (off + n)) room id ver true pl (st + 1)), fams := H.fams.set id (ver, ver) }, ?_, ?_, ?_⟩
  · have : H.stores id off x.cells = some { size := H.size, blk := H.blk.set id (.mem (cs.take off ++ x.cells ++ cs.drop (off + n)) room id ver true pl (st + 1)), fams := H.fams.set id (ver, ver) } := by
      rw [hy] at hs hov ⊢
      simp only [Heap.stores, hs, cond_true, Heap.write, h1, h2, hroom, hov]
      rw [show Nat.beq ver ver = true from Nat.beq_refl ver, show Nat.ble fr ver = true from Nat.ble_eq_true_of_le h3]
      rw [← hy, hn]
      rfl
    simp only [Am.eStore, hn, this]
    rw [show Nat.beq n n = true from Nat.beq_refl n]
    rfl
  · refine ⟨room, ver, pl, st + 1, ver, T.get_set_same _ _ _, T.get_set_same _ _ _, Nat.le_refl _, ?_⟩
    have : (cs.take off ++ x.cells ++ cs.drop (off + n)).length = cs.length := by
      simp only [List.length_append, List.length_take, List.length_drop]
      omega
    omega
  · have hid := hw.blk _ _ h1
    refine ⟨⟨?_, ?_, ?_⟩, rfl, fun i hi => ?_, fun f hf => ?_⟩
    · intro i b hb
      simp only [T.get_set] at hb ⊢
      split at hb
      · omega
      · exact hw.blk _ _ hb
    · intro f x hf
      simp only [T.get_set] at hf ⊢
      split at hf
      · omega
      · exact hw.fams _ _ hf
    · intro i c r f v' w p s hb
      simp only [T.get_set] at hb ⊢
      split at hb
      · cases hb; exact hid
      · exact hw.fam _ _ _ _ _ _ _ _ hb
    · simp only [T.get_set]; rw [if_neg (Ne.symm hi)]
    · simp only [T.get_set]; rw [if_neg (Ne.symm hf)]

/-- an element of a list -/
theorem Rd.elem1 {H : Heap} {v : V} {n : Nat} {cs : List V} (h : Rd H 1 v n cs) {i : Nat} {x : V} (hi : cs[i]? = some x) : ∃ p, pSlIdx 1 [v, .int .i64 (i : Int)] = some p ∧ lLoad1 [p] H = some x := by
  rcases h with ⟨_, rfl, rfl⟩ | ⟨id, off, lo, ex, all, rfl, h2, h3, h4⟩
  · simp at hi
  · have hlt : i < n := by have := (List.getElem?_eq_some_iff.1 hi).1; omega
    refine ⟨.ptr id (off + i), ?_, ?_⟩
    · have : Nat.blt i n = true := by simp [Nat.blt]; omega
      simp [pSlIdx, natOf_nat, this]
    · refine load_cell h2 ?_
      rw [h3, List.getElem?_take_of_lt (by omega), List.getElem?_drop] at hi
      exact hi
end Go.Am

/-
  THE ABSTRACT MACHINE 'Am', thirty-fifth part: what comes next may be taken off.
-/
namespace Go.Am

def CallNat (c : CallK) : Prop := ∀ f vs H τ q, c f vs H τ q = effK (c f vs H τ retK) q
theorem CallNat.mk {c : CallK} (hn : CallNat c) {f : Nat} {vs : List V} {H H' : Heap} {τ τ' : Tape} {v : V} (h : c f vs H τ retK = retK v H' τ') (q : KV) : c f vs H τ q = q v H' τ' := by
  rw [hn, h]; rfl

def bindA (o : Ans) (q : KV) : Ans := effK o q
theorem effK_effK (o : Ans) (q q' : KV) : effK (effK o q) q' = effK o fun v H τ => effK (q v H τ) q' := by
  cases o with
  | none => rfl
  | some x => rfl
theorem someK_effK (o : Option V) (c : V → Ans) (q : KV) : effK (someK o c) q = someK o fun v => effK (c v) q := by
  cases o <;> rfl

theorem gK_nat (g : V) (w : Bool) (body : KV → Ans) (H : Heap) (τ : Tape) (k q : KV) : effK (gK g w body H τ k) q = gK g w body H τ fun v H τ => effK (k v H τ) q := by
  unfold gK
  split
  · rename_i b
    cases b <;> cases w <;> first | exact effK_effK _ _ _ | rfl
  · rfl
  · rfl

section
variable {c : CallK} (hn : CallNat c)
include hn

theorem opK_nat (o : AOp) (vs : List V) (H : Heap) (τ : Tape) (k q : KV) : effK (opK c o vs H τ k) q = opK c o vs H τ fun v H τ => effK (k v H τ) q := by
  cases o with
  | p o => simp only [opK, pK_eq, someK_effK]
  | l o => simp only [opK, someK_effK]
  | e o => simp only [opK, effK_effK]
  | call f => simp only [opK]; rw [hn f vs H τ k, effK_effK, ← hn f vs H τ]
  | callv =>
    simp only [opK]
    split
    · rename_i f first cap vs'
      rw [hn f _ H τ k, effK_effK, ← hn f _ H τ]
    · rfl

omit hn in
theorem argsK_nat (fr : T V) (args : List O) (k : List V → Ans) (q : KV) : effK (argsK fr args k) q = argsK fr args fun vs => effK (k vs) q := by
  unfold argsK
  split <;> rfl

theorem insK_nat (i : Ins) (st : St) (τ : Tape) (k : St → Tape → Ans) (q : KV) : effK (insK c i st τ k) q = insK c i st τ fun st τ => effK (k st τ) q := by
  unfold insK
  split
  · simp only [argsK_nat, opK_nat hn]
  · split
    · exact gK_nat _ _ _ _ _ _ _
    · rfl

theorem regK_nat : ∀ (is : List Ins) (st : St) (τ : Tape) (k : St → Tape → Ans) (q : KV), effK (regK c is st τ k) q = regK c is st τ fun st τ => effK (k st τ) q := by
  intro is
  induction is with
  | nil => intro st τ k q; rfl
  | cons i is ih => intro st τ k q; simp only [regK, insK_nat hn, ih]

theorem drawK_nat : ∀ (is : List Ins) (st : St) (τ : Tape) (hs : List Heap) (ls : List LNote) (k : St → Tape → List Heap → List LNote → Ans) (q : KV), effK (drawK c is st τ hs ls k) q = drawK c is st τ hs ls fun st τ hs ls => effK (k st τ hs ls) q := by
  intro is
  induction is with
  | nil => intro st τ hs ls k q; rfl
  | cons i is ih => intro st τ hs ls k q; simp only [drawK, insK_nat hn, ih]

omit hn in
theorem keepK_nat : ∀ (l : List Nat) (fr acc : T V) (k : T V → Ans) (q : KV), effK (keepK l fr acc k) q = keepK l fr acc fun fr => effK (k fr) q := by
  intro l
  induction l with
  | nil => intro fr acc k q; rfl
  | cons i l ih =>
    intro fr acc k q
    simp only [keepK, getK]
    split
    · exact ih _ _ _ _
    · rfl

def KC.eff (k : KC) (q : KV) : KC := fun ex st τ => effK (k ex st τ) q
omit hn in
theorem seqK_eff (rest : St → Tape → Ans) (k : KC) (q : KV) : KC.eff (seqK rest k) q = seqK (fun st τ => effK (rest st τ) q) (KC.eff k q) := by
  funext ex st τ
  cases ex <;> rfl
omit hn in
theorem blockK_eff (id : Nat) (k : KC) (q : KV) : KC.eff (blockK id k) q = blockK id (KC.eff k q) := by
  funext ex st τ
  cases ex with
  | exit id' => simp only [KC.eff, blockK]; cases Nat.beq id' id <;> rfl
  | _ => rfl
omit hn in
theorem endK_eff (rs : List R) (k q : KV) : KC.eff (endK rs k) q = endK rs fun v H τ => effK (k v H τ) q := by
  funext ex st τ
  cases ex <;> simp only [KC.eff, endK, someK_effK] <;> rfl

theorem execK_nat (N : Nat) : ∀ (x : C) (st : St) (τ : Tape) (k : KC) (q : KV), effK (execK c N x st τ k) q = execK c N x st τ (KC.eff k q) := by
  intro x
  induction x with
  | skip => intro st τ k q; rfl
  | reg ops => intro st τ k q; simp only [execK, regK_nat hn]; rfl
  | draw ops =>
    intro st τ k q
    simp only [execK, drawK_nat hn]
    congr 1
    funext st' τ' hs ls
    cases chkLoads hs.reverse ls <;> rfl
  | seq a b iha ihb =>
    intro st τ k q
    simp only [execK, iha, seqK_eff]
    congr 2
    funext st τ
    exact ihb st τ k q
  | cond v a b iha ihb =>
    intro st τ k q
    simp only [execK]
    split
    · simp only [condK]
      split
      · exact iha _ _ _ _
      · exact ihb _ _ _ _
      · rfl
    · rfl
  | block id x ih => intro st τ k q; simp only [execK, ih, blockK_eff]
  | loop x ih =>
    intro st τ k q
    simp only [execK]
    have : ∀ n (st : St) (τ : Tape) (k : KC), effK (loopK (execK c N x) n st τ k) q = loopK (execK c N x) n st τ (KC.eff k q) := by
      intro n
      induction n with
      | zero => intro st τ k; rfl
      | succ n ihn =>
        intro st τ k
        simp only [loopK, ih, seqK_eff]
        congr 2
        funext st τ
        exact ihn st τ k
    exact this N st τ k
  | exit id => intro st τ k q; rfl
  | ret => intro st τ k q; rfl
  | scope x ih => intro st τ k q; exact ih st τ k q
  | keep l x ih => intro st τ k q; simp only [execK, keepK_nat, ih]
  | bad => intro st τ k q; rfl

theorem funK_nat (N : Nat) (fn : Fun) (vs : List V) (H : Heap) (τ : Tape) (k q : KV) : effK (funK c N fn vs H τ k) q = funK c N fn vs H τ fun v H τ => effK (k v H τ) q := by
  unfold funK
  cases Nat.beq vs.length fn.nparams with
  | false => rfl
  | true => simp only [cond_true, execK_nat hn, endK_eff]
end

/-- a printed function, whatever comes next -/
def EntNat (e : Ent) : Prop := ∀ c, CallNat c → ∀ N vs H τ q, e c N vs H τ q = effK (e c N vs H τ retK) q
theorem effK_retK_eta (v : V) (H : Heap) (τ : Tape) (q : KV) : effK (retK v H τ) q = q v H τ := rfl
theorem funK_ent {c : CallK} (hn : CallNat c) (N : Nat) (fn : Fun) (vs : List V) (H : Heap) (τ : Tape) (q : KV) : funK c N fn vs H τ q = effK (funK c N fn vs H τ retK) q := by
  rw [funK_nat hn]; rfl
theorem PrimEnt_nat (p : List V → Heap → Tape → Option (V × Heap × Tape)) : EntNat (PrimEnt p) := by
  intro c _ N vs H τ q
  simp only [PrimEnt, effK_effK]
  rfl
theorem callK_nat {E : T Ent} (N : Nat) (h : ∀ f e, E.get f = some e → EntNat e) : ∀ d, CallNat (callK (tabOf E N) d) := by
  intro d
  induction d with
  | zero => intro f vs H τ q; rfl
  | succ d ih =>
    intro f vs H τ q
    simp only [callK, tabOf]
    split
    · rename_i e he
      exact h f e he _ ih N vs H τ q
    · rfl
end Go.Am

/-
  THE ABSTRACT MACHINE 'Am', thirty-sixth part: the memory that a call finds, read forward.
-/
namespace Go.Am

theorem mkHeap_blk_old : ∀ (l : List (Option (List V))) (H : Heap) (f : Nat), f < H.size → (mkHeap l H).blk.get f = H.blk.get f := by
  intro l
  induction l with
  | nil => intro H f _; rfl
  | cons x l ih =>
    intro H f hf
    cases x with
    | none => simp only [mkHeap]; rw [ih _ f (by simp only; omega), T.get_set_ne _ _ (by omega)]
    | some cs => simp only [mkHeap]; rw [ih _ f (by simp only; omega), T.get_set_ne _ _ (by omega)]

theorem mkHeap_blk_mem : ∀ (l : List (Option (List V))) (H : Heap) (j : Nat) (cs : List V), l[j]? = some (some cs) → (mkHeap l H).blk.get (H.size + j) = some (.mem cs cs.length (H.size + j) 0 false false 0) := by
  intro l
  induction l with
  | nil => intro H j cs h; simp at h
  | cons x l ih =>
    intro H j cs h
    cases j with
    | zero =>
      simp only [List.getElem?_cons_zero, Option.some.injEq] at h
      subst h
      simp only [mkHeap]
      rw [mkHeap_blk_old _ _ _ (by simp only; omega)]
      exact T.get_set_same _ _ _
    | succ j =>
      have h' : l[j]? = some (some cs) := by simpa using h
      have e : H.size + (j + 1) = H.size + 1 + j := by omega
      rw [e]
      cases x with
      | none => exact ih { size := H.size + 1, blk := H.blk.set H.size .gone, fams := H.fams } j cs h'
      | some c => exact ih { size := H.size + 1, blk := H.blk.set H.size (.mem c c.length H.size 0 false false 0), fams := H.fams.set H.size (0, 0) } j cs h'

theorem start_cells {l : List (Option (List V))} {j : Nat} {cs : List V} (h : l[j]? = some (some cs)) : (start l).cells? j = some cs := by
  have h1 := mkHeap_blk_mem l H0 j cs h
  have h2 := mkHeap_fam_mem l H0 j cs h
  rw [show H0.size + j = j from Nat.zero_add _] at h1 h2
  simp only [Heap.cells?, start, h1, h2]
  rfl

theorem start_wf (l : List (Option (List V))) : WF (start l) := by
  refine ⟨?_, ?_, ?_⟩
  · intro id b h
    rw [start_size]
    rcases start_blk h with ⟨cs, h1, _⟩ | ⟨h1, _⟩ <;> exact (List.getElem?_eq_some_iff.1 h1).1
  · intro f x h
    rw [start_size]
    rcases mkHeap_fam l H0 f x h with h | ⟨h, _⟩
    · exact absurd h (by simp [H0, T.get])
    · simpa [H0] using h
  · intro id cs room fam ver wr pl st h
    rw [start_size]
    rcases start_blk h with ⟨cs', h1, h2⟩ | ⟨_, h2⟩
    · cases h2; exact (List.getElem?_eq_some_iff.1 h1).1
    · cases h2
end Go.Am

/-
  THE ABSTRACT MACHINE 'Am', thirty-seventh part: words without a sign: what their operations answer, as natural numbers.
-/
namespace Go.Am
theorem wr_u32 (m : Nat) : wr .u32 (m : Int) = ((m % 4294967296 : Nat) : Int) := by
  rw [wr_eq]; simp only [IntKind.wrap, IntKind.signed, IntKind.bits]; simp
theorem wr_u64 (m : Nat) : wr .u64 (m : Int) = ((m % 18446744073709551616 : Nat) : Int) := by
  rw [wr_eq]; simp only [IntKind.wrap, IntKind.signed, IntKind.bits]; simp
theorem wr_u8 (m : Nat) : wr .u8 (m : Int) = ((m % 256 : Nat) : Int) := by
  rw [wr_eq]; simp only [IntKind.wrap, IntKind.signed, IntKind.bits]; simp
/-- kinds without a sign -/
def Uk (k : IntKind) : Prop := ∀ m : Nat, wr k (m : Int) = ((m % pow2 k : Nat) : Int)
theorem uk32 : Uk .u32 := wr_u32
theorem uk64 : Uk .u64 := wr_u64
theorem uk8 : Uk .u8 := wr_u8
theorem u_add {k : IntKind} (h : Uk k) (x y : Nat) (c : V → Ans) : binK .add (.int k (x : Int)) (.int k (y : Int)) c = c (.int k (((x + y) % pow2 k : Nat) : Int)) := by
  rw [bin_add, ← Int.natCast_add, h]
theorem u_mul {k : IntKind} (h : Uk k) (x y : Nat) (c : V → Ans) : binK .mul (.int k (x : Int)) (.int k (y : Int)) c = c (.int k (((x * y) % pow2 k : Nat) : Int)) := by
  rw [bin_mul, ← Int.natCast_mul, h]
theorem u_shr {k k' : IntKind} (x n : Nat) (c : V → Ans) : binK .shr (.int k (x : Int)) (.int k' (n : Int)) c = c (.int k ((x / 2 ^ (min n k.bits) : Nat) : Int)) := by
  have : ((x : Int).fdiv ((2 ^ (min n k.bits) : Nat) : Int)) = ((x / 2 ^ (min n k.bits) : Nat) : Int) := by
    rw [Int.fdiv_eq_ediv_of_nonneg _ (Int.natCast_nonneg _)]; rfl
  show binIntK .shr k x k' n c = _
  simp only [binIntK, shiftK]
  simp only [forceN_eq, mkI_eq]
  exact congrArg (fun z => c (.int k z)) this
theorem u_shl {k k' : IntKind} (h : Uk k) (x n : Nat) (c : V → Ans) : binK .shl (.int k (x : Int)) (.int k' (n : Int)) c = c (.int k (((x * 2 ^ (min n k.bits)) % pow2 k : Nat) : Int)) := by
  show binIntK .shl k x k' n c = _
  simp only [binIntK, shiftK]
  simp only [forceN_eq, mkI_eq]
  refine congrArg (fun z => c (.int k z)) ?_
  rw [← h, Int.natCast_mul]; rfl
theorem toU_nat (k : IntKind) (x : Nat) : toU k (x : Int) = x % pow2 k := rfl
theorem u_or {k : IntKind} (h : Uk k) (x y : Nat) (c : V → Ans) : binK .or (.int k (x : Int)) (.int k (y : Int)) c = c (.int k (((Nat.lor (x % pow2 k) (y % pow2 k)) % pow2 k : Nat) : Int)) := by
  simp only [binK, binIntK, intK, bitsOp, if_true, mkI_eq, toU_nat]
  exact congrArg (fun z => c (.int k z)) (h _)
theorem u_xor {k : IntKind} (h : Uk k) (x y : Nat) (c : V → Ans) : binK .xor (.int k (x : Int)) (.int k (y : Int)) c = c (.int k (((Nat.xor (x % pow2 k) (y % pow2 k)) % pow2 k : Nat) : Int)) := by
  simp only [binK, binIntK, intK, bitsOp, if_true, mkI_eq, toU_nat]
  exact congrArg (fun z => c (.int k z)) (h _)
theorem u_and {k : IntKind} (h : Uk k) (x y : Nat) (c : V → Ans) : binK .and (.int k (x : Int)) (.int k (y : Int)) c = c (.int k (((Nat.land (x % pow2 k) (y % pow2 k)) % pow2 k : Nat) : Int)) := by
  simp only [binK, binIntK, intK, bitsOp, if_true, mkI_eq, toU_nat]
  exact congrArg (fun z => c (.int k z)) (h _)
theorem u_not {k : IntKind} (h : Uk k) (x : Nat) (c : V → Ans) : unK .xor (.int k (x : Int)) c = c (.int k (((pow2 k - 1 - x % pow2 k) % pow2 k : Nat) : Int)) := by
  simp only [unK, unOp, mkI_eq, toU_nat, someK_mk]
  exact congrArg (fun z => c (.int k z)) (h _)
end Go.Am

/-
  THE ABSTRACT MACHINE 'Am', thirty-eighth part: memories that grow while one variable of old is turned; lists that are read across.
-/
namespace Go.Am
/-- what lay below B is as it was, but for block S -/
structure Gx (S B : Nat) (H H' : Heap) : Prop where
  wf : WF H'
  size : H.size ≤ H'.size
  blk : ∀ id, id < B → id ≠ S → H'.blk.get id = H.blk.get id
  fams : ∀ f, f < B → f ≠ S → H'.fams.get f = H.fams.get f
theorem Gx.refl {S B : Nat} {H : Heap} (h : WF H) : Gx S B H H := ⟨h, Nat.le_refl _, fun _ _ _ => rfl, fun _ _ _ => rfl⟩
theorem Gr.gx {S B : Nat} {H H' : Heap} (h : Gr B H H') : Gx S B H H' := ⟨h.wf, h.size, fun id hid _ => h.blk id hid, fun f hf _ => h.fams f hf⟩
theorem Only.gx {S B : Nat} {H H' : Heap} (h : Only S H H') : Gx S B H H' := ⟨h.wf, by rw [h.size]; exact Nat.le_refl _, fun id _ hid => h.blk id hid, fun f _ hf => h.fams f hf⟩
/-- another variable, beyond B, is turned -/
theorem Only.gx' {S B i : Nat} {H H' : Heap} (h : Only i H H') (hi : B ≤ i) : Gx S B H H' := (h.gr hi).gx
theorem Gx.trans {S B C : Nat} {H H1 H2 : Heap} (h : Gx S B H H1) (k : Gx S C H1 H2) (hBC : B ≤ C) : Gx S B H H2 :=
  ⟨k.wf, Nat.le_trans h.size k.size, fun id hid hs => (k.blk id (by omega) hs).trans (h.blk id hid hs), fun f hf hs => (k.fams f (by omega) hs).trans (h.fams f hf hs)⟩
theorem Gx.gr {S B : Nat} {H H' : Heap} (h : Gx S B H H') (hS : B ≤ S) : Gr B H H' :=
  ⟨h.wf, h.size, fun id hid => h.blk id hid (by omega), fun f hf => h.fams f hf (by omega)⟩
theorem Gx.weaken {S B C : Nat} {H H' : Heap} (h : Gx S C H H') (hBC : B ≤ C) : Gx S B H H' :=
  ⟨h.wf, h.size, fun id hid => h.blk id (by omega), fun f hf => h.fams f (by omega)⟩
theorem Bx.gx {H H' : Heap} {S C id : Nat} {cs : List V} (h : Bx H id cs) (hg : Gx S C H H') (hC : id < C) (hS : id ≠ S) : Bx H' id cs := by
  obtain ⟨room, ver, pl, st, fr, h1, h2, h3, h4⟩ := h
  exact ⟨room, ver, pl, st, fr, by rw [hg.blk id hC hS]; exact h1, by rw [hg.fams id hC hS]; exact h2, h3, h4⟩
/-- a list that reads so, however the memory goes on from there, but for block S -/
def RdS (S B z : Nat) (H : Heap) (v : V) (n : Nat) (cs : List V) : Prop := ∀ H', Gx S B H H' → Rd H' z v n cs
theorem RdS.rd {S B z : Nat} {H : Heap} {v : V} {n : Nat} {cs : List V} (h : RdS S B z H v n cs) (hw : WF H) : Rd H z v n cs := h H (Gx.refl hw)
theorem RdS.gx {S B z : Nat} {H H1 : Heap} {v : V} {n : Nat} {cs : List V} (h : RdS S B z H v n cs) (hg : Gx S B H H1) : RdS S B z H1 v n cs :=
  fun H' h' => h H' (hg.trans h' (Nat.le_refl _))
/-- a variable of words -/
def ws (k : IntKind) (l : List Nat) : List V := l.map fun (n : Nat) => V.int k (n : Int)
theorem ws_len (k : IntKind) (l : List Nat) : (ws k l).length = l.length := List.length_map _
theorem ws_get {k : IntKind} {l : List Nat} {i : Nat} (h : i < l.length) : (ws k l)[i]? = some (.int k ((l.getD i 0 : Nat) : Int)) := by
  simp [ws, h]
theorem ws_set {k : IntKind} {l : List Nat} {i n : Nat} (h : i < l.length) : (ws k l).take i ++ [V.int k (n : Int)] ++ (ws k l).drop (i + 1) = ws k (l.set i n) := by
  rw [List.set_eq_take_append_cons_drop, if_pos h]
  simp [ws, List.map_take, List.map_drop]
theorem Bx.word {H : Heap} {id : Nat} {k : IntKind} {l : List Nat} (h : Bx H id (ws k l)) (hw : WF H) {i : Nat} (hi : i < l.length) (n : Nat) (τ : Tape) :
    ∃ H', Am.eStore 1 [.ptr id i, .int k (n : Int)] H τ = some (.tup [], H', τ) ∧ Bx H' id (ws k (l.set i n)) ∧ Only id H H' := by
  obtain ⟨H', h1, h2, h3⟩ := h.eStore hw i (.int k (n : Int)) 1 rfl (by rw [ws_len]; omega) (by omega) rfl τ
  refine ⟨H', h1, ?_, h3⟩
  have := ws_set (k := k) (l := l) (n := n) hi
  rw [← this]
  exact h2
end Go.Am

/-
  THE ABSTRACT MACHINE 'Am', thirty-ninth part: parts of lists.
-/
namespace Go.Am
/-- there is room for what a list has -/
def Roomy : V → Prop
  | .sl _ _ n lo ex _ => within n lo ex = true
  | _ => True
theorem within_iff {m lo : Nat} {ex : Option Nat} : within m lo ex = true ↔ m ≤ lo ∨ m ≤ lo + ex.getD 0 := by
  unfold within
  cases h : Nat.ble m lo with
  | true =>
    have := Nat.le_of_ble_eq_true h
    simp [this]
  | false =>
    have : ¬ m ≤ lo := fun h' => by rw [Nat.ble_eq_true_of_le h'] at h; cases h
    cases ex with
    | none => simp; omega
    | some e => simp; omega
theorem natOf_mk (n : Nat) : natOf (n : Int) = some n := natOf_nat n
theorem cut_mk {id off n lo z : Nat} {ex : Option Nat} (hr : within n lo ex = true) {l h : Nat} (hl : l ≤ h) (hh : h ≤ n) :
    ∃ off' lo' ex', pSlSlice z true true false [.sl id off n lo ex z, .int .i64 (l : Int), .int .i64 (h : Int)] = some (.sl id off' (h - l) lo' ex' z) ∧ (l < h → off' = off + l * z) ∧ within (h - l) lo' ex' = true := by
  have hr' : within h lo ex = true := by rw [within_iff] at hr ⊢; omega
  have hle : Nat.ble l h = true := Nat.ble_eq_true_of_le hl
  have hoff : l < h → offIn off l lo ex z = off + l * z := by
    intro hlt
    rw [offIn_eq]
    unfold offAt
    have : Nat.beq (lo + ex.getD 0) l = false := by
      rw [within_iff] at hr'
      cases hq : Nat.beq (lo + ex.getD 0) l with
      | false => rfl
      | true => have := Nat.eq_of_beq_eq_true hq; omega
    rw [this]; rfl
  have hb : bounds3 true true false [.int .i64 (l : Int), .int .i64 (h : Int)] = some (some l, some h, none) := by
    simp [bounds3, optN, natOf_mk]
  by_cases hlo : l ≤ lo
  · refine ⟨offIn off l lo ex z, lo - l, ex, ?_, hoff, ?_⟩
    · simp only [pSlSlice, Nat.beq_refl, cond_true, hb, slCut, Option.getD_some, hr', hle, Bool.and_self, Nat.ble_eq_true_of_le hlo]
    · rw [within_iff] at hr' ⊢; omega
  · have hlo' : Nat.ble l lo = false := by
      cases h : Nat.ble l lo with
      | false => rfl
      | true => exact absurd (Nat.le_of_ble_eq_true h) hlo
    refine ⟨offIn off l lo ex z, 0, some (lo + ex.getD 0 - l), ?_, hoff, ?_⟩
    · simp only [pSlSlice, Nat.beq_refl, cond_true, cond_false, hb, slCut, Option.getD_some, hr', hle, Bool.and_self, hlo']
    · rw [within_iff] at hr' ⊢; simp only [Option.getD_some]; omega
/-- a part of a list that reads so however the memory goes on -/
theorem RdS.cut {S B : Nat} {H : Heap} {v : V} {n : Nat} {cs : List V} (h : RdS S B 1 H v n cs) (hw : WF H) (hr : Roomy v) {l m : Nat} (hl : l < m) (hm : m ≤ n) :
    ∃ v', pSlSlice 1 true true false [v, .int .i64 (l : Int), .int .i64 (m : Int)] = some v' ∧ pLen [v'] = some (.int .i64 ((m - l : Nat) : Int)) ∧ Roomy v' ∧ RdS S B 1 H v' (m - l) ((cs.drop l).take (m - l)) := by
  rcases h.rd hw with ⟨_, rfl, _⟩ | ⟨id, off, lo, ex, all, rfl, _, _, _⟩
  · omega
  · obtain ⟨off', lo', ex', e1, e2, e3⟩ := cut_mk (id := id) (off := off) (z := 1) hr (Nat.le_of_lt hl) hm
    have e2 := e2 hl
    subst e2
    refine ⟨_, e1, rfl, e3, fun H' hg => ?_⟩
    rcases h H' hg with ⟨_, h0, _⟩ | ⟨id', off'', lo'', ex'', all, q0, q1, q2, q3⟩
    · omega
    · cases q0
      refine .inr ⟨id, _, _, _, all, rfl, q1, ?_, ?_⟩
      · rw [q2, List.drop_take, List.drop_drop, List.take_take]
        congr 1 <;> (try congr 1) <;> omega
      · rw [List.length_take, List.length_drop, q3]; omega
end Go.Am

/-
  THE ABSTRACT MACHINE 'Am', fortieth part: lists from a place on; a word more at a list's end.
-/
namespace Go.Am
theorem from_mk {id off n lo z : Nat} {ex : Option Nat} (hr : within n lo ex = true) {l : Nat} (hl : l ≤ n) :
    ∃ off' lo' ex', pSlSlice z true false false [.sl id off n lo ex z, .int .i64 (l : Int)] = some (.sl id off' (n - l) lo' ex' z) ∧ (l < n → off' = off + l * z) ∧ within (n - l) lo' ex' = true := by
  have hle : Nat.ble l n = true := Nat.ble_eq_true_of_le hl
  have hoff : l < n → offIn off l lo ex z = off + l * z := by
    intro hlt
    rw [offIn_eq]
    unfold offAt
    have : Nat.beq (lo + ex.getD 0) l = false := by
      rw [within_iff] at hr
      cases hq : Nat.beq (lo + ex.getD 0) l with
      | false => rfl
      | true => have := Nat.eq_of_beq_eq_true hq; omega
    rw [this]; rfl
  have hb : bounds3 true false false [.int .i64 (l : Int)] = some (some l, none, none) := by
    simp [bounds3, optN, natOf_mk]
  by_cases hlo : l ≤ lo
  · refine ⟨offIn off l lo ex z, lo - l, ex, ?_, hoff, ?_⟩
    · simp only [pSlSlice, Nat.beq_refl, cond_true, hb, slCut, Option.getD_some, Option.getD_none, hr, hle, Bool.and_self, Nat.ble_eq_true_of_le hlo]
    · rw [within_iff] at hr ⊢; omega
  · have hlo' : Nat.ble l lo = false := by
      cases h : Nat.ble l lo with
      | false => rfl
      | true => exact absurd (Nat.le_of_ble_eq_true h) hlo
    refine ⟨offIn off l lo ex z, 0, some (lo + ex.getD 0 - l), ?_, hoff, ?_⟩
    · simp only [pSlSlice, Nat.beq_refl, cond_true, cond_false, hb, slCut, Option.getD_some, Option.getD_none, hr, hle, Bool.and_self, hlo']
    · rw [within_iff] at hr ⊢; simp only [Option.getD_some]; omega

/-- its block can be looked at -/
def Src (H : Heap) : V → Prop
  | .sl id _ _ _ _ _ => ∃ all, H.cells? id = some all
  | _ => True
theorem Src.gr {H H' : Heap} {B : Nat} {v : V} (h : Src H v) (hg : Gr B H H') (hw : WF H) (hB : H.size ≤ B) : Src H' v := by
  cases v with
  | sl id _ _ _ _ _ => obtain ⟨all, h⟩ := h; exact ⟨all, hg.cells hw hB h⟩
  | _ => trivial
theorem Rd.len {H : Heap} {z : Nat} {v : V} {n : Nat} {cs : List V} (h : Rd H z v n cs) : cs.length = n * z := by
  rcases h with ⟨_, rfl, rfl⟩ | ⟨id, off, lo, ex, all, rfl, _, _, h4⟩
  · simp
  · exact h4
theorem Rd.pLen {H : Heap} {z : Nat} {v : V} {n : Nat} {cs : List V} (h : Rd H z v n cs) : pLen [v] = some (.int .i64 (n : Int)) := by
  rcases h with ⟨rfl | ⟨id, off, lo, ex, rfl⟩, rfl, rfl⟩ | ⟨id, off, lo, ex, all, rfl, _, _, h4⟩ <;> rfl
/-- a list from a place on, in any memory in which it reads -/
theorem Rd.from {H : Heap} {z : Nat} {v : V} {n : Nat} {cs : List V} (h : Rd H z v n cs) (hr : Roomy v) {l : Nat} (hl : l ≤ n) :
    ∃ v', pSlSlice z true false false [v, .int .i64 (l : Int)] = some v' ∧ Roomy v' ∧ (∀ H', Src H' v → Src H' v') ∧ ∀ H' cs', Rd H' z v n cs' → Rd H' z v' (n - l) (cs'.drop (l * z)) := by
  have key : ∀ {id off lo ex}, v = .sl id off n lo ex z → ∃ v', pSlSlice z true false false [v, .int .i64 (l : Int)] = some v' ∧ Roomy v' ∧ (∀ H', Src H' v → Src H' v') ∧ ∀ H' cs', Rd H' z v n cs' → Rd H' z v' (n - l) (cs'.drop (l * z)) := by
    rintro id off lo ex rfl
    obtain ⟨off', lo', ex', e1, e2, e3⟩ := from_mk (id := id) (off := off) (z := z) hr hl
    refine ⟨_, e1, e3, fun _ h => h, fun H' cs' h' => ?_⟩
    have hlen := h'.len
    rcases h' with ⟨_, h0, rfl⟩ | ⟨id', off'', lo'', ex'', all, q0, q1, q2, q3⟩
    · exact .inl ⟨.inr ⟨id, off', lo', ex', by rw [show n - l = 0 by omega]⟩, by omega, by simp⟩
    · cases q0
      by_cases hlt : l < n
      · have e2 := e2 hlt
        subst e2
        refine .inr ⟨id, _, _, _, all, rfl, q1, ?_, ?_⟩
        · rw [q2, List.drop_take, List.drop_drop, Nat.sub_mul]
        · rw [List.length_drop, hlen, Nat.sub_mul]
      · refine .inl ⟨.inr ⟨id, off', lo', ex', by rw [show n - l = 0 by omega]⟩, by omega, ?_⟩
        rw [List.drop_eq_nil_of_le]
        rw [hlen]; exact Nat.mul_le_mul_right _ (by omega)
  rcases h with ⟨rfl | ⟨id, off, lo, ex, rfl⟩, rfl, rfl⟩ | ⟨id, off, lo, ex, all, rfl, _, _, h4⟩
  · obtain rfl : l = 0 := by omega
    refine ⟨.nils, ?_, trivial, ?_, fun H' cs' h' => ?_⟩
    · rfl
    · exact fun _ _ => trivial
    · have := h'.len
      have : cs' = [] := by cases cs' with | nil => rfl | cons a l => simp at this
      subst this
      exact .inl ⟨.inl rfl, rfl, by simp⟩
  · exact key rfl
  · exact key rfl
theorem Own.pLen {H : Heap} {B z : Nat} {v : V} {n : Nat} {cs : List V} (h : Own H B z v n cs) : Am.pLen [v] = some (.int .i64 (n : Int)) := h.rd.pLen
theorem Own.roomy {H : Heap} {B z : Nat} {v : V} {n : Nat} {cs : List V} (h : Own H B z v n cs) : Roomy v := by
  rcases h with ⟨rfl, _⟩ | ⟨id, e, room, fam, ver, pl, st, fr, rfl, _⟩
  · trivial
  · show within n n (some e) = true
    rw [within_iff]; exact .inl (Nat.le_refl _)

/-- a list of one is laid, and put at a list's end -/
theorem Own.push {H : Heap} {B bytes : Nat} {v : V} {m : Nat} {cs : List V} (h : Own H B 1 v m cs) (hw : WF H) (hB : B ≤ H.size) (x zero : V) (hx : x.cells = [x]) (hs : x.scal = true)
    (h1 : (m + 1) * bytes ≤ 274877906944) (h2 : m + 1 ≤ 274877906944) (τ : Tape) :
    ∃ w H1 v' H', eBuildSlice 1 1 [zero] [(0, 1)] [x] H τ = some (w, H1, τ) ∧ eAppend 1 bytes [v, w] H1 τ = some (v', H', τ.tail) ∧ Own H' B 1 v' (m + 1) (cs ++ [x]) ∧ Gr B H H' ∧ (∀ id cs, H.cells? id = some cs → H'.cells? id = some cs) := by
  have g1 := Gr.new hw [x] 1 false
  have o1 := h.gr g1 hw (Nat.le_refl _)
  obtain ⟨v', H', r1, r2, r3, r4⟩ := o1.append (bytes := bytes) g1.wf (Nat.le_trans hB g1.size) 1 [x] (by omega) rfl (by simp [hs]) h1 h2 τ
  refine ⟨.sl H.size 0 1 1 none 1, H.new [x] 1 false, v', H', ?_, ?_, r2, (g1.weaken hB).trans r3 (Nat.le_refl _), fun id cs hc => r4 id cs (g1.cells hw (Nat.le_refl _) hc)⟩
  · simp only [eBuildSlice, fillC, hx]; rfl
  · have hl : (H.new [x] 1 false).loads H.size 0 (1 * 1) = some [x] := by
      have := loads_cells (n := 1) (off := 0) (cells_new H [x] 1 false) (by simp)
      simpa using this
    simp only [eAppend, srcLen, srcCells, Nat.beq_refl, cond_true, hl, r1]

/-- an empty list that is not nil -/
def Emp (H : Heap) (B : Nat) (v : V) : Prop := ∃ id, v = .sl id 0 0 0 none 1 ∧ H.cells? id = some [] ∧ B ≤ id
theorem Emp.append {H : Heap} {B bytes : Nat} {v x : V} {n : Nat} {cs : List V} (h : Emp H B v) (hw : WF H) (hB : B ≤ H.size) (hx : Rd H 1 x n cs) (hsr : Src H x) (hn : n * bytes ≤ 274877906944) (hn' : n ≤ 274877906944) (τ : Tape) :
    ∃ v' H' τ', eAppend 1 bytes [v, x] H τ = some (v', H', τ') ∧ ((Own H' B 1 v' n cs ∧ 0 < n) ∨ (n = 0 ∧ H' = H ∧ v' = v ∧ cs = [])) ∧ Gr H.size H H' := by
  obtain ⟨id, rfl, hc, hb⟩ := h
  have hstores : ∀ off, H.stores id off [] = some H := fun off => rfl
  have hlen := hx.len
  have key0 : Am.append H 1 bytes (.sl id 0 0 0 none 1) 0 [] τ = some (.sl id 0 0 0 none 1, H, τ) := by
    simp only [Am.append, Nat.beq_refl, cond_true, Nat.ble_eq_true_of_le (Nat.le_refl 0), Nat.add_zero, hstores]
  have keyS : ∀ m new, new.length = m + 1 → (m + 1) * bytes ≤ 274877906944 → m + 1 ≤ 274877906944 → Am.append H 1 bytes (.sl id 0 0 0 none 1) (m + 1) new τ = some (.sl H.size 0 (m + 1) (m + 1) (some (spare (m + 1) (τ 0))) 1, H.new new ((m + 1 + spare (m + 1) (τ 0)) * 1) false, τ.tail) := by
    intro m new hl h1 h2
    have e3 : Nat.ble (m + 1) 0 = false := rfl
    have l0 : H.loads id 0 (0 * 1) = some [] := by
      have := loads_cells (n := 0) (off := 0) hc (by simp)
      simpa using this
    simp only [Am.append, Nat.beq_refl, cond_true, cond_false, e3, Nat.zero_add, Nat.ble_eq_true_of_le h1, Nat.ble_eq_true_of_le h2, Bool.and_self, l0, List.nil_append, fresh]
  cases n with
  | zero =>
    obtain rfl : cs = [] := by cases cs with | nil => rfl | cons a l => simp at hlen
    refine ⟨.sl id 0 0 0 none 1, H, τ, ?_, .inr ⟨rfl, rfl, rfl, rfl⟩, Gr.refl hw⟩
    have k : ∀ id' off lo ex, x = .sl id' off 0 lo ex 1 → eAppend 1 bytes [.sl id 0 0 0 none 1, x] H τ = some (.sl id 0 0 0 none 1, H, τ) := by
      rintro id' off lo ex rfl
      obtain ⟨all, ha⟩ := hsr
      have : H.loads id' off (0 * 1) = some [] := by
        simp only [Heap.loads, ha, Nat.zero_mul]
        cases all.drop off <;> rfl
      simp only [eAppend, srcLen, srcCells, Nat.beq_refl, cond_true, this, key0]
    rcases hx with ⟨rfl | ⟨id', off, lo, ex, rfl⟩, _, _⟩ | ⟨id', off, lo, ex, all, rfl, k1, k2, k3⟩
    · simp only [eAppend, srcLen, srcCells, key0]
    · exact k _ _ _ _ rfl
    · exact k _ _ _ _ rfl
  | succ m =>
    rcases hx with ⟨_, h0, _⟩ | ⟨id', off, lo, ex, all, rfl, k1, k2, k3⟩
    · omega
    · have hl : off + (m + 1) * 1 ≤ all.length ∨ True := .inr trivial
      have hload : H.loads id' off ((m + 1) * 1) = some cs := by
        simp only [Heap.loads, k1]
        rw [takeN_all, ← k2]
        have := congrArg List.length k2
        rw [k3, List.length_take] at this
        omega
      refine ⟨.sl H.size 0 (m + 1) (m + 1) (some (spare (m + 1) (τ 0))) 1, H.new cs ((m + 1 + spare (m + 1) (τ 0)) * 1) false, τ.tail, ?_, .inl ⟨?_, by omega⟩, Gr.new hw _ _ _⟩
      · simp only [eAppend, srcLen, srcCells, Nat.beq_refl, cond_true, hload]
        exact keyS m cs (by omega) hn hn'
      · exact .inr ⟨H.size, spare (m + 1) (τ 0), _, H.size, 0, false, 0, 0, rfl, T.get_set_same _ _ _, T.get_set_same _ _ _, Nat.le_refl _, hB, hB, by simpa using hlen⟩
theorem Emp.gr {H H' : Heap} {B C : Nat} {v : V} (h : Emp H B v) (hg : Gr C H H') (hw : WF H) (hC : H.size ≤ C) : Emp H' B v := by
  obtain ⟨id, h1, h2, h3⟩ := h
  exact ⟨id, h1, hg.cells hw hC h2, h3⟩
/-- a word to an empty list -/
theorem Emp.push {H : Heap} {B bytes : Nat} {v : V} (h : Emp H B v) (hw : WF H) (hB : B ≤ H.size) (x zero : V) (hx : x.cells = [x]) (h1 : bytes ≤ 274877906944) (τ : Tape) :
    ∃ w H1 v' H' τ', eBuildSlice 1 1 [zero] [(0, 1)] [x] H τ = some (w, H1, τ) ∧ eAppend 1 bytes [v, w] H1 τ = some (v', H', τ') ∧ Own H' B 1 v' 1 [x] ∧ Gr H.size H H' := by
  have g1 := Gr.new hw [x] 1 false
  have o1 := h.gr g1 hw (Nat.le_refl _)
  have hl := cells_new H [x] 1 false
  have hrd : Rd (H.new [x] 1 false) 1 (.sl H.size 0 1 1 none 1) 1 [x] := .inr ⟨H.size, 0, 1, none, [x], rfl, hl, rfl, rfl⟩
  obtain ⟨v', H', τ', r1, r2, r3⟩ := o1.append (bytes := bytes) g1.wf (Nat.le_trans hB g1.size) hrd ⟨[x], hl⟩ (by omega) (by omega) τ
  refine ⟨.sl H.size 0 1 1 none 1, H.new [x] 1 false, v', H', τ', ?_, r1, ?_, g1.trans r3 g1.size⟩
  · simp only [eBuildSlice, fillC, hx]; rfl
  · rcases r2 with r2 | r2
    · exact r2.1
    · omega
end Go.Am

/-
  THE ABSTRACT MACHINE 'Am', forty-first part: memories of which a part alone is changed; lists in a part.
-/
namespace Go.Am
/-- what lay outside P is as it was -/
structure Chg (P : Nat → Prop) (H H' : Heap) : Prop where
  wf : WF H'
  size : H.size ≤ H'.size
  blk : ∀ id, id < H.size → ¬ P id → H'.blk.get id = H.blk.get id
  fams : ∀ f, f < H.size → ¬ P f → H'.fams.get f = H.fams.get f
theorem Chg.refl {P : Nat → Prop} {H : Heap} (h : WF H) : Chg P H H := ⟨h, Nat.le_refl _, fun _ _ _ => rfl, fun _ _ _ => rfl⟩
theorem Gr.chg {P : Nat → Prop} {H H' : Heap} (h : Gr H.size H H') : Chg P H H' := ⟨h.wf, h.size, fun id hid _ => h.blk id hid, fun f hf _ => h.fams f hf⟩
theorem Only.chg {P : Nat → Prop} {i : Nat} {H H' : Heap} (h : Only i H H') (hi : P i) : Chg P H H' :=
  ⟨h.wf, by rw [h.size]; exact Nat.le_refl _, fun id _ hp => h.blk id (fun e => hp (e ▸ hi)), fun f _ hp => h.fams f (fun e => hp (e ▸ hi))⟩
theorem Gx.chg {P : Nat → Prop} {S : Nat} {H H' : Heap} (h : Gx S H.size H H') (hS : P S) : Chg P H H' :=
  ⟨h.wf, h.size, fun id hid hp => h.blk id hid (fun e => hp (e ▸ hS)), fun f hf hp => h.fams f hf (fun e => hp (e ▸ hS))⟩
theorem Chg.trans {P Q : Nat → Prop} {H H1 H2 : Heap} (h : Chg P H H1) (k : Chg Q H1 H2) (hPQ : ∀ i, i < H.size → Q i → P i) : Chg P H H2 :=
  ⟨k.wf, Nat.le_trans h.size k.size, fun id hid hp => (k.blk id (Nat.lt_of_lt_of_le hid h.size) fun q => hp (hPQ id hid q)).trans (h.blk id hid hp),
   fun f hf hp => (k.fams f (Nat.lt_of_lt_of_le hf h.size) fun q => hp (hPQ f hf q)).trans (h.fams f hf hp)⟩
theorem Chg.weaken {P Q : Nat → Prop} {H H' : Heap} (h : Chg P H H') (hPQ : ∀ i, i < H.size → P i → Q i) : Chg Q H H' :=
  ⟨h.wf, h.size, fun id hid hp => h.blk id hid fun q => hp (hPQ id hid q), fun f hf hp => h.fams f hf fun q => hp (hPQ f hf q)⟩
/-- nothing below B is in P -/
theorem Chg.gr {P : Nat → Prop} {B : Nat} {H H' : Heap} (h : Chg P H H') (hB : B ≤ H.size) (hP : ∀ i, i < B → ¬ P i) : Gr B H H' :=
  ⟨h.wf, h.size, fun id hid => h.blk id (by omega) (hP id hid), fun f hf => h.fams f (by omega) (hP f hf)⟩
theorem Chg.gx {P : Nat → Prop} {S B : Nat} {H H' : Heap} (h : Chg P H H') (hB : B ≤ H.size) (hP : ∀ i, i < B → P i → i = S) : Gx S B H H' :=
  ⟨h.wf, h.size, fun id hid hs => h.blk id (by omega) fun q => hs (hP id hid q), fun f hf hs => h.fams f (by omega) fun q => hs (hP f hf q)⟩

theorem Bx.chg {H H' : Heap} {P : Nat → Prop} {id : Nat} {cs : List V} (h : Bx H id cs) (hw : WF H) (hg : Chg P H H') (hp : ¬ P id) : Bx H' id cs := by
  have hlt := h.lt hw
  obtain ⟨room, ver, pl, st, fr, h1, h2, h3, h4⟩ := h
  exact ⟨room, ver, pl, st, fr, by rw [hg.blk id hlt hp]; exact h1, by rw [hg.fams id hlt hp]; exact h2, h3, h4⟩

/-- a list of the call's own, that lies in P -/
def OwnP (P : Nat → Prop) (H : Heap) (z : Nat) (v : V) (n : Nat) (cs : List V) : Prop :=
  (v = .nils ∧ n = 0 ∧ cs = []) ∨ ∃ id e room fam ver pl st fr, v = .sl id 0 n n (some e) z ∧ H.blk.get id = some (.mem cs room fam ver true pl st) ∧ H.fams.get fam = some (fr, ver) ∧ fr ≤ ver ∧ P id ∧ P fam ∧ cs.length = n * z
theorem OwnP.nil (P : Nat → Prop) (H : Heap) (z : Nat) : OwnP P H z .nils 0 [] := .inl ⟨rfl, rfl, rfl⟩
theorem OwnP.own0 {P : Nat → Prop} {H : Heap} {z : Nat} {v : V} {n : Nat} {cs : List V} (h : OwnP P H z v n cs) : Own H 0 z v n cs := by
  rcases h with h | ⟨id, e, room, fam, ver, pl, st, fr, h1, h2, h3, h4, _, _, h7⟩
  · exact .inl h
  · exact .inr ⟨id, e, room, fam, ver, pl, st, fr, h1, h2, h3, h4, Nat.zero_le _, Nat.zero_le _, h7⟩
theorem OwnP.rd {P : Nat → Prop} {H : Heap} {z : Nat} {v : V} {n : Nat} {cs : List V} (h : OwnP P H z v n cs) : Rd H z v n cs := h.own0.rd
theorem OwnP.chg {P Q : Nat → Prop} {H H' : Heap} {z : Nat} {v : V} {n : Nat} {cs : List V} (h : OwnP P H z v n cs) (hw : WF H) (hg : Chg Q H H') (hPQ : ∀ i, i < H.size → P i → ¬ Q i) : OwnP P H' z v n cs := by
  rcases h with h | ⟨id, e, room, fam, ver, pl, st, fr, h1, h2, h3, h4, h5, h6, h7⟩
  · exact .inl h
  · have a := hw.blk _ _ h2
    have b := hw.fams _ _ h3
    exact .inr ⟨id, e, room, fam, ver, pl, st, fr, h1, by rw [hg.blk id a (hPQ _ a h5)]; exact h2, by rw [hg.fams fam b (hPQ _ b h6)]; exact h3, h4, h5, h6, h7⟩
theorem OwnP.weaken {P Q : Nat → Prop} {H : Heap} {z : Nat} {v : V} {n : Nat} {cs : List V} (h : OwnP P H z v n cs) (hw : WF H) (hPQ : ∀ i, i < H.size → P i → Q i) : OwnP Q H z v n cs := by
  rcases h with h | ⟨id, e, room, fam, ver, pl, st, fr, h1, h2, h3, h4, h5, h6, h7⟩
  · exact .inl h
  · have a := hw.blk _ _ h2
    have b := hw.fams _ _ h3
    exact .inr ⟨id, e, room, fam, ver, pl, st, fr, h1, h2, h3, h4, hPQ _ a h5, hPQ _ b h6, h7⟩
theorem Own.ownP {B : Nat} {H : Heap} {z : Nat} {v : V} {n : Nat} {cs : List V} (h : Own H B z v n cs) (hw : WF H) : OwnP (fun i => B ≤ i ∧ i < H.size) H z v n cs := by
  rcases h with h | ⟨id, e, room, fam, ver, pl, st, fr, h1, h2, h3, h4, h5, h6, h7⟩
  · exact .inl h
  · exact .inr ⟨id, e, room, fam, ver, pl, st, fr, h1, h2, h3, h4, ⟨h5, hw.blk _ _ h2⟩, ⟨h6, hw.fams _ _ h3⟩, h7⟩

/-- APPEND to a list in P: P alone is changed -/
theorem OwnP.append {P : Nat → Prop} {H : Heap} {z bytes : Nat} {v : V} {m : Nat} {cs : List V} (h : OwnP P H z v m cs) (hw : WF H) (n : Nat) (new : List V) (hn : 0 < n) (hl : new.length = n * z) (hs : new.all V.scal = true)
    (h1 : (m + n) * bytes ≤ 274877906944) (h2 : m + n ≤ 274877906944) (τ : Tape) :
    ∃ v' H', Am.append H z bytes v n new τ = some (v', H', τ.tail) ∧ OwnP (fun i => (i < H.size ∧ P i) ∨ H.size ≤ i) H' z v' (m + n) (cs ++ new) ∧ Chg P H H' ∧ (∀ id cs, H.cells? id = some cs → H'.cells? id = some cs) := by
  obtain ⟨v', H', r1, r2, r3, r4⟩ := h.own0.append (bytes := bytes) hw (Nat.zero_le _) n new hn hl hs h1 h2 τ
  refine ⟨v', H', r1, ?_, ?_, r4⟩
  · rcases h with ⟨rfl, rfl, rfl⟩ | ⟨id, e, room, fam, ver, pl, st, fr, rfl, k2, k3, k4, k5, k6, k7⟩
    · obtain ⟨k, rfl⟩ : ∃ k, n = k + 1 := ⟨n - 1, by omega⟩
      have e1 : Nat.ble ((k + 1) * bytes) 274877906944 = true := Nat.ble_eq_true_of_le (by simpa using h1)
      have e2 : Nat.ble (k + 1) 274877906944 = true := Nat.ble_eq_true_of_le (by simpa using h2)
      simp only [Am.append, e1, e2, Bool.and_self, cond_true, fresh, Option.some.injEq, Prod.mk.injEq] at r1
      obtain ⟨rfl, rfl, _⟩ := r1
      exact .inr ⟨H.size, spare (k + 1) (τ 0), _, H.size, 0, false, 0, 0, by simp, by rw [List.nil_append]; exact T.get_set_same _ _ _, T.get_set_same _ _ _, Nat.le_refl _, .inr (Nat.le_refl _), .inr (Nat.le_refl _), by simpa using hl⟩
    · have hfam : fam < H.size := hw.fams _ _ k3
      have hcells : H.cells? id = some cs := by
        simp only [Heap.cells?, k2, k3]
        rw [show Nat.ble fr ver = true from Nat.ble_eq_true_of_le k4]
        rfl
      have hloads : H.loads id 0 (m * z) = some cs := by
        simp only [Heap.loads, hcells, List.drop_zero]
        rw [takeN_all _ _ (by omega), ← k7, List.take_length]
      have e1 : Nat.ble ((m + n) * bytes) 274877906944 = true := Nat.ble_eq_true_of_le h1
      have e2 : Nat.ble (m + n) 274877906944 = true := Nat.ble_eq_true_of_le h2
      have e3 : Nat.ble (m + n) m = false := by
        cases hb : Nat.ble (m + n) m with
        | false => rfl
        | true => have := Nat.le_of_ble_eq_true hb; omega
      have e4 : Nat.beq z z = true := Nat.beq_refl z
      have e5 : Nat.beq ver ver = true := Nat.beq_refl ver
      have e6 : Nat.beq (0 + m * z) cs.length = true := by rw [k7, Nat.zero_add]; exact Nat.beq_refl _
      simp only [Am.append, e4, cond_true, e3, cond_false, e1, e2, Bool.and_self, hloads, k2, k3, e5, e6, hs, Option.some.injEq, Prod.mk.injEq] at r1
      obtain ⟨rfl, rfl, _⟩ := r1
      exact .inr ⟨H.size, spare (m + n) (τ 0), _, fam, ver + 1, false, 0, fr, rfl, T.get_set_same _ _ _, T.get_set_same _ _ _, by omega, .inr (Nat.le_refl _), .inl ⟨hfam, k6⟩, by rw [List.length_append, k7, hl, Nat.add_mul]⟩
  · rcases h with ⟨rfl, rfl, rfl⟩ | ⟨id, e, room, fam, ver, pl, st, fr, rfl, k2, k3, k4, k5, k6, k7⟩
    · obtain ⟨k, rfl⟩ : ∃ k, n = k + 1 := ⟨n - 1, by omega⟩
      have e1 : Nat.ble ((k + 1) * bytes) 274877906944 = true := Nat.ble_eq_true_of_le (by simpa using h1)
      have e2 : Nat.ble (k + 1) 274877906944 = true := Nat.ble_eq_true_of_le (by simpa using h2)
      simp only [Am.append, e1, e2, Bool.and_self, cond_true, fresh, Option.some.injEq, Prod.mk.injEq] at r1
      obtain ⟨rfl, rfl, _⟩ := r1
      exact (Gr.new hw _ _ _).chg
    · have hfam : fam < H.size := hw.fams _ _ k3
      have hcells : H.cells? id = some cs := by
        simp only [Heap.cells?, k2, k3]
        rw [show Nat.ble fr ver = true from Nat.ble_eq_true_of_le k4]
        rfl
      have hloads : H.loads id 0 (m * z) = some cs := by
        simp only [Heap.loads, hcells, List.drop_zero]
        rw [takeN_all _ _ (by omega), ← k7, List.take_length]
      have e1 : Nat.ble ((m + n) * bytes) 274877906944 = true := Nat.ble_eq_true_of_le h1
      have e2 : Nat.ble (m + n) 274877906944 = true := Nat.ble_eq_true_of_le h2
      have e3 : Nat.ble (m + n) m = false := by
        cases hb : Nat.ble (m + n) m with
        | false => rfl
        | true => have := Nat.le_of_ble_eq_true hb; omega
      have e4 : Nat.beq z z = true := Nat.beq_refl z
      have e5 : Nat.beq ver ver = true := Nat.beq_refl ver
      have e6 : Nat.beq (0 + m * z) cs.length = true := by rw [k7, Nat.zero_add]; exact Nat.beq_refl _
      simp only [Am.append, e4, cond_true, e3, cond_false, e1, e2, Bool.and_self, hloads, k2, k3, e5, e6, hs, Option.some.injEq, Prod.mk.injEq] at r1
      obtain ⟨rfl, rfl, _⟩ := r1
      refine ⟨r3.wf, Nat.le_succ _, fun i hi hp => ?_, fun f hf hp => ?_⟩
      · simp only [Heap.version, T.get_set]; rw [if_neg (by omega)]
      · simp only [Heap.version, T.get_set]; rw [if_neg (by intro he; subst he; exact hp k6)]

/-- a list of one is laid, and put at a list's end -/
theorem OwnP.push {P : Nat → Prop} {H : Heap} {bytes : Nat} {v : V} {m : Nat} {cs : List V} (h : OwnP P H 1 v m cs) (hw : WF H) (x zero : V) (hx : x.cells = [x]) (hs : x.scal = true)
    (h1 : (m + 1) * bytes ≤ 274877906944) (h2 : m + 1 ≤ 274877906944) (τ : Tape) :
    ∃ w H1 v' H', eBuildSlice 1 1 [zero] [(0, 1)] [x] H τ = some (w, H1, τ) ∧ eAppend 1 bytes [v, w] H1 τ = some (v', H', τ.tail) ∧ OwnP (fun i => (i < H.size ∧ P i) ∨ H.size ≤ i) H' 1 v' (m + 1) (cs ++ [x]) ∧ Chg P H H' ∧ (∀ id cs, H.cells? id = some cs → H'.cells? id = some cs) ∧ Gr H.size H H1 ∧ Chg P H1 H' := by
  have g1 := Gr.new hw [x] 1 false
  have o1 : OwnP (fun i => i < H.size ∧ P i) (H.new [x] 1 false) 1 v m cs := by
    refine (h.weaken (Q := fun i => i < H.size ∧ P i) hw fun i hi hp => ⟨hi, hp⟩).chg hw (g1.chg (P := fun _ => False)) fun _ _ _ => not_false
  obtain ⟨v', H', r1, r2, r3, r4⟩ := o1.append (bytes := bytes) g1.wf 1 [x] (by omega) rfl (by simp [hs]) h1 h2 τ
  refine ⟨.sl H.size 0 1 1 none 1, H.new [x] 1 false, v', H', ?_, ?_, ?_, ?_, fun id cs hc => r4 id cs (g1.cells hw (Nat.le_refl _) hc), g1, r3.weaken fun i _ h => h.2⟩
  · simp only [eBuildSlice, fillC, hx]; rfl
  · have hl : (H.new [x] 1 false).loads H.size 0 (1 * 1) = some [x] := by
      have := loads_cells (n := 1) (off := 0) (cells_new H [x] 1 false) (by simp)
      simpa using this
    simp only [eAppend, srcLen, srcCells, Nat.beq_refl, cond_true, hl, r1]
  · refine r2.weaken r3.wf fun i _ hi => ?_
    rcases hi with ⟨_, h⟩ | h
    · exact .inl h
    · exact .inr (by have := g1.size; omega)
  · exact (g1.chg (P := P)).trans r3 fun i _ h => h.2
end Go.Am

/-
  THE ABSTRACT MACHINE 'Am', forty-second part: lists that are written full, their spare room too.
-/
namespace Go.Am
theorem over_end : ∀ (cs : List V) (room : Nat) (x : V), cs.length + 1 ≤ room → over room cs.length [x] cs = some (cs ++ [x]) := by
  intro cs
  induction cs with
  | nil => intro room x h; simp only [over, List.length_nil, List.length_singleton]; rw [Nat.ble_eq_true_of_le (by simpa using h)]; rfl
  | cons c cs ih =>
    intro room x h
    simp only [List.length_cons, over, ih (room - 1) x (by simp at h ⊢; omega), List.cons_append]

/-- a list that may be written as far as its room goes; its first elements are l -/
def RoomW (P : Nat → Prop) (H : Heap) (v : V) (cap : Nat) (l : List V) : Prop :=
  (v = .nils ∧ cap = 0 ∧ l = []) ∨ ∃ id off len lo ex all room fam ver pl st fr, v = .sl id off len lo ex 1 ∧ cap = lo + ex.getD 0 ∧ H.blk.get id = some (.mem all room fam ver true pl st) ∧ H.fams.get fam = some (fr, ver) ∧ fr ≤ ver ∧ P id ∧ P fam ∧
    off + l.length ≤ all.length ∧ (all.drop off).take l.length = l ∧ (off + cap ≤ all.length ∨ off + cap ≤ room) ∧ l.length ≤ cap

theorem RoomW.take {P : Nat → Prop} {H : Heap} {v : V} {cap : Nat} {l : List V} (h : RoomW P H v cap l) (j : Nat) : RoomW P H v cap (l.take j) := by
  rcases h with ⟨h1, h2, h3⟩ | ⟨id, off, len, lo, ex, all, room, fam, ver, pl, st, fr, h1, h2, h3, h4, h5, h6, h7, h8, h9, h10, h11⟩
  · subst h3; exact .inl ⟨h1, h2, by simp⟩
  · refine .inr ⟨id, off, len, lo, ex, all, room, fam, ver, pl, st, fr, h1, h2, h3, h4, h5, h6, h7, ?_, ?_, h10, ?_⟩
    · rw [List.length_take]; omega
    · conv => rhs; rw [← h9]
      rw [List.take_take, List.length_take]
    · rw [List.length_take]; omega
theorem RoomW.chg {P Q : Nat → Prop} {H H' : Heap} {v : V} {cap : Nat} {l : List V} (h : RoomW P H v cap l) (hw : WF H) (hg : Chg Q H H') (hPQ : ∀ i, i < H.size → P i → ¬ Q i) : RoomW P H' v cap l := by
  rcases h with h | ⟨id, off, len, lo, ex, all, room, fam, ver, pl, st, fr, h1, h2, h3, h4, h5, h6, h7, h8, h9, h10, h11⟩
  · exact .inl h
  · have a := hw.blk _ _ h3
    have b := hw.fams _ _ h4
    exact .inr ⟨id, off, len, lo, ex, all, room, fam, ver, pl, st, fr, h1, h2, by rw [hg.blk id a (hPQ _ a h6)]; exact h3, by rw [hg.fams fam b (hPQ _ b h7)]; exact h4, h5, h6, h7, h8, h9, h10, h11⟩
theorem RoomW.weaken {P Q : Nat → Prop} {H : Heap} {v : V} {cap : Nat} {l : List V} (h : RoomW P H v cap l) (hw : WF H) (hPQ : ∀ i, i < H.size → P i → Q i) : RoomW Q H v cap l := by
  rcases h with h | ⟨id, off, len, lo, ex, all, room, fam, ver, pl, st, fr, h1, h2, h3, h4, h5, h6, h7, h8, h9, h10, h11⟩
  · exact .inl h
  · exact .inr ⟨id, off, len, lo, ex, all, room, fam, ver, pl, st, fr, h1, h2, h3, h4, h5, hPQ _ (hw.blk _ _ h3) h6, hPQ _ (hw.fams _ _ h4) h7, h8, h9, h10, h11⟩
theorem RoomW.pCap {P : Nat → Prop} {H : Heap} {v : V} {cap : Nat} {l : List V} (h : RoomW P H v cap l) : pCap [v] = some (.int .i64 (cap : Int)) := by
  rcases h with ⟨rfl, rfl, rfl⟩ | ⟨id, off, len, lo, ex, all, room, fam, ver, pl, st, fr, rfl, rfl, _⟩ <;> rfl

theorem full_mk {id off len lo : Nat} {ex : Option Nat} : pSlSlice 1 false true false [.sl id off len lo ex 1, .int .i64 ((lo + ex.getD 0 : Nat) : Int)] = some (.sl id off (lo + ex.getD 0) lo ex 1) := by
  have hb : bounds3 false true false [V.int .i64 ((lo + ex.getD 0 : Nat) : Int)] = some (none, some (lo + ex.getD 0), none) := by
    simp only [bounds3, optN, natOf_mk]
  have hwi : within (lo + ex.getD 0) lo ex = true := by rw [within_iff]; exact .inr (Nat.le_refl _)
  have h0 : Nat.ble 0 (lo + ex.getD 0) = true := Nat.ble_eq_true_of_le (Nat.zero_le _)
  have h1 : Nat.ble 0 lo = true := Nat.ble_eq_true_of_le (Nat.zero_le _)
  simp only [pSlSlice, Nat.beq_refl, cond_true, hb, slCut, Option.getD_some, Option.getD_none, hwi, h0, Bool.and_self, h1, offIn, Nat.sub_zero]

/-- a list taken as far as its room goes: it is written word by word, and read -/
theorem RoomW.full {P : Nat → Prop} {H : Heap} {v : V} {cap : Nat} {l : List V} (h : RoomW P H v cap l) :
    ∃ v', pSlSlice 1 false true false [v, .int .i64 (cap : Int)] = some v' ∧ pLen [v'] = some (.int .i64 (cap : Int)) ∧
      (∀ H' l', WF H' → RoomW P H' v cap l' → l'.length < cap → ∀ x : V, x.cells = [x] → x.scal = true → ∀ τ, ∃ p H'', pSlIdx 1 [v', .int .i64 (l'.length : Int)] = some p ∧ eStore 1 [p, x] H' τ = some (.tup [], H'', τ) ∧ RoomW P H'' v cap (l' ++ [x]) ∧ Chg P H' H'') ∧
      (∀ H' l', RoomW P H' v cap l' → ∀ (i : Nat) x, l'[i]? = some x → ∃ p, pSlIdx 1 [v', .int .i64 (i : Int)] = some p ∧ lLoad1 [p] H' = some x) := by
  rcases h with ⟨rfl, rfl, rfl⟩ | ⟨id, off, len, lo, ex, all, room, fam, ver, pl, st, fr, rfl, rfl, _⟩
  · refine ⟨.nils, rfl, rfl, fun H' l' _ h' hl => by omega, fun H' l' h' i x hx => ?_⟩
    rcases h' with ⟨_, _, rfl⟩ | ⟨id, off, len, lo, ex, all, room, fam, ver, pl, st, fr, h1, _⟩
    · simp at hx
    · cases h1
  · refine ⟨.sl id off (lo + ex.getD 0) lo ex 1, full_mk, rfl, ?_, ?_⟩
    · intro H' l' hw h' hl x hx hs τ
      rcases h' with ⟨h1, _⟩ | ⟨id', off', len', lo', ex', all', room', fam', ver', pl', st', fr', h1, h2, h3, h4, h5, h6, h7, h8, h9, h10, h11⟩
      · cases h1
      · cases h1
        have hidx : pSlIdx 1 [.sl id off (lo + ex.getD 0) lo ex 1, .int .i64 (l'.length : Int)] = some (.ptr id (off + l'.length)) := by
          have hb : Nat.blt l'.length (lo + ex.getD 0) = true := by simp [Nat.blt]; omega
          simp [pSlIdx, natOf_nat, hb]
        have hroom : H'.room? id = room' := by simp only [Heap.room?, h3]
        obtain ⟨all2, hov, hlen2, htk⟩ : ∃ all2, over room' (off + l'.length) [x] all' = some all2 ∧ (all2.length = all'.length ∨ all2.length = all'.length + 1) ∧ off + (l'.length + 1) ≤ all2.length ∧ (all2.drop off).take (l'.length + 1) = l' ++ [x] := by
          by_cases hin : off + l'.length + 1 ≤ all'.length
          · have hp := over_in (off + l'.length) room' [x] all' (by simpa using hin)
            have hlen : (all'.take (off + l'.length) ++ [x] ++ all'.drop (off + l'.length + 1)).length = all'.length := by
              simp only [List.length_append, List.length_take, List.length_drop, List.length_singleton]
              omega
            refine ⟨_, hp, .inl hlen, by simp only [List.length_singleton]; rw [hlen]; omega, ?_⟩
            have e1 : (all'.take (off + l'.length)).drop off = l' := by rw [List.drop_take, Nat.add_sub_cancel_left]; exact h9
            simp only [List.length_singleton]
            rw [List.append_assoc, List.drop_append_of_le_length (by rw [List.length_take]; omega), e1]
            rw [show l'.length + 1 = (l' ++ [x]).length by simp, ← List.append_assoc]
            exact List.take_left
          · have he : off + l'.length = all'.length := by omega
            have hr : all'.length + 1 ≤ room' := by omega
            refine ⟨all' ++ [x], by rw [he]; exact over_end _ _ _ hr, .inr (by simp), by simp; omega, ?_⟩
            have e1 : all'.drop off = l' := by
              rw [← h9]; symm; apply List.take_of_length_le; rw [List.length_drop]; omega
            rw [List.drop_append_of_le_length (by omega), e1]
            apply List.take_of_length_le
            simp
        refine ⟨.ptr id (off + l'.length), { size := H'.size, blk := H'.blk.set id (.mem all2 room' fam' ver' true pl' (st' + 1)), fams := H'.fams.set fam' (ver', ver') }, hidx, ?_, ?_, ?_⟩
        · have : H'.stores id (off + l'.length) [x] = some { size := H'.size, blk := H'.blk.set id (.mem all2 room' fam' ver' true pl' (st' + 1)), fams := H'.fams.set fam' (ver', ver') } := by
            simp only [Heap.stores, List.all_cons, hs, List.all_nil, Bool.and_true, cond_true, Heap.write, h3, h4, hroom, hov]
            rw [show Nat.beq ver' ver' = true from Nat.beq_refl ver', show Nat.ble fr' ver' = true from Nat.ble_eq_true_of_le h5]
            rfl
          simp only [Am.eStore, hx, this]
          rfl
        · refine .inr ⟨id, off, len, lo, ex, all2, room', fam', ver', pl', st' + 1, ver', rfl, rfl, T.get_set_same _ _ _, T.get_set_same _ _ _, Nat.le_refl _, h6, h7, ?_, ?_, ?_, ?_⟩
          · simpa using htk.1
          · simpa using htk.2
          · omega
          · simp; omega
        · have hid := hw.blk _ _ h3
          have hfam := hw.fams _ _ h4
          refine ⟨⟨?_, ?_, ?_⟩, Nat.le_refl _, fun i hi hp => ?_, fun f hf hp => ?_⟩
          · intro i b hb
            simp only [T.get_set] at hb ⊢
            split at hb
            · omega
            · exact hw.blk _ _ hb
          · intro f x hf
            simp only [T.get_set] at hf ⊢
            split at hf
            · omega
            · exact hw.fams _ _ hf
          · intro i c r f v' w p s hb
            simp only [T.get_set] at hb ⊢
            split at hb
            · cases hb; exact hfam
            · exact hw.fam _ _ _ _ _ _ _ _ hb
          · simp only [T.get_set]; rw [if_neg (by intro he; subst he; exact hp h6)]
          · simp only [T.get_set]; rw [if_neg (by intro he; subst he; exact hp h7)]
    · intro H' l' h' i x hx
      rcases h' with ⟨h1, _⟩ | ⟨id', off', len', lo', ex', all', room', fam', ver', pl', st', fr', h1, h2, h3, h4, h5, h6, h7, h8, h9, h10, h11⟩
      · cases h1
      · cases h1
        have hlt := (List.getElem?_eq_some_iff.1 hx).1
        refine ⟨.ptr id (off + i), ?_, ?_⟩
        · have hb : Nat.blt i (lo + ex.getD 0) = true := by simp [Nat.blt]; omega
          simp [pSlIdx, natOf_nat, hb]
        · have hc : H'.cells? id = some all' := by
            simp only [Heap.cells?, h3, h4]
            rw [show Nat.ble fr' ver' = true from Nat.ble_eq_true_of_le h5]
            rfl
          refine load_cell hc ?_
          rw [← h9, List.getElem?_take_of_lt hlt, List.getElem?_drop] at hx
          exact hx

/-- a list of the call's own, cut to its first elements and their room -/
theorem OwnP.cut3 {P : Nat → Prop} {H : Heap} {v : V} {n : Nat} {cs : List V} (h : OwnP P H 1 v n cs) {k : Nat} (hk : k ≤ n) (hn : 0 < n) :
    ∃ v', pSlSlice 1 false true true [v, .int .i64 (k : Int), .int .i64 (k : Int)] = some v' ∧ RoomW P H v' k (cs.take k) ∧ (∀ H', Rd H' 1 v n cs → Rd H' 1 v' k (cs.take k)) ∧ Roomy v' := by
  rcases h with ⟨_, h0, _⟩ | ⟨id, e, room, fam, ver, pl, st, fr, rfl, h2, h3, h4, h5, h6, h7⟩
  · omega
  · have hb : bounds3 false true true [V.int .i64 (k : Int), V.int .i64 (k : Int)] = some (none, some k, some k) := by
      simp only [bounds3, optN, natOf_mk]
    have hwi : within k n (some e) = true := by rw [within_iff]; exact .inl hk
    have hk0 : Nat.ble k k = true := Nat.ble_eq_true_of_le (Nat.le_refl _)
    have hk1 : Nat.ble 0 k = true := Nat.ble_eq_true_of_le (Nat.zero_le _)
    have hoff : offAt 0 0 k 1 = 0 := by unfold offAt; cases Nat.beq k 0 <;> rfl
    refine ⟨.sl id 0 k k none 1, ?_, ?_, ?_, ?_⟩
    · simp only [pSlSlice, Nat.beq_refl, cond_true, hb, slCut, Option.getD_some, Option.getD_none, hwi, hk0, hk1, Bool.and_self, hoff, Nat.sub_zero]
    · refine .inr ⟨id, 0, k, k, none, cs, room, fam, ver, pl, st, fr, rfl, rfl, h2, h3, h4, h5, h6, ?_, ?_, ?_, ?_⟩
      · rw [List.length_take]; omega
      · rw [List.drop_zero, List.length_take, Nat.min_eq_left (by omega)]
      · left; omega
      · rw [List.length_take]; omega
    · intro H' h'
      rcases h' with ⟨_, h0, _⟩ | ⟨id', off', lo', ex', all', q0, q1, q2, q3⟩
      · omega
      · cases q0
        refine .inr ⟨id, 0, k, none, all', rfl, q1, ?_, ?_⟩
        · rw [q2, List.take_take]; congr 1; omega
        · rw [List.length_take]; omega
    · show within k k none = true
      rw [within_iff]; exact .inl (Nat.le_refl _)
end Go.Am

/-
  THE ABSTRACT MACHINE 'Am', forty-third part: books of lists that were handed out.
-/
namespace Go.Am
theorem RoomW.scal {P : Nat → Prop} {H : Heap} {v : V} {cap : Nat} {l : List V} (h : RoomW P H v cap l) : v.cells = [v] ∧ v.scal = true := by
  rcases h with ⟨rfl, _⟩ | ⟨id, off, len, lo, ex, all, room, fam, ver, pl, st, fr, rfl, _⟩ <;> exact ⟨rfl, rfl⟩
theorem OwnP.scal {P : Nat → Prop} {H : Heap} {z : Nat} {v : V} {n : Nat} {cs : List V} (h : OwnP P H z v n cs) : v.cells = [v] ∧ v.scal = true := by
  rcases h with ⟨rfl, _⟩ | ⟨id, e, room, fam, ver, pl, st, fr, rfl, _⟩ <;> exact ⟨rfl, rfl⟩
theorem RoomW.rd {P : Nat → Prop} {H : Heap} {v : V} {cap : Nat} {l : List V} (h : RoomW P H v cap l) (hl : pLen [v] = some (.int .i64 (l.length : Int))) : Rd H 1 v l.length l := by
  rcases h with ⟨rfl, rfl, rfl⟩ | ⟨id, off, len, lo, ex, all, room, fam, ver, pl, st, fr, rfl, h2, h3, h4, h5, h6, h7, h8, h9, h10, h11⟩
  · exact .inl ⟨.inl rfl, rfl, rfl⟩
  · have e : len = l.length := by
      simp only [pLen, Option.some.injEq, V.int.injEq, true_and] at hl
      exact Int.ofNat.inj hl
    subst e
    refine .inr ⟨id, off, lo, ex, all, rfl, ?_, by rw [Nat.mul_one, h9], by omega⟩
    simp only [Heap.cells?, h3, h4]
    rw [show Nat.ble fr ver = true from Nat.ble_eq_true_of_le h5]
    rfl
theorem RoomW.src {P : Nat → Prop} {H : Heap} {v : V} {cap : Nat} {l : List V} (h : RoomW P H v cap l) (hl : pLen [v] = some (.int .i64 (l.length : Int))) : srcLen v = some l.length ∧ srcCells H 1 l.length v = some l := by
  rcases h with ⟨rfl, rfl, rfl⟩ | ⟨id, off, len, lo, ex, all, room, fam, ver, pl, st, fr, rfl, h2, h3, h4, h5, h6, h7, h8, h9, h10, h11⟩
  · exact ⟨rfl, rfl⟩
  · have e : len = l.length := by
      simp only [pLen, Option.some.injEq, V.int.injEq, true_and] at hl
      exact Int.ofNat.inj hl
    subst e
    refine ⟨rfl, ?_⟩
    have hc : H.cells? id = some all := by
      simp only [Heap.cells?, h3, h4]
      rw [show Nat.ble fr ver = true from Nat.ble_eq_true_of_le h5]
      rfl
    simp only [srcCells, Nat.beq_refl, cond_true, Heap.loads, hc, Nat.mul_one]
    rw [takeN_all _ _ (by rw [List.length_drop]; omega), h9]
/-- a copy of a list -/
theorem RoomW.copy {P : Nat → Prop} {H : Heap} {v : V} {cap : Nat} {l : List V} (h : RoomW P H v cap l) (hl : pLen [v] = some (.int .i64 (l.length : Int))) (hw : WF H) (bytes : Nat) (hs : l.all V.scal = true) (h1 : l.length * bytes ≤ 274877906944) (h2 : l.length ≤ 274877906944) (τ : Tape) :
    ∃ w H' τ', eAppend 1 bytes [.nils, v] H τ = some (w, H', τ') ∧ OwnP (fun i => H.size ≤ i) H' 1 w l.length l ∧ Gr H.size H H' := by
  obtain ⟨e1, e2⟩ := h.src hl
  by_cases h0 : l = []
  · subst h0
    refine ⟨.nils, H, τ, ?_, OwnP.nil _ _ _, Gr.refl hw⟩
    simp only [eAppend, e1, e2]
    rfl
  · have hpos : 0 < l.length := List.length_pos_iff.mpr h0
    obtain ⟨w, H', r1, r2, r3, _⟩ := (OwnP.nil (fun _ => False) H 1).append (bytes := bytes) hw l.length l hpos (by omega) hs (by rw [Nat.zero_add]; exact h1) (by omega) τ
    refine ⟨w, H', τ.tail, ?_, ?_, r3.gr (Nat.le_refl _) fun _ _ h => h⟩
    · simp only [eAppend, e1, e2]; exact r1
    · have := r2.weaken (Q := fun i => H.size ≤ i) r3.wf fun i _ h => by rcases h with ⟨_, h⟩ | h; exact h.elim; exact h
      simpa using this

/-- a list that was handed out, its room, and the copy beside it -/
structure It where
  v : V
  cap : Nat
  cs : List V
  w : V
/-- a book: 'lab' tells whose each block is: 1 the book's, 2 and 3 the two lists', 2j+4 the j-th list's, 2j+5 its copy's -/
def BookI (lab : Nat → Nat) (H : Heap) (K : Nat) (its : List It) (held : Nat) : Prop :=
  ∃ L W, Bx H K [L, W, .int .i64 (held : Int), .bool false] ∧ lab K = 1 ∧ OwnP (fun i => lab i = 2) H 1 L its.length (its.map It.v) ∧ OwnP (fun i => lab i = 3) H 1 W its.length (its.map It.w) ∧
    ∀ (j : Nat) it, its[j]? = some it → RoomW (fun i => lab i = 2 * j + 4) H it.v it.cap it.cs ∧ pLen [it.v] = some (.int .i64 (it.cs.length : Int)) ∧ OwnP (fun i => lab i = 2 * j + 5) H 1 it.w it.cs.length it.cs
theorem BookI.chg {lab lab' : Nat → Nat} {Q : Nat → Prop} {H H' : Heap} {K : Nat} {its : List It} {held : Nat} (h : BookI lab H K its held) (hw : WF H) (hg : Chg Q H H') (hQ : ∀ i, i < H.size → Q i → lab i = 0) (hl : ∀ i, i < H.size → lab' i = lab i) : BookI lab' H' K its held := by
  obtain ⟨L, W, h1, h2, h3, h4, h5⟩ := h
  have k1 := h1.lt hw
  have ne : ∀ n, 0 < n → ∀ i, i < H.size → lab i = n → ¬ Q i := fun n hn i hi e q => by have := hQ i hi q; omega
  have tr : ∀ n, 0 < n → ∀ i, i < H.size → (i < H.size ∧ lab' i = n) → ¬ Q i := fun n hn i hi e => ne n hn i hi (by rw [← hl i hi]; exact e.2)
  have up : ∀ n i, i < H.size → lab i = n → (i < H.size ∧ lab' i = n) := fun n i hi e => ⟨hi, by rw [hl i hi]; exact e⟩
  refine ⟨L, W, h1.chg hw hg (ne 1 (by omega) K k1 h2), by rw [hl K k1]; exact h2, ?_, ?_, fun j it hj => ?_⟩
  · exact ((h3.weaken hw (up 2)).chg hw hg (tr 2 (by omega))).weaken hg.wf fun i _ h => h.2
  · exact ((h4.weaken hw (up 3)).chg hw hg (tr 3 (by omega))).weaken hg.wf fun i _ h => h.2
  · obtain ⟨a, b, c⟩ := h5 j it hj
    exact ⟨((a.weaken hw (up (2 * j + 4))).chg hw hg (tr _ (by omega))).weaken hg.wf fun i _ h => h.2, b, ((c.weaken hw (up (2 * j + 5))).chg hw hg (tr _ (by omega))).weaken hg.wf fun i _ h => h.2⟩
theorem BookI.new (H : Heap) (lab : Nat → Nat) (hl : lab H.size = 1) : BookI lab (H.new [.nils, .nils, .int .i64 ((0 : Nat) : Int), .bool false] 4 true) H.size [] 0 :=
  ⟨.nils, .nils, Bx.new _ _ _ _ (Nat.le_refl _), hl, OwnP.nil _ _ _, OwnP.nil _ _ _, fun j it h => by simp at h⟩
end Go.Am

/-
  THE ABSTRACT MACHINE 'Am', forty-fourth part: closed functions that read the text's tables, as functions that are known by what they answer.
-/
namespace Go.Am
open Go.RowKit (Below)

/-- the memory holds these tables from g on -/
def inH (H : Heap) : Nat → List (Option (List V)) → Bool
  | _, [] => true
  | g, none :: l => inH H (g + 1) l
  | g, some cs :: l => (match H.cells? g with | some cs' => sameL same0 cs' cs | none => false) && inH H (g + 1) l
def plainV : V → Bool
  | .int _ _ => true
  | .bool _ => true
  | .str _ => true
  | _ => false
def plainL : List (Option (List V)) → Bool
  | [] => true
  | none :: l => plainL l
  | some cs :: l => cs.all plainV && plainL l
def closedG (st : List (Option (List V))) (vs : List V) (H : Heap) (τ : Tape) : Option (V × Heap × Tape) :=
  match vs with
  | [] => bif inH H 0 st then some (.bool true, H, τ) else none
  | _ => none

theorem inH_get {H : Heap} : ∀ (l : List (Option (List V))) (g : Nat), inH H g l = true → ∀ j cs, l[j]? = some (some cs) → H.cells? (g + j) = some cs := by
  intro l
  induction l with
  | nil => intro g _ j cs h; simp at h
  | cons x l ih =>
    intro g h j cs hj
    cases x with
    | none =>
      cases j with
      | zero => simp at hj
      | succ j =>
        have := ih (g + 1) h j cs (by simpa using hj)
        rw [show g + (j + 1) = g + 1 + j by omega]; exact this
    | some c =>
      simp only [inH, Bool.and_eq_true] at h
      cases j with
      | zero =>
        simp at hj
        subst hj
        obtain ⟨h1, _⟩ := h
        split at h1
        · rename_i cs' hc
          have := sameL_eq (fun _ _ => same0_eq) _ _ h1
          subst this
          exact hc
        · cases h1
      | succ j =>
        have := ih (g + 1) h.2 j cs (by simpa using hj)
        rw [show g + (j + 1) = g + 1 + j by omega]; exact this
theorem inH_mk {H : Heap} : ∀ (l : List (Option (List V))) (g : Nat), plainL l = true → (∀ j cs, l[j]? = some (some cs) → H.cells? (g + j) = some cs) → inH H g l = true := by
  intro l
  induction l with
  | nil => intro g _ _; rfl
  | cons x l ih =>
    intro g hp h
    have hl : ∀ j cs, l[j]? = some (some cs) → H.cells? (g + 1 + j) = some cs := fun j cs hj => by
      have := h (j + 1) cs (by simpa using hj)
      rw [show g + (j + 1) = g + 1 + j by omega] at this; exact this
    cases x with
    | none => exact ih (g + 1) hp hl
    | some c =>
      simp only [plainL, Bool.and_eq_true] at hp
      have h0 := h 0 c rfl
      simp only [inH, Nat.add_zero] at h0 ⊢
      rw [h0]
      have hs : sameL same0 c c = true := by
        have : ∀ c : List V, c.all plainV = true → sameL same0 c c = true := by
          intro c
          induction c with
          | nil => intro _; rfl
          | cons v c ihc =>
            intro hc
            simp only [List.all_cons, Bool.and_eq_true] at hc
            simp only [sameL, ihc hc.2, Bool.and_true]
            cases v <;> first | (simp [same0]; done) | (simp [plainV] at hc)
        exact this c hp.1
      simp only [hs, Bool.true_and]
      exact ih (g + 1) hp.2 hl
theorem plainL_get : ∀ (l : List (Option (List V))), plainL l = true → ∀ (j : Nat) cs, l[j]? = some (some cs) → cs.all plainV = true := by
  intro l
  induction l with
  | nil => intro _ j cs h; simp at h
  | cons x l ih =>
    intro hp j cs hj
    cases j with
    | zero => simp at hj; subst hj; simp only [plainL, Bool.and_eq_true] at hp; exact hp.1
    | succ j =>
      refine ih ?_ j cs (by simpa using hj)
      cases x with
      | none => exact hp
      | some c => simp only [plainL, Bool.and_eq_true] at hp; exact hp.2
theorem VsOk_plain (K : Heap) : ∀ cs : List V, cs.all plainV = true → VsOk K cs := by
  intro cs
  induction cs with
  | nil => intro _; trivial
  | cons v cs ih =>
    intro h
    simp only [List.all_cons, Bool.and_eq_true] at h
    exact ⟨by cases v <;> first | trivial | (simp [plainV] at h), ih h.2⟩

theorem primOk_closedG {P : Program} (hm : P.follows .mixedOrders = true) {F : T Def} (hF : ∀ base w0, T.All (fun f d => DefOk P base w0 f d) F (fun k => k)) {E : T Ent} {N d f : Nat} (ht : TabOk F.get N (tabOf E N)) (hp : plainCall P f = true)
    (st : List (Option (List V))) (hn : P.globals.size = st.length) (hpl : plainL st = true) (h : (fun τ => callK (tabOf E N) d f [] (start st) τ trueK) = fun _ => doneA) (base : Nat) (w0 : World) : PrimOk P base w0 f (closedG st) := by
  intro vs H ι w hM hG hok hn0
  refine ⟨hp, ?_⟩
  cases vs with
  | cons a l => exact absurd rfl (hn0 (fun _ => 0))
  | nil =>
    have hin : inH H 0 st = true := by
      cases hb : inH H 0 st with
      | true => rfl
      | false => exact absurd (by simp [closedG, hb]) (hn0 (fun _ => 0))
    have hget := inH_get st 0 hin
    refine (call_true hm (W := w) (defs_ok (hF w.heap.size w)) N d f [] st ι (fun id cs hid => ?_) hG.1 (by omega) trivial (run_true ht h)).mono fun e w' ⟨he, hb⟩ => ?_
    · refine ⟨VsOk_plain _ _ (plainL_get st hpl id cs hid), ?_⟩
      have hc := hget id cs hid
      rw [Nat.zero_add] at hc
      unfold Heap.cells? at hc
      split at hc
      · rename_i cs' room fam ver wr pl stp hblk
        split at hc
        · rename_i fr la hfam
          cases hle : Nat.ble fr ver with
          | false => rw [hle] at hc; cases hc
          | true =>
            rw [hle] at hc
            cases hc
            obtain ⟨c, el, lo, hi, k1, k2, k3, k4⟩ := hM.ok id cs room fam ver wr pl stp fr la hblk hfam (Nat.le_of_ble_eq_true hle)
            have := (hM.cells id cs room fam ver wr pl stp hblk).1
            exact ⟨c, el, lo, hi, k1, by omega, k3, fun h => by cases h⟩
        · cases hc
      · cases hc
    · refine ⟨.bool true, H, ι, [], by rw [he]; rfl, fun τ => ?_, hM.keep hb, Ext.refl _ _, Evol.refl _, trivial⟩
      simp only [closedG, hin, cond_true]
      rfl
end Go.Am

/-
  THE ABSTRACT MACHINE 'Am', forty-fifth part: the steps of printed functions once more, with proofs that are no mere 'rfl' (a rewriting by them leaves the kernel nothing to compare).
-/
namespace Go.Am
theorem nrfl {α : Type} {a b : α} (h : a = b) : a = b := by
  cases h; exact rfl
theorem someK_n (v : V) (c : V → Ans) : someK (some v) c = c v := nrfl rfl
theorem effK_n (v : V) (H : Heap) (τ : Tape) (c : KV) : effK (some (v, H, τ)) c = c v H τ := nrfl rfl
theorem condK_tn (x y : Ans) : condK (.bool true) x y = x := nrfl rfl
theorem condK_fn (x y : Ans) : condK (.bool false) x y = y := nrfl rfl
end Go.Am

