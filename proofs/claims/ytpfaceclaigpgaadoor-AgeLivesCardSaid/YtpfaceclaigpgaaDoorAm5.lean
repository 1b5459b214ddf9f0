/-
  THE ABSTRACT MACHINE 'Am', fifth part: memory is written.
-/
import Derived.Test.YtpfaceclaigpgaaDoorAm4
namespace Go.Am
open Go.RowKit (Below)

/-! ### The model's rows of cells, written -/
def overA : Array Value → Nat → List Value → Array Value
  | c, _, [] => c
  | c, k, v :: vs => overA (c.setIfInBounds k v) (k + 1) vs

theorem overA_size (vs : List Value) : ∀ (c : Array Value) (k : Nat), (overA c k vs).size = c.size := by
  induction vs with
  | nil => intro c k; rfl
  | cons v vs ih => intro c k; simp [overA, ih]

theorem overA_out (vs : List Value) : ∀ (c : Array Value) (k j : Nat), (j < k ∨ k + vs.length ≤ j) → (overA c k vs)[j]? = c[j]? := by
  induction vs with
  | nil => intro c k j _; rfl
  | cons v vs ih =>
    intro c k j h
    simp only [List.length_cons] at h
    rw [overA, ih _ _ _ (by omega), Array.getElem?_setIfInBounds_ne (by omega)]

theorem overA_in (vs : List Value) : ∀ (c : Array Value) (k j : Nat), k ≤ j → j < k + vs.length → k + vs.length ≤ c.size → (overA c k vs)[j]? = vs[j - k]? := by
  induction vs with
  | nil => intro c k j h1 h2; simp at h2; omega
  | cons v vs ih =>
    intro c k j h1 h2 h3
    simp only [List.length_cons] at h2 h3
    by_cases e : j = k
    · subst e
      have hlt : j < c.size := by omega
      rw [overA, overA_out _ _ _ _ (by omega)]
      simp [hlt]
    · rw [overA, ih _ _ _ (by omega) (by omega) (by simpa using by omega)]
      have : j - k = (j - (k + 1)) + 1 := by omega
      rw [this, List.getElem?_cons_succ]

def setBlk (w : World) (b : Nat) (o : Obj) : World := { w with heap := w.heap.setIfInBounds b o }

theorem setBlk_same (w : World) (b : Nat) (o : Obj) (h : b < w.heap.size) : (setBlk w b o).heap[b]? = some o := by simp [setBlk, h]
theorem setBlk_ne (w : World) {b k : Nat} (o : Obj) (h : b ≠ k) : (setBlk w b o).heap[k]? = w.heap[k]? := by simp [setBlk, Array.getElem?_setIfInBounds_ne h]
theorem setBlk_size (w : World) (b : Nat) (o : Obj) : (setBlk w b o).heap.size = w.heap.size := by simp [setBlk]
theorem setBlk_setBlk (w : World) (b : Nat) (o o' : Obj) : setBlk (setBlk w b o) b o' = setBlk w b o' := by
  have : (w.heap.setIfInBounds b o).setIfInBounds b o' = w.heap.setIfInBounds b o' := by
    apply Array.ext_getElem?
    intro i
    simp only [Array.getElem?_setIfInBounds, Array.size_setIfInBounds]
    split <;> simp_all
  simp only [setBlk, this]
theorem setBlk_self (w : World) (b : Nat) (o : Obj) (h : w.heap[b]? = some o) : setBlk w b o = w := by
  have : w.heap.setIfInBounds b o = w.heap := by
    apply Array.ext_getElem?
    intro i
    have hlt : b < w.heap.size := (Array.getElem?_eq_some_iff.1 h).1
    by_cases e : b = i
    · subst e; rw [h]; simp [hlt]
    · rw [Array.getElem?_setIfInBounds_ne e]
  simp only [setBlk, this]

theorem below_setBlk {B : Nat} {a w : World} (h : Below B a w) {b : Nat} (hb : B ≤ b) (o : Obj) : Below B a (setBlk w b o) :=
  h.trans ⟨rfl, rfl, rfl, by rw [setBlk_size]; exact Nat.le_refl _, fun k hk => setBlk_ne w o (by omega)⟩

theorem setCell_eq (w : World) (b k : Nat) (v : Value) (c : Array Value) (el : TypeId) (fz : Nat × Nat) (h : w.heap[b]? = some (.cells c el fz)) :
    w.setCell ⟨b, k, none⟩ v = setBlk w b (.cells (c.setIfInBounds k v) el fz) := by
  have : (w.heap.modify b fun
      | .cells c elem frozen => .cells (c.setIfInBounds k v) elem frozen
      | o => o) = w.heap.setIfInBounds b (.cells (c.setIfInBounds k v) el fz) := by
    apply Array.ext_getElem?
    intro i
    have hlt : b < w.heap.size := (Array.getElem?_eq_some_iff.1 h).1
    by_cases e : b = i
    · subst e; rw [Array.getElem?_modify, if_pos rfl, h]; simp [hlt]
    · rw [Array.getElem?_setIfInBounds_ne e, Array.getElem?_modify, if_neg e]
  exact congrArg (fun x => ({ w with heap := x } : World)) this

theorem add_addr (b o i : Nat) : Addr.add ⟨b, o, none⟩ i = ⟨b, o + i, none⟩ := by
  unfold Addr.add
  split
  · rename_i e; subst e; rfl
  · rfl

theorem run_storeCells_gen (P : Program) (b o : Nat) (el : TypeId) (lo hi : Nat) : ∀ (vs : List Value) (i : Nat) (c : Array Value) (w : World),
    w.heap[b]? = some (.cells c el (lo, hi)) → o + i + vs.length ≤ c.size → (lo = hi ∨ c.size ≤ lo) → (∀ v ∈ vs, v.oneCell' = true) →
    (storeCells ⟨b, o, none⟩ vs i).run P w = .ok () (setBlk w b (.cells (overA c (o + i) vs) el (lo, hi))) := by
  intro vs
  induction vs with
  | nil =>
    intro i c w hw _ _ _
    rw [overA, setBlk_self _ _ _ hw]
    rfl
  | cons v vs ih =>
    intro i c w hw hsz hfz hv
    simp only [List.length_cons] at hsz
    have hcell : w.cell? ⟨b, o + i, none⟩ = some (c[o + i]'(by omega)) := by
      rw [cell_of_row w b (o + i) c el (lo, hi) hw, Array.getElem?_eq_getElem (by omega)]
    have hfr : w.frozen? ⟨b, o + i, none⟩ = false := by
      simp only [World.frozen?, hw]
      rcases hfz with h | h
      · subst h; simp
      · simp; omega
    have hone : v.oneCell' = true := hv v (by simp)
    rw [storeCells, add_addr]
    simp only [Sem.run_bind]
    rw [show (store ⟨b, o + i, none⟩ v).run P w = .ok () (w.setCell ⟨b, o + i, none⟩ v) from by
      rw [run_store P w _ v _ hone]; simp [hcell, hfr]]
    simp only [Result.andThen_ok]
    rw [setCell_eq w b (o + i) v c el (lo, hi) hw]
    have hlt : b < w.heap.size := (Array.getElem?_eq_some_iff.1 hw).1
    rw [ih (i + 1) (c.setIfInBounds (o + i) v) _ (setBlk_same _ _ _ hlt) (by simpa using by omega) (by simpa using hfz) (fun x hx => hv x (by simp [hx])), setBlk_setBlk]
    rfl

/-! ### The machine's cells, written -/
theorem over_spec : ∀ (off room : Nat) (vs cs cs' : List V), vs ≠ [] → cs.length ≤ room → over room off vs cs = some cs' →
    off ≤ cs.length ∧ off + vs.length ≤ cs'.length ∧ cs.length ≤ cs'.length ∧ cs'.length ≤ room ∧ cs'.length ≤ max cs.length (off + vs.length) ∧
    ∀ j, cs'[j]? = if off ≤ j ∧ j < off + vs.length then vs[j - off]? else cs[j]? := by
  intro off
  induction off with
  | zero =>
    intro room vs
    induction vs generalizing room with
    | nil => intro cs cs' h; exact absurd rfl h
    | cons v vs ih =>
      intro cs cs' _ hl h
      cases cs with
      | nil =>
        simp only [over] at h
        cases hb : Nat.ble (v :: vs).length room with
        | false => rw [hb] at h; cases h
        | true =>
          rw [hb] at h
          injection h with h
          subst h
          have hb' := Nat.le_of_ble_eq_true hb
          refine ⟨by simp, by simp, by simp, hb', by simp, fun j => ?_⟩
          by_cases hj : j < (v :: vs).length
          · rw [if_pos ⟨Nat.zero_le _, by omega⟩]; rfl
          · rw [if_neg (by omega), List.getElem?_eq_none (by omega)]; rfl
      | cons c cs =>
        simp only [over] at h
        cases hr : over (room - 1) 0 vs cs with
        | none => rw [hr] at h; cases h
        | some r =>
          rw [hr] at h
          injection h with h
          subst h
          simp only [List.length_cons] at hl
          cases vs with
          | nil =>
            have hr' : r = cs := by
              simp only [over] at hr
              exact (Option.some.inj hr).symm
            subst hr'
            refine ⟨by simp, by simp, by simp, by simpa using hl, by simp, fun j => ?_⟩
            cases j with
            | zero => simp
            | succ j => simp
          | cons u us =>
            obtain ⟨h1, h2, h3, h4, h5, h6⟩ := ih (room - 1) cs r (by simp) (by omega) hr
            simp only [List.length_cons] at h2 h4 h5 ⊢
            refine ⟨by omega, by omega, by omega, by omega, by omega, fun j => ?_⟩
            cases j with
            | zero => simp
            | succ j =>
              rw [List.getElem?_cons_succ, h6 j]
              simp only [List.length_cons, Nat.zero_le, true_and, Nat.sub_zero, Nat.zero_add]
              by_cases e : j < us.length + 1
              · rw [if_pos e, if_pos (by omega)]; simp
              · rw [if_neg e, if_neg (by omega)]; simp
  | succ off ih =>
    intro room vs cs cs' hv hl h
    cases vs with
    | nil => exact absurd rfl hv
    | cons v vs =>
      cases cs with
      | nil => simp only [over] at h; cases h
      | cons c cs =>
        simp only [over] at h
        cases hr : over (room - 1) off (v :: vs) cs with
        | none => rw [hr] at h; cases h
        | some r =>
          rw [hr] at h
          injection h with h
          subst h
          simp only [List.length_cons] at hl
          obtain ⟨h1, h2, h3, h4, h5, h6⟩ := ih (room - 1) (v :: vs) cs r (by simp) (by omega) hr
          simp only [List.length_cons] at h1 h2 h4 h5 ⊢
          refine ⟨by omega, by omega, by omega, by omega, by omega, fun j => ?_⟩
          cases j with
          | zero => simp
          | succ j =>
            rw [List.getElem?_cons_succ, h6 j]
            simp only [List.length_cons]
            by_cases e : off ≤ j ∧ j < off + (vs.length + 1)
            · rw [if_pos e, if_pos (by omega)]
              have : j + 1 - (off + 1) = j - off := by omega
              rw [this]
            · rw [if_neg e, if_neg (by omega)]; simp

theorem cvl_length (ι : Inj) (l : List V) : (cvl ι l).length = l.length := by rw [cvl_eq]; simp
theorem cvl_get (ι : Inj) (l : List V) (j : Nat) : (cvl ι l)[j]? = (l[j]?).map (cv ι) := by rw [cvl_eq]; simp

theorem oneCell_scal (ι : Inj) (v : V) (h : v.scal = true) : (cv ι v).oneCell' = true := by
  cases v <;> simp_all [V.scal, cv, Value.oneCell']

/-- what may be written -/
theorem write_inv {H H' : Heap} {id : Nat} {f : List V → Option (List V)} (h : H.write id f = some H') :
    ∃ cs room fam ver pl st fr cs', H.blk.get id = some (.mem cs room fam ver true pl st) ∧ H.fams.get fam = some (fr, ver) ∧ fr ≤ ver ∧ f cs = some cs' ∧
      H' = { size := H.size, blk := H.blk.set id (.mem cs' room fam ver true pl (st + 1)), fams := H.fams.set fam (ver, ver) } := by
  unfold Heap.write at h
  split at h
  · rename_i cs room fam ver pl st hb
    split at h
    · rename_i x last hf
      cases hv : (Nat.beq ver last && Nat.ble x ver) with
      | false => rw [hv] at h; cases h
      | true =>
        rw [hv] at h
        simp only [Bool.and_eq_true] at hv
        have h1 := Nat.eq_of_beq_eq_true hv.1
        have h2 := Nat.le_of_ble_eq_true hv.2
        subst h1
        cases hcs : f cs with
        | none => simp [hcs] at h
        | some cs' =>
          simp only [hcs, cond_true, Option.some.injEq] at h
          exact ⟨cs, room, fam, ver, pl, st, x, cs', hb, hf, h2, hcs, h.symm⟩
    · cases h
  · cases h

/-- a block is written -/
theorem MRel.write {ι : Inj} {base : Nat} {w0 w : World} {H : Heap} (h : MRel ι base w0 H w) {id : Nat} {cs : List V} {room fam ver : Nat} {pl : Bool} {st fr : Nat}
    (hg : H.blk.get id = some (.mem cs room fam ver true pl st)) (hf : H.fams.get fam = some (fr, ver)) (hle : fr ≤ ver) (off : Nat) (vs cs' : List V) (hne : vs ≠ [])
    (hov : over room off vs cs = some cs') (hvs : VsOk H vs) :
    ∃ c el lo hi, w.heap[(ι id).1]? = some (.cells c el (lo, hi)) ∧ (ι id).2 + off + vs.length ≤ c.size ∧ (lo = hi ∨ c.size ≤ lo) ∧
      let H' : Heap := { size := H.size, blk := H.blk.set id (.mem cs' room fam ver true pl (st + 1)), fams := H.fams.set fam (ver, ver) }
      MRel ι base w0 H' (setBlk w (ι id).1 (.cells (overA c ((ι id).2 + off) (cvl ι vs)) el (lo, hi))) ∧ Evol H H' := by
  obtain ⟨c, el, lo, up, h1, h2, h3, h4⟩ := h.ok _ _ _ _ _ _ _ _ _ _ hg hf hle
  obtain ⟨hlen, hcs⟩ := h.cells _ _ _ _ _ _ _ _ hg
  obtain ⟨o1, o2, o3, o4, o5, o6⟩ := over_spec off room vs cs cs' hne hlen hov
  obtain ⟨hb, hfz⟩ := h4 rfl
  have hlt : (ι id).1 < w.heap.size := (Array.getElem?_eq_some_iff.1 h1).1
  have hfl := (h.fam _ _ _ _ _ _ _ _ hg).1
  refine ⟨c, el, lo, up, h1, by omega, hfz, ?_, ?_⟩
  case refine_2 =>
    refine ⟨Nat.le_refl _, fun i hi => ?_, ?_, ?_⟩
    · by_cases e : id = i
      · subst e; simp only [Heap.room?, T.get_set_same, hg]
      · simp only [Heap.room?, T.get_set_ne _ _ e]
    · intro i cs1 r1 f1 v1 w1 p1 s1 hi
      by_cases e : id = i
      · subst e
        rw [hg] at hi
        injection hi with hi
        injection hi with e1 e2 e3 e4 e5 e6 e7
        subst e1 e2 e3 e4 e5 e6 e7
        exact ⟨cs', st + 1, T.get_set_same _ _ _, Nat.le_succ _, fun e => by omega⟩
      · exact ⟨cs1, s1, by rw [T.get_set_ne _ _ e]; exact hi, Nat.le_refl _, fun _ => rfl⟩
    · intro f fr1 la1 hi
      by_cases e : fam = f
      · subst e
        rw [hf] at hi
        injection hi with hi
        injection hi with e1 e2
        subst e1 e2
        exact ⟨ver, ver, T.get_set_same _ _ _, hle⟩
      · exact ⟨fr1, la1, by rw [T.get_set_ne _ _ e]; exact hi, Nat.le_refl _⟩
  -- a block behind the write is the written one, or an old one
  have part : ∀ i cs1 r1 f1 v1 w1 p1 s1, (H.blk.set id (.mem cs' room fam ver true pl (st + 1))).get i = some (.mem cs1 r1 f1 v1 w1 p1 s1) →
      (i = id ∧ cs1 = cs' ∧ r1 = room ∧ f1 = fam ∧ v1 = ver ∧ w1 = true) ∨ (i ≠ id ∧ H.blk.get i = some (.mem cs1 r1 f1 v1 w1 p1 s1)) := by
    intro i cs1 r1 f1 v1 w1 p1 s1 hi
    by_cases e : id = i
    · subst e
      rw [T.get_set_same] at hi
      injection hi with hi
      injection hi with e1 e2 e3 e4 e5 e6 e7
      exact .inl ⟨rfl, e1.symm, e2.symm, e3.symm, e4.symm, e5.symm⟩
    · rw [T.get_set_ne _ _ e] at hi; exact .inr ⟨Ne.symm e, hi⟩
  -- its family's older versions are gone
  have famv : ∀ i cs1 r1 v1 w1 p1 s1, H.blk.get i = some (.mem cs1 r1 fam v1 w1 p1 s1) → i ≠ id → v1 < ver := by
    intro i cs1 r1 v1 w1 p1 s1 hi hne
    obtain ⟨_, fr1, la1, hf1, hle1⟩ := h.fam _ _ _ _ _ _ _ _ hi
    rw [hf] at hf1
    injection hf1 with hf1
    injection hf1 with e1 e2
    subst e2
    rcases Nat.lt_or_ge v1 ver with hh | hh
    · exact hh
    · have : v1 = ver := by omega
      subst this
      exact absurd (h.ver _ _ _ _ _ _ _ _ _ _ _ _ _ _ hi hg) hne
  have famGet : ∀ f fr1 la1, (H.fams.set fam (ver, ver)).get f = some (fr1, la1) → (f = fam ∧ fr1 = ver ∧ la1 = ver) ∨ (f ≠ fam ∧ H.fams.get f = some (fr1, la1)) := by
    intro f fr1 la1 hh
    by_cases e : fam = f
    · subst e
      rw [T.get_set_same] at hh
      injection hh with hh
      injection hh with e1 e2
      exact .inl ⟨rfl, e1.symm, e2.symm⟩
    · rw [T.get_set_ne _ _ e] at hh; exact .inr ⟨Ne.symm e, hh⟩
  have same : ∀ (vs : List V), VsOk H vs → VsOk { size := H.size, blk := H.blk.set id (.mem cs' room fam ver true pl (st + 1)), fams := H.fams.set fam (ver, ver) } vs := by
    intro l hl
    refine VsOk.mono ?_ l hl
    refine ⟨Nat.le_refl _, fun i hi => ?_, ?_, ?_⟩
    · by_cases e : id = i
      · subst e; simp only [Heap.room?, T.get_set_same, hg]
      · simp only [Heap.room?, T.get_set_ne _ _ e]
    · intro i cs1 r1 f1 v1 w1 p1 s1 hi
      by_cases e : id = i
      · subst e
        rw [hg] at hi
        injection hi with hi
        injection hi with e1 e2 e3 e4 e5 e6 e7
        subst e1 e2 e3 e4 e5 e6 e7
        exact ⟨cs', st + 1, T.get_set_same _ _ _, Nat.le_succ _, fun e => by omega⟩
      · exact ⟨cs1, s1, by rw [T.get_set_ne _ _ e]; exact hi, Nat.le_refl _, fun _ => rfl⟩
    · intro f fr1 la1 hi
      by_cases e : fam = f
      · subst e
        rw [hf] at hi
        injection hi with hi
        injection hi with e1 e2
        subst e1 e2
        exact ⟨ver, ver, T.get_set_same _ _ _, hle⟩
      · exact ⟨fr1, la1, by rw [T.get_set_ne _ _ e]; exact hi, Nat.le_refl _⟩
  have hcs' : VsOk H cs' := by
    rw [VsOk_iff]
    intro v hv
    obtain ⟨j, hj⟩ := List.mem_iff_getElem?.1 hv
    rw [o6] at hj
    split at hj
    · exact (VsOk_iff H vs).1 hvs v (List.mem_of_getElem? hj)
    · exact (VsOk_iff H cs).1 hcs v (List.mem_of_getElem? hj)
  refine ⟨below_setBlk h.below hb _, by rw [setBlk_size]; exact h.base_le, ?_, ?_, ?_, ?_, ?_, ?_, ?_, ?_, ?_, ?_⟩
  · intro i b hi
    by_cases e : id = i
    · subst e; exact h.lt _ _ hg
    · rw [T.get_set_ne _ _ e] at hi; exact h.lt _ _ hi
  · intro i cs1 r1 f1 v1 w1 p1 s1 hi
    rcases part _ _ _ _ _ _ _ _ hi with ⟨rfl, _, _, rfl, rfl, _⟩ | ⟨_, ki⟩
    · exact ⟨hfl, v1, v1, T.get_set_same _ _ _, Nat.le_refl _⟩
    · obtain ⟨a1, fr1, la1, a2, a3⟩ := h.fam _ _ _ _ _ _ _ _ ki
      refine ⟨a1, ?_⟩
      by_cases e : fam = f1
      · subst e
        rw [hf] at a2
        injection a2 with a2
        injection a2 with e1 e2
        subst e2
        exact ⟨ver, ver, T.get_set_same _ _ _, a3⟩
      · exact ⟨fr1, la1, by rw [T.get_set_ne _ _ e]; exact a2, a3⟩
  · intro i cs1 r1 f1 v1 w1 p1 s1 hi
    rcases part _ _ _ _ _ _ _ _ hi with ⟨rfl, rfl, rfl, _⟩ | ⟨_, ki⟩
    · exact ⟨o4, same _ hcs'⟩
    · obtain ⟨a1, a2⟩ := h.cells _ _ _ _ _ _ _ _ ki
      exact ⟨a1, same _ a2⟩
  · intro i cs1 r1 f1 v1 w1 p1 s1 fr1 la1 hi hf1 hv1
    rcases part _ _ _ _ _ _ _ _ hi with ⟨rfl, rfl, rfl, rfl, rfl, rfl⟩ | ⟨hne', ki⟩
    · refine ⟨_, el, lo, up, setBlk_same _ _ _ hlt, by rw [overA_size]; exact h2, fun j v hv => ?_, fun _ => ⟨hb, by rw [overA_size]; exact hfz⟩⟩
      rw [o6] at hv
      split at hv
      · rename_i kj
        rw [overA_in _ _ _ _ (by omega) (by rw [cvl_length]; omega) (by rw [cvl_length]; omega), cvl_get]
        have : (ι i).2 + j - ((ι i).2 + off) = j - off := by omega
        rw [this, hv]; rfl
      · rename_i kj
        rw [overA_out _ _ _ _ (by rw [cvl_length]; omega)]
        exact h3 j v hv
    · rcases famGet _ _ _ hf1 with ⟨rfl, rfl, rfl⟩ | ⟨hne2, hf1⟩
      · have := famv _ _ _ _ _ _ _ ki hne'; omega
      · have hk := h.ok _ _ _ _ _ _ _ _ _ _ ki hf1 hv1
        have hb2 : (ι id).1 ≠ (ι i).1 := fun e => hne2 (h.sep _ _ _ _ _ _ _ _ _ _ _ _ _ _ _ _ _ _ _ hg hf hle ki hf1 hv1 e).symm
        exact hk.keep (H := H) (setBlk_ne w _ hb2) rfl (Ext.refl H ι) (h.cells _ _ _ _ _ _ _ _ ki).2
  · intro i cs1 r1 f1 v1 p1 s1 fr1 la1 j cs2 r2 f2 v2 w2 p2 s2 fr2 la2 hi hfi hvi hj hfj hvj he
    rcases part _ _ _ _ _ _ _ _ hi with ⟨rfl, _, _, rfl, rfl, _⟩ | ⟨hni, ki⟩
    · rcases part _ _ _ _ _ _ _ _ hj with ⟨rfl, _, _, rfl, _⟩ | ⟨hnj, kj⟩
      · rfl
      · rcases famGet _ _ _ hfj with ⟨rfl, _⟩ | ⟨_, kfj⟩
        · rfl
        · exact h.sep _ _ _ _ _ _ _ _ _ _ _ _ _ _ _ _ _ _ _ hg hf hle kj kfj hvj he
    · rcases famGet _ _ _ hfi with ⟨rfl, rfl, rfl⟩ | ⟨hn1, kfi⟩
      · have := famv _ _ _ _ _ _ _ ki hni; omega
      · rcases part _ _ _ _ _ _ _ _ hj with ⟨rfl, _, _, rfl, _⟩ | ⟨hnj, kj⟩
        · exact h.sep _ _ _ _ _ _ _ _ _ _ _ _ _ _ _ _ _ _ _ ki kfi hvi hg hf hle he
        · rcases famGet _ _ _ hfj with ⟨rfl, rfl, rfl⟩ | ⟨_, kfj⟩
          · have := famv _ _ _ _ _ _ _ kj hnj; omega
          · exact h.sep _ _ _ _ _ _ _ _ _ _ _ _ _ _ _ _ _ _ _ ki kfi hvi kj kfj hvj he
  · intro i cs1 r1 f1 v1 w1 p1 s1 j cs2 r2 w2 p2 s2 hi hj
    rcases part _ _ _ _ _ _ _ _ hi with ⟨rfl, _, _, rfl, rfl, _⟩ | ⟨hni, ki⟩
    · rcases part _ _ _ _ _ _ _ _ hj with ⟨rfl, _⟩ | ⟨hnj, kj⟩
      · rfl
      · exact h.ver _ _ _ _ _ _ _ _ _ _ _ _ _ _ hg kj
    · rcases part _ _ _ _ _ _ _ _ hj with ⟨rfl, _, _, rfl, rfl, _⟩ | ⟨hnj, kj⟩
      · exact h.ver _ _ _ _ _ _ _ _ _ _ _ _ _ _ ki hg
      · exact h.ver _ _ _ _ _ _ _ _ _ _ _ _ _ _ ki kj
  · intro i s pos hi
    have hni : id ≠ i := fun e => by subst e; rw [T.get_set_same] at hi; cases hi
    rw [T.get_set_ne _ _ hni] at hi
    obtain ⟨a1, az, a2⟩ := h.iter _ _ _ hi
    refine ⟨a1, az, ?_⟩
    have : (ι id).1 ≠ (ι i).1 := fun e => by rw [← e, h1] at a2; cases a2
    rw [setBlk_ne _ _ this]; exact a2
  · intro f x hh
    by_cases e : fam = f
    · subst e; exact hfl
    · rw [T.get_set_ne _ _ e] at hh; exact h.famlt _ _ hh
  · intro i cs1 r1 f1 v1 w1 p1 s1 fr1 la1 j cs2 r2 v2 w2 p2 s2 hi hfi hvi hj hvj he hlev
    rcases famGet _ _ _ hfi with ⟨rfl, rfl, rfl⟩ | ⟨hn1, kfi⟩
    · rcases part _ _ _ _ _ _ _ _ hi with ⟨rfl, rfl, _⟩ | ⟨hni, ki⟩
      · rcases part _ _ _ _ _ _ _ _ hj with ⟨rfl, rfl, _⟩ | ⟨hnj, kj⟩
        · exact Nat.le_refl _
        · have := famv _ _ _ _ _ _ _ kj hnj; omega
      · have := famv _ _ _ _ _ _ _ ki hni; omega
    · rcases part _ _ _ _ _ _ _ _ hi with ⟨_, _, _, rfl, _⟩ | ⟨hni, ki⟩
      · exact absurd rfl hn1
      · rcases part _ _ _ _ _ _ _ _ hj with ⟨_, _, _, rfl, _⟩ | ⟨hnj, kj⟩
        · exact absurd rfl hn1
        · exact h.ends _ _ _ _ _ _ _ _ _ _ _ _ _ _ _ _ _ ki kfi hvi kj hvj he hlev
  · intro i s p j s' p' hi hj he
    have hni : id ≠ i := fun e => by subst e; rw [T.get_set_same] at hi; cases hi
    have hnj : id ≠ j := fun e => by subst e; rw [T.get_set_same] at hj; cases hj
    rw [T.get_set_ne _ _ hni] at hi
    rw [T.get_set_ne _ _ hnj] at hj
    exact h.isep _ _ _ _ _ _ hi hj he
end Go.Am
