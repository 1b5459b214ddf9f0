/-
  THE ABSTRACT MACHINE 'Am', eleventh part: each operation on values answers as the model's does.
-/
import Derived.Test.YtpfaceclaigpgaaDoorAm10
namespace Go.Am

theorem VsOk.one {H : Heap} {a : V} (h : VsOk H [a]) : VOk H a := h.1
theorem VsOk.two {H : Heap} {a b : V} (h : VsOk H [a, b]) : VOk H a ∧ VOk H b := ⟨h.1, h.2.1⟩

theorem cvl_append (ι : Inj) (a b : List V) : cvl ι (a ++ b) = cvl ι a ++ cvl ι b := by simp [cvl_eq]
theorem cvl_take (ι : Inj) (n : Nat) (a : List V) : cvl ι (a.take n) = (cvl ι a).take n := by simp [cvl_eq, List.map_take]
theorem cvl_drop (ι : Inj) (n : Nat) (a : List V) : cvl ι (a.drop n) = (cvl ι a).drop n := by simp [cvl_eq, List.map_drop]
theorem cv_cells (ι : Inj) (v : V) : (cv ι v).cells = (cvl ι v.cells).toArray := by cases v <;> rfl

section
variable {P : Program} {w : World}

/-! ### Values put together -/
theorem foldl_over (l : List Value) : ∀ (k o : Nat) (c : Array Value), (l.zipIdx k).foldl (fun cs (x : Value × Nat) => cs.setIfInBounds (o + x.2) x.1) c = overA c (o + k) l := by
  induction l with
  | nil => intro k o c; rfl
  | cons v l ih => intro k o c; simp only [List.zipIdx_cons, List.foldl_cons, overA]; rw [ih, Nat.add_assoc]

theorem overA_list (ι : Inj) (cs vs : List V) (off : Nat) (h : off + vs.length ≤ cs.length) :
    overA (cvl ι cs).toArray off (cvl ι vs) = (cvl ι (cs.take off ++ vs ++ cs.drop (off + vs.length))).toArray := by
  apply Array.ext_getElem?
  intro j
  rcases Nat.lt_or_ge j off with h1 | h1
  · rw [overA_out _ _ _ _ (.inl h1)]
    simp only [List.getElem?_toArray, cvl_get]
    rw [List.append_assoc, List.getElem?_append_left (by simp; omega), List.getElem?_take_of_lt h1]
  · rcases Nat.lt_or_ge j (off + vs.length) with h2 | h2
    · rw [overA_in _ _ _ _ h1 (by rw [cvl_length]; exact h2) (by rw [cvl_length, List.size_toArray, cvl_length]; exact h)]
      simp only [List.getElem?_toArray, cvl_get]
      rw [List.append_assoc, List.getElem?_append_right (by simp; omega), List.getElem?_append_left (by simp; omega)]
      simp only [List.length_take]
      rw [show j - min off cs.length = j - off from by omega]
    · rw [overA_out _ _ _ _ (.inr (by rw [cvl_length]; exact h2))]
      simp only [List.getElem?_toArray, cvl_get]
      rw [List.append_assoc, List.getElem?_append_right (by simp; omega), List.getElem?_append_right (by simp; omega), List.getElem?_drop]
      simp only [List.length_take]
      rw [show off + vs.length + (j - min off cs.length - vs.length) = j from by omega]

/-- the model's 'fill' -/
theorem fill_sound (ι : Inj) (ρ : Operand → Value) (place : Nat → Option (Nat × Nat)) : ∀ (parts : List (Nat × Operand)) (zero : List V) (ps : List (Nat × Nat)) (vs cs : List V),
    allSome place (parts.map (·.1)) = some ps → (parts.map (·.2)).map ρ = cvl ι vs → fillC zero ps vs = some cs →
    Instr.fill place (cvl ι zero).toArray (parts.map fun (i, x) => (i, ρ x)) = some (cvl ι cs).toArray := by
  intro parts
  induction parts with
  | nil =>
    intro zero ps vs cs hp hv hf
    simp only [List.map_nil, allSome, Option.some.injEq] at hp
    subst hp
    cases vs with
    | nil => simp only [fillC, Option.some.injEq] at hf; subst hf; rfl
    | cons v vs => simp [fillC] at hf
  | cons p parts ih =>
    intro zero ps vs cs hp hv hf
    obtain ⟨i, x⟩ := p
    simp only [List.map_cons, allSome] at hp
    split at hp
    · rename_i q hq
      split at hp
      · rename_i ps' hps
        cases hp
        obtain ⟨v, r, rfl, hx, hr⟩ := mapCons hv
        obtain ⟨off, size⟩ := q
        simp only [fillC] at hf
        cases hb : (Nat.beq v.cells.length size && Nat.ble (off + size) zero.length) with
        | false => rw [hb] at hf; cases hf
        | true =>
          simp only [hb, cond_true] at hf
          simp only [Bool.and_eq_true] at hb
          have h1 := Nat.eq_of_beq_eq_true hb.1
          have h2 := Nat.le_of_ble_eq_true hb.2
          simp only [List.map_cons, Instr.fill, hq]
          have hcells : (ρ x).cells = (cvl ι v.cells).toArray := by rw [hx, cv_cells]
          have hsz : (ρ x).cells.size = size := by rw [hcells, List.size_toArray, cvl_length, h1]
          rw [if_neg (by simp only [ne_eq, hsz, not_true, decide_false, Bool.false_or, decide_eq_true_eq, List.size_toArray, cvl_length]; omega)]
          have hov : ((ρ x).cells.zipIdx.foldl (fun cs (c, j) => cs.setIfInBounds (off + j) c) (cvl ι zero).toArray) = (cvl ι (zero.take off ++ v.cells ++ zero.drop (off + size))).toArray := by
            rw [hcells, ← h1, ← overA_list ι zero v.cells off (by omega)]
            rw [← Array.foldl_toList]
            simp only [Array.toList_zipIdx]
            have := foldl_over (cvl ι v.cells) 0 off (cvl ι zero).toArray
            simpa using this
          rw [hov]
          exact ih _ ps' r cs hps hr hf
      · cases hp
    · cases hp

theorem fillC_ok {H : Heap} : ∀ (ps : List (Nat × Nat)) (zero vs cs : List V), VsOk H zero → VsOk H vs → fillC zero ps vs = some cs → VsOk H cs ∧ cs.length = zero.length := by
  intro ps
  induction ps with
  | nil =>
    intro zero vs cs hz _ h
    cases vs with
    | nil => simp only [fillC, Option.some.injEq] at h; subst h; exact ⟨hz, rfl⟩
    | cons v vs => simp [fillC] at h
  | cons p ps ih =>
    intro zero vs cs hz hv h
    obtain ⟨off, size⟩ := p
    cases vs with
    | nil => simp [fillC] at h
    | cons v vs =>
      simp only [fillC] at h
      cases hb : (Nat.beq v.cells.length size && Nat.ble (off + size) zero.length) with
      | false => rw [hb] at h; cases h
      | true =>
        simp only [hb, cond_true] at h
        simp only [Bool.and_eq_true] at hb
        have h1 := Nat.eq_of_beq_eq_true hb.1
        have h2 := Nat.le_of_ble_eq_true hb.2
        have hcv : VsOk H v.cells := by
          have := hv.1
          cases v <;> first | exact this | exact ⟨this, trivial⟩
        obtain ⟨k1, k2⟩ := ih _ vs cs (by
          rw [VsOk_iff] at hz hcv ⊢
          intro u hu
          rcases List.mem_append.1 hu with hu | hu
          · rcases List.mem_append.1 hu with hu | hu
            · exact hz u (List.mem_of_mem_take hu)
            · exact hcv u hu
          · exact hz u (List.mem_of_mem_drop hu)) hv.2 h
        refine ⟨k1, ?_⟩
        rw [k2]
        simp only [List.length_append, List.length_take, List.length_drop]
        omega

theorem cv1?_sound {v : Value} {u : V} (ι : Inj) (h : cv1? v = some u) : cv ι u = v ∧ ∀ H, VOk H u := by
  unfold cv1? at h
  split at h <;> first | (cases h; done) | (cases h; exact ⟨rfl, fun _ => trivial⟩)

theorem allSome_cv1 (ι : Inj) : ∀ (l : List Value) (r : List V), allSome cv1? l = some r → cvl ι r = l ∧ ∀ H, VsOk H r := by
  intro l
  induction l with
  | nil => intro r h; simp only [allSome, Option.some.injEq] at h; subst h; exact ⟨rfl, fun _ => trivial⟩
  | cons v l ih =>
    intro r h
    simp only [allSome] at h
    split at h
    · rename_i b hb
      split at h
      · rename_i r' hr
        cases h
        obtain ⟨h1, h2⟩ := cv1?_sound ι hb
        obtain ⟨h3, h4⟩ := ih _ hr
        exact ⟨by simp only [cvl, h1, h3], fun H => ⟨h2 H, h4 H⟩⟩
      · cases h
    · cases h

theorem cv?_sound {v : Value} {u : V} (ι : Inj) (h : cv? v = some u) : cv ι u = v ∧ ∀ H, VOk H u := by
  unfold cv? at h
  split at h
  · split at h
    · rename_i cs l hl
      cases h
      obtain ⟨h1, h2⟩ := allSome_cv1 ι _ _ hl
      exact ⟨by simp only [cv, h1], fun H => h2 H⟩
    · cases h
  · split at h
    · rename_i cs l hl
      cases h
      obtain ⟨h1, h2⟩ := allSome_cv1 ι _ _ hl
      exact ⟨by simp only [cv, h1], fun H => h2 H⟩
    · cases h
  · exact cv1?_sound ι h

theorem zeroT_sound {t : TypeId} {z : List V} (ι : Inj) (h : zeroT P t = some z) : ∃ v, (zeroValue t).run P w = .ok v w ∧ v.cells = (cvl ι z).toArray ∧ ∀ H, VsOk H z := by
  unfold zeroT at h
  split at h
  · rename_i i hi
    split at h
    · rename_i v hv
      obtain ⟨h1, h2⟩ := allSome_cv1 ι _ _ h
      refine ⟨v, by simp [zeroValue, typeInfo, hi, hv], ?_, h2⟩
      rw [h1]
    · cases h
  · cases h

theorem fields_places (fs : List Field) (hfs : ∀ f ∈ fs, ∃ d, P.underlying f.type = some d) : ∀ (w : World),
    (fs.mapM (m := Sem) fun f => do pure (f.offset, ← sizeOf f.type)).run P w = .ok (fs.map fun f => (f.offset, P.cellsOf f.type)) w := by
  induction fs with
  | nil => intro w; rfl
  | cons f fs ih =>
    intro w
    obtain ⟨d, hd⟩ := hfs f (by simp)
    simp only [List.mapM_cons, Sem.run_bind, run_sizeOf_any _ d hd, Result.andThen_ok, Sem.run_pure, ih (fun g hg => hfs g (by simp [hg])), List.map_cons]
end
end Go.Am
