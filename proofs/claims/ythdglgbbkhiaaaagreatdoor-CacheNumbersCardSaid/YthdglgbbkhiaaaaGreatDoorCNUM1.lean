/- The abstract machine, printed functions of the program, and what they are shown to be. -/
import Derived.Test.YthdglgbbkhiaaaaGreatDoorCNUM0
import Derived.Laws.BytesString
import Derived.Laws.BytesArg
import Derived.Laws.IdiomStrings
import Derived.IntWalk
namespace Go.Am
set_option linter.unusedSimpArgs false
set_option linter.unusedVariables false
section
variable {P : Program} {w : World}
def OptV (v : Option Value) (n : Option Nat) : Prop := (v = none ∧ n = none) ∨ ∃ k m, v = some (.int k (m : Nat)) ∧ n = some m
theorem optN_sound {ι : Inj} {ρ : Operand → Value} {o : Option Operand} {rest : List Operand} {vs vs' : List V} {l : Option Nat}
    (h : optN o.isSome vs = some (l, vs')) (hm : (o.toList ++ rest).map ρ = cvl ι vs) : rest.map ρ = cvl ι vs' ∧ OptV (o.map ρ) l := by
  cases o with
  | none =>
    simp only [Option.isSome_none, optN, Option.some.injEq, Prod.mk.injEq] at h
    obtain ⟨rfl, rfl⟩ := h
    exact ⟨by simpa using hm, .inl ⟨rfl, rfl⟩⟩
  | some a =>
    simp only [Option.toList_some, List.cons_append, List.nil_append] at hm
    obtain ⟨v, r, rfl, hv, hr⟩ := mapCons hm
    simp only [Option.isSome_some] at h
    unfold optN at h
    split at h
    · cases ‹true = false›
    · rename_i heq
      cases heq
      split at h
      · rename_i m hm'
        simp only [Option.some.injEq, Prod.mk.injEq] at h
        obtain ⟨rfl, rfl⟩ := h
        have := natOf_some hm'
        subst this
        exact ⟨hr, .inr ⟨_, m, by rw [Option.map_some, hv]; rfl, rfl⟩⟩
      · cases h
    · cases h
theorem bounds3_sound {ι : Inj} {ρ : Operand → Value} {lo hi mx : Option Operand} {vs : List V} {l h m : Option Nat}
    (hb : bounds3 lo.isSome hi.isSome mx.isSome vs = some (l, h, m)) (hm : (lo.toList ++ hi.toList ++ mx.toList).map ρ = cvl ι vs) :
    OptV (lo.map ρ) l ∧ OptV (hi.map ρ) h ∧ OptV (mx.map ρ) m := by
  unfold bounds3 at hb
  split at hb
  · rename_i l' vs1 h1
    split at hb
    · rename_i h' vs2 h2
      split at hb
      · rename_i m' h3
        cases hb
        obtain ⟨r1, o1⟩ := optN_sound h1 (by rw [List.append_assoc] at hm; exact hm)
        obtain ⟨r2, o2⟩ := optN_sound h2 r1
        obtain ⟨_, o3⟩ := optN_sound (rest := []) h3 (by simpa using r2)
        exact ⟨o1, o2, o3⟩
      · cases hb
    · cases hb
  · cases hb
theorem OptV.isSome {v : Option Value} {n : Option Nat} (h : OptV v n) : v.isSome = n.isSome := by
  rcases h with ⟨rfl, rfl⟩ | ⟨k, m, rfl, rfl⟩ <;> rfl
theorem run_bound (k : IntKind) (n y : Nat) (code : BoundsCode) (h : n ≤ y) : (Instr.sliceBound (.int k (n : Int)) y code).run P w = .ok n w := by
  rw [run_sliceBound _ k n y code (by omega) (by omega)]; rfl
theorem sliceBounds_run (isSlice : Bool) (len cap : Nat) {lv hv mv : Option Value} {l h m : Option Nat} (ol : OptV lv l) (oh : OptV hv h) (om : OptV mv m)
    (hm : m.isSome = true → h.isSome = true) (h1 : m.getD cap ≤ cap) (h2 : h.getD len ≤ m.getD cap) (h3 : l.getD 0 ≤ h.getD len) :
    (Instr.sliceBounds isSlice len cap lv hv mv).run P w = .ok (l.getD 0, h.getD len, m.getD cap) w := by
  rcases om with ⟨rfl, rfl⟩ | ⟨km, m, rfl, rfl⟩
  · rcases oh with ⟨rfl, rfl⟩ | ⟨kh, h, rfl, rfl⟩
    · rcases ol with ⟨rfl, rfl⟩ | ⟨kl, l, rfl, rfl⟩
      · simp [Instr.sliceBounds]
      · simp only [Option.getD_some, Option.getD_none] at h1 h2 h3
        simp [Instr.sliceBounds, run_bound kl l len _ h3]
    · simp only [Option.getD_some, Option.getD_none] at h1 h2 h3
      rcases ol with ⟨rfl, rfl⟩ | ⟨kl, l, rfl, rfl⟩
      · simp [Instr.sliceBounds, run_bound kh h cap _ h2]
      · simp only [Option.getD_some] at h3
        simp [Instr.sliceBounds, run_bound kh h cap _ h2, run_bound kl l h _ h3]
  · rcases oh with ⟨rfl, rfl⟩ | ⟨kh, h, rfl, rfl⟩
    · simp at hm
    · simp only [Option.getD_some] at h1 h2 h3
      rcases ol with ⟨rfl, rfl⟩ | ⟨kl, l, rfl, rfl⟩
      · simp [Instr.sliceBounds, run_bound km m cap _ h1, run_bound kh h m _ h2]
      · simp only [Option.getD_some] at h3
        simp [Instr.sliceBounds, run_bound km m cap _ h1, run_bound kh h m _ h2, run_bound kl l h _ h3]
theorem within_le {m lo : Nat} {ex : Option Nat} (h : within m lo ex = true) : m ≤ lo + ex.getD 0 := by
  unfold within at h
  cases hb : Nat.ble m lo with
  | true => have := Nat.le_of_ble_eq_true hb; omega
  | false =>
    rw [hb] at h
    cases ex with
    | none => cases h
    | some e => simpa using Nat.le_of_ble_eq_true h
theorem slCut_inv {id off len lo : Nat} {ex : Option Nat} {z : Nat} {l h m : Option Nat} {v : V} (hm : m.isSome = true → h.isSome = true) (hlen : len ≤ lo + ex.getD 0)
    (hc : slCut id off len lo ex z l h m = some v) :
    m.getD (lo + ex.getD 0) ≤ lo + ex.getD 0 ∧ h.getD len ≤ m.getD (lo + ex.getD 0) ∧ l.getD 0 ≤ h.getD len ∧
      ∃ lo' ex', v = .sl id (offAt off (l.getD 0) (m.getD (lo + ex.getD 0)) z) (h.getD len - l.getD 0) lo' ex' z ∧ lo' + ex'.getD 0 = m.getD (lo + ex.getD 0) - l.getD 0 ∧ (ex'.isSome = true → ex.isSome = true) := by
  unfold slCut at hc
  split at hc
  · rename_i m'
    cases hb : (within m' lo ex && Nat.ble (h.getD len) m' && Nat.ble (l.getD 0) (h.getD len)) with
    | false => simp only [hb, cond_false] at hc; cases hc
    | true =>
      simp only [hb, cond_true] at hc
      cases hc
      simp only [Bool.and_eq_true] at hb
      have h1 := within_le hb.1.1
      have h2 := Nat.le_of_ble_eq_true hb.1.2
      have h3 := Nat.le_of_ble_eq_true hb.2
      exact ⟨h1, h2, h3, _, _, rfl, by simp, by simp⟩
  · cases hb : (within (h.getD len) lo ex && Nat.ble (l.getD 0) (h.getD len)) with
    | false => simp only [hb, cond_false] at hc; cases hc
    | true =>
      simp only [hb, cond_true] at hc
      simp only [Bool.and_eq_true] at hb
      have h1 := within_le hb.1
      have h3 := Nat.le_of_ble_eq_true hb.2
      cases hl : Nat.ble (l.getD 0) lo with
      | true =>
        simp only [hl, cond_true] at hc
        cases hc
        have := Nat.le_of_ble_eq_true hl
        exact ⟨by simp, by simpa using h1, h3, _, _, by rw [offIn_eq]; rfl, by simp only [Option.getD_none]; omega, fun he => he⟩
      | false =>
        simp only [hl, cond_false] at hc
        cases hc
        have hlt : lo < l.getD 0 := by
          rcases Nat.lt_or_ge lo (l.getD 0) with hh | hh
          · exact hh
          · rw [Nat.ble_eq_true_of_le hh] at hl; cases hl
        refine ⟨by simp, by simpa using h1, h3, _, _, by rw [offIn_eq]; rfl, by simp, fun _ => ?_⟩
        cases ex with
        | none => simp only [Option.getD_none] at h1; omega
        | some e => rfl
theorem offAt_le (off l m z : Nat) : offAt off l m z ≤ off + l * z := by
  unfold offAt
  cases Nat.beq m l <;> simp
theorem slCut_ok {H : Heap} {id off len lo : Nat} {ex : Option Nat} {z : Nat} {l h m : Option Nat} {v : V} (hm : m.isSome = true → h.isSome = true)
    (hv : VOk H (.sl id off len lo ex z)) (hc : slCut id off len lo ex z l h m = some v) : VOk H v := by
  obtain ⟨k1, k2, k3⟩ := hv
  obtain ⟨h1, h2, h3, lo', ex', rfl, h4, h5⟩ := slCut_inv hm k2 hc
  refine ⟨k1, by rw [h4]; omega, fun he => ?_⟩
  obtain ⟨k, kc⟩ := k3 (h5 he)
  rw [h4]
  have hle := offAt_le off (l.getD 0) (m.getD (lo + ex.getD 0)) z
  have : l.getD 0 * z + (m.getD (lo + ex.getD 0) - l.getD 0) * z = m.getD (lo + ex.getD 0) * z := by
    rw [← Nat.add_mul]; congr 1; omega
  have := Nat.mul_le_mul_right z h1
  exact ⟨by omega, by omega⟩
theorem cut_addr (b o off l m z : Nat) : (if m = l then (⟨b, o + off, none⟩ : Addr) else Addr.add ⟨b, o + off, none⟩ (l * z)) = ⟨b, o + offAt off l m z, none⟩ := by
  unfold offAt
  by_cases e : m = l
  · subst e; simp
  · have : Nat.beq m l = false := by
      cases h : Nat.beq m l with
      | false => rfl
      | true => exact absurd (Nat.eq_of_beq_eq_true h) e
    rw [if_neg e, this, cond_false, add_addr, Nat.add_assoc]
end
end Go.Am

namespace Go.Am
set_option linter.unusedSimpArgs false
set_option linter.unusedVariables false
theorem VsOk.one {H : Heap} {a : V} (h : VsOk H [a]) : VOk H a := h.1
theorem VsOk.two {H : Heap} {a b : V} (h : VsOk H [a, b]) : VOk H a ∧ VOk H b := ⟨h.1, h.2.1⟩
theorem cvl_append (ι : Inj) (a b : List V) : cvl ι (a ++ b) = cvl ι a ++ cvl ι b := by simp [cvl_eq]
theorem cvl_take (ι : Inj) (n : Nat) (a : List V) : cvl ι (a.take n) = (cvl ι a).take n := by simp [cvl_eq, List.map_take]
theorem cvl_drop (ι : Inj) (n : Nat) (a : List V) : cvl ι (a.drop n) = (cvl ι a).drop n := by simp [cvl_eq, List.map_drop]
theorem cv_cells (ι : Inj) (v : V) : (cv ι v).cells = (cvl ι v.cells).toArray := by cases v <;> rfl
section
variable {P : Program} {w : World}
theorem foldl_over (l : List Value) : ∀ (k o : Nat) (c : Array Value), (l.zipIdx k).foldl (fun cs (x : Value × Nat) => cs.setIfInBounds (o + x.2) x.1) c = overA c (o + k) l := by
  induction l with
  | nil => intro k o c; rfl
  | cons v l ih => intro k o c; simp only [List.zipIdx_cons, List.foldl_cons, overA]; rw [ih, Nat.add_assoc]
theorem overA_list (ι : Inj) (cs vs : List V) (off : Nat) (h : off + vs.length ≤ cs.length) :
    overA (cvl ι cs).toArray off (cvl ι vs) = (cvl ι (cs.take off ++ vs ++ cs.drop (off + vs.length))).toArray := by
  apply Array.ext_getElem?
  intro j
  rcases Nat.lt_or_ge j off with h1 | h1
  · rw [overA_out _ _ _ _ (.inl h1)]
    simp only [List.getElem?_toArray, cvl_get]
    rw [List.append_assoc, List.getElem?_append_left (by simp; omega), List.getElem?_take_of_lt h1]
  · rcases Nat.lt_or_ge j (off + vs.length) with h2 | h2
    · rw [overA_in _ _ _ _ h1 (by rw [cvl_length]; exact h2) (by rw [cvl_length, List.size_toArray, cvl_length]; exact h)]
      simp only [List.getElem?_toArray, cvl_get]
      rw [List.append_assoc, List.getElem?_append_right (by simp; omega), List.getElem?_append_left (by simp; omega)]
      simp only [List.length_take]
      rw [show j - min off cs.length = j - off from by omega]
    · rw [overA_out _ _ _ _ (.inr (by rw [cvl_length]; exact h2))]
      simp only [List.getElem?_toArray, cvl_get]
      rw [List.append_assoc, List.getElem?_append_right (by simp; omega), List.getElem?_append_right (by simp; omega), List.getElem?_drop]
      simp only [List.length_take]
      rw [show off + vs.length + (j - min off cs.length - vs.length) = j from by omega]
theorem fill_sound (ι : Inj) (ρ : Operand → Value) (place : Nat → Option (Nat × Nat)) : ∀ (parts : List (Nat × Operand)) (zero : List V) (ps : List (Nat × Nat)) (vs cs : List V),
    allSome place (parts.map (·.1)) = some ps → (parts.map (·.2)).map ρ = cvl ι vs → fillC zero ps vs = some cs →
    Instr.fill place (cvl ι zero).toArray (parts.map fun (i, x) => (i, ρ x)) = some (cvl ι cs).toArray := by
  intro parts
  induction parts with
  | nil =>
    intro zero ps vs cs hp hv hf
    simp only [List.map_nil, allSome, Option.some.injEq] at hp
    subst hp
    cases vs with
    | nil => simp only [fillC, Option.some.injEq] at hf; subst hf; rfl
    | cons v vs => simp [fillC] at hf
  | cons p parts ih =>
    intro zero ps vs cs hp hv hf
    obtain ⟨i, x⟩ := p
    simp only [List.map_cons, allSome] at hp
    split at hp
    · rename_i q hq
      split at hp
      · rename_i ps' hps
        cases hp
        obtain ⟨v, r, rfl, hx, hr⟩ := mapCons hv
        obtain ⟨off, size⟩ := q
        simp only [fillC] at hf
        cases hb : (Nat.beq v.cells.length size && Nat.ble (off + size) zero.length) with
        | false => rw [hb] at hf; cases hf
        | true =>
          simp only [hb, cond_true] at hf
          simp only [Bool.and_eq_true] at hb
          have h1 := Nat.eq_of_beq_eq_true hb.1
          have h2 := Nat.le_of_ble_eq_true hb.2
          simp only [List.map_cons, Instr.fill, hq]
          have hcells : (ρ x).cells = (cvl ι v.cells).toArray := by rw [hx, cv_cells]
          have hsz : (ρ x).cells.size = size := by rw [hcells, List.size_toArray, cvl_length, h1]
          rw [if_neg (by simp only [ne_eq, hsz, not_true, decide_false, Bool.false_or, decide_eq_true_eq, List.size_toArray, cvl_length]; omega)]
          have hov : ((ρ x).cells.zipIdx.foldl (fun cs (c, j) => cs.setIfInBounds (off + j) c) (cvl ι zero).toArray) = (cvl ι (zero.take off ++ v.cells ++ zero.drop (off + size))).toArray := by
            rw [hcells, ← h1, ← overA_list ι zero v.cells off (by omega)]
            rw [← Array.foldl_toList]
            simp only [Array.toList_zipIdx]
            have := foldl_over (cvl ι v.cells) 0 off (cvl ι zero).toArray
            simpa using this
          rw [hov]
          exact ih _ ps' r cs hps hr hf
      · cases hp
    · cases hp
theorem fillC_ok {H : Heap} : ∀ (ps : List (Nat × Nat)) (zero vs cs : List V), VsOk H zero → VsOk H vs → fillC zero ps vs = some cs → VsOk H cs ∧ cs.length = zero.length := by
  intro ps
  induction ps with
  | nil =>
    intro zero vs cs hz _ h
    cases vs with
    | nil => simp only [fillC, Option.some.injEq] at h; subst h; exact ⟨hz, rfl⟩
    | cons v vs => simp [fillC] at h
  | cons p ps ih =>
    intro zero vs cs hz hv h
    obtain ⟨off, size⟩ := p
    cases vs with
    | nil => simp [fillC] at h
    | cons v vs =>
      simp only [fillC] at h
      cases hb : (Nat.beq v.cells.length size && Nat.ble (off + size) zero.length) with
      | false => rw [hb] at h; cases h
      | true =>
        simp only [hb, cond_true] at h
        simp only [Bool.and_eq_true] at hb
        have h1 := Nat.eq_of_beq_eq_true hb.1
        have h2 := Nat.le_of_ble_eq_true hb.2
        have hcv : VsOk H v.cells := by
          have := hv.1
          cases v <;> first | exact this | exact ⟨this, trivial⟩
        obtain ⟨k1, k2⟩ := ih _ vs cs (by
          rw [VsOk_iff] at hz hcv ⊢
          intro u hu
          rcases List.mem_append.1 hu with hu | hu
          · rcases List.mem_append.1 hu with hu | hu
            · exact hz u (List.mem_of_mem_take hu)
            · exact hcv u hu
          · exact hz u (List.mem_of_mem_drop hu)) hv.2 h
        refine ⟨k1, ?_⟩
        rw [k2]
        simp only [List.length_append, List.length_take, List.length_drop]
        omega
theorem cv1?_sound {v : Value} {u : V} (ι : Inj) (h : cv1? v = some u) : cv ι u = v ∧ ∀ H, VOk H u := by
  unfold cv1? at h
  split at h <;> first | (cases h; done) | (cases h; exact ⟨rfl, fun _ => trivial⟩)
theorem allSome_cv1 (ι : Inj) : ∀ (l : List Value) (r : List V), allSome cv1? l = some r → cvl ι r = l ∧ ∀ H, VsOk H r := by
  intro l
  induction l with
  | nil => intro r h; simp only [allSome, Option.some.injEq] at h; subst h; exact ⟨rfl, fun _ => trivial⟩
  | cons v l ih =>
    intro r h
    simp only [allSome] at h
    split at h
    · rename_i b hb
      split at h
      · rename_i r' hr
        cases h
        obtain ⟨h1, h2⟩ := cv1?_sound ι hb
        obtain ⟨h3, h4⟩ := ih _ hr
        exact ⟨by simp only [cvl, h1, h3], fun H => ⟨h2 H, h4 H⟩⟩
      · cases h
    · cases h
theorem cv?_sound {v : Value} {u : V} (ι : Inj) (h : cv? v = some u) : cv ι u = v ∧ ∀ H, VOk H u := by
  unfold cv? at h
  split at h
  · split at h
    · rename_i cs l hl
      cases h
      obtain ⟨h1, h2⟩ := allSome_cv1 ι _ _ hl
      exact ⟨by simp only [cv, h1], fun H => h2 H⟩
    · cases h
  · split at h
    · rename_i cs l hl
      cases h
      obtain ⟨h1, h2⟩ := allSome_cv1 ι _ _ hl
      exact ⟨by simp only [cv, h1], fun H => h2 H⟩
    · cases h
  · exact cv1?_sound ι h
theorem zeroT_sound {t : TypeId} {z : List V} (ι : Inj) (h : zeroT P t = some z) : ∃ v, (zeroValue t).run P w = .ok v w ∧ v.cells = (cvl ι z).toArray ∧ ∀ H, VsOk H z := by
  unfold zeroT at h
  split at h
  · rename_i i hi
    split at h
    · rename_i v hv
      obtain ⟨h1, h2⟩ := allSome_cv1 ι _ _ h
      refine ⟨v, by simp [zeroValue, typeInfo, hi, hv], ?_, h2⟩
      rw [h1]
    · cases h
  · cases h
theorem fields_places (fs : List Field) (hfs : ∀ f ∈ fs, ∃ d, P.underlying f.type = some d) : ∀ (w : World),
    (fs.mapM (m := Sem) fun f => do pure (f.offset, ← sizeOf f.type)).run P w = .ok (fs.map fun f => (f.offset, P.cellsOf f.type)) w := by
  induction fs with
  | nil => intro w; rfl
  | cons f fs ih =>
    intro w
    obtain ⟨d, hd⟩ := hfs f (by simp)
    simp only [List.mapM_cons, Sem.run_bind, run_sizeOf_any _ d hd, Result.andThen_ok, Sem.run_pure, ih (fun g hg => hfs g (by simp [hg])), List.map_cons]
end
end Go.Am

namespace Go.Am
set_option linter.unusedSimpArgs false
set_option linter.unusedVariables false
section
variable {P : Program} {w : World} {ι : Inj} {H : Heap} {ρ : Operand → Value}
theorem kn_some {α : Type} {t : TypeId} {x : Option α} {y : α} (h : kn P t x = some y) : (∃ d, P.underlying t = some d) ∧ x = some y := by
  unfold kn at h
  split at h
  · rename_i hs
    exact ⟨Option.isSome_iff_exists.1 hs, h⟩
  · cases h
theorem extract_take (s : List UInt8) (l h : Nat) : (ByteArray.mk s.toArray).extract l h = ⟨((s.take h).drop l).toArray⟩ := by
  apply ByteArray.ext
  apply Array.ext'
  simp [ByteArray.data_extract, List.drop_take]
theorem strCut_inv {s : List UInt8} {l h : Option Nat} {v : V} (hc : strCut s l h = some v) :
    h.getD s.length ≤ s.length ∧ l.getD 0 ≤ h.getD s.length ∧ v = .str ((s.take (h.getD s.length)).drop (l.getD 0)) := by
  unfold strCut at hc
  cases hb : (Nat.ble (h.getD s.length) s.length && Nat.ble (l.getD 0) (h.getD s.length)) with
  | false => simp only [hb, cond_false] at hc; cases hc
  | true =>
    simp only [hb, cond_true] at hc
    cases hc
    simp only [Bool.and_eq_true] at hb
    exact ⟨Nat.le_of_ble_eq_true hb.1, Nat.le_of_ble_eq_true hb.2, rfl⟩
theorem nilCut_inv {l h m : Option Nat} {v : V} (hc : nilCut l h m = some v) : l.getD 0 = 0 ∧ h.getD 0 = 0 ∧ m.getD 0 = 0 ∧ v = .nils := by
  unfold nilCut at hc
  cases hb : (Nat.beq (l.getD 0) 0 && Nat.beq (h.getD 0) 0 && Nat.beq (m.getD 0) 0) with
  | false => simp only [hb, cond_false] at hc; cases hc
  | true =>
    simp only [hb, cond_true] at hc
    cases hc
    simp only [Bool.and_eq_true] at hb
    exact ⟨Nat.eq_of_beq_eq_true hb.1.1, Nat.eq_of_beq_eq_true hb.1.2, Nat.eq_of_beq_eq_true hb.2, rfl⟩
theorem unOp_sound {u : UnOp} {x v : V} (h : unOp u x = some v) : (Go.Op.unary u (cv ι x)).run P w = .ok (cv ι v) w ∧ ∀ H, VOk H v := by
  unfold unOp at h
  split at h
  · rename_i k n
    simp only [mkI, forceI_eq, wr_eq] at h
    cases h
    exact ⟨rfl, fun _ => trivial⟩
  · rename_i k n
    simp only [mkI, forceI_eq, wr_eq] at h
    cases h
    refine ⟨?_, fun _ => trivial⟩
    have hones : BitVec.ofInt k.bits (if k.signed then -1 else k.max) = BitVec.allOnes k.bits := by cases k <;> rfl
    simp only [cv, Go.Op.unary, Go.Op.intBits, Sem.run_pure]
    rw [hones, BitVec.allOnes_xor, BitVec.toNat_not, ← toU_eq, ← pow2_eq]
    rfl
  · cases h
    exact ⟨rfl, fun _ => trivial⟩
  · cases h
theorem valid_eq (m : Nat) : Utf8.valid (m : Int) = (Nat.ble m 55295 || (Nat.ble 57344 m && Nat.ble m 1114111)) := by
  rw [Bool.eq_iff_iff]
  simp only [Utf8.valid, Bool.or_eq_true, Bool.and_eq_true, decide_eq_true_eq, Nat.ble_eq]
  omega
theorem encodeR_eq (r : Int) : Utf8.encode r = ⟨(encodeR r).toArray⟩ := by
  have key : ∀ c : Nat, (if c < 0x80 then (⟨#[UInt8.ofNat c]⟩ : ByteArray)
      else if c < 0x800 then ⟨#[UInt8.ofNat (0xC0 + c / 64), UInt8.ofNat (0x80 + c % 64)]⟩
      else if c < 0x10000 then ⟨#[UInt8.ofNat (0xE0 + c / 4096), UInt8.ofNat (0x80 + c / 64 % 64), UInt8.ofNat (0x80 + c % 64)]⟩
      else ⟨#[UInt8.ofNat (0xF0 + c / 262144), UInt8.ofNat (0x80 + c / 4096 % 64), UInt8.ofNat (0x80 + c / 64 % 64), UInt8.ofNat (0x80 + c % 64)]⟩) =
      ⟨(bif Nat.blt c 128 then [UInt8.ofNat c]
        else bif Nat.blt c 2048 then [UInt8.ofNat (192 + c / 64), UInt8.ofNat (128 + c % 64)]
        else bif Nat.blt c 65536 then [UInt8.ofNat (224 + c / 4096), UInt8.ofNat (128 + c / 64 % 64), UInt8.ofNat (128 + c % 64)]
        else [UInt8.ofNat (240 + c / 262144), UInt8.ofNat (128 + c / 4096 % 64), UInt8.ofNat (128 + c / 64 % 64), UInt8.ofNat (128 + c % 64)]).toArray⟩ := by
    intro c
    have hb : ∀ n, Nat.blt c n = decide (c < n) := fun n => by rw [Bool.eq_iff_iff]; simp [Nat.blt_eq]
    simp only [hb]
    by_cases h1 : c < 128
    · simp [h1]
    · by_cases h2 : c < 2048
      · simp [h1, h2]
      · by_cases h3 : c < 65536
        · simp [h1, h2, h3]
        · simp [h1, h2, h3]
  cases r with
  | ofNat m =>
    unfold Utf8.encode encodeR
    simp only [Int.ofNat_eq_natCast, valid_eq, Int.toNat_natCast]
    cases (Nat.ble m 55295 || (Nat.ble 57344 m && Nat.ble m 1114111)) with
    | true => exact key m
    | false => exact key 65533
  | negSucc m =>
    unfold Utf8.encode encodeR
    have : Utf8.valid (Int.negSucc m) = false := by
      rw [Bool.eq_false_iff]
      simp only [Utf8.valid, ne_eq, Bool.or_eq_true, Bool.and_eq_true, decide_eq_true_eq]
      omega
    simp only [this, Bool.false_eq_true, if_false]
    exact key 65533
theorem partOf_sound {t : TypeId} {d : TypeDesc} (hu : P.underlying t = some d) {cs : List V} {off : Nat} {v : V} (h : partOf cs off (P.cellsOf t) (aggT P t) = some v) (hok : VsOk H cs) :
    (part t (cvl ι cs).toArray off).run P w = .ok (cv ι v) w ∧ VOk H v := by
  unfold partOf at h
  simp only [part, Sem.run_bind, run_isAgg_any t d hu, Result.andThen_ok]
  cases ha : aggT P t with
  | true =>
    rw [ha] at h
    simp only at h
    cases hb : Nat.ble (off + P.cellsOf t) cs.length with
    | false => rw [hb] at h; cases h
    | true =>
      rw [hb] at h
      cases h
      have hle := Nat.le_of_ble_eq_true hb
      refine ⟨?_, ?_⟩
      · simp only [if_true, Sem.run_bind, run_sizeOf_any t d hu, Result.andThen_ok, Sem.run_pure, cv, cvl_take, cvl_drop]
        congr 2
        apply Array.ext'
        simp
      · rw [VOk, VsOk_iff] at *
        exact fun u hu => hok u (List.mem_of_mem_drop (List.mem_of_mem_take hu))
  | false =>
    rw [ha] at h
    simp only at h
    have : (cvl ι cs).toArray[off]? = some (cv ι v) := by simp [cvl_get, h]
    simp only [Bool.false_eq_true, if_false, this, Sem.run_pure]
    exact ⟨by trivial, (VsOk_iff H cs).1 hok v (List.mem_of_getElem? h)⟩
theorem slicePart {z n : Nat} {e : TypeId} {id off len lo : Nat} {ex : Option Nat} {l h m : Option Nat} {v : V} (hm : m.isSome = true → h.isSome = true) (hlen : len ≤ lo + ex.getD 0)
    (hc : slCut id off len lo ex z l h m = some v) (_hz : z = P.cellsOf e) (_hn : n = 0) :
    Value.slice (some (if m.getD (lo + ex.getD 0) = l.getD 0 then (⟨(ι id).1, (ι id).2 + off, none⟩ : Addr) else Addr.add ⟨(ι id).1, (ι id).2 + off, none⟩ (l.getD 0 * z)))
      (h.getD len - l.getD 0) (m.getD (lo + ex.getD 0) - l.getD 0) = cv ι v := by
  obtain ⟨h1, h2, h3, lo', ex', rfl, h4, h5⟩ := slCut_inv hm hlen hc
  rw [cut_addr, cv, h4]
def Plainly (X Y : Value) : Prop := (∀ k p k' q, ¬ (X = .int k p ∧ Y = .int k' q)) ∧ (∀ p q, ¬ (X = .string p ∧ Y = .string q)) ∧ (∀ k p k' q, ¬ (X = .float k p ∧ Y = .float k' q)) ∧
  (∀ k p p' k' q q', ¬ (X = .complex k p p' ∧ Y = .complex k' q q'))
theorem binOp_eql_run {t : TypeId} {X Y : Value} {bb : Bool} (hp : Plainly X Y) (hr : (Go.Op.equal t X Y).run P w = .ok bb w) : (binOp .eql t X Y).run P w = .ok (.bool bb) w := by
  obtain ⟨e1, e2, e3, e4⟩ := hp
  unfold binOp
  split <;> first
    | contradiction
    | exact absurd ⟨rfl, rfl⟩ (e1 _ _ _ _)
    | exact absurd ⟨rfl, rfl⟩ (e2 _ _)
    | exact absurd ⟨rfl, rfl⟩ (e3 _ _ _ _)
    | exact absurd ⟨rfl, rfl⟩ (e4 _ _ _ _ _ _)
    | (simp only [Sem.run_bind, hr, Result.andThen_ok, Sem.run_pure]; done)
    | (simp_all; done)
theorem binOp_neq_run {t : TypeId} {X Y : Value} {bb : Bool} (hp : Plainly X Y) (hr : (Go.Op.equal t X Y).run P w = .ok bb w) : (binOp .neq t X Y).run P w = .ok (.bool (!bb)) w := by
  obtain ⟨e1, e2, e3, e4⟩ := hp
  unfold binOp
  split <;> first
    | contradiction
    | exact absurd ⟨rfl, rfl⟩ (e1 _ _ _ _)
    | exact absurd ⟨rfl, rfl⟩ (e2 _ _)
    | exact absurd ⟨rfl, rfl⟩ (e3 _ _ _ _)
    | exact absurd ⟨rfl, rfl⟩ (e4 _ _ _ _ _ _)
    | (simp only [Sem.run_bind, hr, Result.andThen_ok, Sem.run_pure]; done)
    | (simp_all; done)
theorem pop_sound (op : Go.Op) (o : POp) (xs : List Operand) (vs : List V) (v : V) (dst : Option Tmp) (ty : TypeId) (pos : String) (after : Array Edge) (guard : Option (Nat × Bool))
    (ht : trOp P op = some (.p o, xs)) (hx : xs.map ρ = cvl ι vs) (hok : VsOk H vs) (h : evalP o vs = some v) :
    (execOp ρ ⟨dst, op, ty, pos, after, guard⟩).run P w = .ok (.value (cv ι v)) w ∧ VOk H v := by
  cases op <;> simp only [trOp] at ht
  case move x =>
    cases ht
    obtain ⟨a, rfl, ha⟩ := map1 hx
    cases inv_mv (vs := [a]) h
    exact ⟨by simp only [execOp, ha]; rfl, hok.1⟩
  case assign x =>
    cases ht
    obtain ⟨a, rfl, ha⟩ := map1 hx
    cases inv_mv (vs := [a]) h
    exact ⟨by simp only [execOp, ha]; rfl, hok.1⟩
  case pick c a b =>
    cases ht
    obtain ⟨x, y, z, rfl, hx1, hy1, hz1⟩ := map3 hx
    obtain ⟨c', a', b', he, rfl⟩ := inv_pick h
    cases he
    simp only [execOp, hx1, hy1, hz1, cv, asBool, Sem.run_bind, Sem.run_pure, Result.andThen_ok]
    cases c'
    · exact ⟨rfl, hok.2.2.1⟩
    · exact ⟨rfl, hok.2.1⟩
  case build t parts =>
    split at ht
    · rename_i z ps hz hps
      split at ht
      · rename_i hpo
        cases ht
        simp only [evalP, pBuild] at h
        split at h
        · rename_i cs hcs
          cases h
          obtain ⟨zv, hz1, hz2, hz3⟩ := zeroT_sound (w := w) ι hz
          refine ⟨?_, (fillC_ok ps z vs cs (hz3 H) hok hcs).1⟩
          have hparts : (parts.map fun (x : Nat × Operand) => (x.1, ρ x.2)).toList = parts.toList.map fun (i, x) => (i, ρ x) := by simp
          unfold partsOk at hpo
          split at hpo
          · rename_i fs hu
            have hpl : ∀ i, placeOf P t i = (fs.toList.map fun f => (f.offset, P.cellsOf f.type))[i]? := fun i => by
              simp only [placeOf, hu, List.getElem?_map, Array.getElem?_toList]
              cases fs[i]? <;> rfl
            have hfill := fill_sound ι ρ (fun i => (fs.toList.map fun f => (f.offset, P.cellsOf f.type))[i]?) parts.toList z ps vs cs (by rw [← funext hpl]; exact hps) hx hcs
            have hfs : ∀ f ∈ fs.toList, ∃ d, P.underlying f.type = some d := fun f hf => Option.isSome_iff_exists.1 (List.all_eq_true.1 hpo f hf)
            have hmap : (fs.mapM (m := Sem) fun f => do pure (f.offset, ← sizeOf f.type)).run P w = .ok (fs.toList.map fun f => (f.offset, P.cellsOf f.type)).toArray w := by
              rw [Array.mapM_eq_mapM_toList]
              simp only [Sem.run_map, fields_places fs.toList hfs, Result.andThen_ok]
            simp only [execOp, Instr.build, Sem.run_bind, hz1, Result.andThen_ok, run_underlying hu, hmap, hz2, hparts]
            simp only [List.getElem?_toArray, hfill]
            rfl
          · rename_i n e hu
            obtain ⟨de, hde⟩ := Option.isSome_iff_exists.1 hpo
            have hpl : ∀ i, placeOf P t i = some (i * P.cellsOf e, P.cellsOf e) := fun i => by simp only [placeOf, hu]
            have hfill := fill_sound ι ρ (fun i => some (i * P.cellsOf e, P.cellsOf e)) parts.toList z ps vs cs (by rw [← funext hpl]; exact hps) hx hcs
            simp only [execOp, Instr.build, Sem.run_bind, hz1, Result.andThen_ok, run_underlying hu, run_sizeOf_any e de hde, hz2, hparts, hfill]
            rfl
          · cases hpo
        · cases h
      · cases ht
    · cases ht
  case nilCheck x =>
    cases ht
    obtain ⟨a, rfl, ha⟩ := map1 hx
    simp only [evalP, pNilck] at h
    split at h <;> first | (cases h; done) | skip
    rename_i h1 h2 h3 heq
    cases h
    cases heq
    refine ⟨?_, hok.1⟩
    simp only [execOp, ha]
    cases v <;> first | rfl | (exfalso; simp_all)
  case binOp b t x y ty2 =>
    have bools : ∀ bb : Bool, VOk H (.bool bb) := fun _ => trivial
    have intCase : (o = .bin b ∧ xs = [x, y]) → (execOp ρ ⟨dst, .binOp b t x y ty2, ty, pos, after, guard⟩).run P w = .ok (.value (cv ι v)) w ∧ VOk H v := by
      rintro ⟨rfl, rfl⟩
      obtain ⟨a, c, rfl, ha, hc⟩ := map2 hx
      simp only [evalP] at h
      rcases inv_bin h with ⟨k, p, k', q, he, hr⟩ | ⟨p, q, he, hr⟩
      · cases he
        have hg : ∀ z, eqGuard b t x y (.int k p) z = pure () := fun z => eqGuard_at_int ..
        simp only [execOp, ha, hc, cv, hg]
        rcases hr with ⟨hb, hr⟩ | ⟨hb, rfl, hr⟩
        · obtain ⟨h1, n, rfl⟩ := shiftOp_sound (P := P) (w := w) (k' := k') ι t hb hr
          simp only [Sem.run_bind, Sem.run_pure, Result.andThen_ok, h1]
          exact ⟨by trivial, trivial⟩
        · obtain ⟨h1, bb, h2⟩ := intBin_sound (P := P) (w := w) ι t hb hr
          simp only [Sem.run_bind, Sem.run_pure, Result.andThen_ok, h1]
          rcases h2 with rfl | ⟨n, rfl⟩ <;> exact ⟨by trivial, trivial⟩
      · cases he
        have hg : ∀ z, eqGuard b t x y (.string ⟨p.toArray⟩) z = pure () := fun z => eqGuard_at_string ..
        simp only [execOp, ha, hc, cv, hg]
        obtain ⟨h1, h2⟩ := strBin_sound (P := P) (w := w) ι t hr
        simp only [Sem.run_bind, Sem.run_pure, Result.andThen_ok, h1]
        rcases h2 with ⟨bb, rfl⟩ | ⟨n, rfl⟩ <;> exact ⟨by trivial, trivial⟩
    have eqCase : ∀ (neg : Bool) (e : E), b = (if neg then .neq else .eql) → eqOf P t = some e → (∀ k, P.underlying t ≠ some (.int k)) → P.underlying t ≠ some .string → (o = .eq neg e ∧ xs = [x, y]) →
        (execOp ρ ⟨dst, .binOp b t x y ty2, ty, pos, after, guard⟩).run P w = .ok (.value (cv ι v)) w ∧ VOk H v := by
      rintro neg e rfl heq hni hns ⟨rfl, rfl⟩
      obtain ⟨a, c, rfl, ha, hc⟩ := map2 hx
      simp only [evalP, pEq] at h
      split at h
      · rename_i bb hbb
        cases h
        obtain ⟨h1, h2⟩ := eqV_sound (P := P) (w := w) ι t heq hbb (if neg then .neq else .eql) x y
        refine ⟨?_, trivial⟩
        simp only [execOp, ha, hc, Sem.run_bind, h2, Result.andThen_ok]
        have hkind : (∀ k p k' q, ¬ (a = .int k p ∧ c = .int k' q)) ∧ (∀ p q, ¬ (a = .str p ∧ c = .str q)) := by
          refine ⟨?_, ?_⟩
          · rintro k p k' q ⟨rfl, rfl⟩
            unfold eqOf at heq
            split at heq <;> first | (cases heq; done) | (cases heq; simp [eqV, eqS] at hbb; done) | skip
            split at heq
            · split at heq
              · cases heq; simp [eqV, eqS] at hbb
              · cases heq
            · cases heq
          · rintro p q ⟨rfl, rfl⟩
            unfold eqOf at heq
            split at heq <;> first | (cases heq; done) | (cases heq; simp [eqV, eqS] at hbb; done) | skip
            split at heq
            · split at heq
              · cases heq; simp [eqV, eqS] at hbb
              · cases heq
            · cases heq
        have hpl : Plainly (cv ι a) (cv ι c) := by
          refine ⟨?_, ?_, ?_, ?_⟩
          · rintro k p k' q ⟨e1, e2⟩
            cases a <;> simp only [cv, reduceCtorEq] at e1
            cases c <;> simp only [cv, reduceCtorEq] at e2
            exact hkind.1 _ _ _ _ ⟨rfl, rfl⟩
          · rintro p q ⟨e1, e2⟩
            cases a <;> simp only [cv, reduceCtorEq] at e1
            cases c <;> simp only [cv, reduceCtorEq] at e2
            exact hkind.2 _ _ ⟨rfl, rfl⟩
          · rintro k p k' q ⟨e1, e2⟩
            cases a <;> simp only [cv, reduceCtorEq] at e1
          · rintro k p p' k' q q' ⟨e1, e2⟩
            cases a <;> simp only [cv, reduceCtorEq] at e1
        have hbin : (binOp (if neg then .neq else .eql) t (cv ι a) (cv ι c)).run P w = .ok (.bool (bb != neg)) w := by
          cases neg
          · rw [Bool.bne_false]; exact binOp_eql_run hpl h1
          · rw [Bool.bne_true]; exact binOp_neq_run hpl h1
        rw [hbin]
        rfl
      · cases h
    split at ht
    · cases ht; exact intCase ⟨rfl, rfl⟩
    · cases ht; exact intCase ⟨rfl, rfl⟩
    · split at ht
      · split at ht <;> cases ht
      · split at ht <;> cases ht
      · cases ht
    · rename_i hni hns _
      split at ht
      · rename_i e he
        cases ht
        exact eqCase false e rfl he (fun k hk => hni k hk) (fun hk => hns hk) ⟨rfl, rfl⟩
      · rename_i e he
        cases ht
        exact eqCase true e rfl he (fun k hk => hni k hk) (fun hk => hns hk) ⟨rfl, rfl⟩
      · cases ht
  case unOp u t x =>
    cases ht
    obtain ⟨a, rfl, ha⟩ := map1 hx
    obtain ⟨h1, h2⟩ := unOp_sound (P := P) (w := w) (ι := ι) (show unOp u a = some v from h)
    refine ⟨?_, h2 H⟩
    simp only [execOp, ha, Sem.run_bind, h1, Result.andThen_ok, Sem.run_pure]
  case convert s t x =>
    split at ht
    · rename_i ks k hs hk
      cases ht
      obtain ⟨a, rfl, ha⟩ := map1 hx
      simp only [evalP, pToInt] at h
      split at h
      · rename_i k0 n heq
        cases heq
        simp only [mkI, forceI_eq, wr_eq] at h
        cases h
        refine ⟨?_, trivial⟩
        simp only [execOp, ha, cv, convert, Sem.run_bind, run_underlying hs, run_underlying hk, Result.andThen_ok, Conv.intToInt, Sem.run_pure]
      · cases h
    · rename_i ks hs hk
      cases ht
      obtain ⟨a, rfl, ha⟩ := map1 hx
      simp only [evalP, pRuneStr] at h
      split at h
      · rename_i k0 n heq
        cases heq
        cases h
        refine ⟨?_, trivial⟩
        simp only [execOp, ha, cv, convert, Sem.run_bind, run_underlying hs, run_underlying hk, Result.andThen_ok, Conv.intToString, Sem.run_pure, encodeR_eq]
      · cases h
    · rename_i hs hk
      cases ht
      obtain ⟨a, rfl, ha⟩ := map1 hx
      simp only [evalP, pAsStr] at h
      split at h
      · rename_i s heq
        cases heq
        cases h
        refine ⟨?_, trivial⟩
        simp only [execOp, ha, cv, convert, Sem.run_bind, run_underlying hs, run_underlying hk, Result.andThen_ok, Sem.run_pure]
      · cases h
    · rename_i hs hk
      split at ht <;> cases ht
    · rename_i hs hk
      split at ht <;> cases ht
    · rename_i hs hk
      split at ht <;> cases ht
    · cases ht
  case makeInterface t x =>
    split at ht
    · cases ht
    · rename_i d hnd hu
      cases ht
      obtain ⟨a, rfl, ha⟩ := map1 hx
      simp only [evalP, pIface] at h
      cases h
      refine ⟨?_, hok.1⟩
      simp only [execOp, ha, Instr.makeInterface, Sem.run_bind, run_underlying hu, Result.andThen_ok]
      rfl
    · cases ht
  case next x b =>
    cases b <;> simp only at ht <;> cases ht
  case makeFunc fn first captured =>
    cases fn <;> simp only at ht <;> first | (cases ht; done) | skip
    · rename_i f
      cases ht
      simp only [evalP, Option.some.injEq] at h
      subst h
      have h1 : first.toList.map ρ = cvl ι (vs.take first.size) := by
        rw [cvl_take, ← hx, List.map_append, List.take_left' (by simp)]
      have h2 : captured.toList.map ρ = cvl ι (vs.drop first.size) := by
        rw [cvl_drop, ← hx, List.map_append, List.drop_left' (by simp)]
      refine ⟨?_, ?_⟩
      · simp only [execOp, Instr.makeFunc, Sem.run_bind, Sem.run_pure, Result.andThen_ok, cv, ← h1, ← h2]
        rw [← Array.toList_map, ← Array.toList_map]
      · rw [VsOk_iff] at hok
        exact ⟨(VsOk_iff H _).2 fun u hu => hok u (List.mem_of_mem_take hu), (VsOk_iff H _).2 fun u hu => hok u (List.mem_of_mem_drop hu)⟩
  case slice t x lo hi mx =>
    have flagOk : ∀ {l h m : Option Nat}, ¬ (mx.isSome && !hi.isSome) = true → OptV (hi.map ρ) h → OptV (mx.map ρ) m → m.isSome = true → h.isSome = true := by
      intro l h m hf oh om hm
      have h1 := oh.isSome
      have h2 := om.isSome
      cases hi <;> cases mx <;> simp_all
    have arr : ∀ (n : Nat) (e : TypeId) (a : V) (r : List V), (¬ (mx.isSome && !hi.isSome) = true) → (∃ d, P.underlying e = some d) → ρ x = cv ι a → (lo.toList ++ hi.toList ++ mx.toList).map ρ = cvl ι r → VsOk H (a :: r) →
        pArrSlice n (P.cellsOf e) lo.isSome hi.isSome mx.isSome (a :: r) = some v →
        ∃ id off l h m, a = .ptr id off ∧ (Instr.sliceBounds false n n (lo.map ρ) (hi.map ρ) (mx.map ρ)).run P w = .ok (l, h, m) w ∧
          Value.slice (some (if m = l then (⟨(ι id).1, (ι id).2 + off, none⟩ : Addr) else Addr.add ⟨(ι id).1, (ι id).2 + off, none⟩ (l * P.cellsOf e))) (h - l) (m - l) = cv ι v ∧ VOk H v := by
      intro n e a r hf hd ha hr hok h
      simp only [pArrSlice] at h
      split at h
      · rename_i id off vs' heq
        cases heq
        split at h
        · rename_i l h' m hb
          obtain ⟨ol, oh, om⟩ := bounds3_sound hb hr
          have hm := flagOk (l := l) hf oh om
          have hlen : n ≤ n + (none : Option Nat).getD 0 := Nat.le_refl _
          obtain ⟨h1, h2, h3, _⟩ := slCut_inv hm hlen h
          refine ⟨id, off, l.getD 0, h'.getD n, m.getD n, rfl, sliceBounds_run false n n ol oh om hm h1 h2 h3, slicePart hm hlen h rfl rfl, ?_⟩
          exact slCut_ok (H := H) hm ⟨hok.1, hlen, fun he => by cases he⟩ h
        · cases h
      · cases h
    split at ht
    · rename_i hu
      split at ht
      · cases ht
      · rename_i hmx
        cases ht
        have hmx' : mx = none := by cases mx <;> simp_all
        subst hmx'
        obtain ⟨a, r, rfl, ha, hr⟩ := mapCons hx
        simp only [evalP, pStrSlice] at h
        split at h
        · rename_i s vs' heq
          cases heq
          split at h
          · rename_i l h' m hb
            obtain ⟨ol, oh, om⟩ := bounds3_sound (mx := none) hb hr
            obtain ⟨h1, h2, rfl⟩ := strCut_inv h
            have hm0 : m = none := by rcases om with ⟨_, rfl⟩ | ⟨k, m', he, _⟩ <;> first | rfl | cases he
            subst hm0
            have hbd := sliceBounds_run (P := P) (w := w) false s.length s.length ol oh om (fun he => by cases he) (Nat.le_refl _) h1 h2
            refine ⟨?_, trivial⟩
            have hsz : (ByteArray.mk s.toArray).size = s.length := by simp [ByteArray.size]
            simp only [execOp, ha, cv, Instr.sliceAt, Sem.run_bind, run_underlying hu, Result.andThen_ok, Instr.slice, hsz]
            simp only [Option.map_none] at hbd
            simp [hbd, extract_take]
          · cases h
        · cases h
    · rename_i e hu
      split at ht
      · cases ht
      · rename_i hf
        obtain ⟨⟨d, hd⟩, ht⟩ := kn_some ht
        cases ht
        obtain ⟨a, r, rfl, ha, hr⟩ := mapCons hx
        simp only [evalP, pSlSlice] at h
        split at h
        · rename_i id off len clo ex z vs' heq
          cases heq
          cases hz : Nat.beq (P.cellsOf e) z with
          | false => simp only [hz, cond_false] at h; cases h
          | true =>
            have hz' := Nat.eq_of_beq_eq_true hz
            subst hz'
            simp only [hz, cond_true] at h
            split at h
            · rename_i l h' m hb
              obtain ⟨ol, oh, om⟩ := bounds3_sound hb hr
              have hm := flagOk (l := l) hf oh om
              have hlen := hok.1.2.1
              obtain ⟨h1, h2, h3, _⟩ := slCut_inv hm hlen h
              have hbd := sliceBounds_run (P := P) (w := w) true len (clo + ex.getD 0) ol oh om hm h1 h2 h3
              refine ⟨?_, slCut_ok hm hok.1 h⟩
              rw [← slicePart (ι := ι) (e := e) (n := 0) hm hlen h rfl rfl]
              simp only [execOp, ha, cv, Instr.sliceAt, Sem.run_bind, run_underlying hu, Result.andThen_ok, Instr.slice, hbd, run_sizeOf_any _ d hd, Sem.run_pure]
              congr 3
              split <;> rfl
            · cases h
        · rename_i vs' heq
          cases heq
          split at h
          · rename_i l h' m hb
            obtain ⟨ol, oh, om⟩ := bounds3_sound hb hr
            have hm := flagOk (l := l) hf oh om
            obtain ⟨h1, h2, h3, rfl⟩ := nilCut_inv h
            have hbd := sliceBounds_run (P := P) (w := w) true 0 0 ol oh om hm (by omega) (by omega) (by omega)
            refine ⟨?_, trivial⟩
            simp only [execOp, ha, cv, Instr.sliceAt, Sem.run_bind, run_underlying hu, Result.andThen_ok, Instr.slice, hbd, run_sizeOf_any _ d hd, Sem.run_pure, h1, h2, h3]
            rfl
          · cases h
        · cases h
    · rename_i n e hu
      split at ht
      · cases ht
      · rename_i hf
        obtain ⟨hd, ht⟩ := kn_some ht
        cases ht
        obtain ⟨a, r, rfl, ha, hr⟩ := mapCons hx
        obtain ⟨id, off, l, h', m, rfl, hbd, hv, hvok⟩ := arr n e a r hf hd ha hr hok h
        obtain ⟨d, hd⟩ := hd
        refine ⟨?_, hvok⟩
        rw [← hv]
        simp only [execOp, ha, cv, Instr.sliceAt, Instr.sureAddr, Sem.run_bind, run_underlying hu, Result.andThen_ok, hbd, run_sizeOf_any _ d hd, Sem.run_pure]
    · rename_i ar hu
      split at ht
      · rename_i n e hua
        split at ht
        · cases ht
        · rename_i hf
          obtain ⟨hd, ht⟩ := kn_some ht
          cases ht
          obtain ⟨a, r, rfl, ha, hr⟩ := mapCons hx
          obtain ⟨id, off, l, h', m, rfl, hbd, hv, hvok⟩ := arr n e a r hf hd ha hr hok h
          obtain ⟨d, hd⟩ := hd
          refine ⟨?_, hvok⟩
          rw [← hv]
          simp only [execOp, ha, cv, Instr.sliceAt, Instr.slice, asAddr, Sem.run_bind, run_underlying hu, run_underlying hua, Result.andThen_ok, hbd, run_sizeOf_any _ d hd, Sem.run_pure]
      · cases ht
    · cases ht
  case fieldAddr t x i =>
    split at ht
    · rename_i fs hu
      split at ht
      · rename_i f hf
        split at ht
        · cases ht
        · rename_i hz
          obtain ⟨⟨d, hd⟩, ht⟩ := kn_some ht
          cases ht
          obtain ⟨a, rfl, ha⟩ := map1 hx
          simp only [evalP, pFieldAddr] at h
          split at h
          · rename_i id off heq
            cases heq
            cases h
            refine ⟨?_, hok.1⟩
            simp only [execOp, ha, cv, Instr.fieldAt, Instr.sureAddr, Sem.run_bind, run_underlying hu, Result.andThen_ok, hf, Sem.run_pure, fieldPlace, run_sizeOf_any _ d hd, if_neg hz, add_addr, Nat.add_assoc]
          · cases h
      · cases ht
    · cases ht
  case field t x i =>
    split at ht
    · rename_i fs hu
      split at ht
      · rename_i f hf
        obtain ⟨⟨d, hd⟩, ht⟩ := kn_some ht
        cases ht
        obtain ⟨a, rfl, ha⟩ := map1 hx
        simp only [evalP, pField] at h
        split at h
        · rename_i cs heq
          cases heq
          obtain ⟨h1, h2⟩ := partOf_sound (w := w) (ι := ι) hd h hok.1
          refine ⟨?_, h2⟩
          simp only [execOp, ha, cv, Instr.field, Sem.run_bind, run_underlying hu, Result.andThen_ok, hf, asAgg, Sem.run_pure, h1]
        · cases h
      · cases ht
    · cases ht
  case indexAddr t x i =>
    split at ht
    · rename_i e hu
      obtain ⟨⟨d, hd⟩, ht⟩ := kn_some ht
      cases ht
      obtain ⟨a, c, rfl, ha, hc⟩ := map2 hx
      simp only [evalP, pSlIdx] at h
      split at h
      · rename_i id off len clo ex z k n heq
        cases heq
        split at h
        · rename_i m hm
          have := natOf_some hm
          subst this
          cases hb : (Nat.beq (P.cellsOf e) z && Nat.blt m len) with
          | false => simp only [hb, cond_false] at h; cases h
          | true =>
            simp only [hb, cond_true] at h
            cases h
            simp only [Bool.and_eq_true] at hb
            have hlt : m < len := by simpa [Nat.blt_eq] using hb.2
            refine ⟨?_, hok.1.1⟩
            simp only [execOp, ha, hc, cv, Instr.indexAt, asIntOf, Sem.run_bind, Sem.run_pure, Result.andThen_ok, run_underlying hu]
            simp [hlt, run_sizeOf_any _ d hd, add_addr, Nat.add_assoc]
        · cases h
      · cases h
    · rename_i n e hu
      obtain ⟨⟨d, hd⟩, ht⟩ := kn_some ht
      cases ht
      obtain ⟨a, c, rfl, ha, hc⟩ := map2 hx
      simp only [evalP, pArrIdx] at h
      split at h
      · rename_i id off k n' heq
        cases heq
        split at h
        · rename_i m hm
          have := natOf_some hm
          subst this
          cases hb : Nat.blt m n with
          | false => simp only [hb, cond_false] at h; cases h
          | true =>
            simp only [hb, cond_true] at h
            cases h
            have hlt : m < n := by simpa [Nat.blt_eq] using hb
            refine ⟨?_, hok.1⟩
            simp only [execOp, ha, hc, cv, Instr.indexAt, asIntOf, Sem.run_bind, Sem.run_pure, Result.andThen_ok, run_underlying hu]
            simp [Instr.sureAddr, hlt, run_sizeOf_any _ d hd, add_addr, Nat.add_assoc]
        · cases h
      · cases h
    · cases ht
  case index t x i =>
    split at ht
    · rename_i hu
      cases ht
      obtain ⟨a, c, rfl, ha, hc⟩ := map2 hx
      simp only [evalP, pStrIndex] at h
      split at h
      · rename_i s k n heq
        cases heq
        split at h
        · rename_i m hm
          have := natOf_some hm
          subst this
          split at h
          · rename_i ch hch
            cases h
            refine ⟨?_, trivial⟩
            have hlt : m < s.length := (List.getElem?_eq_some_iff.1 hch).1
            have hget : (ByteArray.mk s.toArray)[m]? = some ch := by
              rw [ByteArray.getElem?_lt' _ _ (by simpa [ByteArray.size] using hlt)]
              congr 1
              have := (List.getElem?_eq_some_iff.1 hch).2
              simpa [ByteArray.getElem_eq_getElem_data] using this
            simp only [execOp, ha, hc, cv, Instr.index, asIntOf, Sem.run_bind, Sem.run_pure, Result.andThen_ok, run_underlying hu]
            simp [hget]
          · cases h
        · cases h
      · cases h
    · rename_i n e hu
      obtain ⟨⟨d, hd⟩, ht⟩ := kn_some ht
      cases ht
      obtain ⟨a, c, rfl, ha, hc⟩ := map2 hx
      simp only [evalP, pArrIndex] at h
      split at h
      · rename_i cs k n' heq
        cases heq
        split at h
        · rename_i m hm
          have := natOf_some hm
          subst this
          cases hb : Nat.blt m n with
          | false => simp only [hb, cond_false] at h; cases h
          | true =>
            simp only [hb, cond_true] at h
            have hlt : m < n := by simpa [Nat.blt_eq] using hb
            obtain ⟨h1, h2⟩ := partOf_sound (w := w) (ι := ι) hd h hok.1
            refine ⟨?_, h2⟩
            simp only [execOp, ha, hc, cv, Instr.index, asIntOf, Sem.run_bind, Sem.run_pure, Result.andThen_ok, run_underlying hu]
            simp [hlt, run_sizeOf_any _ d hd, h1]
        · cases h
      · cases h
    · cases ht
  case extract x i =>
    cases ht
    obtain ⟨a, rfl, ha⟩ := map1 hx
    simp only [evalP, pExtract] at h
    split at h
    · rename_i us heq
      cases heq
      refine ⟨?_, (VsOk_iff H us).1 hok.1 v (List.mem_of_getElem? h)⟩
      have : (cvl ι us).toArray[i]? = some (cv ι v) := by simp [cvl_get, h]
      simp only [execOp, ha, cv, Instr.extract, Sem.run_bind, this, Sem.run_pure, Result.andThen_ok]
    · cases h
  case call c =>
    split at ht
    · split at ht <;> cases ht
    · cases ht
    · rename_i b hc
      split at ht
      · rename_i o' hb
        cases ht
        have hargs : c.args.map ρ = (cvl ι vs).toArray := by
          rw [← hx, ← Array.toList_map]
        have hres : ∀ (S : Sem Value), (∀ cs, builtin b c.argTypes ty cs (cvl ι vs).toArray = (do pure (.value (← S)))) → S.run P w = .ok (cv ι v) w →
            (execOp ρ ⟨dst, .call c, ty, pos, after, guard⟩).run P w = .ok (.value (cv ι v)) w := by
          intro S hS hr
          simp only [execOp, resolve, hc, Sem.run_bind, Sem.run_pure, Result.andThen_ok, hargs, invoke]
          rw [hS]
          simp only [Sem.run_bind, hr, Result.andThen_ok, Sem.run_pure]
        have hsz : ∀ s : List UInt8, (ByteArray.mk s.toArray).size = s.length := fun s => by simp [ByteArray.size]
        unfold trBuiltin at hb
        split at hb
        · rename_i t rest hty
          have hty0 : c.argTypes[0]? = some t := by rw [← Array.getElem?_toList, hty]; rfl
          split at hb
          · rename_i hu
            cases hb
            simp only [evalP, pLenS] at h
            split at h
            · cases h
              refine ⟨hres _ (fun _ => rfl) ?_, trivial⟩
              simp only [Builtin.len_, hty0, cvl, cv, List.getElem?_toArray, List.getElem?_cons_zero, Sem.run_bind, run_underlying hu, Result.andThen_ok, hsz, goInt, Sem.run_pure]
              rfl
            · cases h
          · rename_i e hu
            cases hb
            simp only [evalP, pLen] at h
            split at h
            · cases h
              refine ⟨hres _ (fun _ => rfl) ?_, trivial⟩
              simp only [Builtin.len_, hty0, cvl, cv, List.getElem?_toArray, List.getElem?_cons_zero, Sem.run_bind, run_underlying hu, Result.andThen_ok, goInt, Sem.run_pure]
              rfl
            · cases h
              refine ⟨hres _ (fun _ => rfl) ?_, trivial⟩
              simp only [Builtin.len_, hty0, cvl, cv, List.getElem?_toArray, List.getElem?_cons_zero, Sem.run_bind, run_underlying hu, Result.andThen_ok, goInt, Sem.run_pure]
              rfl
            · cases h
          · rename_i n e hu
            cases hb
            simp only [evalP, pArrLen] at h
            split at h
            · cases h
              refine ⟨hres _ (fun _ => rfl) ?_, trivial⟩
              simp only [Builtin.len_, hty0, cvl, List.getElem?_toArray, List.getElem?_cons_zero, Sem.run_bind, run_underlying hu, Result.andThen_ok, goInt, Sem.run_pure]
              rfl
            · cases h
          · rename_i ar hu
            split at hb
            · rename_i n e hua
              cases hb
              simp only [evalP, pArrLen] at h
              split at h
              · cases h
                refine ⟨hres _ (fun _ => rfl) ?_, trivial⟩
                simp only [Builtin.len_, hty0, cvl, List.getElem?_toArray, List.getElem?_cons_zero, Sem.run_bind, run_underlying hu, run_underlying hua, Result.andThen_ok, goInt, Sem.run_pure]
                rfl
              · cases h
            · cases hb
          · cases hb
        · rename_i t rest hty
          have hty0 : c.argTypes[0]? = some t := by rw [← Array.getElem?_toList, hty]; rfl
          split at hb
          · rename_i e hu
            cases hb
            simp only [evalP, pCap] at h
            split at h
            · cases h
              refine ⟨hres _ (fun _ => rfl) ?_, trivial⟩
              simp only [Builtin.cap_, hty0, cvl, cv, List.getElem?_toArray, List.getElem?_cons_zero, Sem.run_bind, run_underlying hu, Result.andThen_ok, goInt, Sem.run_pure]
              rfl
            · cases h
              refine ⟨hres _ (fun _ => rfl) ?_, trivial⟩
              simp only [Builtin.cap_, hty0, cvl, cv, List.getElem?_toArray, List.getElem?_cons_zero, Sem.run_bind, run_underlying hu, Result.andThen_ok, goInt, Sem.run_pure]
              rfl
            · cases h
          · cases hb
        · split at hb <;> first | (cases hb; done) | (split at hb <;> cases hb)
        · split at hb <;> first | (cases hb; done) | (split at hb <;> cases hb)
        · split at hb <;> first | (cases hb; done) | (split at hb <;> first | (cases hb; done) | (split at hb <;> cases hb))
        · cases hb
          simp only [evalP, pMin] at h
          split at h
          · cases h
            refine ⟨hres _ (fun _ => rfl) ?_, trivial⟩
            simp [Builtin.min_, Builtin.min2, cvl, cv]
          · cases h
        · cases hb
          simp only [evalP, pMax] at h
          split at h
          · cases h
            refine ⟨hres _ (fun _ => rfl) ?_, trivial⟩
            simp [Builtin.max_, Builtin.max2, cvl, cv]
          · cases h
        · cases hb
      · cases ht
    · cases ht
  all_goals first
    | (cases ht; done)
    | (repeat' (split at ht)) <;> first | (cases ht; done) | (obtain ⟨_, ht⟩ := kn_some ht; cases ht; done)
end
end Go.Am

namespace Go.Am
set_option linter.unusedSimpArgs false
set_option linter.unusedVariables false
open Go.RowKit (Below)
section
variable {P : Program} {w w0 : World} {ι : Inj} {base : Base} {H : Heap} {ρ : Operand → Value}
theorem cells?_inv {id : Nat} {cs : List V} (h : H.cells? id = some cs) :
    ∃ room fam ver wr pl st fr la, H.blk.get id = some (.mem cs room fam ver wr pl st) ∧ H.fams.get fam = some (fr, la) ∧ fr ≤ ver := by
  unfold Heap.cells? at h
  split at h
  · rename_i cs' room fam ver wr pl st hb
    split at h
    · rename_i fr la hf
      cases hv : Nat.ble fr ver with
      | false => rw [hv] at h; cases h
      | true =>
        rw [hv] at h
        cases h
        exact ⟨room, fam, ver, wr, pl, st, fr, la, hb, hf, Nat.le_of_ble_eq_true hv⟩
    · cases h
  · cases h
theorem MRel.cell (hM : MRel ι base w0 H w) {id : Nat} {cs : List V} (h : H.cells? id = some cs) :
    VsOk H cs ∧ ∀ (j : Nat) (v : V), cs[j]? = some v → w.cell? ⟨(ι id).1, (ι id).2 + j, none⟩ = some (cv ι v) := by
  obtain ⟨room, fam, ver, wr, pl, st, fr, la, hb, hf, hle⟩ := cells?_inv h
  obtain ⟨c, el, lo, up, h1, h2, h3, h4⟩ := hM.ok _ _ _ _ _ _ _ _ _ _ hb hf hle
  exact ⟨(hM.cells _ _ _ _ _ _ _ _ hb).2, fun j v hv => by rw [cell_of_row w _ _ c el (lo, up) h1]; exact h3 j v hv⟩
theorem takeN_spec : ∀ (n : Nat) (l r : List V), takeN n l = some r → r = l.take n ∧ n ≤ l.length := by
  intro n
  induction n with
  | zero => intro l r h; simp only [takeN, Option.some.injEq] at h; subst h; simp
  | succ n ih =>
    intro l r h
    cases l with
    | nil => simp [takeN] at h
    | cons v l =>
      simp only [takeN] at h
      split at h
      · rename_i r' hr
        cases h
        obtain ⟨h1, h2⟩ := ih l r' hr
        subst h1
        exact ⟨rfl, by simpa using h2⟩
      · cases h
theorem loads_inv {id off n : Nat} {cs : List V} (h : H.loads id off n = some cs) : ∃ all, H.cells? id = some all ∧ cs = (all.drop off).take n ∧ cs.length = n := by
  unfold Heap.loads at h
  split at h
  · rename_i all ha
    obtain ⟨h1, h2⟩ := takeN_spec _ _ _ h
    exact ⟨all, ha, h1, by rw [h1, List.length_take]; omega⟩
  · cases h
theorem MRel.load (hM : MRel ι base w0 H w) {id off : Nat} {v : V} (h : H.load id off = some v) :
    VOk H v ∧ w.cell? ⟨(ι id).1, (ι id).2 + off, none⟩ = some (cv ι v) := by
  unfold Heap.load at h
  split at h
  · rename_i cs hc
    obtain ⟨h1, h2⟩ := hM.cell hc
    exact ⟨(VsOk_iff H cs).1 h1 v (List.mem_of_getElem? h), h2 _ _ h⟩
  · cases h
theorem MRel.loads (hM : MRel ι base w0 H w) {id off n : Nat} {cs : List V} (h : H.loads id off n = some cs) :
    VsOk H cs ∧ cs.length = n ∧ (∀ (j : Nat) (v : V), cs[j]? = some v → w.cell? ⟨(ι id).1, (ι id).2 + off + j, none⟩ = some (cv ι v)) ∧
      (loadCells ⟨(ι id).1, (ι id).2 + off, none⟩ n).run P w = .ok (cvl ι cs).toArray w := by
  obtain ⟨all, h1, h2, h3⟩ := loads_inv h
  obtain ⟨k1, k2⟩ := hM.cell h1
  have hc : ∀ (j : Nat) (v : V), cs[j]? = some v → w.cell? ⟨(ι id).1, (ι id).2 + off + j, none⟩ = some (cv ι v) := by
    intro j v hv
    rw [h2] at hv
    have hlt : j < n := by
      have := (List.getElem?_eq_some_iff.1 hv).1
      rw [List.length_take] at this
      omega
    rw [List.getElem?_take_of_lt hlt, List.getElem?_drop] at hv
    rw [Nat.add_assoc]
    exact k2 _ _ hv
  refine ⟨?_, h3, hc, ?_⟩
  · rw [VsOk_iff] at k1 ⊢
    intro v hv
    rw [h2] at hv
    exact k1 v (List.mem_of_mem_drop (List.mem_of_mem_take hv))
  · have hl : (cvl ι cs).length = n := by rw [cvl_length, h3]
    rw [← hl]
    refine run_loadCells_list w _ _ fun j v hv => ?_
    rw [cvl_get] at hv
    cases hj : cs[j]? with
    | none => rw [hj] at hv; cases hv
    | some u =>
      rw [hj] at hv
      cases hv
      rw [add_addr]
      exact hc j u hj
theorem bytesOf_spec : ∀ (cs : List V) (s : List UInt8), bytesOf cs = some s → ∃ ns : List Int, cs = ns.map (V.int .u8) ∧ s = ns.map fun n => UInt8.ofNat n.toNat := by
  intro cs
  induction cs with
  | nil => intro s h; simp only [bytesOf, Option.some.injEq] at h; subst h; exact ⟨[], rfl, rfl⟩
  | cons c cs ih =>
    intro s h
    unfold bytesOf at h
    split at h
    · rename_i heq; cases heq
    · rename_i n l heq
      cases heq
      split at h
      · rename_i r hr
        cases h
        obtain ⟨ns, h1, h2⟩ := ih r hr
        exact ⟨n :: ns, by rw [h1]; rfl, by rw [h2]; rfl⟩
      · cases h
    · cases h
theorem foldl_push (ns : List Int) : ∀ (s : List UInt8), ns.foldl (fun (r : ByteArray) n => r.push (UInt8.ofNat n.toNat)) ⟨s.toArray⟩ = ⟨(s ++ ns.map fun n => UInt8.ofNat n.toNat).toArray⟩ := by
  induction ns with
  | nil => intro s; simp
  | cons n ns ih =>
    intro s
    simp only [List.foldl_cons, List.map_cons]
    have : (ByteArray.mk s.toArray).push (UInt8.ofNat n.toNat) = ⟨(s ++ [UInt8.ofNat n.toNat]).toArray⟩ := by
      apply ByteArray.ext
      simp [ByteArray.push]
    rw [this, ih]
    simp
theorem sameAddr_other {a b : Addr} {ca cb : Array Value} {ta tb : TypeId} {la lb : Nat} (hne : a.block ≠ b.block) (ha : w.heap[a.block]? = some (.cells ca ta (la, la))) (hb : w.heap[b.block]? = some (.cells cb tb (lb, lb))) :
    (sameAddr a b).run P w = .ok false w := by
  have fz : ∀ {x : Addr} {c : Array Value} {t : TypeId} {l : Nat}, w.heap[x.block]? = some (.cells c t (l, l)) → w.frozen? x = false := by
    intro x c t l h
    unfold World.frozen?
    rw [h]
    simp; try omega
  have fa := fz ha
  have fb := fz hb
  have fa2 : w.frozen? ⟨a.block, ca.size, none⟩ = false := fz (x := ⟨a.block, ca.size, none⟩) ha
  have fb2 : w.frozen? ⟨b.block, cb.size, none⟩ = false := fz (x := ⟨b.block, cb.size, none⟩) hb
  simp [sameAddr, hne, fa, fb, fa2, fb2, ha, hb, noView, viewAt, World.shape?, mayBeOne, stringish]
theorem famOf_some {H : Heap} {id f : Nat} (h : famOf H id = some f) : ∃ cs room ver st fr la, H.blk.get id = some (.mem cs room f ver true true st) ∧ H.fams.get f = some (fr, la) ∧ fr ≤ ver := by
  unfold famOf at h
  split at h
  · rename_i cs room fam ver st hb
    split at h
    · rename_i fr la hf
      cases hl : Nat.ble fr ver with
      | true =>
        rw [hl] at h
        cases h
        exact ⟨cs, room, ver, st, fr, la, hb, hf, Nat.le_of_ble_eq_true hl⟩
      | false => rw [hl] at h; cases h
    · cases h
  · cases h
theorem peq_equal (hM : MRel ι base w0 H w) {t e : TypeId} (hu : P.underlying t = some (.pointer e)) (hz : P.cellsOf e ≠ 0) {d : TypeDesc} (hd : P.underlying e = some d) {neg : Bool} {a c v : V} (h : lPeq neg [a, c] H = some v) :
    ∃ bb, v = .bool (bb != neg) ∧ (∃ x y, cv ι a = .pointer x ∧ cv ι c = .pointer y) ∧ (Go.Op.equal t (cv ι a) (cv ι c)).run P w = .ok bb w := by
  have eq3 : ∀ (d' : Nat) (x y : Option Addr) (bb : Bool), ((x = none ∧ bb = y.isNone) ∨ (y = none ∧ x ≠ none ∧ bb = false) ∨ ∃ A B, x = some A ∧ y = some B ∧ (sameAddr A B).run P w = .ok bb w) → (Go.Op.equalIn (d' + 1) t (.pointer x) (.pointer y)).run P w = .ok bb w := by
    intro d' x y bb h
    rcases h with ⟨rfl, rfl⟩ | ⟨rfl, hx, rfl⟩ | ⟨A, B, rfl, rfl, hs⟩
    · simp only [Go.Op.equalIn, Sem.run_bind, run_underlying hu, Result.andThen_ok, Sem.run_pure]
    · obtain ⟨A, rfl⟩ : ∃ A, x = some A := by cases x with | none => exact absurd rfl hx | some A => exact ⟨A, rfl⟩
      simp only [Go.Op.equalIn, Sem.run_bind, run_underlying hu, Result.andThen_ok, Sem.run_pure]
    · simp only [Go.Op.equalIn, Sem.run_bind, run_underlying hu, Result.andThen_ok, run_sizeOf_any e d hd, ne_eq, hz, not_false_eq_true, if_true, hs]
  have eq2 : ∀ (x y : Option Addr) (bb : Bool), ((x = none ∧ bb = y.isNone) ∨ (y = none ∧ x ≠ none ∧ bb = false) ∨ ∃ A B, x = some A ∧ y = some B ∧ (sameAddr A B).run P w = .ok bb w) → (Go.Op.equal t (.pointer x) (.pointer y)).run P w = .ok bb w := by
    intro x y bb h
    simp only [Go.Op.equal, Go.Op.maxDepth]
    exact eq3 9999 x y bb h
  unfold lPeq at h
  split at h
  · rename_i e1
    cases e1; cases h
    exact ⟨true, rfl, ⟨_, _, rfl, rfl⟩, eq2 _ _ _ (.inl ⟨rfl, rfl⟩)⟩
  · rename_i e1
    cases e1; cases h
    exact ⟨false, rfl, ⟨_, _, rfl, rfl⟩, eq2 _ _ _ (.inl ⟨rfl, rfl⟩)⟩
  · rename_i e1
    cases e1; cases h
    exact ⟨false, rfl, ⟨_, _, rfl, rfl⟩, eq2 _ _ _ (.inr (.inl ⟨rfl, by simp, rfl⟩))⟩
  · rename_i i o j o' e1
    cases e1
    cases hij : Nat.beq i j with
    | true =>
      rw [hij] at h
      cases h
      have := Nat.eq_of_beq_eq_true hij
      subst this
      refine ⟨Nat.beq o o', rfl, ⟨_, _, rfl, rfl⟩, eq2 _ _ _ (.inr (.inr ⟨_, _, rfl, rfl, ?_⟩))⟩
      have e2 : ((⟨(ι i).1, (ι i).2 + o, none⟩ : Addr) == ⟨(ι i).1, (ι i).2 + o', none⟩) = Nat.beq o o' := by
        rw [Bool.eq_iff_iff]
        simp
      simp [sameAddr, e2]
    | false =>
      rw [hij] at h
      simp only [cond_false] at h
      split at h
      · rename_i f g hf hg
        cases hfg : Nat.beq f g with
        | true => rw [hfg] at h; cases h
        | false =>
          rw [hfg] at h
          cases h
          obtain ⟨cs, room, ver, st, fr, la, b1, b2, b3⟩ := famOf_some hf
          obtain ⟨cs', room', ver', st', fr', la', c1, c2, c3⟩ := famOf_some hg
          have hne : (ι i).1 ≠ (ι j).1 := fun e => by
            have := hM.sep _ _ _ _ _ _ _ _ _ _ _ _ _ _ _ _ _ _ _ b1 b2 b3 c1 c2 c3 e
            subst this
            rw [Nat.beq_refl] at hfg
            cases hfg
          obtain ⟨ca, ta, la1, p1⟩ := hM.plok _ _ _ _ _ _ _ _ _ b1 b2 b3 rfl
          obtain ⟨cb, tb, lb1, p2⟩ := hM.plok _ _ _ _ _ _ _ _ _ c1 c2 c3 rfl
          exact ⟨false, rfl, ⟨_, _, rfl, rfl⟩, eq2 _ _ _ (.inr (.inr ⟨_, _, rfl, rfl, sameAddr_other (a := ⟨(ι i).1, (ι i).2 + o, none⟩) (b := ⟨(ι j).1, (ι j).2 + o', none⟩) hne p1 p2⟩))⟩
      · cases h
  · cases h
theorem lop_sound (hM : MRel ι base w0 H w) (op : Go.Op) (o : LOp) (xs : List Operand) (vs : List V) (v : V) (dst : Option Tmp) (ty : TypeId) (pos : String) (after : Array Edge) (guard : Option (Nat × Bool))
    (ht : trOp P op = some (.l o, xs)) (hx : xs.map ρ = cvl ι vs) (h : evalL o vs H = some v) :
    (execOp ρ ⟨dst, op, ty, pos, after, guard⟩).run P w = .ok (.value (cv ι v)) w ∧ VOk H v := by
  cases op <;> simp only [trOp] at ht
  case load t x =>
    obtain ⟨⟨d, hd⟩, ht⟩ := kn_some ht
    cases ht
    obtain ⟨a, rfl, ha⟩ := map1 hx
    unfold aggN at h
    cases hag : aggT P t with
    | false =>
      simp only [hag, Bool.false_eq_true, if_false, evalL, lLoad, lLoad1] at h
      split at h
      · rename_i id off heq2
        cases heq2
        obtain ⟨h1, h2⟩ := hM.load h
        refine ⟨?_, h1⟩
        simp only [execOp, ha, cv, Instr.loadAt, Instr.sureAddr, loadVar, Sem.run_bind, Sem.run_pure, Result.andThen_ok, run_isAgg_any t d hd, hag, Bool.false_eq_true, if_false, run_load, h2]
      · cases h
    | true =>
      simp only [hag, if_true, evalL, lLoad, lLoadN] at h
      split at h
      · rename_i id off heq2
        cases heq2
        split at h
        · rename_i cs hcs
          cases h
          obtain ⟨h1, h2, h3, h4⟩ := hM.loads (P := P) hcs
          refine ⟨?_, h1⟩
          simp only [execOp, ha, cv, Instr.loadAt, Instr.sureAddr, loadVar, Sem.run_bind, Sem.run_pure, Result.andThen_ok, run_isAgg_any t d hd, hag, if_true, run_sizeOf_any t d hd, h4]
        · cases h
      · cases h
  case convert s t x =>
    split at ht
    · cases ht
    · cases ht
    · cases ht
    · split at ht <;> cases ht
    · split at ht <;> cases ht
    · rename_i e hs hk
      split at ht
      · rename_i hu8
        cases ht
        obtain ⟨a, rfl, ha⟩ := map1 hx
        have he : P.underlying e = some (.int .u8) := by
          unfold u8T at hu8
          split at hu8
          · rename_i hh; exact hh
          · cases hu8
        simp only [evalL, lBytesStr] at h
        split at h
        · cases h
          rename_i heq2
          cases heq2
          refine ⟨?_, trivial⟩
          simp only [execOp, ha, cv, convert, Sem.run_bind, run_underlying hs, run_underlying hk, run_underlying he, Result.andThen_ok, Conv.bytesToString, Sem.run_pure]
          rfl
        · rename_i id off len clo ex z heq2
          cases heq2
          cases hz : Nat.beq z 1 with
          | false => simp only [hz, cond_false] at h; cases h
          | true =>
            simp only [hz, cond_true] at h
            split at h
            · rename_i cs hcs
              split at h
              · rename_i st hst
                cases h
                obtain ⟨h1, h2, h3, h4⟩ := hM.loads (P := P) hcs
                obtain ⟨ns, rfl, rfl⟩ := bytesOf_spec _ _ hst
                refine ⟨?_, trivial⟩
                have hb := run_bytesToString (P := P) w ⟨(ι id).1, (ι id).2 + off, none⟩ len (clo + ex.getD 0) ns (by rw [h4]; simp [cvl_eq, cv])
                rw [show (ByteArray.empty) = ⟨([] : List UInt8).toArray⟩ from rfl, foldl_push] at hb
                simp only [execOp, ha, cv, convert, Sem.run_bind, run_underlying hs, run_underlying hk, run_underlying he, Result.andThen_ok, hb, Sem.run_pure]
                rfl
              · cases h
            · cases h
        · cases h
      · cases ht
    · cases ht
  case call c =>
    split at ht
    · split at ht <;> cases ht
    · cases ht
    · rename_i b hc
      split at ht
      · rename_i o' hb
        cases ht
        exfalso
        unfold trBuiltin at hb
        repeat' (split at hb)
        all_goals cases hb
      · cases ht
    · cases ht
  case binOp b t x y ty2 =>
    split at ht
    · cases ht
    · cases ht
    · rename_i e hu
      have main : ∀ (neg : Bool) (bo : BinOp), bo = (if neg then .neq else .eql) → (P.cellsOf e = 0 ∨ (P.underlying e).isNone) = False → (o, xs) = (.peq neg, [x, y]) → (execOp ρ ⟨dst, .binOp bo t x y ty2, ty, pos, after, guard⟩).run P w = .ok (.value (cv ι v)) w ∧ VOk H v := by
        rintro neg bo rfl hc he
        cases he
        have hc : ¬ (P.cellsOf e = 0 ∨ (P.underlying e).isNone) := by rw [hc]; exact not_false
        obtain ⟨d, hd⟩ : ∃ d, P.underlying e = some d := by
          cases hh : P.underlying e with
          | none => exact absurd (.inr (by rw [hh]; rfl)) hc
          | some d => exact ⟨d, rfl⟩
        obtain ⟨a, c, rfl, ha, hc'⟩ := map2 hx
        simp only [evalL] at h
        obtain ⟨bb, rfl, ⟨p, q, e1, e2⟩, h1⟩ := peq_equal (P := P) hM hu (fun hz => hc (.inl hz)) hd h
        refine ⟨?_, trivial⟩
        have hg : ∀ bo, eqGuard bo t x y (cv ι a) (cv ι c) = pure () := fun bo => by rw [e1, e2]; cases bo <;> rfl
        have hpl : Plainly (cv ι a) (cv ι c) := by
          rw [e1, e2]
          refine ⟨?_, ?_, ?_, ?_⟩ <;> (intros; rintro ⟨h1, h2⟩; cases h1)
        have hbin : (binOp (if neg then .neq else .eql) t (cv ι a) (cv ι c)).run P w = .ok (.bool (bb != neg)) w := by
          cases neg
          · rw [Bool.bne_false]; exact binOp_eql_run hpl h1
          · rw [Bool.bne_true]; exact binOp_neq_run hpl h1
        simp only [execOp, ha, hc', Sem.run_bind, hg, Sem.run_pure, Result.andThen_ok, hbin]
        rfl
      split at ht
      · split at ht
        · cases ht
        · rename_i hc; cases ht; exact main false _ rfl (by simpa using hc) rfl
      · split at ht
        · cases ht
        · rename_i hc; cases ht; exact main true _ rfl (by simpa using hc) rfl
      · cases ht
    · split at ht <;> cases ht
  case next x b => cases b <;> simp only at ht <;> cases ht
  case makeFunc fn first captured => cases fn <;> simp only at ht <;> cases ht
  all_goals first
    | (cases ht; done)
    | (repeat' (split at ht)) <;> first | (cases ht; done) | (obtain ⟨_, ht⟩ := kn_some ht; cases ht; done)
end
end Go.Am

namespace Go.Am
set_option linter.unusedSimpArgs false
set_option linter.unusedVariables false
open Go.RowKit (Below)
section
variable {P : Program} {w w0 : World} {ι : Inj} {base : Base} {H : Heap} {ρ : Operand → Value}
def EffOk (base : Base) (w0 : World) (ι : Inj) (H : Heap) (f : Tape → Option (V × Heap × Tape)) (r : Result Next) : Prop :=
  ∃ nx v w' ι' H' pre, r = .ok nx w' ∧ (nx = .value (cv ι' v) ∨ (nx = .skip ∧ v = .tup [])) ∧ (∀ τ, f (Tape.app pre τ) = some (v, H', τ)) ∧ MRel ι' base w0 H' w' ∧ Ext H ι ι' ∧ Evol H H' ∧ VOk H' v
theorem repl_length (n : Nat) (l : List V) : (repl n l).length = n * l.length := by
  simp [repl]
theorem repl_get (l : List V) : ∀ (n j : Nat), j < n * l.length → (repl n l)[j]? = l[j % l.length]? := by
  intro n
  induction n with
  | zero => intro j h; simp at h
  | succ n ih =>
    intro j h
    have hl : 0 < l.length := by
      rcases Nat.eq_zero_or_pos l.length with e | e
      · rw [e] at h; simp at h
      · exact e
    rw [repl, List.replicate_succ, List.flatten_cons]
    rcases Nat.lt_or_ge j l.length with hj | hj
    · rw [List.getElem?_append_left hj, Nat.mod_eq_of_lt hj]
    · rw [List.getElem?_append_right hj]
      have := ih (j - l.length) (by rw [Nat.succ_mul] at h; omega)
      rw [repl] at this
      rw [this]
      congr 1
      exact (Nat.mod_eq_sub_mod hj).symm
theorem zeros_eq (ι : Inj) (z : List V) (n : Nat) (hz : z.length ≠ 0) :
    (Array.range (n * z.length)).map ((cvl ι z).toArray[· % (cvl ι z).toArray.size]!) = (cvl ι (repl n z)).toArray := by
  apply Array.ext_getElem?
  intro j
  have hs : (cvl ι z).toArray.size = z.length := by rw [List.size_toArray, cvl_length]
  rcases Nat.lt_or_ge j (n * z.length) with hj | hj
  · have hm : j % z.length < z.length := Nat.mod_lt _ (by omega)
    simp only [Array.getElem?_map, Array.getElem?_range, hj, if_true, Option.map_some, List.getElem?_toArray, cvl_get, repl_get z n j hj, hs]
    rw [getElem!_pos _ _ (by rw [hs]; exact hm)]
    have : z[j % z.length]? = some (z[j % z.length]'hm) := List.getElem?_eq_getElem hm
    rw [this]
    simp [cvl_eq]
  · rw [Array.getElem?_eq_none (by simpa using hj), Array.getElem?_eq_none (by rw [List.size_toArray, cvl_length, repl_length]; exact hj)]
theorem repl_ok {H : Heap} {z : List V} (n : Nat) (h : VsOk H z) : VsOk H (repl n z) := by
  rw [VsOk_iff] at h ⊢
  intro v hv
  simp only [repl, List.mem_flatten, List.mem_replicate] at hv
  obtain ⟨l, ⟨_, rfl⟩, hv⟩ := hv
  exact h v hv
theorem cells_rel (ι : Inj) (l : List V) : ∀ (j : Nat) (v : V), l[j]? = some v → (cvl ι l).toArray[j]? = some (cv ι v) := fun j v hv => by simp [cvl_get, hv]
theorem elemOk_spec {e : TypeId} (h : elemOk P e = true) : ∃ z d, zeroT P e = some z ∧ z.length = P.cellsOf e ∧ P.cellsOf e ≠ 0 ∧ P.underlying e = some d := by
  unfold elemOk at h
  split at h
  · rename_i z hz
    simp only [Bool.and_eq_true, beq_iff_eq, bne_iff_ne, ne_eq] at h
    obtain ⟨d, hd⟩ := Option.isSome_iff_exists.1 h.2
    exact ⟨z, d, hz, h.1.1, h.1.2, hd⟩
  · cases h
theorem run_bytes {e : TypeId} {d : TypeDesc} (h : P.underlying e = some d) (w : World) : ∃ i, (typeInfo e).run P w = .ok i w ∧ i.bytes = P.bytesOf e := by
  obtain ⟨i, hi⟩ := info_some e d h
  exact ⟨i, by simp [typeInfo, hi], by simp [Program.bytesOf, hi]⟩
theorem run_newRow (e : TypeId) (cs : Array Value) : (newRow e cs).run P w = .ok ⟨w.heap.size, 0, none⟩ (w.alloc (.cells cs e)) := by
  simp only [newRow, Sem.run_bind, run_newObj, Result.andThen_ok, Sem.run_pure]
  rfl
theorem MRel.stores (hM : MRel ι base w0 H w) {id off : Nat} {vs : List V} {H' : Heap} (hvs : VsOk H vs) (h : H.stores id off vs = some H') :
    ∃ w', (storeCells ⟨(ι id).1, (ι id).2 + off, none⟩ (cvl ι vs)).run P w = .ok () w' ∧ MRel ι base w0 H' w' ∧ Evol H H' := by
  unfold Heap.stores at h
  split at h
  · cases h
    exact ⟨w, rfl, hM, Evol.refl H⟩
  · rename_i hne
    cases hs : vs.all V.scal with
    | false => rw [hs] at h; cases h
    | true =>
      rw [hs, cond_true] at h
      obtain ⟨cs, room, fam, ver, pl, st, fr, cs', hg, hf, hle, hov, rfl⟩ := write_inv h
      have hr : H.room? id = room := by simp only [Heap.room?, hg]
      rw [hr] at hov
      obtain ⟨c, el, lo, hi, h1, h2, h3, h4, h5⟩ := hM.write hg hf hle off vs cs' (fun e => hne e) hov hvs
      refine ⟨_, ?_, h4, h5⟩
      have := run_storeCells_gen P (ι id).1 ((ι id).2 + off) el lo hi (cvl ι vs) 0 c w h1 (by rw [cvl_length]; omega) h3 (by
        intro v hv
        rw [cvl_eq, List.mem_map] at hv
        obtain ⟨u, hu, rfl⟩ := hv
        exact oneCell_scal ι u (List.all_eq_true.1 hs u hu))
      simpa using this
theorem run_choose_cap (need old : Nat) (e : TypeId) : ∃ t, (choose (.appendCap need old e)).run P w = .ok (need + spare need t) w.drew := by
  refine ⟨w.tape w.drawn (.appendCap need old e), ?_⟩
  rw [run_choose]
  simp only [Question.forced, Bool.false_eq_true, if_false, Question.cut, spare]
  rfl
theorem srcLen_ok {x : V} {n : Nat} (h : srcLen x = some n) (w : World) : (Builtin.lenOf (cv ι x)).run P w = .ok n w := by
  unfold srcLen at h
  split at h <;> first | (cases h; done) | skip
  · cases h; rfl
  · cases h; rfl
  · cases h
    simp only [cv, Builtin.lenOf, Sem.run_pure, ByteArray.size, List.size_toArray]
theorem MRel.src (hM : MRel ι base w0 H w) {z n : Nat} {x : V} {new : List V} (h : srcCells H z n x = some new) (hn : ∀ m, srcLen x = some m → n ≤ m) :
    (Builtin.firstCells z n (cv ι x)).run P w = .ok (cvl ι new).toArray w ∧ VsOk H new ∧ ((x = .nils → n = 0) → new.length = n * z) := by
  unfold srcCells at h
  split at h
  · cases h
    exact ⟨rfl, trivial, fun hx => by rw [hx rfl]; simp⟩
  · rename_i id off len lo ex z'
    cases hz : Nat.beq z z' with
    | false => rw [hz] at h; cases h
    | true =>
      rw [hz] at h
      obtain ⟨h1, h2, h3, h4⟩ := hM.loads (P := P) h
      exact ⟨h4, h1, fun _ => h2⟩
  · rename_i s
    cases hz : Nat.beq z 1 with
    | false => rw [hz] at h; cases h
    | true =>
      rw [hz] at h
      cases h
      have := Nat.eq_of_beq_eq_true hz
      subst this
      have hle := hn s.length rfl
      refine ⟨?_, ?_, fun _ => by simp only [List.length_map, List.length_take]; omega⟩
      · simp only [cv, Builtin.firstCells, Sem.run_pure, extract_take, List.drop_zero]
        congr 1
        apply Array.ext'
        simp only [cvl_eq, List.map_map]
        simp
        congr 1
      · rw [VsOk_iff]
        intro v hv
        rw [List.mem_map] at hv
        obtain ⟨c, _, rfl⟩ := hv
        trivial
  · cases h
theorem growBy_le (need : Nat) : ∀ (r c : Nat), Builtin.growBy need r c ≤ max c (need + (need + 768) / 4) := by
  intro r
  induction r with
  | zero => intro c; simp only [Builtin.growBy]; omega
  | succ r ih =>
    intro c
    simp only [Builtin.growBy]
    split
    · omega
    · have := ih (c + (c + 768) / 4)
      omega
theorem next_le {need cap : Nat} (h : cap < need) : Builtin.nextslicecap need cap ≤ 2 * need := by
  unfold Builtin.nextslicecap
  split
  · omega
  · split
    · omega
    · have := growBy_le need 4 cap
      omega
theorem next_room {need cap bytes : Nat} (h : cap < need) (h1 : need * bytes ≤ 140737488355328) : ¬ Builtin.nextslicecap need cap * bytes > 2 ^ 48 := by
  have h2 := next_le h
  have h4 := Nat.mul_le_mul_right bytes h2
  have h5 : 2 * need * bytes = 2 * (need * bytes) := by rw [Nat.mul_assoc]
  omega
theorem zeroCells_size (zero : Array Value) (n : Nat) : (Builtin.zeroCells zero n).size = n * zero.size := by simp [Builtin.zeroCells]
theorem run_append_fits {e : TypeId} {d : TypeDesc} (hd : P.underlying e = some d) {sT xT ty : TypeId} {argTypes : Array TypeId} {dx : TypeDesc}
    (ha0 : argTypes[0]? = some sT) (ha1 : argTypes[1]? = some xT) (hs : P.underlying sT = some (.slice e)) (hdx : P.underlying xT = some dx) (hni : ∀ k, dx ≠ .int k)
    {bs : Option Addr} {sLen sCap n : Nat} {X : Value} {nw : Array Value} {w' : World} (hlen : (Builtin.lenOf X).run P w = .ok n w)
    (hfirst : (Builtin.firstCells (P.cellsOf e) n X).run P w = .ok nw w) (hle : sLen + n ≤ sCap)
    (hst : match bs with | some a => (storeCells (a.add (sLen * P.cellsOf e)) nw.toList).run P w = .ok () w' | none => w' = w) :
    (Builtin.append_ argTypes ty #[.slice bs sLen sCap, X]).run P w = .ok (.slice bs (sLen + n) sCap) w' := by
  have hz : ((dx matches .int _) : Bool) = false := by cases dx <;> first | rfl | exact absurd rfl (hni _)
  unfold Builtin.append_
  simp only [ha0, ha1, List.getElem?_toArray, List.getElem?_cons_zero, List.getElem?_cons_succ, Sem.run_bind, run_underlying hs, run_underlying hdx, Result.andThen_ok, run_sizeOf_any e d hd, Sem.run_pure]
  cases dx with
  | int k => exact absurd rfl (hni k)
  | _ =>
    simp only [Bool.false_eq_true, if_false, hlen, Result.andThen_ok, hle, if_true, Bool.not_false, Sem.run_bind, hfirst]
    cases bs with
    | none => subst hst; rfl
    | some a => simp only [Sem.run_bind, hst, Result.andThen_ok, Sem.run_pure]
theorem run_append_grows {e : TypeId} {d : TypeDesc} (hd : P.underlying e = some d) {zv : Value} (hzv : ∀ w, (zeroValue e).run P w = .ok zv w) {sT xT ty : TypeId} {argTypes : Array TypeId} {dx : TypeDesc}
    (ha0 : argTypes[0]? = some sT) (ha1 : argTypes[1]? = some xT) (hs : P.underlying sT = some (.slice e)) (hdx : P.underlying xT = some dx) (hni : ∀ k, dx ≠ .int k)
    {bs : Option Addr} {sLen sCap n : Nat} {X : Value} {old nw : Array Value} (hlen : (Builtin.lenOf X).run P w = .ok n w)
    (hold : (Builtin.firstCells (P.cellsOf e) sLen (.slice bs sLen sCap)).run P w.drew = .ok old w.drew)
    (hfirst : (Builtin.firstCells (P.cellsOf e) n X).run P w.drew = .ok nw w.drew) (hgt : sCap < sLen + n) (hb : (sLen + n) * P.bytesOf e ≤ 140737488355328) (hn : sLen + n ≤ 140737488355328) :
    ∃ t, (Builtin.append_ argTypes ty #[.slice bs sLen sCap, X]).run P w =
      .ok (.slice (some ⟨w.heap.size, 0, none⟩) (sLen + n) (sLen + n + spare (sLen + n) t)) (w.drew.alloc (.cells (old ++ nw ++ Builtin.zeroCells zv.cells (spare (sLen + n) t)) e)) := by
  obtain ⟨t, ht⟩ := run_choose_cap (P := P) (w := w) (sLen + n) sCap e
  refine ⟨t, ?_⟩
  obtain ⟨i, hi, hbytes⟩ := run_bytes hd w
  obtain ⟨i', hi', _⟩ := run_bytes hd w.drew
  have hroom := next_room hgt hb
  have hbig : ¬ (((sLen + n : Nat) : Int) > IntKind.i64.max) := by rw [IntKind.max_i64]; omega
  unfold Builtin.append_
  simp only [ha0, ha1, List.getElem?_toArray, List.getElem?_cons_zero, List.getElem?_cons_succ, Sem.run_bind, run_underlying hs, run_underlying hdx, Result.andThen_ok, run_sizeOf_any e d hd, Sem.run_pure]
  cases dx with
  | int k => exact absurd rfl (hni k)
  | _ =>
    simp only [Bool.false_eq_true, if_false, hlen, Result.andThen_ok, Nat.not_le.2 hgt, Bool.not_false, if_true, Sem.run_bind, hi, hbytes, hbig, false_and, hroom, ht, hi', run_askRoom, hold, hfirst, hzv, run_newRow, Sem.run_pure]
    simp only [Nat.add_sub_cancel_left]
    rfl
end
end Go.Am

namespace Go.Am
set_option linter.unusedSimpArgs false
set_option linter.unusedVariables false
open Go.RowKit (Below)
section
variable {P : Program} {w w0 : World} {ι : Inj} {base : Base} {H : Heap} {ρ : Operand → Value}
theorem fresh_eq (H : Heap) (cells : List V) (len z t : Nat) :
    fresh H cells len z t = (.sl H.size 0 len len (some (spare len t)) z, H.new cells ((len + spare len t) * z) false) := rfl
theorem spare_lt {n t : Nat} (h : n ≤ 140737488355328) : n + spare n t < 9223372036854775808 := by
  have := Nat.mod_lt t (show 0 < 9223372036854775808 - n by omega)
  unfold spare
  omega
theorem spare_of {n c : Nat} (h : n ≤ c) (hc : c < 9223372036854775808) : spare n (c - n) = c - n := Nat.mod_eq_of_lt (by omega)
theorem MRel.fresh (hM : MRel ι base w0 H w) (cells : List V) (len z t : Nat) (c : Array Value) (e : TypeId) (hvs : VsOk H cells) (hlen : cells.length = len * z) (hn : len ≤ 140737488355328)
    (hsz : c.size = (len + spare len t) * z) (hc : ∀ (j : Nat) (v : V), cells[j]? = some v → c[j]? = some (cv ι v)) :
    MRel (upd ι H.size (w.heap.size, 0)) base w0 (fresh H cells len z t).2 (w.alloc (.cells c e)) ∧ Evol H (fresh H cells len z t).2 ∧ VOk (fresh H cells len z t).2 (fresh H cells len z t).1 ∧
      cv (upd ι H.size (w.heap.size, 0)) (fresh H cells len z t).1 = .slice (some ⟨w.heap.size, 0, none⟩) len (len + spare len t) := by
  rw [fresh_eq]
  refine ⟨hM.new cells _ false c e hvs (by rw [hlen]; exact Nat.mul_le_mul_right z (Nat.le_add_right _ _)) (by rw [hsz]; exact Nat.le_refl _) hc, Evol.new hM _ _ _, ?_, ?_⟩
  · refine ⟨Nat.lt_succ_self _, Nat.le_add_right _ _, fun _ => ⟨?_, spare_lt hn⟩⟩
    simp only [Heap.room?, get_new_new, Option.getD_some, Nat.zero_add]
    exact Nat.le_refl _
  · simp only [cv, upd_same, Option.getD_some]
theorem row_cells (ι : Inj) (a b : List V) (r : Array Value) (j : Nat) (v : V) (h : (a ++ b)[j]? = some v) : ((cvl ι a).toArray ++ (cvl ι b).toArray ++ r)[j]? = some (cv ι v) := by
  have hlt : j < (a ++ b).length := (List.getElem?_eq_some_iff.1 h).1
  rw [List.length_append] at hlt
  rw [Array.getElem?_append_left (by simp [cvl_length]; omega)]
  have : (cvl ι a).toArray ++ (cvl ι b).toArray = (cvl ι (a ++ b)).toArray := by simp [cvl_append]
  rw [this]
  exact cells_rel ι _ j v h
theorem append_sound (hM : MRel ι base w0 H w) {e : TypeId} (he : elemOk P e = true) {s x : V} {n : Nat} {new : List V} {sT xT ty : TypeId} {argTypes : Array TypeId}
    (ha0 : argTypes[0]? = some sT) (ha1 : argTypes[1]? = some xT) (hs : P.underlying sT = some (.slice e)) (hx : ∃ d, P.underlying xT = some d ∧ ∀ k, d ≠ .int k)
    (hok : VOk H s) (hlen : srcLen x = some n) (hsrc : srcCells H (P.cellsOf e) n x = some new) (h : ∀ τ, append H (P.cellsOf e) (P.bytesOf e) s n new τ ≠ none) :
    ∃ v w' ι' H' pre, (Builtin.append_ argTypes ty #[cv ι s, cv ι x]).run P w = .ok (cv ι' v) w' ∧ (∀ τ, append H (P.cellsOf e) (P.bytesOf e) s n new (Tape.app pre τ) = some (v, H', τ)) ∧
      MRel ι' base w0 H' w' ∧ Ext H ι ι' ∧ Evol H H' ∧ VOk H' v := by
  obtain ⟨zl, d, hz, hzl, hz0, hd⟩ := elemOk_spec he
  obtain ⟨dx, hdx, hnint⟩ := hx
  obtain ⟨zv, _, hzc, _⟩ := zeroT_sound (P := P) (w := w) ι hz
  have hzrun : ∀ w', (zeroValue e).run P w' = .ok zv w' := fun w' => by
    obtain ⟨zv', h1, h2, _⟩ := zeroT_sound (P := P) (w := w') ι hz
    unfold zeroT at hz
    split at hz
    · rename_i i hi
      split at hz
      · rename_i v hv
        have a1 : ∀ w', (zeroValue e).run P w' = .ok v w' := fun w' => by simp [zeroValue, typeInfo, hi, hv]
        have : v = zv := by
          have := a1 w
          rename_i hzw _ _
          rw [a1 w] at *
          simp_all
        rw [← this]
        exact a1 w'
      · cases hz
    · cases hz
  have hzsz : zv.cells.size = P.cellsOf e := by rw [hzc, List.size_toArray, cvl_length, hzl]
  have hsrcle : ∀ m, srcLen x = some m → n ≤ m := fun m hm => by rw [hlen] at hm; cases hm; exact Nat.le_refl _
  obtain ⟨hfirst, hnew, hnl⟩ := hM.src (P := P) hsrc hsrcle
  have hfirst' := (hM.drew.src (P := P) hsrc hsrcle).1
  have hnl' : new.length = n * P.cellsOf e := hnl fun hx => by subst hx; simp only [srcLen, Option.some.injEq] at hlen; exact hlen.symm
  have hlenr := srcLen_ok (P := P) (ι := ι) hlen w
  have growth : ∀ (s0 : V) (bs : Option Addr) (sLen sCap : Nat) (old : List V), cv ι s0 = .slice bs sLen sCap → VsOk H old → old.length = sLen * P.cellsOf e →
      (Builtin.firstCells (P.cellsOf e) sLen (.slice bs sLen sCap)).run P w.drew = .ok (cvl ι old).toArray w.drew → sCap < sLen + n → (sLen + n) * P.bytesOf e ≤ 140737488355328 → sLen + n ≤ 140737488355328 →
      ∃ t, (Builtin.append_ argTypes ty #[cv ι s0, cv ι x]).run P w = .ok (.slice (some ⟨w.heap.size, 0, none⟩) (sLen + n) (sLen + n + spare (sLen + n) t))
          (w.drew.alloc (.cells ((cvl ι old).toArray ++ (cvl ι new).toArray ++ Builtin.zeroCells zv.cells (spare (sLen + n) t)) e)) ∧
        (∀ (j : Nat) (v : V), (old ++ new)[j]? = some v → ((cvl ι old).toArray ++ (cvl ι new).toArray ++ Builtin.zeroCells zv.cells (spare (sLen + n) t))[j]? = some (cv ι v)) ∧
        ((cvl ι old).toArray ++ (cvl ι new).toArray ++ Builtin.zeroCells zv.cells (spare (sLen + n) t)).size = (sLen + n + spare (sLen + n) t) * P.cellsOf e := by
    intro s0 bs sLen sCap old hs0 hold holdl hrun hgt hb hn
    obtain ⟨t, ht⟩ := run_append_grows (P := P) (w := w) (ty := ty) hd hzrun ha0 ha1 hs hdx hnint hlenr hrun hfirst' hgt hb hn
    refine ⟨t, by rw [hs0]; exact ht, fun j v hv => row_cells ι old new _ j v hv, ?_⟩
    rw [Array.size_append, Array.size_append, List.size_toArray, List.size_toArray, cvl_length, cvl_length, holdl, hnl', zeroCells_size, hzsz]
    rw [Nat.add_mul, Nat.add_mul]
  unfold append at h
  cases s with
  | nils =>
    simp only at h
    cases n with
    | zero =>
      refine ⟨.nils, w, ι, H, [], ?_, fun τ => rfl, hM, Ext.refl _ _, Evol.refl _, trivial⟩
      exact run_append_fits (P := P) (w := w) (ty := ty) hd ha0 ha1 hs hdx hnint hlenr hfirst (Nat.le_refl _) rfl
    | succ n =>
      simp only at h
      cases hb : (Nat.ble ((n + 1) * P.bytesOf e) 140737488355328 && Nat.ble (n + 1) 140737488355328) with
      | false => simp only [hb, cond_false, ne_eq, not_true, forall_const] at h
      | true =>
        have hb' := hb
        simp only [Bool.and_eq_true] at hb'
        have h1 := Nat.le_of_ble_eq_true hb'.1
        have h2 := Nat.le_of_ble_eq_true hb'.2
        obtain ⟨t, hr, hc, hsz⟩ := growth .nils none 0 0 [] rfl trivial (by simp) rfl (by omega) (by rw [Nat.zero_add]; exact h1) (by omega)
        simp only [Nat.zero_add] at hr hsz hc
        obtain ⟨m1, m2, m3, m4⟩ := hM.drew.fresh new (n + 1) (P.cellsOf e) t _ e hnew hnl' h2 hsz (by simpa using hc)
        refine ⟨_, _, _, _, [t], ?_, fun τ => ?_, m1, Ext.upd H ι _, m2, m3⟩
        · rw [m4]; exact hr
        · unfold append
          simp only [hb, cond_true]
          rfl
  | sl id off len lo ex z' =>
    simp only at h
    cases hzz : Nat.beq (P.cellsOf e) z' with
    | false => simp only [hzz, cond_false, ne_eq, not_true, forall_const] at h
    | true =>
      have hzz' := Nat.eq_of_beq_eq_true hzz
      subst hzz'
      simp only [hzz, cond_true] at h
      obtain ⟨k1, k2, k3⟩ := hok
      cases hfit : Nat.ble (len + n) lo with
      | true =>
        have hle := Nat.le_of_ble_eq_true hfit
        simp only [hfit, cond_true] at h
        cases hst : H.stores id (off + len * P.cellsOf e) new with
        | none => simp only [hst, ne_eq, not_true, forall_const] at h
        | some H1 =>
          obtain ⟨w', hr, hM', hev⟩ := hM.stores (P := P) hnew hst
          refine ⟨.sl id off (len + n) lo ex (P.cellsOf e), w', ι, H1, [], ?_, fun τ => ?_, hM', Ext.refl _ _, hev, ?_⟩
          · refine run_append_fits (P := P) (w := w) (ty := ty) hd ha0 ha1 hs hdx hnint hlenr hfirst (by omega) ?_
            simp only [add_addr]
            rw [Nat.add_assoc]
            exact hr
          · unfold append
            simp only [hzz, cond_true, hfit, hst]
            rfl
          · exact VOk.mono hev _ ⟨k1, by omega, k3⟩
      | false =>
        have hgt : lo < len + n := by
          rcases Nat.lt_or_ge lo (len + n) with hh | hh
          · exact hh
          · rw [Nat.ble_eq_true_of_le hh] at hfit; cases hfit
        simp only [hfit, cond_false] at h
        cases hb : (Nat.ble ((len + n) * P.bytesOf e) 140737488355328 && Nat.ble (len + n) 140737488355328) with
        | false => simp only [hb, cond_false, ne_eq, not_true, forall_const] at h
        | true =>
          have hb' := hb
          simp only [Bool.and_eq_true] at hb'
          have h1 := Nat.le_of_ble_eq_true hb'.1
          have h2 := Nat.le_of_ble_eq_true hb'.2
          simp only [hb, cond_true] at h
          cases hold : H.loads id off (len * P.cellsOf e) with
          | none => simp only [hold, ne_eq, not_true, forall_const] at h
          | some old =>
            simp only [hold] at h
            obtain ⟨o1, o2, o3, o4⟩ := hM.loads (P := P) hold
            have o4' := (hM.drew.loads (P := P) hold).2.2.2
            cases ex with
            | none =>
              simp only [Option.getD_none, Nat.add_zero] at k2 k3
              obtain ⟨t, hr, hc, hsz⟩ := growth (.sl id off len lo none (P.cellsOf e)) _ len lo old rfl o1 o2 o4' hgt h1 h2
              have holdnew : VsOk H (old ++ new) := by
                rw [VsOk_iff]; intro v hv
                rcases List.mem_append.1 hv with hv | hv
                · exact (VsOk_iff H _).1 o1 v hv
                · exact (VsOk_iff H _).1 hnew v hv
              obtain ⟨m1, m2, m3, m4⟩ := hM.drew.fresh (old ++ new) (len + n) (P.cellsOf e) t _ e holdnew (by rw [List.length_append, o2, hnl', Nat.add_mul]) h2 hsz hc
              refine ⟨_, _, _, _, [t], ?_, fun τ => ?_, m1, Ext.upd H ι _, m2, m3⟩
              · rw [m4]; exact hr
              · unfold append
                simp only [hzz, cond_true, hfit, cond_false, hb, hold]
                rfl
            | some ee =>
              simp only at h
              obtain ⟨k3a, k3b⟩ := k3 rfl
              simp only [Option.getD_some] at k2 k3a k3b
              cases hg : H.blk.get id with
              | none => simp only [hg, ne_eq, not_true, forall_const] at h
              | some blk =>
                cases blk with
                | iter s p => simp only [hg, ne_eq, not_true, forall_const] at h
                | gone => simp only [hg, ne_eq, not_true, forall_const] at h
                | mem cs room fam ver wr pl st =>
                  cases wr with
                  | false => simp only [hg, ne_eq, not_true, forall_const] at h
                  | true =>
                    simp only [hg] at h
                    cases hf : H.fams.get fam with
                    | none => simp only [hf, ne_eq, not_true, forall_const] at h
                    | some fl =>
                      obtain ⟨fr, la⟩ := fl
                      simp only [hf] at h
                      cases htop : (Nat.beq ver la && (Nat.beq (off + len * P.cellsOf e) cs.length && new.all V.scal)) with
                      | false => simp only [htop, cond_false, ne_eq, not_true, forall_const] at h
                      | true =>
                        have htop' := htop
                        simp only [Bool.and_eq_true] at htop'
                        have e1 := Nat.eq_of_beq_eq_true htop'.1
                        have e2 := Nat.eq_of_beq_eq_true htop'.2.1
                        subst e1
                        obtain ⟨all, c1, c2, c3⟩ := loads_inv hold
                        obtain ⟨room', fam', ver', wr', pl', st', fr', la', g1, g2, g3⟩ := cells?_inv c1
                        rw [hg] at g1
                        injection g1 with g1
                        injection g1 with g4 g5 g6 g7 g8 g9 g10
                        subst g4 g5 g6 g7 g8 g9 g10
                        rw [hf] at g2
                        injection g2 with g2
                        injection g2 with g11 g12
                        subst g11 g12
                        have hroom : H.room? id = room := by simp only [Heap.room?, hg]
                        rw [hroom] at k3a
                        have hdrop : cs.drop off = old := by
                          rw [c2, List.take_of_length_le (by rw [List.length_drop]; omega)]
                        have hcell : (old ++ new).length = (len + n) * P.cellsOf e := by rw [List.length_append, o2, hnl', Nat.add_mul]
                        have hvsn : VsOk H (old ++ new) := by
                          rw [VsOk_iff]; intro v hv
                          rcases List.mem_append.1 hv with hv | hv
                          · exact (VsOk_iff H _).1 o1 v hv
                          · exact (VsOk_iff H _).1 hnew v hv
                        have hsame : ∀ (t : Nat) (τ : Tape), append H (P.cellsOf e) (P.bytesOf e) (.sl id off len lo (some ee) (P.cellsOf e)) n new (Tape.app [t] τ) =
                            some (.sl H.size 0 (len + n) (len + n) (some (spare (len + n) t)) (P.cellsOf e), H.version (old ++ new) ((len + n + spare (len + n) t) * P.cellsOf e) fam fr ver pl, τ) := by
                          intro t τ
                          unfold append
                          simp only [hzz, cond_true, hfit, cond_false, hb, hold, hg, hf, htop]
                          rfl
                        have hvok : ∀ t, VOk (H.version (old ++ new) ((len + n + spare (len + n) t) * P.cellsOf e) fam fr ver pl) (.sl H.size 0 (len + n) (len + n) (some (spare (len + n) t)) (P.cellsOf e)) := by
                          intro t
                          refine ⟨Nat.lt_succ_self _, Nat.le_add_right _ _, fun _ => ⟨?_, spare_lt h2⟩⟩
                          simp only [Heap.room?, Heap.version, T.get_set_same, Option.getD_some, Nat.zero_add]
                          exact Nat.le_refl _
                        rcases Nat.lt_or_ge (lo + ee) (len + n) with hcap | hcap
                        · -- memory of its own
                          obtain ⟨t, hr, hc, hsz⟩ := growth (.sl id off len lo (some ee) (P.cellsOf e)) _ len (lo + ee) old rfl o1 o2 o4' hcap h1 h2
                          have m1 := hM.drew.grow hg hf g3 (old ++ new) ((len + n + spare (len + n) t) * P.cellsOf e) _ e hvsn
                            (by rw [hcell]; exact Nat.mul_le_mul_right _ (Nat.le_add_right _ _)) (by rw [hsz]; exact Nat.le_refl _) hc
                          refine ⟨_, _, _, _, [t], ?_, hsame t, m1, Ext.upd H ι _, Evol.version hM _ _ _ _ _ _ hf, hvok t⟩
                          rw [hr]
                          simp only [cv, upd_same, Option.getD_some]
                          rfl
                        · -- behind the cells that stand
                          have hsp : spare (len + n) (lo + ee - (len + n)) = lo + ee - (len + n) := spare_of hcap k3b
                          have hcapz : (len + n + spare (len + n) (lo + ee - (len + n))) = lo + ee := by rw [hsp]; omega
                          have hmul := Nat.mul_le_mul_right (P.cellsOf e) hcap
                          have hofle : off ≤ cs.length := by omega
                          obtain ⟨c, el, blo, bhi, b1, b2, b3, b4⟩ := hM.inplace hg hf g3 off new ((len + n + spare (len + n) (lo + ee - (len + n))) * P.cellsOf e) hofle hnew
                            (by rw [hcapz, hnl']; rw [Nat.add_mul] at hmul; omega) (by rw [hcapz]; exact k3a)
                          rw [hdrop] at b4
                          have hscal : ∀ v ∈ cvl ι new, v.oneCell' = true := by
                            intro v hv
                            rw [cvl_eq, List.mem_map] at hv
                            obtain ⟨u, hu, rfl⟩ := hv
                            exact oneCell_scal ι u (List.all_eq_true.1 htop'.2.2 u hu)
                          have hst := run_storeCells_gen P (ι id).1 ((ι id).2 + cs.length) el blo bhi (cvl ι new) 0 c w b1 (by rw [cvl_length]; omega) b3 hscal
                          refine ⟨_, _, _, _, [lo + ee - (len + n)], ?_, hsame _, b4, Ext.upd H ι _, Evol.version hM _ _ _ _ _ _ hf, hvok _⟩
                          have hfits := run_append_fits (P := P) (w := w) (ty := ty) (bs := some ⟨(ι id).1, (ι id).2 + off, none⟩) (sCap := lo + ee) hd ha0 ha1 hs hdx hnint hlenr hfirst hcap
                            (w' := setBlk w (ι id).1 (.cells (overA c ((ι id).2 + cs.length) (cvl ι new)) el (blo, bhi))) (by
                              simp only [add_addr]
                              rw [show (ι id).2 + off + len * P.cellsOf e = (ι id).2 + cs.length from by omega]
                              simpa using hst)
                          simp only [cv, Option.getD_some] at hfits ⊢
                          rw [hfits]
                          simp only [upd_same, hcapz, Nat.add_zero]
  | _ => simp at h
end
end Go.Am

namespace Go.Am
set_option linter.unusedSimpArgs false
set_option linter.unusedVariables false
open Go.RowKit (Below)
section
variable {P : Program} {w w0 : World} {ι : Inj} {base : Base} {H : Heap} {ρ : Operand → Value}
theorem get!_list (s : List UInt8) (i : Nat) : (ByteArray.mk s.toArray).get! i = s.getD i 0 := by
  simp only [ByteArray.get!, List.getD_eq_getElem?_getD]
  rw [getElem!_def]
  simp
  cases s[i]? <;> rfl
theorem decodeR_eq (s : List UInt8) (pos : Nat) (h : pos < s.length) : Utf8.decode ⟨s.toArray⟩ pos = decodeR (s.drop pos) := by
  have hat : ∀ k, ((ByteArray.mk s.toArray).get! (pos + k)).toNat = ((s.drop pos).getD k 0).toNat := fun k => by
    rw [get!_list]
    simp [List.getD_eq_getElem?_getD]
  have hsz : (ByteArray.mk s.toArray).size = s.length := by simp [ByteArray.size]
  have hlt : ∀ k, decide (pos + k < s.length) = Nat.blt k (s.drop pos).length := fun k => by
    rw [Bool.eq_iff_iff]; simp [Nat.blt_eq]; omega
  have hble : ∀ a b, Nat.ble a b = decide (a ≤ b) := fun a b => by rw [Bool.eq_iff_iff]; simp [Nat.ble_eq]
  have hblt : ∀ a b, Nat.blt a b = decide (a < b) := fun a b => by rw [Bool.eq_iff_iff]; simp [Nat.blt_eq]
  have hbeq : ∀ a b : Nat, Nat.beq a b = (a == b) := fun a b => by rw [Bool.eq_iff_iff]; simp [Nat.beq_eq]
  unfold Utf8.decode decodeR
  simp only [hat, hsz, hlt, ge_iff_le, valid_eq, Utf8.runeError, hbeq, Bool.cond_eq_ite, hble, hblt, Bool.and_eq_true, decide_eq_true_eq]
theorem freeze_eq (w : World) (b o : Nat) (c : Array Value) (el : TypeId) (lo hi : Nat) (h : w.heap[b]? = some (.cells c el (lo, hi))) :
    w.freeze ⟨b, o, none⟩ 1 = setBlk w b (.cells c el (if lo == hi then (o, o + 1) else (min lo o, max hi (o + 1)))) := by
  have : (w.heap.modify b fun
      | .cells c elem (lo, hi) => .cells c elem (if lo == hi then (o, o + 1) else (min lo o, max hi (o + 1)))
      | o => o) = w.heap.setIfInBounds b (.cells c el (if lo == hi then (o, o + 1) else (min lo o, max hi (o + 1)))) := by
    apply Array.ext_getElem?
    intro i
    have hlt : b < w.heap.size := (Array.getElem?_eq_some_iff.1 h).1
    by_cases e : b = i
    · subst e; rw [Array.getElem?_modify, if_pos rfl, h]; simp [hlt]
    · rw [Array.getElem?_setIfInBounds_ne e, Array.getElem?_modify, if_neg e]
  exact congrArg (fun x => ({ w with heap := x } : World)) this
theorem run_markStringish (w : World) (b o : Nat) (c : Array Value) (el : TypeId) (lo hi : Nat) (h : w.heap[b]? = some (.cells c el (lo, hi))) :
    (markStringish ⟨b, o, none⟩).run P w = .ok () (setBlk w b (.cells c el (if lo == hi then (c.size, c.size + 1) else (min lo c.size, max hi (c.size + 1))))) := by
  have hs : w.shape? b = some (el, c.size) := by simp only [World.shape?, h]
  simp only [markStringish, Sem.run_bind, run_shape, Result.andThen_ok, hs, run_freeze]
  rw [freeze_eq w b c.size c el lo hi h]
theorem eop_sound (hM : MRel ι base w0 H w) (op : Go.Op) (o : EOp) (xs : List Operand) (vs : List V) (dst : Option Tmp) (ty : TypeId) (pos : String) (after : Array Edge) (guard : Option (Nat × Bool))
    (ht : trOp P op = some (.e o, xs)) (hx : xs.map ρ = cvl ι vs) (hok : VsOk H vs) (h : ∀ τ, evalE o vs H τ ≠ none) :
    EffOk base w0 ι H (evalE o vs H) ((execOp ρ ⟨dst, op, ty, pos, after, guard⟩).run P w) := by
  cases op <;> simp only [trOp] at ht
  case alloc t =>
    split at ht
    · rename_i z hz
      cases ht
      have : vs = [] := by cases vs with | nil => rfl | cons a l => simp [cvl] at hx
      subst this
      obtain ⟨zv, h1, h2, h3⟩ := zeroT_sound (P := P) (w := w) ι hz
      refine ⟨.value (.pointer (some ⟨w.heap.size, 0, none⟩)), .ptr H.size 0, w.alloc (.cells zv.cells t), upd ι H.size (w.heap.size, 0), _, [], ?_, .inl ?_, fun τ => rfl,
        hM.new z z.length true zv.cells t (h3 H) (Nat.le_refl _) (by rw [h2, List.size_toArray, cvl_length]; exact Nat.le_refl _) (by rw [h2]; exact cells_rel ι z), Ext.upd H ι _, Evol.new hM _ _ _, Nat.lt_succ_self _⟩
      · simp only [execOp, Instr.alloc, Sem.run_bind, h1, Result.andThen_ok, newVar, run_newRow, Sem.run_pure]
      · simp only [cv, upd_same]
    · cases ht
  case box t x =>
    cases ht
    obtain ⟨a, rfl, ha⟩ := map1 hx
    refine ⟨.value (.pointer (some ⟨w.heap.size, 0, none⟩)), .ptr H.size 0, w.alloc (.cells (cv ι a).cells t), upd ι H.size (w.heap.size, 0), _, [], ?_, .inl ?_, fun τ => rfl,
      hM.new a.cells a.cells.length true (cv ι a).cells t ?_ (Nat.le_refl _) (by rw [cv_cells, List.size_toArray, cvl_length]; exact Nat.le_refl _) (by rw [cv_cells]; exact cells_rel ι _), Ext.upd H ι _, Evol.new hM _ _ _, Nat.lt_succ_self _⟩
    · simp only [execOp, ha, Instr.box, Sem.run_bind, newVar, run_newRow, Result.andThen_ok, Sem.run_pure]
    · simp only [cv, upd_same]
    · have := hok.1
      cases a <;> first | exact this | exact ⟨this, trivial⟩
  case buildSlice t len parts =>
    split at ht
    · rename_i e hu
      split at ht
      · rename_i z hz
        split at ht
        · rename_i hc
          obtain ⟨hle, he⟩ := hc
          cases ht
          obtain ⟨z', d, hz', hzl, hz0, hd⟩ := elemOk_spec he
          rw [hz] at hz'
          cases hz'
          obtain ⟨zv, h1, h2, h3⟩ := zeroT_sound (P := P) (w := w) ι hz
          simp only [evalE, eBuildSlice] at h
          cases hf : fillC (repl len z) (parts.toList.map fun p => (p.1 * P.cellsOf e, P.cellsOf e)) vs with
          | none => simp only [hf, ne_eq, not_true, forall_const] at h
          | some cs =>
            have hps : ∀ l : List (Nat × Operand), allSome (fun i => some (i * P.cellsOf e, P.cellsOf e)) (l.map (·.1)) = some (l.map fun p => (p.1 * P.cellsOf e, P.cellsOf e)) := by
              intro l
              induction l with
              | nil => rfl
              | cons p l ih => simp only [List.map_cons, allSome, ih]
            have hfill := fill_sound ι ρ (fun i => some (i * P.cellsOf e, P.cellsOf e)) parts.toList (repl len z) _ vs cs (hps _) hx hf
            obtain ⟨c1, c2⟩ := fillC_ok (H := H) _ _ _ _ (repl_ok len (h3 H)) hok hf
            have hcl : cs.length = len * P.cellsOf e := by rw [c2, repl_length, hzl]
            have hparts : (parts.map fun (x : Nat × Operand) => (x.1, ρ x.2)).toList = parts.toList.map fun (i, x) => (i, ρ x) := by simp
            refine ⟨.value (.slice (some ⟨w.heap.size, 0, none⟩) len len), .sl H.size 0 len len none (P.cellsOf e), w.alloc (.cells (cvl ι cs).toArray e), upd ι H.size (w.heap.size, 0), _, [], ?_, .inl ?_, fun τ => ?_,
              hM.new cs (len * P.cellsOf e) false (cvl ι cs).toArray e c1 (by rw [hcl]; exact Nat.le_refl _) (by rw [List.size_toArray, cvl_length, hcl]; exact Nat.le_refl _) (cells_rel ι cs), Ext.upd H ι _, Evol.new hM _ _ _, ?_⟩
            · have hbig : ¬ (len * P.cellsOf e > 2 ^ 24) := by omega
              have hzero : (Array.range (len * P.cellsOf e)).map ((zv.cells)[· % zv.cells.size]!) = (cvl ι (repl len z)).toArray := by
                rw [h2, ← hzl]; exact zeros_eq ι z len (by omega)
              by_cases h0 : len * P.cellsOf e = 0
              · have hr : repl len z = [] := List.eq_nil_of_length_eq_zero (by rw [repl_length, hzl]; exact h0)
                rw [hr] at hfill
                simp only [cvl] at hfill
                simp only [execOp, Instr.buildSlice, Sem.run_bind, run_underlying hu, run_sizeOf_any e d hd, Result.andThen_ok, h0, if_true, Sem.run_pure]
                simp only [Array.range, gt_iff_lt, Nat.not_lt_zero, if_false, Sem.run_bind, Result.andThen_ok, Sem.run_pure]
                simp only [hparts]
                simp [hfill, run_newRow]
              · simp only [execOp, Instr.buildSlice, Sem.run_bind, run_underlying hu, run_sizeOf_any e d hd, Result.andThen_ok, hbig, if_false, h0, Sem.run_pure, h1, hzero, hparts, hfill, run_newRow]
            · simp only [cv, upd_same, Option.getD_none, Nat.add_zero]
            · simp only [evalE, eBuildSlice, hf]; rfl
            · exact ⟨Nat.lt_succ_self _, Nat.le_refl _, fun hh => by cases hh⟩
        · cases ht
      · cases ht
    · cases ht
  case store t a x =>
    obtain ⟨⟨d, hd⟩, ht⟩ := kn_some ht
    cases ht
    obtain ⟨p, q, rfl, hp, hq⟩ := map2 hx
    simp only [evalE, eStore] at h
    cases p with
    | ptr id off =>
      simp only at h
      cases hn : Nat.beq q.cells.length (P.cellsOf t) with
      | false => simp only [hn, cond_false, ne_eq, not_true, forall_const] at h
      | true =>
        simp only [hn, cond_true] at h
        cases hst : H.stores id off q.cells with
        | none => simp only [hst, ne_eq, not_true, forall_const] at h
        | some H1 =>
          have hqc : VsOk H q.cells := by
            have := hok.2.1
            cases q <;> first | exact this | exact ⟨this, trivial⟩
          obtain ⟨w', hr, hM', hev⟩ := hM.stores (P := P) hqc hst
          refine ⟨.skip, .tup [], w', ι, H1, [], ?_, .inr ⟨rfl, rfl⟩, fun τ => ?_, hM', Ext.refl _ _, hev, trivial⟩
          · have hsz : (cv ι q).cells.size = P.cellsOf t := by rw [cv_cells, List.size_toArray, cvl_length]; exact Nat.eq_of_beq_eq_true hn
            simp only [execOp, hp, hq, cv, Instr.storeAt, Instr.sureAddr, storeVar, Sem.run_bind, Sem.run_pure, Result.andThen_ok, run_sizeOf_any t d hd, hsz, ne_eq, not_true, if_false]
            rw [cv_cells]
            simp only [hr, Result.andThen_ok]
            first | rfl | skip
          · simp only [evalE, eStore, hn, cond_true, hst]; rfl
    | _ => simp at h
  case makeSlice t l c =>
    split at ht
    · rename_i e hu
      split at ht
      · rename_i z hz
        split at ht
        · rename_i he
          cases ht
          obtain ⟨z', d, hz', hzl, hz0, hd⟩ := elemOk_spec he
          rw [hz] at hz'
          cases hz'
          obtain ⟨zv, h1, h2, h3⟩ := zeroT_sound (P := P) (w := w) ι hz
          obtain ⟨p, q, rfl, hp, hq⟩ := map2 hx
          simp only [evalE, eMakeSlice] at h
          cases p with
          | int k1 x1 =>
            cases q with
            | int k2 x2 =>
              simp only at h
              cases hn1 : natOf x1 with
              | none => simp only [hn1, ne_eq, not_true, forall_const] at h
              | some L =>
                cases hn2 : natOf x2 with
                | none => simp only [hn1, hn2, ne_eq, not_true, forall_const] at h
                | some K =>
                  simp only [hn1, hn2] at h
                  cases hb : (Nat.ble L K && (Nat.ble (K * P.bytesOf e) 140737488355328 && Nat.ble K 140737488355328)) with
                  | false => simp only [hb, cond_false, ne_eq, not_true, forall_const] at h
                  | true =>
                    have hb' := hb
                    simp only [Bool.and_eq_true] at hb'
                    have b1 := Nat.le_of_ble_eq_true hb'.1
                    have b2 := Nat.le_of_ble_eq_true hb'.2.1
                    have b3 := Nat.le_of_ble_eq_true hb'.2.2
                    have e1 := natOf_some hn1
                    have e2 := natOf_some hn2
                    subst e1 e2
                    obtain ⟨i, hi, hbytes⟩ := run_bytes hd w
                    have w1 : IntKind.i64.wrap (L : Int) = L := IntWalk.i64_in _ (by omega)
                    have w2 : IntKind.i64.wrap (K : Int) = K := IntWalk.i64_in _ (by omega)
                    have hzeros : (Array.range (K * P.cellsOf e)).map ((zv.cells)[· % zv.cells.size]!) = (cvl ι (repl K z)).toArray := by
                      rw [h2, ← hzl]; exact zeros_eq ι z K (by omega)
                    refine ⟨.value (.slice (some ⟨w.heap.size, 0, none⟩) L K), .sl H.size 0 L K none (P.cellsOf e), w.alloc (.cells (cvl ι (repl K z)).toArray e), upd ι H.size (w.heap.size, 0), _, [], ?_, .inl ?_, fun τ => ?_,
                      hM.new (repl K z) (K * P.cellsOf e) false (cvl ι (repl K z)).toArray e (repl_ok K (h3 H)) (by rw [repl_length, hzl]; exact Nat.le_refl _) (by rw [List.size_toArray, cvl_length, repl_length, hzl]; exact Nat.le_refl _) (cells_rel ι _), Ext.upd H ι _, Evol.new hM _ _ _, ?_⟩
                    · have hK : ((P.bytesOf e : Nat) : Int) * (K : Int) = ((K * P.bytesOf e : Nat) : Int) := by rw [Nat.mul_comm]; exact (Int.natCast_mul _ _).symm
                      have t1 : (decide ((K : Int) < 0) || decide (((P.bytesOf e : Nat) : Int) * (K : Int) > 2 ^ 48)) = false := by
                        rw [hK]
                        simp only [Bool.or_eq_false_iff, decide_eq_false_iff_not]
                        exact ⟨by omega, by omega⟩
                      have t2 : ¬ ((L : Int) < 0) := by omega
                      have t3 : ¬ ((L : Int) > (K : Int)) := by omega
                      simp only [execOp, hp, hq, cv, Instr.makeSlice, asInt, asIntOf, Sem.run_bind, run_underlying hu, Sem.run_pure, Result.andThen_ok, hi, hbytes, w1, w2, t1, t2, t3, decide_false, Bool.or_false, Bool.false_eq_true, if_false, run_askRoom, run_sizeOf_any e d hd, Int.toNat_natCast]
                      by_cases h0 : K * P.cellsOf e = 0
                      · have hr : repl K z = [] := List.eq_nil_of_length_eq_zero (by rw [repl_length, hzl]; exact h0)
                        simp [h0, hr, cvl, run_newRow, Go.Array.range_zero']
                      · simp only [h0, if_false, Sem.run_bind, h1, Result.andThen_ok, Sem.run_pure, hzeros, run_newRow]
                    · simp only [cv, upd_same, Option.getD_none, Nat.add_zero]
                    · simp only [evalE, eMakeSlice, hn1, hn2, hb, cond_true]; rfl
                    · exact ⟨Nat.lt_succ_self _, b1, fun hh => by cases hh⟩
            | _ => simp at h
          | _ => cases q <;> simp at h
        · cases ht
      · cases ht
    · cases ht
  case convert s t x =>
    split at ht
    · cases ht
    · cases ht
    · cases ht
    · rename_i e hs hk
      split at ht
      · rename_i hc
        obtain ⟨hu8, hce⟩ := hc
        cases ht
        obtain ⟨a, rfl, ha⟩ := map1 hx
        have he : P.underlying e = some (.int .u8) := by
          unfold u8T at hu8
          split at hu8
          · rename_i hh; exact hh
          · cases hu8
        simp only [evalE, eStrBytes] at h
        cases a with
        | str st =>
          simp only at h
          cases hn : Nat.ble st.length 140737488355328 with
          | false => simp only [hn, cond_false, ne_eq, not_true, forall_const] at h
          | true =>
            have hn' := Nat.le_of_ble_eq_true hn
            obtain ⟨t0, htc⟩ := run_choose_cap (P := P) (w := w) st.length 0 e
            have hbytes : ((ByteArray.mk st.toArray).data.map fun b => Value.int .u8 (b.toNat : Int)) = (cvl ι (st.map fun c => V.int .u8 (.ofNat c.toNat))).toArray := by
              apply Array.ext'
              simp only [cvl_eq, List.map_map]
              simp
              try (intro a _; rfl)
            have hsz : (ByteArray.mk st.toArray).size = st.length := by simp [ByteArray.size]
            obtain ⟨m1, m2, m3, m4⟩ := hM.drew.fresh (st.map fun c => V.int .u8 (.ofNat c.toNat)) st.length 1 t0
              ((cvl ι (st.map fun c => V.int .u8 (.ofNat c.toNat))).toArray ++ Array.replicate (spare st.length t0) (.int .u8 0)) e
              (by rw [VsOk_iff]; intro v hv; rw [List.mem_map] at hv; obtain ⟨c, _, rfl⟩ := hv; trivial) (by simp) hn'
              (by simp [cvl_length]) (fun j v hv => by
                rw [Array.getElem?_append_left (by have := (List.getElem?_eq_some_iff.1 hv).1; simpa [cvl_length] using this)]
                exact cells_rel ι _ j v hv)
            have hsz2 : ((cvl ι (st.map fun c => V.int .u8 (.ofNat c.toNat))).toArray ++ Array.replicate (spare st.length t0) (Value.int .u8 0)).size = st.length + spare st.length t0 := by simp [cvl_length]
            have hnew := heap_alloc_new w.drew (.cells ((cvl ι (st.map fun c => V.int .u8 (.ofNat c.toNat))).toArray ++ Array.replicate (spare st.length t0) (Value.int .u8 0)) e)
            have hmark := m1.mark (lo' := st.length + spare st.length t0) (hi' := st.length + spare st.length t0 + 1) hnew (hM.below.free hM.base_le) (.inr (by rw [hsz2]; exact Nat.le_refl _)) (fun i cs1 r1 f1 v1 s1 fr1 la1 hi hfi hvi e => by
              by_cases ei : i = H.size
              · subst ei
                have hi : (H.new _ _ false).blk.get H.size = _ := hi
                rw [get_new_new] at hi
                cases hi
              · have hi : (H.new _ _ false).blk.get i = _ := hi
                rw [get_new_old ei] at hi
                have hf1 := (hM.fam _ _ _ _ _ _ _ _ hi).1
                have hfi : (H.new _ _ false).fams.get f1 = _ := hfi
                rw [fams_new, if_neg (by omega)] at hfi
                have := (hM.ok _ _ _ _ _ _ _ _ _ _ hi hfi hvi).block_lt
                rw [upd_ne ι _ ei] at e
                have e : (ι i).1 = w.heap.size := e
                omega)
            refine ⟨.value (.slice (some ⟨w.heap.size, 0, none⟩) st.length (st.length + spare st.length t0)), _, _, _, _, [t0], ?_, .inl (by rw [m4]; rfl), fun τ => ?_, hmark, Ext.upd H ι _, m2, m3⟩
            · simp only [execOp, ha, cv, convert, Sem.run_bind, run_underlying hs, run_underlying hk, run_underlying he, Result.andThen_ok, Conv.stringToBytes, hsz, htc, hbytes, Nat.add_sub_cancel_left, run_newRow]
              rw [run_markStringish _ _ _ _ _ _ _ hnew]
              simp only [hsz2, Result.andThen_ok, Sem.run_pure]
              rfl
            · simp only [evalE, eStrBytes, hn, cond_true]
              rfl
        | _ => simp at h
      · cases ht
    · rename_i e2 e hs hk
      split at ht
      · rename_i hc
        obtain ⟨hu8, hst⟩ := hc
        cases ht
        obtain ⟨a, rfl, ha⟩ := map1 hx
        have he : P.underlying e = some (.int .u8) := by
          unfold u8T at hu8
          split at hu8
          · rename_i hh; exact hh
          · cases hu8
        simp only [evalE, eMark] at h
        cases a with
        | sl id off len lo ex z =>
          simp only at h
          cases hg : H.blk.get id with
          | none => simp only [hg, ne_eq, not_true, forall_const] at h
          | some blk =>
            cases blk with
            | iter s p => simp only [hg, ne_eq, not_true, forall_const] at h
            | gone => simp only [hg, ne_eq, not_true, forall_const] at h
            | mem cs room fam ver wr pl st =>
              cases wr with
              | false => simp only [hg, ne_eq, not_true, forall_const] at h
              | true =>
                cases pl with
                | true => simp only [hg, ne_eq, not_true, forall_const] at h
                | false =>
                  simp only [hg] at h
                  cases hf : H.fams.get fam with
                  | none => simp only [hf, ne_eq, not_true, forall_const] at h
                  | some fl =>
                    obtain ⟨fr, la⟩ := fl
                    simp only [hf] at h
                    cases hv : Nat.ble fr ver with
                    | false => simp only [hv, cond_false, ne_eq, not_true, forall_const] at h
                    | true =>
                      obtain ⟨c, el, blo, bhi, b1, b2, b3, b4⟩ := hM.ok _ _ _ _ _ _ _ _ _ _ hg hf (Nat.le_of_ble_eq_true hv)
                      obtain ⟨b5, b6⟩ := b4 rfl
                      have hmr := run_markStringish (P := P) w (ι id).1 ((ι id).2 + off) c el blo bhi b1
                      have hnp : ∀ i cs1 r1 f1 v1 s1 fr1 la1, H.blk.get i = some (.mem cs1 r1 f1 v1 true true s1) → H.fams.get f1 = some (fr1, la1) → fr1 ≤ v1 → (ι i).1 ≠ (ι id).1 := fun i cs1 r1 f1 v1 s1 fr1 la1 hi hfi hvi e => by
                        have ef := hM.sep _ _ _ _ _ _ _ _ _ _ _ _ _ _ _ _ _ _ _ hg hf (Nat.le_of_ble_eq_true hv) hi hfi hvi e.symm
                        subst ef
                        have := hM.plfam _ _ _ _ _ _ _ _ _ _ _ _ _ _ _ hg hi
                        cases this
                      have hmark : MRel ι base w0 H (setBlk w (ι id).1 (.cells c el (if blo == bhi then (c.size, c.size + 1) else (min blo c.size, max bhi (c.size + 1))))) := by
                        by_cases e1 : blo = bhi
                        · have : (blo == bhi) = true := by simpa using e1
                          rw [this, if_pos rfl]
                          exact hM.mark b1 ⟨b5, hM.gh _ _ _ _ _ _ _ _ _ _ hg hf (Nat.le_of_ble_eq_true hv)⟩ (.inr (Nat.le_refl _)) hnp
                        · have : (blo == bhi) = false := by simpa using e1
                          rw [this]
                          exact hM.mark b1 ⟨b5, hM.gh _ _ _ _ _ _ _ _ _ _ hg hf (Nat.le_of_ble_eq_true hv)⟩ (.inr (by rcases b6 with h6 | h6 <;> omega)) hnp
                      refine ⟨.value (cv ι (.sl id off len lo ex z)), _, _, ι, H, [], ?_, .inl rfl, fun τ => ?_, hmark, Ext.refl _ _, Evol.refl _, hok.1⟩
                      · simp only [execOp, ha, cv, convert, Sem.run_bind, run_underlying hk, run_underlying he, Result.andThen_ok, hst, beq_self_eq_true, hmr, Sem.run_pure]
                      · simp only [evalE, eMark, hg, hf, hv, cond_true]; rfl
        | _ => simp at h
      · cases ht
    · split at ht <;> cases ht
    · cases ht
  case range t x =>
    split at ht
    · rename_i hu
      cases ht
      obtain ⟨a, rfl, ha⟩ := map1 hx
      simp only [evalE, eRange] at h
      cases a with
      | str s =>
        refine ⟨.value (.pointer (some ⟨w.heap.size, 0, none⟩)), .ptr H.size 0, w.alloc (.stringIter ⟨s.toArray⟩ 0), upd ι H.size (w.heap.size, 0), iterNew H s, [], ?_, .inl ?_, fun τ => rfl, hM.iterNew s, Ext.upd H ι _, Evol.iterNew hM s, Nat.lt_succ_self _⟩
        · simp only [execOp, ha, cv, Instr.range, Sem.run_bind, run_underlying hu, Result.andThen_ok, Sem.run_pure, run_newObj]
          rfl
        · simp only [cv, upd_same]
      | _ => simp at h
    · cases ht
  case next x b =>
    cases b <;> simp only at ht <;> first | (cases ht; done) | skip
    cases ht
    obtain ⟨a, rfl, ha⟩ := map1 hx
    simp only [evalE, eNext] at h
    split at h
    · rename_i id heq
      cases heq
      cases hg : H.blk.get id with
      | none => simp only [hg, ne_eq, not_true, forall_const] at h
      | some blk =>
        cases blk with
        | mem cs room fam ver wr pl st => simp only [hg, ne_eq, not_true, forall_const] at h
        | gone => simp only [hg, ne_eq, not_true, forall_const] at h
        | iter s p =>
          obtain ⟨i1, i2, i3⟩ := hM.iter _ _ _ hg
          have hsz : (ByteArray.mk s.toArray).size = s.length := by simp [ByteArray.size]
          have hget : (getObj (ι id).1).run P w = .ok (.stringIter ⟨s.toArray⟩ p) w := by simp [getObj, Sem.run, i3]
          cases hp : Nat.blt p s.length with
          | false =>
            have hlt : ¬ p < s.length := by
              intro hlt
              have : Nat.blt p s.length = true := by simpa [Nat.blt_eq] using hlt
              rw [this] at hp; cases hp
            refine ⟨.value (.tuple #[.bool false]), .tup [.bool false], w, ι, H, [], ?_, .inl rfl, fun τ => ?_, hM, Ext.refl _ _, Evol.refl _, ⟨trivial, trivial⟩⟩
            · simp only [execOp, ha, cv, i2, Instr.next, Sem.run_bind, hget, Result.andThen_ok, hsz, hlt, if_false, Sem.run_pure, Nat.add_zero]
            · simp only [evalE, eNext, hg, hp, cond_false]; rfl
          | true =>
            have hlt : p < s.length := by simpa [Nat.blt_eq] using hp
            have hdec := decodeR_eq s p hlt
            have hset : (setObj (ι id).1 (.stringIter ⟨s.toArray⟩ (p + (decodeR (s.drop p)).2))).run P w = .ok () (setBlk w (ι id).1 (.stringIter ⟨s.toArray⟩ (p + (decodeR (s.drop p)).2))) := by
              simp [setObj, Sem.run, i3, setBlk]
            refine ⟨.value (.tuple #[.bool true, .int .i64 (p : Nat), .int .i32 ((decodeR (s.drop p)).1 : Nat)]), .tup [.bool true, .int .i64 (.ofNat p), .int .i32 (.ofNat (decodeR (s.drop p)).1)], _, ι, iterHeap H id s (p + (decodeR (s.drop p)).2), [], ?_, .inl rfl, fun τ => ?_,
              hM.iterSet hg _, Ext.refl _ _, Evol.iterSet hg, ⟨trivial, trivial, trivial, trivial⟩⟩
            · simp only [execOp, ha, cv, i2, Instr.next, Sem.run_bind, hget, Result.andThen_ok, hsz, hlt, if_true, Sem.run_pure, Nat.add_zero, hdec]
              simp only [hset, Result.andThen_ok, goInt]
            · simp only [evalE, eNext, hg, hp, cond_true, forceN_eq]; rfl
    · simp at h
  case call c =>
    split at ht
    · split at ht <;> cases ht
    · cases ht
    · rename_i b hc
      split at ht
      · rename_i o' hb
        cases ht
        have hargs : c.args.map ρ = (cvl ι vs).toArray := by
          rw [← hx, ← Array.toList_map]
        have hres : ∀ (S : Sem Value) (r : Value) (w' : World), (∀ cs, builtin b c.argTypes ty cs (cvl ι vs).toArray = (do pure (.value (← S)))) → S.run P w = .ok r w' →
            (execOp ρ ⟨dst, .call c, ty, pos, after, guard⟩).run P w = .ok (.value r) w' := by
          intro S r w' hS hr
          simp only [execOp, resolve, hc, Sem.run_bind, Sem.run_pure, Result.andThen_ok, hargs, invoke]
          rw [hS]
          simp only [Sem.run_bind, hr, Result.andThen_ok, Sem.run_pure]
        unfold trBuiltin at hb
        split at hb
        · split at hb <;> first | (cases hb; done) | (split at hb <;> cases hb)
        · split at hb <;> cases hb
        · -- append
          rename_i t u hty
          have hty0 : c.argTypes[0]? = some t := by rw [← Array.getElem?_toList, hty]; rfl
          have hty1 : c.argTypes[1]? = some u := by rw [← Array.getElem?_toList, hty]; rfl
          have app : ∀ (e : TypeId), elemOk P e = true → P.underlying t = some (.slice e) → (∃ d, P.underlying u = some d ∧ ∀ k, d ≠ .int k) → o = .append (P.cellsOf e) (P.bytesOf e) →
              EffOk base w0 ι H (evalE o vs H) ((execOp ρ ⟨dst, .call c, ty, pos, after, guard⟩).run P w) := by
            rintro e he hu hu2 rfl
            simp only [evalE, eAppend] at h
            split at h
            · rename_i s x
              cases hl : srcLen x with
              | none => simp only [hl, ne_eq, not_true, forall_const] at h
              | some n =>
                cases hsr : srcCells H (P.cellsOf e) n x with
                | none => simp only [hl, hsr, ne_eq, not_true, forall_const] at h
                | some new =>
                  simp only [hl, hsr] at h
                  obtain ⟨v, w', ι', H', pre, a1, a2, a3, a4, a5, a6⟩ := append_sound (ty := ty) hM he hty0 hty1 hu hu2 hok.1 hl hsr h
                  refine ⟨_, v, w', ι', H', pre, hres _ _ w' (fun cs => ?_) a1, .inl rfl, fun τ => ?_, a3, a4, a5, a6⟩
                  · simp only [builtin, cvl]
                  · simp only [evalE, eAppend, hl, hsr]; exact a2 τ
            · simp at h
          split at hb
          · rename_i e e2 hu hu2
            split at hb
            · rename_i he
              cases hb
              exact app e he hu ⟨_, hu2, fun k hk => by cases hk⟩ rfl
            · cases hb
          · rename_i e hu hu2
            split at hb
            · rename_i he
              cases hb
              exact app e he.1 hu ⟨_, hu2, fun k hk => by cases hk⟩ rfl
            · cases hb
          · cases hb
        · -- copy
          rename_i t u hty
          have hty0 : c.argTypes[0]? = some t := by rw [← Array.getElem?_toList, hty]; rfl
          have cop : ∀ (e : TypeId), elemOk P e = true → P.underlying t = some (.slice e) → o = .copy (P.cellsOf e) →
              EffOk base w0 ι H (evalE o vs H) ((execOp ρ ⟨dst, .call c, ty, pos, after, guard⟩).run P w) := by
            rintro e he hu rfl
            obtain ⟨zl, d, hz, hzl, hz0, hd⟩ := elemOk_spec he
            simp only [evalE, eCopy] at h
            split at h
            · rename_i dd x
              cases hl : srcLen x with
              | none => simp only [hl, ne_eq, not_true, forall_const] at h
              | some n =>
                simp only [hl] at h
                have hlenr := srcLen_ok (P := P) (ι := ι) hl w
                cases dd with
                | nils =>
                  refine ⟨.value (.int .i64 0), .int .i64 0, w, ι, H, [], hres _ _ w (fun cs => rfl) ?_, .inl rfl, fun τ => ?_, hM, Ext.refl _ _, Evol.refl _, trivial⟩
                  · have hf0 : (Builtin.firstCells (P.cellsOf e) 0 (cv ι x)).run P w = .ok #[] w := by
                      cases x <;> simp only [srcLen, reduceCtorEq] at hl
                      · simp [cv, Builtin.firstCells]
                      · simp [cv, Builtin.firstCells, loadCells, loadCellsFrom]
                      · rfl
                    simp only [Builtin.copy_, hty0, cvl, cv, List.getElem?_toArray, List.getElem?_cons_zero, List.getElem?_cons_succ, Sem.run_bind, run_underlying hu, Result.andThen_ok, hlenr, run_sizeOf_any e d hd, Nat.min_zero, hf0, Sem.run_pure]
                    simp [goInt]
                  · simp only [evalE, eCopy, hl]; rfl
                | sl id off len lo ex z' =>
                  simp only at h
                  cases hzz : Nat.beq (P.cellsOf e) z' with
                  | false => simp only [hzz, cond_false, ne_eq, not_true, forall_const] at h
                  | true =>
                    have hzz' := Nat.eq_of_beq_eq_true hzz
                    subst hzz'
                    simp only [hzz, cond_true] at h
                    have hmin : (bif Nat.ble n len then n else len) = Nat.min n len := by
                      cases hb2 : Nat.ble n len with
                      | true => have := Nat.le_of_ble_eq_true hb2; simp only [cond_true]; exact (Nat.min_eq_left this).symm
                      | false =>
                        have : len < n := by
                          rcases Nat.lt_or_ge len n with hh | hh
                          · exact hh
                          · rw [Nat.ble_eq_true_of_le hh] at hb2; cases hb2
                        simp only [cond_false]; exact (Nat.min_eq_right (by omega)).symm
                    rw [hmin] at h
                    cases hsr : srcCells H (P.cellsOf e) (Nat.min n len) x with
                    | none => simp only [hsr, ne_eq, not_true, forall_const] at h
                    | some new =>
                      simp only [hsr] at h
                      cases hst : H.stores id off new with
                      | none => simp only [hst, ne_eq, not_true, forall_const] at h
                      | some H1 =>
                        obtain ⟨hfirst, hnew, _⟩ := hM.src (P := P) hsr (fun m hm => by rw [hl] at hm; cases hm; exact Nat.min_le_left _ _)
                        obtain ⟨w', hr, hM', hev⟩ := hM.stores (P := P) hnew hst
                        refine ⟨.value (.int .i64 (Nat.min n len : Nat)), .int .i64 (.ofNat (Nat.min n len)), w', ι, H1, [], hres _ _ w' (fun cs => rfl) ?_, .inl rfl, fun τ => ?_, hM', Ext.refl _ _, hev, trivial⟩
                        · simp only [Builtin.copy_, hty0, cvl, cv, List.getElem?_toArray, List.getElem?_cons_zero, List.getElem?_cons_succ, Sem.run_bind, run_underlying hu, Result.andThen_ok, hlenr, run_sizeOf_any e d hd, hfirst, hr, Sem.run_pure, goInt]
                        · simp only [evalE, eCopy, hl, hzz, cond_true, hmin, hsr, hst]; rfl
                | _ => simp at h
            · simp at h
          split at hb
          · rename_i e e2 hu hu2
            split at hb
            · rename_i he
              cases hb
              exact cop e he hu rfl
            · cases hb
          · rename_i e hu hu2
            split at hb
            · rename_i he
              cases hb
              exact cop e he.1 hu rfl
            · cases hb
          · cases hb
        · -- clear
          rename_i t hty
          have hty0 : c.argTypes[0]? = some t := by rw [← Array.getElem?_toList, hty]; rfl
          split at hb
          · rename_i e hu
            split at hb
            · rename_i z hz
              split at hb
              · rename_i he
                cases hb
                obtain ⟨z', d, hz', hzl, hz0, hd⟩ := elemOk_spec he
                rw [hz] at hz'
                cases hz'
                obtain ⟨zv, h1, h2, h3⟩ := zeroT_sound (P := P) (w := w) ι hz
                simp only [evalE, eClear] at h
                split at h
                · refine ⟨.value (.tuple #[]), .tup [], w, ι, H, [], hres _ _ w (fun cs => rfl) ?_, .inl rfl, fun τ => rfl, hM, Ext.refl _ _, Evol.refl _, trivial⟩
                  simp only [Builtin.clear_, hty0, cvl, cv, List.getElem?_toArray, List.getElem?_cons_zero, Sem.run_bind, run_underlying hu, Result.andThen_ok, Sem.run_pure]
                · rename_i id off len lo ex z'
                  cases hzz : (Nat.beq (P.cellsOf e) z' && Nat.beq z.length (P.cellsOf e)) with
                  | false => simp only [hzz, cond_false, ne_eq, not_true, forall_const] at h
                  | true =>
                    simp only [hzz, cond_true] at h
                    cases hst : H.stores id off (repl len z) with
                    | none => simp only [hst, ne_eq, not_true, forall_const] at h
                    | some H1 =>
                      obtain ⟨w', hr, hM', hev⟩ := hM.stores (P := P) (repl_ok len (h3 H)) hst
                      refine ⟨.value (.tuple #[]), .tup [], w', ι, H1, [], hres _ _ w' (fun cs => rfl) ?_, .inl rfl, fun τ => ?_, hM', Ext.refl _ _, hev, trivial⟩
                      · have hzeros : Builtin.zeroCells zv.cells len = (cvl ι (repl len z)).toArray := by
                          have := zeros_eq ι z len (by omega)
                          rw [← this, h2]
                          simp only [Builtin.zeroCells, List.size_toArray, cvl_length]
                        cases len with
                        | zero =>
                          have hw : w' = w := by
                            simp only [repl, List.replicate_zero, List.flatten_nil, cvl, storeCells, Sem.run_pure] at hr
                            injection hr with _ hr
                            exact hr.symm
                          subst hw
                          simp only [Builtin.clear_, hty0, cvl, cv, List.getElem?_toArray, List.getElem?_cons_zero, Sem.run_bind, run_underlying hu, Result.andThen_ok, Sem.run_pure]
                        | succ n =>
                          simp only [Builtin.clear_, hty0, cvl, cv, List.getElem?_toArray, List.getElem?_cons_zero, Sem.run_bind, run_underlying hu, Result.andThen_ok, h1, hzeros, hr, Sem.run_pure]
                      · simp only [evalE, eClear, hzz, cond_true, hst]; rfl
                · simp at h
              · cases hb
            · cases hb
          · cases hb
        · cases hb
        · cases hb
        · cases hb
      · cases ht
    · cases ht
  case makeFunc fn first captured => cases fn <;> simp only at ht <;> cases ht
  all_goals first
    | (cases ht; done)
    | (repeat' (split at ht)) <;> first | (cases ht; done) | (obtain ⟨_, ht⟩ := kn_some ht; cases ht; done)
end
end Go.Am

namespace Go.Am
set_option linter.unusedSimpArgs false
set_option linter.unusedVariables false
open Go.RowKit (Below)
def GOk (P : Program) (ι : Inj) (H : Heap) : Prop := (∀ g, g < P.globals.size → ι g = (g, 0)) ∧ P.globals.size ≤ H.size
theorem GOk.step {P : Program} {ι ι' : Inj} {H H' : Heap} (h : GOk P ι H) (he : Ext H ι ι') (hv : Evol H H') : GOk P ι' H' :=
  ⟨fun g hg => (he g (Nat.lt_of_lt_of_le hg h.2)).trans (h.1 g hg), Nat.le_trans h.2 hv.size⟩
structure FRel (ι : Inj) (H : Heap) (nt : Nat) (fr : T V) (a : Act) : Prop where
  defers : a.defers = []
  size : nt ≤ a.tmps.size
  get : ∀ t v, fr.get t = some v → a.tmps[t]? = some (cv ι v) ∧ VOk H v
theorem FRel.step {ι ι' : Inj} {H H' : Heap} {nt : Nat} {fr : T V} {a : Act} (h : FRel ι H nt fr a) (he : Ext H ι ι') (hv : Evol H H') : FRel ι' H' nt fr a :=
  ⟨h.defers, h.size, fun t v ht => by
    obtain ⟨h1, h2⟩ := h.get t v ht
    exact ⟨by rw [cv_congr he v h2]; exact h1, h2.mono hv⟩⟩
theorem FRel.put {ι : Inj} {H : Heap} {nt : Nat} {fr : T V} {a : Act} (h : FRel ι H nt fr a) {dst : Option Nat} {v : V} (hd : dst.all (· < nt) = true) (hv : VOk H v) :
    FRel ι H nt (put fr dst v) (a.put dst (cv ι v)) := by
  cases dst with
  | none => exact h
  | some d =>
    have hlt : d < nt := by simpa using hd
    refine ⟨h.defers, by simp only [Act.put, Array.size_setIfInBounds]; exact h.size, fun t u ht => ?_⟩
    simp only [Am.put] at ht
    rw [T.get_set] at ht
    by_cases e : d = t
    · rw [if_pos e] at ht
      cases ht
      subst e
      have := h.size
      refine ⟨?_, hv⟩
      simp only [Act.put]
      rw [Array.getElem?_setIfInBounds_self_of_lt (by omega)]
    · rw [if_neg e] at ht
      obtain ⟨h1, h2⟩ := h.get t u ht
      exact ⟨by simp only [Act.put]; rw [Array.getElem?_setIfInBounds_ne e]; exact h1, h2⟩
section
variable {P : Program} {w w0 : World} {ι : Inj} {base : Base} {nt : Nat} {H : Heap}
theorem evO_sound {fr : T V} {a : Act} (hF : FRel ι H nt fr a) (hG : GOk P ι H) {x : Operand} {o : O} {v : V} (ht : trO P x = some o) (h : evO fr o = some v) : a.eval x = cv ι v ∧ VOk H v := by
  cases x with
  | tmp t =>
    simp only [trO, Option.some.injEq] at ht
    subst ht
    obtain ⟨h1, h2⟩ := hF.get t v h
    exact ⟨by simp [Act.eval, h1], h2⟩
  | const c =>
    simp only [trO] at ht
    split at ht
    · rename_i u hu
      cases ht
      simp only [evO, Option.some.injEq] at h
      subst h
      obtain ⟨h1, h2⟩ := cv?_sound ι hu
      exact ⟨h1.symm, h2 H⟩
    · cases ht
  | global g =>
    simp only [trO] at ht
    split at ht
    · rename_i hg
      cases ht
      simp only [evO, Option.some.injEq] at h
      subst h
      exact ⟨by simp only [Act.eval, cv, hG.1 g hg], Nat.lt_of_lt_of_le hg hG.2⟩
    · cases ht
  | func f =>
    simp only [trO, Option.some.injEq] at ht
    subst ht
    simp only [evO, Option.some.injEq] at h
    subst h
    exact ⟨rfl, trivial, trivial⟩
theorem evOs_sound {fr : T V} {a : Act} (hF : FRel ι H nt fr a) (hG : GOk P ι H) : ∀ (xs : List Operand) (os : List O) (vs : List V), allSome (trO P) xs = some os → evOs fr os = some vs →
    xs.map a.eval = cvl ι vs ∧ VsOk H vs := by
  intro xs
  induction xs with
  | nil =>
    intro os vs ht h
    simp only [allSome, Option.some.injEq] at ht
    subst ht
    simp only [evOs, Option.some.injEq] at h
    subst h
    exact ⟨rfl, trivial⟩
  | cons x xs ih =>
    intro os vs ht h
    simp only [allSome] at ht
    split at ht
    · rename_i o ho
      split at ht
      · rename_i os' hos
        cases ht
        simp only [evOs] at h
        split at h
        · rename_i v hv
          split at h
          · rename_i vs' hvs
            cases h
            obtain ⟨h1, h2⟩ := evO_sound hF hG ho hv
            obtain ⟨h3, h4⟩ := ih os' vs' hos hvs
            exact ⟨by simp only [List.map_cons, cvl, h1, h3], h2, h4⟩
          · cases h
        · cases h
      · cases ht
    · cases ht
def CallSound (P : Program) (base : Base) (w0 : World) (c : ACall) : Prop :=
  ∀ f vs H ι w, MRel ι base w0 H w → GOk P ι H → VsOk H vs → (∀ τ, c f vs H τ ≠ none) →
    plainCall P f = true ∧ Calls P f (cvl ι vs).toArray w fun e w' =>
      ∃ v H' ι' pre, e = .returned (cv ι' v) ∧ (∀ τ, c f vs H (Tape.app pre τ) = some (v, H', τ)) ∧ MRel ι' base w0 H' w' ∧ Ext H ι ι' ∧ Evol H H' ∧ VOk H' v
theorem callFunc_plain {f : FuncId} (h : plainCall P f = true) (args : Array Value) : (callFunc f args).run P w = .ok (.enter f args) w := by
  unfold plainCall at h
  split at h
  · rename_i fn hf
    simp only [Bool.and_eq_true, bne_iff_ne, ne_eq] at h
    have h2 : (fn.name == "runtime.NumGoroutine") = false := by simpa using h.2
    have h1 : fn.body.isNone = false := by cases hb : fn.body with | none => rw [hb] at h; cases h.1 | some b => rfl
    simp only [callFunc, Sem.run_bind, run_program, Result.andThen_ok, hf, h2, Bool.false_eq_true, if_false, h1, Sem.run_pure]
  · cases h
theorem wants_sound {ops : Array Oper} {fr : T V} {a : Act} (hF : FRel ι H nt fr a) {o : Oper} {g : Option (Nat × Bool)} {b : Bool} (ht : trGuard ops.toList o.guard = some g) (h : wants fr g = some b) :
    Region.wanted o (yielded ops a.tmps) = b := by
  unfold Region.wanted
  cases hg : o.guard with
  | none =>
    rw [hg] at ht
    simp only [trGuard, Option.some.injEq] at ht
    subst ht
    simp only [wants, Option.some.injEq] at h
    simp [h]
  | some jw =>
    obtain ⟨j, want⟩ := jw
    rw [hg] at ht
    simp only [trGuard] at ht
    split at ht
    · rename_i oj hj
      split at ht
      · rename_i d hd
        cases ht
        have hj' : ops[j]? = some oj := by rw [← Array.getElem?_toList]; exact hj
        simp only [wants] at h
        split at h
        · rename_i bb hb
          cases h
          obtain ⟨h1, _⟩ := hF.get _ _ hb
          have : yielded ops a.tmps j = some bb := by simp only [yielded, hj', hd, Option.bind_some, h1, cv]
          simp [this]
        · rename_i hb
          cases h
          obtain ⟨h1, _⟩ := hF.get _ _ hb
          have : yielded ops a.tmps j = none := by simp only [yielded, hj', hd, Option.bind_some, h1, cv]
          simp [this]
        · cases h
      · cases ht
    · cases ht
theorem trIns_inv {ops : List Oper} {o : Oper} {i : Ins} (h : trIns P nt ops o = some i) :
    o.dst.all (· < nt) = true ∧ i.dst = o.dst ∧ i.rng = none ∧ trGuard ops o.guard = some i.guard ∧ ∃ xs, trOp P o.op = some (i.op, xs) ∧ allSome (trO P) xs = some i.args := by
  unfold trIns at h
  split at h
  · rename_i hd
    split at h
    · rename_i op args g h1 h2
      split at h
      · rename_i as h3
        cases h
        exact ⟨hd, rfl, rfl, h2, args, h1, h3⟩
      · cases h
    · cases h
  · cases h
def After (P : Program) (base : Base) (w0 : World) (ι : Inj) (H : Heap) (nt : Nat) (run : Tape → Option (St × Tape)) (a : Act) (w : World) : Prop :=
  ∃ st' ι' pre, (∀ τ, run (Tape.app pre τ) = some (st', τ)) ∧ FRel ι' st'.hp nt st'.fr a ∧ MRel ι' base w0 st'.hp w ∧ GOk P ι' st'.hp ∧ Ext H ι ι' ∧ Evol H st'.hp
theorem op_wp (c : ACall) (hc : CallSound P base w0 c) {st : St} {a : Act} (hF : FRel ι st.hp nt st.fr a) (hM : MRel ι base w0 st.hp w) (hG : GOk P ι st.hp) {o : Oper} {ao : AOp} {xs : List Operand} {vs : List V}
    (hd : o.dst.all (· < nt) = true) (ht : trOp P o.op = some (ao, xs)) (hx : xs.map a.eval = cvl ι vs) (hok : VsOk st.hp vs) (h : ∀ τ, evalOp c ao vs st.hp τ ≠ none)
    (K : Act → World → Prop) (Q : Exit → Act → World → Prop)
    (hK : ∀ v H' ι' pre w', (∀ τ, evalOp c ao vs st.hp (Tape.app pre τ) = some (v, H', τ)) → FRel ι' H' nt (put st.fr o.dst v) (a.put o.dst (cv ι' v)) → MRel ι' base w0 H' w' → GOk P ι' H' → Ext st.hp ι ι' → Evol st.hp H' → VOk H' v →
      K (a.put o.dst (cv ι' v)) w') :
    o.wp P a w K Q := by
  unfold Oper.wp
  obtain ⟨dst, op, ty, pos, after, guard⟩ := o
  cases ao with
  | p po =>
    simp only [evalOp] at h
    cases hv : evalP po vs with
    | none => simp only [hv, ne_eq, not_true, forall_const] at h
    | some v =>
      obtain ⟨h1, h2⟩ := pop_sound (P := P) (w := w) (ρ := a.eval) op po xs vs v dst ty pos after guard ht hx hok hv
      rw [h1]
      exact hK v st.hp ι [] w (fun τ => by simp only [evalOp, hv]; rfl) (hF.put hd h2) hM hG (Ext.refl _ _) (Evol.refl _) h2
  | l lo =>
    simp only [evalOp] at h
    cases hv : evalL lo vs st.hp with
    | none => simp only [hv, ne_eq, not_true, forall_const] at h
    | some v =>
      obtain ⟨h1, h2⟩ := lop_sound (P := P) (ρ := a.eval) hM op lo xs vs v dst ty pos after guard ht hx hv
      rw [h1]
      exact hK v st.hp ι [] w (fun τ => by simp only [evalOp, hv]; rfl) (hF.put hd h2) hM hG (Ext.refl _ _) (Evol.refl _) h2
  | e eo =>
    simp only [evalOp] at h
    obtain ⟨nx, v, w', ι', H', pre, h1, h2, h3, h4, h5, h6, h7⟩ := eop_sound (P := P) (ρ := a.eval) hM op eo xs vs dst ty pos after guard ht hx hok h
    rw [h1]
    have hF' := (hF.step h5 h6).put hd h7
    rcases h2 with rfl | ⟨rfl, rfl⟩
    · exact hK v H' ι' pre w' h3 hF' h4 (hG.step h5 h6) h5 h6 h7
    · exact hK _ H' ι' pre w' h3 hF' h4 (hG.step h5 h6) h5 h6 h7
  | call f =>
    simp only [evalOp] at h
    obtain ⟨hp, hcalls⟩ := hc f vs st.hp ι w hM hG hok h
    have hrun : (execOp a.eval ⟨dst, op, ty, pos, after, guard⟩).run P w = .ok (.enter f (cvl ι vs).toArray) w := by
      cases op <;> simp only [trOp] at ht
      case call cl =>
        split at ht
        · rename_i f' hcl
          split at ht
          · cases ht
            have hargs : cl.args.map a.eval = (cvl ι vs).toArray := by rw [← hx, ← Array.toList_map]
            simp only [execOp, resolve, hcl, Act.eval, Deferred.ofValue, Sem.run_bind, Sem.run_pure, Result.andThen_ok, invoke]
            rw [hargs]
            simpa using callFunc_plain hp (cvl ι vs).toArray
          · cases ht
        · cases ht
        · split at ht
          · rename_i o' hb
            exfalso
            cases ht
            unfold trBuiltin at hb
            repeat' (split at hb)
            all_goals cases hb
          · cases ht
        · cases ht
      case next x b => cases b <;> simp only at ht <;> cases ht
      case makeFunc fn first captured => cases fn <;> simp only at ht <;> cases ht
      all_goals first
        | (cases ht; done)
        | (repeat' (split at ht)) <;> first | (cases ht; done) | (obtain ⟨_, ht⟩ := kn_some ht; cases ht; done)
    rw [hrun, Oper.upon_enter]
    refine hcalls.mono fun e w' ⟨v, H', ι', pre, he, h3, h4, h5, h6, h7⟩ => ?_
    subst he
    exact hK v H' ι' pre w' h3 ((hF.step h5 h6).put hd h7) h4 (hG.step h5 h6) h5 h6 h7
  | callv =>
    cases op <;> simp only [trOp] at ht
    case call cl =>
      split at ht
      · split at ht <;> cases ht
      · rename_i fo hnf hcl
        cases ht
        obtain ⟨fv, r, rfl, hfv, hr⟩ := mapCons hx
        simp only [evalOp] at h
        cases fv with
        | func f first cap =>
          simp only at h
          have hok' : VsOk st.hp (first ++ r ++ cap) := by
            rw [VsOk_iff]
            intro v hv
            rcases List.mem_append.1 hv with hv | hv
            · rcases List.mem_append.1 hv with hv | hv
              · exact (VsOk_iff _ _).1 hok.1.1 v hv
              · exact (VsOk_iff _ _).1 hok.2 v hv
            · exact (VsOk_iff _ _).1 hok.1.2 v hv
          obtain ⟨hp, hcalls⟩ := hc f (first ++ r ++ cap) st.hp ι w hM hG hok' h
          have hargs : cl.args.map a.eval = (cvl ι r).toArray := by rw [← hr, ← Array.toList_map]
          have hrun : (execOp a.eval ⟨dst, .call cl, ty, pos, after, guard⟩).run P w = .ok (.enter f (cvl ι (first ++ r ++ cap)).toArray) w := by
            have hres : (resolve a.eval cl ty).run P w = .ok { target := .fn (.func f) (cvl ι cap).toArray, args := (cvl ι first).toArray ++ (cvl ι r).toArray } w := by
              simp only [resolve, hcl, hfv, cv, Deferred.ofValue, Sem.run_pure, hargs]
            simp only [execOp, Sem.run_bind, hres, Result.andThen_ok, invoke]
            rw [callFunc_plain hp]
            simp [cvl_append]
          rw [hrun, Oper.upon_enter]
          refine hcalls.mono fun e w' ⟨v, H', ι', pre, he, h3, h4, h5, h6, h7⟩ => ?_
          subst he
          exact hK v H' ι' pre w' h3 ((hF.step h5 h6).put hd h7) h4 (hG.step h5 h6) h5 h6 h7
        | _ => simp at h
      · split at ht
        · rename_i o' hb
          exfalso
          cases ht
          unfold trBuiltin at hb
          repeat' (split at hb)
          all_goals cases hb
        · cases ht
      · cases ht
    case next x b => cases b <;> simp only at ht <;> cases ht
    case makeFunc fn first captured => cases fn <;> simp only at ht <;> cases ht
    all_goals first
      | (cases ht; done)
      | (repeat' (split at ht)) <;> first | (cases ht; done) | (obtain ⟨_, ht⟩ := kn_some ht; cases ht; done)
end
end Go.Am

namespace Go.Am
set_option linter.unusedSimpArgs false
set_option linter.unusedVariables false
open Go.RowKit (Below)
section
variable {P : Program} {w w0 : World} {ι : Inj} {base : Base} {nt : Nat}
theorem ins_wp (c : ACall) (hc : CallSound P base w0 c) {st : St} {a : Act} (hF : FRel ι st.hp nt st.fr a) (hM : MRel ι base w0 st.hp w) (hG : GOk P ι st.hp) {ops : Array Oper} {i : Nat} {o : Oper} (ho : ops[i]? = some o)
    {ins : Ins} (ht : trIns P nt ops.toList o = some ins) (h : ∀ τ, runIns c ins st τ ≠ none) (K : Act → World → Prop) (Q : Exit → Act → World → Prop)
    (hK : ∀ a' w', After P base w0 ι st.hp nt (runIns c ins st) a' w' → K a' w') : wpOp P ops Q i K a w := by
  obtain ⟨hd, hdst, _, hg, xs, hop, hxs⟩ := trIns_inv ht
  unfold wpOp
  simp only [ho]
  unfold runIns at h
  cases hw : wants st.fr ins.guard with
  | none => simp only [hw, ne_eq, not_true, forall_const] at h
  | some b =>
    rw [wants_sound hF hg hw]
    cases b with
    | false =>
      simp only [Bool.false_eq_true, if_false]
      refine hK _ _ ⟨⟨put st.fr ins.dst (.tup []), st.hp⟩, ι, [], fun τ => ?_, ?_, hM, hG, Ext.refl _ _, Evol.refl _⟩
      · unfold runIns; simp only [hw]; rfl
      · rw [hdst]
        exact hF.put hd (v := .tup []) trivial
    | true =>
      simp only [if_true]
      simp only [hw] at h
      cases hvs : evOs st.fr ins.args with
      | none => simp only [hvs, ne_eq, not_true, forall_const] at h
      | some vs =>
        simp only [hvs] at h
        obtain ⟨hx, hok⟩ := evOs_sound hF hG xs ins.args vs hxs hvs
        refine .inl (op_wp c hc hF hM hG hd hop hx hok ?_ K Q ?_)
        · intro τ hn
          exact h τ (by rw [hn])
        · intro v H' ι' pre w' h3 hF' h4 h5 h6 h7 h8
          refine hK _ _ ⟨⟨put st.fr ins.dst v, H'⟩, ι', pre, fun τ => ?_, ?_, h4, h5, h6, h7⟩
          · unfold runIns
            simp only [hw, hvs, h3]
          · rw [hdst]; exact hF'
theorem reg_wp (c : ACall) (hc : CallSound P base w0 c) (ops : Array Oper) (Q : Exit → Act → World → Prop) : ∀ (is : List Ins) (l : List Nat) (ι : Inj) (st : St) (a : Act) (w : World),
    FRel ι st.hp nt st.fr a → MRel ι base w0 st.hp w → GOk P ι st.hp → is.length = l.length → (∀ (j i : Nat) (ins : Ins), l[j]? = some i → is[j]? = some ins → ∃ o, ops[i]? = some o ∧ trIns P nt ops.toList o = some ins) →
    (∀ τ, runReg c is st τ ≠ none) → (∀ a' w', After P base w0 ι st.hp nt (runReg c is st) a' w' → Q .normal a' w') → wpOps P ops Q l a w := by
  intro is
  induction is with
  | nil =>
    intro l ι st a w hF hM hG hl _ _ hQ
    have : l = [] := List.eq_nil_of_length_eq_zero (by simpa using hl.symm)
    subst this
    exact hQ a w ⟨st, ι, [], fun τ => rfl, hF, hM, hG, Ext.refl _ _, Evol.refl _⟩
  | cons ins is ih =>
    intro l ι st a w hF hM hG hl ht h hQ
    cases l with
    | nil => simp at hl
    | cons i l =>
      obtain ⟨o, ho, hins⟩ := ht 0 i ins rfl rfl
      rw [wpOps_cons]
      refine ins_wp c hc hF hM hG ho hins ?_ _ Q ?_
      · intro τ hn
        exact h τ (by simp only [runReg, hn])
      · rintro a' w' ⟨st1, ι1, pre1, k1, k2, k3, k4, k5, k6⟩
        refine ih l ι1 st1 a' w' k2 k3 k4 (by simpa using hl) (fun j i' ins' hj hj' => ht (j + 1) i' ins' (by simpa using hj) (by simpa using hj')) ?_ ?_
        · intro τ hn
          refine h (Tape.app pre1 τ) ?_
          simp only [runReg, k1, hn]
        · intro a2 w2 hA
          obtain ⟨st2, ι2, pre2, m1, m2, m3, m4, m5, m6⟩ := hA
          exact hQ a2 w2 ⟨st2, ι2, pre1 ++ pre2, fun τ => by rw [← Tape.app_app]; simp only [runReg, k1]; exact m1 τ, m2, m3, m4, k5.trans m5 k6.size, k6.trans m6⟩
theorem allSome_get {α β : Type} (f : α → Option β) : ∀ (l : List α) (r : List β), allSome f l = some r → r.length = l.length ∧ ∀ (j : Nat) (x : α) (y : β), l[j]? = some x → r[j]? = some y → f x = some y := by
  intro l
  induction l with
  | nil => intro r h; simp only [allSome, Option.some.injEq] at h; subst h; exact ⟨rfl, fun j x y hx => by simp at hx⟩
  | cons a l ih =>
    intro r h
    simp only [allSome] at h
    split at h
    · rename_i b hb
      split at h
      · rename_i r' hr
        cases h
        obtain ⟨h1, h2⟩ := ih r' hr
        refine ⟨by simp [h1], fun j x y hx hy => ?_⟩
        cases j with
        | zero =>
          simp only [List.getElem?_cons_zero, Option.some.injEq] at hx hy
          subst hx hy
          exact hb
        | succ j => exact h2 j x y (by simpa using hx) (by simpa using hy)
      · cases h
    · cases h
theorem region_wp (c : ACall) (hc : CallSound P base w0 c) (id : Nat) (ops : Array Oper) {is : List Ins} (ht : allSome (trIns P nt ops.toList) ops.toList = some is) {st : St} {a : Act}
    (hF : FRel ι st.hp nt st.fr a) (hM : MRel ι base w0 st.hp w) (hG : GOk P ι st.hp) (h : ∀ τ, runReg c is st τ ≠ none) (Q : Exit → Act → World → Prop)
    (hQ : ∀ a' w', After P base w0 ι st.hp nt (runReg c is st) a' w' → Q .normal a' w') : (Code.region id ops false).wp P Q a w := by
  obtain ⟨h1, h2⟩ := allSome_get _ _ _ ht
  refine wp_region (reg_wp c hc ops Q is (List.range ops.size) ι st a w hF hM hG (by simpa using h1) ?_ h hQ)
  intro j i ins hj hi
  have hlt : j < ops.size := by have := (List.getElem?_eq_some_iff.1 hj).1; simpa using this
  have : i = j := by
    rw [List.getElem?_range hlt] at hj
    exact (Option.some.inj hj).symm
  subst this
  have ho : ops[i]? = some ops[i] := Array.getElem?_eq_getElem hlt
  exact ⟨ops[i], ho, h2 i ops[i] ins (by rw [Array.getElem?_toList]; exact ho) hi⟩
end
end Go.Am

