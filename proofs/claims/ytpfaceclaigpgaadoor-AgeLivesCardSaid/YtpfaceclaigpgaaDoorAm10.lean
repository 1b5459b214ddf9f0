/-
  THE ABSTRACT MACHINE 'Am', tenth part: bounds and slices.
-/
import Derived.Test.YtpfaceclaigpgaaDoorAm9
namespace Go.Am

section
variable {P : Program} {w : World}

/-- a bound as the model is handed it -/
def OptV (v : Option Value) (n : Option Nat) : Prop := (v = none ∧ n = none) ∨ ∃ k m, v = some (.int k (m : Nat)) ∧ n = some m

theorem optN_sound {ι : Inj} {ρ : Operand → Value} {o : Option Operand} {rest : List Operand} {vs vs' : List V} {l : Option Nat}
    (h : optN o.isSome vs = some (l, vs')) (hm : (o.toList ++ rest).map ρ = cvl ι vs) : rest.map ρ = cvl ι vs' ∧ OptV (o.map ρ) l := by
  cases o with
  | none =>
    simp only [Option.isSome_none, optN, Option.some.injEq, Prod.mk.injEq] at h
    obtain ⟨rfl, rfl⟩ := h
    exact ⟨by simpa using hm, .inl ⟨rfl, rfl⟩⟩
  | some a =>
    simp only [Option.toList_some, List.cons_append, List.nil_append] at hm
    obtain ⟨v, r, rfl, hv, hr⟩ := mapCons hm
    simp only [Option.isSome_some] at h
    unfold optN at h
    split at h
    · cases ‹true = false›
    · rename_i heq
      cases heq
      split at h
      · rename_i m hm'
        simp only [Option.some.injEq, Prod.mk.injEq] at h
        obtain ⟨rfl, rfl⟩ := h
        have := natOf_some hm'
        subst this
        exact ⟨hr, .inr ⟨_, m, by rw [Option.map_some, hv]; rfl, rfl⟩⟩
      · cases h
    · cases h

theorem bounds3_sound {ι : Inj} {ρ : Operand → Value} {lo hi mx : Option Operand} {vs : List V} {l h m : Option Nat}
    (hb : bounds3 lo.isSome hi.isSome mx.isSome vs = some (l, h, m)) (hm : (lo.toList ++ hi.toList ++ mx.toList).map ρ = cvl ι vs) :
    OptV (lo.map ρ) l ∧ OptV (hi.map ρ) h ∧ OptV (mx.map ρ) m := by
  unfold bounds3 at hb
  split at hb
  · rename_i l' vs1 h1
    split at hb
    · rename_i h' vs2 h2
      split at hb
      · rename_i m' h3
        cases hb
        obtain ⟨r1, o1⟩ := optN_sound h1 (by rw [List.append_assoc] at hm; exact hm)
        obtain ⟨r2, o2⟩ := optN_sound h2 r1
        obtain ⟨_, o3⟩ := optN_sound (rest := []) h3 (by simpa using r2)
        exact ⟨o1, o2, o3⟩
      · cases hb
    · cases hb
  · cases hb

theorem OptV.isSome {v : Option Value} {n : Option Nat} (h : OptV v n) : v.isSome = n.isSome := by
  rcases h with ⟨rfl, rfl⟩ | ⟨k, m, rfl, rfl⟩ <;> rfl

theorem run_bound (k : IntKind) (n y : Nat) (code : BoundsCode) (h : n ≤ y) : (Instr.sliceBound (.int k (n : Int)) y code).run P w = .ok n w := by
  rw [run_sliceBound _ k n y code (by omega) (by omega)]; rfl

theorem sliceBounds_run (isSlice : Bool) (len cap : Nat) {lv hv mv : Option Value} {l h m : Option Nat} (ol : OptV lv l) (oh : OptV hv h) (om : OptV mv m)
    (hm : m.isSome = true → h.isSome = true) (h1 : m.getD cap ≤ cap) (h2 : h.getD len ≤ m.getD cap) (h3 : l.getD 0 ≤ h.getD len) :
    (Instr.sliceBounds isSlice len cap lv hv mv).run P w = .ok (l.getD 0, h.getD len, m.getD cap) w := by
  rcases om with ⟨rfl, rfl⟩ | ⟨km, m, rfl, rfl⟩
  · rcases oh with ⟨rfl, rfl⟩ | ⟨kh, h, rfl, rfl⟩
    · rcases ol with ⟨rfl, rfl⟩ | ⟨kl, l, rfl, rfl⟩
      · simp [Instr.sliceBounds]
      · simp only [Option.getD_some, Option.getD_none] at h1 h2 h3
        simp [Instr.sliceBounds, run_bound kl l len _ h3]
    · simp only [Option.getD_some, Option.getD_none] at h1 h2 h3
      rcases ol with ⟨rfl, rfl⟩ | ⟨kl, l, rfl, rfl⟩
      · simp [Instr.sliceBounds, run_bound kh h cap _ h2]
      · simp only [Option.getD_some] at h3
        simp [Instr.sliceBounds, run_bound kh h cap _ h2, run_bound kl l h _ h3]
  · rcases oh with ⟨rfl, rfl⟩ | ⟨kh, h, rfl, rfl⟩
    · simp at hm
    · simp only [Option.getD_some] at h1 h2 h3
      rcases ol with ⟨rfl, rfl⟩ | ⟨kl, l, rfl, rfl⟩
      · simp [Instr.sliceBounds, run_bound km m cap _ h1, run_bound kh h m _ h2]
      · simp only [Option.getD_some] at h3
        simp [Instr.sliceBounds, run_bound km m cap _ h1, run_bound kh h m _ h2, run_bound kl l h _ h3]

theorem within_le {m lo : Nat} {ex : Option Nat} (h : within m lo ex = true) : m ≤ lo + ex.getD 0 := by
  unfold within at h
  cases hb : Nat.ble m lo with
  | true => have := Nat.le_of_ble_eq_true hb; omega
  | false =>
    rw [hb] at h
    cases ex with
    | none => cases h
    | some e => simpa using Nat.le_of_ble_eq_true h

/-- what a cut gives -/
theorem slCut_inv {id off len lo : Nat} {ex : Option Nat} {z : Nat} {l h m : Option Nat} {v : V} (hm : m.isSome = true → h.isSome = true) (hlen : len ≤ lo + ex.getD 0)
    (hc : slCut id off len lo ex z l h m = some v) :
    m.getD (lo + ex.getD 0) ≤ lo + ex.getD 0 ∧ h.getD len ≤ m.getD (lo + ex.getD 0) ∧ l.getD 0 ≤ h.getD len ∧
      ∃ lo' ex', v = .sl id (offAt off (l.getD 0) (m.getD (lo + ex.getD 0)) z) (h.getD len - l.getD 0) lo' ex' z ∧ lo' + ex'.getD 0 = m.getD (lo + ex.getD 0) - l.getD 0 ∧ (ex'.isSome = true → ex.isSome = true) := by
  unfold slCut at hc
  split at hc
  · rename_i m'
    cases hb : (within m' lo ex && Nat.ble (h.getD len) m' && Nat.ble (l.getD 0) (h.getD len)) with
    | false => simp only [hb, cond_false] at hc; cases hc
    | true =>
      simp only [hb, cond_true] at hc
      cases hc
      simp only [Bool.and_eq_true] at hb
      have h1 := within_le hb.1.1
      have h2 := Nat.le_of_ble_eq_true hb.1.2
      have h3 := Nat.le_of_ble_eq_true hb.2
      exact ⟨h1, h2, h3, _, _, rfl, by simp, by simp⟩
  · cases hb : (within (h.getD len) lo ex && Nat.ble (l.getD 0) (h.getD len)) with
    | false => simp only [hb, cond_false] at hc; cases hc
    | true =>
      simp only [hb, cond_true] at hc
      simp only [Bool.and_eq_true] at hb
      have h1 := within_le hb.1
      have h3 := Nat.le_of_ble_eq_true hb.2
      cases hl : Nat.ble (l.getD 0) lo with
      | true =>
        simp only [hl, cond_true] at hc
        cases hc
        have := Nat.le_of_ble_eq_true hl
        exact ⟨by simp, by simpa using h1, h3, _, _, by rw [offIn_eq]; rfl, by simp only [Option.getD_none]; omega, fun he => he⟩
      | false =>
        simp only [hl, cond_false] at hc
        cases hc
        have hlt : lo < l.getD 0 := by
          rcases Nat.lt_or_ge lo (l.getD 0) with hh | hh
          · exact hh
          · rw [Nat.ble_eq_true_of_le hh] at hl; cases hl
        refine ⟨by simp, by simpa using h1, h3, _, _, by rw [offIn_eq]; rfl, by simp, fun _ => ?_⟩
        cases ex with
        | none => simp only [Option.getD_none] at h1; omega
        | some e => rfl

theorem offAt_le (off l m z : Nat) : offAt off l m z ≤ off + l * z := by
  unfold offAt
  cases Nat.beq m l <;> simp

theorem slCut_ok {H : Heap} {id off len lo : Nat} {ex : Option Nat} {z : Nat} {l h m : Option Nat} {v : V} (hm : m.isSome = true → h.isSome = true)
    (hv : VOk H (.sl id off len lo ex z)) (hc : slCut id off len lo ex z l h m = some v) : VOk H v := by
  obtain ⟨k1, k2, k3⟩ := hv
  obtain ⟨h1, h2, h3, lo', ex', rfl, h4, h5⟩ := slCut_inv hm k2 hc
  refine ⟨k1, by rw [h4]; omega, fun he => ?_⟩
  obtain ⟨k, kc⟩ := k3 (h5 he)
  rw [h4]
  have hle := offAt_le off (l.getD 0) (m.getD (lo + ex.getD 0)) z
  have : l.getD 0 * z + (m.getD (lo + ex.getD 0) - l.getD 0) * z = m.getD (lo + ex.getD 0) * z := by
    rw [← Nat.add_mul]; congr 1; omega
  have := Nat.mul_le_mul_right z h1
  exact ⟨by omega, by omega⟩

/-- the model's address of a cut slice -/
theorem cut_addr (b o off l m z : Nat) : (if m = l then (⟨b, o + off, none⟩ : Addr) else Addr.add ⟨b, o + off, none⟩ (l * z)) = ⟨b, o + offAt off l m z, none⟩ := by
  unfold offAt
  by_cases e : m = l
  · subst e; simp
  · have : Nat.beq m l = false := by
      cases h : Nat.beq m l with
      | false => rfl
      | true => exact absurd (Nat.eq_of_beq_eq_true h) e
    rw [if_neg e, this, cond_false, add_addr, Nat.add_assoc]
end
end Go.Am
