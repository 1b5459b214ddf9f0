/-
  THE ABSTRACT MACHINE 'Am', eighth part: equality, parts, slices, the other operations on values.
-/
import Derived.Test.YtpfaceclaigpgaaDoorAm7
namespace Go.Am
open Go.RowKit (Below)

section
variable {P : Program} {w : World}

theorem run_isAgg_any (t : TypeId) (d : TypeDesc) (h : P.underlying t = some d) (w : World) : (isAgg t).run P w = .ok (aggT P t) w := by
  simp only [isAgg, Sem.run_bind, run_underlying h, Result.andThen_ok, aggT, h]
  cases d <;> rfl

theorem info_some (t : TypeId) (d : TypeDesc) (h : P.underlying t = some d) : ∃ i, P.info? t = some i := by
  unfold Program.underlying at h
  cases hi : P.info? t with
  | none => simp [hi] at h
  | some i => exact ⟨i, rfl⟩

theorem run_sizeOf_any (t : TypeId) (d : TypeDesc) (h : P.underlying t = some d) (w : World) : (sizeOf t).run P w = .ok (P.cellsOf t) w := by
  obtain ⟨i, hi⟩ := info_some t d h
  simp [sizeOf, typeInfo, hi, Program.cellsOf]

theorem eqS_bool {x y : V} {b : Bool} (h : eqS .bool x y = some b) : ∃ p q, x = .bool p ∧ y = .bool q ∧ b = (p == q) := by
  unfold eqS at h
  split at h <;> first | exact ⟨_, _, rfl, rfl, (Option.some.inj h).symm⟩ | contradiction | simp_all
theorem eqS_str {x y : V} {b : Bool} (h : eqS .str x y = some b) : ∃ p q, x = .str p ∧ y = .str q ∧ b = eqB p q := by
  unfold eqS at h
  split at h <;> first | exact ⟨_, _, rfl, rfl, (Option.some.inj h).symm⟩ | contradiction | simp_all
theorem eqS_int {x y : V} {b : Bool} (h : eqS .int x y = some b) : ∃ k p q, x = .int k p ∧ y = .int k q ∧ b = (p == q) := by
  unfold eqS at h
  split at h <;> first | contradiction | skip
  · split at h
    · rename_i hk
      subst hk
      exact ⟨_, _, _, rfl, rfl, (Option.some.inj h).symm⟩
    · cases h
  all_goals simp_all

theorem eqS_sound {e : E} {x y : V} {b : Bool} (ι : Inj) (t : TypeId) (d : Nat) (he : eqOf P t = some e) (hn : ∀ es, e ≠ .flat es) (h : eqS e x y = some b) :
    (Go.Op.equalIn (d + 1) t (cv ι x) (cv ι y)).run P w = .ok b w := by
  unfold eqOf at he
  split at he
  all_goals first | (cases he; done) | skip
  case h_1 hu =>
    cases he
    obtain ⟨p, q, rfl, rfl, rfl⟩ := eqS_bool h
    exact run_equalIn_bool' w d t p q hu
  case h_6 hu =>
    split at he
    · split at he
      · cases he; exact absurd rfl (hn _)
      · cases he
    · cases he
  all_goals
    rename_i hu
    cases he
    unfold eqS at h
    split at h <;> first | contradiction | skip
  all_goals
    first
    | (cases h
       simp only [cv, Go.Op.equalIn, Sem.run_bind, run_underlying hu, Result.andThen_ok]
       rfl)
    | simp_all

theorem eq1_sound {e : E} {x y : V} {b : Bool} (ι : Inj) (t : TypeId) (d : Nat) (he : eq1 P t = some e) (h : eqS e x y = some b) :
    (Go.Op.equalIn (d + 1) t (cv ι x) (cv ι y)).run P w = .ok b w := by
  unfold eq1 at he
  split at he
  · rename_i hu
    cases he
    obtain ⟨p, q, rfl, rfl, rfl⟩ := eqS_bool h
    exact run_equalIn_bool' w d t p q hu
  · rename_i k hu
    cases he
    obtain ⟨k, p, q, rfl, rfl, rfl⟩ := eqS_int h
    exact run_equalIn_int w d t k _ p q hu
  · rename_i hu
    cases he
    obtain ⟨p, q, rfl, rfl, rfl⟩ := eqS_str h
    simp only [cv]
    rw [run_equalIn_string w d t _ _ hu, eqB_eq, ByteArray.toList_mk, ByteArray.toList_mk]
  · cases he

theorem run_part_one (t : TypeId) (d : TypeDesc) (hu : P.underlying t = some d) (ha : aggT P t = false) (cs : Array Value) (off : Nat) (v : Value) (h : cs[off]? = some v) :
    (part t cs off).run P w = .ok v w := by
  simp [part, run_isAgg_any t d hu, ha, h]

theorem eq1_under {t : TypeId} {e : E} (h : eq1 P t = some e) : ∃ d, P.underlying t = some d := by
  unfold eq1 at h
  cases hu : P.underlying t with
  | none => simp [hu] at h
  | some d => exact ⟨d, rfl⟩

theorem eqFlat_sound (ι : Inj) (d : Nat) : ∀ (fs : List Field) (off : Nat) (es : List E) (xs ys : List V) (X Y : Array Value) (b : Bool),
    Am.eqFields P fs off = some es → eqFlat es xs ys = some b → (∀ (j : Nat) (v : V), xs[j]? = some v → X[off + j]? = some (cv ι v)) → (∀ (j : Nat) (v : V), ys[j]? = some v → Y[off + j]? = some (cv ι v)) →
    (Go.Op.eqFields (d + 1) X Y fs).run P w = .ok b w := by
  intro fs
  induction fs with
  | nil =>
    intro off es xs ys X Y b he h hX hY
    simp only [Am.eqFields] at he
    cases he
    unfold eqFlat at h
    split at h <;> simp_all [Go.Op.eqFields]
  | cons f fs ih =>
    intro off es xs ys X Y b he h hX hY
    simp only [Am.eqFields] at he
    split at he
    · rename_i hc
      obtain ⟨h1, h2, h3⟩ := hc
      split at he
      · rename_i e es' he1 he2
        cases he
        cases xs with
        | nil => simp [eqFlat] at h
        | cons x xs =>
          cases ys with
          | nil => simp [eqFlat] at h
          | cons y ys =>
            obtain ⟨dd, hu⟩ := eq1_under he1
            have hx : X[f.offset]? = some (cv ι x) := by have := hX 0 x rfl; rw [h2]; simpa using this
            have hy : Y[f.offset]? = some (cv ι y) := by have := hY 0 y rfl; rw [h2]; simpa using this
            simp only [Go.Op.eqFields]
            rw [if_pos h1]
            simp only [Sem.run_bind, run_part_one f.type dd hu h3 _ _ _ hx, run_part_one f.type dd hu h3 _ _ _ hy, Result.andThen_ok]
            simp only [eqFlat] at h
            cases hs : eqS e x y with
            | none => rw [hs] at h; cases h
            | some b1 =>
              rw [hs] at h
              rw [eq1_sound ι f.type d he1 hs]
              simp only [Result.andThen_ok]
              cases b1 with
              | false => cases h; rfl
              | true =>
                simp only [Bool.not_true, Bool.false_eq_true, if_false]
                refine ih (off + 1) es' xs ys X Y b he2 h (fun j v hv => ?_) (fun j v hv => ?_)
                · have := hX (j + 1) v (by simpa using hv)
                  rw [show off + 1 + j = off + (j + 1) from by omega]; exact this
                · have := hY (j + 1) v (by simpa using hv)
                  rw [show off + 1 + j = off + (j + 1) from by omega]; exact this
      · cases he
    · cases he

theorem eqV_sound {e : E} {x y : V} {b : Bool} (ι : Inj) (t : TypeId) (he : eqOf P t = some e) (h : eqV e x y = some b) (op : BinOp) (ox oy : Operand) :
    (Go.Op.equal t (cv ι x) (cv ι y)).run P w = .ok b w ∧ (eqGuard op t ox oy (cv ι x) (cv ι y)).run P w = .ok () w := by
  unfold eqV at h
  split at h
  · rename_i es xs ys
    unfold eqOf at he
    split at he
    all_goals first | (cases he; done) | skip
    rename_i fs hu
    split at he
    · rename_i hc
      split at he
      · rename_i es' hes
        cases he
        have hf : P.fieldsOf t = fs := by simp [Program.fieldsOf, hu]
        refine ⟨?_, ?_⟩
        · simp only [cv, Go.Op.equal, Go.Op.maxDepth]
          rw [run_equalIn_struct w 9999 t _ _ (by rw [hf]; exact hu) hc.1, hf]
          exact eqFlat_sound ι 9998 fs.toList 0 es xs ys _ _ b hes h (fun j v hv => by simp [cvl_get, hv]) (fun j v hv => by simp [cvl_get, hv])
        · simp only [cv]
          exact run_eqGuard_agg w op t ox oy _ _ hc.2
      · cases he
    · cases he
  · rename_i hnf
    have hn : ∀ es, e ≠ .flat es := by
      rintro es rfl
      cases x <;> cases y <;> simp [eqS] at h
    refine ⟨?_, ?_⟩
    · simp only [Go.Op.equal, Go.Op.maxDepth]
      exact eqS_sound ι t 9999 he hn h
    · cases e <;> cases x <;> cases y <;> simp [eqS] at h <;> first | (cases op <;> rfl) | exact absurd rfl (hn _)
end
end Go.Am
