/-
  THE ABSTRACT MACHINE 'Am', thirtieth part: functions of the library that are known by what they answer: a byte's place in a text; texts joined.
-/
import Derived.Lib.Bytealg
import Derived.Lib.Join
import Derived.Test.YtpfaceclaigpgaaDoorAm29
namespace Go.Am
open Go.RowKit (Below)

/-- the place of the first such byte, counted from i on; -1: none -/
def idxB (n : Nat) : List UInt8 → Nat → Int
  | [], _ => -1
  | b :: l, i => bif Nat.beq b.toNat n then forceN i fun i => .ofNat i else idxB n l (i + 1)

theorem idxB_eq (c : UInt8) : ∀ (l : List UInt8) (i : Nat), idxB c.toNat l i = if Lib.indexByte l c = -1 then -1 else Lib.indexByte l c + i := by
  intro l
  induction l with
  | nil => intro i; rfl
  | cons b l ih =>
    intro i
    simp only [idxB, forceN_eq]
    unfold Lib.indexByte
    by_cases h : b = c
    · subst h
      simp
    · have h1 : Nat.beq b.toNat c.toNat = false := by
        cases hb : Nat.beq b.toNat c.toNat with
        | false => rfl
        | true => exact absurd (UInt8.toNat_inj.1 (Nat.eq_of_beq_eq_true hb)) h
      have h2 : (b == c) = false := by simpa using h
      rw [h1, h2, cond_false, ih]
      have := Lib.indexByte_ge l c
      simp only [Bool.false_eq_true, if_false, beq_iff_eq]
      split
      · rfl
      · rw [if_neg (by omega)]
        push_cast
        omega

def idxP (vs : List V) (H : Heap) (τ : Tape) : Option (V × Heap × Tape) :=
  match vs with
  | [.str s, .int .u8 c] => match c with
    | .ofNat m => some (.int .i64 (idxB (m % 256) s 0), H, τ)
    | .negSucc _ => none
  | _ => none

theorem primOk_idx {P : Program} {f : FuncId} (hp : plainCall P f = true)
    (h : ∀ (s : ByteArray) (c : Int) (w : World), Calls P f #[.string s, .int .u8 c] w fun e w' => e = .returned (.int .i64 (Lib.indexByte s.data.toList c.toNat.toUInt8)) ∧ w' = w) (base : Nat) (w0 : World) : PrimOk P base w0 f idxP := by
  intro vs H ι w hM hG hok hn0
  refine ⟨hp, ?_⟩
  have hn := hn0 (fun _ => 0)
  unfold idxP at hn
  split at hn
  · rename_i s c
    split at hn
    · rename_i m
      refine (h ⟨s.toArray⟩ (.ofNat m) w).mono fun e w' ⟨he, hw⟩ => ?_
      subst hw
      refine ⟨.int .i64 (Lib.indexByte s (UInt8.ofNat m)), H, ι, [], ?_, fun τ => ?_, hM, Ext.refl _ _, Evol.refl _, trivial⟩
      · rw [he]
        rfl
      · have e : m % 256 = (UInt8.ofNat m).toNat := by simp
        simp only [Tape.app, idxP]
        rw [e, idxB_eq]
        split
        · rename_i h1; rw [h1]
        · simp
    · exact absurd rfl hn
  · exact absurd rfl hn

/-- texts out of cells -/
def strsOf : List V → Option (List (List UInt8))
  | [] => some []
  | .str s :: l => match strsOf l with
    | some r => some (s :: r)
    | none => none
  | _ => none

theorem strsOf_spec : ∀ (l : List V) (xs : List (List UInt8)), strsOf l = some xs → l = xs.map V.str := by
  intro l
  induction l with
  | nil => intro xs h; cases h; rfl
  | cons v l ih =>
    intro xs h
    cases v <;> simp only [strsOf] at h <;> first | (cases h; done) | skip
    split at h
    · rename_i r hr
      cases h
      rw [ih _ hr]
      rfl
    · cases h

def joinT (sep : List UInt8) : List (List UInt8) → List UInt8
  | [] => []
  | x :: r => sep ++ (x ++ joinT sep r)
def joinB (sep : List UInt8) : List (List UInt8) → List UInt8
  | [] => []
  | x :: r => x ++ joinT sep r

theorem joinT_eq (sep : List UInt8) (r : List (List UInt8)) : joinT sep r = Lib.joinTail sep r := by
  induction r with
  | nil => rfl
  | cons x r ih => simp [joinT, ih, Lib.joinTail]
theorem joinB_eq (sep : List UInt8) (xs : List (List UInt8)) : joinB sep xs = Lib.join xs sep := by
  cases xs with
  | nil => rfl
  | cons x r => rw [Lib.join_cons, joinB, joinT_eq]

def joinP (vs : List V) (H : Heap) (τ : Tape) : Option (V × Heap × Tape) :=
  match vs with
  | [.nils, .str _] => some (.str [], H, τ)
  | [.sl id off len _ _ z, .str sep] =>
    bif Nat.beq z 1 then
      match H.loads id off len with
      | some cs => match strsOf cs with
        | some xs =>
          let r := joinB sep xs
          bif Nat.ble r.length 140737488355328 && Nat.ble len 140737488355328 then some (.str r, H, τ) else none
        | none => none
      | none => none
    else none
  | _ => none

theorem primOk_join {P : Program} {f : FuncId} (hp : plainCall P f = true)
    (h0 : ∀ (a : Option Addr) (c : Nat) (sep : ByteArray) (w : World), Calls P f #[.slice a 0 c, .string sep] w fun e w' => e = .returned (.string ⟨#[]⟩) ∧ w' = w)
    (h : ∀ (bk o c : Nat) (xs : List ByteArray) (sep : ByteArray) (w : World), (∀ (j : Nat) x, xs[j]? = some x → w.cell? ⟨bk, o + j, none⟩ = some (.string x)) → bk < w.heap.size → xs.length ≤ 140737488355328 → xs.length ≤ c →
      (Lib.join (xs.map (·.data.toList)) sep.data.toList).length ≤ 140737488355328 →
      Calls P f #[.slice (some ⟨bk, o, none⟩) xs.length c, .string sep] w fun e w' => e = .returned (.string ⟨(Lib.join (xs.map (·.data.toList)) sep.data.toList).toArray⟩) ∧ Below w.heap.size w w') (base : Nat) (w0 : World) : PrimOk P base w0 f joinP := by
  intro vs H ι w hM hG hok hn0
  refine ⟨hp, ?_⟩
  have hn := hn0 (fun _ => 0)
  unfold joinP at hn
  split at hn
  · rename_i sep
    refine (h0 none 0 ⟨sep.toArray⟩ w).mono fun e w' ⟨he, hw⟩ => ?_
    subst hw
    refine ⟨.str [], H, ι, [], ?_, fun τ => rfl, hM, Ext.refl _ _, Evol.refl _, trivial⟩
    rw [he]
    rfl
  · rename_i id off len lo ex z sep
    cases hz : Nat.beq z 1 with
    | false => rw [hz, cond_false] at hn; exact absurd rfl hn
    | true =>
      rw [hz, cond_true] at hn
      split at hn
      · rename_i cs hcs
        split at hn
        · rename_i xs hxs
          simp only at hn
          cases hb : (Nat.ble (joinB sep xs).length 140737488355328 && Nat.ble len 140737488355328) with
          | false => rw [hb, cond_false] at hn; exact absurd rfl hn
          | true =>
            have hans : ∀ τ, joinP [.sl id off len lo ex z, .str sep] H τ = some (.str (joinB sep xs), H, τ) := fun τ => by
              simp only [joinP, hz, cond_true, hcs, hxs, hb]
            simp only [Bool.and_eq_true, Nat.ble_eq] at hb
            obtain ⟨hb1, hb2⟩ := hb
            obtain ⟨k1, k2, k3, k4⟩ := MRel.loads (P := P) hM hcs
            have hcs' := strsOf_spec _ _ hxs
            have hlen : xs.length = len := by rw [← k2, hcs']; simp
            have hcap : len ≤ lo + ex.getD 0 := hok.1.2.1
            have hmap : (xs.map fun s => (⟨s.toArray⟩ : ByteArray)).map (fun b => b.data.toList) = xs := by
              rw [List.map_map]
              exact List.map_id' xs
            have hcell : ∀ (j : Nat) x, (xs.map fun s => (⟨s.toArray⟩ : ByteArray))[j]? = some x → w.cell? ⟨(ι id).1, (ι id).2 + off + j, none⟩ = some (.string x) := by
              intro j x hx
              rw [List.getElem?_map] at hx
              cases hj : xs[j]? with
              | none => rw [hj] at hx; cases hx
              | some s =>
                rw [hj] at hx
                cases hx
                exact k3 j (.str s) (by rw [hcs', List.getElem?_map, hj]; rfl)
            cases hlz : len with
            | zero =>
              have : xs = [] := List.length_eq_zero_iff.1 (by omega)
              subst this
              subst hlz
              refine (h0 (some ⟨(ι id).1, (ι id).2 + off, none⟩) (lo + ex.getD 0) ⟨sep.toArray⟩ w).mono fun e w' ⟨he, hw⟩ => ?_
              subst hw
              refine ⟨.str [], H, ι, [], ?_, fun τ => by simpa [joinB, Tape.app] using hans τ, hM, Ext.refl _ _, Evol.refl _, trivial⟩
              rw [he]
              rfl
            | succ m =>
              have hbk : (ι id).1 < w.heap.size := by
                obtain ⟨s, hs⟩ : ∃ s, xs[0]? = some s := ⟨xs[0], List.getElem?_eq_getElem (by omega)⟩
                have := hcell 0 ⟨s.toArray⟩ (by rw [List.getElem?_map, hs]; rfl)
                unfold World.cell? at this
                split at this
                · rename_i hh
                  exact (Array.getElem?_eq_some_iff.1 hh).1
                · cases this
              have hJ : Lib.join ((xs.map fun s => (⟨s.toArray⟩ : ByteArray)).map (fun b => b.data.toList)) (⟨sep.toArray⟩ : ByteArray).data.toList = joinB sep xs := by
                rw [hmap, joinB_eq]
              have hc := h (ι id).1 ((ι id).2 + off) (lo + ex.getD 0) (xs.map fun s => (⟨s.toArray⟩ : ByteArray)) ⟨sep.toArray⟩ w hcell hbk (by rw [List.length_map, hlen]; exact hb2) (by rw [List.length_map, hlen]; exact hcap)
                (by rw [hJ]; exact hb1)
              rw [hJ, List.length_map, hlen, hlz] at hc
              refine hc.mono fun e w' ⟨he, hw⟩ => ?_
              subst hlz
              refine ⟨.str (joinB sep xs), H, ι, [], ?_, hans, hM.keep hw, Ext.refl _ _, Evol.refl _, trivial⟩
              rw [he]
              rfl
        · exact absurd rfl hn
      · exact absurd rfl hn
  · exact absurd rfl hn

/-- tables with functions that are known by what they answer -/
def PrimEnt (p : List V → Heap → Tape → Option (V × Heap × Tape)) : Ent := fun _ _ vs H τ q => effK (p vs H τ) q
theorem tabOf_okP {E : T Ent} {F : T Def} (N : Nat) (h : ∀ f e, E.get f = some e → (∃ fn, F.get f = some (.fn fn) ∧ EntOk fn e) ∨ (∃ p, F.get f = some (.prim p) ∧ e = PrimEnt p)) : TabOk F.get N (tabOf E N) := by
  intro f cK vs H τ k r hr
  unfold tabOf at hr
  split at hr
  · rename_i e he
    rcases h f e he with ⟨fn, h1, h2⟩ | ⟨p, h1, rfl⟩
    · exact .inl ⟨fn, h1, h2 _ _ _ _ _ _ _ hr⟩
    · exact .inr ⟨p, h1, hr⟩
  · cases hr
end Go.Am
