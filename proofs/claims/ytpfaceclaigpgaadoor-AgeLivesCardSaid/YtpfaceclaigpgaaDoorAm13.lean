/-
  THE ABSTRACT MACHINE 'Am', thirteenth part: reading memory.
-/
import Derived.Laws.BytesString
import Derived.Laws.BytesArg
import Derived.Laws.IdiomStrings
import Derived.Test.YtpfaceclaigpgaaDoorAm12
namespace Go.Am
open Go.RowKit (Below)

section
variable {P : Program} {w w0 : World} {ι : Inj} {base : Nat} {H : Heap} {ρ : Operand → Value}

theorem cells?_inv {id : Nat} {cs : List V} (h : H.cells? id = some cs) :
    ∃ room fam ver wr pl st fr la, H.blk.get id = some (.mem cs room fam ver wr pl st) ∧ H.fams.get fam = some (fr, la) ∧ fr ≤ ver := by
  unfold Heap.cells? at h
  split at h
  · rename_i cs' room fam ver wr pl st hb
    split at h
    · rename_i fr la hf
      cases hv : Nat.ble fr ver with
      | false => rw [hv] at h; cases h
      | true =>
        rw [hv] at h
        cases h
        exact ⟨room, fam, ver, wr, pl, st, fr, la, hb, hf, Nat.le_of_ble_eq_true hv⟩
    · cases h
  · cases h

theorem MRel.cell (hM : MRel ι base w0 H w) {id : Nat} {cs : List V} (h : H.cells? id = some cs) :
    VsOk H cs ∧ ∀ (j : Nat) (v : V), cs[j]? = some v → w.cell? ⟨(ι id).1, (ι id).2 + j, none⟩ = some (cv ι v) := by
  obtain ⟨room, fam, ver, wr, pl, st, fr, la, hb, hf, hle⟩ := cells?_inv h
  obtain ⟨c, el, lo, up, h1, h2, h3, h4⟩ := hM.ok _ _ _ _ _ _ _ _ _ _ hb hf hle
  exact ⟨(hM.cells _ _ _ _ _ _ _ _ hb).2, fun j v hv => by rw [cell_of_row w _ _ c el (lo, up) h1]; exact h3 j v hv⟩

theorem takeN_spec : ∀ (n : Nat) (l r : List V), takeN n l = some r → r = l.take n ∧ n ≤ l.length := by
  intro n
  induction n with
  | zero => intro l r h; simp only [takeN, Option.some.injEq] at h; subst h; simp
  | succ n ih =>
    intro l r h
    cases l with
    | nil => simp [takeN] at h
    | cons v l =>
      simp only [takeN] at h
      split at h
      · rename_i r' hr
        cases h
        obtain ⟨h1, h2⟩ := ih l r' hr
        subst h1
        exact ⟨rfl, by simpa using h2⟩
      · cases h

theorem loads_inv {id off n : Nat} {cs : List V} (h : H.loads id off n = some cs) : ∃ all, H.cells? id = some all ∧ cs = (all.drop off).take n ∧ cs.length = n := by
  unfold Heap.loads at h
  split at h
  · rename_i all ha
    obtain ⟨h1, h2⟩ := takeN_spec _ _ _ h
    exact ⟨all, ha, h1, by rw [h1, List.length_take]; omega⟩
  · cases h

theorem MRel.load (hM : MRel ι base w0 H w) {id off : Nat} {v : V} (h : H.load id off = some v) :
    VOk H v ∧ w.cell? ⟨(ι id).1, (ι id).2 + off, none⟩ = some (cv ι v) := by
  unfold Heap.load at h
  split at h
  · rename_i cs hc
    obtain ⟨h1, h2⟩ := hM.cell hc
    exact ⟨(VsOk_iff H cs).1 h1 v (List.mem_of_getElem? h), h2 _ _ h⟩
  · cases h

theorem MRel.loads (hM : MRel ι base w0 H w) {id off n : Nat} {cs : List V} (h : H.loads id off n = some cs) :
    VsOk H cs ∧ cs.length = n ∧ (∀ (j : Nat) (v : V), cs[j]? = some v → w.cell? ⟨(ι id).1, (ι id).2 + off + j, none⟩ = some (cv ι v)) ∧
      (loadCells ⟨(ι id).1, (ι id).2 + off, none⟩ n).run P w = .ok (cvl ι cs).toArray w := by
  obtain ⟨all, h1, h2, h3⟩ := loads_inv h
  obtain ⟨k1, k2⟩ := hM.cell h1
  have hc : ∀ (j : Nat) (v : V), cs[j]? = some v → w.cell? ⟨(ι id).1, (ι id).2 + off + j, none⟩ = some (cv ι v) := by
    intro j v hv
    rw [h2] at hv
    have hlt : j < n := by
      have := (List.getElem?_eq_some_iff.1 hv).1
      rw [List.length_take] at this
      omega
    rw [List.getElem?_take_of_lt hlt, List.getElem?_drop] at hv
    rw [Nat.add_assoc]
    exact k2 _ _ hv
  refine ⟨?_, h3, hc, ?_⟩
  · rw [VsOk_iff] at k1 ⊢
    intro v hv
    rw [h2] at hv
    exact k1 v (List.mem_of_mem_drop (List.mem_of_mem_take hv))
  · have hl : (cvl ι cs).length = n := by rw [cvl_length, h3]
    rw [← hl]
    refine run_loadCells_list w _ _ fun j v hv => ?_
    rw [cvl_get] at hv
    cases hj : cs[j]? with
    | none => rw [hj] at hv; cases hv
    | some u =>
      rw [hj] at hv
      cases hv
      rw [add_addr]
      exact hc j u hj

theorem bytesOf_spec : ∀ (cs : List V) (s : List UInt8), bytesOf cs = some s → ∃ ns : List Int, cs = ns.map (V.int .u8) ∧ s = ns.map fun n => UInt8.ofNat n.toNat := by
  intro cs
  induction cs with
  | nil => intro s h; simp only [bytesOf, Option.some.injEq] at h; subst h; exact ⟨[], rfl, rfl⟩
  | cons c cs ih =>
    intro s h
    unfold bytesOf at h
    split at h
    · rename_i heq; cases heq
    · rename_i n l heq
      cases heq
      split at h
      · rename_i r hr
        cases h
        obtain ⟨ns, h1, h2⟩ := ih r hr
        exact ⟨n :: ns, by rw [h1]; rfl, by rw [h2]; rfl⟩
      · cases h
    · cases h

theorem foldl_push (ns : List Int) : ∀ (s : List UInt8), ns.foldl (fun (r : ByteArray) n => r.push (UInt8.ofNat n.toNat)) ⟨s.toArray⟩ = ⟨(s ++ ns.map fun n => UInt8.ofNat n.toNat).toArray⟩ := by
  induction ns with
  | nil => intro s; simp
  | cons n ns ih =>
    intro s
    simp only [List.foldl_cons, List.map_cons]
    have : (ByteArray.mk s.toArray).push (UInt8.ofNat n.toNat) = ⟨(s ++ [UInt8.ofNat n.toNat]).toArray⟩ := by
      apply ByteArray.ext
      simp [ByteArray.push]
    rw [this, ih]
    simp

/-- A READING OPERATION -/
theorem lop_sound (hM : MRel ι base w0 H w) (op : Go.Op) (o : LOp) (xs : List Operand) (vs : List V) (v : V) (dst : Option Tmp) (ty : TypeId) (pos : String) (after : Array Edge) (guard : Option (Nat × Bool))
    (ht : trOp P op = some (.l o, xs)) (hx : xs.map ρ = cvl ι vs) (h : evalL o vs H = some v) :
    (execOp ρ ⟨dst, op, ty, pos, after, guard⟩).run P w = .ok (.value (cv ι v)) w ∧ VOk H v := by
  cases op <;> simp only [trOp] at ht
  case load t x =>
    obtain ⟨⟨d, hd⟩, ht⟩ := kn_some ht
    cases ht
    obtain ⟨a, rfl, ha⟩ := map1 hx
    unfold aggN at h
    cases hag : aggT P t with
    | false =>
      simp only [hag, Bool.false_eq_true, if_false, evalL, lLoad, lLoad1] at h
      split at h
      · rename_i id off heq2
        cases heq2
        obtain ⟨h1, h2⟩ := hM.load h
        refine ⟨?_, h1⟩
        simp only [execOp, ha, cv, Instr.loadAt, Instr.sureAddr, loadVar, Sem.run_bind, Sem.run_pure, Result.andThen_ok, run_isAgg_any t d hd, hag, Bool.false_eq_true, if_false, run_load, h2]
      · cases h
    | true =>
      simp only [hag, if_true, evalL, lLoad, lLoadN] at h
      split at h
      · rename_i id off heq2
        cases heq2
        split at h
        · rename_i cs hcs
          cases h
          obtain ⟨h1, h2, h3, h4⟩ := hM.loads (P := P) hcs
          refine ⟨?_, h1⟩
          simp only [execOp, ha, cv, Instr.loadAt, Instr.sureAddr, loadVar, Sem.run_bind, Sem.run_pure, Result.andThen_ok, run_isAgg_any t d hd, hag, if_true, run_sizeOf_any t d hd, h4]
        · cases h
      · cases h
  case convert s t x =>
    split at ht
    · cases ht
    · cases ht
    · cases ht
    · split at ht <;> cases ht
    · split at ht <;> cases ht
    · rename_i e hs hk
      split at ht
      · rename_i hu8
        cases ht
        obtain ⟨a, rfl, ha⟩ := map1 hx
        have he : P.underlying e = some (.int .u8) := by
          unfold u8T at hu8
          split at hu8
          · rename_i hh; exact hh
          · cases hu8
        simp only [evalL, lBytesStr] at h
        split at h
        · cases h
          rename_i heq2
          cases heq2
          refine ⟨?_, trivial⟩
          simp only [execOp, ha, cv, convert, Sem.run_bind, run_underlying hs, run_underlying hk, run_underlying he, Result.andThen_ok, Conv.bytesToString, Sem.run_pure]
          rfl
        · rename_i id off len clo ex z heq2
          cases heq2
          cases hz : Nat.beq z 1 with
          | false => simp only [hz, cond_false] at h; cases h
          | true =>
            simp only [hz, cond_true] at h
            split at h
            · rename_i cs hcs
              split at h
              · rename_i st hst
                cases h
                obtain ⟨h1, h2, h3, h4⟩ := hM.loads (P := P) hcs
                obtain ⟨ns, rfl, rfl⟩ := bytesOf_spec _ _ hst
                refine ⟨?_, trivial⟩
                have hb := run_bytesToString (P := P) w ⟨(ι id).1, (ι id).2 + off, none⟩ len (clo + ex.getD 0) ns (by rw [h4]; simp [cvl_eq, cv])
                rw [show (ByteArray.empty) = ⟨([] : List UInt8).toArray⟩ from rfl, foldl_push] at hb
                simp only [execOp, ha, cv, convert, Sem.run_bind, run_underlying hs, run_underlying hk, run_underlying he, Result.andThen_ok, hb, Sem.run_pure]
                rfl
              · cases h
            · cases h
        · cases h
      · cases ht
    · cases ht
  case call c =>
    split at ht
    · split at ht <;> cases ht
    · cases ht
    · rename_i b hc
      split at ht
      · rename_i o' hb
        cases ht
        exfalso
        unfold trBuiltin at hb
        repeat' (split at hb)
        all_goals cases hb
      · cases ht
    · cases ht
  case next x b => cases b <;> simp only at ht <;> cases ht
  case makeFunc fn first captured => cases fn <;> simp only at ht <;> cases ht
  all_goals first
    | (cases ht; done)
    | (repeat' (split at ht)) <;> first | (cases ht; done) | (obtain ⟨_, ht⟩ := kn_some ht; cases ht; done)
end
end Go.Am
