/-
  THE ABSTRACT MACHINE 'Am', fourteenth part: laying and writing memory.
-/
import Derived.Test.YtpfaceclaigpgaaDoorAm13
namespace Go.Am
open Go.RowKit (Below)

section
variable {P : Program} {w w0 : World} {ι : Inj} {base : Nat} {H : Heap} {ρ : Operand → Value}

/-- what an effect comes to -/
def EffOk (base : Nat) (w0 : World) (ι : Inj) (H : Heap) (f : Tape → Option (V × Heap × Tape)) (r : Result Next) : Prop :=
  ∃ nx v w' ι' H' pre, r = .ok nx w' ∧ (nx = .value (cv ι' v) ∨ (nx = .skip ∧ v = .tup [])) ∧ (∀ τ, f (Tape.app pre τ) = some (v, H', τ)) ∧ MRel ι' base w0 H' w' ∧ Ext H ι ι' ∧ Evol H H' ∧ VOk H' v

theorem Result.value_run {S : Sem Value} {v : Value} {w' : World} (h : S.run P w = .ok v w') : ((do pure (Next.value (← S)) : Sem Next)).run P w = .ok (.value v) w' := by
  simp only [Sem.run_bind, h, Result.andThen_ok, Sem.run_pure]

theorem repl_length (n : Nat) (l : List V) : (repl n l).length = n * l.length := by
  simp [repl]

theorem repl_get (l : List V) : ∀ (n j : Nat), j < n * l.length → (repl n l)[j]? = l[j % l.length]? := by
  intro n
  induction n with
  | zero => intro j h; simp at h
  | succ n ih =>
    intro j h
    have hl : 0 < l.length := by
      rcases Nat.eq_zero_or_pos l.length with e | e
      · rw [e] at h; simp at h
      · exact e
    rw [repl, List.replicate_succ, List.flatten_cons]
    rcases Nat.lt_or_ge j l.length with hj | hj
    · rw [List.getElem?_append_left hj, Nat.mod_eq_of_lt hj]
    · rw [List.getElem?_append_right hj]
      have := ih (j - l.length) (by rw [Nat.succ_mul] at h; omega)
      rw [repl] at this
      rw [this]
      congr 1
      exact (Nat.mod_eq_sub_mod hj).symm

/-- the model's rows of zero values -/
theorem zeros_eq (ι : Inj) (z : List V) (n : Nat) (hz : z.length ≠ 0) :
    (Array.range (n * z.length)).map ((cvl ι z).toArray[· % (cvl ι z).toArray.size]!) = (cvl ι (repl n z)).toArray := by
  apply Array.ext_getElem?
  intro j
  have hs : (cvl ι z).toArray.size = z.length := by rw [List.size_toArray, cvl_length]
  rcases Nat.lt_or_ge j (n * z.length) with hj | hj
  · have hm : j % z.length < z.length := Nat.mod_lt _ (by omega)
    simp only [Array.getElem?_map, Array.getElem?_range, hj, if_true, Option.map_some, List.getElem?_toArray, cvl_get, repl_get z n j hj, hs]
    rw [getElem!_pos _ _ (by rw [hs]; exact hm)]
    have : z[j % z.length]? = some (z[j % z.length]'hm) := List.getElem?_eq_getElem hm
    rw [this]
    simp [cvl_eq]
  · rw [Array.getElem?_eq_none (by simpa using hj), Array.getElem?_eq_none (by rw [List.size_toArray, cvl_length, repl_length]; exact hj)]

theorem repl_ok {H : Heap} {z : List V} (n : Nat) (h : VsOk H z) : VsOk H (repl n z) := by
  rw [VsOk_iff] at h ⊢
  intro v hv
  simp only [repl, List.mem_flatten, List.mem_replicate] at hv
  obtain ⟨l, ⟨_, rfl⟩, hv⟩ := hv
  exact h v hv

theorem cells_rel (ι : Inj) (l : List V) : ∀ (j : Nat) (v : V), l[j]? = some v → (cvl ι l).toArray[j]? = some (cv ι v) := fun j v hv => by simp [cvl_get, hv]

theorem elemOk_spec {e : TypeId} (h : elemOk P e = true) : ∃ z d, zeroT P e = some z ∧ z.length = P.cellsOf e ∧ P.cellsOf e ≠ 0 ∧ P.underlying e = some d := by
  unfold elemOk at h
  split at h
  · rename_i z hz
    simp only [Bool.and_eq_true, beq_iff_eq, bne_iff_ne, ne_eq] at h
    obtain ⟨d, hd⟩ := Option.isSome_iff_exists.1 h.2
    exact ⟨z, d, hz, h.1.1, h.1.2, hd⟩
  · cases h

theorem run_bytes {e : TypeId} {d : TypeDesc} (h : P.underlying e = some d) (w : World) : ∃ i, (typeInfo e).run P w = .ok i w ∧ i.bytes = P.bytesOf e := by
  obtain ⟨i, hi⟩ := info_some e d h
  exact ⟨i, by simp [typeInfo, hi], by simp [Program.bytesOf, hi]⟩

theorem run_newRow (e : TypeId) (cs : Array Value) : (newRow e cs).run P w = .ok ⟨w.heap.size, 0, none⟩ (w.alloc (.cells cs e)) := by
  simp only [newRow, Sem.run_bind, run_newObj, Result.andThen_ok, Sem.run_pure]
  rfl

/-- a store of cells -/
theorem MRel.stores (hM : MRel ι base w0 H w) {id off : Nat} {vs : List V} {H' : Heap} (hvs : VsOk H vs) (h : H.stores id off vs = some H') :
    ∃ w', (storeCells ⟨(ι id).1, (ι id).2 + off, none⟩ (cvl ι vs)).run P w = .ok () w' ∧ MRel ι base w0 H' w' ∧ Evol H H' := by
  unfold Heap.stores at h
  split at h
  · cases h
    exact ⟨w, rfl, hM, Evol.refl H⟩
  · rename_i hne
    cases hs : vs.all V.scal with
    | false => rw [hs] at h; cases h
    | true =>
      rw [hs, cond_true] at h
      obtain ⟨cs, room, fam, ver, pl, st, fr, cs', hg, hf, hle, hov, rfl⟩ := write_inv h
      have hr : H.room? id = room := by simp only [Heap.room?, hg]
      rw [hr] at hov
      obtain ⟨c, el, lo, hi, h1, h2, h3, h4, h5⟩ := hM.write hg hf hle off vs cs' (fun e => hne e) hov hvs
      refine ⟨_, ?_, h4, h5⟩
      have := run_storeCells_gen P (ι id).1 ((ι id).2 + off) el lo hi (cvl ι vs) 0 c w h1 (by rw [cvl_length]; omega) h3 (by
        intro v hv
        rw [cvl_eq, List.mem_map] at hv
        obtain ⟨u, hu, rfl⟩ := hv
        exact oneCell_scal ι u (List.all_eq_true.1 hs u hu))
      simpa using this

theorem Tape.app_one (a : Nat) (τ : Tape) : Tape.app [a] τ 0 = a ∧ (Tape.app [a] τ).tail = τ := ⟨rfl, rfl⟩

theorem run_choose_cap (need old : Nat) (e : TypeId) : ∃ t, (choose (.appendCap need old e)).run P w = .ok (need + spare need t) w.drew := by
  refine ⟨w.tape w.drawn (.appendCap need old e), ?_⟩
  rw [run_choose]
  simp only [Question.forced, Bool.false_eq_true, if_false, Question.cut, spare]
  rfl

theorem srcLen_ok {x : V} {n : Nat} (h : srcLen x = some n) (w : World) : (Builtin.lenOf (cv ι x)).run P w = .ok n w := by
  unfold srcLen at h
  split at h <;> first | (cases h; done) | skip
  · cases h; rfl
  · cases h; rfl
  · cases h
    simp only [cv, Builtin.lenOf, Sem.run_pure, ByteArray.size, List.size_toArray]

/-- the cells that are handed on -/
theorem MRel.src (hM : MRel ι base w0 H w) {z n : Nat} {x : V} {new : List V} (h : srcCells H z n x = some new) (hn : ∀ m, srcLen x = some m → n ≤ m) :
    (Builtin.firstCells z n (cv ι x)).run P w = .ok (cvl ι new).toArray w ∧ VsOk H new ∧ ((x = .nils → n = 0) → new.length = n * z) := by
  unfold srcCells at h
  split at h
  · cases h
    exact ⟨rfl, trivial, fun hx => by rw [hx rfl]; simp⟩
  · rename_i id off len lo ex z'
    cases hz : Nat.beq z z' with
    | false => rw [hz] at h; cases h
    | true =>
      rw [hz] at h
      obtain ⟨h1, h2, h3, h4⟩ := hM.loads (P := P) h
      exact ⟨h4, h1, fun _ => h2⟩
  · rename_i s
    cases hz : Nat.beq z 1 with
    | false => rw [hz] at h; cases h
    | true =>
      rw [hz] at h
      cases h
      have := Nat.eq_of_beq_eq_true hz
      subst this
      have hle := hn s.length rfl
      refine ⟨?_, ?_, fun _ => by simp only [List.length_map, List.length_take]; omega⟩
      · simp only [cv, Builtin.firstCells, Sem.run_pure, extract_take, List.drop_zero]
        congr 1
        apply Array.ext'
        simp only [cvl_eq, List.map_map]
        simp
        congr 1
      · rw [VsOk_iff]
        intro v hv
        rw [List.mem_map] at hv
        obtain ⟨c, _, rfl⟩ := hv
        trivial
  · cases h

theorem growBy_le (need : Nat) : ∀ (r c : Nat), Builtin.growBy need r c ≤ max c (need + (need + 768) / 4) := by
  intro r
  induction r with
  | zero => intro c; simp only [Builtin.growBy]; omega
  | succ r ih =>
    intro c
    simp only [Builtin.growBy]
    split
    · omega
    · have := ih (c + (c + 768) / 4)
      omega

theorem next_le {need cap : Nat} (h : cap < need) : Builtin.nextslicecap need cap ≤ need + (need + 768) / 4 + need := by
  unfold Builtin.nextslicecap
  split
  · omega
  · split
    · omega
    · have := growBy_le need 4 cap
      omega

theorem next_room {need cap bytes : Nat} (h : cap < need) (h1 : need * bytes ≤ 274877906944) : ¬ Builtin.nextslicecap need cap * bytes > 2 ^ 48 := by
  have h2 := next_le h
  have h3 : Builtin.nextslicecap need cap ≤ 194 * need := by omega
  have h4 := Nat.mul_le_mul_right bytes h3
  have h5 : 194 * need * bytes = 194 * (need * bytes) := by rw [Nat.mul_assoc]
  omega

theorem zeroCells_size (zero : Array Value) (n : Nat) : (Builtin.zeroCells zero n).size = n * zero.size := by simp [Builtin.zeroCells]

theorem run_append_fits {e : TypeId} {d : TypeDesc} (hd : P.underlying e = some d) {sT xT ty : TypeId} {argTypes : Array TypeId} {dx : TypeDesc}
    (ha0 : argTypes[0]? = some sT) (ha1 : argTypes[1]? = some xT) (hs : P.underlying sT = some (.slice e)) (hdx : P.underlying xT = some dx) (hni : ∀ k, dx ≠ .int k)
    {bs : Option Addr} {sLen sCap n : Nat} {X : Value} {nw : Array Value} {w' : World} (hlen : (Builtin.lenOf X).run P w = .ok n w)
    (hfirst : (Builtin.firstCells (P.cellsOf e) n X).run P w = .ok nw w) (hle : sLen + n ≤ sCap)
    (hst : match bs with | some a => (storeCells (a.add (sLen * P.cellsOf e)) nw.toList).run P w = .ok () w' | none => w' = w) :
    (Builtin.append_ argTypes ty #[.slice bs sLen sCap, X]).run P w = .ok (.slice bs (sLen + n) sCap) w' := by
  have hz : ((dx matches .int _) : Bool) = false := by cases dx <;> first | rfl | exact absurd rfl (hni _)
  unfold Builtin.append_
  simp only [ha0, ha1, List.getElem?_toArray, List.getElem?_cons_zero, List.getElem?_cons_succ, Sem.run_bind, run_underlying hs, run_underlying hdx, Result.andThen_ok, run_sizeOf_any e d hd, Sem.run_pure]
  cases dx with
  | int k => exact absurd rfl (hni k)
  | _ =>
    simp only [Bool.false_eq_true, if_false, hlen, Result.andThen_ok, hle, if_true, Bool.not_false, Sem.run_bind, hfirst]
    cases bs with
    | none => subst hst; rfl
    | some a => simp only [Sem.run_bind, hst, Result.andThen_ok, Sem.run_pure]

theorem run_append_grows {e : TypeId} {d : TypeDesc} (hd : P.underlying e = some d) {zv : Value} (hzv : ∀ w, (zeroValue e).run P w = .ok zv w) {sT xT ty : TypeId} {argTypes : Array TypeId} {dx : TypeDesc}
    (ha0 : argTypes[0]? = some sT) (ha1 : argTypes[1]? = some xT) (hs : P.underlying sT = some (.slice e)) (hdx : P.underlying xT = some dx) (hni : ∀ k, dx ≠ .int k)
    {bs : Option Addr} {sLen sCap n : Nat} {X : Value} {old nw : Array Value} (hlen : (Builtin.lenOf X).run P w = .ok n w)
    (hold : (Builtin.firstCells (P.cellsOf e) sLen (.slice bs sLen sCap)).run P w.drew = .ok old w.drew)
    (hfirst : (Builtin.firstCells (P.cellsOf e) n X).run P w.drew = .ok nw w.drew) (hgt : sCap < sLen + n) (hb : (sLen + n) * P.bytesOf e ≤ 274877906944) (hn : sLen + n ≤ 274877906944) :
    ∃ t, (Builtin.append_ argTypes ty #[.slice bs sLen sCap, X]).run P w =
      .ok (.slice (some ⟨w.heap.size, 0, none⟩) (sLen + n) (sLen + n + spare (sLen + n) t)) (w.drew.alloc (.cells (old ++ nw ++ Builtin.zeroCells zv.cells (spare (sLen + n) t)) e)) := by
  obtain ⟨t, ht⟩ := run_choose_cap (P := P) (w := w) (sLen + n) sCap e
  refine ⟨t, ?_⟩
  obtain ⟨i, hi, hbytes⟩ := run_bytes hd w
  obtain ⟨i', hi', _⟩ := run_bytes hd w.drew
  have hroom := next_room hgt hb
  have hbig : ¬ (((sLen + n : Nat) : Int) > IntKind.i64.max) := by rw [IntKind.max_i64]; omega
  unfold Builtin.append_
  simp only [ha0, ha1, List.getElem?_toArray, List.getElem?_cons_zero, List.getElem?_cons_succ, Sem.run_bind, run_underlying hs, run_underlying hdx, Result.andThen_ok, run_sizeOf_any e d hd, Sem.run_pure]
  cases dx with
  | int k => exact absurd rfl (hni k)
  | _ =>
    simp only [Bool.false_eq_true, if_false, hlen, Result.andThen_ok, Nat.not_le.2 hgt, Bool.not_false, if_true, Sem.run_bind, hi, hbytes, hbig, false_and, hroom, ht, hi', run_askRoom, hold, hfirst, hzv, run_newRow, Sem.run_pure]
    simp only [Nat.add_sub_cancel_left]
    rfl
end
end Go.Am
