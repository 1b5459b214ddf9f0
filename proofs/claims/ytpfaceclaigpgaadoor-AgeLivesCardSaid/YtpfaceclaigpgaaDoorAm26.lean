/-
  THE ABSTRACT MACHINE 'Am', twenty-sixth part: tables that the text lays; what a law leaves.
-/
import Derived.ChangeArms
import Derived.ChangeSame
import Derived.Carry
import Derived.RowKit
import Derived.Test.YtpfaceclaigpgaaDoorAm25
namespace Go.Am
open Go.RowKit (Below)

/-- plain data, cell by cell -/
def flatV {H : Type} : Nat → DataW H → Option (List V)
  | 0, _ => none
  | n + 1, d => match d with
    | .lit (.int k z) => some [.int k z]
    | .agg ps => match allSome (flatV n) ps with
      | some ls => some ls.flatten
      | none => none
    | _ => none

/-- parts that lie one behind the other -/
def contig : List (Nat × Nat) → Nat → Nat → Bool
  | [], o, n => o == n
  | (p, s) :: l, o, n => p == o && contig l (o + s) n

/-- a type of integers alone, laid without gaps -/
def tyOk (P : Program) : Nat → TypeId → Bool
  | 0, _ => false
  | n + 1, t => match P.underlying t with
    | some (.int _) => true
    | some (.struct fs) => contig (fs.toList.map fun f => (f.offset, P.cellsOf f.type)) 0 (P.cellsOf t) && fs.toList.all fun f => tyOk P n f.type
    | some (.array m e) => contig ((List.range m).map fun i => (i * P.cellsOf e, P.cellsOf e)) 0 (P.cellsOf t) && tyOk P n e
    | _ => false

theorem contig_le : ∀ (l : List (Nat × Nat)) (o n : Nat), contig l o n = true → o ≤ n := by
  intro l
  induction l with
  | nil => intro o n h; simp only [contig, beq_iff_eq] at h; omega
  | cons x l ih =>
    intro o n h
    simp only [contig, Bool.and_eq_true] at h
    have := ih _ _ h.2
    omega

section
variable {H : Type} {enc : TypeId × Value → H} {P : Program} {w : World} {base : Nat} {sp : Nat → Bool} {held : Bool}

theorem flat_parts {α : Type} {fuel m n : Nat} {cs : List Value} (ι : Inj) (ty : α → TypeId) (off sz : α → Nat)
    (ih : ∀ (t : TypeId) (cs : List Value) (d : DataW H) (p : List MemPlace) (l : List V), DataW.trod enc P w base sp held fuel t cs = some (d, p) → tyOk P n t = true → flatV m d = some l → cvl ι l = cs) :
    ∀ (as : List α) (xs : List (DataW H × List MemPlace)) (ls : List (List V)) (o : Nat), as.mapM (fun a => DataW.trod enc P w base sp held fuel (ty a) ((cs.drop (off a)).take (sz a))) = some xs → as.all (fun a => tyOk P n (ty a)) = true →
      allSome (flatV m) (xs.map (·.1)) = some ls → contig (as.map fun a => (off a, sz a)) o cs.length = true → cvl ι ls.flatten = cs.drop o := by
  intro as
  induction as with
  | nil =>
    intro xs ls o h _ h3 h4
    simp only [List.mapM_nil, Option.pure_def, Option.some.injEq] at h
    subst h
    simp only [List.map_nil, allSome, Option.some.injEq] at h3
    subst h3
    simp only [List.map_nil, contig, beq_iff_eq] at h4
    subst h4
    simp [cvl]
  | cons a as iha =>
    intro xs ls o h h2 h3 h4
    simp only [List.mapM_cons, Option.bind_eq_bind, Option.bind_eq_some_iff, Option.pure_def, Option.some.injEq] at h
    obtain ⟨x, hx, xs', hxs', rfl⟩ := h
    simp only [List.all_cons, Bool.and_eq_true] at h2
    simp only [List.map_cons, allSome] at h3
    split at h3
    · rename_i l0 hl0
      split at h3
      · rename_i ls' hls'
        cases h3
        simp only [List.map_cons, contig, Bool.and_eq_true, beq_iff_eq] at h4
        obtain ⟨h5, h6⟩ := h4
        have e1 := ih (ty a) _ x.1 x.2 l0 hx h2.1 hl0
        have e2 := iha xs' ls' (o + sz a) hxs' h2.2 hls' h6
        rw [List.flatten_cons, cvl_append, e1, e2, h5]
        rw [← List.drop_drop]
        exact List.take_append_drop _ _
      · cases h3
    · cases h3

theorem trod_flat (ι : Inj) : ∀ (fuel n m : Nat) (t : TypeId) (cs : List Value) (d : DataW H) (p : List MemPlace) (l : List V), DataW.trod enc P w base sp held fuel t cs = some (d, p) → tyOk P n t = true → flatV m d = some l → cvl ι l = cs := by
  intro fuel
  induction fuel with
  | zero => intro n m t cs d p l h; simp [DataW.trod] at h
  | succ fuel ih =>
    intro n m t cs d p l h ht hl
    cases n with
    | zero => simp [tyOk] at ht
    | succ n =>
      simp only [tyOk] at ht
      split at ht
      · rename_i k hk
        obtain ⟨z, rfl, hx, _⟩ := DataW.trod_int hk h
        cases hx
        cases m with
        | zero => simp [flatV] at hl
        | succ m =>
          simp only [flatV, Option.some.injEq] at hl
          subst hl
          rfl
      · rename_i fs hfs
        simp only [Bool.and_eq_true] at ht
        simp only [DataW.trod, hfs] at h
        split at h
        · rename_i hlen
          obtain ⟨xs, hm, hx⟩ := Option.map_eq_some_iff.1 h
          cases hx
          cases m with
          | zero => simp [flatV] at hl
          | succ m =>
            simp only [flatV] at hl
            split at hl
            · rename_i ls hls
              cases hl
              have := flat_parts (cs := cs) ι (fun f : Field => f.type) (fun f => f.offset) (fun f => P.cellsOf f.type) (fun t cs d p l => ih n m t cs d p l) fs.toList xs ls 0 hm ht.2 hls (by rw [hlen]; exact ht.1)
              simpa using this
            · cases hl
        · cases h
      · rename_i k e hk
        simp only [Bool.and_eq_true] at ht
        simp only [DataW.trod, hk] at h
        split at h
        · rename_i hlen
          obtain ⟨xs, hm, hx⟩ := Option.map_eq_some_iff.1 h
          cases hx
          cases m with
          | zero => simp [flatV] at hl
          | succ m =>
            simp only [flatV] at hl
            split at hl
            · rename_i ls hls
              cases hl
              have := flat_parts (cs := cs) ι (fun _ : Nat => e) (fun i => i * P.cellsOf e) (fun _ => P.cellsOf e) (fun t cs d p l => ih n m t cs d p l) (List.range k) xs ls 0 hm (by simp [ht.2]) hls (by rw [hlen]; exact ht.1)
              simpa using this
            · cases hl
        · cases h
      · cases ht
end

theorem flatV_ok {H : Type} (K : Heap) : ∀ (n : Nat) (d : DataW H) (l : List V), flatV n d = some l → VsOk K l := by
  intro n
  induction n with
  | zero => intro d l h; simp [flatV] at h
  | succ n ih =>
    intro d l h
    simp only [flatV] at h
    split at h
    · cases h; exact ⟨trivial, trivial⟩
    · rename_i ps
      split at h
      · rename_i ls hls
        cases h
        rw [VsOk_iff]
        intro v hv
        obtain ⟨l', hl', hv'⟩ := List.mem_flatten.1 hv
        rw [List.mem_iff_getElem?] at hl'
        obtain ⟨j, hj⟩ := hl'
        obtain ⟨h1, h2⟩ := allSome_get _ _ _ hls
        have hjl : j < ps.length := by rw [← h1]; exact (List.getElem?_eq_some_iff.1 hj).1
        exact (VsOk_iff K l').1 (ih ps[j] l' (h2 j ps[j] l' (List.getElem?_eq_getElem hjl) hj)) v hv'
      · cases h
    · cases h

/-- what a row lists, as the machine's blocks -/
def startOf (P : Program) (laid : List (String × DataW Unit)) : List (Option (List V)) :=
  (List.range P.globals.size).map fun g =>
    match laid.find? fun x => P.globalNamed x.1 == some g && ((P.globals[g]?).map fun gl => tyOk P 5 gl.type) == some true with
    | some x => flatV 5 x.2
    | none => none

theorem laid_mem {P : Program} {W : World} : ∀ (laid : List (String × DataW Unit)) (ps : List MemPlace), DataW.LaidVars P W laid ps → ∀ x ∈ laid, ∃ g t cs fuel p, P.globalNamed x.1 = some g ∧ (P.globals[g]?).map (·.type) = some t ∧ W.var? P x.1 = some cs ∧
    DataW.trod (fun _ => ()) P W 0 (fun _ => true) false fuel t cs.toList = some (x.2, p) := by
  intro laid
  induction laid with
  | nil => intro ps _ x hx; cases hx
  | cons y laid ih =>
    intro ps h x hx
    obtain ⟨n, d⟩ := y
    obtain ⟨g, t, cs, fuel, p, q, h1, h2, h3, h4, h5, _⟩ := h
    rcases List.mem_cons.1 hx with rfl | hx
    · exact ⟨g, t, cs, fuel, p, h1, h2, h3, h4⟩
    · exact ih q h5 x hx

theorem startOf_ok {P : Program} {W : World} {laid : List (String × DataW Unit)} (h : laidMet P laid W) {ι : Inj} (hι : ∀ g, g < P.globals.size → ι g = (g, 0)) (K : Heap) : ∀ id cs, (startOf P laid)[id]? = some (some cs) → VsOk K cs ∧ BOk ι W.heap.size W id cs cs.length false := by
  intro id cs hid
  obtain ⟨ps, hps, _⟩ := h
  unfold startOf at hid
  rw [List.getElem?_map] at hid
  have hlt : id < P.globals.size := by
    rcases Nat.lt_or_ge id P.globals.size with h | h
    · exact h
    · rw [List.getElem?_eq_none (by simpa using h)] at hid; cases hid
  rw [List.getElem?_range hlt] at hid
  simp only [Option.map_some, Option.some.injEq] at hid
  split at hid
  · rename_i x hx
    have hmem := List.mem_of_find?_eq_some hx
    have hprop := List.find?_some hx
    simp only [Bool.and_eq_true, beq_iff_eq] at hprop
    obtain ⟨hg, hty⟩ := hprop
    obtain ⟨g, t, vs, fuel, p, h1, h2, h3, h4⟩ := laid_mem laid ps hps x hmem
    rw [hg] at h1
    obtain rfl := Option.some.inj h1
    have htok : tyOk P 5 t = true := by
      cases hgl : P.globals[id]? with
      | none => rw [hgl] at h2; cases h2
      | some gl =>
        rw [hgl] at h2 hty
        simp only [Option.map_some, Option.some.injEq] at h2 hty
        rw [← h2]; exact hty
    have hcells := trod_flat ι fuel 5 5 t vs.toList x.2 p cs h4 htok hid
    refine ⟨flatV_ok K 5 x.2 cs hid, ?_⟩
    unfold World.var? at h3
    rw [hg] at h3
    simp only [Option.bind_some] at h3
    split at h3
    · rename_i c el fr hheap
      cases h3
      refine ⟨vs, el, fr.1, fr.2, by rw [hι id hlt]; exact hheap, ?_, ?_, fun h => by cases h⟩
      · rw [hι id hlt]
        have := congrArg List.length hcells
        rw [cvl_length] at this
        simp only [Array.length_toList] at this
        simp only
        omega
      · intro j v hv
        rw [hι id hlt]
        have := cvl_get ι cs j
        rw [hv, hcells] at this
        simpa using this
    · cases h3
  · cases hid

/-- what is handed in reads behind the call as it did -/
theorem trodAll_after {H : Type} {enc : TypeId × Value → H} {P : Program} (hl : laidOutB P = true) {W W' : World} (hb : Below W.heap.size W W') : ∀ {ts : List TypeId} {vs : List Value} {ds : List (DataW H)} {ps : List MemPlace},
    (ts.all fun t => P.readableRec t && decide (t < P.types.size)) = true → DataW.TrodAll enc P W 0 (fun _ => true) true ts vs ds ps → (∀ x ∈ ps, x.block < W.heap.size) →
    ∀ sp : Nat → Bool, (∀ p ∈ ps, sp p.block = true) → DataW.TrodAll enc P W' 0 sp true ts vs ds ps := by
  intro ts
  induction ts with
  | nil => intro vs ds ps _ h _ sp _; cases vs <;> cases ds <;> exact h
  | cons t ts ih =>
    intro vs ds ps hk h hlt sp hsp
    cases vs with
    | nil => cases ds <;> exact h.elim
    | cons v vs =>
      cases ds with
      | nil => exact h.elim
      | cons d ds =>
        obtain ⟨p, q, h1, h2, rfl⟩ := h
        simp only [List.all_cons, Bool.and_eq_true, decide_eq_true_eq] at hk
        refine ⟨p, q, ?_, ih hk.2 h2 (fun x hx => hlt x (by simp [hx])) sp (fun x hx => hsp x (by simp [hx])), rfl⟩
        exact WideElems.Trod_stays hl hk.1.1 hk.1.2 h1 (fun x hx => hb.same (hlt x (by simp [hx]))) (fun x hx => hsp x (by simp [hx]))

/-- WHAT A LAW LEAVES: it answers true, and nothing that was there is turned. -/
theorem law_post {H : Type} {enc : TypeId × Value → H} {P : Program} {f : Func} {s : ChangeSpec} {apart fresh handsOn again : Bool} {W W' : World} {args : Array Value} {ds gs : List (DataW H)} {before : List MemPlace} {t : TypeId}
    (hl : laidOutB P = true) (hvars : s.vars = []) (hs : s.fn H (ds ++ gs) = { results := [.lit (.bool true)], args := ds }) (hr : f.resultTypes = #[t]) (ht : P.underlying t = some .bool)
    (hrow : (f.params.toList.all fun t => P.readableRec t && decide (t < P.types.size)) = true)
    (hW : DataW.Whole enc P f.params.toList s.vars apart W args.toList ds gs before) (hb : Below W.heap.size W W') :
    s.post enc P f apart fresh handsOn again W args (.bool true) W' := by
  have hlt : ∀ x ∈ before, x.block < W.heap.size := fun x hx => by simpa using hW.lt x hx
  have hW' := hW
  obtain ⟨p, q, hA, hV, he, hz, hn⟩ := hW
  have hgs : gs = [] ∧ q = [] := by
    rw [hvars] at hV
    cases gs with
    | nil => exact ⟨rfl, hV⟩
    | cons g gs => exact hV.elim
  obtain ⟨rfl, rfl⟩ := hgs
  rw [List.append_nil] at he
  subst he
  have hargs : ∀ sp : Nat → Bool, (∀ x ∈ before, sp x.block = true) → DataW.TrodAll enc P W' 0 sp true f.params.toList args.toList (s.fn H (ds ++ [])).args before := by
    intro sp hsp
    rw [hs]
    exact trodAll_after hl hb hrow hA hlt sp hsp
  have hres : ∀ (b : Nat) (sp : Nat → Bool) (hd : Bool), DataW.TrodAll enc P W' b sp hd f.resultTypes.toList ((Value.bool true).resultList f.resultTypes.size) (s.fn H (ds ++ [])).results [] := by
    intro b sp hd
    rw [hs, hr]
    exact ChangeShapes.trodAll_mk1 (RowKit.shut_bool ht true)
  have hvs : ∀ sp : Nat → Bool, DataW.TrodVars enc P W' sp s.vars (s.fn H (ds ++ [])).vars [] := by
    intro sp
    rw [hvars, hs]
    rfl
  have hold : ∀ x ∈ before, (fun b => decide (b < W.heap.size)) x.block = true := fun x hx => by simpa using hlt x hx
  refine ⟨ds, [], before, [], before, [], hW', hres _ _ _, hargs _ hold, hvs _, World.keptBut_mono (fun x hx => ⟨hx, .inr (by simpa using hx)⟩) (hb.frame _), fun _ => ?_⟩
  refine ⟨RowKit.ok_one hr rfl (RowKit.okWide_bool_mk ht true), _, _, ([] ++ before) ++ [], ⟨[] ++ before, [], ChangeShapes.trodAll_append (hargs _ (fun _ _ => rfl)) (hres _ _ _), hvs _, rfl, ?_, ?_⟩, ?_⟩
  · intro b off hp
    have hp' : MemPlace.cell b off ∈ before := by simpa using hp
    rw [hb.frozen (hlt _ hp')]
    exact hz b off hp'
  · intro ha
    simpa using hn ha
  · intro x hx _
    simpa using hx
end Go.Am
