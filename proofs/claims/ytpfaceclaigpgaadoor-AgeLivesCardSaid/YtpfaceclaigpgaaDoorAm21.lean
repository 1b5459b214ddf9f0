/-
  THE ABSTRACT MACHINE 'Am', twenty-first part: regions that draw their order.
-/
import Derived.Orders
import Derived.Test.YtpfaceclaigpgaaDoorAm20
namespace Go.Am
open Go.RowKit (Below)

section
variable {P : Program} {w w0 : World} {ι ι0 : Inj} {base nt : Nat}

/-- what is known of a region that draws its order -/
structure DFacts (P : Program) (nt : Nat) (ops : Array Oper) (bs : List Nat) (is : List Ins) : Prop where
  len : is.length = ops.size
  ins : ∀ (i : Nat) (o : Oper) (x : Ins), ops[i]? = some o → is[i]? = some x →
    o.dst.all (· < nt) = true ∧ x.dst = o.dst ∧ trGuard ops.toList o.guard = some x.guard ∧ ∃ xs, trOp P o.op = some (x.op, xs) ∧ allSome (trO P) xs = some x.args
  step : ∀ (i : Nat) (o : Oper) (m : Nat), ops[i]? = some o → (bs.getD i 0).testBit m = true → ∃ e ∈ o.after.toList, Region.binds .any e = true ∧ e.on < i ∧ (m = e.on ∨ (bs.getD e.on 0).testBit m = true)
  lt : ∀ i m : Nat, (bs.getD i 0).testBit m = true → m < i
  edge : ∀ (i : Nat) (o : Oper), ops[i]? = some o → ∀ e ∈ o.after.toList, Region.binds .any e = true → e.on < i
  parts : ∀ (i j : Nat) (x y : Ins), is[i]? = some x → is[j]? = some y → i ≠ j →
    (∀ d, y.dst = some d → d ∈ readsOf x → (j < i ∧ (bs.getD i 0).testBit j = true) ∨ (i < j ∧ (bs.getD j 0).testBit i = true)) ∧
    (∀ d, x.dst = some d → y.dst ≠ some d) ∧ (x.op.eff = true → y.op.eff = true → j < i → (bs.getD i 0).testBit j = true)
  rng : ∀ (i : Nat) (x : Ins) (lop : LOp), is[i]? = some x → x.op = .l lop → ∃ lo hi,
    (∀ p, (∀ e y, is[e]? = some y → y.op.eff = true → (bs.getD i 0).testBit e = true → e < p) → (∀ e y, is[e]? = some y → y.op.eff = true → e < p → (bs.getD e 0).testBit i = false) → lo ≤ effN (is.take p) ∧ effN (is.take p) ≤ hi) ∧
    (x.rng = some (lo, hi) ∨ (x.rng = none ∧ lo = hi))

theorem dfacts {ops : Array Oper} {is : List Ins} (h : trDraw P nt ops.toList = some is) : DFacts P nt ops (befs ops.toList []) is := by
  unfold trDraw at h
  split at h
  · rename_i is0 h0
    simp only at h
    split at h
    · rename_i hc
      cases h
      simp only [Bool.and_eq_true] at hc
      obtain ⟨he, hp⟩ := hc
      obtain ⟨hl, hg⟩ := allSome_get _ _ _ h0
      refine ⟨by rw [withRng_len, hl]; simp, ?_, ?_, bef_lt he, ?_, ?_, ?_⟩
      · intro i o x ho hx
        obtain ⟨x0, hx0, rfl⟩ := withRng_get hx
        obtain ⟨a1, a2, _, a4, a5⟩ := trIns_inv (hg i o x0 (by rw [Array.getElem?_toList]; exact ho) hx0)
        exact ⟨a1, a2, a4, a5⟩
      · intro i o m ho hm
        exact bef_step he (by rw [Array.getElem?_toList]; exact ho) hm
      · intro i o ho e hm hb
        exact edges_lt he (by rw [Array.getElem?_toList]; exact ho) hm hb
      · intro i j x y hx hy hne
        obtain ⟨x0, hx0, rfl⟩ := withRng_get hx
        obtain ⟨y0, hy0, rfl⟩ := withRng_get hy
        have hpp := parted_get hp hx0 hy0 hne
        exact parted_spec (x := x0) (y := y0) hpp
      · intro i x lop hx hop
        obtain ⟨x0, hx0, rfl⟩ := withRng_get hx
        obtain ⟨lo, hi, h1, h2⟩ := rng_spec (bs := befs ops.toList []) (is := is0) (i := i) (x := x0) hop
        refine ⟨lo, hi, fun p ha hb => ?_, h2⟩
        rw [effN_withRng]
        have hw : ∀ (e : Nat) (y : Ins), is0[e]? = some y → ∃ y' : Ins, (withRng (befs ops.toList []) is0)[e]? = some y' ∧ y'.op = y.op := by
          intro e y hy
          unfold withRng
          rw [List.getElem?_map, List.getElem?_zipIdx, hy]
          exact ⟨_, rfl, rfl⟩
        refine h1 p (fun e y hy hey hb1 => ?_) (fun e y hy hey hlt => ?_)
        · obtain ⟨y', hy', e1⟩ := hw e y hy
          exact ha e y' hy' (by rw [e1]; exact hey) hb1
        · obtain ⟨y', hy', e1⟩ := hw e y hy
          exact hb e y' hy' (by rw [e1]; exact hey) hlt
    · cases h
  · cases h

/-- the run in the order of the text, and what the region has listed -/
structure DInv (P : Program) (base nt : Nat) (w0 : World) (c : ACall) (bs : List Nat) (is : List Ins) (st0 : St) (a0 : Act) (ι0 : Inj) (n : Nat) (listed : Array Bool) (a : Act) (w : World) (ι : Inj) (pre : List Nat) (p : Nat) (stp : St) : Prop where
  size : listed.size = n
  closed : ∀ j m, listed.getD j false = true → (bs.getD j 0).testBit m = true → listed.getD m false = true
  eff : ∀ j x, is[j]? = some x → x.op.eff = true → (j < p ↔ listed.getD j false = true)
  ple : p ≤ is.length
  run : ∀ τ, runReg c (is.take p) st0 (Tape.app pre τ) = some (stp, τ)
  mrel : MRel ι base w0 stp.hp w
  glob : GOk P ι stp.hp
  ext : Ext st0.hp ι0 ι
  evol : Evol st0.hp stp.hp
  defers : a.defers = []
  tsize : nt ≤ a.tmps.size
  old : ∀ t, (∀ j x, is[j]? = some x → listed.getD j false = true → x.dst ≠ some t) → a.tmps[t]? = a0.tmps[t]?
  new : ∀ τ j x d stf τf, is[j]? = some x → listed.getD j false = true → x.dst = some d → runReg c is st0 (Tape.app pre τ) = some (stf, τf) → ∃ v, stf.fr.get d = some v ∧ a.tmps[d]? = some (cv ι v) ∧ VOk stp.hp v

theorem split_at {c : ACall} {is : List Ins} {i : Nat} {x : Ins} (hx : is[i]? = some x) {st stf : St} {τ τf : Tape} (h : runReg c is st τ = some (stf, τf)) :
    ∃ sti τi sti' τi', runReg c (is.take i) st τ = some (sti, τi) ∧ runIns c x sti τi = some (sti', τi') ∧ runReg c (is.drop (i + 1)) sti' τi' = some (stf, τf) := by
  have hlt : i < is.length := (List.getElem?_eq_some_iff.1 hx).1
  have hxe : is[i] = x := (List.getElem?_eq_some_iff.1 hx).2
  have hs : is = is.take i ++ x :: is.drop (i + 1) := by
    rw [← hxe, ← List.drop_eq_getElem_cons hlt, List.take_append_drop]
  rw [hs, runReg_append] at h
  split at h
  · rename_i sti τi h1
    simp only [runReg] at h
    split at h
    · rename_i sti' τi' h2
      exact ⟨sti, τi, sti', τi', h1, h2, h⟩
    · cases h
  · cases h

section
variable {ops : Array Oper} {bs : List Nat} {is : List Ins} {c : ACall} {st0 : St} {a0 a : Act} {listed : Array Bool} {pre : List Nat} {p : Nat} {stp : St}

theorem mem_take_get {α : Type} {l : List α} {i : Nat} {x : α} (h : x ∈ l.take i) : ∃ j, j < i ∧ l[j]? = some x := by
  rw [List.mem_iff_getElem?] at h
  obtain ⟨j, hj⟩ := h
  rw [List.getElem?_take] at hj
  split at hj
  · rename_i hlt; exact ⟨j, hlt, hj⟩
  · cases hj
theorem mem_drop_get {α : Type} {l : List α} {i : Nat} {x : α} (h : x ∈ l.drop i) : ∃ j, i ≤ j ∧ l[j]? = some x := by
  rw [List.mem_iff_getElem?] at h
  obtain ⟨j, hj⟩ := h
  rw [List.getElem?_drop] at hj
  exact ⟨i + j, by omega, hj⟩

/-- the operands of an operation that is ready -/
theorem DInv.reads (hD : DFacts P nt ops bs is) (hI : DInv P base nt w0 c bs is st0 a0 ι0 ops.size listed a w ι pre p stp) (hF0 : FRel ι0 st0.hp nt st0.fr a0) (htot : ∀ τ, runReg c is st0 τ ≠ none)
    {i : Nat} {x : Ins} (hx : is[i]? = some x) (hu : listed.getD i false = false) (hb : ∀ m, (bs.getD i 0).testBit m = true → listed.getD m false = true) {τ τi : Tape} {sti : St}
    (hr : runReg c (is.take i) st0 (Tape.app pre τ) = some (sti, τi)) {t : Nat} (ht : t ∈ readsOf x) {v : V} (hv : sti.fr.get t = some v) : a.tmps[t]? = some (cv ι v) ∧ VOk stp.hp v := by
  have first : (∀ j y, is[j]? = some y → listed.getD j false = true → y.dst ≠ some t) → (∀ j y, j < i → is[j]? = some y → y.dst ≠ some t) → a.tmps[t]? = some (cv ι v) ∧ VOk stp.hp v := by
    intro h1 h2
    rw [hI.old t h1]
    have : sti.fr.get t = st0.fr.get t := runReg_get hr fun y hy => by
      obtain ⟨j, hj, hjy⟩ := mem_take_get hy
      exact h2 j y hj hjy
    rw [this] at hv
    obtain ⟨k1, k2⟩ := hF0.get t v hv
    rw [cv_congr hI.ext v k2]
    exact ⟨k1, k2.mono hI.evol⟩
  by_cases hd : ∃ (j : Nat) (y : Ins), is[j]? = some y ∧ y.dst = some t
  · obtain ⟨j, y, hy, hyd⟩ := hd
    have only : ∀ j' y', is[j']? = some y' → y'.dst = some t → j' = j := by
      intro j' y' hy' hd'
      by_cases e : j' = j
      · exact e
      · exact absurd hyd ((hD.parts j' j y' y hy' hy e).2.1 t hd')
    by_cases e : j = i
    · subst e
      refine first (fun j' y' hy' hl hd' => ?_) (fun j' y' hlt hy' hd' => ?_)
      · have := only j' y' hy' hd'
        subst this
        rw [hu] at hl; cases hl
      · have := only j' y' hy' hd'
        omega
    · rcases (hD.parts i j x y hx hy (Ne.symm e)).1 t hyd ht with ⟨hlt, hbit⟩ | ⟨hlt, hbit⟩
      · have hl := hb j hbit
        cases hf : runReg c is st0 (Tape.app pre τ) with
        | none => exact absurd hf (htot _)
        | some r =>
          obtain ⟨stf, τf⟩ := r
          obtain ⟨sti2, τi2, sti', τi', k1, k2, k3⟩ := split_at hx hf
          rw [hr] at k1
          cases k1
          obtain ⟨v', m1, m2, m3⟩ := hI.new τ j y t stf τf hy hl hyd hf
          have e1 : stf.fr.get t = sti'.fr.get t := runReg_get k3 fun y' hy' hd' => by
            obtain ⟨j', hj', hjy'⟩ := mem_drop_get hy'
            have := only j' y' hjy' hd'
            omega
          have e2 : sti'.fr.get t = sti.fr.get t := runIns_get k2 fun hd' => e (only i x hx hd').symm
          rw [e1, e2, hv] at m1
          cases m1
          exact ⟨m2, m3⟩
      · refine first (fun j' y' hy' hl hd' => ?_) (fun j' y' hlt' hy' hd' => ?_)
        · have := only j' y' hy' hd'
          subst this
          have := hI.closed j' i hl hbit
          rw [hu] at this; cases this
        · have := only j' y' hy' hd'
          omega
  · refine first (fun j' y' hy' _ hd' => hd ⟨j', y', hy', hd'⟩) (fun j' y' _ hy' hd' => hd ⟨j', y', hy', hd'⟩)

/-- the frame that an operation sees -/
theorem DInv.frame (hD : DFacts P nt ops bs is) (hI : DInv P base nt w0 c bs is st0 a0 ι0 ops.size listed a w ι pre p stp) (hF0 : FRel ι0 st0.hp nt st0.fr a0) (htot : ∀ τ, runReg c is st0 τ ≠ none)
    {i : Nat} {x : Ins} (hx : is[i]? = some x) (hu : listed.getD i false = false) (hb : ∀ m, (bs.getD i 0).testBit m = true → listed.getD m false = true) {τ τi : Tape} {sti : St}
    (hr : runReg c (is.take i) st0 (Tape.app pre τ) = some (sti, τi)) : FRel ι stp.hp nt (keepT (readsOf x) sti.fr .leaf) a :=
  ⟨hI.defers, hI.tsize, fun t v h => by
    rw [keepT_get] at h
    split at h
    · rename_i hc
      exact hI.reads hD hF0 htot hx hu hb hr hc.1 h
    · cases h⟩

theorem keep_args (x : Ins) (fr : T V) : evOs (keepT (readsOf x) fr .leaf) x.args = evOs fr x.args :=
  evOs_congr fun t ht => by
    rw [keepT_get]
    split
    · rfl
    · rename_i h
      cases hg : fr.get t with
      | none => rfl
      | some v => exact absurd ⟨args_reads ht, by simp [hg]⟩ h
theorem keep_wants (x : Ins) (fr : T V) : wants (keepT (readsOf x) fr .leaf) x.guard = wants fr x.guard :=
  wants_congr fun t b ht => by
    rw [keepT_get]
    split
    · rfl
    · rename_i h
      cases hg : fr.get t with
      | none => rfl
      | some v => exact absurd ⟨guard_reads ht, by simp [hg]⟩ h

theorem listed_set {listed : Array Bool} {i j : Nat} (hi : i < listed.size) : ((listed.setIfInBounds i true).getD j false = true) ↔ (j = i ∨ listed.getD j false = true) := by
  by_cases e : i = j
  · subst e; simp [hi]
  · rw [getD_set_ne false e]
    constructor
    · exact .inr
    · rintro (h | h)
      · exact absurd h.symm e
      · exact h

theorem put_tmps_ne {a : Act} {dst : Option Tmp} {u : Value} {t : Nat} (h : dst ≠ some t) : (a.put dst u).tmps[t]? = a.tmps[t]? := by
  cases dst with
  | none => rfl
  | some d =>
    simp only [Act.put]
    rw [Array.getElem?_setIfInBounds_ne (fun e => h (by rw [e]))]
theorem put_tmps_eq {a : Act} {d : Nat} {u : Value} (h : d < a.tmps.size) : (a.put (some d) u).tmps[d]? = some u := by
  simp only [Act.put]
  rw [Array.getElem?_setIfInBounds_self_of_lt h]
theorem put_tmps_size {a : Act} {dst : Option Tmp} {u : Value} : (a.put dst u).tmps.size = a.tmps.size := by
  cases dst <;> simp [Act.put]
theorem put_tmps_defers {a : Act} {dst : Option Tmp} {u : Value} : (a.put dst u).defers = a.defers := by
  cases dst <;> rfl

/-- an operation that is no effect is listed -/
theorem DInv.still (hD : DFacts P nt ops bs is) (hI : DInv P base nt w0 c bs is st0 a0 ι0 ops.size listed a w ι pre p stp)
    {i : Nat} {o : Oper} {x : Ins} (ho : ops[i]? = some o) (hx : is[i]? = some x) (hb : ∀ m, (bs.getD i 0).testBit m = true → listed.getD m false = true) (he : x.op.eff = false) (u : Value)
    (hv : ∀ τ sti τi sti' τi', runReg c (is.take i) st0 (Tape.app pre τ) = some (sti, τi) → runIns c x sti τi = some (sti', τi') → ∀ d, x.dst = some d → ∃ v, sti'.fr.get d = some v ∧ u = cv ι v ∧ VOk stp.hp v) :
    DInv P base nt w0 c bs is st0 a0 ι0 ops.size (listed.setIfInBounds i true) (a.put o.dst u) w ι pre p stp := by
  have hi : i < listed.size := by rw [hI.size]; exact (Array.getElem?_eq_some_iff.1 ho).1
  obtain ⟨hnt, hdst, _, _⟩ := hD.ins i o x ho hx
  refine ⟨by simp [hI.size], ?_, ?_, hI.ple, hI.run, hI.mrel, hI.glob, hI.ext, hI.evol, by rw [put_tmps_defers]; exact hI.defers, by rw [put_tmps_size]; exact hI.tsize, ?_, ?_⟩
  · intro j m hj hbit
    rw [listed_set hi] at hj ⊢
    rcases hj with rfl | hj
    · exact .inr (hb m hbit)
    · exact .inr (hI.closed j m hj hbit)
  · intro j y hy hey
    rw [listed_set hi]
    rw [hI.eff j y hy hey]
    constructor
    · exact .inr
    · rintro (rfl | h)
      · rw [hx] at hy; cases hy; rw [he] at hey; cases hey
      · exact h
  · intro t ht
    have h1 : o.dst ≠ some t := by
      rw [← hdst]
      exact ht i x hx ((listed_set hi).2 (.inl rfl))
    rw [put_tmps_ne h1]
    exact hI.old t fun j y hy hl => ht j y hy ((listed_set hi).2 (.inr hl))
  · intro τ j y d stf τf hy hl hd hf
    by_cases e : j = i
    · subst e
      rw [hx] at hy
      cases hy
      obtain ⟨sti, τi, sti', τi', k1, k2, k3⟩ := split_at hx hf
      obtain ⟨v, m1, m2, m3⟩ := hv τ sti τi sti' τi' k1 k2 d hd
      refine ⟨v, ?_, ?_, m3⟩
      · rw [← m1]
        refine runReg_get k3 fun y' hy' hd' => ?_
        obtain ⟨j', hj', hjy'⟩ := mem_drop_get hy'
        exact (hD.parts j j' x y' hx hjy' (by omega)).2.1 d hd hd'
      · rw [← hdst, hd, put_tmps_eq, m2]
        have := hI.tsize
        rw [← hdst, hd] at hnt
        have : d < nt := by simpa using hnt
        omega
    · have hl' : listed.getD j false = true := by
        rcases (listed_set hi).1 hl with h | h
        · exact absurd h e
        · exact h
      obtain ⟨v, m1, m2, m3⟩ := hI.new τ j y d stf τf hy hl' hd hf
      refine ⟨v, m1, ?_, m3⟩
      rw [put_tmps_ne]
      · exact m2
      · rw [← hdst]
        intro hd'
        exact (hD.parts j i y x hy hx e).2.1 d hd hd'

/-- an effect is listed -/
theorem DInv.effect (hD : DFacts P nt ops bs is) (hI : DInv P base nt w0 c bs is st0 a0 ι0 ops.size listed a w ι pre p stp)
    {i : Nat} {o : Oper} {x : Ins} (ho : ops[i]? = some o) (hx : is[i]? = some x) (hu : listed.getD i false = false) (hb : ∀ m, (bs.getD i 0).testBit m = true → listed.getD m false = true) (he : x.op.eff = true) {sti : St}
    (hr : ∀ τ, runReg c (is.take i) st0 (Tape.app pre τ) = some (sti, τ)) {v : V} {H' : Heap} {ι' : Inj} {pre' : List Nat} {w' : World}
    (h1 : ∀ τ, runIns c x sti (Tape.app pre' τ) = some (⟨put sti.fr x.dst v, H'⟩, τ)) (h2 : MRel ι' base w0 H' w') (h3 : GOk P ι' H') (h4 : Ext stp.hp ι ι') (h5 : Evol stp.hp H') (h6 : VOk H' v) :
    DInv P base nt w0 c bs is st0 a0 ι0 ops.size (listed.setIfInBounds i true) (a.put o.dst (cv ι' v)) w' ι' (pre ++ pre') (i + 1) ⟨put sti.fr x.dst v, H'⟩ := by
  have hi : i < listed.size := by rw [hI.size]; exact (Array.getElem?_eq_some_iff.1 ho).1
  obtain ⟨hnt, hdst, _, _⟩ := hD.ins i o x ho hx
  have hil : i < is.length := (List.getElem?_eq_some_iff.1 hx).1
  refine ⟨by simp [hI.size], ?_, ?_, hil, ?_, h2, h3, hI.ext.trans h4 hI.evol.size, hI.evol.trans h5, by rw [put_tmps_defers]; exact hI.defers, by rw [put_tmps_size]; exact hI.tsize, ?_, ?_⟩
  · intro j m hj hbit
    rw [listed_set hi] at hj ⊢
    rcases hj with rfl | hj
    · exact .inr (hb m hbit)
    · exact .inr (hI.closed j m hj hbit)
  · intro j y hy hey
    rw [listed_set hi]
    constructor
    · intro hlt
      by_cases e : j = i
      · exact .inl e
      · exact .inr (hb j ((hD.parts i j x y hx hy (Ne.symm e)).2.2 he hey (by omega)))
    · rintro (rfl | hl)
      · omega
      · by_cases hlt : j < i
        · omega
        · exfalso
          by_cases e : j = i
          · subst e; rw [hu] at hl; cases hl
          · have := hI.closed j i hl ((hD.parts j i y x hy hx e).2.2 hey he (by omega))
            rw [hu] at this; cases this
  · intro τ
    have e1 : is.take (i + 1) = is.take i ++ [x] := by
      rw [List.take_add_one, hx]; rfl
    rw [e1, runReg_append, ← Tape.app_app, hr]
    simp only [runReg, h1]
  · intro t ht
    have h1 : o.dst ≠ some t := by
      rw [← hdst]
      exact ht i x hx ((listed_set hi).2 (.inl rfl))
    rw [put_tmps_ne h1]
    exact hI.old t fun j y hy hl => ht j y hy ((listed_set hi).2 (.inr hl))
  · intro τ j y d stf τf hy hl hd hf
    by_cases e : j = i
    · subst e
      rw [hx] at hy
      cases hy
      obtain ⟨sti2, τi, sti', τi', k1, k2, k3⟩ := split_at hx hf
      rw [← Tape.app_app, hr] at k1
      cases k1
      rw [h1] at k2
      cases k2
      refine ⟨v, ?_, ?_, h6⟩
      · have e2 : stf.fr.get d = (put sti.fr x.dst v).get d := runReg_get k3 fun y' hy' hd' => by
          obtain ⟨j', hj', hjy'⟩ := mem_drop_get hy'
          exact (hD.parts j j' x y' hx hjy' (by omega)).2.1 d hd hd'
        rw [e2, hd]
        exact T.get_set_same _ _ _
      · rw [← hdst, hd, put_tmps_eq]
        have := hI.tsize
        rw [← hdst, hd] at hnt
        have : d < nt := by simpa using hnt
        omega
    · have hl' : listed.getD j false = true := by
        rcases (listed_set hi).1 hl with h | h
        · exact absurd h e
        · exact h
      rw [← Tape.app_app] at hf
      obtain ⟨v', m1, m2, m3⟩ := hI.new (Tape.app pre' τ) j y d stf τf hy hl' hd hf
      refine ⟨v', m1, ?_, m3.mono h5⟩
      rw [put_tmps_ne, cv_congr h4 v' m3]
      · exact m2
      · rw [← hdst]
        intro hd'
        exact (hD.parts j i y x hy hx e).2.1 d hd hd'
end
end
end Go.Am
