/-
  THE ABSTRACT MACHINE 'Am', twenty-second part: a region that draws its order, walked.
-/
import Derived.Test.YtpfaceclaigpgaaDoorAm21
namespace Go.Am
open Go.RowKit (Below)

section
variable {P : Program} {w w0 : World} {ι ι0 : Inj} {base nt : Nat}
variable {ops : Array Oper} {bs : List Nat} {is : List Ins} {c : ACall} {st0 : St} {a0 a : Act} {listed : Array Bool} {pre : List Nat} {p : Nat} {stp : St}

theorem prefix_run {is : List Ins} {i : Nat} {st stf : St} {τ τf : Tape} (h : runReg c is st τ = some (stf, τf)) : ∃ sti τi, runReg c (is.take i) st τ = some (sti, τi) := by
  rw [← List.take_append_drop i is, runReg_append] at h
  split at h
  · rename_i sti τi h1; exact ⟨sti, τi, h1⟩
  · cases h

theorem DInv.step (hc : CallSound P base w0 c) (hD : DFacts P nt ops bs is) (hI : DInv P base nt w0 c bs is st0 a0 ι0 ops.size listed a w ι pre p stp) (hF0 : FRel ι0 st0.hp nt st0.fr a0)
    (hdraw : ∀ τ, ∃ st' τ' hs ls, runDraw c is st0 τ [st0.hp] [] = some (st', τ', hs, ls) ∧ chkLoads hs.reverse ls = true) {i : Nat} (hrdy : i ∈ Region.ready .any ops listed) (K : Act → World → Prop) (Q : Exit → Act → World → Prop)
    (hK : ∀ a' w' ι' pre' p' stp', DInv P base nt w0 c bs is st0 a0 ι0 ops.size (listed.setIfInBounds i true) a' w' ι' pre' p' stp' → K a' w') : wpOp P ops Q i K a w := by
  obtain ⟨hun, o, ho, hafter⟩ := mem_ready.1 hrdy
  have hisz : i < ops.size := (Array.getElem?_eq_some_iff.1 ho).1
  have hu : listed.getD i false = false := by
    have hlt : i < listed.size := by rw [hI.size]; exact hisz
    simp [hlt] at hun ⊢; exact hun
  have hil : i < is.length := by rw [hD.len]; exact hisz
  obtain ⟨x, hx⟩ : ∃ x, is[i]? = some x := ⟨is[i], List.getElem?_eq_getElem hil⟩
  have hb : ∀ m, (bs.getD i 0).testBit m = true → listed.getD m false = true := by
    intro m hm
    obtain ⟨e, he, hbind, _, h2⟩ := hD.step i o m ho hm
    have hl := hafter e (by simpa using he) hbind
    rcases h2 with rfl | h2
    · exact hl
    · exact hI.closed e.on m hl h2
  have htot : ∀ τ, runReg c is st0 τ ≠ none := by
    intro τ
    obtain ⟨st', τ', hs, ls, h1, _⟩ := hdraw τ
    rw [(runDraw_spec h1).1]
    exact fun e => by cases e
  have hfull : ∀ τ, ∃ stf τf sti τi sti' τi', runReg c is st0 (Tape.app pre τ) = some (stf, τf) ∧ runReg c (is.take i) st0 (Tape.app pre τ) = some (sti, τi) ∧ runIns c x sti τi = some (sti', τi') := by
    intro τ
    cases hf : runReg c is st0 (Tape.app pre τ) with
    | none => exact absurd hf (htot _)
    | some r =>
      obtain ⟨stf, τf⟩ := r
      obtain ⟨sti, τi, sti', τi', k1, k2, _⟩ := split_at hx hf
      exact ⟨stf, τf, sti, τi, sti', τi', rfl, k1, k2⟩
  obtain ⟨hnt, hdst, hguard, xs, hop, hxs⟩ := hD.ins i o x ho hx
  -- at an effect the run stands at the region's own place
  have hate : x.op.eff = true → ∃ sti, sti.hp = stp.hp ∧ ∀ τ, runReg c (is.take i) st0 (Tape.app pre τ) = some (sti, τ) := by
    intro he
    have hpi : p ≤ i := by
      rcases Nat.lt_or_ge i p with h | h
      · have := (hI.eff i x hx he).1 h
        rw [hu] at this; cases this
      · exact h
    have hst : ∀ y ∈ (is.take i).drop p, y.op.eff = false := by
      intro y hy
      obtain ⟨j, hj, hjy⟩ := mem_drop_get hy
      rw [List.getElem?_take] at hjy
      split at hjy
      · rename_i hlt
        cases hey : y.op.eff with
        | false => rfl
        | true =>
          have := hb j ((hD.parts i j x y hx hjy (by omega)).2.2 he hey hlt)
          have := (hI.eff j y hjy hey).2 this
          omega
      · cases hjy
    have hsplit : is.take i = is.take p ++ (is.take i).drop p := by
      have := List.take_append_drop p (is.take i)
      rw [List.take_take, Nat.min_eq_left hpi] at this
      exact this.symm
    have hrun : ∀ τ, runReg c (is.take i) st0 (Tape.app pre τ) = runReg c ((is.take i).drop p) stp τ := by
      intro τ
      rw [hsplit, runReg_append, hI.run]
      simp only [← hsplit]
    obtain ⟨_, _, sti, τi, _, _, _, k1, _⟩ := hfull (fun _ => 0)
    rw [hrun] at k1
    obtain ⟨b1, _, b3⟩ := runReg_still hst k1
    exact ⟨sti, b1, fun τ => by rw [hrun]; exact b3 τ⟩
  -- is it wanted?
  have hwants : ∀ τ sti τi b, runReg c (is.take i) st0 (Tape.app pre τ) = some (sti, τi) → wants sti.fr x.guard = some b → Region.wanted o (yielded ops a.tmps) = b := by
    intro τ sti τi b hr hw
    have hfr := hI.frame hD hF0 htot hx hu hb hr
    exact wants_sound hfr hguard (by rw [keep_wants]; exact hw)
  unfold wpOp
  simp only [ho]
  cases hwant : Region.wanted o (yielded ops a.tmps) with
  | false =>
    simp only [Bool.false_eq_true, if_false]
    have hput : ∀ τ sti τi sti' τi', runReg c (is.take i) st0 (Tape.app pre τ) = some (sti, τi) → runIns c x sti τi = some (sti', τi') → sti' = ⟨put sti.fr x.dst (.tup []), sti.hp⟩ ∧ ∀ τ2, runIns c x sti τ2 = some (sti', τ2) := by
      intro τ sti τi sti' τi' k1 k2
      have hw := hwants τ sti τi
      unfold runIns at k2 ⊢
      cases hg : wants sti.fr x.guard with
      | none => simp only [hg] at k2; cases k2
      | some b =>
        have := hw b k1 hg
        rw [hwant] at this
        subst this
        simp only [hg, Option.some.injEq, Prod.mk.injEq] at k2 ⊢
        exact ⟨k2.1.symm, fun τ2 => ⟨k2.1, trivial⟩⟩
    cases he : x.op.eff with
    | false =>
      refine hK _ _ ι pre p stp (hI.still hD ho hx hb he undef fun τ sti τi sti' τi' k1 k2 d hd => ?_)
      obtain ⟨rfl, _⟩ := hput τ sti τi sti' τi' k1 k2
      exact ⟨.tup [], by rw [hd]; exact T.get_set_same _ _ _, rfl, trivial⟩
    | true =>
      obtain ⟨sti, hhp, hrun⟩ := hate he
      have hI' := hI.effect hD ho hx hu hb he hrun (v := .tup []) (H' := sti.hp) (ι' := ι) (pre' := []) (w' := w) (fun τ => by
        obtain ⟨_, _, sti2, τi, sti', τi', _, k1, k2⟩ := hfull τ
        rw [hrun] at k1
        cases k1
        obtain ⟨rfl, h2⟩ := hput τ sti τ sti' τi' (hrun τ) k2
        exact h2 τ) (by rw [hhp]; exact hI.mrel) (by rw [hhp]; exact hI.glob) (Ext.refl _ _) (by rw [hhp]; exact Evol.refl _) trivial
      exact hK _ _ _ _ _ _ hI'
  | true =>
    simp only [if_true]
    refine .inl ?_
    have hargs : ∀ τ sti τi sti' τi', runReg c (is.take i) st0 (Tape.app pre τ) = some (sti, τi) → runIns c x sti τi = some (sti', τi') →
        ∃ vs, wants sti.fr x.guard = some true ∧ evOs sti.fr x.args = some vs ∧ xs.map a.eval = cvl ι vs ∧ VsOk stp.hp vs ∧
          ∃ v H τ2, evalOp c x.op vs sti.hp τi = some (v, H, τ2) ∧ sti' = ⟨put sti.fr x.dst v, H⟩ ∧ τi' = τ2 := by
      intro τ sti τi sti' τi' k1 k2
      unfold runIns at k2
      cases hg : wants sti.fr x.guard with
      | none => simp only [hg] at k2; cases k2
      | some b =>
        have := hwants τ sti τi b k1 hg
        rw [hwant] at this
        subst this
        simp only [hg] at k2
        cases hvs : evOs sti.fr x.args with
        | none => simp only [hvs] at k2; cases k2
        | some vs =>
          simp only [hvs] at k2
          have hfr := hI.frame hD hF0 htot hx hu hb k1
          obtain ⟨e1, e2⟩ := evOs_sound hfr hI.glob xs x.args vs hxs (by rw [keep_args]; exact hvs)
          cases hev : evalOp c x.op vs sti.hp τi with
          | none => simp only [hev] at k2; cases k2
          | some r =>
            obtain ⟨v, H, τ2⟩ := r
            simp only [hev, Option.some.injEq, Prod.mk.injEq] at k2
            exact ⟨vs, rfl, rfl, e1, e2, v, H, τ2, hev, k2.1.symm, k2.2.symm⟩
    cases he : x.op.eff with
    | true =>
      obtain ⟨sti, hhp, hrun⟩ := hate he
      obtain ⟨_, _, sti2, τi, sti', τi', _, k1, k2⟩ := hfull (fun _ => 0)
      obtain ⟨vs, hg, hvs, e1, e2, _⟩ := hargs _ sti2 τi sti' τi' k1 k2
      rw [hrun] at k1
      cases k1
      have hne : ∀ τ, evalOp c x.op vs (St.mk (T.leaf : T V) stp.hp).hp τ ≠ none := by
        intro τ hn
        obtain ⟨_, _, sti2, τi, sti', τi', _, k1, k2⟩ := hfull τ
        rw [hrun] at k1
        cases k1
        obtain ⟨vs2, _, hvs2, _, _, v, H, τ2, hev, _⟩ := hargs _ _ _ _ _ (hrun τ) k2
        rw [hvs] at hvs2
        cases hvs2
        rw [hhp] at hev
        rw [show (St.mk (T.leaf : T V) stp.hp).hp = stp.hp from rfl, hev] at hn
        cases hn
      refine op_wp c hc (st := ⟨.leaf, stp.hp⟩) (ι := ι) ⟨hI.defers, hI.tsize, fun t v h => by rw [T.get_leaf] at h; cases h⟩ hI.mrel hI.glob hnt hop e1 e2 hne K Q ?_
      intro v H' ι' pre' w' h3 _ h4 h5 h6 h7 h8
      exact hK _ _ _ _ _ _ (hI.effect hD ho hx hu hb he hrun (v := v) (H' := H') (ι' := ι') (pre' := pre') (w' := w') (fun τ => by
        unfold runIns
        simp only [hg, hvs, hhp, h3]) h4 h5 h6 h7 h8)
    | false =>
      -- a value, or what is read
      have hval : ∀ τ sti τi sti' τi', runReg c (is.take i) st0 (Tape.app pre τ) = some (sti, τi) → runIns c x sti τi = some (sti', τi') →
          ∃ v, sti' = ⟨put sti.fr x.dst v, sti.hp⟩ ∧ (execOp a.eval o).run P w = .ok (.value (cv ι v)) w ∧ VOk stp.hp v := by
        intro τ sti τi sti' τi' k1 k2
        obtain ⟨vs, hg, hvs, e1, e2, v, H, τ2, hev, hst', _⟩ := hargs τ sti τi sti' τi' k1 k2
        have hH : H = sti.hp := by
          have := (runIns_still he k2).1
          rw [hst'] at this
          exact this
        subst hH
        refine ⟨v, hst', ?_⟩
        obtain ⟨dst, op, ty, pos, after, guard⟩ := o
        cases hxop : x.op with
        | p po =>
          rw [hxop] at hev hop
          simp only [evalOp] at hev
          split at hev
          · rename_i v' hv'
            cases hev
            exact pop_sound (P := P) (w := w) (ρ := a.eval) op po xs vs v dst ty pos after guard hop e1 e2 hv'
          · cases hev
        | l lo =>
          rw [hxop] at hev hop
          simp only [evalOp] at hev
          split at hev
          · rename_i v' hv'
            cases hev
            have hsame : evalL lo vs stp.hp = some v := by
              obtain ⟨stf, τf, hs, ls, hd1, hd2⟩ := hdraw (Tape.app pre τ)
              obtain ⟨_, _, _, d4, d5⟩ := runDraw_spec hd1
              have hi1 := d4 i sti τi (by omega) k1
              have hp1 := d4 p stp τ hI.ple (hI.run τ)
              simp only [List.length_nil, Nat.zero_add] at hi1 hp1
              obtain ⟨l, h, hb1, hb2⟩ := hD.rng i x lo hx hxop
              have bp := hb1 p (fun e y hy hey hbit => (hI.eff e y hy hey).2 (hb e hbit)) (fun e y hy hey hlt => by
                cases hbit : (bs.getD e 0).testBit i with
                | false => rfl
                | true =>
                  have := hI.closed e i ((hI.eff e y hy hey).1 hlt) hbit
                  rw [hu] at this; cases this)
              have bi := hb1 i (fun e y hy hey hbit => hD.lt i e hbit) (fun e y hy hey hlt => by
                cases hbit : (bs.getD e 0).testBit i with
                | false => rfl
                | true => have := hD.lt e i hbit; omega)
              rcases hb2 with hrng | ⟨_, rfl⟩
              · have hn : (lo, vs, l, h) ∈ ls := d5 i x sti τi hx k1 hg _ (by
                  unfold noted
                  simp only [hrng, hxop, hvs]
                  exact List.mem_cons_self)
                obtain ⟨v2, hv2⟩ := chkLoads_spec hd2 lo vs l h hn
                have e3 := hv2 _ _ bi.1 bi.2 hi1
                have e4 := hv2 _ _ bp.1 bp.2 hp1
                rw [hv'] at e3
                cases e3
                exact e4
              · have : effN (is.take p) = effN (is.take i) := by omega
                rw [this, hi1] at hp1
                rw [← Option.some.inj hp1]
                exact hv'
            exact lop_sound (P := P) (ρ := a.eval) hI.mrel op lo xs vs v dst ty pos after guard hop e1 hsame
          · cases hev
        | _ => rw [hxop] at he; simp [AOp.eff] at he
      obtain ⟨_, _, sti, τi, sti', τi', _, k1, k2⟩ := hfull (fun _ => 0)
      obtain ⟨v, hst', hexec, hok⟩ := hval _ sti τi sti' τi' k1 k2
      unfold Oper.wp
      rw [hexec]
      refine hK _ _ ι pre p stp (hI.still hD ho hx hb he (cv ι v) fun τ sti τi sti' τi' k1 k2 d hd => ?_)
      obtain ⟨v2, hst2, hexec2, hok2⟩ := hval τ sti τi sti' τi' k1 k2
      rw [hexec] at hexec2
      refine ⟨v2, by rw [hst2, hd]; exact T.get_set_same _ _ _, ?_, hok2⟩
      injection hexec2 with h1
      injection h1

/-- all is listed -/
theorem DInv.done (hD : DFacts P nt ops bs is) (hI : DInv P base nt w0 c bs is st0 a0 ι0 ops.size listed a w ι pre p stp) (hF0 : FRel ι0 st0.hp nt st0.fr a0) (htot : ∀ τ, runReg c is st0 τ ≠ none)
    (hall : Region.ready .any ops listed = []) : After P base w0 ι0 st0.hp nt (runReg c is st0) a w := by
  have hl : ∀ i, i < ops.size → listed.getD i false = true := by
    intro i
    induction i using Nat.strongRecOn with
    | _ i ih =>
      intro hi
      cases hl : listed.getD i false with
      | true => rfl
      | false =>
        have : i ∈ Region.ready .any ops listed := by
          refine mem_ready.2 ⟨?_, ops[i], Array.getElem?_eq_getElem hi, fun e he hb => ?_⟩
          · have hlt : i < listed.size := by rw [hI.size]; exact hi
            simp [hlt] at hl ⊢; exact hl
          · have := hD.edge i ops[i] (Array.getElem?_eq_getElem hi) e (by simpa using he) hb
            exact ih e.on this (by omega)
        rw [hall] at this
        cases this
  have hst : ∀ y ∈ is.drop p, y.op.eff = false := by
    intro y hy
    obtain ⟨j, hj, hjy⟩ := mem_drop_get hy
    cases hey : y.op.eff with
    | false => rfl
    | true =>
      have hjs : j < ops.size := by rw [← hD.len]; exact (List.getElem?_eq_some_iff.1 hjy).1
      have := (hI.eff j y hjy hey).2 (hl j hjs)
      omega
  have hrun : ∀ τ, runReg c is st0 (Tape.app pre τ) = runReg c (is.drop p) stp τ := by
    intro τ
    rw [← List.take_append_drop p is, runReg_append, hI.run]
    simp
  cases hf : runReg c is st0 (Tape.app pre (fun _ => 0)) with
  | none => exact absurd hf (htot _)
  | some r =>
    obtain ⟨stf, τf⟩ := r
    have hf2 := hf
    rw [hrun] at hf2
    obtain ⟨b1, _, b3⟩ := runReg_still hst hf2
    refine ⟨stf, ι, pre, fun τ => by rw [hrun]; exact b3 τ, ⟨hI.defers, hI.tsize, fun t v hv => ?_⟩, by rw [b1]; exact hI.mrel, by rw [b1]; exact hI.glob, hI.ext, by rw [b1]; exact hI.evol⟩
    rw [b1]
    by_cases hd : ∃ (j : Nat) (y : Ins), is[j]? = some y ∧ y.dst = some t
    · obtain ⟨j, y, hy, hyd⟩ := hd
      have hjs : j < ops.size := by rw [← hD.len]; exact (List.getElem?_eq_some_iff.1 hy).1
      obtain ⟨v', m1, m2, m3⟩ := hI.new _ j y t stf τf hy (hl j hjs) hyd hf
      rw [hv] at m1
      cases m1
      exact ⟨m2, m3⟩
    · have e1 : stf.fr.get t = st0.fr.get t := runReg_get hf fun y hy hyd => by
        rw [List.mem_iff_getElem?] at hy
        obtain ⟨j, hj⟩ := hy
        exact hd ⟨j, y, hj, hyd⟩
      rw [e1] at hv
      obtain ⟨k1, k2⟩ := hF0.get t v hv
      rw [hI.old t fun j y hy _ hyd => hd ⟨j, y, hy, hyd⟩, cv_congr hI.ext v k2]
      exact ⟨k1, k2.mono hI.evol⟩

theorem draw_all (hc : CallSound P base w0 c) (hD : DFacts P nt ops bs is) (hF0 : FRel ι0 st0.hp nt st0.fr a0)
    (hdraw : ∀ τ, ∃ st' τ' hs ls, runDraw c is st0 τ [st0.hp] [] = some (st', τ', hs, ls) ∧ chkLoads hs.reverse ls = true) (Q : Exit → Act → World → Prop)
    (hQ : ∀ a' w', After P base w0 ι0 st0.hp nt (runReg c is st0) a' w' → Q .normal a' w') : ∀ (fuel : Nat) (listed : Array Bool) (a : Act) (w : World) (ι : Inj) (pre : List Nat) (p : Nat) (stp : St),
    DInv P base nt w0 c bs is st0 a0 ι0 ops.size listed a w ι pre p stp → (List.range ops.size).countP (fun j => !listed.getD j true) ≤ fuel → wpAny P .any ops Q fuel listed a w := by
  have htot : ∀ τ, runReg c is st0 τ ≠ none := by
    intro τ
    obtain ⟨st', τ', hs, ls, h1, _⟩ := hdraw τ
    rw [(runDraw_spec h1).1]
    exact fun e => by cases e
  intro fuel
  induction fuel with
  | zero =>
    intro listed a w ι pre p stp hI hle
    have hall : Region.ready .any ops listed = [] := by
      rw [List.eq_nil_iff_forall_not_mem]
      intro i hi
      obtain ⟨hun, o, ho, _⟩ := mem_ready.1 hi
      have h0 := List.countP_eq_zero.1 (Nat.le_zero.1 hle) i (List.mem_range.2 (Array.getElem?_eq_some_iff.1 ho).1)
      rw [hun] at h0
      exact h0 rfl
    exact wpAny_done hall (hQ _ _ (hI.done hD hF0 htot hall)) 0
  | succ fuel ih =>
    intro listed a w ι pre p stp hI hle
    refine ⟨fun hall => hQ _ _ (hI.done hD hF0 htot hall), fun i hi => ?_⟩
    refine hI.step hc hD hF0 hdraw hi _ Q fun a' w' ι' pre' p' stp' hI' => ih _ _ _ _ _ _ _ hI' ?_
    obtain ⟨hun, o, ho, _⟩ := mem_ready.1 hi
    have hilt : i < ops.size := (Array.getElem?_eq_some_iff.1 ho).1
    have := count_set (fun j => !listed.getD j true) (fun j => !(listed.setIfInBounds i true).getD j true) i (by simp only [hun]; rfl) (by
      have hlt : i < listed.size := by rw [hI.size]; exact hilt
      simp [hlt]) (fun j hj => by rw [getD_set_ne true (Ne.symm hj)]) ops.size hilt
    omega

/-- A REGION THAT DRAWS ITS ORDER -/
theorem draw_wp (hm : P.follows .mixedOrders = true) (hc : CallSound P base w0 c) (id : Nat) (ht : trDraw P nt ops.toList = some is) {st : St} (hF : FRel ι st.hp nt st.fr a) (hM : MRel ι base w0 st.hp w) (hG : GOk P ι st.hp)
    (hdraw : ∀ τ, ∃ st' τ' hs ls, runDraw c is st τ [st.hp] [] = some (st', τ', hs, ls) ∧ chkLoads hs.reverse ls = true) (Q : Exit → Act → World → Prop)
    (hQ : ∀ a' w', After P base w0 ι st.hp nt (runReg c is st) a' w' → Q .normal a' w') : (Code.region id ops true).wp P Q a w := by
  have hD := dfacts ht
  have hnone : ∀ j, (Array.replicate ops.size false).getD j false = false := by
    intro j
    simp [Array.getElem?_replicate]
    split <;> rfl
  refine wp_region_any hm (draw_all hc hD hF hdraw Q hQ ops.size _ a _ ι [] 0 st ⟨by simp, ?_, ?_, Nat.zero_le _, fun τ => rfl, hM.drew, hG, Ext.refl _ _, Evol.refl _, hF.defers, hF.size, fun _ _ => rfl, ?_⟩ ?_)
  · intro j m hj
    rw [hnone] at hj; cases hj
  · intro j y hy hey
    rw [hnone]
    simp
  · intro τ j x d stf τf hx hl
    rw [hnone] at hl; cases hl
  · exact Nat.le_trans List.countP_le_length (by simp)
end
end Go.Am
