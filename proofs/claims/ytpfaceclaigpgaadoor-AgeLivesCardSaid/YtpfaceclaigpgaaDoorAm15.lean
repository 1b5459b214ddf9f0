/-
  THE ABSTRACT MACHINE 'Am', fifteenth part: append, and the other effects.
-/
import Derived.Test.YtpfaceclaigpgaaDoorAm14
namespace Go.Am
open Go.RowKit (Below)

section
variable {P : Program} {w w0 : World} {ι : Inj} {base : Nat} {H : Heap} {ρ : Operand → Value}

theorem fresh_eq (H : Heap) (cells : List V) (len z t : Nat) :
    fresh H cells len z t = (.sl H.size 0 len len (some (spare len t)) z, H.new cells ((len + spare len t) * z) false) := rfl

theorem spare_lt {n t : Nat} (h : n ≤ 274877906944) : n + spare n t < 9223372036854775808 := by
  have := Nat.mod_lt t (show 0 < 9223372036854775808 - n by omega)
  unfold spare
  omega

theorem spare_of {n c : Nat} (h : n ≤ c) (hc : c < 9223372036854775808) : spare n (c - n) = c - n := Nat.mod_eq_of_lt (by omega)

/-- a new row of cells, some of them spare -/
theorem MRel.fresh (hM : MRel ι base w0 H w) (cells : List V) (len z t : Nat) (c : Array Value) (e : TypeId) (hvs : VsOk H cells) (hlen : cells.length = len * z) (hn : len ≤ 274877906944)
    (hsz : c.size = (len + spare len t) * z) (hc : ∀ (j : Nat) (v : V), cells[j]? = some v → c[j]? = some (cv ι v)) :
    MRel (upd ι H.size (w.heap.size, 0)) base w0 (fresh H cells len z t).2 (w.alloc (.cells c e)) ∧ Evol H (fresh H cells len z t).2 ∧ VOk (fresh H cells len z t).2 (fresh H cells len z t).1 ∧
      cv (upd ι H.size (w.heap.size, 0)) (fresh H cells len z t).1 = .slice (some ⟨w.heap.size, 0, none⟩) len (len + spare len t) := by
  rw [fresh_eq]
  refine ⟨hM.new cells _ false c e hvs (by rw [hlen]; exact Nat.mul_le_mul_right z (Nat.le_add_right _ _)) (by rw [hsz]; exact Nat.le_refl _) hc, Evol.new hM _ _ _, ?_, ?_⟩
  · refine ⟨Nat.lt_succ_self _, Nat.le_add_right _ _, fun _ => ⟨?_, spare_lt hn⟩⟩
    simp only [Heap.room?, get_new_new, Option.getD_some, Nat.zero_add]
    exact Nat.le_refl _
  · simp only [cv, upd_same, Option.getD_some]

theorem row_cells (ι : Inj) (a b : List V) (r : Array Value) (j : Nat) (v : V) (h : (a ++ b)[j]? = some v) : ((cvl ι a).toArray ++ (cvl ι b).toArray ++ r)[j]? = some (cv ι v) := by
  have hlt : j < (a ++ b).length := (List.getElem?_eq_some_iff.1 h).1
  rw [List.length_append] at hlt
  rw [Array.getElem?_append_left (by simp [cvl_length]; omega)]
  have : (cvl ι a).toArray ++ (cvl ι b).toArray = (cvl ι (a ++ b)).toArray := by simp [cvl_append]
  rw [this]
  exact cells_rel ι _ j v h

/-- 'append' -/
theorem append_sound (hM : MRel ι base w0 H w) {e : TypeId} (he : elemOk P e = true) {s x : V} {n : Nat} {new : List V} {sT xT ty : TypeId} {argTypes : Array TypeId}
    (ha0 : argTypes[0]? = some sT) (ha1 : argTypes[1]? = some xT) (hs : P.underlying sT = some (.slice e)) (hx : ∃ d, P.underlying xT = some d ∧ ∀ k, d ≠ .int k)
    (hok : VOk H s) (hlen : srcLen x = some n) (hsrc : srcCells H (P.cellsOf e) n x = some new) (h : ∀ τ, append H (P.cellsOf e) (P.bytesOf e) s n new τ ≠ none) :
    ∃ v w' ι' H' pre, (Builtin.append_ argTypes ty #[cv ι s, cv ι x]).run P w = .ok (cv ι' v) w' ∧ (∀ τ, append H (P.cellsOf e) (P.bytesOf e) s n new (Tape.app pre τ) = some (v, H', τ)) ∧
      MRel ι' base w0 H' w' ∧ Ext H ι ι' ∧ Evol H H' ∧ VOk H' v := by
  obtain ⟨zl, d, hz, hzl, hz0, hd⟩ := elemOk_spec he
  obtain ⟨dx, hdx, hnint⟩ := hx
  obtain ⟨zv, _, hzc, _⟩ := zeroT_sound (P := P) (w := w) ι hz
  have hzrun : ∀ w', (zeroValue e).run P w' = .ok zv w' := fun w' => by
    obtain ⟨zv', h1, h2, _⟩ := zeroT_sound (P := P) (w := w') ι hz
    unfold zeroT at hz
    split at hz
    · rename_i i hi
      split at hz
      · rename_i v hv
        have a1 : ∀ w', (zeroValue e).run P w' = .ok v w' := fun w' => by simp [zeroValue, typeInfo, hi, hv]
        have : v = zv := by
          have := a1 w
          rename_i hzw _ _
          rw [a1 w] at *
          simp_all
        rw [← this]
        exact a1 w'
      · cases hz
    · cases hz
  have hzsz : zv.cells.size = P.cellsOf e := by rw [hzc, List.size_toArray, cvl_length, hzl]
  have hsrcle : ∀ m, srcLen x = some m → n ≤ m := fun m hm => by rw [hlen] at hm; cases hm; exact Nat.le_refl _
  obtain ⟨hfirst, hnew, hnl⟩ := hM.src (P := P) hsrc hsrcle
  have hfirst' := (hM.drew.src (P := P) hsrc hsrcle).1
  have hnl' : new.length = n * P.cellsOf e := hnl fun hx => by subst hx; simp only [srcLen, Option.some.injEq] at hlen; exact hlen.symm
  have hlenr := srcLen_ok (P := P) (ι := ι) hlen w
  -- memory of its own
  have growth : ∀ (s0 : V) (bs : Option Addr) (sLen sCap : Nat) (old : List V), cv ι s0 = .slice bs sLen sCap → VsOk H old → old.length = sLen * P.cellsOf e →
      (Builtin.firstCells (P.cellsOf e) sLen (.slice bs sLen sCap)).run P w.drew = .ok (cvl ι old).toArray w.drew → sCap < sLen + n → (sLen + n) * P.bytesOf e ≤ 274877906944 → sLen + n ≤ 274877906944 →
      ∃ t, (Builtin.append_ argTypes ty #[cv ι s0, cv ι x]).run P w = .ok (.slice (some ⟨w.heap.size, 0, none⟩) (sLen + n) (sLen + n + spare (sLen + n) t))
          (w.drew.alloc (.cells ((cvl ι old).toArray ++ (cvl ι new).toArray ++ Builtin.zeroCells zv.cells (spare (sLen + n) t)) e)) ∧
        (∀ (j : Nat) (v : V), (old ++ new)[j]? = some v → ((cvl ι old).toArray ++ (cvl ι new).toArray ++ Builtin.zeroCells zv.cells (spare (sLen + n) t))[j]? = some (cv ι v)) ∧
        ((cvl ι old).toArray ++ (cvl ι new).toArray ++ Builtin.zeroCells zv.cells (spare (sLen + n) t)).size = (sLen + n + spare (sLen + n) t) * P.cellsOf e := by
    intro s0 bs sLen sCap old hs0 hold holdl hrun hgt hb hn
    obtain ⟨t, ht⟩ := run_append_grows (P := P) (w := w) (ty := ty) hd hzrun ha0 ha1 hs hdx hnint hlenr hrun hfirst' hgt hb hn
    refine ⟨t, by rw [hs0]; exact ht, fun j v hv => row_cells ι old new _ j v hv, ?_⟩
    rw [Array.size_append, Array.size_append, List.size_toArray, List.size_toArray, cvl_length, cvl_length, holdl, hnl', zeroCells_size, hzsz]
    rw [Nat.add_mul, Nat.add_mul]
  unfold append at h
  cases s with
  | nils =>
    simp only at h
    cases n with
    | zero =>
      refine ⟨.nils, w, ι, H, [], ?_, fun τ => rfl, hM, Ext.refl _ _, Evol.refl _, trivial⟩
      exact run_append_fits (P := P) (w := w) (ty := ty) hd ha0 ha1 hs hdx hnint hlenr hfirst (Nat.le_refl _) rfl
    | succ n =>
      simp only at h
      cases hb : (Nat.ble ((n + 1) * P.bytesOf e) 274877906944 && Nat.ble (n + 1) 274877906944) with
      | false => simp only [hb, cond_false, ne_eq, not_true, forall_const] at h
      | true =>
        have hb' := hb
        simp only [Bool.and_eq_true] at hb'
        have h1 := Nat.le_of_ble_eq_true hb'.1
        have h2 := Nat.le_of_ble_eq_true hb'.2
        obtain ⟨t, hr, hc, hsz⟩ := growth .nils none 0 0 [] rfl trivial (by simp) rfl (by omega) (by rw [Nat.zero_add]; exact h1) (by omega)
        simp only [Nat.zero_add] at hr hsz hc
        obtain ⟨m1, m2, m3, m4⟩ := hM.drew.fresh new (n + 1) (P.cellsOf e) t _ e hnew hnl' h2 hsz (by simpa using hc)
        refine ⟨_, _, _, _, [t], ?_, fun τ => ?_, m1, Ext.upd H ι _, m2, m3⟩
        · rw [m4]; exact hr
        · unfold append
          simp only [hb, cond_true]
          rfl
  | sl id off len lo ex z' =>
    simp only at h
    cases hzz : Nat.beq (P.cellsOf e) z' with
    | false => simp only [hzz, cond_false, ne_eq, not_true, forall_const] at h
    | true =>
      have hzz' := Nat.eq_of_beq_eq_true hzz
      subst hzz'
      simp only [hzz, cond_true] at h
      obtain ⟨k1, k2, k3⟩ := hok
      cases hfit : Nat.ble (len + n) lo with
      | true =>
        have hle := Nat.le_of_ble_eq_true hfit
        simp only [hfit, cond_true] at h
        cases hst : H.stores id (off + len * P.cellsOf e) new with
        | none => simp only [hst, ne_eq, not_true, forall_const] at h
        | some H1 =>
          obtain ⟨w', hr, hM', hev⟩ := hM.stores (P := P) hnew hst
          refine ⟨.sl id off (len + n) lo ex (P.cellsOf e), w', ι, H1, [], ?_, fun τ => ?_, hM', Ext.refl _ _, hev, ?_⟩
          · refine run_append_fits (P := P) (w := w) (ty := ty) hd ha0 ha1 hs hdx hnint hlenr hfirst (by omega) ?_
            simp only [add_addr]
            rw [Nat.add_assoc]
            exact hr
          · unfold append
            simp only [hzz, cond_true, hfit, hst]
            rfl
          · exact VOk.mono hev _ ⟨k1, by omega, k3⟩
      | false =>
        have hgt : lo < len + n := by
          rcases Nat.lt_or_ge lo (len + n) with hh | hh
          · exact hh
          · rw [Nat.ble_eq_true_of_le hh] at hfit; cases hfit
        simp only [hfit, cond_false] at h
        cases hb : (Nat.ble ((len + n) * P.bytesOf e) 274877906944 && Nat.ble (len + n) 274877906944) with
        | false => simp only [hb, cond_false, ne_eq, not_true, forall_const] at h
        | true =>
          have hb' := hb
          simp only [Bool.and_eq_true] at hb'
          have h1 := Nat.le_of_ble_eq_true hb'.1
          have h2 := Nat.le_of_ble_eq_true hb'.2
          simp only [hb, cond_true] at h
          cases hold : H.loads id off (len * P.cellsOf e) with
          | none => simp only [hold, ne_eq, not_true, forall_const] at h
          | some old =>
            simp only [hold] at h
            obtain ⟨o1, o2, o3, o4⟩ := hM.loads (P := P) hold
            have o4' := (hM.drew.loads (P := P) hold).2.2.2
            cases ex with
            | none =>
              simp only [Option.getD_none, Nat.add_zero] at k2 k3
              obtain ⟨t, hr, hc, hsz⟩ := growth (.sl id off len lo none (P.cellsOf e)) _ len lo old rfl o1 o2 o4' hgt h1 h2
              have holdnew : VsOk H (old ++ new) := by
                rw [VsOk_iff]; intro v hv
                rcases List.mem_append.1 hv with hv | hv
                · exact (VsOk_iff H _).1 o1 v hv
                · exact (VsOk_iff H _).1 hnew v hv
              obtain ⟨m1, m2, m3, m4⟩ := hM.drew.fresh (old ++ new) (len + n) (P.cellsOf e) t _ e holdnew (by rw [List.length_append, o2, hnl', Nat.add_mul]) h2 hsz hc
              refine ⟨_, _, _, _, [t], ?_, fun τ => ?_, m1, Ext.upd H ι _, m2, m3⟩
              · rw [m4]; exact hr
              · unfold append
                simp only [hzz, cond_true, hfit, cond_false, hb, hold]
                rfl
            | some ee =>
              simp only at h
              obtain ⟨k3a, k3b⟩ := k3 rfl
              simp only [Option.getD_some] at k2 k3a k3b
              -- what is known of the block
              cases hg : H.blk.get id with
              | none => simp only [hg, ne_eq, not_true, forall_const] at h
              | some blk =>
                cases blk with
                | iter s p => simp only [hg, ne_eq, not_true, forall_const] at h
                | gone => simp only [hg, ne_eq, not_true, forall_const] at h
                | mem cs room fam ver wr pl st =>
                  cases wr with
                  | false => simp only [hg, ne_eq, not_true, forall_const] at h
                  | true =>
                    simp only [hg] at h
                    cases hf : H.fams.get fam with
                    | none => simp only [hf, ne_eq, not_true, forall_const] at h
                    | some fl =>
                      obtain ⟨fr, la⟩ := fl
                      simp only [hf] at h
                      cases htop : (Nat.beq ver la && (Nat.beq (off + len * P.cellsOf e) cs.length && new.all V.scal)) with
                      | false => simp only [htop, cond_false, ne_eq, not_true, forall_const] at h
                      | true =>
                        have htop' := htop
                        simp only [Bool.and_eq_true] at htop'
                        have e1 := Nat.eq_of_beq_eq_true htop'.1
                        have e2 := Nat.eq_of_beq_eq_true htop'.2.1
                        subst e1
                        obtain ⟨all, c1, c2, c3⟩ := loads_inv hold
                        obtain ⟨room', fam', ver', wr', pl', st', fr', la', g1, g2, g3⟩ := cells?_inv c1
                        rw [hg] at g1
                        injection g1 with g1
                        injection g1 with g4 g5 g6 g7 g8 g9 g10
                        subst g4 g5 g6 g7 g8 g9 g10
                        rw [hf] at g2
                        injection g2 with g2
                        injection g2 with g11 g12
                        subst g11 g12
                        have hroom : H.room? id = room := by simp only [Heap.room?, hg]
                        rw [hroom] at k3a
                        have hdrop : cs.drop off = old := by
                          rw [c2, List.take_of_length_le (by rw [List.length_drop]; omega)]
                        have hcell : (old ++ new).length = (len + n) * P.cellsOf e := by rw [List.length_append, o2, hnl', Nat.add_mul]
                        have hvsn : VsOk H (old ++ new) := by
                          rw [VsOk_iff]; intro v hv
                          rcases List.mem_append.1 hv with hv | hv
                          · exact (VsOk_iff H _).1 o1 v hv
                          · exact (VsOk_iff H _).1 hnew v hv
                        have hsame : ∀ (t : Nat) (τ : Tape), append H (P.cellsOf e) (P.bytesOf e) (.sl id off len lo (some ee) (P.cellsOf e)) n new (Tape.app [t] τ) =
                            some (.sl H.size 0 (len + n) (len + n) (some (spare (len + n) t)) (P.cellsOf e), H.version (old ++ new) ((len + n + spare (len + n) t) * P.cellsOf e) fam fr ver, τ) := by
                          intro t τ
                          unfold append
                          simp only [hzz, cond_true, hfit, cond_false, hb, hold, hg, hf, htop]
                          rfl
                        have hvok : ∀ t, VOk (H.version (old ++ new) ((len + n + spare (len + n) t) * P.cellsOf e) fam fr ver) (.sl H.size 0 (len + n) (len + n) (some (spare (len + n) t)) (P.cellsOf e)) := by
                          intro t
                          refine ⟨Nat.lt_succ_self _, Nat.le_add_right _ _, fun _ => ⟨?_, spare_lt h2⟩⟩
                          simp only [Heap.room?, Heap.version, T.get_set_same, Option.getD_some, Nat.zero_add]
                          exact Nat.le_refl _
                        rcases Nat.lt_or_ge (lo + ee) (len + n) with hcap | hcap
                        · -- memory of its own
                          obtain ⟨t, hr, hc, hsz⟩ := growth (.sl id off len lo (some ee) (P.cellsOf e)) _ len (lo + ee) old rfl o1 o2 o4' hcap h1 h2
                          have m1 := hM.drew.grow hg hf g3 (old ++ new) ((len + n + spare (len + n) t) * P.cellsOf e) _ e hvsn
                            (by rw [hcell]; exact Nat.mul_le_mul_right _ (Nat.le_add_right _ _)) (by rw [hsz]; exact Nat.le_refl _) hc
                          refine ⟨_, _, _, _, [t], ?_, hsame t, m1, Ext.upd H ι _, Evol.version hM _ _ _ _ _ hf, hvok t⟩
                          rw [hr]
                          simp only [cv, upd_same, Option.getD_some]
                          rfl
                        · -- behind the cells that stand
                          have hsp : spare (len + n) (lo + ee - (len + n)) = lo + ee - (len + n) := spare_of hcap k3b
                          have hcapz : (len + n + spare (len + n) (lo + ee - (len + n))) = lo + ee := by rw [hsp]; omega
                          have hmul := Nat.mul_le_mul_right (P.cellsOf e) hcap
                          have hofle : off ≤ cs.length := by omega
                          obtain ⟨c, el, blo, bhi, b1, b2, b3, b4⟩ := hM.inplace hg hf g3 off new ((len + n + spare (len + n) (lo + ee - (len + n))) * P.cellsOf e) hofle hnew
                            (by rw [hcapz, hnl']; rw [Nat.add_mul] at hmul; omega) (by rw [hcapz]; exact k3a)
                          rw [hdrop] at b4
                          have hscal : ∀ v ∈ cvl ι new, v.oneCell' = true := by
                            intro v hv
                            rw [cvl_eq, List.mem_map] at hv
                            obtain ⟨u, hu, rfl⟩ := hv
                            exact oneCell_scal ι u (List.all_eq_true.1 htop'.2.2 u hu)
                          have hst := run_storeCells_gen P (ι id).1 ((ι id).2 + cs.length) el blo bhi (cvl ι new) 0 c w b1 (by rw [cvl_length]; omega) b3 hscal
                          refine ⟨_, _, _, _, [lo + ee - (len + n)], ?_, hsame _, b4, Ext.upd H ι _, Evol.version hM _ _ _ _ _ hf, hvok _⟩
                          have hfits := run_append_fits (P := P) (w := w) (ty := ty) (bs := some ⟨(ι id).1, (ι id).2 + off, none⟩) (sCap := lo + ee) hd ha0 ha1 hs hdx hnint hlenr hfirst hcap
                            (w' := setBlk w (ι id).1 (.cells (overA c ((ι id).2 + cs.length) (cvl ι new)) el (blo, bhi))) (by
                              simp only [add_addr]
                              rw [show (ι id).2 + off + len * P.cellsOf e = (ι id).2 + cs.length from by omega]
                              simpa using hst)
                          simp only [cv, Option.getD_some] at hfits ⊢
                          rw [hfits]
                          simp only [upd_same, hcapz, Nat.add_zero]
  | _ => simp at h
end
end Go.Am
