/-
  THE ABSTRACT MACHINE 'Am', sixteenth part: every effect comes to what the model's operation comes to.
-/
import Derived.IntWalk
import Derived.Test.YtpfaceclaigpgaaDoorAm15
namespace Go.Am
open Go.RowKit (Below)

section
variable {P : Program} {w w0 : World} {ι : Inj} {base : Nat} {H : Heap} {ρ : Operand → Value}

theorem get!_list (s : List UInt8) (i : Nat) : (ByteArray.mk s.toArray).get! i = s.getD i 0 := by
  simp only [ByteArray.get!, List.getD_eq_getElem?_getD]
  rw [getElem!_def]
  simp
  cases s[i]? <;> rfl

theorem decodeR_eq (s : List UInt8) (pos : Nat) (h : pos < s.length) : Utf8.decode ⟨s.toArray⟩ pos = decodeR (s.drop pos) := by
  have hat : ∀ k, ((ByteArray.mk s.toArray).get! (pos + k)).toNat = ((s.drop pos).getD k 0).toNat := fun k => by
    rw [get!_list]
    simp [List.getD_eq_getElem?_getD]
  have hsz : (ByteArray.mk s.toArray).size = s.length := by simp [ByteArray.size]
  have hlt : ∀ k, decide (pos + k < s.length) = Nat.blt k (s.drop pos).length := fun k => by
    rw [Bool.eq_iff_iff]; simp [Nat.blt_eq]; omega
  have hble : ∀ a b, Nat.ble a b = decide (a ≤ b) := fun a b => by rw [Bool.eq_iff_iff]; simp [Nat.ble_eq]
  have hblt : ∀ a b, Nat.blt a b = decide (a < b) := fun a b => by rw [Bool.eq_iff_iff]; simp [Nat.blt_eq]
  have hbeq : ∀ a b : Nat, Nat.beq a b = (a == b) := fun a b => by rw [Bool.eq_iff_iff]; simp [Nat.beq_eq]
  unfold Utf8.decode decodeR
  simp only [hat, hsz, hlt, ge_iff_le, valid_eq, Utf8.runeError, hbeq, Bool.cond_eq_ite, hble, hblt, Bool.and_eq_true, decide_eq_true_eq]

theorem freeze_eq (w : World) (b o : Nat) (c : Array Value) (el : TypeId) (lo hi : Nat) (h : w.heap[b]? = some (.cells c el (lo, hi))) :
    w.freeze ⟨b, o, none⟩ 1 = setBlk w b (.cells c el (if lo == hi then (o, o + 1) else (min lo o, max hi (o + 1)))) := by
  have : (w.heap.modify b fun
      | .cells c elem (lo, hi) => .cells c elem (if lo == hi then (o, o + 1) else (min lo o, max hi (o + 1)))
      | o => o) = w.heap.setIfInBounds b (.cells c el (if lo == hi then (o, o + 1) else (min lo o, max hi (o + 1)))) := by
    apply Array.ext_getElem?
    intro i
    have hlt : b < w.heap.size := (Array.getElem?_eq_some_iff.1 h).1
    by_cases e : b = i
    · subst e; rw [Array.getElem?_modify, if_pos rfl, h]; simp [hlt]
    · rw [Array.getElem?_setIfInBounds_ne e, Array.getElem?_modify, if_neg e]
  exact congrArg (fun x => ({ w with heap := x } : World)) this

theorem run_markStringish (w : World) (b o : Nat) (c : Array Value) (el : TypeId) (lo hi : Nat) (h : w.heap[b]? = some (.cells c el (lo, hi))) :
    (markStringish ⟨b, o, none⟩).run P w = .ok () (setBlk w b (.cells c el (if lo == hi then (c.size, c.size + 1) else (min lo c.size, max hi (c.size + 1))))) := by
  have hs : w.shape? b = some (el, c.size) := by simp only [World.shape?, h]
  simp only [markStringish, Sem.run_bind, run_shape, Result.andThen_ok, hs, run_freeze]
  rw [freeze_eq w b c.size c el lo hi h]

/-- AN EFFECT -/
theorem eop_sound (hM : MRel ι base w0 H w) (op : Go.Op) (o : EOp) (xs : List Operand) (vs : List V) (dst : Option Tmp) (ty : TypeId) (pos : String) (after : Array Edge) (guard : Option (Nat × Bool))
    (ht : trOp P op = some (.e o, xs)) (hx : xs.map ρ = cvl ι vs) (hok : VsOk H vs) (h : ∀ τ, evalE o vs H τ ≠ none) :
    EffOk base w0 ι H (evalE o vs H) ((execOp ρ ⟨dst, op, ty, pos, after, guard⟩).run P w) := by
  cases op <;> simp only [trOp] at ht
  case alloc t =>
    split at ht
    · rename_i z hz
      cases ht
      have : vs = [] := by cases vs with | nil => rfl | cons a l => simp [cvl] at hx
      subst this
      obtain ⟨zv, h1, h2, h3⟩ := zeroT_sound (P := P) (w := w) ι hz
      refine ⟨.value (.pointer (some ⟨w.heap.size, 0, none⟩)), .ptr H.size 0, w.alloc (.cells zv.cells t), upd ι H.size (w.heap.size, 0), _, [], ?_, .inl ?_, fun τ => rfl,
        hM.new z z.length true zv.cells t (h3 H) (Nat.le_refl _) (by rw [h2, List.size_toArray, cvl_length]; exact Nat.le_refl _) (by rw [h2]; exact cells_rel ι z), Ext.upd H ι _, Evol.new hM _ _ _, Nat.lt_succ_self _⟩
      · simp only [execOp, Instr.alloc, Sem.run_bind, h1, Result.andThen_ok, newVar, run_newRow, Sem.run_pure]
      · simp only [cv, upd_same]
    · cases ht
  case box t x =>
    cases ht
    obtain ⟨a, rfl, ha⟩ := map1 hx
    refine ⟨.value (.pointer (some ⟨w.heap.size, 0, none⟩)), .ptr H.size 0, w.alloc (.cells (cv ι a).cells t), upd ι H.size (w.heap.size, 0), _, [], ?_, .inl ?_, fun τ => rfl,
      hM.new a.cells a.cells.length true (cv ι a).cells t ?_ (Nat.le_refl _) (by rw [cv_cells, List.size_toArray, cvl_length]; exact Nat.le_refl _) (by rw [cv_cells]; exact cells_rel ι _), Ext.upd H ι _, Evol.new hM _ _ _, Nat.lt_succ_self _⟩
    · simp only [execOp, ha, Instr.box, Sem.run_bind, newVar, run_newRow, Result.andThen_ok, Sem.run_pure]
    · simp only [cv, upd_same]
    · have := hok.1
      cases a <;> first | exact this | exact ⟨this, trivial⟩
  case buildSlice t len parts =>
    split at ht
    · rename_i e hu
      split at ht
      · rename_i z hz
        split at ht
        · rename_i hc
          obtain ⟨hle, he⟩ := hc
          cases ht
          obtain ⟨z', d, hz', hzl, hz0, hd⟩ := elemOk_spec he
          rw [hz] at hz'
          cases hz'
          obtain ⟨zv, h1, h2, h3⟩ := zeroT_sound (P := P) (w := w) ι hz
          simp only [evalE, eBuildSlice] at h
          cases hf : fillC (repl len z) (parts.toList.map fun p => (p.1 * P.cellsOf e, P.cellsOf e)) vs with
          | none => simp only [hf, ne_eq, not_true, forall_const] at h
          | some cs =>
            have hps : ∀ l : List (Nat × Operand), allSome (fun i => some (i * P.cellsOf e, P.cellsOf e)) (l.map (·.1)) = some (l.map fun p => (p.1 * P.cellsOf e, P.cellsOf e)) := by
              intro l
              induction l with
              | nil => rfl
              | cons p l ih => simp only [List.map_cons, allSome, ih]
            have hfill := fill_sound ι ρ (fun i => some (i * P.cellsOf e, P.cellsOf e)) parts.toList (repl len z) _ vs cs (hps _) hx hf
            obtain ⟨c1, c2⟩ := fillC_ok (H := H) _ _ _ _ (repl_ok len (h3 H)) hok hf
            have hcl : cs.length = len * P.cellsOf e := by rw [c2, repl_length, hzl]
            have hparts : (parts.map fun (x : Nat × Operand) => (x.1, ρ x.2)).toList = parts.toList.map fun (i, x) => (i, ρ x) := by simp
            refine ⟨.value (.slice (some ⟨w.heap.size, 0, none⟩) len len), .sl H.size 0 len len none (P.cellsOf e), w.alloc (.cells (cvl ι cs).toArray e), upd ι H.size (w.heap.size, 0), _, [], ?_, .inl ?_, fun τ => ?_,
              hM.new cs (len * P.cellsOf e) false (cvl ι cs).toArray e c1 (by rw [hcl]; exact Nat.le_refl _) (by rw [List.size_toArray, cvl_length, hcl]; exact Nat.le_refl _) (cells_rel ι cs), Ext.upd H ι _, Evol.new hM _ _ _, ?_⟩
            · have hbig : ¬ (len * P.cellsOf e > 2 ^ 24) := by omega
              have hzero : (Array.range (len * P.cellsOf e)).map ((zv.cells)[· % zv.cells.size]!) = (cvl ι (repl len z)).toArray := by
                rw [h2, ← hzl]; exact zeros_eq ι z len (by omega)
              by_cases h0 : len * P.cellsOf e = 0
              · have hr : repl len z = [] := List.eq_nil_of_length_eq_zero (by rw [repl_length, hzl]; exact h0)
                rw [hr] at hfill
                simp only [cvl] at hfill
                simp only [execOp, Instr.buildSlice, Sem.run_bind, run_underlying hu, run_sizeOf_any e d hd, Result.andThen_ok, h0, if_true, Sem.run_pure]
                simp only [Array.range, gt_iff_lt, Nat.not_lt_zero, if_false, Sem.run_bind, Result.andThen_ok, Sem.run_pure]
                simp only [hparts]
                simp [hfill, run_newRow]
              · simp only [execOp, Instr.buildSlice, Sem.run_bind, run_underlying hu, run_sizeOf_any e d hd, Result.andThen_ok, hbig, if_false, h0, Sem.run_pure, h1, hzero, hparts, hfill, run_newRow]
            · simp only [cv, upd_same, Option.getD_none, Nat.add_zero]
            · simp only [evalE, eBuildSlice, hf]; rfl
            · exact ⟨Nat.lt_succ_self _, Nat.le_refl _, fun hh => by cases hh⟩
        · cases ht
      · cases ht
    · cases ht
  case store t a x =>
    obtain ⟨⟨d, hd⟩, ht⟩ := kn_some ht
    cases ht
    obtain ⟨p, q, rfl, hp, hq⟩ := map2 hx
    simp only [evalE, eStore] at h
    cases p with
    | ptr id off =>
      simp only at h
      cases hn : Nat.beq q.cells.length (P.cellsOf t) with
      | false => simp only [hn, cond_false, ne_eq, not_true, forall_const] at h
      | true =>
        simp only [hn, cond_true] at h
        cases hst : H.stores id off q.cells with
        | none => simp only [hst, ne_eq, not_true, forall_const] at h
        | some H1 =>
          have hqc : VsOk H q.cells := by
            have := hok.2.1
            cases q <;> first | exact this | exact ⟨this, trivial⟩
          obtain ⟨w', hr, hM', hev⟩ := hM.stores (P := P) hqc hst
          refine ⟨.skip, .tup [], w', ι, H1, [], ?_, .inr ⟨rfl, rfl⟩, fun τ => ?_, hM', Ext.refl _ _, hev, trivial⟩
          · have hsz : (cv ι q).cells.size = P.cellsOf t := by rw [cv_cells, List.size_toArray, cvl_length]; exact Nat.eq_of_beq_eq_true hn
            simp only [execOp, hp, hq, cv, Instr.storeAt, Instr.sureAddr, storeVar, Sem.run_bind, Sem.run_pure, Result.andThen_ok, run_sizeOf_any t d hd, hsz, ne_eq, not_true, if_false]
            rw [cv_cells]
            simp only [hr, Result.andThen_ok]
            first | rfl | skip
          · simp only [evalE, eStore, hn, cond_true, hst]; rfl
    | _ => simp at h
  case makeSlice t l c =>
    split at ht
    · rename_i e hu
      split at ht
      · rename_i z hz
        split at ht
        · rename_i he
          cases ht
          obtain ⟨z', d, hz', hzl, hz0, hd⟩ := elemOk_spec he
          rw [hz] at hz'
          cases hz'
          obtain ⟨zv, h1, h2, h3⟩ := zeroT_sound (P := P) (w := w) ι hz
          obtain ⟨p, q, rfl, hp, hq⟩ := map2 hx
          simp only [evalE, eMakeSlice] at h
          cases p with
          | int k1 x1 =>
            cases q with
            | int k2 x2 =>
              simp only at h
              cases hn1 : natOf x1 with
              | none => simp only [hn1, ne_eq, not_true, forall_const] at h
              | some L =>
                cases hn2 : natOf x2 with
                | none => simp only [hn1, hn2, ne_eq, not_true, forall_const] at h
                | some K =>
                  simp only [hn1, hn2] at h
                  cases hb : (Nat.ble L K && (Nat.ble (K * P.bytesOf e) 274877906944 && Nat.ble K 274877906944)) with
                  | false => simp only [hb, cond_false, ne_eq, not_true, forall_const] at h
                  | true =>
                    have hb' := hb
                    simp only [Bool.and_eq_true] at hb'
                    have b1 := Nat.le_of_ble_eq_true hb'.1
                    have b2 := Nat.le_of_ble_eq_true hb'.2.1
                    have b3 := Nat.le_of_ble_eq_true hb'.2.2
                    have e1 := natOf_some hn1
                    have e2 := natOf_some hn2
                    subst e1 e2
                    obtain ⟨i, hi, hbytes⟩ := run_bytes hd w
                    have w1 : IntKind.i64.wrap (L : Int) = L := IntWalk.i64_in _ (by omega)
                    have w2 : IntKind.i64.wrap (K : Int) = K := IntWalk.i64_in _ (by omega)
                    have hzeros : (Array.range (K * P.cellsOf e)).map ((zv.cells)[· % zv.cells.size]!) = (cvl ι (repl K z)).toArray := by
                      rw [h2, ← hzl]; exact zeros_eq ι z K (by omega)
                    refine ⟨.value (.slice (some ⟨w.heap.size, 0, none⟩) L K), .sl H.size 0 L K none (P.cellsOf e), w.alloc (.cells (cvl ι (repl K z)).toArray e), upd ι H.size (w.heap.size, 0), _, [], ?_, .inl ?_, fun τ => ?_,
                      hM.new (repl K z) (K * P.cellsOf e) false (cvl ι (repl K z)).toArray e (repl_ok K (h3 H)) (by rw [repl_length, hzl]; exact Nat.le_refl _) (by rw [List.size_toArray, cvl_length, repl_length, hzl]; exact Nat.le_refl _) (cells_rel ι _), Ext.upd H ι _, Evol.new hM _ _ _, ?_⟩
                    · have hK : ((P.bytesOf e : Nat) : Int) * (K : Int) = ((K * P.bytesOf e : Nat) : Int) := by rw [Nat.mul_comm]; exact (Int.natCast_mul _ _).symm
                      have t1 : (decide ((K : Int) < 0) || decide (((P.bytesOf e : Nat) : Int) * (K : Int) > 2 ^ 48)) = false := by
                        rw [hK]
                        simp only [Bool.or_eq_false_iff, decide_eq_false_iff_not]
                        exact ⟨by omega, by omega⟩
                      have t2 : ¬ ((L : Int) < 0) := by omega
                      have t3 : ¬ ((L : Int) > (K : Int)) := by omega
                      simp only [execOp, hp, hq, cv, Instr.makeSlice, asInt, asIntOf, Sem.run_bind, run_underlying hu, Sem.run_pure, Result.andThen_ok, hi, hbytes, w1, w2, t1, t2, t3, decide_false, Bool.or_false, Bool.false_eq_true, if_false, run_askRoom, run_sizeOf_any e d hd, Int.toNat_natCast]
                      by_cases h0 : K * P.cellsOf e = 0
                      · have hr : repl K z = [] := List.eq_nil_of_length_eq_zero (by rw [repl_length, hzl]; exact h0)
                        simp [h0, hr, cvl, run_newRow, Go.Array.range_zero']
                      · simp only [h0, if_false, Sem.run_bind, h1, Result.andThen_ok, Sem.run_pure, hzeros, run_newRow]
                    · simp only [cv, upd_same, Option.getD_none, Nat.add_zero]
                    · simp only [evalE, eMakeSlice, hn1, hn2, hb, cond_true]; rfl
                    · exact ⟨Nat.lt_succ_self _, b1, fun hh => by cases hh⟩
            | _ => simp at h
          | _ => cases q <;> simp at h
        · cases ht
      · cases ht
    · cases ht
  case convert s t x =>
    split at ht
    · cases ht
    · cases ht
    · cases ht
    · rename_i e hs hk
      split at ht
      · rename_i hc
        obtain ⟨hu8, hce⟩ := hc
        cases ht
        obtain ⟨a, rfl, ha⟩ := map1 hx
        have he : P.underlying e = some (.int .u8) := by
          unfold u8T at hu8
          split at hu8
          · rename_i hh; exact hh
          · cases hu8
        simp only [evalE, eStrBytes] at h
        cases a with
        | str st =>
          simp only at h
          cases hn : Nat.ble st.length 274877906944 with
          | false => simp only [hn, cond_false, ne_eq, not_true, forall_const] at h
          | true =>
            have hn' := Nat.le_of_ble_eq_true hn
            obtain ⟨t0, htc⟩ := run_choose_cap (P := P) (w := w) st.length 0 e
            have hbytes : ((ByteArray.mk st.toArray).data.map fun b => Value.int .u8 (b.toNat : Int)) = (cvl ι (st.map fun c => V.int .u8 (.ofNat c.toNat))).toArray := by
              apply Array.ext'
              simp only [cvl_eq, List.map_map]
              simp
              try (intro a _; rfl)
            have hsz : (ByteArray.mk st.toArray).size = st.length := by simp [ByteArray.size]
            obtain ⟨m1, m2, m3, m4⟩ := hM.drew.fresh (st.map fun c => V.int .u8 (.ofNat c.toNat)) st.length 1 t0
              ((cvl ι (st.map fun c => V.int .u8 (.ofNat c.toNat))).toArray ++ Array.replicate (spare st.length t0) (.int .u8 0)) e
              (by rw [VsOk_iff]; intro v hv; rw [List.mem_map] at hv; obtain ⟨c, _, rfl⟩ := hv; trivial) (by simp) hn'
              (by simp [cvl_length]) (fun j v hv => by
                rw [Array.getElem?_append_left (by have := (List.getElem?_eq_some_iff.1 hv).1; simpa [cvl_length] using this)]
                exact cells_rel ι _ j v hv)
            have hsz2 : ((cvl ι (st.map fun c => V.int .u8 (.ofNat c.toNat))).toArray ++ Array.replicate (spare st.length t0) (Value.int .u8 0)).size = st.length + spare st.length t0 := by simp [cvl_length]
            have hnew := heap_alloc_new w.drew (.cells ((cvl ι (st.map fun c => V.int .u8 (.ofNat c.toNat))).toArray ++ Array.replicate (spare st.length t0) (Value.int .u8 0)) e)
            have hmark := m1.mark (lo' := st.length + spare st.length t0) (hi' := st.length + spare st.length t0 + 1) hnew hM.base_le (.inr (by rw [hsz2]; exact Nat.le_refl _))
            refine ⟨.value (.slice (some ⟨w.heap.size, 0, none⟩) st.length (st.length + spare st.length t0)), _, _, _, _, [t0], ?_, .inl (by rw [m4]; rfl), fun τ => ?_, hmark, Ext.upd H ι _, m2, m3⟩
            · simp only [execOp, ha, cv, convert, Sem.run_bind, run_underlying hs, run_underlying hk, run_underlying he, Result.andThen_ok, Conv.stringToBytes, hsz, htc, hbytes, Nat.add_sub_cancel_left, run_newRow]
              rw [run_markStringish _ _ _ _ _ _ _ hnew]
              simp only [hsz2, Result.andThen_ok, Sem.run_pure]
              rfl
            · simp only [evalE, eStrBytes, hn, cond_true]
              rfl
        | _ => simp at h
      · cases ht
    · rename_i e2 e hs hk
      split at ht
      · rename_i hc
        obtain ⟨hu8, hst⟩ := hc
        cases ht
        obtain ⟨a, rfl, ha⟩ := map1 hx
        have he : P.underlying e = some (.int .u8) := by
          unfold u8T at hu8
          split at hu8
          · rename_i hh; exact hh
          · cases hu8
        simp only [evalE, eMark] at h
        cases a with
        | sl id off len lo ex z =>
          simp only at h
          cases hg : H.blk.get id with
          | none => simp only [hg, ne_eq, not_true, forall_const] at h
          | some blk =>
            cases blk with
            | iter s p => simp only [hg, ne_eq, not_true, forall_const] at h
            | gone => simp only [hg, ne_eq, not_true, forall_const] at h
            | mem cs room fam ver wr pl st =>
              cases wr with
              | false => simp only [hg, ne_eq, not_true, forall_const] at h
              | true =>
                cases pl with
                | true => simp only [hg, ne_eq, not_true, forall_const] at h
                | false =>
                  simp only [hg] at h
                  cases hf : H.fams.get fam with
                  | none => simp only [hf, ne_eq, not_true, forall_const] at h
                  | some fl =>
                    obtain ⟨fr, la⟩ := fl
                    simp only [hf] at h
                    cases hv : Nat.ble fr ver with
                    | false => simp only [hv, cond_false, ne_eq, not_true, forall_const] at h
                    | true =>
                      obtain ⟨c, el, blo, bhi, b1, b2, b3, b4⟩ := hM.ok _ _ _ _ _ _ _ _ _ _ hg hf (Nat.le_of_ble_eq_true hv)
                      obtain ⟨b5, b6⟩ := b4 rfl
                      have hmr := run_markStringish (P := P) w (ι id).1 ((ι id).2 + off) c el blo bhi b1
                      have hmark : MRel ι base w0 H (setBlk w (ι id).1 (.cells c el (if blo == bhi then (c.size, c.size + 1) else (min blo c.size, max bhi (c.size + 1))))) := by
                        by_cases e1 : blo = bhi
                        · have : (blo == bhi) = true := by simpa using e1
                          rw [this, if_pos rfl]
                          exact hM.mark b1 b5 (.inr (Nat.le_refl _))
                        · have : (blo == bhi) = false := by simpa using e1
                          rw [this]
                          exact hM.mark b1 b5 (.inr (by rcases b6 with h6 | h6 <;> omega))
                      refine ⟨.value (cv ι (.sl id off len lo ex z)), _, _, ι, H, [], ?_, .inl rfl, fun τ => ?_, hmark, Ext.refl _ _, Evol.refl _, hok.1⟩
                      · simp only [execOp, ha, cv, convert, Sem.run_bind, run_underlying hk, run_underlying he, Result.andThen_ok, hst, beq_self_eq_true, hmr, Sem.run_pure]
                      · simp only [evalE, eMark, hg, hf, hv, cond_true]; rfl
        | _ => simp at h
      · cases ht
    · split at ht <;> cases ht
    · cases ht
  case range t x =>
    split at ht
    · rename_i hu
      cases ht
      obtain ⟨a, rfl, ha⟩ := map1 hx
      simp only [evalE, eRange] at h
      cases a with
      | str s =>
        refine ⟨.value (.pointer (some ⟨w.heap.size, 0, none⟩)), .ptr H.size 0, w.alloc (.stringIter ⟨s.toArray⟩ 0), upd ι H.size (w.heap.size, 0), iterNew H s, [], ?_, .inl ?_, fun τ => rfl, hM.iterNew s, Ext.upd H ι _, Evol.iterNew hM s, Nat.lt_succ_self _⟩
        · simp only [execOp, ha, cv, Instr.range, Sem.run_bind, run_underlying hu, Result.andThen_ok, Sem.run_pure, run_newObj]
          rfl
        · simp only [cv, upd_same]
      | _ => simp at h
    · cases ht
  case next x b =>
    cases b <;> simp only at ht <;> first | (cases ht; done) | skip
    cases ht
    obtain ⟨a, rfl, ha⟩ := map1 hx
    simp only [evalE, eNext] at h
    split at h
    · rename_i id heq
      cases heq
      cases hg : H.blk.get id with
      | none => simp only [hg, ne_eq, not_true, forall_const] at h
      | some blk =>
        cases blk with
        | mem cs room fam ver wr pl st => simp only [hg, ne_eq, not_true, forall_const] at h
        | gone => simp only [hg, ne_eq, not_true, forall_const] at h
        | iter s p =>
          obtain ⟨i1, i2, i3⟩ := hM.iter _ _ _ hg
          have hsz : (ByteArray.mk s.toArray).size = s.length := by simp [ByteArray.size]
          have hget : (getObj (ι id).1).run P w = .ok (.stringIter ⟨s.toArray⟩ p) w := by simp [getObj, Sem.run, i3]
          cases hp : Nat.blt p s.length with
          | false =>
            have hlt : ¬ p < s.length := by
              intro hlt
              have : Nat.blt p s.length = true := by simpa [Nat.blt_eq] using hlt
              rw [this] at hp; cases hp
            refine ⟨.value (.tuple #[.bool false]), .tup [.bool false], w, ι, H, [], ?_, .inl rfl, fun τ => ?_, hM, Ext.refl _ _, Evol.refl _, ⟨trivial, trivial⟩⟩
            · simp only [execOp, ha, cv, i2, Instr.next, Sem.run_bind, hget, Result.andThen_ok, hsz, hlt, if_false, Sem.run_pure, Nat.add_zero]
            · simp only [evalE, eNext, hg, hp, cond_false]; rfl
          | true =>
            have hlt : p < s.length := by simpa [Nat.blt_eq] using hp
            have hdec := decodeR_eq s p hlt
            have hset : (setObj (ι id).1 (.stringIter ⟨s.toArray⟩ (p + (decodeR (s.drop p)).2))).run P w = .ok () (setBlk w (ι id).1 (.stringIter ⟨s.toArray⟩ (p + (decodeR (s.drop p)).2))) := by
              simp [setObj, Sem.run, i3, setBlk]
            refine ⟨.value (.tuple #[.bool true, .int .i64 (p : Nat), .int .i32 ((decodeR (s.drop p)).1 : Nat)]), .tup [.bool true, .int .i64 (.ofNat p), .int .i32 (.ofNat (decodeR (s.drop p)).1)], _, ι, iterHeap H id s (p + (decodeR (s.drop p)).2), [], ?_, .inl rfl, fun τ => ?_,
              hM.iterSet hg _, Ext.refl _ _, Evol.iterSet hg, ⟨trivial, trivial, trivial, trivial⟩⟩
            · simp only [execOp, ha, cv, i2, Instr.next, Sem.run_bind, hget, Result.andThen_ok, hsz, hlt, if_true, Sem.run_pure, Nat.add_zero, hdec]
              simp only [hset, Result.andThen_ok, goInt]
            · simp only [evalE, eNext, hg, hp, cond_true, forceN_eq]; rfl
    · simp at h
  case call c =>
    split at ht
    · split at ht <;> cases ht
    · cases ht
    · rename_i b hc
      split at ht
      · rename_i o' hb
        cases ht
        have hargs : c.args.map ρ = (cvl ι vs).toArray := by
          rw [← hx, ← Array.toList_map]
        have hres : ∀ (S : Sem Value) (r : Value) (w' : World), (∀ cs, builtin b c.argTypes ty cs (cvl ι vs).toArray = (do pure (.value (← S)))) → S.run P w = .ok r w' →
            (execOp ρ ⟨dst, .call c, ty, pos, after, guard⟩).run P w = .ok (.value r) w' := by
          intro S r w' hS hr
          simp only [execOp, resolve, hc, Sem.run_bind, Sem.run_pure, Result.andThen_ok, hargs, invoke]
          rw [hS]
          simp only [Sem.run_bind, hr, Result.andThen_ok, Sem.run_pure]
        unfold trBuiltin at hb
        split at hb
        · split at hb <;> first | (cases hb; done) | (split at hb <;> cases hb)
        · split at hb <;> cases hb
        · -- append
          rename_i t u hty
          have hty0 : c.argTypes[0]? = some t := by rw [← Array.getElem?_toList, hty]; rfl
          have hty1 : c.argTypes[1]? = some u := by rw [← Array.getElem?_toList, hty]; rfl
          have app : ∀ (e : TypeId), elemOk P e = true → P.underlying t = some (.slice e) → (∃ d, P.underlying u = some d ∧ ∀ k, d ≠ .int k) → o = .append (P.cellsOf e) (P.bytesOf e) →
              EffOk base w0 ι H (evalE o vs H) ((execOp ρ ⟨dst, .call c, ty, pos, after, guard⟩).run P w) := by
            rintro e he hu hu2 rfl
            simp only [evalE, eAppend] at h
            split at h
            · rename_i s x
              cases hl : srcLen x with
              | none => simp only [hl, ne_eq, not_true, forall_const] at h
              | some n =>
                cases hsr : srcCells H (P.cellsOf e) n x with
                | none => simp only [hl, hsr, ne_eq, not_true, forall_const] at h
                | some new =>
                  simp only [hl, hsr] at h
                  obtain ⟨v, w', ι', H', pre, a1, a2, a3, a4, a5, a6⟩ := append_sound (ty := ty) hM he hty0 hty1 hu hu2 hok.1 hl hsr h
                  refine ⟨_, v, w', ι', H', pre, hres _ _ w' (fun cs => ?_) a1, .inl rfl, fun τ => ?_, a3, a4, a5, a6⟩
                  · simp only [builtin, cvl]
                  · simp only [evalE, eAppend, hl, hsr]; exact a2 τ
            · simp at h
          split at hb
          · rename_i e e2 hu hu2
            split at hb
            · rename_i he
              cases hb
              exact app e he hu ⟨_, hu2, fun k hk => by cases hk⟩ rfl
            · cases hb
          · rename_i e hu hu2
            split at hb
            · rename_i he
              cases hb
              exact app e he.1 hu ⟨_, hu2, fun k hk => by cases hk⟩ rfl
            · cases hb
          · cases hb
        · -- copy
          rename_i t u hty
          have hty0 : c.argTypes[0]? = some t := by rw [← Array.getElem?_toList, hty]; rfl
          have cop : ∀ (e : TypeId), elemOk P e = true → P.underlying t = some (.slice e) → o = .copy (P.cellsOf e) →
              EffOk base w0 ι H (evalE o vs H) ((execOp ρ ⟨dst, .call c, ty, pos, after, guard⟩).run P w) := by
            rintro e he hu rfl
            obtain ⟨zl, d, hz, hzl, hz0, hd⟩ := elemOk_spec he
            simp only [evalE, eCopy] at h
            split at h
            · rename_i dd x
              cases hl : srcLen x with
              | none => simp only [hl, ne_eq, not_true, forall_const] at h
              | some n =>
                simp only [hl] at h
                have hlenr := srcLen_ok (P := P) (ι := ι) hl w
                cases dd with
                | nils =>
                  refine ⟨.value (.int .i64 0), .int .i64 0, w, ι, H, [], hres _ _ w (fun cs => rfl) ?_, .inl rfl, fun τ => ?_, hM, Ext.refl _ _, Evol.refl _, trivial⟩
                  · have hf0 : (Builtin.firstCells (P.cellsOf e) 0 (cv ι x)).run P w = .ok #[] w := by
                      cases x <;> simp only [srcLen, reduceCtorEq] at hl
                      · simp [cv, Builtin.firstCells]
                      · simp [cv, Builtin.firstCells, loadCells, loadCellsFrom]
                      · rfl
                    simp only [Builtin.copy_, hty0, cvl, cv, List.getElem?_toArray, List.getElem?_cons_zero, List.getElem?_cons_succ, Sem.run_bind, run_underlying hu, Result.andThen_ok, hlenr, run_sizeOf_any e d hd, Nat.min_zero, hf0, Sem.run_pure]
                    simp [goInt]
                  · simp only [evalE, eCopy, hl]; rfl
                | sl id off len lo ex z' =>
                  simp only at h
                  cases hzz : Nat.beq (P.cellsOf e) z' with
                  | false => simp only [hzz, cond_false, ne_eq, not_true, forall_const] at h
                  | true =>
                    have hzz' := Nat.eq_of_beq_eq_true hzz
                    subst hzz'
                    simp only [hzz, cond_true] at h
                    have hmin : (bif Nat.ble n len then n else len) = Nat.min n len := by
                      cases hb2 : Nat.ble n len with
                      | true => have := Nat.le_of_ble_eq_true hb2; simp only [cond_true]; exact (Nat.min_eq_left this).symm
                      | false =>
                        have : len < n := by
                          rcases Nat.lt_or_ge len n with hh | hh
                          · exact hh
                          · rw [Nat.ble_eq_true_of_le hh] at hb2; cases hb2
                        simp only [cond_false]; exact (Nat.min_eq_right (by omega)).symm
                    rw [hmin] at h
                    cases hsr : srcCells H (P.cellsOf e) (Nat.min n len) x with
                    | none => simp only [hsr, ne_eq, not_true, forall_const] at h
                    | some new =>
                      simp only [hsr] at h
                      cases hst : H.stores id off new with
                      | none => simp only [hst, ne_eq, not_true, forall_const] at h
                      | some H1 =>
                        obtain ⟨hfirst, hnew, _⟩ := hM.src (P := P) hsr (fun m hm => by rw [hl] at hm; cases hm; exact Nat.min_le_left _ _)
                        obtain ⟨w', hr, hM', hev⟩ := hM.stores (P := P) hnew hst
                        refine ⟨.value (.int .i64 (Nat.min n len : Nat)), .int .i64 (.ofNat (Nat.min n len)), w', ι, H1, [], hres _ _ w' (fun cs => rfl) ?_, .inl rfl, fun τ => ?_, hM', Ext.refl _ _, hev, trivial⟩
                        · simp only [Builtin.copy_, hty0, cvl, cv, List.getElem?_toArray, List.getElem?_cons_zero, List.getElem?_cons_succ, Sem.run_bind, run_underlying hu, Result.andThen_ok, hlenr, run_sizeOf_any e d hd, hfirst, hr, Sem.run_pure, goInt]
                        · simp only [evalE, eCopy, hl, hzz, cond_true, hmin, hsr, hst]; rfl
                | _ => simp at h
            · simp at h
          split at hb
          · rename_i e e2 hu hu2
            split at hb
            · rename_i he
              cases hb
              exact cop e he hu rfl
            · cases hb
          · rename_i e hu hu2
            split at hb
            · rename_i he
              cases hb
              exact cop e he.1 hu rfl
            · cases hb
          · cases hb
        · -- clear
          rename_i t hty
          have hty0 : c.argTypes[0]? = some t := by rw [← Array.getElem?_toList, hty]; rfl
          split at hb
          · rename_i e hu
            split at hb
            · rename_i z hz
              split at hb
              · rename_i he
                cases hb
                obtain ⟨z', d, hz', hzl, hz0, hd⟩ := elemOk_spec he
                rw [hz] at hz'
                cases hz'
                obtain ⟨zv, h1, h2, h3⟩ := zeroT_sound (P := P) (w := w) ι hz
                simp only [evalE, eClear] at h
                split at h
                · refine ⟨.value (.tuple #[]), .tup [], w, ι, H, [], hres _ _ w (fun cs => rfl) ?_, .inl rfl, fun τ => rfl, hM, Ext.refl _ _, Evol.refl _, trivial⟩
                  simp only [Builtin.clear_, hty0, cvl, cv, List.getElem?_toArray, List.getElem?_cons_zero, Sem.run_bind, run_underlying hu, Result.andThen_ok, Sem.run_pure]
                · rename_i id off len lo ex z'
                  cases hzz : (Nat.beq (P.cellsOf e) z' && Nat.beq z.length (P.cellsOf e)) with
                  | false => simp only [hzz, cond_false, ne_eq, not_true, forall_const] at h
                  | true =>
                    simp only [hzz, cond_true] at h
                    cases hst : H.stores id off (repl len z) with
                    | none => simp only [hst, ne_eq, not_true, forall_const] at h
                    | some H1 =>
                      obtain ⟨w', hr, hM', hev⟩ := hM.stores (P := P) (repl_ok len (h3 H)) hst
                      refine ⟨.value (.tuple #[]), .tup [], w', ι, H1, [], hres _ _ w' (fun cs => rfl) ?_, .inl rfl, fun τ => ?_, hM', Ext.refl _ _, hev, trivial⟩
                      · have hzeros : Builtin.zeroCells zv.cells len = (cvl ι (repl len z)).toArray := by
                          have := zeros_eq ι z len (by omega)
                          rw [← this, h2]
                          simp only [Builtin.zeroCells, List.size_toArray, cvl_length]
                        cases len with
                        | zero =>
                          have hw : w' = w := by
                            simp only [repl, List.replicate_zero, List.flatten_nil, cvl, storeCells, Sem.run_pure] at hr
                            injection hr with _ hr
                            exact hr.symm
                          subst hw
                          simp only [Builtin.clear_, hty0, cvl, cv, List.getElem?_toArray, List.getElem?_cons_zero, Sem.run_bind, run_underlying hu, Result.andThen_ok, Sem.run_pure]
                        | succ n =>
                          simp only [Builtin.clear_, hty0, cvl, cv, List.getElem?_toArray, List.getElem?_cons_zero, Sem.run_bind, run_underlying hu, Result.andThen_ok, h1, hzeros, hr, Sem.run_pure]
                      · simp only [evalE, eClear, hzz, cond_true, hst]; rfl
                · simp at h
              · cases hb
            · cases hb
          · cases hb
        · cases hb
        · cases hb
        · cases hb
      · cases ht
    · cases ht
  case makeFunc fn first captured => cases fn <;> simp only at ht <;> cases ht
  all_goals first
    | (cases ht; done)
    | (repeat' (split at ht)) <;> first | (cases ht; done) | (obtain ⟨_, ht⟩ := kn_some ht; cases ht; done)
end
end Go.Am
