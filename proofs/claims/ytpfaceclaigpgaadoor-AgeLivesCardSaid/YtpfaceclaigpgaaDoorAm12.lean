/-
  THE ABSTRACT MACHINE 'Am', twelfth part: each operation on values answers as the model's does.
-/
import Derived.Test.YtpfaceclaigpgaaDoorAm11
namespace Go.Am

section
variable {P : Program} {w : World} {ι : Inj} {H : Heap} {ρ : Operand → Value}

theorem kn_some {α : Type} {t : TypeId} {x : Option α} {y : α} (h : kn P t x = some y) : (∃ d, P.underlying t = some d) ∧ x = some y := by
  unfold kn at h
  split at h
  · rename_i hs
    exact ⟨Option.isSome_iff_exists.1 hs, h⟩
  · cases h

theorem extract_take (s : List UInt8) (l h : Nat) : (ByteArray.mk s.toArray).extract l h = ⟨((s.take h).drop l).toArray⟩ := by
  apply ByteArray.ext
  apply Array.ext'
  simp [ByteArray.data_extract, List.drop_take]

theorem strCut_inv {s : List UInt8} {l h : Option Nat} {v : V} (hc : strCut s l h = some v) :
    h.getD s.length ≤ s.length ∧ l.getD 0 ≤ h.getD s.length ∧ v = .str ((s.take (h.getD s.length)).drop (l.getD 0)) := by
  unfold strCut at hc
  cases hb : (Nat.ble (h.getD s.length) s.length && Nat.ble (l.getD 0) (h.getD s.length)) with
  | false => simp only [hb, cond_false] at hc; cases hc
  | true =>
    simp only [hb, cond_true] at hc
    cases hc
    simp only [Bool.and_eq_true] at hb
    exact ⟨Nat.le_of_ble_eq_true hb.1, Nat.le_of_ble_eq_true hb.2, rfl⟩

theorem nilCut_inv {l h m : Option Nat} {v : V} (hc : nilCut l h m = some v) : l.getD 0 = 0 ∧ h.getD 0 = 0 ∧ m.getD 0 = 0 ∧ v = .nils := by
  unfold nilCut at hc
  cases hb : (Nat.beq (l.getD 0) 0 && Nat.beq (h.getD 0) 0 && Nat.beq (m.getD 0) 0) with
  | false => simp only [hb, cond_false] at hc; cases hc
  | true =>
    simp only [hb, cond_true] at hc
    cases hc
    simp only [Bool.and_eq_true] at hb
    exact ⟨Nat.eq_of_beq_eq_true hb.1.1, Nat.eq_of_beq_eq_true hb.1.2, Nat.eq_of_beq_eq_true hb.2, rfl⟩

theorem unOp_sound {u : UnOp} {x v : V} (h : unOp u x = some v) : (Go.Op.unary u (cv ι x)).run P w = .ok (cv ι v) w ∧ ∀ H, VOk H v := by
  unfold unOp at h
  split at h
  · rename_i k n
    simp only [mkI, forceI_eq, wr_eq] at h
    cases h
    exact ⟨rfl, fun _ => trivial⟩
  · rename_i k n
    simp only [mkI, forceI_eq, wr_eq] at h
    cases h
    refine ⟨?_, fun _ => trivial⟩
    have hones : BitVec.ofInt k.bits (if k.signed then -1 else k.max) = BitVec.allOnes k.bits := by cases k <;> rfl
    simp only [cv, Go.Op.unary, Go.Op.intBits, Sem.run_pure]
    rw [hones, BitVec.allOnes_xor, BitVec.toNat_not, ← toU_eq, ← pow2_eq]
    rfl
  · cases h
    exact ⟨rfl, fun _ => trivial⟩
  · cases h

theorem valid_eq (m : Nat) : Utf8.valid (m : Int) = (Nat.ble m 55295 || (Nat.ble 57344 m && Nat.ble m 1114111)) := by
  rw [Bool.eq_iff_iff]
  simp only [Utf8.valid, Bool.or_eq_true, Bool.and_eq_true, decide_eq_true_eq, Nat.ble_eq]
  omega

theorem encodeR_eq (r : Int) : Utf8.encode r = ⟨(encodeR r).toArray⟩ := by
  have key : ∀ c : Nat, (if c < 0x80 then (⟨#[UInt8.ofNat c]⟩ : ByteArray)
      else if c < 0x800 then ⟨#[UInt8.ofNat (0xC0 + c / 64), UInt8.ofNat (0x80 + c % 64)]⟩
      else if c < 0x10000 then ⟨#[UInt8.ofNat (0xE0 + c / 4096), UInt8.ofNat (0x80 + c / 64 % 64), UInt8.ofNat (0x80 + c % 64)]⟩
      else ⟨#[UInt8.ofNat (0xF0 + c / 262144), UInt8.ofNat (0x80 + c / 4096 % 64), UInt8.ofNat (0x80 + c / 64 % 64), UInt8.ofNat (0x80 + c % 64)]⟩) =
      ⟨(bif Nat.blt c 128 then [UInt8.ofNat c]
        else bif Nat.blt c 2048 then [UInt8.ofNat (192 + c / 64), UInt8.ofNat (128 + c % 64)]
        else bif Nat.blt c 65536 then [UInt8.ofNat (224 + c / 4096), UInt8.ofNat (128 + c / 64 % 64), UInt8.ofNat (128 + c % 64)]
        else [UInt8.ofNat (240 + c / 262144), UInt8.ofNat (128 + c / 4096 % 64), UInt8.ofNat (128 + c / 64 % 64), UInt8.ofNat (128 + c % 64)]).toArray⟩ := by
    intro c
    have hb : ∀ n, Nat.blt c n = decide (c < n) := fun n => by rw [Bool.eq_iff_iff]; simp [Nat.blt_eq]
    simp only [hb]
    by_cases h1 : c < 128
    · simp [h1]
    · by_cases h2 : c < 2048
      · simp [h1, h2]
      · by_cases h3 : c < 65536
        · simp [h1, h2, h3]
        · simp [h1, h2, h3]
  cases r with
  | ofNat m =>
    unfold Utf8.encode encodeR
    simp only [Int.ofNat_eq_natCast, valid_eq, Int.toNat_natCast]
    cases (Nat.ble m 55295 || (Nat.ble 57344 m && Nat.ble m 1114111)) with
    | true => exact key m
    | false => exact key 65533
  | negSucc m =>
    unfold Utf8.encode encodeR
    have : Utf8.valid (Int.negSucc m) = false := by
      rw [Bool.eq_false_iff]
      simp only [Utf8.valid, ne_eq, Bool.or_eq_true, Bool.and_eq_true, decide_eq_true_eq]
      omega
    simp only [this, Bool.false_eq_true, if_false]
    exact key 65533

theorem partOf_sound {t : TypeId} {d : TypeDesc} (hu : P.underlying t = some d) {cs : List V} {off : Nat} {v : V} (h : partOf cs off (P.cellsOf t) (aggT P t) = some v) (hok : VsOk H cs) :
    (part t (cvl ι cs).toArray off).run P w = .ok (cv ι v) w ∧ VOk H v := by
  unfold partOf at h
  simp only [part, Sem.run_bind, run_isAgg_any t d hu, Result.andThen_ok]
  cases ha : aggT P t with
  | true =>
    rw [ha] at h
    simp only at h
    cases hb : Nat.ble (off + P.cellsOf t) cs.length with
    | false => rw [hb] at h; cases h
    | true =>
      rw [hb] at h
      cases h
      have hle := Nat.le_of_ble_eq_true hb
      refine ⟨?_, ?_⟩
      · simp only [if_true, Sem.run_bind, run_sizeOf_any t d hu, Result.andThen_ok, Sem.run_pure, cv, cvl_take, cvl_drop]
        congr 2
        apply Array.ext'
        simp
      · rw [VOk, VsOk_iff] at *
        exact fun u hu => hok u (List.mem_of_mem_drop (List.mem_of_mem_take hu))
  | false =>
    rw [ha] at h
    simp only at h
    have : (cvl ι cs).toArray[off]? = some (cv ι v) := by simp [cvl_get, h]
    simp only [Bool.false_eq_true, if_false, this, Sem.run_pure]
    exact ⟨by trivial, (VsOk_iff H cs).1 hok v (List.mem_of_getElem? h)⟩

theorem slicePart {z n : Nat} {e : TypeId} {id off len lo : Nat} {ex : Option Nat} {l h m : Option Nat} {v : V} (hm : m.isSome = true → h.isSome = true) (hlen : len ≤ lo + ex.getD 0)
    (hc : slCut id off len lo ex z l h m = some v) (_hz : z = P.cellsOf e) (_hn : n = 0) :
    Value.slice (some (if m.getD (lo + ex.getD 0) = l.getD 0 then (⟨(ι id).1, (ι id).2 + off, none⟩ : Addr) else Addr.add ⟨(ι id).1, (ι id).2 + off, none⟩ (l.getD 0 * z)))
      (h.getD len - l.getD 0) (m.getD (lo + ex.getD 0) - l.getD 0) = cv ι v := by
  obtain ⟨h1, h2, h3, lo', ex', rfl, h4, h5⟩ := slCut_inv hm hlen hc
  rw [cut_addr, cv, h4]

/-- neither two numbers nor two texts -/
def Plainly (X Y : Value) : Prop := (∀ k p k' q, ¬ (X = .int k p ∧ Y = .int k' q)) ∧ (∀ p q, ¬ (X = .string p ∧ Y = .string q)) ∧ (∀ k p k' q, ¬ (X = .float k p ∧ Y = .float k' q)) ∧
  (∀ k p p' k' q q', ¬ (X = .complex k p p' ∧ Y = .complex k' q q'))

theorem binOp_eql_run {t : TypeId} {X Y : Value} {bb : Bool} (hp : Plainly X Y) (hr : (Go.Op.equal t X Y).run P w = .ok bb w) : (binOp .eql t X Y).run P w = .ok (.bool bb) w := by
  obtain ⟨e1, e2, e3, e4⟩ := hp
  unfold binOp
  split <;> first
    | contradiction
    | exact absurd ⟨rfl, rfl⟩ (e1 _ _ _ _)
    | exact absurd ⟨rfl, rfl⟩ (e2 _ _)
    | exact absurd ⟨rfl, rfl⟩ (e3 _ _ _ _)
    | exact absurd ⟨rfl, rfl⟩ (e4 _ _ _ _ _ _)
    | (simp only [Sem.run_bind, hr, Result.andThen_ok, Sem.run_pure]; done)
    | (simp_all; done)

theorem binOp_neq_run {t : TypeId} {X Y : Value} {bb : Bool} (hp : Plainly X Y) (hr : (Go.Op.equal t X Y).run P w = .ok bb w) : (binOp .neq t X Y).run P w = .ok (.bool (!bb)) w := by
  obtain ⟨e1, e2, e3, e4⟩ := hp
  unfold binOp
  split <;> first
    | contradiction
    | exact absurd ⟨rfl, rfl⟩ (e1 _ _ _ _)
    | exact absurd ⟨rfl, rfl⟩ (e2 _ _)
    | exact absurd ⟨rfl, rfl⟩ (e3 _ _ _ _)
    | exact absurd ⟨rfl, rfl⟩ (e4 _ _ _ _ _ _)
    | (simp only [Sem.run_bind, hr, Result.andThen_ok, Sem.run_pure]; done)
    | (simp_all; done)

/-- AN OPERATION ON VALUES -/
theorem pop_sound (op : Go.Op) (o : POp) (xs : List Operand) (vs : List V) (v : V) (dst : Option Tmp) (ty : TypeId) (pos : String) (after : Array Edge) (guard : Option (Nat × Bool))
    (ht : trOp P op = some (.p o, xs)) (hx : xs.map ρ = cvl ι vs) (hok : VsOk H vs) (h : evalP o vs = some v) :
    (execOp ρ ⟨dst, op, ty, pos, after, guard⟩).run P w = .ok (.value (cv ι v)) w ∧ VOk H v := by
  cases op <;> simp only [trOp] at ht
  case move x =>
    cases ht
    obtain ⟨a, rfl, ha⟩ := map1 hx
    cases inv_mv (vs := [a]) h
    exact ⟨by simp only [execOp, ha]; rfl, hok.1⟩
  case assign x =>
    cases ht
    obtain ⟨a, rfl, ha⟩ := map1 hx
    cases inv_mv (vs := [a]) h
    exact ⟨by simp only [execOp, ha]; rfl, hok.1⟩
  case pick c a b =>
    cases ht
    obtain ⟨x, y, z, rfl, hx1, hy1, hz1⟩ := map3 hx
    obtain ⟨c', a', b', he, rfl⟩ := inv_pick h
    cases he
    simp only [execOp, hx1, hy1, hz1, cv, asBool, Sem.run_bind, Sem.run_pure, Result.andThen_ok]
    cases c'
    · exact ⟨rfl, hok.2.2.1⟩
    · exact ⟨rfl, hok.2.1⟩
  case build t parts =>
    split at ht
    · rename_i z ps hz hps
      split at ht
      · rename_i hpo
        cases ht
        simp only [evalP, pBuild] at h
        split at h
        · rename_i cs hcs
          cases h
          obtain ⟨zv, hz1, hz2, hz3⟩ := zeroT_sound (w := w) ι hz
          refine ⟨?_, (fillC_ok ps z vs cs (hz3 H) hok hcs).1⟩
          have hparts : (parts.map fun (x : Nat × Operand) => (x.1, ρ x.2)).toList = parts.toList.map fun (i, x) => (i, ρ x) := by simp
          unfold partsOk at hpo
          split at hpo
          · rename_i fs hu
            have hpl : ∀ i, placeOf P t i = (fs.toList.map fun f => (f.offset, P.cellsOf f.type))[i]? := fun i => by
              simp only [placeOf, hu, List.getElem?_map, Array.getElem?_toList]
              cases fs[i]? <;> rfl
            have hfill := fill_sound ι ρ (fun i => (fs.toList.map fun f => (f.offset, P.cellsOf f.type))[i]?) parts.toList z ps vs cs (by rw [← funext hpl]; exact hps) hx hcs
            have hfs : ∀ f ∈ fs.toList, ∃ d, P.underlying f.type = some d := fun f hf => Option.isSome_iff_exists.1 (List.all_eq_true.1 hpo f hf)
            have hmap : (fs.mapM (m := Sem) fun f => do pure (f.offset, ← sizeOf f.type)).run P w = .ok (fs.toList.map fun f => (f.offset, P.cellsOf f.type)).toArray w := by
              rw [Array.mapM_eq_mapM_toList]
              simp only [Sem.run_map, fields_places fs.toList hfs, Result.andThen_ok]
            simp only [execOp, Instr.build, Sem.run_bind, hz1, Result.andThen_ok, run_underlying hu, hmap, hz2, hparts]
            simp only [List.getElem?_toArray, hfill]
            rfl
          · rename_i n e hu
            obtain ⟨de, hde⟩ := Option.isSome_iff_exists.1 hpo
            have hpl : ∀ i, placeOf P t i = some (i * P.cellsOf e, P.cellsOf e) := fun i => by simp only [placeOf, hu]
            have hfill := fill_sound ι ρ (fun i => some (i * P.cellsOf e, P.cellsOf e)) parts.toList z ps vs cs (by rw [← funext hpl]; exact hps) hx hcs
            simp only [execOp, Instr.build, Sem.run_bind, hz1, Result.andThen_ok, run_underlying hu, run_sizeOf_any e de hde, hz2, hparts, hfill]
            rfl
          · cases hpo
        · cases h
      · cases ht
    · cases ht
  case nilCheck x =>
    cases ht
    obtain ⟨a, rfl, ha⟩ := map1 hx
    simp only [evalP, pNilck] at h
    split at h <;> first | (cases h; done) | skip
    rename_i h1 h2 h3 heq
    cases h
    cases heq
    refine ⟨?_, hok.1⟩
    simp only [execOp, ha]
    cases v <;> first | rfl | (exfalso; simp_all)
  case binOp b t x y ty2 =>
    have bools : ∀ bb : Bool, VOk H (.bool bb) := fun _ => trivial
    have intCase : (o = .bin b ∧ xs = [x, y]) → (execOp ρ ⟨dst, .binOp b t x y ty2, ty, pos, after, guard⟩).run P w = .ok (.value (cv ι v)) w ∧ VOk H v := by
      rintro ⟨rfl, rfl⟩
      obtain ⟨a, c, rfl, ha, hc⟩ := map2 hx
      simp only [evalP] at h
      rcases inv_bin h with ⟨k, p, k', q, he, hr⟩ | ⟨p, q, he, hr⟩
      · cases he
        have hg : ∀ z, eqGuard b t x y (.int k p) z = pure () := fun z => eqGuard_at_int ..
        simp only [execOp, ha, hc, cv, hg]
        rcases hr with ⟨hb, hr⟩ | ⟨hb, rfl, hr⟩
        · obtain ⟨h1, n, rfl⟩ := shiftOp_sound (P := P) (w := w) (k' := k') ι t hb hr
          simp only [Sem.run_bind, Sem.run_pure, Result.andThen_ok, h1]
          exact ⟨by trivial, trivial⟩
        · obtain ⟨h1, bb, h2⟩ := intBin_sound (P := P) (w := w) ι t hb hr
          simp only [Sem.run_bind, Sem.run_pure, Result.andThen_ok, h1]
          rcases h2 with rfl | ⟨n, rfl⟩ <;> exact ⟨by trivial, trivial⟩
      · cases he
        have hg : ∀ z, eqGuard b t x y (.string ⟨p.toArray⟩) z = pure () := fun z => eqGuard_at_string ..
        simp only [execOp, ha, hc, cv, hg]
        obtain ⟨h1, h2⟩ := strBin_sound (P := P) (w := w) ι t hr
        simp only [Sem.run_bind, Sem.run_pure, Result.andThen_ok, h1]
        rcases h2 with ⟨bb, rfl⟩ | ⟨n, rfl⟩ <;> exact ⟨by trivial, trivial⟩
    have eqCase : ∀ (neg : Bool) (e : E), b = (if neg then .neq else .eql) → eqOf P t = some e → (∀ k, P.underlying t ≠ some (.int k)) → P.underlying t ≠ some .string → (o = .eq neg e ∧ xs = [x, y]) →
        (execOp ρ ⟨dst, .binOp b t x y ty2, ty, pos, after, guard⟩).run P w = .ok (.value (cv ι v)) w ∧ VOk H v := by
      rintro neg e rfl heq hni hns ⟨rfl, rfl⟩
      obtain ⟨a, c, rfl, ha, hc⟩ := map2 hx
      simp only [evalP, pEq] at h
      split at h
      · rename_i bb hbb
        cases h
        obtain ⟨h1, h2⟩ := eqV_sound (P := P) (w := w) ι t heq hbb (if neg then .neq else .eql) x y
        refine ⟨?_, trivial⟩
        simp only [execOp, ha, hc, Sem.run_bind, h2, Result.andThen_ok]
        -- neither two numbers nor two texts are held against each other here
        have hkind : (∀ k p k' q, ¬ (a = .int k p ∧ c = .int k' q)) ∧ (∀ p q, ¬ (a = .str p ∧ c = .str q)) := by
          refine ⟨?_, ?_⟩
          · rintro k p k' q ⟨rfl, rfl⟩
            unfold eqOf at heq
            split at heq <;> first | (cases heq; done) | (cases heq; simp [eqV, eqS] at hbb; done) | skip
            split at heq
            · split at heq
              · cases heq; simp [eqV, eqS] at hbb
              · cases heq
            · cases heq
          · rintro p q ⟨rfl, rfl⟩
            unfold eqOf at heq
            split at heq <;> first | (cases heq; done) | (cases heq; simp [eqV, eqS] at hbb; done) | skip
            split at heq
            · split at heq
              · cases heq; simp [eqV, eqS] at hbb
              · cases heq
            · cases heq
        have hpl : Plainly (cv ι a) (cv ι c) := by
          refine ⟨?_, ?_, ?_, ?_⟩
          · rintro k p k' q ⟨e1, e2⟩
            cases a <;> simp only [cv, reduceCtorEq] at e1
            cases c <;> simp only [cv, reduceCtorEq] at e2
            exact hkind.1 _ _ _ _ ⟨rfl, rfl⟩
          · rintro p q ⟨e1, e2⟩
            cases a <;> simp only [cv, reduceCtorEq] at e1
            cases c <;> simp only [cv, reduceCtorEq] at e2
            exact hkind.2 _ _ ⟨rfl, rfl⟩
          · rintro k p k' q ⟨e1, e2⟩
            cases a <;> simp only [cv, reduceCtorEq] at e1
          · rintro k p p' k' q q' ⟨e1, e2⟩
            cases a <;> simp only [cv, reduceCtorEq] at e1
        have hbin : (binOp (if neg then .neq else .eql) t (cv ι a) (cv ι c)).run P w = .ok (.bool (bb != neg)) w := by
          cases neg
          · rw [Bool.bne_false]; exact binOp_eql_run hpl h1
          · rw [Bool.bne_true]; exact binOp_neq_run hpl h1
        rw [hbin]
        rfl
      · cases h
    split at ht
    · cases ht; exact intCase ⟨rfl, rfl⟩
    · cases ht; exact intCase ⟨rfl, rfl⟩
    · rename_i hni hns
      split at ht
      · rename_i e he
        cases ht
        exact eqCase false e rfl he (fun k hk => hni k hk) (fun hk => hns hk) ⟨rfl, rfl⟩
      · rename_i e he
        cases ht
        exact eqCase true e rfl he (fun k hk => hni k hk) (fun hk => hns hk) ⟨rfl, rfl⟩
      · cases ht
  case unOp u t x =>
    cases ht
    obtain ⟨a, rfl, ha⟩ := map1 hx
    obtain ⟨h1, h2⟩ := unOp_sound (P := P) (w := w) (ι := ι) (show unOp u a = some v from h)
    refine ⟨?_, h2 H⟩
    simp only [execOp, ha, Sem.run_bind, h1, Result.andThen_ok, Sem.run_pure]
  case convert s t x =>
    split at ht
    · rename_i ks k hs hk
      cases ht
      obtain ⟨a, rfl, ha⟩ := map1 hx
      simp only [evalP, pToInt] at h
      split at h
      · rename_i k0 n heq
        cases heq
        simp only [mkI, forceI_eq, wr_eq] at h
        cases h
        refine ⟨?_, trivial⟩
        simp only [execOp, ha, cv, convert, Sem.run_bind, run_underlying hs, run_underlying hk, Result.andThen_ok, Conv.intToInt, Sem.run_pure]
      · cases h
    · rename_i ks hs hk
      cases ht
      obtain ⟨a, rfl, ha⟩ := map1 hx
      simp only [evalP, pRuneStr] at h
      split at h
      · rename_i k0 n heq
        cases heq
        cases h
        refine ⟨?_, trivial⟩
        simp only [execOp, ha, cv, convert, Sem.run_bind, run_underlying hs, run_underlying hk, Result.andThen_ok, Conv.intToString, Sem.run_pure, encodeR_eq]
      · cases h
    · rename_i hs hk
      cases ht
      obtain ⟨a, rfl, ha⟩ := map1 hx
      simp only [evalP, pAsStr] at h
      split at h
      · rename_i s heq
        cases heq
        cases h
        refine ⟨?_, trivial⟩
        simp only [execOp, ha, cv, convert, Sem.run_bind, run_underlying hs, run_underlying hk, Result.andThen_ok, Sem.run_pure]
      · cases h
    · rename_i hs hk
      split at ht <;> cases ht
    · rename_i hs hk
      split at ht <;> cases ht
    · rename_i hs hk
      split at ht <;> cases ht
    · cases ht
  case makeInterface t x =>
    split at ht
    · cases ht
    · rename_i d hnd hu
      cases ht
      obtain ⟨a, rfl, ha⟩ := map1 hx
      simp only [evalP, pIface] at h
      cases h
      refine ⟨?_, hok.1⟩
      simp only [execOp, ha, Instr.makeInterface, Sem.run_bind, run_underlying hu, Result.andThen_ok]
      rfl
    · cases ht
  case next x b =>
    cases b <;> simp only at ht <;> cases ht
  case makeFunc fn first captured =>
    cases fn <;> simp only at ht <;> first | (cases ht; done) | skip
    · rename_i f
      cases ht
      simp only [evalP, Option.some.injEq] at h
      subst h
      have h1 : first.toList.map ρ = cvl ι (vs.take first.size) := by
        rw [cvl_take, ← hx, List.map_append, List.take_left' (by simp)]
      have h2 : captured.toList.map ρ = cvl ι (vs.drop first.size) := by
        rw [cvl_drop, ← hx, List.map_append, List.drop_left' (by simp)]
      refine ⟨?_, ?_⟩
      · simp only [execOp, Instr.makeFunc, Sem.run_bind, Sem.run_pure, Result.andThen_ok, cv, ← h1, ← h2]
        rw [← Array.toList_map, ← Array.toList_map]
      · rw [VsOk_iff] at hok
        exact ⟨(VsOk_iff H _).2 fun u hu => hok u (List.mem_of_mem_take hu), (VsOk_iff H _).2 fun u hu => hok u (List.mem_of_mem_drop hu)⟩
  case slice t x lo hi mx =>
    have flagOk : ∀ {l h m : Option Nat}, ¬ (mx.isSome && !hi.isSome) = true → OptV (hi.map ρ) h → OptV (mx.map ρ) m → m.isSome = true → h.isSome = true := by
      intro l h m hf oh om hm
      have h1 := oh.isSome
      have h2 := om.isSome
      cases hi <;> cases mx <;> simp_all
    have arr : ∀ (n : Nat) (e : TypeId) (a : V) (r : List V), (¬ (mx.isSome && !hi.isSome) = true) → (∃ d, P.underlying e = some d) → ρ x = cv ι a → (lo.toList ++ hi.toList ++ mx.toList).map ρ = cvl ι r → VsOk H (a :: r) →
        pArrSlice n (P.cellsOf e) lo.isSome hi.isSome mx.isSome (a :: r) = some v →
        ∃ id off l h m, a = .ptr id off ∧ (Instr.sliceBounds false n n (lo.map ρ) (hi.map ρ) (mx.map ρ)).run P w = .ok (l, h, m) w ∧
          Value.slice (some (if m = l then (⟨(ι id).1, (ι id).2 + off, none⟩ : Addr) else Addr.add ⟨(ι id).1, (ι id).2 + off, none⟩ (l * P.cellsOf e))) (h - l) (m - l) = cv ι v ∧ VOk H v := by
      intro n e a r hf hd ha hr hok h
      simp only [pArrSlice] at h
      split at h
      · rename_i id off vs' heq
        cases heq
        split at h
        · rename_i l h' m hb
          obtain ⟨ol, oh, om⟩ := bounds3_sound hb hr
          have hm := flagOk (l := l) hf oh om
          have hlen : n ≤ n + (none : Option Nat).getD 0 := Nat.le_refl _
          obtain ⟨h1, h2, h3, _⟩ := slCut_inv hm hlen h
          refine ⟨id, off, l.getD 0, h'.getD n, m.getD n, rfl, sliceBounds_run false n n ol oh om hm h1 h2 h3, slicePart hm hlen h rfl rfl, ?_⟩
          exact slCut_ok (H := H) hm ⟨hok.1, hlen, fun he => by cases he⟩ h
        · cases h
      · cases h
    split at ht
    · rename_i hu
      split at ht
      · cases ht
      · rename_i hmx
        cases ht
        have hmx' : mx = none := by cases mx <;> simp_all
        subst hmx'
        obtain ⟨a, r, rfl, ha, hr⟩ := mapCons hx
        simp only [evalP, pStrSlice] at h
        split at h
        · rename_i s vs' heq
          cases heq
          split at h
          · rename_i l h' m hb
            obtain ⟨ol, oh, om⟩ := bounds3_sound (mx := none) hb hr
            obtain ⟨h1, h2, rfl⟩ := strCut_inv h
            have hm0 : m = none := by rcases om with ⟨_, rfl⟩ | ⟨k, m', he, _⟩ <;> first | rfl | cases he
            subst hm0
            have hbd := sliceBounds_run (P := P) (w := w) false s.length s.length ol oh om (fun he => by cases he) (Nat.le_refl _) h1 h2
            refine ⟨?_, trivial⟩
            have hsz : (ByteArray.mk s.toArray).size = s.length := by simp [ByteArray.size]
            simp only [execOp, ha, cv, Instr.sliceAt, Sem.run_bind, run_underlying hu, Result.andThen_ok, Instr.slice, hsz]
            simp only [Option.map_none] at hbd
            simp [hbd, extract_take]
          · cases h
        · cases h
    · rename_i e hu
      split at ht
      · cases ht
      · rename_i hf
        obtain ⟨⟨d, hd⟩, ht⟩ := kn_some ht
        cases ht
        obtain ⟨a, r, rfl, ha, hr⟩ := mapCons hx
        simp only [evalP, pSlSlice] at h
        split at h
        · rename_i id off len clo ex z vs' heq
          cases heq
          cases hz : Nat.beq (P.cellsOf e) z with
          | false => simp only [hz, cond_false] at h; cases h
          | true =>
            have hz' := Nat.eq_of_beq_eq_true hz
            subst hz'
            simp only [hz, cond_true] at h
            split at h
            · rename_i l h' m hb
              obtain ⟨ol, oh, om⟩ := bounds3_sound hb hr
              have hm := flagOk (l := l) hf oh om
              have hlen := hok.1.2.1
              obtain ⟨h1, h2, h3, _⟩ := slCut_inv hm hlen h
              have hbd := sliceBounds_run (P := P) (w := w) true len (clo + ex.getD 0) ol oh om hm h1 h2 h3
              refine ⟨?_, slCut_ok hm hok.1 h⟩
              rw [← slicePart (ι := ι) (e := e) (n := 0) hm hlen h rfl rfl]
              simp only [execOp, ha, cv, Instr.sliceAt, Sem.run_bind, run_underlying hu, Result.andThen_ok, Instr.slice, hbd, run_sizeOf_any _ d hd, Sem.run_pure]
              congr 3
              split <;> rfl
            · cases h
        · rename_i vs' heq
          cases heq
          split at h
          · rename_i l h' m hb
            obtain ⟨ol, oh, om⟩ := bounds3_sound hb hr
            have hm := flagOk (l := l) hf oh om
            obtain ⟨h1, h2, h3, rfl⟩ := nilCut_inv h
            have hbd := sliceBounds_run (P := P) (w := w) true 0 0 ol oh om hm (by omega) (by omega) (by omega)
            refine ⟨?_, trivial⟩
            simp only [execOp, ha, cv, Instr.sliceAt, Sem.run_bind, run_underlying hu, Result.andThen_ok, Instr.slice, hbd, run_sizeOf_any _ d hd, Sem.run_pure, h1, h2, h3]
            rfl
          · cases h
        · cases h
    · rename_i n e hu
      split at ht
      · cases ht
      · rename_i hf
        obtain ⟨hd, ht⟩ := kn_some ht
        cases ht
        obtain ⟨a, r, rfl, ha, hr⟩ := mapCons hx
        obtain ⟨id, off, l, h', m, rfl, hbd, hv, hvok⟩ := arr n e a r hf hd ha hr hok h
        obtain ⟨d, hd⟩ := hd
        refine ⟨?_, hvok⟩
        rw [← hv]
        simp only [execOp, ha, cv, Instr.sliceAt, Instr.sureAddr, Sem.run_bind, run_underlying hu, Result.andThen_ok, hbd, run_sizeOf_any _ d hd, Sem.run_pure]
    · rename_i ar hu
      split at ht
      · rename_i n e hua
        split at ht
        · cases ht
        · rename_i hf
          obtain ⟨hd, ht⟩ := kn_some ht
          cases ht
          obtain ⟨a, r, rfl, ha, hr⟩ := mapCons hx
          obtain ⟨id, off, l, h', m, rfl, hbd, hv, hvok⟩ := arr n e a r hf hd ha hr hok h
          obtain ⟨d, hd⟩ := hd
          refine ⟨?_, hvok⟩
          rw [← hv]
          simp only [execOp, ha, cv, Instr.sliceAt, Instr.slice, asAddr, Sem.run_bind, run_underlying hu, run_underlying hua, Result.andThen_ok, hbd, run_sizeOf_any _ d hd, Sem.run_pure]
      · cases ht
    · cases ht
  case fieldAddr t x i =>
    split at ht
    · rename_i fs hu
      split at ht
      · rename_i f hf
        split at ht
        · cases ht
        · rename_i hz
          obtain ⟨⟨d, hd⟩, ht⟩ := kn_some ht
          cases ht
          obtain ⟨a, rfl, ha⟩ := map1 hx
          simp only [evalP, pFieldAddr] at h
          split at h
          · rename_i id off heq
            cases heq
            cases h
            refine ⟨?_, hok.1⟩
            simp only [execOp, ha, cv, Instr.fieldAt, Instr.sureAddr, Sem.run_bind, run_underlying hu, Result.andThen_ok, hf, Sem.run_pure, fieldPlace, run_sizeOf_any _ d hd, if_neg hz, add_addr, Nat.add_assoc]
          · cases h
      · cases ht
    · cases ht
  case field t x i =>
    split at ht
    · rename_i fs hu
      split at ht
      · rename_i f hf
        obtain ⟨⟨d, hd⟩, ht⟩ := kn_some ht
        cases ht
        obtain ⟨a, rfl, ha⟩ := map1 hx
        simp only [evalP, pField] at h
        split at h
        · rename_i cs heq
          cases heq
          obtain ⟨h1, h2⟩ := partOf_sound (w := w) (ι := ι) hd h hok.1
          refine ⟨?_, h2⟩
          simp only [execOp, ha, cv, Instr.field, Sem.run_bind, run_underlying hu, Result.andThen_ok, hf, asAgg, Sem.run_pure, h1]
        · cases h
      · cases ht
    · cases ht
  case indexAddr t x i =>
    split at ht
    · rename_i e hu
      obtain ⟨⟨d, hd⟩, ht⟩ := kn_some ht
      cases ht
      obtain ⟨a, c, rfl, ha, hc⟩ := map2 hx
      simp only [evalP, pSlIdx] at h
      split at h
      · rename_i id off len clo ex z k n heq
        cases heq
        split at h
        · rename_i m hm
          have := natOf_some hm
          subst this
          cases hb : (Nat.beq (P.cellsOf e) z && Nat.blt m len) with
          | false => simp only [hb, cond_false] at h; cases h
          | true =>
            simp only [hb, cond_true] at h
            cases h
            simp only [Bool.and_eq_true] at hb
            have hlt : m < len := by simpa [Nat.blt_eq] using hb.2
            refine ⟨?_, hok.1.1⟩
            simp only [execOp, ha, hc, cv, Instr.indexAt, asIntOf, Sem.run_bind, Sem.run_pure, Result.andThen_ok, run_underlying hu]
            simp [hlt, run_sizeOf_any _ d hd, add_addr, Nat.add_assoc]
        · cases h
      · cases h
    · rename_i n e hu
      obtain ⟨⟨d, hd⟩, ht⟩ := kn_some ht
      cases ht
      obtain ⟨a, c, rfl, ha, hc⟩ := map2 hx
      simp only [evalP, pArrIdx] at h
      split at h
      · rename_i id off k n' heq
        cases heq
        split at h
        · rename_i m hm
          have := natOf_some hm
          subst this
          cases hb : Nat.blt m n with
          | false => simp only [hb, cond_false] at h; cases h
          | true =>
            simp only [hb, cond_true] at h
            cases h
            have hlt : m < n := by simpa [Nat.blt_eq] using hb
            refine ⟨?_, hok.1⟩
            simp only [execOp, ha, hc, cv, Instr.indexAt, asIntOf, Sem.run_bind, Sem.run_pure, Result.andThen_ok, run_underlying hu]
            simp [Instr.sureAddr, hlt, run_sizeOf_any _ d hd, add_addr, Nat.add_assoc]
        · cases h
      · cases h
    · cases ht
  case index t x i =>
    split at ht
    · rename_i hu
      cases ht
      obtain ⟨a, c, rfl, ha, hc⟩ := map2 hx
      simp only [evalP, pStrIndex] at h
      split at h
      · rename_i s k n heq
        cases heq
        split at h
        · rename_i m hm
          have := natOf_some hm
          subst this
          split at h
          · rename_i ch hch
            cases h
            refine ⟨?_, trivial⟩
            have hlt : m < s.length := (List.getElem?_eq_some_iff.1 hch).1
            have hget : (ByteArray.mk s.toArray)[m]? = some ch := by
              rw [ByteArray.getElem?_lt' _ _ (by simpa [ByteArray.size] using hlt)]
              congr 1
              have := (List.getElem?_eq_some_iff.1 hch).2
              simpa [ByteArray.getElem_eq_getElem_data] using this
            simp only [execOp, ha, hc, cv, Instr.index, asIntOf, Sem.run_bind, Sem.run_pure, Result.andThen_ok, run_underlying hu]
            simp [hget]
          · cases h
        · cases h
      · cases h
    · rename_i n e hu
      obtain ⟨⟨d, hd⟩, ht⟩ := kn_some ht
      cases ht
      obtain ⟨a, c, rfl, ha, hc⟩ := map2 hx
      simp only [evalP, pArrIndex] at h
      split at h
      · rename_i cs k n' heq
        cases heq
        split at h
        · rename_i m hm
          have := natOf_some hm
          subst this
          cases hb : Nat.blt m n with
          | false => simp only [hb, cond_false] at h; cases h
          | true =>
            simp only [hb, cond_true] at h
            have hlt : m < n := by simpa [Nat.blt_eq] using hb
            obtain ⟨h1, h2⟩ := partOf_sound (w := w) (ι := ι) hd h hok.1
            refine ⟨?_, h2⟩
            simp only [execOp, ha, hc, cv, Instr.index, asIntOf, Sem.run_bind, Sem.run_pure, Result.andThen_ok, run_underlying hu]
            simp [hlt, run_sizeOf_any _ d hd, h1]
        · cases h
      · cases h
    · cases ht
  case extract x i =>
    cases ht
    obtain ⟨a, rfl, ha⟩ := map1 hx
    simp only [evalP, pExtract] at h
    split at h
    · rename_i us heq
      cases heq
      refine ⟨?_, (VsOk_iff H us).1 hok.1 v (List.mem_of_getElem? h)⟩
      have : (cvl ι us).toArray[i]? = some (cv ι v) := by simp [cvl_get, h]
      simp only [execOp, ha, cv, Instr.extract, Sem.run_bind, this, Sem.run_pure, Result.andThen_ok]
    · cases h
  case call c =>
    split at ht
    · split at ht <;> cases ht
    · cases ht
    · rename_i b hc
      split at ht
      · rename_i o' hb
        cases ht
        have hargs : c.args.map ρ = (cvl ι vs).toArray := by
          rw [← hx, ← Array.toList_map]
        have hres : ∀ (S : Sem Value), (∀ cs, builtin b c.argTypes ty cs (cvl ι vs).toArray = (do pure (.value (← S)))) → S.run P w = .ok (cv ι v) w →
            (execOp ρ ⟨dst, .call c, ty, pos, after, guard⟩).run P w = .ok (.value (cv ι v)) w := by
          intro S hS hr
          simp only [execOp, resolve, hc, Sem.run_bind, Sem.run_pure, Result.andThen_ok, hargs, invoke]
          rw [hS]
          simp only [Sem.run_bind, hr, Result.andThen_ok, Sem.run_pure]
        have hsz : ∀ s : List UInt8, (ByteArray.mk s.toArray).size = s.length := fun s => by simp [ByteArray.size]
        unfold trBuiltin at hb
        split at hb
        · rename_i t rest hty
          have hty0 : c.argTypes[0]? = some t := by rw [← Array.getElem?_toList, hty]; rfl
          split at hb
          · rename_i hu
            cases hb
            simp only [evalP, pLenS] at h
            split at h
            · cases h
              refine ⟨hres _ (fun _ => rfl) ?_, trivial⟩
              simp only [Builtin.len_, hty0, cvl, cv, List.getElem?_toArray, List.getElem?_cons_zero, Sem.run_bind, run_underlying hu, Result.andThen_ok, hsz, goInt, Sem.run_pure]
              rfl
            · cases h
          · rename_i e hu
            cases hb
            simp only [evalP, pLen] at h
            split at h
            · cases h
              refine ⟨hres _ (fun _ => rfl) ?_, trivial⟩
              simp only [Builtin.len_, hty0, cvl, cv, List.getElem?_toArray, List.getElem?_cons_zero, Sem.run_bind, run_underlying hu, Result.andThen_ok, goInt, Sem.run_pure]
              rfl
            · cases h
              refine ⟨hres _ (fun _ => rfl) ?_, trivial⟩
              simp only [Builtin.len_, hty0, cvl, cv, List.getElem?_toArray, List.getElem?_cons_zero, Sem.run_bind, run_underlying hu, Result.andThen_ok, goInt, Sem.run_pure]
              rfl
            · cases h
          · rename_i n e hu
            cases hb
            simp only [evalP, pArrLen] at h
            split at h
            · cases h
              refine ⟨hres _ (fun _ => rfl) ?_, trivial⟩
              simp only [Builtin.len_, hty0, cvl, List.getElem?_toArray, List.getElem?_cons_zero, Sem.run_bind, run_underlying hu, Result.andThen_ok, goInt, Sem.run_pure]
              rfl
            · cases h
          · rename_i ar hu
            split at hb
            · rename_i n e hua
              cases hb
              simp only [evalP, pArrLen] at h
              split at h
              · cases h
                refine ⟨hres _ (fun _ => rfl) ?_, trivial⟩
                simp only [Builtin.len_, hty0, cvl, List.getElem?_toArray, List.getElem?_cons_zero, Sem.run_bind, run_underlying hu, run_underlying hua, Result.andThen_ok, goInt, Sem.run_pure]
                rfl
              · cases h
            · cases hb
          · cases hb
        · rename_i t rest hty
          have hty0 : c.argTypes[0]? = some t := by rw [← Array.getElem?_toList, hty]; rfl
          split at hb
          · rename_i e hu
            cases hb
            simp only [evalP, pCap] at h
            split at h
            · cases h
              refine ⟨hres _ (fun _ => rfl) ?_, trivial⟩
              simp only [Builtin.cap_, hty0, cvl, cv, List.getElem?_toArray, List.getElem?_cons_zero, Sem.run_bind, run_underlying hu, Result.andThen_ok, goInt, Sem.run_pure]
              rfl
            · cases h
              refine ⟨hres _ (fun _ => rfl) ?_, trivial⟩
              simp only [Builtin.cap_, hty0, cvl, cv, List.getElem?_toArray, List.getElem?_cons_zero, Sem.run_bind, run_underlying hu, Result.andThen_ok, goInt, Sem.run_pure]
              rfl
            · cases h
          · cases hb
        · split at hb <;> first | (cases hb; done) | (split at hb <;> cases hb)
        · split at hb <;> first | (cases hb; done) | (split at hb <;> cases hb)
        · split at hb <;> first | (cases hb; done) | (split at hb <;> first | (cases hb; done) | (split at hb <;> cases hb))
        · cases hb
          simp only [evalP, pMin] at h
          split at h
          · cases h
            refine ⟨hres _ (fun _ => rfl) ?_, trivial⟩
            simp [Builtin.min_, Builtin.min2, cvl, cv]
          · cases h
        · cases hb
          simp only [evalP, pMax] at h
          split at h
          · cases h
            refine ⟨hres _ (fun _ => rfl) ?_, trivial⟩
            simp [Builtin.max_, Builtin.max2, cvl, cv]
          · cases h
        · cases hb
      · cases ht
    · cases ht
  all_goals first
    | (cases ht; done)
    | (repeat' (split at ht)) <;> first | (cases ht; done) | (obtain ⟨_, ht⟩ := kn_some ht; cases ht; done)
end
end Go.Am
