/-
  THE ABSTRACT MACHINE 'Am', sixth part: new versions of a block, iterators, marks.
-/
import Derived.Test.YtpfaceclaigpgaaDoorAm5
namespace Go.Am
open Go.RowKit (Below)

theorem Evol.version {ι : Inj} {base : Nat} {w0 w : World} {H : Heap} (h : MRel ι base w0 H w) (cells : List V) (room fam fr ver : Nat) (hf : H.fams.get fam = some (fr, ver)) :
    Evol H (H.version cells room fam fr ver) := by
  have hold : ∀ id, id < H.size → (H.version cells room fam fr ver).blk.get id = H.blk.get id := fun id hid => T.get_set_ne _ _ (by omega)
  refine ⟨Nat.le_succ _, fun id hid => by simp only [Heap.room?, hold id hid], ?_, ?_⟩
  · intro id cs r f v wr p st hg
    exact ⟨cs, st, by rw [hold id (h.lt _ _ hg)]; exact hg, Nat.le_refl _, fun _ => rfl⟩
  · intro f fr1 la1 hg
    by_cases e : fam = f
    · subst e
      rw [hf] at hg
      injection hg with hg
      injection hg with e1 e2
      subst e1
      exact ⟨fr, ver + 1, T.get_set_same _ _ _, Nat.le_refl _⟩
    · exact ⟨fr1, la1, by rw [show (H.version cells room fam fr ver).fams.get f = H.fams.get f from T.get_set_ne _ _ e]; exact hg, Nat.le_refl _⟩

/-- a new version of a block, wherever it lies -/
theorem MRel.version {ι : Inj} {base : Nat} {w0 w : World} {H : Heap} (h : MRel ι base w0 H w) {id : Nat} {cs : List V} {room fam ver : Nat} {pl : Bool} {st fr : Nat}
    (hg : H.blk.get id = some (.mem cs room fam ver true pl st)) (hf : H.fams.get fam = some (fr, ver)) (_hle : fr ≤ ver)
    (cells : List V) (room' : Nat) (x : Nat × Nat) (w' : World) (hbelow : Below base w0 w') (hbase : base ≤ w'.heap.size)
    (hnew : BOk (upd ι H.size x) base w' H.size cells room' true) (hvs : VsOk H cells) (hlen : cells.length ≤ room')
    (hold : ∀ i cs1 r1 f1 v1 w1 p1 s1 fr1 la1, H.blk.get i = some (.mem cs1 r1 f1 v1 w1 p1 s1) → H.fams.get f1 = some (fr1, la1) → fr1 ≤ v1 → BOk ι base w' i cs1 r1 w1)
    (hiter : ∀ (b : Nat) (s : ByteArray) (p : Nat), w.heap[b]? = some (Obj.stringIter s p) → w'.heap[b]? = some (Obj.stringIter s p))
    (hsep : ∀ j cs1 r1 f1 v1 w1 p1 s1 fr1 la1, H.blk.get j = some (.mem cs1 r1 f1 v1 w1 p1 s1) → H.fams.get f1 = some (fr1, la1) → fr1 ≤ v1 → x.1 = (ι j).1 → fam = f1)
    (hends : ∀ j cs1 r1 v1 w1 p1 s1, H.blk.get j = some (.mem cs1 r1 fam v1 w1 p1 s1) → fr ≤ v1 → (ι j).1 = x.1 → (ι j).2 + cs1.length ≤ x.2 + cells.length) :
    MRel (upd ι H.size x) base w0 (H.version cells room' fam fr ver) w' := by
  have hev := Evol.version h cells room' fam fr ver hf
  have hext := Ext.upd H ι x
  have hfl := (h.fam _ _ _ _ _ _ _ _ hg).1
  have hnewG : (H.version cells room' fam fr ver).blk.get H.size = some (.mem cells room' fam (ver + 1) true false 0) := T.get_set_same _ _ _
  have holdG : ∀ i, i ≠ H.size → (H.version cells room' fam fr ver).blk.get i = H.blk.get i := fun i hi => T.get_set_ne _ _ (Ne.symm hi)
  have part : ∀ i cs1 r1 f1 v1 w1 p1 s1, (H.version cells room' fam fr ver).blk.get i = some (.mem cs1 r1 f1 v1 w1 p1 s1) →
      (i = H.size ∧ cs1 = cells ∧ r1 = room' ∧ f1 = fam ∧ v1 = ver + 1 ∧ w1 = true) ∨ (i < H.size ∧ H.blk.get i = some (.mem cs1 r1 f1 v1 w1 p1 s1)) := by
    intro i cs1 r1 f1 v1 w1 p1 s1 hi
    by_cases e : i = H.size
    · subst e
      rw [hnewG] at hi
      injection hi with hi
      injection hi with e1 e2 e3 e4 e5 e6 e7
      exact .inl ⟨rfl, e1.symm, e2.symm, e3.symm, e4.symm, e5.symm⟩
    · rw [holdG _ e] at hi; exact .inr ⟨h.lt _ _ hi, hi⟩
  -- what may be read of a family has not turned
  have famGet : ∀ f fr1 la1, (H.version cells room' fam fr ver).fams.get f = some (fr1, la1) → ∃ la2, H.fams.get f = some (fr1, la2) := by
    intro f fr1 la1 hh
    by_cases e : fam = f
    · subst e
      rw [show (H.version cells room' fam fr ver).fams.get fam = some (fr, ver + 1) from T.get_set_same _ _ _] at hh
      injection hh with hh
      injection hh with e1 e2
      subst e1
      exact ⟨ver, hf⟩
    · rw [show (H.version cells room' fam fr ver).fams.get f = H.fams.get f from T.get_set_ne _ _ e] at hh; exact ⟨la1, hh⟩
  have verle : ∀ i cs1 r1 v1 w1 p1 s1, H.blk.get i = some (.mem cs1 r1 fam v1 w1 p1 s1) → v1 ≤ ver := by
    intro i cs1 r1 v1 w1 p1 s1 hi
    obtain ⟨_, fr1, la1, hf1, hle1⟩ := h.fam _ _ _ _ _ _ _ _ hi
    rw [hf] at hf1
    injection hf1 with hf1
    injection hf1 with e1 e2
    omega
  refine ⟨hbelow, hbase, ?_, ?_, ?_, ?_, ?_, ?_, ?_, ?_, ?_, ?_⟩
  · intro i b hi
    by_cases e : i = H.size
    · subst e; exact Nat.lt_succ_self _
    · rw [holdG _ e] at hi; exact Nat.lt_succ_of_lt (h.lt _ _ hi)
  · intro i cs1 r1 f1 v1 w1 p1 s1 hi
    have hfamNew : (H.version cells room' fam fr ver).fams.get fam = some (fr, ver + 1) := T.get_set_same _ _ _
    rcases part _ _ _ _ _ _ _ _ hi with ⟨rfl, _, _, rfl, rfl, _⟩ | ⟨_, ki⟩
    · exact ⟨Nat.lt_succ_of_lt hfl, fr, ver + 1, hfamNew, Nat.le_refl _⟩
    · obtain ⟨a1, fr1, la1, a2, a3⟩ := h.fam _ _ _ _ _ _ _ _ ki
      refine ⟨Nat.lt_succ_of_lt a1, ?_⟩
      by_cases e : fam = f1
      · subst e
        have := verle _ _ _ _ _ _ _ ki
        exact ⟨fr, ver + 1, hfamNew, by omega⟩
      · exact ⟨fr1, la1, by rw [show (H.version cells room' fam fr ver).fams.get f1 = H.fams.get f1 from T.get_set_ne _ _ e]; exact a2, a3⟩
  · intro i cs1 r1 f1 v1 w1 p1 s1 hi
    rcases part _ _ _ _ _ _ _ _ hi with ⟨rfl, rfl, rfl, _⟩ | ⟨_, ki⟩
    · exact ⟨hlen, hvs.mono hev⟩
    · obtain ⟨a1, a2⟩ := h.cells _ _ _ _ _ _ _ _ ki
      exact ⟨a1, a2.mono hev⟩
  · intro i cs1 r1 f1 v1 w1 p1 s1 fr1 la1 hi hfi hvi
    rcases part _ _ _ _ _ _ _ _ hi with ⟨rfl, rfl, rfl, _, _, rfl⟩ | ⟨hlt, ki⟩
    · exact hnew
    · obtain ⟨la2, kf⟩ := famGet _ _ _ hfi
      exact (hold _ _ _ _ _ _ _ _ _ _ ki kf hvi).keep (H := H) rfl (upd_ne ι _ (by omega)) hext (h.cells _ _ _ _ _ _ _ _ ki).2
  · intro i cs1 r1 f1 v1 p1 s1 fr1 la1 j cs2 r2 f2 v2 w2 p2 s2 fr2 la2 hi hfi hvi hj hfj hvj he
    obtain ⟨la3, kfi⟩ := famGet _ _ _ hfi
    obtain ⟨la4, kfj⟩ := famGet _ _ _ hfj
    rcases part _ _ _ _ _ _ _ _ hi with ⟨rfl, _, _, rfl, _⟩ | ⟨hlt, ki⟩
    · rcases part _ _ _ _ _ _ _ _ hj with ⟨rfl, _, _, rfl, _⟩ | ⟨hltj, kj⟩
      · rfl
      · rw [upd_same, upd_ne ι _ (by omega)] at he
        exact hsep _ _ _ _ _ _ _ _ _ _ kj kfj hvj he
    · rcases part _ _ _ _ _ _ _ _ hj with ⟨rfl, _, _, rfl, _⟩ | ⟨hltj, kj⟩
      · rw [upd_same, upd_ne ι _ (by omega)] at he
        exact (hsep _ _ _ _ _ _ _ _ _ _ ki kfi hvi he.symm).symm
      · rw [upd_ne ι _ (by omega), upd_ne ι _ (by omega)] at he
        exact h.sep _ _ _ _ _ _ _ _ _ _ _ _ _ _ _ _ _ _ _ ki kfi hvi kj kfj hvj he
  · intro i cs1 r1 f1 v1 w1 p1 s1 j cs2 r2 w2 p2 s2 hi hj
    rcases part _ _ _ _ _ _ _ _ hi with ⟨rfl, _, _, rfl, rfl, _⟩ | ⟨_, ki⟩
    · rcases part _ _ _ _ _ _ _ _ hj with ⟨rfl, _⟩ | ⟨_, kj⟩
      · rfl
      · have := verle _ _ _ _ _ _ _ kj; omega
    · rcases part _ _ _ _ _ _ _ _ hj with ⟨rfl, _, _, rfl, rfl, _⟩ | ⟨_, kj⟩
      · have := verle _ _ _ _ _ _ _ ki; omega
      · exact h.ver _ _ _ _ _ _ _ _ _ _ _ _ _ _ ki kj
  · intro i s pos hi
    have hni : i ≠ H.size := fun e => by subst e; rw [hnewG] at hi; cases hi
    rw [holdG _ hni] at hi
    obtain ⟨a1, az, a2⟩ := h.iter _ _ _ hi
    rw [upd_ne ι _ hni]
    exact ⟨a1, az, hiter _ _ _ a2⟩
  · intro f y hh
    by_cases e : fam = f
    · subst e; exact Nat.lt_succ_of_lt hfl
    · rw [show (H.version cells room' fam fr ver).fams.get f = H.fams.get f from T.get_set_ne _ _ e] at hh; exact Nat.lt_succ_of_lt (h.famlt _ _ hh)
  · intro i cs1 r1 f1 v1 w1 p1 s1 fr1 la1 j cs2 r2 v2 w2 p2 s2 hi hfi hvi hj hvj he hlev
    obtain ⟨la3, kfi⟩ := famGet _ _ _ hfi
    rcases part _ _ _ _ _ _ _ _ hi with ⟨rfl, rfl, _, rfl, rfl, _⟩ | ⟨hlt, ki⟩
    · rcases part _ _ _ _ _ _ _ _ hj with ⟨rfl, rfl, _⟩ | ⟨_, kj⟩
      · exact Nat.le_refl _
      · have := verle _ _ _ _ _ _ _ kj; omega
    · rcases part _ _ _ _ _ _ _ _ hj with ⟨rfl, rfl, _, rfl, rfl, _⟩ | ⟨hltj, kj⟩
      · rw [hf] at kfi
        injection kfi with kfi
        injection kfi with e1 e2
        subst e1
        rw [upd_same, upd_ne ι _ (by omega)] at he ⊢
        exact hends _ _ _ _ _ _ _ ki hvi he
      · rw [upd_ne ι _ (by omega), upd_ne ι _ (by omega)] at he ⊢
        exact h.ends _ _ _ _ _ _ _ _ _ _ _ _ _ _ _ _ _ ki kfi hvi kj hvj he hlev
  · intro i s p j s' p' hi hj he
    have hni : i ≠ H.size := fun e => by subst e; rw [hnewG] at hi; cases hi
    have hnj : j ≠ H.size := fun e => by subst e; rw [hnewG] at hj; cases hj
    rw [holdG _ hni] at hi
    rw [holdG _ hnj] at hj
    rw [upd_ne ι _ hni, upd_ne ι _ hnj] at he
    exact h.isep _ _ _ _ _ _ hi hj he

/-- a new version in memory of its own -/
theorem MRel.grow {ι : Inj} {base : Nat} {w0 w : World} {H : Heap} (h : MRel ι base w0 H w) {id : Nat} {cs : List V} {room fam ver : Nat} {pl : Bool} {st fr : Nat}
    (hg : H.blk.get id = some (.mem cs room fam ver true pl st)) (hf : H.fams.get fam = some (fr, ver)) (hle : fr ≤ ver)
    (cells : List V) (room' : Nat) (c : Array Value) (el : TypeId) (hvs : VsOk H cells) (hlen : cells.length ≤ room') (hsz : room' ≤ c.size)
    (hc : ∀ (j : Nat) (v : V), cells[j]? = some v → c[j]? = some (cv ι v)) :
    MRel (upd ι H.size (w.heap.size, 0)) base w0 (H.version cells room' fam fr ver) (w.alloc (.cells c el)) := by
  have hext := Ext.upd H ι (w.heap.size, 0)
  have hheap : ∀ b, b < w.heap.size → (w.alloc (.cells c el)).heap[b]? = w.heap[b]? := fun b hb => heap_alloc_old _ _ _ hb
  have hheap' : (w.alloc (.cells c el)).heap[w.heap.size]? = some (.cells c el (0, 0)) := heap_alloc_new _ _
  refine h.version hg hf hle cells room' _ _ (h.below.alloc h.base_le _) (by rw [World.size_alloc]; have := h.base_le; omega) ?_ hvs hlen ?_ ?_ ?_ ?_
  · refine ⟨c, el, 0, 0, by rw [upd_same]; exact hheap', by rw [upd_same]; simpa using hsz, fun j v hv => ?_, fun _ => ?_⟩
    · rw [upd_same, cv_congr hext v ((VsOk_iff H cells).1 hvs v (List.mem_of_getElem? hv))]
      simpa using hc j v hv
    · rw [upd_same]; exact ⟨h.base_le, .inl rfl⟩
  · intro i cs1 r1 f1 v1 w1 p1 s1 fr1 la1 hi hfi hvi
    have hk := h.ok _ _ _ _ _ _ _ _ _ _ hi hfi hvi
    exact hk.keep (H := H) (hheap _ hk.block_lt) rfl (Ext.refl H ι) (h.cells _ _ _ _ _ _ _ _ hi).2
  · intro b s p hb
    rw [hheap _ (Array.getElem?_eq_some_iff.1 hb).1]; exact hb
  · intro j cs1 r1 f1 v1 w1 p1 s1 fr1 la1 hj hfj hvj he
    have := (h.ok _ _ _ _ _ _ _ _ _ _ hj hfj hvj).block_lt
    omega
  · intro j cs1 r1 v1 w1 p1 s1 hj hvj he
    have := (h.ok _ _ _ _ _ _ _ _ _ _ hj hf hvj).block_lt
    omega

/-- a new version behind the cells of an old one -/
theorem MRel.inplace {ι : Inj} {base : Nat} {w0 w : World} {H : Heap} (h : MRel ι base w0 H w) {id : Nat} {cs : List V} {room fam ver : Nat} {pl : Bool} {st fr : Nat}
    (hg : H.blk.get id = some (.mem cs room fam ver true pl st)) (hf : H.fams.get fam = some (fr, ver)) (hle : fr ≤ ver)
    (off : Nat) (new : List V) (room' : Nat) (hoff : off ≤ cs.length) (hvs : VsOk H new) (hlen : cs.length - off + new.length ≤ room') (hroom : off + room' ≤ room) :
    ∃ c el lo hi, w.heap[(ι id).1]? = some (.cells c el (lo, hi)) ∧ (ι id).2 + cs.length + new.length ≤ c.size ∧ (lo = hi ∨ c.size ≤ lo) ∧
      MRel (upd ι H.size ((ι id).1, (ι id).2 + off)) base w0 (H.version (cs.drop off ++ new) room' fam fr ver)
        (setBlk w (ι id).1 (.cells (overA c ((ι id).2 + cs.length) (cvl ι new)) el (lo, hi))) := by
  obtain ⟨c, el, lo, up, h1, h2, h3, h4⟩ := h.ok _ _ _ _ _ _ _ _ _ _ hg hf hle
  obtain ⟨hlenc, hcs⟩ := h.cells _ _ _ _ _ _ _ _ hg
  obtain ⟨hb, hfz⟩ := h4 rfl
  have hlt : (ι id).1 < w.heap.size := (Array.getElem?_eq_some_iff.1 h1).1
  have hext := Ext.upd H ι ((ι id).1, (ι id).2 + off)
  have hfit : (ι id).2 + cs.length + new.length ≤ c.size := by omega
  have hvs' : VsOk H (cs.drop off ++ new) := by
    rw [VsOk_iff]
    intro v hv
    rcases List.mem_append.1 hv with hv | hv
    · exact (VsOk_iff H cs).1 hcs v (List.mem_of_mem_drop hv)
    · exact (VsOk_iff H new).1 hvs v hv
  refine ⟨c, el, lo, up, h1, hfit, hfz, ?_⟩
  refine h.version hg hf hle _ room' _ _ (below_setBlk h.below hb _) (by rw [setBlk_size]; exact h.base_le) ?_ hvs' (by simpa using hlen) ?_ ?_ ?_ ?_
  · refine ⟨_, el, lo, up, by rw [upd_same]; exact setBlk_same _ _ _ hlt, by rw [upd_same, overA_size]; simp only; omega, fun j v hv => ?_, fun _ => ?_⟩
    · rw [upd_same, cv_congr hext v ((VsOk_iff H _).1 hvs' v (List.mem_of_getElem? hv))]
      simp only
      rw [List.getElem?_append] at hv
      split at hv
      · rename_i hj
        rw [List.length_drop] at hj
        rw [List.getElem?_drop] at hv
        rw [overA_out _ _ _ _ (by omega)]
        have := h3 _ _ hv
        rw [show (ι id).2 + off + j = (ι id).2 + (off + j) from by omega]
        exact this
      · rename_i hj
        rw [List.length_drop] at hj hv
        have hjl : j - (cs.length - off) < new.length := (List.getElem?_eq_some_iff.1 hv).1
        rw [overA_in _ _ _ _ (by omega) (by rw [cvl_length]; omega) (by rw [cvl_length]; omega), cvl_get]
        rw [show (ι id).2 + off + j - ((ι id).2 + cs.length) = j - (cs.length - off) from by omega, hv]
        rfl
    · rw [upd_same, overA_size]; exact ⟨hb, hfz⟩
  · intro i cs1 r1 f1 v1 w1 p1 s1 fr1 la1 hi hfi hvi
    have hk := h.ok _ _ _ _ _ _ _ _ _ _ hi hfi hvi
    by_cases e : (ι id).1 = (ι i).1
    · have hfe := h.sep _ _ _ _ _ _ _ _ _ _ _ _ _ _ _ _ _ _ _ hg hf hle hi hfi hvi e
      subst hfe
      rw [hf] at hfi
      injection hfi with hfi
      injection hfi with e1 e2
      subst e1
      have hvle : v1 ≤ ver := by
        obtain ⟨_, fr2, la2, hf2, hle2⟩ := h.fam _ _ _ _ _ _ _ _ hi
        rw [hf] at hf2
        injection hf2 with hf2
        injection hf2 with e3 e4
        omega
      have hend := h.ends _ _ _ _ _ _ _ _ _ _ _ _ _ _ _ _ _ hi hf hvi hg hle e.symm hvle
      obtain ⟨c', el', lo', up', k1, k2, k3, k4⟩ := hk
      rw [← e, h1] at k1
      injection k1 with k1
      injection k1 with k5 k6 k7
      injection k7 with k8 k9
      subst k5 k6 k8 k9
      refine ⟨_, el, lo, up, by rw [← e]; exact setBlk_same _ _ _ hlt, by rw [overA_size]; exact k2, fun j v hv => ?_, fun hw => ⟨(k4 hw).1, by rw [overA_size]; exact (k4 hw).2⟩⟩
      have hj : j < cs1.length := (List.getElem?_eq_some_iff.1 hv).1
      rw [overA_out _ _ _ _ (by omega)]
      exact k3 j v hv
    · exact hk.keep (H := H) (setBlk_ne w _ e) rfl (Ext.refl H ι) (h.cells _ _ _ _ _ _ _ _ hi).2
  · intro b s p hb'
    by_cases e : (ι id).1 = b
    · subst e; rw [h1] at hb'; cases hb'
    · rw [setBlk_ne _ _ e]; exact hb'
  · intro j cs1 r1 f1 v1 w1 p1 s1 fr1 la1 hj hfj hvj he
    exact h.sep _ _ _ _ _ _ _ _ _ _ _ _ _ _ _ _ _ _ _ hg hf hle hj hfj hvj he
  · intro j cs1 r1 v1 w1 p1 s1 hj hvj he
    have hvle : v1 ≤ ver := by
      obtain ⟨_, fr2, la2, hf2, hle2⟩ := h.fam _ _ _ _ _ _ _ _ hj
      rw [hf] at hf2
      injection hf2 with hf2
      injection hf2 with e3 e4
      omega
    have hend := h.ends _ _ _ _ _ _ _ _ _ _ _ _ _ _ _ _ _ hj hf hvj hg hle he hvle
    simp only [List.length_append, List.length_drop]
    omega

/-! ### Iterators over texts -/
def iterHeap (H : Heap) (id : Nat) (s : List UInt8) (p : Nat) : Heap := { size := H.size, blk := H.blk.set id (.iter s p), fams := H.fams }
def iterNew (H : Heap) (s : List UInt8) : Heap := { size := H.size + 1, blk := H.blk.set H.size (.iter s 0), fams := H.fams }

theorem Evol.iterNew {ι : Inj} {base : Nat} {w0 w : World} {H : Heap} (h : MRel ι base w0 H w) (s : List UInt8) : Evol H (iterNew H s) := by
  have hold : ∀ i, i < H.size → (Am.iterNew H s).blk.get i = H.blk.get i := fun i hi => T.get_set_ne _ _ (by omega)
  exact ⟨Nat.le_succ _, fun i hi => by simp only [Heap.room?, hold i hi], fun i cs _ _ _ _ _ st hg => ⟨cs, st, by rw [hold i (h.lt _ _ hg)]; exact hg, Nat.le_refl _, fun _ => rfl⟩,
    fun f fr la hg => ⟨fr, la, hg, Nat.le_refl _⟩⟩

theorem MRel.iterNew {ι : Inj} {base : Nat} {w0 w : World} {H : Heap} (h : MRel ι base w0 H w) (s : List UInt8) :
    MRel (upd ι H.size (w.heap.size, 0)) base w0 (iterNew H s) (w.alloc (.stringIter ⟨s.toArray⟩ 0)) := by
  have hev := Evol.iterNew h s
  have hext := Ext.upd H ι (w.heap.size, 0)
  have hheap : ∀ b, b < w.heap.size → (w.alloc (.stringIter ⟨s.toArray⟩ 0)).heap[b]? = w.heap[b]? := fun b hb => heap_alloc_old _ _ _ hb
  have hnewG : (Am.iterNew H s).blk.get H.size = some (.iter s 0) := T.get_set_same _ _ _
  have holdG : ∀ i, i ≠ H.size → (Am.iterNew H s).blk.get i = H.blk.get i := fun i hi => T.get_set_ne _ _ (Ne.symm hi)
  have part : ∀ i cs1 r1 f1 v1 w1 p1 s1, (Am.iterNew H s).blk.get i = some (.mem cs1 r1 f1 v1 w1 p1 s1) → i < H.size ∧ H.blk.get i = some (.mem cs1 r1 f1 v1 w1 p1 s1) := by
    intro i cs1 r1 f1 v1 w1 p1 s1 hi
    by_cases e : i = H.size
    · subst e; rw [hnewG] at hi; cases hi
    · rw [holdG _ e] at hi; exact ⟨h.lt _ _ hi, hi⟩
  refine ⟨h.below.alloc h.base_le _, by rw [World.size_alloc]; have := h.base_le; omega, ?_, ?_, ?_, ?_, ?_, ?_, ?_, ?_, ?_, ?_⟩
  · intro i b hi
    by_cases e : i = H.size
    · subst e; exact Nat.lt_succ_self _
    · rw [holdG _ e] at hi; exact Nat.lt_succ_of_lt (h.lt _ _ hi)
  · intro i cs1 r1 f1 v1 w1 p1 s1 hi
    obtain ⟨a1, a2⟩ := h.fam _ _ _ _ _ _ _ _ (part _ _ _ _ _ _ _ _ hi).2
    exact ⟨Nat.lt_succ_of_lt a1, a2⟩
  · intro i cs1 r1 f1 v1 w1 p1 s1 hi
    obtain ⟨a1, a2⟩ := h.cells _ _ _ _ _ _ _ _ (part _ _ _ _ _ _ _ _ hi).2
    exact ⟨a1, a2.mono hev⟩
  · intro i cs1 r1 f1 v1 w1 p1 s1 fr1 la1 hi hfi hvi
    obtain ⟨hlt, ki⟩ := part _ _ _ _ _ _ _ _ hi
    have hk := h.ok _ _ _ _ _ _ _ _ _ _ ki hfi hvi
    exact hk.keep (hheap _ hk.block_lt) (upd_ne ι _ (by omega)) hext (h.cells _ _ _ _ _ _ _ _ ki).2
  · intro i cs1 r1 f1 v1 p1 s1 fr1 la1 j cs2 r2 f2 v2 w2 p2 s2 fr2 la2 hi hfi hvi hj hfj hvj he
    obtain ⟨hlt, ki⟩ := part _ _ _ _ _ _ _ _ hi
    obtain ⟨hltj, kj⟩ := part _ _ _ _ _ _ _ _ hj
    rw [upd_ne ι _ (by omega), upd_ne ι _ (by omega)] at he
    exact h.sep _ _ _ _ _ _ _ _ _ _ _ _ _ _ _ _ _ _ _ ki hfi hvi kj hfj hvj he
  · intro i cs1 r1 f1 v1 w1 p1 s1 j cs2 r2 w2 p2 s2 hi hj
    exact h.ver _ _ _ _ _ _ _ _ _ _ _ _ _ _ (part _ _ _ _ _ _ _ _ hi).2 (part _ _ _ _ _ _ _ _ hj).2
  · intro i s1 pos hi
    by_cases e : i = H.size
    · subst e
      rw [hnewG] at hi
      injection hi with hi
      injection hi with e1 e2
      subst e1 e2
      rw [upd_same]
      exact ⟨h.base_le, rfl, heap_alloc_new _ _⟩
    · rw [holdG _ e] at hi
      obtain ⟨a1, az, a2⟩ := h.iter _ _ _ hi
      rw [upd_ne ι _ e]
      exact ⟨a1, az, by rw [hheap _ (Array.getElem?_eq_some_iff.1 a2).1]; exact a2⟩
  · intro f y hh
    exact Nat.lt_succ_of_lt (h.famlt _ _ hh)
  · intro i cs1 r1 f1 v1 w1 p1 s1 fr1 la1 j cs2 r2 v2 w2 p2 s2 hi hfi hvi hj hvj he hlev
    obtain ⟨hlt, ki⟩ := part _ _ _ _ _ _ _ _ hi
    obtain ⟨hltj, kj⟩ := part _ _ _ _ _ _ _ _ hj
    rw [upd_ne ι _ (by omega), upd_ne ι _ (by omega)] at he ⊢
    exact h.ends _ _ _ _ _ _ _ _ _ _ _ _ _ _ _ _ _ ki hfi hvi kj hvj he hlev
  · intro i s1 p j s' p' hi hj he
    have hlt : ∀ k s2 p2, (Am.iterNew H s).blk.get k = some (.iter s2 p2) → k ≠ H.size → (ι k).1 < w.heap.size := fun k s2 p2 hk hne => by
      rw [holdG _ hne] at hk
      exact (Array.getElem?_eq_some_iff.1 (h.iter _ _ _ hk).2.2).1
    by_cases e : i = H.size
    · by_cases e' : j = H.size
      · omega
      · have := hlt _ _ _ hj e'
        subst e
        rw [upd_same, upd_ne ι _ e'] at he
        omega
    · by_cases e' : j = H.size
      · have := hlt _ _ _ hi e
        subst e'
        rw [upd_same, upd_ne ι _ e] at he
        omega
      · rw [holdG _ e] at hi
        rw [holdG _ e'] at hj
        rw [upd_ne ι _ e, upd_ne ι _ e'] at he
        exact h.isep _ _ _ _ _ _ hi hj he

theorem Evol.iterSet {H : Heap} {id : Nat} {s : List UInt8} {p q : Nat} (hg : H.blk.get id = some (.iter s p)) : Evol H (iterHeap H id s q) := by
  refine ⟨Nat.le_refl _, fun i hi => ?_, fun i cs _ _ _ _ _ st hi => ?_, fun f fr la h => ⟨fr, la, h, Nat.le_refl _⟩⟩
  · by_cases e : id = i
    · subst e; simp only [Heap.room?, iterHeap, T.get_set_same, hg]
    · simp only [Heap.room?, iterHeap, T.get_set_ne _ _ e]
  · have e : id ≠ i := fun e => by subst e; rw [hg] at hi; cases hi
    exact ⟨cs, st, by simp only [iterHeap, T.get_set_ne _ _ e]; exact hi, Nat.le_refl _, fun _ => rfl⟩

theorem MRel.iterSet {ι : Inj} {base : Nat} {w0 w : World} {H : Heap} (h : MRel ι base w0 H w) {id : Nat} {s : List UInt8} {p : Nat} (hg : H.blk.get id = some (.iter s p)) (q : Nat) :
    MRel ι base w0 (iterHeap H id s q) (setBlk w (ι id).1 (.stringIter ⟨s.toArray⟩ q)) := by
  obtain ⟨hb, hz, h1⟩ := h.iter _ _ _ hg
  have hlt : (ι id).1 < w.heap.size := (Array.getElem?_eq_some_iff.1 h1).1
  have hev := Evol.iterSet (q := q) hg
  have part : ∀ i cs1 r1 f1 v1 w1 p1 s1, (iterHeap H id s q).blk.get i = some (.mem cs1 r1 f1 v1 w1 p1 s1) → H.blk.get i = some (.mem cs1 r1 f1 v1 w1 p1 s1) := by
    intro i cs1 r1 f1 v1 w1 p1 s1 hi
    by_cases e : id = i
    · subst e; rw [show (iterHeap H id s q).blk.get id = some (.iter s q) from T.get_set_same _ _ _] at hi; cases hi
    · rw [show (iterHeap H id s q).blk.get i = H.blk.get i from T.get_set_ne _ _ e] at hi; exact hi
  have ipart : ∀ i s1 p1, (iterHeap H id s q).blk.get i = some (.iter s1 p1) → (i = id ∧ s1 = s ∧ p1 = q) ∨ (id ≠ i ∧ H.blk.get i = some (.iter s1 p1)) := by
    intro i s1 p1 hi
    by_cases e : id = i
    · subst e
      rw [show (iterHeap H id s q).blk.get id = some (.iter s q) from T.get_set_same _ _ _] at hi
      injection hi with hi
      injection hi with e1 e2
      exact .inl ⟨rfl, e1.symm, e2.symm⟩
    · rw [show (iterHeap H id s q).blk.get i = H.blk.get i from T.get_set_ne _ _ e] at hi; exact .inr ⟨e, hi⟩
  refine ⟨below_setBlk h.below hb _, by rw [setBlk_size]; exact h.base_le, ?_, ?_, ?_, ?_, ?_, ?_, ?_, h.famlt, ?_, ?_⟩
  · intro i b hi
    by_cases e : id = i
    · subst e; exact h.lt _ _ hg
    · rw [show (iterHeap H id s q).blk.get i = H.blk.get i from T.get_set_ne _ _ e] at hi; exact h.lt _ _ hi
  · intro i cs1 r1 f1 v1 w1 p1 s1 hi
    exact h.fam _ _ _ _ _ _ _ _ (part _ _ _ _ _ _ _ _ hi)
  · intro i cs1 r1 f1 v1 w1 p1 s1 hi
    obtain ⟨a1, a2⟩ := h.cells _ _ _ _ _ _ _ _ (part _ _ _ _ _ _ _ _ hi)
    exact ⟨a1, a2.mono hev⟩
  · intro i cs1 r1 f1 v1 w1 p1 s1 fr1 la1 hi hfi hvi
    have ki := part _ _ _ _ _ _ _ _ hi
    have hk := h.ok _ _ _ _ _ _ _ _ _ _ ki hfi hvi
    have hne : (ι id).1 ≠ (ι i).1 := fun e => by
      obtain ⟨c, el, lo, up, k1, _⟩ := hk
      rw [← e, h1] at k1
      cases k1
    exact hk.keep (H := H) (setBlk_ne w _ hne) rfl (Ext.refl H ι) (h.cells _ _ _ _ _ _ _ _ ki).2
  · intro i cs1 r1 f1 v1 p1 s1 fr1 la1 j cs2 r2 f2 v2 w2 p2 s2 fr2 la2 hi hfi hvi hj hfj hvj he
    exact h.sep _ _ _ _ _ _ _ _ _ _ _ _ _ _ _ _ _ _ _ (part _ _ _ _ _ _ _ _ hi) hfi hvi (part _ _ _ _ _ _ _ _ hj) hfj hvj he
  · intro i cs1 r1 f1 v1 w1 p1 s1 j cs2 r2 w2 p2 s2 hi hj
    exact h.ver _ _ _ _ _ _ _ _ _ _ _ _ _ _ (part _ _ _ _ _ _ _ _ hi) (part _ _ _ _ _ _ _ _ hj)
  · intro i s1 pos hi
    rcases ipart _ _ _ hi with ⟨rfl, rfl, rfl⟩ | ⟨hne, ki⟩
    · exact ⟨hb, hz, setBlk_same _ _ _ hlt⟩
    · obtain ⟨a1, az, a2⟩ := h.iter _ _ _ ki
      refine ⟨a1, az, ?_⟩
      have : (ι id).1 ≠ (ι i).1 := fun e => hne (h.isep _ _ _ _ _ _ hg ki e)
      rw [setBlk_ne _ _ this]; exact a2
  · intro i cs1 r1 f1 v1 w1 p1 s1 fr1 la1 j cs2 r2 v2 w2 p2 s2 hi hfi hvi hj hvj he hlev
    exact h.ends _ _ _ _ _ _ _ _ _ _ _ _ _ _ _ _ _ (part _ _ _ _ _ _ _ _ hi) hfi hvi (part _ _ _ _ _ _ _ _ hj) hvj he hlev
  · intro i s1 p1 j s2 p2 hi hj he
    rcases ipart _ _ _ hi with ⟨rfl, rfl, rfl⟩ | ⟨hne, ki⟩
    · rcases ipart _ _ _ hj with ⟨rfl, _⟩ | ⟨hnej, kj⟩
      · rfl
      · exact h.isep _ _ _ _ _ _ hg kj he
    · rcases ipart _ _ _ hj with ⟨rfl, _⟩ | ⟨hnej, kj⟩
      · exact h.isep _ _ _ _ _ _ ki hg he
      · exact h.isep _ _ _ _ _ _ ki kj he

/-! ### Marks behind a block's end -/
theorem MRel.mark {ι : Inj} {base : Nat} {w0 w : World} {H : Heap} (h : MRel ι base w0 H w) {b : Nat} {c : Array Value} {el : TypeId} {lo hi lo' hi' : Nat}
    (h1 : w.heap[b]? = some (.cells c el (lo, hi))) (hb : base ≤ b) (hfz : lo' = hi' ∨ c.size ≤ lo') : MRel ι base w0 H (setBlk w b (.cells c el (lo', hi'))) := by
  have hlt : b < w.heap.size := (Array.getElem?_eq_some_iff.1 h1).1
  refine ⟨below_setBlk h.below hb _, by rw [setBlk_size]; exact h.base_le, h.lt, h.fam, h.cells, ?_, h.sep, h.ver, ?_, h.famlt, h.ends, h.isep⟩
  · intro i cs1 r1 f1 v1 w1 p1 s1 fr1 la1 hi hfi hvi
    have hk := h.ok _ _ _ _ _ _ _ _ _ _ hi hfi hvi
    by_cases e : b = (ι i).1
    · obtain ⟨c', el', lo1, up1, k1, k2, k3, k4⟩ := hk
      rw [← e, h1] at k1
      injection k1 with k1
      injection k1 with k5 k6 k7
      subst k5 k6
      exact ⟨c, el, lo', hi', by rw [← e]; exact setBlk_same _ _ _ hlt, k2, k3, fun hw => ⟨(k4 hw).1, hfz⟩⟩
    · exact hk.keep (H := H) (setBlk_ne w _ e) rfl (Ext.refl H ι) (h.cells _ _ _ _ _ _ _ _ hi).2
  · intro i s pos hi
    obtain ⟨a1, az, a2⟩ := h.iter _ _ _ hi
    refine ⟨a1, az, ?_⟩
    have : b ≠ (ι i).1 := fun e => by rw [← e, h1] at a2; cases a2
    rw [setBlk_ne _ _ this]; exact a2
end Go.Am
