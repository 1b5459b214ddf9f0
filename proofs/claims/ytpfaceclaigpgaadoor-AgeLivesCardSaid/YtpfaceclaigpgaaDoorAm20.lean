/-
  THE ABSTRACT MACHINE 'Am', twentieth part: what the checks of a region that draws its order say.
-/
import Derived.Test.YtpfaceclaigpgaaDoorAm19
namespace Go.Am

theorem mask_fold (acc : List Nat) : ∀ (es : List Edge) (s m : Nat), (es.foldl (fun s e => if Region.binds .any e then s ||| 2 ^ e.on ||| acc.getD e.on 0 else s) s).testBit m = true →
    s.testBit m = true ∨ ∃ e ∈ es, Region.binds .any e = true ∧ (m = e.on ∨ (acc.getD e.on 0).testBit m = true) := by
  intro es
  induction es with
  | nil => intro s m h; exact .inl h
  | cons e es ih =>
    intro s m h
    rw [List.foldl_cons] at h
    rcases ih _ m h with h | ⟨e', he, h1, h2⟩
    · split at h
      · rename_i hb
        rw [Nat.testBit_or, Nat.testBit_or, Bool.or_eq_true, Bool.or_eq_true] at h
        rcases h with (h | h) | h
        · exact .inl h
        · rw [Nat.testBit_two_pow] at h
          exact .inr ⟨e, List.mem_cons_self, hb, .inl (by simpa using (of_decide_eq_true h).symm)⟩
        · exact .inr ⟨e, List.mem_cons_self, hb, .inr h⟩
      · exact .inl h
    · exact .inr ⟨e', List.mem_cons_of_mem _ he, h1, h2⟩

theorem maskOf_bit {o : Oper} {acc : List Nat} {m : Nat} (h : (maskOf o acc).testBit m = true) : ∃ e ∈ o.after.toList, Region.binds .any e = true ∧ (m = e.on ∨ (acc.getD e.on 0).testBit m = true) := by
  rcases mask_fold acc _ _ _ h with h | h
  · simp at h
  · exact h

theorem befs_len : ∀ (ops : List Oper) (acc : List Nat), (befs ops acc).length = acc.length + ops.length ∧ (befs ops acc).take acc.length = acc := by
  intro ops
  induction ops with
  | nil => intro acc; simp [befs]
  | cons o ops ih =>
    intro acc
    obtain ⟨h1, h2⟩ := ih (acc ++ [maskOf o acc])
    refine ⟨by simp only [befs, h1, List.length_append, List.length_cons, List.length_nil]; omega, ?_⟩
    simp only [befs]
    have := congrArg (List.take acc.length) h2
    rw [List.take_take] at this
    rw [show min acc.length (acc ++ [maskOf o acc]).length = acc.length by simp] at this
    rw [this]
    simp

theorem befs_get : ∀ (ops : List Oper) (acc : List Nat) (i : Nat) (o : Oper), ops[i]? = some o → (befs ops acc)[acc.length + i]? = some (maskOf o ((befs ops acc).take (acc.length + i))) := by
  intro ops
  induction ops with
  | nil => intro acc i o h; simp at h
  | cons o' ops ih =>
    intro acc i o h
    cases i with
    | zero =>
      simp only [List.getElem?_cons_zero, Option.some.injEq] at h
      subst h
      obtain ⟨_, h2⟩ := befs_len ops (acc ++ [maskOf o' acc])
      obtain ⟨_, h3⟩ := befs_len (o' :: ops) acc
      rw [Nat.add_zero, h3]
      simp only [befs]
      have := congrArg (fun l => l[acc.length]?) h2
      simp only [List.getElem?_take, List.length_append, List.length_cons, List.length_nil, Nat.zero_add, Nat.lt_add_one, if_true] at this
      rw [this]
      simp
    | succ i =>
      have := ih (acc ++ [maskOf o' acc]) i o (by simpa using h)
      simp only [List.length_append, List.length_cons, List.length_nil, Nat.zero_add] at this
      simp only [befs]
      rw [show acc.length + (i + 1) = acc.length + 1 + i by omega]
      exact this

theorem edges_lt {ops : List Oper} (h : edgesOk ops = true) {i : Nat} {o : Oper} (ho : ops[i]? = some o) {e : Edge} (he : e ∈ o.after.toList) (hb : Region.binds .any e = true) : e.on < i := by
  unfold edgesOk at h
  rw [List.all_eq_true] at h
  have := h (o, i) (by rw [List.mem_iff_getElem?]; exact ⟨i, by rw [List.getElem?_zipIdx]; simp [ho]⟩)
  simp only [List.all_eq_true] at this
  have := this e he
  simpa [hb] using this

theorem bef_step {ops : List Oper} (h : edgesOk ops = true) {i : Nat} {o : Oper} (ho : ops[i]? = some o) {m : Nat} (hm : ((befs ops []).getD i 0).testBit m = true) :
    ∃ e ∈ o.after.toList, Region.binds .any e = true ∧ e.on < i ∧ (m = e.on ∨ ((befs ops []).getD e.on 0).testBit m = true) := by
  have h1 := befs_get ops [] i o ho
  simp only [List.length_nil, Nat.zero_add] at h1
  rw [List.getD_eq_getElem?_getD, h1, Option.getD_some] at hm
  obtain ⟨e, he, hb, h2⟩ := maskOf_bit hm
  have hlt := edges_lt h ho he hb
  refine ⟨e, he, hb, hlt, h2.imp id fun h2 => ?_⟩
  rw [List.getD_eq_getElem?_getD, List.getElem?_take, if_pos hlt] at h2
  rw [List.getD_eq_getElem?_getD]
  exact h2

theorem bef_lt {ops : List Oper} (h : edgesOk ops = true) : ∀ (i m : Nat), ((befs ops []).getD i 0).testBit m = true → m < i := by
  intro i
  induction i using Nat.strongRecOn with
  | _ i ih =>
    intro m hm
    cases ho : ops[i]? with
    | none =>
      have : (befs ops []).getD i 0 = 0 := by
        rw [List.getD_eq_getElem?_getD, List.getElem?_eq_none, Option.getD_none]
        rw [(befs_len ops []).1]
        simpa using List.getElem?_eq_none_iff.1 ho
      rw [this] at hm
      simp at hm
    | some o =>
      obtain ⟨e, _, _, hlt, h2⟩ := bef_step h ho hm
      rcases h2 with h2 | h2
      · omega
      · have := ih e.on hlt m h2
        omega

theorem parted_get {bs : List Nat} {is : List Ins} (h : partedAll bs is = true) {i j : Nat} {x y : Ins} (hx : is[i]? = some x) (hy : is[j]? = some y) (hne : i ≠ j) : parted bs i j x y = true := by
  unfold partedAll at h
  rw [List.all_eq_true] at h
  have h1 := h (x, i) (by rw [List.mem_iff_getElem?]; exact ⟨i, by rw [List.getElem?_zipIdx]; simp [hx]⟩)
  rw [List.all_eq_true] at h1
  have h2 := h1 (y, j) (by rw [List.mem_iff_getElem?]; exact ⟨j, by rw [List.getElem?_zipIdx]; simp [hy]⟩)
  simpa [hne] using h2

theorem parted_spec {bs : List Nat} {i j : Nat} {x y : Ins} (h : parted bs i j x y = true) :
    (∀ d, y.dst = some d → d ∈ readsOf x → (j < i ∧ (bs.getD i 0).testBit j = true) ∨ (i < j ∧ (bs.getD j 0).testBit i = true)) ∧
    (∀ d, x.dst = some d → y.dst ≠ some d) ∧ (x.op.eff = true → y.op.eff = true → j < i → (bs.getD i 0).testBit j = true) := by
  unfold parted at h
  simp only [Bool.and_eq_true] at h
  obtain ⟨⟨h1, h2⟩, h3⟩ := h
  refine ⟨fun d hd hr => ?_, fun d hd he => ?_, fun ha hb hlt => ?_⟩
  · rw [hd] at h1
    simp only [Bool.or_eq_true, Bool.and_eq_true, decide_eq_true_eq, Bool.not_eq_true', List.contains_eq_mem, decide_eq_false_iff_not] at h1
    rcases h1 with (h1 | h1) | h1
    · exact absurd hr h1
    · exact .inl h1
    · exact .inr h1
  · rw [hd, he] at h2
    simp at h2
  · simp [ha, hb, hlt] at h3
    simpa using h3

theorem withRng_get {bs : List Nat} {is : List Ins} {i : Nat} {x' : Ins} (h : (withRng bs is)[i]? = some x') : ∃ x, is[i]? = some x ∧ x' = { x with rng := rngOf bs is i x } := by
  unfold withRng at h
  rw [List.getElem?_map, List.getElem?_zipIdx] at h
  cases hx : is[i]? with
  | none => rw [hx] at h; simp at h
  | some x =>
    rw [hx] at h
    simp only [Option.map_some, Nat.zero_add, Option.some.injEq] at h
    exact ⟨x, rfl, h.symm⟩

theorem withRng_len (bs : List Nat) (is : List Ins) : (withRng bs is).length = is.length := by simp [withRng]

theorem effs_count : ∀ (is : List Ins) (n p : Nat), ((((is.zipIdx n).filter (·.1.op.eff)).map (·.2)).filter (· < n + p)).length = effN (is.take p) := by
  intro is
  induction is with
  | nil => intro n p; simp [effN]
  | cons x is ih =>
    intro n p
    cases p with
    | zero =>
      simp only [List.take_zero, effN, List.countP_nil, List.length_eq_zero_iff, List.filter_eq_nil_iff, List.mem_map, List.mem_filter]
      rintro a ⟨⟨y, k⟩, ⟨hm, _⟩, rfl⟩
      have := List.le_snd_of_mem_zipIdx hm
      simp at this ⊢
      exact this
    | succ p =>
      have := ih (n + 1) p
      rw [show n + 1 + p = n + (p + 1) by omega] at this
      simp only [List.zipIdx_cons, List.take_succ_cons]
      cases hx : x.op.eff with
      | true =>
        rw [List.filter_cons_of_pos (by simpa using hx)]
        simp only [List.map_cons, List.filter_cons_of_pos (p := fun a => decide (a < n + (p + 1))) (a := n) (by simp), List.length_cons, this, effN, List.countP_cons, hx, if_true]
      | false =>
        rw [List.filter_cons_of_neg (by simp [hx])]
        simp only [this, effN, List.countP_cons, hx]
        simp

theorem effN_withRng (bs : List Nat) (is : List Ins) (p : Nat) : effN ((withRng bs is).take p) = effN (is.take p) := by
  have h1 : ∀ (l : List Ins) (n : Nat), ((l.zipIdx n).map fun (x, i) => ({ x with rng := rngOf bs is i x } : Ins)).map (·.op.eff) = l.map (·.op.eff) := by
    intro l
    induction l with
    | nil => intro n; rfl
    | cons y l ih => intro n; simp only [List.zipIdx_cons, List.map_cons, ih]
  have h2 : ((withRng bs is).take p).map (·.op.eff) = (is.take p).map (·.op.eff) := by
    rw [List.map_take, List.map_take]
    unfold withRng
    rw [h1]
  have h3 : ∀ l : List Ins, effN l = (l.map (·.op.eff)).countP id := by
    intro l; rw [List.countP_map]; rfl
  rw [h3, h3, h2]

theorem mem_effs {is : List Ins} {e : Nat} (h : e ∈ effs is) : ∃ y, is[e]? = some y ∧ y.op.eff = true := by
  unfold effs at h
  simp only [List.mem_map, List.mem_filter] at h
  obtain ⟨⟨y, k⟩, ⟨hm, he⟩, rfl⟩ := h
  rw [List.mem_iff_getElem?] at hm
  obtain ⟨m, hm⟩ := hm
  rw [List.getElem?_zipIdx] at hm
  cases hy : is[m]? with
  | none => rw [hy] at hm; simp at hm
  | some z =>
    rw [hy] at hm
    simp only [Option.map_some, Nat.zero_add, Option.some.injEq, Prod.mk.injEq] at hm
    obtain ⟨rfl, rfl⟩ := hm
    exact ⟨z, hy, he⟩

/-- between which effects a load may stand -/
theorem rng_spec {bs : List Nat} {is : List Ins} {i : Nat} {x : Ins} {lop : LOp} (hop : x.op = .l lop) : ∃ lo hi,
    (∀ p, (∀ e y, is[e]? = some y → y.op.eff = true → (bs.getD i 0).testBit e = true → e < p) → (∀ e y, is[e]? = some y → y.op.eff = true → e < p → (bs.getD e 0).testBit i = false) → lo ≤ effN (is.take p) ∧ effN (is.take p) ≤ hi) ∧
    (rngOf bs is i x = some (lo, hi) ∨ (rngOf bs is i x = none ∧ lo = hi)) := by
  refine ⟨((effs is).filter fun e => (bs.getD i 0).testBit e).length, ((effs is).filter fun e => !(bs.getD e 0).testBit i).length, ?_, ?_⟩
  · intro p h1 h2
    have h3 := effs_count is 0 p
    rw [Nat.zero_add] at h3
    rw [← h3]
    simp only [← List.countP_eq_length_filter]
    constructor
    · refine List.countP_mono_left fun e he hb => ?_
      obtain ⟨y, hy, hey⟩ := mem_effs he
      simpa using h1 e y hy hey hb
    · refine List.countP_mono_left fun e he hb => ?_
      obtain ⟨y, hy, hey⟩ := mem_effs he
      rw [h2 e y hy hey (by simpa using hb)]
      rfl
  · unfold rngOf
    rw [hop]
    simp only
    split
    · rename_i e; exact .inr ⟨rfl, e⟩
    · exact .inl rfl

theorem keepT_get : ∀ (l : List Nat) (fr acc : T V) (t : Nat), (keepT l fr acc).get t = if t ∈ l ∧ (fr.get t).isSome then fr.get t else acc.get t := by
  intro l
  induction l with
  | nil => intro fr acc t; simp [keepT]
  | cons i l ih =>
    intro fr acc t
    simp only [keepT]
    rw [ih]
    by_cases h : t ∈ l ∧ (fr.get t).isSome
    · rw [if_pos h, if_pos ⟨List.mem_cons_of_mem _ h.1, h.2⟩]
    · rw [if_neg h]
      by_cases e : i = t
      · subst e
        cases hg : fr.get i with
        | none => simp
        | some v => simp [T.get_set_same]
      · have : (match fr.get i with | some v => acc.set i v | none => acc).get t = acc.get t := by
          cases fr.get i with
          | none => rfl
          | some v => exact T.get_set_ne _ _ e
        refine this.trans ?_
        rw [if_neg]
        rintro ⟨h1, h2⟩
        rcases List.mem_cons.1 h1 with h1 | h1
        · exact e h1.symm
        · exact h ⟨h1, h2⟩

theorem evOs_congr {fr fr' : T V} : ∀ {os : List O}, (∀ t, O.t t ∈ os → fr'.get t = fr.get t) → evOs fr' os = evOs fr os := by
  intro os
  induction os with
  | nil => intro _; rfl
  | cons o os ih =>
    intro h
    have h1 : evO fr' o = evO fr o := by
      cases o with
      | t i => exact h i List.mem_cons_self
      | c v => rfl
    simp only [evOs, h1, ih fun t ht => h t (List.mem_cons_of_mem _ ht)]

theorem wants_congr {fr fr' : T V} {g : Option (Nat × Bool)} (h : ∀ t b, g = some (t, b) → fr'.get t = fr.get t) : wants fr' g = wants fr g := by
  cases g with
  | none => rfl
  | some tb => simp only [wants, h tb.1 tb.2 rfl]

theorem args_reads {x : Ins} {t : Nat} (h : O.t t ∈ x.args) : t ∈ readsOf x := by
  unfold readsOf
  refine List.mem_append_left _ (List.mem_filterMap.2 ⟨_, h, rfl⟩)
theorem guard_reads {x : Ins} {t : Nat} {b : Bool} (h : x.guard = some (t, b)) : t ∈ readsOf x := by
  unfold readsOf
  rw [h]
  exact List.mem_append_right _ (by simp)

/-- one fewer that holds -/
theorem count_set (f g : Nat → Bool) (i : Nat) (hf : f i = true) (hg : g i = false) (h : ∀ j, j ≠ i → g j = f j) : ∀ n, i < n → (List.range n).countP g + 1 = (List.range n).countP f := by
  intro n
  induction n with
  | zero => intro hi; omega
  | succ n ih =>
    intro hi
    rw [List.range_succ, List.countP_append, List.countP_append]
    by_cases e : i = n
    · subst e
      have : (List.range i).countP g = (List.range i).countP f := List.countP_congr fun j hj => by
        rw [h j (by have := List.mem_range.1 hj; omega)]
      rw [this]
      simp [hf, hg]
    · have := ih (by omega)
      have h2 := h n (Ne.symm e)
      simp only [List.countP_cons, List.countP_nil, h2]
      omega
end Go.Am
