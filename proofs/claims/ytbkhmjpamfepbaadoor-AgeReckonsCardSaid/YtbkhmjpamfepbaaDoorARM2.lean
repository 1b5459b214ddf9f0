/-
  THE ABSTRACT MACHINE 'Am', twentieth part: what the checks of a region that draws its order say.
-/
import Derived.Test.YtbkhmjpamfepbaaDoorARM1
import Derived.Orders
import Derived.LoopN
import Derived.Scope
import Derived.Calls
import Derived.ChangeArms
import Derived.ChangeSame
import Derived.Carry
import Derived.RowKit
import Derived.Test.YtbkhmjpamfepbaaDoorARM0
import Derived.KernelRfl
import Derived.Lib.Bytealg
import Derived.Lib.Join
namespace Go.Am

theorem mask_fold (acc : List Nat) : ∀ (es : List Edge) (s m : Nat), (es.foldl (fun s e => if Region.binds .any e then s ||| 2 ^ e.on ||| acc.getD e.on 0 else s) s).testBit m = true →
    s.testBit m = true ∨ ∃ e ∈ es, Region.binds .any e = true ∧ (m = e.on ∨ (acc.getD e.on 0).testBit m = true) := by
  intro es
  induction es with
  | nil => intro s m h; exact .inl h
  | cons e es ih =>
    intro s m h
    rw [List.foldl_cons] at h
    rcases ih _ m h with h | ⟨e', he, h1, h2⟩
    · split at h
      · rename_i hb
        rw [Nat.testBit_or, Nat.testBit_or, Bool.or_eq_true, Bool.or_eq_true] at h
        rcases h with (h | h) | h
        · exact .inl h
        · rw [Nat.testBit_two_pow] at h
          exact .inr ⟨e, List.mem_cons_self, hb, .inl (by simpa using (of_decide_eq_true h).symm)⟩
        · exact .inr ⟨e, List.mem_cons_self, hb, .inr h⟩
      · exact .inl h
    · exact .inr ⟨e', List.mem_cons_of_mem _ he, h1, h2⟩

theorem maskOf_bit {o : Oper} {acc : List Nat} {m : Nat} (h : (maskOf o acc).testBit m = true) : ∃ e ∈ o.after.toList, Region.binds .any e = true ∧ (m = e.on ∨ (acc.getD e.on 0).testBit m = true) := by
  rcases mask_fold acc _ _ _ h with h | h
  · simp at h
  · exact h

theorem befs_len : ∀ (ops : List Oper) (acc : List Nat), (befs ops acc).length = acc.length + ops.length ∧ (befs ops acc).take acc.length = acc := by
  intro ops
  induction ops with
  | nil => intro acc; simp [befs]
  | cons o ops ih =>
    intro acc
    obtain ⟨h1, h2⟩ := ih (acc ++ [maskOf o acc])
    refine ⟨by simp only [befs, h1, List.length_append, List.length_cons, List.length_nil]; omega, ?_⟩
    simp only [befs]
    have := congrArg (List.take acc.length) h2
    rw [List.take_take] at this
    rw [show min acc.length (acc ++ [maskOf o acc]).length = acc.length by simp] at this
    rw [this]
    simp

theorem befs_get : ∀ (ops : List Oper) (acc : List Nat) (i : Nat) (o : Oper), ops[i]? = some o → (befs ops acc)[acc.length + i]? = some (maskOf o ((befs ops acc).take (acc.length + i))) := by
  intro ops
  induction ops with
  | nil => intro acc i o h; simp at h
  | cons o' ops ih =>
    intro acc i o h
    cases i with
    | zero =>
      simp only [List.getElem?_cons_zero, Option.some.injEq] at h
      subst h
      obtain ⟨_, h2⟩ := befs_len ops (acc ++ [maskOf o' acc])
      obtain ⟨_, h3⟩ := befs_len (o' :: ops) acc
      rw [Nat.add_zero, h3]
      simp only [befs]
      have := congrArg (fun l => l[acc.length]?) h2
      simp only [List.getElem?_take, List.length_append, List.length_cons, List.length_nil, Nat.zero_add, Nat.lt_add_one, if_true] at this
      rw [this]
      simp
    | succ i =>
      have := ih (acc ++ [maskOf o' acc]) i o (by simpa using h)
      simp only [List.length_append, List.length_cons, List.length_nil, Nat.zero_add] at this
      simp only [befs]
      rw [show acc.length + (i + 1) = acc.length + 1 + i by omega]
      exact this

theorem edges_lt {ops : List Oper} (h : edgesOk ops = true) {i : Nat} {o : Oper} (ho : ops[i]? = some o) {e : Edge} (he : e ∈ o.after.toList) (hb : Region.binds .any e = true) : e.on < i := by
  unfold edgesOk at h
  rw [List.all_eq_true] at h
  have := h (o, i) (by rw [List.mem_iff_getElem?]; exact ⟨i, by rw [List.getElem?_zipIdx]; simp [ho]⟩)
  simp only [List.all_eq_true] at this
  have := this e he
  simpa [hb] using this

theorem bef_step {ops : List Oper} (h : edgesOk ops = true) {i : Nat} {o : Oper} (ho : ops[i]? = some o) {m : Nat} (hm : ((befs ops []).getD i 0).testBit m = true) :
    ∃ e ∈ o.after.toList, Region.binds .any e = true ∧ e.on < i ∧ (m = e.on ∨ ((befs ops []).getD e.on 0).testBit m = true) := by
  have h1 := befs_get ops [] i o ho
  simp only [List.length_nil, Nat.zero_add] at h1
  rw [List.getD_eq_getElem?_getD, h1, Option.getD_some] at hm
  obtain ⟨e, he, hb, h2⟩ := maskOf_bit hm
  have hlt := edges_lt h ho he hb
  refine ⟨e, he, hb, hlt, h2.imp id fun h2 => ?_⟩
  rw [List.getD_eq_getElem?_getD, List.getElem?_take, if_pos hlt] at h2
  rw [List.getD_eq_getElem?_getD]
  exact h2

theorem bef_lt {ops : List Oper} (h : edgesOk ops = true) : ∀ (i m : Nat), ((befs ops []).getD i 0).testBit m = true → m < i := by
  intro i
  induction i using Nat.strongRecOn with
  | _ i ih =>
    intro m hm
    cases ho : ops[i]? with
    | none =>
      have : (befs ops []).getD i 0 = 0 := by
        rw [List.getD_eq_getElem?_getD, List.getElem?_eq_none, Option.getD_none]
        rw [(befs_len ops []).1]
        simpa using List.getElem?_eq_none_iff.1 ho
      rw [this] at hm
      simp at hm
    | some o =>
      obtain ⟨e, _, _, hlt, h2⟩ := bef_step h ho hm
      rcases h2 with h2 | h2
      · omega
      · have := ih e.on hlt m h2
        omega

theorem parted_get {bs : List Nat} {is : List Ins} (h : partedAll bs is = true) {i j : Nat} {x y : Ins} (hx : is[i]? = some x) (hy : is[j]? = some y) (hne : i ≠ j) : parted bs i j x y = true := by
  unfold partedAll at h
  rw [List.all_eq_true] at h
  have h1 := h (x, i) (by rw [List.mem_iff_getElem?]; exact ⟨i, by rw [List.getElem?_zipIdx]; simp [hx]⟩)
  rw [List.all_eq_true] at h1
  have h2 := h1 (y, j) (by rw [List.mem_iff_getElem?]; exact ⟨j, by rw [List.getElem?_zipIdx]; simp [hy]⟩)
  simpa [hne] using h2

theorem parted_spec {bs : List Nat} {i j : Nat} {x y : Ins} (h : parted bs i j x y = true) :
    (∀ d, y.dst = some d → d ∈ readsOf x → (j < i ∧ (bs.getD i 0).testBit j = true) ∨ (i < j ∧ (bs.getD j 0).testBit i = true)) ∧
    (∀ d, x.dst = some d → y.dst ≠ some d) ∧ (x.op.eff = true → y.op.eff = true → j < i → (bs.getD i 0).testBit j = true) := by
  unfold parted at h
  simp only [Bool.and_eq_true] at h
  obtain ⟨⟨h1, h2⟩, h3⟩ := h
  refine ⟨fun d hd hr => ?_, fun d hd he => ?_, fun ha hb hlt => ?_⟩
  · rw [hd] at h1
    simp only [Bool.or_eq_true, Bool.and_eq_true, decide_eq_true_eq, Bool.not_eq_true', List.contains_eq_mem, decide_eq_false_iff_not] at h1
    rcases h1 with (h1 | h1) | h1
    · exact absurd hr h1
    · exact .inl h1
    · exact .inr h1
  · rw [hd, he] at h2
    simp at h2
  · simp [ha, hb, hlt] at h3
    simpa using h3

theorem withRng_get {bs : List Nat} {is : List Ins} {i : Nat} {x' : Ins} (h : (withRng bs is)[i]? = some x') : ∃ x, is[i]? = some x ∧ x' = { x with rng := rngOf bs is i x } := by
  unfold withRng at h
  rw [List.getElem?_map, List.getElem?_zipIdx] at h
  cases hx : is[i]? with
  | none => rw [hx] at h; simp at h
  | some x =>
    rw [hx] at h
    simp only [Option.map_some, Nat.zero_add, Option.some.injEq] at h
    exact ⟨x, rfl, h.symm⟩

theorem withRng_len (bs : List Nat) (is : List Ins) : (withRng bs is).length = is.length := by simp [withRng]

theorem effs_count : ∀ (is : List Ins) (n p : Nat), ((((is.zipIdx n).filter (·.1.op.eff)).map (·.2)).filter (· < n + p)).length = effN (is.take p) := by
  intro is
  induction is with
  | nil => intro n p; simp [effN]
  | cons x is ih =>
    intro n p
    cases p with
    | zero =>
      simp only [List.take_zero, effN, List.countP_nil, List.length_eq_zero_iff, List.filter_eq_nil_iff, List.mem_map, List.mem_filter]
      rintro a ⟨⟨y, k⟩, ⟨hm, _⟩, rfl⟩
      have := List.le_snd_of_mem_zipIdx hm
      simp at this ⊢
      exact this
    | succ p =>
      have := ih (n + 1) p
      rw [show n + 1 + p = n + (p + 1) by omega] at this
      simp only [List.zipIdx_cons, List.take_succ_cons]
      cases hx : x.op.eff with
      | true =>
        rw [List.filter_cons_of_pos (by simpa using hx)]
        simp only [List.map_cons, List.filter_cons_of_pos (p := fun a => decide (a < n + (p + 1))) (a := n) (by simp), List.length_cons, this, effN, List.countP_cons, hx, if_true]
      | false =>
        rw [List.filter_cons_of_neg (by simp [hx])]
        simp only [this, effN, List.countP_cons, hx]
        simp

theorem effN_withRng (bs : List Nat) (is : List Ins) (p : Nat) : effN ((withRng bs is).take p) = effN (is.take p) := by
  have h1 : ∀ (l : List Ins) (n : Nat), ((l.zipIdx n).map fun (x, i) => ({ x with rng := rngOf bs is i x } : Ins)).map (·.op.eff) = l.map (·.op.eff) := by
    intro l
    induction l with
    | nil => intro n; rfl
    | cons y l ih => intro n; simp only [List.zipIdx_cons, List.map_cons, ih]
  have h2 : ((withRng bs is).take p).map (·.op.eff) = (is.take p).map (·.op.eff) := by
    rw [List.map_take, List.map_take]
    unfold withRng
    rw [h1]
  have h3 : ∀ l : List Ins, effN l = (l.map (·.op.eff)).countP id := by
    intro l; rw [List.countP_map]; rfl
  rw [h3, h3, h2]

theorem mem_effs {is : List Ins} {e : Nat} (h : e ∈ effs is) : ∃ y, is[e]? = some y ∧ y.op.eff = true := by
  unfold effs at h
  simp only [List.mem_map, List.mem_filter] at h
  obtain ⟨⟨y, k⟩, ⟨hm, he⟩, rfl⟩ := h
  rw [List.mem_iff_getElem?] at hm
  obtain ⟨m, hm⟩ := hm
  rw [List.getElem?_zipIdx] at hm
  cases hy : is[m]? with
  | none => rw [hy] at hm; simp at hm
  | some z =>
    rw [hy] at hm
    simp only [Option.map_some, Nat.zero_add, Option.some.injEq, Prod.mk.injEq] at hm
    obtain ⟨rfl, rfl⟩ := hm
    exact ⟨z, hy, he⟩

/-- between which effects a load may stand -/
theorem rng_spec {bs : List Nat} {is : List Ins} {i : Nat} {x : Ins} {lop : LOp} (hop : x.op = .l lop) : ∃ lo hi,
    (∀ p, (∀ e y, is[e]? = some y → y.op.eff = true → (bs.getD i 0).testBit e = true → e < p) → (∀ e y, is[e]? = some y → y.op.eff = true → e < p → (bs.getD e 0).testBit i = false) → lo ≤ effN (is.take p) ∧ effN (is.take p) ≤ hi) ∧
    (rngOf bs is i x = some (lo, hi) ∨ (rngOf bs is i x = none ∧ lo = hi)) := by
  refine ⟨((effs is).filter fun e => (bs.getD i 0).testBit e).length, ((effs is).filter fun e => !(bs.getD e 0).testBit i).length, ?_, ?_⟩
  · intro p h1 h2
    have h3 := effs_count is 0 p
    rw [Nat.zero_add] at h3
    rw [← h3]
    simp only [← List.countP_eq_length_filter]
    constructor
    · refine List.countP_mono_left fun e he hb => ?_
      obtain ⟨y, hy, hey⟩ := mem_effs he
      simpa using h1 e y hy hey hb
    · refine List.countP_mono_left fun e he hb => ?_
      obtain ⟨y, hy, hey⟩ := mem_effs he
      rw [h2 e y hy hey (by simpa using hb)]
      rfl
  · unfold rngOf
    rw [hop]
    simp only
    split
    · rename_i e; exact .inr ⟨rfl, e⟩
    · exact .inl rfl

theorem keepT_get : ∀ (l : List Nat) (fr acc : T V) (t : Nat), (keepT l fr acc).get t = if t ∈ l ∧ (fr.get t).isSome then fr.get t else acc.get t := by
  intro l
  induction l with
  | nil => intro fr acc t; simp [keepT]
  | cons i l ih =>
    intro fr acc t
    simp only [keepT]
    rw [ih]
    by_cases h : t ∈ l ∧ (fr.get t).isSome
    · rw [if_pos h, if_pos ⟨List.mem_cons_of_mem _ h.1, h.2⟩]
    · rw [if_neg h]
      by_cases e : i = t
      · subst e
        cases hg : fr.get i with
        | none => simp
        | some v => simp [T.get_set_same]
      · have : (match fr.get i with | some v => acc.set i v | none => acc).get t = acc.get t := by
          cases fr.get i with
          | none => rfl
          | some v => exact T.get_set_ne _ _ e
        refine this.trans ?_
        rw [if_neg]
        rintro ⟨h1, h2⟩
        rcases List.mem_cons.1 h1 with h1 | h1
        · exact e h1.symm
        · exact h ⟨h1, h2⟩

theorem evOs_congr {fr fr' : T V} : ∀ {os : List O}, (∀ t, O.t t ∈ os → fr'.get t = fr.get t) → evOs fr' os = evOs fr os := by
  intro os
  induction os with
  | nil => intro _; rfl
  | cons o os ih =>
    intro h
    have h1 : evO fr' o = evO fr o := by
      cases o with
      | t i => exact h i List.mem_cons_self
      | c v => rfl
    simp only [evOs, h1, ih fun t ht => h t (List.mem_cons_of_mem _ ht)]

theorem wants_congr {fr fr' : T V} {g : Option (Nat × Bool)} (h : ∀ t b, g = some (t, b) → fr'.get t = fr.get t) : wants fr' g = wants fr g := by
  cases g with
  | none => rfl
  | some tb => simp only [wants, h tb.1 tb.2 rfl]

theorem args_reads {x : Ins} {t : Nat} (h : O.t t ∈ x.args) : t ∈ readsOf x := by
  unfold readsOf
  refine List.mem_append_left _ (List.mem_filterMap.2 ⟨_, h, rfl⟩)
theorem guard_reads {x : Ins} {t : Nat} {b : Bool} (h : x.guard = some (t, b)) : t ∈ readsOf x := by
  unfold readsOf
  rw [h]
  exact List.mem_append_right _ (by simp)

/-- one fewer that holds -/
theorem count_set (f g : Nat → Bool) (i : Nat) (hf : f i = true) (hg : g i = false) (h : ∀ j, j ≠ i → g j = f j) : ∀ n, i < n → (List.range n).countP g + 1 = (List.range n).countP f := by
  intro n
  induction n with
  | zero => intro hi; omega
  | succ n ih =>
    intro hi
    rw [List.range_succ, List.countP_append, List.countP_append]
    by_cases e : i = n
    · subst e
      have : (List.range i).countP g = (List.range i).countP f := List.countP_congr fun j hj => by
        rw [h j (by have := List.mem_range.1 hj; omega)]
      rw [this]
      simp [hf, hg]
    · have := ih (by omega)
      have h2 := h n (Ne.symm e)
      simp only [List.countP_cons, List.countP_nil, h2]
      omega
end Go.Am


/-
  THE ABSTRACT MACHINE 'Am', twenty-first part: regions that draw their order.
-/
namespace Go.Am
open Go.RowKit (Below)

section
variable {P : Program} {w w0 : World} {ι ι0 : Inj} {base nt : Nat}

/-- what is known of a region that draws its order -/
structure DFacts (P : Program) (nt : Nat) (ops : Array Oper) (bs : List Nat) (is : List Ins) : Prop where
  len : is.length = ops.size
  ins : ∀ (i : Nat) (o : Oper) (x : Ins), ops[i]? = some o → is[i]? = some x →
    o.dst.all (· < nt) = true ∧ x.dst = o.dst ∧ trGuard ops.toList o.guard = some x.guard ∧ ∃ xs, trOp P o.op = some (x.op, xs) ∧ allSome (trO P) xs = some x.args
  step : ∀ (i : Nat) (o : Oper) (m : Nat), ops[i]? = some o → (bs.getD i 0).testBit m = true → ∃ e ∈ o.after.toList, Region.binds .any e = true ∧ e.on < i ∧ (m = e.on ∨ (bs.getD e.on 0).testBit m = true)
  lt : ∀ i m : Nat, (bs.getD i 0).testBit m = true → m < i
  edge : ∀ (i : Nat) (o : Oper), ops[i]? = some o → ∀ e ∈ o.after.toList, Region.binds .any e = true → e.on < i
  parts : ∀ (i j : Nat) (x y : Ins), is[i]? = some x → is[j]? = some y → i ≠ j →
    (∀ d, y.dst = some d → d ∈ readsOf x → (j < i ∧ (bs.getD i 0).testBit j = true) ∨ (i < j ∧ (bs.getD j 0).testBit i = true)) ∧
    (∀ d, x.dst = some d → y.dst ≠ some d) ∧ (x.op.eff = true → y.op.eff = true → j < i → (bs.getD i 0).testBit j = true)
  rng : ∀ (i : Nat) (x : Ins) (lop : LOp), is[i]? = some x → x.op = .l lop → ∃ lo hi,
    (∀ p, (∀ e y, is[e]? = some y → y.op.eff = true → (bs.getD i 0).testBit e = true → e < p) → (∀ e y, is[e]? = some y → y.op.eff = true → e < p → (bs.getD e 0).testBit i = false) → lo ≤ effN (is.take p) ∧ effN (is.take p) ≤ hi) ∧
    (x.rng = some (lo, hi) ∨ (x.rng = none ∧ lo = hi))

theorem dfacts {ops : Array Oper} {is : List Ins} (h : trDraw P nt ops.toList = some is) : DFacts P nt ops (befs ops.toList []) is := by
  unfold trDraw at h
  split at h
  · rename_i is0 h0
    simp only at h
    split at h
    · rename_i hc
      cases h
      simp only [Bool.and_eq_true] at hc
      obtain ⟨he, hp⟩ := hc
      obtain ⟨hl, hg⟩ := allSome_get _ _ _ h0
      refine ⟨by rw [withRng_len, hl]; simp, ?_, ?_, bef_lt he, ?_, ?_, ?_⟩
      · intro i o x ho hx
        obtain ⟨x0, hx0, rfl⟩ := withRng_get hx
        obtain ⟨a1, a2, _, a4, a5⟩ := trIns_inv (hg i o x0 (by rw [Array.getElem?_toList]; exact ho) hx0)
        exact ⟨a1, a2, a4, a5⟩
      · intro i o m ho hm
        exact bef_step he (by rw [Array.getElem?_toList]; exact ho) hm
      · intro i o ho e hm hb
        exact edges_lt he (by rw [Array.getElem?_toList]; exact ho) hm hb
      · intro i j x y hx hy hne
        obtain ⟨x0, hx0, rfl⟩ := withRng_get hx
        obtain ⟨y0, hy0, rfl⟩ := withRng_get hy
        have hpp := parted_get hp hx0 hy0 hne
        exact parted_spec (x := x0) (y := y0) hpp
      · intro i x lop hx hop
        obtain ⟨x0, hx0, rfl⟩ := withRng_get hx
        obtain ⟨lo, hi, h1, h2⟩ := rng_spec (bs := befs ops.toList []) (is := is0) (i := i) (x := x0) hop
        refine ⟨lo, hi, fun p ha hb => ?_, h2⟩
        rw [effN_withRng]
        have hw : ∀ (e : Nat) (y : Ins), is0[e]? = some y → ∃ y' : Ins, (withRng (befs ops.toList []) is0)[e]? = some y' ∧ y'.op = y.op := by
          intro e y hy
          unfold withRng
          rw [List.getElem?_map, List.getElem?_zipIdx, hy]
          exact ⟨_, rfl, rfl⟩
        refine h1 p (fun e y hy hey hb1 => ?_) (fun e y hy hey hlt => ?_)
        · obtain ⟨y', hy', e1⟩ := hw e y hy
          exact ha e y' hy' (by rw [e1]; exact hey) hb1
        · obtain ⟨y', hy', e1⟩ := hw e y hy
          exact hb e y' hy' (by rw [e1]; exact hey) hlt
    · cases h
  · cases h

/-- the run in the order of the text, and what the region has listed -/
structure DInv (P : Program) (base nt : Nat) (w0 : World) (c : ACall) (bs : List Nat) (is : List Ins) (st0 : St) (a0 : Act) (ι0 : Inj) (n : Nat) (listed : Array Bool) (a : Act) (w : World) (ι : Inj) (pre : List Nat) (p : Nat) (stp : St) : Prop where
  size : listed.size = n
  closed : ∀ j m, listed.getD j false = true → (bs.getD j 0).testBit m = true → listed.getD m false = true
  eff : ∀ j x, is[j]? = some x → x.op.eff = true → (j < p ↔ listed.getD j false = true)
  ple : p ≤ is.length
  run : ∀ τ, runReg c (is.take p) st0 (Tape.app pre τ) = some (stp, τ)
  mrel : MRel ι base w0 stp.hp w
  glob : GOk P ι stp.hp
  ext : Ext st0.hp ι0 ι
  evol : Evol st0.hp stp.hp
  defers : a.defers = []
  tsize : nt ≤ a.tmps.size
  old : ∀ t, (∀ j x, is[j]? = some x → listed.getD j false = true → x.dst ≠ some t) → a.tmps[t]? = a0.tmps[t]?
  new : ∀ τ j x d stf τf, is[j]? = some x → listed.getD j false = true → x.dst = some d → runReg c is st0 (Tape.app pre τ) = some (stf, τf) → ∃ v, stf.fr.get d = some v ∧ a.tmps[d]? = some (cv ι v) ∧ VOk stp.hp v

theorem split_at {c : ACall} {is : List Ins} {i : Nat} {x : Ins} (hx : is[i]? = some x) {st stf : St} {τ τf : Tape} (h : runReg c is st τ = some (stf, τf)) :
    ∃ sti τi sti' τi', runReg c (is.take i) st τ = some (sti, τi) ∧ runIns c x sti τi = some (sti', τi') ∧ runReg c (is.drop (i + 1)) sti' τi' = some (stf, τf) := by
  have hlt : i < is.length := (List.getElem?_eq_some_iff.1 hx).1
  have hxe : is[i] = x := (List.getElem?_eq_some_iff.1 hx).2
  have hs : is = is.take i ++ x :: is.drop (i + 1) := by
    rw [← hxe, ← List.drop_eq_getElem_cons hlt, List.take_append_drop]
  rw [hs, runReg_append] at h
  split at h
  · rename_i sti τi h1
    simp only [runReg] at h
    split at h
    · rename_i sti' τi' h2
      exact ⟨sti, τi, sti', τi', h1, h2, h⟩
    · cases h
  · cases h

section
variable {ops : Array Oper} {bs : List Nat} {is : List Ins} {c : ACall} {st0 : St} {a0 a : Act} {listed : Array Bool} {pre : List Nat} {p : Nat} {stp : St}

theorem mem_take_get {α : Type} {l : List α} {i : Nat} {x : α} (h : x ∈ l.take i) : ∃ j, j < i ∧ l[j]? = some x := by
  rw [List.mem_iff_getElem?] at h
  obtain ⟨j, hj⟩ := h
  rw [List.getElem?_take] at hj
  split at hj
  · rename_i hlt; exact ⟨j, hlt, hj⟩
  · cases hj
theorem mem_drop_get {α : Type} {l : List α} {i : Nat} {x : α} (h : x ∈ l.drop i) : ∃ j, i ≤ j ∧ l[j]? = some x := by
  rw [List.mem_iff_getElem?] at h
  obtain ⟨j, hj⟩ := h
  rw [List.getElem?_drop] at hj
  exact ⟨i + j, by omega, hj⟩

/-- the operands of an operation that is ready -/
theorem DInv.reads (hD : DFacts P nt ops bs is) (hI : DInv P base nt w0 c bs is st0 a0 ι0 ops.size listed a w ι pre p stp) (hF0 : FRel ι0 st0.hp nt st0.fr a0) (htot : ∀ τ, runReg c is st0 τ ≠ none)
    {i : Nat} {x : Ins} (hx : is[i]? = some x) (hu : listed.getD i false = false) (hb : ∀ m, (bs.getD i 0).testBit m = true → listed.getD m false = true) {τ τi : Tape} {sti : St}
    (hr : runReg c (is.take i) st0 (Tape.app pre τ) = some (sti, τi)) {t : Nat} (ht : t ∈ readsOf x) {v : V} (hv : sti.fr.get t = some v) : a.tmps[t]? = some (cv ι v) ∧ VOk stp.hp v := by
  have first : (∀ j y, is[j]? = some y → listed.getD j false = true → y.dst ≠ some t) → (∀ j y, j < i → is[j]? = some y → y.dst ≠ some t) → a.tmps[t]? = some (cv ι v) ∧ VOk stp.hp v := by
    intro h1 h2
    rw [hI.old t h1]
    have : sti.fr.get t = st0.fr.get t := runReg_get hr fun y hy => by
      obtain ⟨j, hj, hjy⟩ := mem_take_get hy
      exact h2 j y hj hjy
    rw [this] at hv
    obtain ⟨k1, k2⟩ := hF0.get t v hv
    rw [cv_congr hI.ext v k2]
    exact ⟨k1, k2.mono hI.evol⟩
  by_cases hd : ∃ (j : Nat) (y : Ins), is[j]? = some y ∧ y.dst = some t
  · obtain ⟨j, y, hy, hyd⟩ := hd
    have only : ∀ j' y', is[j']? = some y' → y'.dst = some t → j' = j := by
      intro j' y' hy' hd'
      by_cases e : j' = j
      · exact e
      · exact absurd hyd ((hD.parts j' j y' y hy' hy e).2.1 t hd')
    by_cases e : j = i
    · subst e
      refine first (fun j' y' hy' hl hd' => ?_) (fun j' y' hlt hy' hd' => ?_)
      · have := only j' y' hy' hd'
        subst this
        rw [hu] at hl; cases hl
      · have := only j' y' hy' hd'
        omega
    · rcases (hD.parts i j x y hx hy (Ne.symm e)).1 t hyd ht with ⟨hlt, hbit⟩ | ⟨hlt, hbit⟩
      · have hl := hb j hbit
        cases hf : runReg c is st0 (Tape.app pre τ) with
        | none => exact absurd hf (htot _)
        | some r =>
          obtain ⟨stf, τf⟩ := r
          obtain ⟨sti2, τi2, sti', τi', k1, k2, k3⟩ := split_at hx hf
          rw [hr] at k1
          cases k1
          obtain ⟨v', m1, m2, m3⟩ := hI.new τ j y t stf τf hy hl hyd hf
          have e1 : stf.fr.get t = sti'.fr.get t := runReg_get k3 fun y' hy' hd' => by
            obtain ⟨j', hj', hjy'⟩ := mem_drop_get hy'
            have := only j' y' hjy' hd'
            omega
          have e2 : sti'.fr.get t = sti.fr.get t := runIns_get k2 fun hd' => e (only i x hx hd').symm
          rw [e1, e2, hv] at m1
          cases m1
          exact ⟨m2, m3⟩
      · refine first (fun j' y' hy' hl hd' => ?_) (fun j' y' hlt' hy' hd' => ?_)
        · have := only j' y' hy' hd'
          subst this
          have := hI.closed j' i hl hbit
          rw [hu] at this; cases this
        · have := only j' y' hy' hd'
          omega
  · refine first (fun j' y' hy' _ hd' => hd ⟨j', y', hy', hd'⟩) (fun j' y' _ hy' hd' => hd ⟨j', y', hy', hd'⟩)

/-- the frame that an operation sees -/
theorem DInv.frame (hD : DFacts P nt ops bs is) (hI : DInv P base nt w0 c bs is st0 a0 ι0 ops.size listed a w ι pre p stp) (hF0 : FRel ι0 st0.hp nt st0.fr a0) (htot : ∀ τ, runReg c is st0 τ ≠ none)
    {i : Nat} {x : Ins} (hx : is[i]? = some x) (hu : listed.getD i false = false) (hb : ∀ m, (bs.getD i 0).testBit m = true → listed.getD m false = true) {τ τi : Tape} {sti : St}
    (hr : runReg c (is.take i) st0 (Tape.app pre τ) = some (sti, τi)) : FRel ι stp.hp nt (keepT (readsOf x) sti.fr .leaf) a :=
  ⟨hI.defers, hI.tsize, fun t v h => by
    rw [keepT_get] at h
    split at h
    · rename_i hc
      exact hI.reads hD hF0 htot hx hu hb hr hc.1 h
    · cases h⟩

theorem keep_args (x : Ins) (fr : T V) : evOs (keepT (readsOf x) fr .leaf) x.args = evOs fr x.args :=
  evOs_congr fun t ht => by
    rw [keepT_get]
    split
    · rfl
    · rename_i h
      cases hg : fr.get t with
      | none => rfl
      | some v => exact absurd ⟨args_reads ht, by simp [hg]⟩ h
theorem keep_wants (x : Ins) (fr : T V) : wants (keepT (readsOf x) fr .leaf) x.guard = wants fr x.guard :=
  wants_congr fun t b ht => by
    rw [keepT_get]
    split
    · rfl
    · rename_i h
      cases hg : fr.get t with
      | none => rfl
      | some v => exact absurd ⟨guard_reads ht, by simp [hg]⟩ h

theorem listed_set {listed : Array Bool} {i j : Nat} (hi : i < listed.size) : ((listed.setIfInBounds i true).getD j false = true) ↔ (j = i ∨ listed.getD j false = true) := by
  by_cases e : i = j
  · subst e; simp [hi]
  · rw [getD_set_ne false e]
    constructor
    · exact .inr
    · rintro (h | h)
      · exact absurd h.symm e
      · exact h

theorem put_tmps_ne {a : Act} {dst : Option Tmp} {u : Value} {t : Nat} (h : dst ≠ some t) : (a.put dst u).tmps[t]? = a.tmps[t]? := by
  cases dst with
  | none => rfl
  | some d =>
    simp only [Act.put]
    rw [Array.getElem?_setIfInBounds_ne (fun e => h (by rw [e]))]
theorem put_tmps_eq {a : Act} {d : Nat} {u : Value} (h : d < a.tmps.size) : (a.put (some d) u).tmps[d]? = some u := by
  simp only [Act.put]
  rw [Array.getElem?_setIfInBounds_self_of_lt h]
theorem put_tmps_size {a : Act} {dst : Option Tmp} {u : Value} : (a.put dst u).tmps.size = a.tmps.size := by
  cases dst <;> simp [Act.put]
theorem put_tmps_defers {a : Act} {dst : Option Tmp} {u : Value} : (a.put dst u).defers = a.defers := by
  cases dst <;> rfl

/-- an operation that is no effect is listed -/
theorem DInv.still (hD : DFacts P nt ops bs is) (hI : DInv P base nt w0 c bs is st0 a0 ι0 ops.size listed a w ι pre p stp)
    {i : Nat} {o : Oper} {x : Ins} (ho : ops[i]? = some o) (hx : is[i]? = some x) (hb : ∀ m, (bs.getD i 0).testBit m = true → listed.getD m false = true) (he : x.op.eff = false) (u : Value)
    (hv : ∀ τ sti τi sti' τi', runReg c (is.take i) st0 (Tape.app pre τ) = some (sti, τi) → runIns c x sti τi = some (sti', τi') → ∀ d, x.dst = some d → ∃ v, sti'.fr.get d = some v ∧ u = cv ι v ∧ VOk stp.hp v) :
    DInv P base nt w0 c bs is st0 a0 ι0 ops.size (listed.setIfInBounds i true) (a.put o.dst u) w ι pre p stp := by
  have hi : i < listed.size := by rw [hI.size]; exact (Array.getElem?_eq_some_iff.1 ho).1
  obtain ⟨hnt, hdst, _, _⟩ := hD.ins i o x ho hx
  refine ⟨by simp [hI.size], ?_, ?_, hI.ple, hI.run, hI.mrel, hI.glob, hI.ext, hI.evol, by rw [put_tmps_defers]; exact hI.defers, by rw [put_tmps_size]; exact hI.tsize, ?_, ?_⟩
  · intro j m hj hbit
    rw [listed_set hi] at hj ⊢
    rcases hj with rfl | hj
    · exact .inr (hb m hbit)
    · exact .inr (hI.closed j m hj hbit)
  · intro j y hy hey
    rw [listed_set hi]
    rw [hI.eff j y hy hey]
    constructor
    · exact .inr
    · rintro (rfl | h)
      · rw [hx] at hy; cases hy; rw [he] at hey; cases hey
      · exact h
  · intro t ht
    have h1 : o.dst ≠ some t := by
      rw [← hdst]
      exact ht i x hx ((listed_set hi).2 (.inl rfl))
    rw [put_tmps_ne h1]
    exact hI.old t fun j y hy hl => ht j y hy ((listed_set hi).2 (.inr hl))
  · intro τ j y d stf τf hy hl hd hf
    by_cases e : j = i
    · subst e
      rw [hx] at hy
      cases hy
      obtain ⟨sti, τi, sti', τi', k1, k2, k3⟩ := split_at hx hf
      obtain ⟨v, m1, m2, m3⟩ := hv τ sti τi sti' τi' k1 k2 d hd
      refine ⟨v, ?_, ?_, m3⟩
      · rw [← m1]
        refine runReg_get k3 fun y' hy' hd' => ?_
        obtain ⟨j', hj', hjy'⟩ := mem_drop_get hy'
        exact (hD.parts j j' x y' hx hjy' (by omega)).2.1 d hd hd'
      · rw [← hdst, hd, put_tmps_eq, m2]
        have := hI.tsize
        rw [← hdst, hd] at hnt
        have : d < nt := by simpa using hnt
        omega
    · have hl' : listed.getD j false = true := by
        rcases (listed_set hi).1 hl with h | h
        · exact absurd h e
        · exact h
      obtain ⟨v, m1, m2, m3⟩ := hI.new τ j y d stf τf hy hl' hd hf
      refine ⟨v, m1, ?_, m3⟩
      rw [put_tmps_ne]
      · exact m2
      · rw [← hdst]
        intro hd'
        exact (hD.parts j i y x hy hx e).2.1 d hd hd'

/-- an effect is listed -/
theorem DInv.effect (hD : DFacts P nt ops bs is) (hI : DInv P base nt w0 c bs is st0 a0 ι0 ops.size listed a w ι pre p stp)
    {i : Nat} {o : Oper} {x : Ins} (ho : ops[i]? = some o) (hx : is[i]? = some x) (hu : listed.getD i false = false) (hb : ∀ m, (bs.getD i 0).testBit m = true → listed.getD m false = true) (he : x.op.eff = true) {sti : St}
    (hr : ∀ τ, runReg c (is.take i) st0 (Tape.app pre τ) = some (sti, τ)) {v : V} {H' : Heap} {ι' : Inj} {pre' : List Nat} {w' : World}
    (h1 : ∀ τ, runIns c x sti (Tape.app pre' τ) = some (⟨put sti.fr x.dst v, H'⟩, τ)) (h2 : MRel ι' base w0 H' w') (h3 : GOk P ι' H') (h4 : Ext stp.hp ι ι') (h5 : Evol stp.hp H') (h6 : VOk H' v) :
    DInv P base nt w0 c bs is st0 a0 ι0 ops.size (listed.setIfInBounds i true) (a.put o.dst (cv ι' v)) w' ι' (pre ++ pre') (i + 1) ⟨put sti.fr x.dst v, H'⟩ := by
  have hi : i < listed.size := by rw [hI.size]; exact (Array.getElem?_eq_some_iff.1 ho).1
  obtain ⟨hnt, hdst, _, _⟩ := hD.ins i o x ho hx
  have hil : i < is.length := (List.getElem?_eq_some_iff.1 hx).1
  refine ⟨by simp [hI.size], ?_, ?_, hil, ?_, h2, h3, hI.ext.trans h4 hI.evol.size, hI.evol.trans h5, by rw [put_tmps_defers]; exact hI.defers, by rw [put_tmps_size]; exact hI.tsize, ?_, ?_⟩
  · intro j m hj hbit
    rw [listed_set hi] at hj ⊢
    rcases hj with rfl | hj
    · exact .inr (hb m hbit)
    · exact .inr (hI.closed j m hj hbit)
  · intro j y hy hey
    rw [listed_set hi]
    constructor
    · intro hlt
      by_cases e : j = i
      · exact .inl e
      · exact .inr (hb j ((hD.parts i j x y hx hy (Ne.symm e)).2.2 he hey (by omega)))
    · rintro (rfl | hl)
      · omega
      · by_cases hlt : j < i
        · omega
        · exfalso
          by_cases e : j = i
          · subst e; rw [hu] at hl; cases hl
          · have := hI.closed j i hl ((hD.parts j i y x hy hx e).2.2 hey he (by omega))
            rw [hu] at this; cases this
  · intro τ
    have e1 : is.take (i + 1) = is.take i ++ [x] := by
      rw [List.take_add_one, hx]; rfl
    rw [e1, runReg_append, ← Tape.app_app, hr]
    simp only [runReg, h1]
  · intro t ht
    have h1 : o.dst ≠ some t := by
      rw [← hdst]
      exact ht i x hx ((listed_set hi).2 (.inl rfl))
    rw [put_tmps_ne h1]
    exact hI.old t fun j y hy hl => ht j y hy ((listed_set hi).2 (.inr hl))
  · intro τ j y d stf τf hy hl hd hf
    by_cases e : j = i
    · subst e
      rw [hx] at hy
      cases hy
      obtain ⟨sti2, τi, sti', τi', k1, k2, k3⟩ := split_at hx hf
      rw [← Tape.app_app, hr] at k1
      cases k1
      rw [h1] at k2
      cases k2
      refine ⟨v, ?_, ?_, h6⟩
      · have e2 : stf.fr.get d = (put sti.fr x.dst v).get d := runReg_get k3 fun y' hy' hd' => by
          obtain ⟨j', hj', hjy'⟩ := mem_drop_get hy'
          exact (hD.parts j j' x y' hx hjy' (by omega)).2.1 d hd hd'
        rw [e2, hd]
        exact T.get_set_same _ _ _
      · rw [← hdst, hd, put_tmps_eq]
        have := hI.tsize
        rw [← hdst, hd] at hnt
        have : d < nt := by simpa using hnt
        omega
    · have hl' : listed.getD j false = true := by
        rcases (listed_set hi).1 hl with h | h
        · exact absurd h e
        · exact h
      rw [← Tape.app_app] at hf
      obtain ⟨v', m1, m2, m3⟩ := hI.new (Tape.app pre' τ) j y d stf τf hy hl' hd hf
      refine ⟨v', m1, ?_, m3.mono h5⟩
      rw [put_tmps_ne, cv_congr h4 v' m3]
      · exact m2
      · rw [← hdst]
        intro hd'
        exact (hD.parts j i y x hy hx e).2.1 d hd hd'
end
end
end Go.Am


/-
  THE ABSTRACT MACHINE 'Am', twenty-second part: a region that draws its order, walked.
-/
namespace Go.Am
open Go.RowKit (Below)

section
variable {P : Program} {w w0 : World} {ι ι0 : Inj} {base nt : Nat}
variable {ops : Array Oper} {bs : List Nat} {is : List Ins} {c : ACall} {st0 : St} {a0 a : Act} {listed : Array Bool} {pre : List Nat} {p : Nat} {stp : St}

theorem DInv.step (hc : CallSound P base w0 c) (hD : DFacts P nt ops bs is) (hI : DInv P base nt w0 c bs is st0 a0 ι0 ops.size listed a w ι pre p stp) (hF0 : FRel ι0 st0.hp nt st0.fr a0)
    (hdraw : ∀ τ, ∃ st' τ' hs ls, runDraw c is st0 τ [st0.hp] [] = some (st', τ', hs, ls) ∧ chkLoads hs.reverse ls = true) {i : Nat} (hrdy : i ∈ Region.ready .any ops listed) (K : Act → World → Prop) (Q : Exit → Act → World → Prop)
    (hK : ∀ a' w' ι' pre' p' stp', DInv P base nt w0 c bs is st0 a0 ι0 ops.size (listed.setIfInBounds i true) a' w' ι' pre' p' stp' → K a' w') : wpOp P ops Q i K a w := by
  obtain ⟨hun, o, ho, hafter⟩ := mem_ready.1 hrdy
  have hisz : i < ops.size := (Array.getElem?_eq_some_iff.1 ho).1
  have hu : listed.getD i false = false := by
    have hlt : i < listed.size := by rw [hI.size]; exact hisz
    simp [hlt] at hun ⊢; exact hun
  have hil : i < is.length := by rw [hD.len]; exact hisz
  obtain ⟨x, hx⟩ : ∃ x, is[i]? = some x := ⟨is[i], List.getElem?_eq_getElem hil⟩
  have hb : ∀ m, (bs.getD i 0).testBit m = true → listed.getD m false = true := by
    intro m hm
    obtain ⟨e, he, hbind, _, h2⟩ := hD.step i o m ho hm
    have hl := hafter e (by simpa using he) hbind
    rcases h2 with rfl | h2
    · exact hl
    · exact hI.closed e.on m hl h2
  have htot : ∀ τ, runReg c is st0 τ ≠ none := by
    intro τ
    obtain ⟨st', τ', hs, ls, h1, _⟩ := hdraw τ
    rw [(runDraw_spec h1).1]
    exact fun e => by cases e
  have hfull : ∀ τ, ∃ stf τf sti τi sti' τi', runReg c is st0 (Tape.app pre τ) = some (stf, τf) ∧ runReg c (is.take i) st0 (Tape.app pre τ) = some (sti, τi) ∧ runIns c x sti τi = some (sti', τi') := by
    intro τ
    cases hf : runReg c is st0 (Tape.app pre τ) with
    | none => exact absurd hf (htot _)
    | some r =>
      obtain ⟨stf, τf⟩ := r
      obtain ⟨sti, τi, sti', τi', k1, k2, _⟩ := split_at hx hf
      exact ⟨stf, τf, sti, τi, sti', τi', rfl, k1, k2⟩
  obtain ⟨hnt, hdst, hguard, xs, hop, hxs⟩ := hD.ins i o x ho hx
  -- at an effect the run stands at the region's own place
  have hate : x.op.eff = true → ∃ sti, sti.hp = stp.hp ∧ ∀ τ, runReg c (is.take i) st0 (Tape.app pre τ) = some (sti, τ) := by
    intro he
    have hpi : p ≤ i := by
      rcases Nat.lt_or_ge i p with h | h
      · have := (hI.eff i x hx he).1 h
        rw [hu] at this; cases this
      · exact h
    have hst : ∀ y ∈ (is.take i).drop p, y.op.eff = false := by
      intro y hy
      obtain ⟨j, hj, hjy⟩ := mem_drop_get hy
      rw [List.getElem?_take] at hjy
      split at hjy
      · rename_i hlt
        cases hey : y.op.eff with
        | false => rfl
        | true =>
          have := hb j ((hD.parts i j x y hx hjy (by omega)).2.2 he hey hlt)
          have := (hI.eff j y hjy hey).2 this
          omega
      · cases hjy
    have hsplit : is.take i = is.take p ++ (is.take i).drop p := by
      have := List.take_append_drop p (is.take i)
      rw [List.take_take, Nat.min_eq_left hpi] at this
      exact this.symm
    have hrun : ∀ τ, runReg c (is.take i) st0 (Tape.app pre τ) = runReg c ((is.take i).drop p) stp τ := by
      intro τ
      rw [hsplit, runReg_append, hI.run]
      simp only [← hsplit]
    obtain ⟨_, _, sti, τi, _, _, _, k1, _⟩ := hfull (fun _ => 0)
    rw [hrun] at k1
    obtain ⟨b1, _, b3⟩ := runReg_still hst k1
    exact ⟨sti, b1, fun τ => by rw [hrun]; exact b3 τ⟩
  -- is it wanted?
  have hwants : ∀ τ sti τi b, runReg c (is.take i) st0 (Tape.app pre τ) = some (sti, τi) → wants sti.fr x.guard = some b → Region.wanted o (yielded ops a.tmps) = b := by
    intro τ sti τi b hr hw
    have hfr := hI.frame hD hF0 htot hx hu hb hr
    exact wants_sound hfr hguard (by rw [keep_wants]; exact hw)
  unfold wpOp
  simp only [ho]
  cases hwant : Region.wanted o (yielded ops a.tmps) with
  | false =>
    simp only [Bool.false_eq_true, if_false]
    have hput : ∀ τ sti τi sti' τi', runReg c (is.take i) st0 (Tape.app pre τ) = some (sti, τi) → runIns c x sti τi = some (sti', τi') → sti' = ⟨put sti.fr x.dst (.tup []), sti.hp⟩ ∧ ∀ τ2, runIns c x sti τ2 = some (sti', τ2) := by
      intro τ sti τi sti' τi' k1 k2
      have hw := hwants τ sti τi
      unfold runIns at k2 ⊢
      cases hg : wants sti.fr x.guard with
      | none => simp only [hg] at k2; cases k2
      | some b =>
        have := hw b k1 hg
        rw [hwant] at this
        subst this
        simp only [hg, Option.some.injEq, Prod.mk.injEq] at k2 ⊢
        exact ⟨k2.1.symm, fun τ2 => ⟨k2.1, trivial⟩⟩
    cases he : x.op.eff with
    | false =>
      refine hK _ _ ι pre p stp (hI.still hD ho hx hb he undef fun τ sti τi sti' τi' k1 k2 d hd => ?_)
      obtain ⟨rfl, _⟩ := hput τ sti τi sti' τi' k1 k2
      exact ⟨.tup [], by rw [hd]; exact T.get_set_same _ _ _, rfl, trivial⟩
    | true =>
      obtain ⟨sti, hhp, hrun⟩ := hate he
      have hI' := hI.effect hD ho hx hu hb he hrun (v := .tup []) (H' := sti.hp) (ι' := ι) (pre' := []) (w' := w) (fun τ => by
        obtain ⟨_, _, sti2, τi, sti', τi', _, k1, k2⟩ := hfull τ
        rw [hrun] at k1
        cases k1
        obtain ⟨rfl, h2⟩ := hput τ sti τ sti' τi' (hrun τ) k2
        exact h2 τ) (by rw [hhp]; exact hI.mrel) (by rw [hhp]; exact hI.glob) (Ext.refl _ _) (by rw [hhp]; exact Evol.refl _) trivial
      exact hK _ _ _ _ _ _ hI'
  | true =>
    simp only [if_true]
    refine .inl ?_
    have hargs : ∀ τ sti τi sti' τi', runReg c (is.take i) st0 (Tape.app pre τ) = some (sti, τi) → runIns c x sti τi = some (sti', τi') →
        ∃ vs, wants sti.fr x.guard = some true ∧ evOs sti.fr x.args = some vs ∧ xs.map a.eval = cvl ι vs ∧ VsOk stp.hp vs ∧
          ∃ v H τ2, evalOp c x.op vs sti.hp τi = some (v, H, τ2) ∧ sti' = ⟨put sti.fr x.dst v, H⟩ ∧ τi' = τ2 := by
      intro τ sti τi sti' τi' k1 k2
      unfold runIns at k2
      cases hg : wants sti.fr x.guard with
      | none => simp only [hg] at k2; cases k2
      | some b =>
        have := hwants τ sti τi b k1 hg
        rw [hwant] at this
        subst this
        simp only [hg] at k2
        cases hvs : evOs sti.fr x.args with
        | none => simp only [hvs] at k2; cases k2
        | some vs =>
          simp only [hvs] at k2
          have hfr := hI.frame hD hF0 htot hx hu hb k1
          obtain ⟨e1, e2⟩ := evOs_sound hfr hI.glob xs x.args vs hxs (by rw [keep_args]; exact hvs)
          cases hev : evalOp c x.op vs sti.hp τi with
          | none => simp only [hev] at k2; cases k2
          | some r =>
            obtain ⟨v, H, τ2⟩ := r
            simp only [hev, Option.some.injEq, Prod.mk.injEq] at k2
            exact ⟨vs, rfl, rfl, e1, e2, v, H, τ2, hev, k2.1.symm, k2.2.symm⟩
    cases he : x.op.eff with
    | true =>
      obtain ⟨sti, hhp, hrun⟩ := hate he
      obtain ⟨_, _, sti2, τi, sti', τi', _, k1, k2⟩ := hfull (fun _ => 0)
      obtain ⟨vs, hg, hvs, e1, e2, _⟩ := hargs _ sti2 τi sti' τi' k1 k2
      rw [hrun] at k1
      cases k1
      have hne : ∀ τ, evalOp c x.op vs (St.mk (T.leaf : T V) stp.hp).hp τ ≠ none := by
        intro τ hn
        obtain ⟨_, _, sti2, τi, sti', τi', _, k1, k2⟩ := hfull τ
        rw [hrun] at k1
        cases k1
        obtain ⟨vs2, _, hvs2, _, _, v, H, τ2, hev, _⟩ := hargs _ _ _ _ _ (hrun τ) k2
        rw [hvs] at hvs2
        cases hvs2
        rw [hhp] at hev
        rw [show (St.mk (T.leaf : T V) stp.hp).hp = stp.hp from rfl, hev] at hn
        cases hn
      refine op_wp c hc (st := ⟨.leaf, stp.hp⟩) (ι := ι) ⟨hI.defers, hI.tsize, fun t v h => by rw [T.get_leaf] at h; cases h⟩ hI.mrel hI.glob hnt hop e1 e2 hne K Q ?_
      intro v H' ι' pre' w' h3 _ h4 h5 h6 h7 h8
      exact hK _ _ _ _ _ _ (hI.effect hD ho hx hu hb he hrun (v := v) (H' := H') (ι' := ι') (pre' := pre') (w' := w') (fun τ => by
        unfold runIns
        simp only [hg, hvs, hhp, h3]) h4 h5 h6 h7 h8)
    | false =>
      -- a value, or what is read
      have hval : ∀ τ sti τi sti' τi', runReg c (is.take i) st0 (Tape.app pre τ) = some (sti, τi) → runIns c x sti τi = some (sti', τi') →
          ∃ v, sti' = ⟨put sti.fr x.dst v, sti.hp⟩ ∧ (execOp a.eval o).run P w = .ok (.value (cv ι v)) w ∧ VOk stp.hp v := by
        intro τ sti τi sti' τi' k1 k2
        obtain ⟨vs, hg, hvs, e1, e2, v, H, τ2, hev, hst', _⟩ := hargs τ sti τi sti' τi' k1 k2
        have hH : H = sti.hp := by
          have := (runIns_still he k2).1
          rw [hst'] at this
          exact this
        subst hH
        refine ⟨v, hst', ?_⟩
        obtain ⟨dst, op, ty, pos, after, guard⟩ := o
        cases hxop : x.op with
        | p po =>
          rw [hxop] at hev hop
          simp only [evalOp] at hev
          split at hev
          · rename_i v' hv'
            cases hev
            exact pop_sound (P := P) (w := w) (ρ := a.eval) op po xs vs v dst ty pos after guard hop e1 e2 hv'
          · cases hev
        | l lo =>
          rw [hxop] at hev hop
          simp only [evalOp] at hev
          split at hev
          · rename_i v' hv'
            cases hev
            have hsame : evalL lo vs stp.hp = some v := by
              obtain ⟨stf, τf, hs, ls, hd1, hd2⟩ := hdraw (Tape.app pre τ)
              obtain ⟨_, _, _, d4, d5⟩ := runDraw_spec hd1
              have hi1 := d4 i sti τi (by omega) k1
              have hp1 := d4 p stp τ hI.ple (hI.run τ)
              simp only [List.length_nil, Nat.zero_add] at hi1 hp1
              obtain ⟨l, h, hb1, hb2⟩ := hD.rng i x lo hx hxop
              have bp := hb1 p (fun e y hy hey hbit => (hI.eff e y hy hey).2 (hb e hbit)) (fun e y hy hey hlt => by
                cases hbit : (bs.getD e 0).testBit i with
                | false => rfl
                | true =>
                  have := hI.closed e i ((hI.eff e y hy hey).1 hlt) hbit
                  rw [hu] at this; cases this)
              have bi := hb1 i (fun e y hy hey hbit => hD.lt i e hbit) (fun e y hy hey hlt => by
                cases hbit : (bs.getD e 0).testBit i with
                | false => rfl
                | true => have := hD.lt e i hbit; omega)
              rcases hb2 with hrng | ⟨_, rfl⟩
              · have hn : (lo, vs, l, h) ∈ ls := d5 i x sti τi hx k1 hg _ (by
                  unfold noted
                  simp only [hrng, hxop, hvs]
                  exact List.mem_cons_self)
                obtain ⟨v2, hv2⟩ := chkLoads_spec hd2 lo vs l h hn
                have e3 := hv2 _ _ bi.1 bi.2 hi1
                have e4 := hv2 _ _ bp.1 bp.2 hp1
                rw [hv'] at e3
                cases e3
                exact e4
              · have : effN (is.take p) = effN (is.take i) := by omega
                rw [this, hi1] at hp1
                rw [← Option.some.inj hp1]
                exact hv'
            exact lop_sound (P := P) (ρ := a.eval) hI.mrel op lo xs vs v dst ty pos after guard hop e1 hsame
          · cases hev
        | _ => rw [hxop] at he; simp [AOp.eff] at he
      obtain ⟨_, _, sti, τi, sti', τi', _, k1, k2⟩ := hfull (fun _ => 0)
      obtain ⟨v, hst', hexec, hok⟩ := hval _ sti τi sti' τi' k1 k2
      unfold Oper.wp
      rw [hexec]
      refine hK _ _ ι pre p stp (hI.still hD ho hx hb he (cv ι v) fun τ sti τi sti' τi' k1 k2 d hd => ?_)
      obtain ⟨v2, hst2, hexec2, hok2⟩ := hval τ sti τi sti' τi' k1 k2
      rw [hexec] at hexec2
      refine ⟨v2, by rw [hst2, hd]; exact T.get_set_same _ _ _, ?_, hok2⟩
      injection hexec2 with h1
      injection h1

/-- all is listed -/
theorem DInv.done (hD : DFacts P nt ops bs is) (hI : DInv P base nt w0 c bs is st0 a0 ι0 ops.size listed a w ι pre p stp) (hF0 : FRel ι0 st0.hp nt st0.fr a0) (htot : ∀ τ, runReg c is st0 τ ≠ none)
    (hall : Region.ready .any ops listed = []) : After P base w0 ι0 st0.hp nt (runReg c is st0) a w := by
  have hl : ∀ i, i < ops.size → listed.getD i false = true := by
    intro i
    induction i using Nat.strongRecOn with
    | _ i ih =>
      intro hi
      cases hl : listed.getD i false with
      | true => rfl
      | false =>
        have : i ∈ Region.ready .any ops listed := by
          refine mem_ready.2 ⟨?_, ops[i], Array.getElem?_eq_getElem hi, fun e he hb => ?_⟩
          · have hlt : i < listed.size := by rw [hI.size]; exact hi
            simp [hlt] at hl ⊢; exact hl
          · have := hD.edge i ops[i] (Array.getElem?_eq_getElem hi) e (by simpa using he) hb
            exact ih e.on this (by omega)
        rw [hall] at this
        cases this
  have hst : ∀ y ∈ is.drop p, y.op.eff = false := by
    intro y hy
    obtain ⟨j, hj, hjy⟩ := mem_drop_get hy
    cases hey : y.op.eff with
    | false => rfl
    | true =>
      have hjs : j < ops.size := by rw [← hD.len]; exact (List.getElem?_eq_some_iff.1 hjy).1
      have := (hI.eff j y hjy hey).2 (hl j hjs)
      omega
  have hrun : ∀ τ, runReg c is st0 (Tape.app pre τ) = runReg c (is.drop p) stp τ := by
    intro τ
    rw [← List.take_append_drop p is, runReg_append, hI.run]
    simp
  cases hf : runReg c is st0 (Tape.app pre (fun _ => 0)) with
  | none => exact absurd hf (htot _)
  | some r =>
    obtain ⟨stf, τf⟩ := r
    have hf2 := hf
    rw [hrun] at hf2
    obtain ⟨b1, _, b3⟩ := runReg_still hst hf2
    refine ⟨stf, ι, pre, fun τ => by rw [hrun]; exact b3 τ, ⟨hI.defers, hI.tsize, fun t v hv => ?_⟩, by rw [b1]; exact hI.mrel, by rw [b1]; exact hI.glob, hI.ext, by rw [b1]; exact hI.evol⟩
    rw [b1]
    by_cases hd : ∃ (j : Nat) (y : Ins), is[j]? = some y ∧ y.dst = some t
    · obtain ⟨j, y, hy, hyd⟩ := hd
      have hjs : j < ops.size := by rw [← hD.len]; exact (List.getElem?_eq_some_iff.1 hy).1
      obtain ⟨v', m1, m2, m3⟩ := hI.new _ j y t stf τf hy (hl j hjs) hyd hf
      rw [hv] at m1
      cases m1
      exact ⟨m2, m3⟩
    · have e1 : stf.fr.get t = st0.fr.get t := runReg_get hf fun y hy hyd => by
        rw [List.mem_iff_getElem?] at hy
        obtain ⟨j, hj⟩ := hy
        exact hd ⟨j, y, hj, hyd⟩
      rw [e1] at hv
      obtain ⟨k1, k2⟩ := hF0.get t v hv
      rw [hI.old t fun j y hy _ hyd => hd ⟨j, y, hy, hyd⟩, cv_congr hI.ext v k2]
      exact ⟨k1, k2.mono hI.evol⟩

theorem draw_all (hc : CallSound P base w0 c) (hD : DFacts P nt ops bs is) (hF0 : FRel ι0 st0.hp nt st0.fr a0)
    (hdraw : ∀ τ, ∃ st' τ' hs ls, runDraw c is st0 τ [st0.hp] [] = some (st', τ', hs, ls) ∧ chkLoads hs.reverse ls = true) (Q : Exit → Act → World → Prop)
    (hQ : ∀ a' w', After P base w0 ι0 st0.hp nt (runReg c is st0) a' w' → Q .normal a' w') : ∀ (fuel : Nat) (listed : Array Bool) (a : Act) (w : World) (ι : Inj) (pre : List Nat) (p : Nat) (stp : St),
    DInv P base nt w0 c bs is st0 a0 ι0 ops.size listed a w ι pre p stp → (List.range ops.size).countP (fun j => !listed.getD j true) ≤ fuel → wpAny P .any ops Q fuel listed a w := by
  have htot : ∀ τ, runReg c is st0 τ ≠ none := by
    intro τ
    obtain ⟨st', τ', hs, ls, h1, _⟩ := hdraw τ
    rw [(runDraw_spec h1).1]
    exact fun e => by cases e
  intro fuel
  induction fuel with
  | zero =>
    intro listed a w ι pre p stp hI hle
    have hall : Region.ready .any ops listed = [] := by
      rw [List.eq_nil_iff_forall_not_mem]
      intro i hi
      obtain ⟨hun, o, ho, _⟩ := mem_ready.1 hi
      have h0 := List.countP_eq_zero.1 (Nat.le_zero.1 hle) i (List.mem_range.2 (Array.getElem?_eq_some_iff.1 ho).1)
      rw [hun] at h0
      exact h0 rfl
    exact wpAny_done hall (hQ _ _ (hI.done hD hF0 htot hall)) 0
  | succ fuel ih =>
    intro listed a w ι pre p stp hI hle
    refine ⟨fun hall => hQ _ _ (hI.done hD hF0 htot hall), fun i hi => ?_⟩
    refine hI.step hc hD hF0 hdraw hi _ Q fun a' w' ι' pre' p' stp' hI' => ih _ _ _ _ _ _ _ hI' ?_
    obtain ⟨hun, o, ho, _⟩ := mem_ready.1 hi
    have hilt : i < ops.size := (Array.getElem?_eq_some_iff.1 ho).1
    have := count_set (fun j => !listed.getD j true) (fun j => !(listed.setIfInBounds i true).getD j true) i (by simp only [hun]; rfl) (by
      have hlt : i < listed.size := by rw [hI.size]; exact hilt
      simp [hlt]) (fun j hj => by rw [getD_set_ne true (Ne.symm hj)]) ops.size hilt
    omega

/-- A REGION THAT DRAWS ITS ORDER -/
theorem draw_wp (hm : P.follows .mixedOrders = true) (hc : CallSound P base w0 c) (id : Nat) (ht : trDraw P nt ops.toList = some is) {st : St} (hF : FRel ι st.hp nt st.fr a) (hM : MRel ι base w0 st.hp w) (hG : GOk P ι st.hp)
    (hdraw : ∀ τ, ∃ st' τ' hs ls, runDraw c is st τ [st.hp] [] = some (st', τ', hs, ls) ∧ chkLoads hs.reverse ls = true) (Q : Exit → Act → World → Prop)
    (hQ : ∀ a' w', After P base w0 ι st.hp nt (runReg c is st) a' w' → Q .normal a' w') : (Code.region id ops true).wp P Q a w := by
  have hD := dfacts ht
  have hnone : ∀ j, (Array.replicate ops.size false).getD j false = false := by
    intro j
    simp [Array.getElem?_replicate]
    split <;> rfl
  refine wp_region_any hm (draw_all hc hD hF hdraw Q hQ ops.size _ a _ ι [] 0 st ⟨by simp, ?_, ?_, Nat.zero_le _, fun τ => rfl, hM.drew, hG, Ext.refl _ _, Evol.refl _, hF.defers, hF.size, fun _ _ => rfl, ?_⟩ ?_)
  · intro j m hj
    rw [hnone] at hj; cases hj
  · intro j y hy hey
    rw [hnone]
    simp
  · intro τ j x d stf τf hx hl
    rw [hnone] at hl; cases hl
  · exact Nat.le_trans List.countP_le_length (by simp)
end
end Go.Am


/-
  THE ABSTRACT MACHINE 'Am', twenty-third part: code, and calls.
-/
namespace Go.Am
open Go.RowKit (Below)

/-- the model's code, and the machine's of it -/
inductive Tr (P : Program) (nt : Nat) : Code → C → Prop where
  | skip : Tr P nt .skip .skip
  | label (l : Nat) : Tr P nt (.label l) .skip
  | reg {id : Nat} {ops : Array Oper} {is : List Ins} (h : allSome (trIns P nt ops.toList) ops.toList = some is) : Tr P nt (.region id ops false) (.reg is)
  | draw {id : Nat} {ops : Array Oper} {is : List Ins} (h : trDraw P nt ops.toList = some is) : Tr P nt (.region id ops true) (.draw is)
  | seq {a b : Code} {x y : C} (h : Tr P nt a x) (k : Tr P nt b y) : Tr P nt (.seq a b) (.seq x y)
  | cond {c : Operand} {o : O} {a b : Code} {x y : C} (hc : trO P c = some o) (h : Tr P nt a x) (k : Tr P nt b y) : Tr P nt (.cond c a b) (.cond o x y)
  | block {id : Nat} {a : Code} {x : C} (h : Tr P nt a x) : Tr P nt (.block id a) (.block id x)
  | loop {a : Code} {x : C} (h : Tr P nt a x) : Tr P nt (.loop a) (.loop x)
  | scope {a : Code} {x : C} (h : Tr P nt a x) : Tr P nt (.scope a) (.scope x)
  | exit (id : Nat) : Tr P nt (.exit id) (.exit id)
  | ret : Tr P nt .ret .ret
  | keep {l : List Nat} {a : Code} {x : C} (h : Tr P nt a x) : Tr P nt a (.keep l x)
  | bad (a : Code) : Tr P nt a .bad

theorem tr_of_strip {P : Program} {nt : Nat} : ∀ (x : C) (a : Code), x.strip = trCode P nt a → Tr P nt a x := by
  intro x
  induction x with
  | bad => intro a _; exact .bad a
  | keep l x ih => intro a h; exact .keep (ih a h)
  | skip => intro a h; cases a <;> simp only [C.strip, trCode] at h <;> first | exact .skip | exact .label _ | (cases h; done) | (split at h <;> cases h; done) | (split at h <;> split at h <;> cases h; done) | skip
            all_goals (rename_i d; cases d <;> simp only [trCode] at h <;> split at h <;> cases h)
  | reg ops =>
    intro a h
    cases a <;> simp only [C.strip, trCode] at h <;> (try (cases h; done)) <;> (try (split at h <;> cases h; done))
    rename_i id o d
    cases d <;> simp only [trCode] at h <;> split at h
    · rename_i is hi; cases h; exact .reg hi
    · cases h
    · cases h
    · cases h
  | draw ops =>
    intro a h
    cases a <;> simp only [C.strip, trCode] at h <;> (try (cases h; done)) <;> (try (split at h <;> cases h; done))
    rename_i id o d
    cases d <;> simp only [trCode] at h <;> split at h
    · cases h
    · cases h
    · rename_i is hi; cases h; exact .draw hi
    · cases h
  | seq x y ihx ihy =>
    intro a h
    cases a <;> simp only [C.strip, trCode] at h <;> (try (cases h; done)) <;> (try (split at h <;> cases h; done))
    · rename_i id o d
      cases d <;> simp only [trCode] at h <;> split at h <;> cases h
    · injection h with h1 h2
      exact .seq (ihx _ h1) (ihy _ h2)
  | cond o x y ihx ihy =>
    intro a h
    cases a <;> simp only [C.strip, trCode] at h <;> (try (cases h; done))
    · rename_i id o d
      cases d <;> simp only [trCode] at h <;> split at h <;> cases h
    · split at h
      · rename_i o' ho
        injection h with h0 h1 h2
        subst h0
        exact .cond ho (ihx _ h1) (ihy _ h2)
      · cases h
  | block id x ih =>
    intro a h
    cases a <;> simp only [C.strip, trCode] at h <;> (try (cases h; done)) <;> (try (split at h <;> cases h; done))
    · rename_i id o d
      cases d <;> simp only [trCode] at h <;> split at h <;> cases h
    · injection h with h0 h1
      subst h0
      exact .block (ih _ h1)
  | loop x ih =>
    intro a h
    cases a <;> simp only [C.strip, trCode] at h <;> (try (cases h; done)) <;> (try (split at h <;> cases h; done))
    · rename_i id o d
      cases d <;> simp only [trCode] at h <;> split at h <;> cases h
    · injection h with h1
      exact .loop (ih _ h1)
  | scope x ih =>
    intro a h
    cases a <;> simp only [C.strip, trCode] at h <;> (try (cases h; done)) <;> (try (split at h <;> cases h; done))
    · rename_i id o d
      cases d <;> simp only [trCode] at h <;> split at h <;> cases h
    · injection h with h1
      exact .scope (ih _ h1)
  | exit id =>
    intro a h
    cases a <;> simp only [C.strip, trCode] at h <;> (try (cases h; done)) <;> (try (split at h <;> cases h; done))
    · rename_i id o d
      cases d <;> simp only [trCode] at h <;> split at h <;> cases h
    · injection h with h1
      subst h1
      exact .exit _
  | ret =>
    intro a h
    cases a <;> simp only [C.strip, trCode] at h <;> (try (cases h; done)) <;> (try (split at h <;> cases h; done))
    · rename_i id o d
      cases d <;> simp only [trCode] at h <;> split at h <;> cases h
    · exact .ret

def cvEx : Ex → Exit
  | .normal => .normal
  | .exit id => .exit id
  | .ret => .ret

/-- what code leaves -/
def CPost (P : Program) (base : Nat) (w0 : World) (ι : Inj) (H : Heap) (nt : Nat) (run : Tape → Option (Ex × St × Tape)) (e : Exit) (a : Act) (w : World) : Prop :=
  ∃ ex st' ι' pre, (∀ τ, run (Tape.app pre τ) = some (ex, st', τ)) ∧ e = cvEx ex ∧ FRel ι' st'.hp nt st'.fr a ∧ MRel ι' base w0 st'.hp w ∧ GOk P ι' st'.hp ∧ Ext H ι ι' ∧ Evol H st'.hp

section
variable {P : Program} {w0 : World} {base nt : Nat}

theorem CPost.comp {ι ι1 : Inj} {H H1 : Heap} {run run1 : Tape → Option (Ex × St × Tape)} {pre1 : List Nat} {e : Exit} {a : Act} {w : World} (h1 : ∀ τ, run (Tape.app pre1 τ) = run1 τ) (he : Ext H ι ι1) (hv : Evol H H1)
    (h : CPost P base w0 ι1 H1 nt run1 e a w) : CPost P base w0 ι H nt run e a w := by
  obtain ⟨ex, st', ι', pre, k1, k2, k3, k4, k5, k6, k7⟩ := h
  exact ⟨ex, st', ι', pre1 ++ pre, fun τ => by rw [← Tape.app_app, h1]; exact k1 τ, k2, k3, k4, k5, he.trans k6 hv.size, hv.trans k7⟩

theorem CPost.of_after {ι : Inj} {H : Heap} {run : Tape → Option (St × Tape)} {run1 : Tape → Option (Ex × St × Tape)} {a : Act} {w : World} (h1 : ∀ τ st τ', run τ = some (st, τ') → run1 τ = some (.normal, st, τ'))
    (h : After P base w0 ι H nt run a w) : CPost P base w0 ι H nt run1 .normal a w := by
  obtain ⟨st', ι', pre, k1, k2, k3, k4, k5, k6⟩ := h
  exact ⟨.normal, st', ι', pre, fun τ => h1 _ _ _ (k1 τ), rfl, k2, k3, k4, k5, k6⟩

theorem CPost.same {ι : Inj} {H : Heap} {run : Tape → Option (Ex × St × Tape)} {ex : Ex} {st : St} {a : Act} {w : World} (h1 : ∀ τ, run τ = some (ex, st, τ)) (hH : st.hp = H) (hF : FRel ι st.hp nt st.fr a) (hM : MRel ι base w0 st.hp w) (hG : GOk P ι st.hp) :
    CPost P base w0 ι H nt run (cvEx ex) a w :=
  ⟨ex, st, ι, [], h1, rfl, hF, hM, hG, Ext.refl _ _, by rw [hH]; exact Evol.refl _⟩

/-- CODE -/
theorem exec_wp (hm : P.follows .mixedOrders = true) (c : ACall) (hc : CallSound P base w0 c) (N : Nat) {code : Code} {x : C} (ht : Tr P nt code x) : ∀ (ι : Inj) (st : St) (a : Act) (w : World),
    FRel ι st.hp nt st.fr a → MRel ι base w0 st.hp w → GOk P ι st.hp → (∀ τ, exec c N x st τ ≠ none) → code.wp P (CPost P base w0 ι st.hp nt (exec c N x st)) a w := by
  induction ht with
  | skip => intro ι st a w hF hM hG _; exact wp_skip (CPost.same (ex := .normal) (fun τ => rfl) rfl hF hM hG)
  | label l => intro ι st a w hF hM hG _; exact wp_label (CPost.same (ex := .normal) (fun τ => rfl) rfl hF hM hG)
  | exit id => intro ι st a w hF hM hG _; exact wp_exit (CPost.same (ex := .exit id) (fun τ => rfl) rfl hF hM hG)
  | ret => intro ι st a w hF hM hG _; exact wp_ret (CPost.same (ex := .ret) (fun τ => rfl) rfl hF hM hG)
  | bad a0 => intro ι st a w _ _ _ h; exact absurd rfl (h (fun _ => 0))
  | @reg id ops is h =>
    intro ι st a w hF hM hG htot
    refine region_wp c hc id ops h hF hM hG ?_ _ fun a' w' hA => CPost.of_after (fun τ st' τ' hr => ?_) hA
    · intro τ hn
      exact htot τ (by simp only [exec, hn])
    · simp only [exec, hr]
  | @draw id ops is h =>
    intro ι st a w hF hM hG htot
    have hdraw : ∀ τ, ∃ st' τ' hs ls, runDraw c is st τ [st.hp] [] = some (st', τ', hs, ls) ∧ chkLoads hs.reverse ls = true := by
      intro τ
      have := htot τ
      simp only [exec] at this
      cases hr : runDraw c is st τ [st.hp] [] with
      | none => rw [hr] at this; exact absurd rfl this
      | some r =>
        obtain ⟨st', τ', hs, ls⟩ := r
        rw [hr] at this
        cases hk : chkLoads hs.reverse ls with
        | true => exact ⟨st', τ', hs, ls, rfl, hk⟩
        | false => simp only [hk, cond_false] at this; exact absurd rfl this
    refine draw_wp hm hc id h hF hM hG hdraw _ fun a' w' hA => CPost.of_after (fun τ st' τ' hr => ?_) hA
    obtain ⟨st2, τ2, hs, ls, h1, h2⟩ := hdraw τ
    have := (runDraw_spec h1).1
    rw [hr] at this
    cases this
    simp only [exec, h1, h2, cond_true]
  | @seq ca cb x y _ _ iha ihb =>
    intro ι st a w hF hM hG htot
    refine wp_seq (wp_mono (iha ι st a w hF hM hG fun τ hn => htot τ (by simp only [exec, hn])) ?_)
    rintro e a1 w1 ⟨ex, st1, ι1, pre1, k1, rfl, k3, k4, k5, k6, k7⟩
    cases ex with
    | normal =>
      have hr : ∀ τ, exec c N (.seq x y) st (Tape.app pre1 τ) = exec c N y st1 τ := fun τ => by simp only [exec, k1]
      refine wp_mono (ihb ι1 st1 a1 w1 k3 k4 k5 fun τ hn => htot (Tape.app pre1 τ) (by rw [hr, hn])) fun e a2 w2 h => h.comp hr k6 k7
    | exit id => exact ⟨.exit id, st1, ι1, pre1, fun τ => by simp only [exec, k1], rfl, k3, k4, k5, k6, k7⟩
    | ret => exact ⟨.ret, st1, ι1, pre1, fun τ => by simp only [exec, k1], rfl, k3, k4, k5, k6, k7⟩
  | @cond cc o ca cb x y hcc _ _ iha ihb =>
    intro ι st a w hF hM hG htot
    have h0 := htot (fun _ => 0)
    simp only [exec] at h0
    cases ho : evO st.fr o with
    | none => rw [ho] at h0; exact absurd rfl h0
    | some v =>
      rw [ho] at h0
      have hv := (evO_sound hF hG hcc ho).1
      cases v with
      | bool b =>
        cases b with
        | true =>
          refine wp_cond_true hv (wp_mono (iha ι st a w hF hM hG fun τ hn => htot τ (by simp only [exec, ho, hn])) fun e a' w' h => h.comp (pre1 := []) (fun τ => ?_) (Ext.refl _ _) (Evol.refl _))
          show exec c N (.cond o x y) st τ = _
          simp only [exec, ho]
        | false =>
          refine wp_cond_false hv (wp_mono (ihb ι st a w hF hM hG fun τ hn => htot τ (by simp only [exec, ho, hn])) fun e a' w' h => h.comp (pre1 := []) (fun τ => ?_) (Ext.refl _ _) (Evol.refl _))
          show exec c N (.cond o x y) st τ = _
          simp only [exec, ho]
      | _ => exact absurd rfl h0
  | @block id ca x _ ih =>
    intro ι st a w hF hM hG htot
    refine wp_block (wp_mono (ih ι st a w hF hM hG fun τ hn => htot τ (by simp only [exec, hn])) ?_)
    rintro e a1 w1 ⟨ex, st1, ι1, pre1, k1, rfl, k3, k4, k5, k6, k7⟩
    cases ex with
    | normal => exact ⟨.normal, st1, ι1, pre1, fun τ => by simp only [exec, k1], rfl, k3, k4, k5, k6, k7⟩
    | ret => exact ⟨.ret, st1, ι1, pre1, fun τ => by simp only [exec, k1], rfl, k3, k4, k5, k6, k7⟩
    | exit id' =>
      simp only [cvEx, Exit.inBlock]
      by_cases e : id' = id
      · rw [if_pos e]
        refine ⟨.normal, st1, ι1, pre1, fun τ => ?_, rfl, k3, k4, k5, k6, k7⟩
        simp only [exec, k1]
        subst e
        simp
      · rw [if_neg e]
        refine ⟨.exit id', st1, ι1, pre1, fun τ => ?_, rfl, k3, k4, k5, k6, k7⟩
        simp only [exec, k1]
        have : Nat.beq id' id = false := by
          cases hb : Nat.beq id' id with
          | false => rfl
          | true => exact absurd (Nat.eq_of_beq_eq_true hb) e
        rw [this]
        rfl
  | @loop ca x _ ih =>
    intro ι st a w hF hM hG htot
    have key : ∀ (n : Nat) (Q : Exit → Act → World → Prop) (ι : Inj) (st : St) (a : Act) (w : World), FRel ι st.hp nt st.fr a → MRel ι base w0 st.hp w → GOk P ι st.hp → (∀ τ, loopF (exec c N x) n st τ ≠ none) →
        (∀ e a' w', CPost P base w0 ι st.hp nt (loopF (exec c N x) n st) e a' w' → Q e a' w') → Code.rounds P ca Q n a w := by
      intro n
      induction n with
      | zero => intro Q ι st a w _ _ _ htot _; exact absurd rfl (htot (fun _ => 0))
      | succ n ihn =>
        intro Q ι st a w hF hM hG htot hQ
        rw [rounds_succ]
        refine wp_mono (ih ι st a w hF hM hG fun τ hn => htot τ (by simp only [loopF, hn])) ?_
        rintro e a1 w1 ⟨ex, st1, ι1, pre1, k1, rfl, k3, k4, k5, k6, k7⟩
        cases ex with
        | normal =>
          have hr : ∀ τ, loopF (exec c N x) (n + 1) st (Tape.app pre1 τ) = loopF (exec c N x) n st1 τ := fun τ => by simp only [loopF, k1]
          exact ihn Q ι1 st1 a1 w1 k3 k4 k5 (fun τ hn => htot (Tape.app pre1 τ) (by rw [hr, hn])) fun e a2 w2 h => hQ e a2 w2 (h.comp hr k6 k7)
        | exit id => exact hQ _ _ _ ⟨.exit id, st1, ι1, pre1, fun τ => by simp only [loopF, k1], rfl, k3, k4, k5, k6, k7⟩
        | ret => exact hQ _ _ _ ⟨.ret, st1, ι1, pre1, fun τ => by simp only [loopF, k1], rfl, k3, k4, k5, k6, k7⟩
    refine wp_loop_rounds N (key N _ ι st a w hF hM hG (fun τ hn => htot τ (by simp only [exec, hn])) fun e a' w' h => ?_)
    exact h.comp (pre1 := []) (fun τ => by show exec c N (.loop x) st τ = _; simp only [exec]) (Ext.refl _ _) (Evol.refl _)
  | @scope ca x _ ih =>
    intro ι st a w hF hM hG htot
    refine wp_scope_straight (wp_mono (ih ι st a w hF hM hG fun τ hn => htot τ (by simp only [exec, hn])) ?_)
    rintro e a1 w1 ⟨ex, st1, ι1, pre1, k1, rfl, k3, k4, k5, k6, k7⟩
    have hp : CPost P base w0 ι st.hp nt (exec c N (.scope x) st) (cvEx ex) a1 w1 := ⟨ex, st1, ι1, pre1, fun τ => by simp only [exec, k1], rfl, k3, k4, k5, k6, k7⟩
    cases ex <;> exact hp
  | @keep l ca x _ ih =>
    intro ι st a w hF hM hG htot
    have hF' : FRel ι st.hp nt (keepT l st.fr .leaf) a := ⟨hF.defers, hF.size, fun t v h => by
      rw [keepT_get] at h
      split at h
      · exact hF.get t v h
      · cases h⟩
    refine wp_mono (ih ι ⟨keepT l st.fr .leaf, st.hp⟩ a w hF' hM hG fun τ hn => htot τ (by simp only [exec, hn])) fun e a' w' h => h.comp (pre1 := []) (fun τ => ?_) (Ext.refl _ _) (Evol.refl _)
    show exec c N (.keep l x) st τ = _
    simp only [exec]
end
end Go.Am


/-
  THE ABSTRACT MACHINE 'Am', twenty-fourth part: calls.
-/
namespace Go.Am
open Go.RowKit (Below)

/-- one result, read -/
def resM (tmps : Array Value) : ResultVar → Sem Value
  | .tmp t => pure (tmps.getD t undef)
  | .cell a t => do loadVar t (← asAddr (tmps.getD a undef))

theorem results_eq (fn : Func) (tmps : Array Value) : Go.results fn tmps = (do let vs ← fn.results.mapM (resM tmps); pure (if h : vs.size = 1 then vs[0] else .tuple vs)) := by
  unfold Go.results
  congr 1

section
variable {P : Program} {w w0 : World} {base nt : Nat} {ι : Inj}

theorem res_sound {st : St} {a : Act} (hF : FRel ι st.hp nt st.fr a) (hM : MRel ι base w0 st.hp w) (r : ResultVar) (v : V) (hk : resOk P r = true) (hv : resOf st (trRes P r) = some v) :
    (resM a.tmps r).run P w = .ok (cv ι v) w ∧ VOk st.hp v := by
  cases r with
  | tmp t =>
    simp only [trRes, resOf] at hv
    obtain ⟨k1, k2⟩ := hF.get t v hv
    refine ⟨?_, k2⟩
    simp [resM, k1]
  | cell x t =>
    simp only [trRes, resOf] at hv
    split at hv
    · rename_i u hu
      obtain ⟨k1, _⟩ := hF.get x u hu
      obtain ⟨d, hd⟩ := Option.isSome_iff_exists.1 (show (P.underlying t).isSome = true from hk)
      have hop : trOp P (.load t (.tmp x)) = some (.l (.load (aggN P t)), [.tmp x]) := by
        simp [trOp, kn, hd]
      have e2 : a.eval (.tmp x) = cv ι u := by simp [Act.eval, k1]
      have hx : [Operand.tmp x].map a.eval = cvl ι [u] := by
        simp [e2, cvl]
      obtain ⟨m1, m2⟩ := lop_sound (P := P) (ρ := a.eval) hM (.load t (.tmp x)) _ _ [u] v none 0 "" #[] none hop hx hv
      refine ⟨?_, m2⟩
      simp only [execOp, Instr.loadAt, e2] at m1
      have e1 : a.tmps.getD x undef = cv ι u := by simp [k1]
      unfold resM
      simp only [Sem.run_bind]
      rw [e1]
      cases u with
      | ptr id off =>
        simp only [cv, asAddr, Instr.sureAddr, Sem.run_bind, Sem.run_pure, Result.andThen_ok] at m1 ⊢
        cases hr : (loadVar t { block := (ι id).1, off := (ι id).2 + off }).run P w with
        | ok v' w' =>
          rw [hr] at m1
          simpa using m1
        | halt x' w' =>
          rw [hr] at m1
          simp [Result.andThen] at m1
      | _ => simp only [evalL, aggN, lLoad] at hv; split at hv <;> simp [lLoad1, lLoadN] at hv
    · cases hv

theorem resAll_sound {st : St} {a : Act} (hF : FRel ι st.hp nt st.fr a) (hM : MRel ι base w0 st.hp w) : ∀ (rs : List ResultVar) (vs : List V), rs.all (resOk P) = true → resAll st (rs.map (trRes P)) = some vs →
    (rs.mapM (resM a.tmps)).run P w = .ok (cvl ι vs) w ∧ VsOk st.hp vs := by
  intro rs
  induction rs with
  | nil =>
    intro vs _ h
    simp only [List.map_nil, resAll, Option.some.injEq] at h
    subst h
    exact ⟨rfl, trivial⟩
  | cons r rs ih =>
    intro vs hk h
    simp only [List.map_cons, resAll] at h
    simp only [List.all_cons, Bool.and_eq_true] at hk
    split at h
    · rename_i v hv
      split at h
      · rename_i vs' hvs
        cases h
        obtain ⟨h1, h2⟩ := ih vs' hk.2 hvs
        obtain ⟨h3, h4⟩ := res_sound hF hM r v hk.1 hv
        refine ⟨?_, h4, h2⟩
        rw [List.mapM_cons]
        simp only [Sem.run_bind, h3, Result.andThen_ok, h1, Sem.run_pure, cvl]
      · cases h
    · cases h

theorem results_sound {fn : Func} {st : St} {a : Act} (hF : FRel ι st.hp nt st.fr a) (hM : MRel ι base w0 st.hp w) {v : V} (hk : fn.results.toList.all (resOk P) = true) (h : Am.results st (fn.results.toList.map (trRes P)) = some v) :
    (Go.results fn a.tmps).run P w = .ok (cv ι v) w ∧ VOk st.hp v := by
  rw [results_eq]
  have hm : ∀ vs, resAll st (fn.results.toList.map (trRes P)) = some vs → (fn.results.mapM (resM a.tmps)).run P w = .ok (cvl ι vs).toArray w ∧ VsOk st.hp vs := by
    intro vs hvs
    obtain ⟨h1, h2⟩ := resAll_sound hF hM _ vs hk hvs
    refine ⟨?_, h2⟩
    have : fn.results.mapM (resM a.tmps) = List.toArray <$> fn.results.toList.mapM (resM a.tmps) := by
      rw [← List.mapM_toArray]
    rw [this, Sem.run_map, h1]
    rfl
  unfold Am.results at h
  split at h
  · rename_i v' hvs
    cases h
    obtain ⟨h1, h2⟩ := hm _ hvs
    refine ⟨?_, h2.1⟩
    simp only [Sem.run_bind, h1, Result.andThen_ok, Sem.run_pure, cvl]
    rfl
  · rename_i vs hne hvs
    cases h
    obtain ⟨h1, h2⟩ := hm _ hvs
    refine ⟨?_, h2⟩
    simp only [Sem.run_bind, h1, Result.andThen_ok, Sem.run_pure]
    rw [dif_neg]
    · rfl
    · intro hs
      cases vs with
      | nil => simp [cvl] at hs
      | cons x xs =>
        cases xs with
        | nil => exact hne x rfl
        | cons y ys => simp [cvl] at hs
  · cases h

theorem frameOf_get : ∀ (vs : List V) (i : Nat) (fr : T V) (t : Nat) (v : V), (frameOf vs i fr).get t = some v → (i ≤ t ∧ vs[t - i]? = some v) ∨ fr.get t = some v := by
  intro vs
  induction vs with
  | nil => intro i fr t v h; exact .inr h
  | cons x vs ih =>
    intro i fr t v h
    simp only [frameOf] at h
    rcases ih (i + 1) _ t v h with ⟨h1, h2⟩ | h1
    · refine .inl ⟨by omega, ?_⟩
      rw [show t - i = (t - (i + 1)) + 1 by omega]
      exact h2
    · rw [T.get_set] at h1
      split at h1
      · rename_i e
        subst e
        exact .inl ⟨Nat.le_refl _, by simpa using h1⟩
      · exact .inr h1

/-- a function of the program's, as the machine has it -/
def FnOk (P : Program) (f : FuncId) (fn : Fun) : Prop :=
  ∃ g code, P.funcs[f]? = some g ∧ g.body = some code ∧ plainCall P f = true ∧ Tr P g.ntmps code fn.body ∧ fn.res = g.results.toList.map (trRes P) ∧ g.results.toList.all (resOk P) = true

/-- a function that is known by what it answers -/
def PrimOk (P : Program) (base : Nat) (w0 : World) (f : FuncId) (p : List V → Heap → Tape → Option (V × Heap × Tape)) : Prop :=
  ∀ vs H ι w, MRel ι base w0 H w → GOk P ι H → VsOk H vs → (∀ τ, p vs H τ ≠ none) →
    plainCall P f = true ∧ Calls P f (cvl ι vs).toArray w fun e w' =>
      ∃ v H' ι' pre, e = .returned (cv ι' v) ∧ (∀ τ, p vs H (Tape.app pre τ) = some (v, H', τ)) ∧ MRel ι' base w0 H' w' ∧ Ext H ι ι' ∧ Evol H H' ∧ VOk H' v

def DefOk (P : Program) (base : Nat) (w0 : World) (f : FuncId) : Def → Prop
  | .fn fn => FnOk P f fn
  | .prim p => PrimOk P base w0 f p

/-- CALLS -/
theorem call_sound (hm : P.follows .mixedOrders = true) {prog : Nat → Option Def} (hp : ∀ f d, prog f = some d → DefOk P base w0 f d) (N : Nat) : ∀ k, CallSound P base w0 (call prog N k) := by
  intro k
  induction k with
  | zero => intro f vs H ι w _ _ _ h; exact absurd rfl (h (fun _ => 0))
  | succ k ih =>
    intro f vs H ι w hM hG hok h
    have hcall : ∀ τ, call prog N (k + 1) f vs H τ = callDef (call prog N k) N (prog f) vs H τ := fun τ => rfl
    simp only [hcall] at h ⊢
    cases hd : prog f with
    | none => rw [hd] at h; exact absurd rfl (h (fun _ => 0))
    | some d =>
      rw [hd] at h
      have hok' := hp f d hd
      cases d with
      | prim p => exact hok' vs H ι w hM hG hok h
      | fn fn =>
        obtain ⟨g, code, hg, hb, hpl, htr, hres, hrk⟩ := hok'
        refine ⟨hpl, ?_⟩
        have hlen : Nat.beq vs.length fn.nparams = true := by
          cases hb : Nat.beq vs.length fn.nparams with
          | true => rfl
          | false =>
            have := h (fun _ => 0)
            simp only [callDef, hb, cond_false] at this
            exact absurd rfl this
        simp only [callDef, hlen, cond_true] at h ⊢
        have hF : FRel ι H g.ntmps (frameOf vs 0 .leaf) { tmps := (cvl ι vs).toArray ++ Array.replicate (g.ntmps - (cvl ι vs).toArray.size) undef, defers := [] } := by
          refine ⟨rfl, ?_, fun t v ht => ?_⟩
          · simp only [Array.size_append, Array.size_replicate]
            omega
          · rcases frameOf_get vs 0 .leaf t v ht with ⟨_, h1⟩ | h1
            · rw [Nat.sub_zero] at h1
              have hlt : t < vs.length := (List.getElem?_eq_some_iff.1 h1).1
              refine ⟨?_, (VsOk_iff H vs).1 hok v (List.mem_of_getElem? h1)⟩
              rw [Array.getElem?_append_left (by simp [cvl_length, hlt])]
              have := cvl_get ι vs t
              rw [h1] at this
              simpa using this
            · rw [T.get_leaf] at h1; cases h1
        refine calls_of_wp hg hb (wp_mono (exec_wp hm (call prog N k) ih N htr ι ⟨frameOf vs 0 .leaf, H⟩ _ w hF hM hG ?_) ?_)
        · intro τ hn
          exact h τ (by rw [hn])
        · rintro e a' w' ⟨ex, st', ι', pre, k1, rfl, k3, k4, k5, k6, k7⟩
          have hx := h (Tape.app pre (fun _ => 0))
          rw [k1] at hx
          have fin : ∀ v, Am.results st' fn.res = some v → (Go.results g a'.tmps).run P w' = .ok (cv ι' v) w' ∧ VOk st'.hp v := by
            intro v hv
            rw [hres] at hv
            exact results_sound k3 k4 hrk hv
          cases ex with
          | exit id => exact absurd rfl hx
          | normal =>
            simp only at hx
            cases hr : Am.results st' fn.res with
            | none => rw [hr] at hx; exact absurd rfl hx
            | some v =>
              obtain ⟨m1, m2⟩ := fin v hr
              exact ⟨k3.defers, cv ι' v, m1, v, st'.hp, ι', pre, rfl, fun τ => by simp only [k1, hr], k4, k6, k7, m2⟩
          | ret =>
            simp only at hx
            cases hr : Am.results st' fn.res with
            | none => rw [hr] at hx; exact absurd rfl hx
            | some v =>
              obtain ⟨m1, m2⟩ := fin v hr
              exact ⟨k3.defers, cv ι' v, m1, v, st'.hp, ι', pre, rfl, fun τ => by simp only [k1, hr], k4, k6, k7, m2⟩
end
end Go.Am


/-
  THE ABSTRACT MACHINE 'Am', twenty-fifth part: how a call begins.
-/
namespace Go.Am
open Go.RowKit (Below)

theorem mkHeap_size : ∀ (l : List (Option (List V))) (H : Heap), (mkHeap l H).size = H.size + l.length := by
  intro l
  induction l with
  | nil => intro H; rfl
  | cons x l ih =>
    intro H
    cases x <;> simp only [mkHeap, ih, List.length_cons] <;> omega

theorem mkHeap_blk : ∀ (l : List (Option (List V))) (H : Heap) (id : Nat) (b : B), (mkHeap l H).blk.get id = some b → H.blk.get id = some b ∨ ∃ j, id = H.size + j ∧ ((∃ cs, l[j]? = some (some cs) ∧ b = .mem cs cs.length id 0 false false 0) ∨ (l[j]? = some none ∧ b = .gone)) := by
  intro l
  induction l with
  | nil => intro H id b h; exact .inl h
  | cons x l ih =>
    intro H id b h
    cases x with
    | none =>
      simp only [mkHeap] at h
      rcases ih _ id b h with h | ⟨j, hj, h⟩
      · rw [T.get_set] at h
        split at h
        · rename_i e
          exact .inr ⟨0, by omega, .inr ⟨rfl, by cases h; rfl⟩⟩
        · exact .inl h
      · exact .inr ⟨j + 1, by simp only at hj; omega, h⟩
    | some cs =>
      simp only [mkHeap] at h
      rcases ih _ id b h with h | ⟨j, hj, h⟩
      · rw [T.get_set] at h
        split at h
        · rename_i e
          exact .inr ⟨0, by omega, .inl ⟨cs, rfl, by cases h; rw [e]⟩⟩
        · exact .inl h
      · exact .inr ⟨j + 1, by simp only at hj; omega, h⟩

theorem mkHeap_fam_old : ∀ (l : List (Option (List V))) (H : Heap) (f : Nat), f < H.size → (mkHeap l H).fams.get f = H.fams.get f := by
  intro l
  induction l with
  | nil => intro H f _; rfl
  | cons x l ih =>
    intro H f hf
    cases x with
    | none => simp only [mkHeap]; rw [ih _ f (by simp only; omega)]
    | some cs => simp only [mkHeap]; rw [ih _ f (by simp only; omega), T.get_set_ne _ _ (by omega)]

theorem mkHeap_fam_mem : ∀ (l : List (Option (List V))) (H : Heap) (j : Nat) (cs : List V), l[j]? = some (some cs) → (mkHeap l H).fams.get (H.size + j) = some (0, 0) := by
  intro l
  induction l with
  | nil => intro H j cs h; simp at h
  | cons x l ih =>
    intro H j cs h
    cases j with
    | zero =>
      simp only [List.getElem?_cons_zero, Option.some.injEq] at h
      subst h
      simp only [mkHeap]
      rw [mkHeap_fam_old _ _ _ (by simp only; omega)]
      exact T.get_set_same _ _ _
    | succ j =>
      have h' : l[j]? = some (some cs) := by simpa using h
      cases x with
      | none =>
        simp only [mkHeap]
        have := ih { size := H.size + 1, blk := H.blk.set H.size .gone, fams := H.fams } j cs h'
        rw [show H.size + (j + 1) = H.size + 1 + j by omega]
        exact this
      | some c =>
        simp only [mkHeap]
        have := ih { size := H.size + 1, blk := H.blk.set H.size (.mem c c.length H.size 0 false false 0), fams := H.fams.set H.size (0, 0) } j cs h'
        rw [show H.size + (j + 1) = H.size + 1 + j by omega]
        exact this

theorem mkHeap_fam : ∀ (l : List (Option (List V))) (H : Heap) (f : Nat) (x : Nat × Nat), (mkHeap l H).fams.get f = some x → H.fams.get f = some x ∨ (f < H.size + l.length ∧ x = (0, 0)) := by
  intro l
  induction l with
  | nil => intro H f x h; exact .inl h
  | cons y l ih =>
    intro H f x h
    cases y with
    | none =>
      simp only [mkHeap] at h
      rcases ih _ f x h with h | ⟨h1, h2⟩
      · exact .inl h
      · exact .inr ⟨by simp only [List.length_cons] at h1 ⊢; omega, h2⟩
    | some cs =>
      simp only [mkHeap] at h
      rcases ih _ f x h with h | ⟨h1, h2⟩
      · rw [T.get_set] at h
        split at h
        · rename_i e
          cases h
          exact .inr ⟨by simp only [List.length_cons]; omega, rfl⟩
        · exact .inl h
      · exact .inr ⟨by simp only [List.length_cons] at h1 ⊢; omega, h2⟩

def H0 : Heap := ⟨0, .leaf, .leaf⟩
/-- the memory that a call finds: what is read of it alone -/
def start (l : List (Option (List V))) : Heap := mkHeap l H0

theorem start_blk {l : List (Option (List V))} {id : Nat} {b : B} (h : (start l).blk.get id = some b) : (∃ cs, l[id]? = some (some cs) ∧ b = .mem cs cs.length id 0 false false 0) ∨ (l[id]? = some none ∧ b = .gone) := by
  rcases mkHeap_blk l H0 id b h with h | ⟨j, hj, h⟩
  · exact absurd h (by simp [H0, T.get])
  · have : j = id := by simp only [H0] at hj; omega
    subst this
    exact h

/-- THE START -/
theorem MRel.start (W : World) (ι : Inj) (l : List (Option (List V))) (hok : ∀ id cs, l[id]? = some (some cs) → VsOk (start l) cs ∧ BOk ι W.heap.size W id cs cs.length false) : MRel ι W.heap.size W (start l) W := by
  have hmem : ∀ {id cs room fam ver wr pl st}, (Am.start l).blk.get id = some (.mem cs room fam ver wr pl st) → l[id]? = some (some cs) ∧ room = cs.length ∧ fam = id ∧ ver = 0 ∧ wr = false := by
    intro id cs room fam ver wr pl st h
    rcases start_blk h with ⟨cs', h1, h2⟩ | ⟨_, h2⟩
    · cases h2; exact ⟨h1, rfl, rfl, rfl, rfl⟩
    · cases h2
  have hsize : (Am.start l).size = l.length := by
    unfold Am.start
    rw [mkHeap_size]
    simp [H0]
  refine ⟨Below.refl _ _, Nat.le_refl _, ?_, ?_, ?_, ?_, ?_, ?_, ?_, ?_, ?_, ?_⟩
  · intro id b h
    rw [hsize]
    rcases start_blk h with ⟨cs, h1, _⟩ | ⟨h1, _⟩ <;> exact (List.getElem?_eq_some_iff.1 h1).1
  · intro id cs room fam ver wr pl st h
    obtain ⟨h1, rfl, rfl, rfl, rfl⟩ := hmem h
    refine ⟨by rw [hsize]; exact (List.getElem?_eq_some_iff.1 h1).1, 0, 0, ?_, Nat.le_refl _⟩
    have := mkHeap_fam_mem l H0 fam cs h1
    rw [show H0.size + fam = fam from Nat.zero_add _] at this
    exact this
  · intro id cs room fam ver wr pl st h
    obtain ⟨h1, rfl, rfl, rfl, rfl⟩ := hmem h
    exact ⟨Nat.le_refl _, (hok fam cs h1).1⟩
  · intro id cs room fam ver wr pl st fr la h _ _
    obtain ⟨h1, rfl, rfl, rfl, rfl⟩ := hmem h
    exact (hok fam cs h1).2
  · intro i cs room fam ver pl st fr la j cs' room' fam' ver' wr' pl' st' fr' la' h
    obtain ⟨_, _, _, _, h5⟩ := hmem h
    cases h5
  · intro i cs room fam ver wr pl st j cs' room' wr' pl' st' h1 h2
    obtain ⟨_, _, h3, _⟩ := hmem h1
    obtain ⟨_, _, h4, _⟩ := hmem h2
    rw [← h3, ← h4]
  · intro id s pos h
    rcases start_blk h with ⟨cs, _, h2⟩ | ⟨_, h2⟩ <;> cases h2
  · intro f x h
    rcases mkHeap_fam l H0 f x h with h | ⟨h, _⟩
    · exact absurd h (by simp [H0, T.get])
    · rw [hsize]
      simpa [H0] using h
  · intro i cs room fam ver wr pl st fr la j cs' room' ver' wr' pl' st' h1 _ _ h4 _ _ _
    obtain ⟨a1, _, h3, _⟩ := hmem h1
    obtain ⟨a2, _, h4, _⟩ := hmem h4
    have e : i = j := by rw [← h3, ← h4]
    subst e
    rw [a1] at a2
    cases a2
    exact Nat.le_refl _
  · intro i s p j s' p' h
    rcases start_blk h with ⟨cs, _, h2⟩ | ⟨_, h2⟩ <;> cases h2

theorem start_size (l : List (Option (List V))) : (start l).size = l.length := by
  unfold start
  rw [mkHeap_size]
  simp [H0]

/-- A CALL FROM THE START: what the machine answers, on every tape, the model answers. -/
theorem call_start {P : Program} (hm : P.follows .mixedOrders = true) {prog : Nat → Option Def} {W : World} (hp : ∀ f d, prog f = some d → DefOk P W.heap.size W f d) (N k : Nat) (f : FuncId) (vs : List V) (l : List (Option (List V))) (ι : Inj)
    (hok : ∀ id cs, l[id]? = some (some cs) → VsOk (start l) cs ∧ BOk ι W.heap.size W id cs cs.length false) (hg : ∀ g, g < P.globals.size → ι g = (g, 0)) (hgl : P.globals.size ≤ l.length) (hvs : VsOk (start l) vs)
    (R : V → Heap → Prop) (h : ∀ τ, ∃ v H' τ', call prog N k f vs (start l) τ = some (v, H', τ') ∧ R v H') :
    Calls P f (cvl ι vs).toArray W fun e W' => ∃ v H' ι', e = .returned (cv ι' v) ∧ R v H' ∧ MRel ι' W.heap.size W H' W' ∧ VOk H' v := by
  have hM := MRel.start W ι l hok
  have hs := call_sound hm hp N k f vs (start l) ι W hM ⟨hg, by rw [start_size]; exact hgl⟩ hvs (fun τ hn => by
    obtain ⟨v, H', τ', h1, _⟩ := h τ
    rw [h1] at hn; cases hn)
  refine hs.2.mono fun e W' ⟨v, H', ι', pre, h1, h2, h3, _, _, h6⟩ => ⟨v, H', ι', h1, ?_, h3, h6⟩
  obtain ⟨v2, H2, τ2, k1, k2⟩ := h (Tape.app pre (fun _ => 0))
  rw [h2] at k1
  cases k1
  exact k2

def isTrue : Option (V × Heap × Tape) → Bool
  | some (.bool true, _, _) => true
  | _ => false

/-- THE SAME OF ONE THAT ANSWERS TRUE -/
theorem call_true {P : Program} (hm : P.follows .mixedOrders = true) {prog : Nat → Option Def} {W : World} (hp : ∀ f d, prog f = some d → DefOk P W.heap.size W f d) (N k : Nat) (f : FuncId) (vs : List V) (l : List (Option (List V))) (ι : Inj)
    (hok : ∀ id cs, l[id]? = some (some cs) → VsOk (start l) cs ∧ BOk ι W.heap.size W id cs cs.length false) (hg : ∀ g, g < P.globals.size → ι g = (g, 0)) (hgl : P.globals.size ≤ l.length) (hvs : VsOk (start l) vs)
    (h : ∀ τ, isTrue (call prog N k f vs (start l) τ) = true) :
    Calls P f (cvl ι vs).toArray W fun e W' => e = .returned (.bool true) ∧ Below W.heap.size W W' := by
  refine (call_start hm hp N k f vs l ι hok hg hgl hvs (fun v _ => v = .bool true) fun τ => ?_).mono fun e W' ⟨v, H', ι', h1, h2, h3, _⟩ => ?_
  · have := h τ
    unfold isTrue at this
    split at this
    · rename_i H' τ' hr
      exact ⟨_, _, _, hr, rfl⟩
    · cases this
  · subst h2
    exact ⟨h1, h3.below⟩
end Go.Am


/-
  THE ABSTRACT MACHINE 'Am', twenty-sixth part: tables that the text lays; what a law leaves.
-/
namespace Go.Am
open Go.RowKit (Below)

/-- plain data, cell by cell -/
def flatV {H : Type} : Nat → DataW H → Option (List V)
  | 0, _ => none
  | n + 1, d => match d with
    | .lit (.int k z) => some [.int k z]
    | .agg ps => match allSome (flatV n) ps with
      | some ls => some ls.flatten
      | none => none
    | _ => none

/-- parts that lie one behind the other -/
def contig : List (Nat × Nat) → Nat → Nat → Bool
  | [], o, n => o == n
  | (p, s) :: l, o, n => p == o && contig l (o + s) n

/-- a type of integers alone, laid without gaps -/
def tyOk (P : Program) : Nat → TypeId → Bool
  | 0, _ => false
  | n + 1, t => match P.underlying t with
    | some (.int _) => true
    | some (.struct fs) => contig (fs.toList.map fun f => (f.offset, P.cellsOf f.type)) 0 (P.cellsOf t) && fs.toList.all fun f => tyOk P n f.type
    | some (.array m e) => contig ((List.range m).map fun i => (i * P.cellsOf e, P.cellsOf e)) 0 (P.cellsOf t) && tyOk P n e
    | _ => false

section
variable {H : Type} {enc : TypeId × Value → H} {P : Program} {w : World} {base : Nat} {sp : Nat → Bool} {held : Bool}

theorem flat_parts {α : Type} {fuel m n : Nat} {cs : List Value} (ι : Inj) (ty : α → TypeId) (off sz : α → Nat)
    (ih : ∀ (t : TypeId) (cs : List Value) (d : DataW H) (p : List MemPlace) (l : List V), DataW.trod enc P w base sp held fuel t cs = some (d, p) → tyOk P n t = true → flatV m d = some l → cvl ι l = cs) :
    ∀ (as : List α) (xs : List (DataW H × List MemPlace)) (ls : List (List V)) (o : Nat), as.mapM (fun a => DataW.trod enc P w base sp held fuel (ty a) ((cs.drop (off a)).take (sz a))) = some xs → as.all (fun a => tyOk P n (ty a)) = true →
      allSome (flatV m) (xs.map (·.1)) = some ls → contig (as.map fun a => (off a, sz a)) o cs.length = true → cvl ι ls.flatten = cs.drop o := by
  intro as
  induction as with
  | nil =>
    intro xs ls o h _ h3 h4
    simp only [List.mapM_nil, Option.pure_def, Option.some.injEq] at h
    subst h
    simp only [List.map_nil, allSome, Option.some.injEq] at h3
    subst h3
    simp only [List.map_nil, contig, beq_iff_eq] at h4
    subst h4
    simp [cvl]
  | cons a as iha =>
    intro xs ls o h h2 h3 h4
    simp only [List.mapM_cons, Option.bind_eq_bind, Option.bind_eq_some_iff, Option.pure_def, Option.some.injEq] at h
    obtain ⟨x, hx, xs', hxs', rfl⟩ := h
    simp only [List.all_cons, Bool.and_eq_true] at h2
    simp only [List.map_cons, allSome] at h3
    split at h3
    · rename_i l0 hl0
      split at h3
      · rename_i ls' hls'
        cases h3
        simp only [List.map_cons, contig, Bool.and_eq_true, beq_iff_eq] at h4
        obtain ⟨h5, h6⟩ := h4
        have e1 := ih (ty a) _ x.1 x.2 l0 hx h2.1 hl0
        have e2 := iha xs' ls' (o + sz a) hxs' h2.2 hls' h6
        rw [List.flatten_cons, cvl_append, e1, e2, h5]
        rw [← List.drop_drop]
        exact List.take_append_drop _ _
      · cases h3
    · cases h3

theorem trod_flat (ι : Inj) : ∀ (fuel n m : Nat) (t : TypeId) (cs : List Value) (d : DataW H) (p : List MemPlace) (l : List V), DataW.trod enc P w base sp held fuel t cs = some (d, p) → tyOk P n t = true → flatV m d = some l → cvl ι l = cs := by
  intro fuel
  induction fuel with
  | zero => intro n m t cs d p l h; simp [DataW.trod] at h
  | succ fuel ih =>
    intro n m t cs d p l h ht hl
    cases n with
    | zero => simp [tyOk] at ht
    | succ n =>
      simp only [tyOk] at ht
      split at ht
      · rename_i k hk
        obtain ⟨z, rfl, hx, _⟩ := DataW.trod_int hk h
        cases hx
        cases m with
        | zero => simp [flatV] at hl
        | succ m =>
          simp only [flatV, Option.some.injEq] at hl
          subst hl
          rfl
      · rename_i fs hfs
        simp only [Bool.and_eq_true] at ht
        simp only [DataW.trod, hfs] at h
        split at h
        · rename_i hlen
          obtain ⟨xs, hm, hx⟩ := Option.map_eq_some_iff.1 h
          cases hx
          cases m with
          | zero => simp [flatV] at hl
          | succ m =>
            simp only [flatV] at hl
            split at hl
            · rename_i ls hls
              cases hl
              have := flat_parts (cs := cs) ι (fun f : Field => f.type) (fun f => f.offset) (fun f => P.cellsOf f.type) (fun t cs d p l => ih n m t cs d p l) fs.toList xs ls 0 hm ht.2 hls (by rw [hlen]; exact ht.1)
              simpa using this
            · cases hl
        · cases h
      · rename_i k e hk
        simp only [Bool.and_eq_true] at ht
        simp only [DataW.trod, hk] at h
        split at h
        · rename_i hlen
          obtain ⟨xs, hm, hx⟩ := Option.map_eq_some_iff.1 h
          cases hx
          cases m with
          | zero => simp [flatV] at hl
          | succ m =>
            simp only [flatV] at hl
            split at hl
            · rename_i ls hls
              cases hl
              have := flat_parts (cs := cs) ι (fun _ : Nat => e) (fun i => i * P.cellsOf e) (fun _ => P.cellsOf e) (fun t cs d p l => ih n m t cs d p l) (List.range k) xs ls 0 hm (by simp [ht.2]) hls (by rw [hlen]; exact ht.1)
              simpa using this
            · cases hl
        · cases h
      · cases ht
end

theorem flatV_ok {H : Type} (K : Heap) : ∀ (n : Nat) (d : DataW H) (l : List V), flatV n d = some l → VsOk K l := by
  intro n
  induction n with
  | zero => intro d l h; simp [flatV] at h
  | succ n ih =>
    intro d l h
    simp only [flatV] at h
    split at h
    · cases h; exact ⟨trivial, trivial⟩
    · rename_i ps
      split at h
      · rename_i ls hls
        cases h
        rw [VsOk_iff]
        intro v hv
        obtain ⟨l', hl', hv'⟩ := List.mem_flatten.1 hv
        rw [List.mem_iff_getElem?] at hl'
        obtain ⟨j, hj⟩ := hl'
        obtain ⟨h1, h2⟩ := allSome_get _ _ _ hls
        have hjl : j < ps.length := by rw [← h1]; exact (List.getElem?_eq_some_iff.1 hj).1
        exact (VsOk_iff K l').1 (ih ps[j] l' (h2 j ps[j] l' (List.getElem?_eq_getElem hjl) hj)) v hv'
      · cases h
    · cases h

/-- what a row lists, as the machine's blocks -/
def startOf (P : Program) (laid : List (String × DataW Unit)) : List (Option (List V)) :=
  (List.range P.globals.size).map fun g =>
    match laid.find? fun x => P.globalNamed x.1 == some g && ((P.globals[g]?).map fun gl => tyOk P 5 gl.type) == some true with
    | some x => flatV 5 x.2
    | none => none

theorem laid_mem {P : Program} {W : World} : ∀ (laid : List (String × DataW Unit)) (ps : List MemPlace), DataW.LaidVars P W laid ps → ∀ x ∈ laid, ∃ g t cs fuel p, P.globalNamed x.1 = some g ∧ (P.globals[g]?).map (·.type) = some t ∧ W.var? P x.1 = some cs ∧
    DataW.trod (fun _ => ()) P W 0 (fun _ => true) false fuel t cs.toList = some (x.2, p) := by
  intro laid
  induction laid with
  | nil => intro ps _ x hx; cases hx
  | cons y laid ih =>
    intro ps h x hx
    obtain ⟨n, d⟩ := y
    obtain ⟨g, t, cs, fuel, p, q, h1, h2, h3, h4, h5, _⟩ := h
    rcases List.mem_cons.1 hx with rfl | hx
    · exact ⟨g, t, cs, fuel, p, h1, h2, h3, h4⟩
    · exact ih q h5 x hx

theorem startOf_ok {P : Program} {W : World} {laid : List (String × DataW Unit)} (h : laidMet P laid W) {ι : Inj} (hι : ∀ g, g < P.globals.size → ι g = (g, 0)) (K : Heap) : ∀ id cs, (startOf P laid)[id]? = some (some cs) → VsOk K cs ∧ BOk ι W.heap.size W id cs cs.length false := by
  intro id cs hid
  obtain ⟨ps, hps, _⟩ := h
  unfold startOf at hid
  rw [List.getElem?_map] at hid
  have hlt : id < P.globals.size := by
    rcases Nat.lt_or_ge id P.globals.size with h | h
    · exact h
    · rw [List.getElem?_eq_none (by simpa using h)] at hid; cases hid
  rw [List.getElem?_range hlt] at hid
  simp only [Option.map_some, Option.some.injEq] at hid
  split at hid
  · rename_i x hx
    have hmem := List.mem_of_find?_eq_some hx
    have hprop := List.find?_some hx
    simp only [Bool.and_eq_true, beq_iff_eq] at hprop
    obtain ⟨hg, hty⟩ := hprop
    obtain ⟨g, t, vs, fuel, p, h1, h2, h3, h4⟩ := laid_mem laid ps hps x hmem
    rw [hg] at h1
    obtain rfl := Option.some.inj h1
    have htok : tyOk P 5 t = true := by
      cases hgl : P.globals[id]? with
      | none => rw [hgl] at h2; cases h2
      | some gl =>
        rw [hgl] at h2 hty
        simp only [Option.map_some, Option.some.injEq] at h2 hty
        rw [← h2]; exact hty
    have hcells := trod_flat ι fuel 5 5 t vs.toList x.2 p cs h4 htok hid
    refine ⟨flatV_ok K 5 x.2 cs hid, ?_⟩
    unfold World.var? at h3
    rw [hg] at h3
    simp only [Option.bind_some] at h3
    split at h3
    · rename_i c el fr hheap
      cases h3
      refine ⟨vs, el, fr.1, fr.2, by rw [hι id hlt]; exact hheap, ?_, ?_, fun h => by cases h⟩
      · rw [hι id hlt]
        have := congrArg List.length hcells
        rw [cvl_length] at this
        simp only [Array.length_toList] at this
        simp only
        omega
      · intro j v hv
        rw [hι id hlt]
        have := cvl_get ι cs j
        rw [hv, hcells] at this
        simpa using this
    · cases h3
  · cases hid

/-- what is handed in reads behind the call as it did -/
theorem trodAll_after {H : Type} {enc : TypeId × Value → H} {P : Program} (hl : laidOutB P = true) {W W' : World} (hb : Below W.heap.size W W') : ∀ {ts : List TypeId} {vs : List Value} {ds : List (DataW H)} {ps : List MemPlace},
    (ts.all fun t => P.readableRec t && decide (t < P.types.size)) = true → DataW.TrodAll enc P W 0 (fun _ => true) true ts vs ds ps → (∀ x ∈ ps, x.block < W.heap.size) →
    ∀ sp : Nat → Bool, (∀ p ∈ ps, sp p.block = true) → DataW.TrodAll enc P W' 0 sp true ts vs ds ps := by
  intro ts
  induction ts with
  | nil => intro vs ds ps _ h _ sp _; cases vs <;> cases ds <;> exact h
  | cons t ts ih =>
    intro vs ds ps hk h hlt sp hsp
    cases vs with
    | nil => cases ds <;> exact h.elim
    | cons v vs =>
      cases ds with
      | nil => exact h.elim
      | cons d ds =>
        obtain ⟨p, q, h1, h2, rfl⟩ := h
        simp only [List.all_cons, Bool.and_eq_true, decide_eq_true_eq] at hk
        refine ⟨p, q, ?_, ih hk.2 h2 (fun x hx => hlt x (by simp [hx])) sp (fun x hx => hsp x (by simp [hx])), rfl⟩
        exact WideElems.Trod_stays hl hk.1.1 hk.1.2 h1 (fun x hx => hb.same (hlt x (by simp [hx]))) (fun x hx => hsp x (by simp [hx]))

/-- WHAT A LAW LEAVES: it answers true, and nothing that was there is turned. -/
theorem law_post {H : Type} {enc : TypeId × Value → H} {P : Program} {f : Func} {s : ChangeSpec} {apart fresh handsOn again : Bool} {W W' : World} {args : Array Value} {ds gs : List (DataW H)} {before : List MemPlace} {t : TypeId}
    (hl : laidOutB P = true) (hvars : s.vars = []) (hs : s.fn H (ds ++ gs) = { results := [.lit (.bool true)], args := ds }) (hr : f.resultTypes = #[t]) (ht : P.underlying t = some .bool)
    (hrow : (f.params.toList.all fun t => P.readableRec t && decide (t < P.types.size)) = true)
    (hW : DataW.Whole enc P f.params.toList s.vars apart W args.toList ds gs before) (hb : Below W.heap.size W W') :
    s.post enc P f apart fresh handsOn again W args (.bool true) W' := by
  have hlt : ∀ x ∈ before, x.block < W.heap.size := fun x hx => by simpa using hW.lt x hx
  have hW' := hW
  obtain ⟨p, q, hA, hV, he, hz, hn⟩ := hW
  have hgs : gs = [] ∧ q = [] := by
    rw [hvars] at hV
    cases gs with
    | nil => exact ⟨rfl, hV⟩
    | cons g gs => exact hV.elim
  obtain ⟨rfl, rfl⟩ := hgs
  rw [List.append_nil] at he
  subst he
  have hargs : ∀ sp : Nat → Bool, (∀ x ∈ before, sp x.block = true) → DataW.TrodAll enc P W' 0 sp true f.params.toList args.toList (s.fn H (ds ++ [])).args before := by
    intro sp hsp
    rw [hs]
    exact trodAll_after hl hb hrow hA hlt sp hsp
  have hres : ∀ (b : Nat) (sp : Nat → Bool) (hd : Bool), DataW.TrodAll enc P W' b sp hd f.resultTypes.toList ((Value.bool true).resultList f.resultTypes.size) (s.fn H (ds ++ [])).results [] := by
    intro b sp hd
    rw [hs, hr]
    exact ChangeShapes.trodAll_mk1 (RowKit.shut_bool ht true)
  have hvs : ∀ sp : Nat → Bool, DataW.TrodVars enc P W' sp s.vars (s.fn H (ds ++ [])).vars [] := by
    intro sp
    rw [hvars, hs]
    rfl
  have hold : ∀ x ∈ before, (fun b => decide (b < W.heap.size)) x.block = true := fun x hx => by simpa using hlt x hx
  refine ⟨ds, [], before, [], before, [], hW', hres _ _ _, hargs _ hold, hvs _, World.keptBut_mono (fun x hx => ⟨hx, .inr (by simpa using hx)⟩) (hb.frame _), fun _ => ?_⟩
  refine ⟨RowKit.ok_one hr rfl (RowKit.okWide_bool_mk ht true), _, _, ([] ++ before) ++ [], ⟨[] ++ before, [], ChangeShapes.trodAll_append (hargs _ (fun _ _ => rfl)) (hres _ _ _), hvs _, rfl, ?_, ?_⟩, ?_⟩
  · intro b off hp
    have hp' : MemPlace.cell b off ∈ before := by simpa using hp
    rw [hb.frozen (hlt _ hp')]
    exact hz b off hp'
  · intro ha
    simpa using hn ha
  · intro x hx _
    simpa using hx
end Go.Am


/-
  THE ABSTRACT MACHINE 'Am', twenty-seventh part: the same machine with what comes next handed in ('K'): made to be printed function by function, and to be reckoned by the kernel.
-/
namespace Go.Am

abbrev Ans := Option (V × Heap × Tape)
/-- what comes behind a value -/
abbrev KV := V → Heap → Tape → Ans
abbrev KC := Ex → St → Tape → Ans
abbrev CallK := Nat → List V → Heap → Tape → KV → Ans

def retK : KV := fun v H τ => some (v, H, τ)

def intK (b : BinOp) (k : IntKind) (x y : Int) (c : V → Ans) : Ans :=
  match b with
  | .add => mkI k (wr k (x + y)) c
  | .sub => mkI k (wr k (x - y)) c
  | .mul => mkI k (wr k (x * y)) c
  | .quo => match y with
    | .ofNat 0 => none
    | _ => mkI k (wr k (x.tdiv y)) c
  | .rem => match y with
    | .ofNat 0 => none
    | _ => mkI k (x.tmod y) c
  | .eql => c (.bool (x == y))
  | .neq => c (.bool (x != y))
  | .lss => c (.bool (decide (x < y)))
  | .leq => c (.bool (decide (x ≤ y)))
  | .gtr => c (.bool (decide (y < x)))
  | .geq => c (.bool (decide (y ≤ x)))
  | b => match bitsOp b k x y with
    | some n => mkI k n c
    | none => none

def shiftK (b : BinOp) (k : IntKind) (x y : Int) (c : V → Ans) : Ans :=
  match y with
  | .negSucc _ => none
  | .ofNat m =>
    forceN (min m k.bits) fun n =>
    match b with
    | .shl => mkI k (wr k (x * (Nat.pow 2 n : Nat))) c
    | .shr => mkI k (x.fdiv (Nat.pow 2 n : Nat)) c
    | _ => none

def someK (o : Option V) (c : V → Ans) : Ans :=
  match o with
  | some v => c v
  | none => none

def binIntK (b : BinOp) (k : IntKind) (x : Int) (k' : IntKind) (y : Int) (c : V → Ans) : Ans :=
  match b with
  | .shl => shiftK .shl k x y c
  | .shr => shiftK .shr k x y c
  | b => if k = k' then intK b k x y c else none

def binK (b : BinOp) (x y : V) (c : V → Ans) : Ans :=
  match x with
  | .int k x => match y with
    | .int k' y => binIntK b k x k' y c
    | _ => none
  | .str x => match y with
    | .str y => someK (strBin b x y) c
    | _ => none
  | _ => none

def toIntK (k : IntKind) (x : V) (c : V → Ans) : Ans :=
  match x with
  | .int _ n => mkI k (wr k n) c
  | _ => none

def unK (u : UnOp) (x : V) (c : V → Ans) : Ans :=
  match u with
  | .neg => match x with
    | .int k n => mkI k (wr k (0 - n)) c
    | _ => none
  | u => someK (unOp u x) c

def pK (o : POp) (vs : List V) (c : V → Ans) : Ans :=
  match o with
  | .bin b => match vs with
    | [x, y] => binK b x y c
    | _ => none
  | .toInt k => match vs with
    | [x] => toIntK k x c
    | _ => none
  | .un u => match vs with
    | [x] => unK u x c
    | _ => none
  | .mv => match vs with
    | [x] => c x
    | _ => none
  | o => someK (evalP o vs) c

def effK (o : Ans) (c : KV) : Ans :=
  match o with
  | some (v, H, τ) => c v H τ
  | none => none

def opK (call : CallK) (o : AOp) (vs : List V) (H : Heap) (τ : Tape) (c : KV) : Ans :=
  match o with
  | .p o => pK o vs fun v => c v H τ
  | .l o => someK (evalL o vs H) fun v => c v H τ
  | .e o => effK (evalE o vs H τ) c
  | .call f => call f vs H τ c
  | .callv => match vs with
    | .func f first cap :: vs => call f (first ++ vs ++ cap) H τ c
    | _ => none

/-- a guarded operation: its value, or none -/
def gK (g : V) (w : Bool) (body : KV → Ans) (H : Heap) (τ : Tape) (c : KV) : Ans :=
  match g with
  | .bool b => bif b == w then effK (body retK) c else c (.tup []) H τ
  | .tup [] => c (.tup []) H τ
  | _ => none

def wantsV (g : V) (w : Bool) : Option Bool :=
  match g with
  | .bool b => some (b == w)
  | .tup [] => some false
  | _ => none

def argsK (fr : T V) (args : List O) (c : List V → Ans) : Ans :=
  match evOs fr args with
  | some vs => c vs
  | none => none

def insK (call : CallK) (i : Ins) (st : St) (τ : Tape) (c : St → Tape → Ans) : Ans :=
  match i.guard with
  | none => argsK st.fr i.args fun vs => opK call i.op vs st.hp τ fun v H τ => c ⟨put st.fr i.dst v, H⟩ τ
  | some (t, w) => match st.fr.get t with
    | some g => gK g w (fun c => argsK st.fr i.args fun vs => opK call i.op vs st.hp τ c) st.hp τ fun v H τ => c ⟨put st.fr i.dst v, H⟩ τ
    | none => none

def regK (call : CallK) : List Ins → St → Tape → (St → Tape → Ans) → Ans
  | [], st, τ, c => c st τ
  | i :: is, st, τ, c => insK call i st τ fun st τ => regK call is st τ c

def drawK (call : CallK) : List Ins → St → Tape → List Heap → List LNote → (St → Tape → List Heap → List LNote → Ans) → Ans
  | [], st, τ, hs, ls, c => c st τ hs ls
  | i :: is, st, τ, hs, ls, c => insK call i st τ fun st' τ => drawK call is st' τ (bif i.op.eff then st'.hp :: hs else hs)
      (match i.rng with | none => ls | some _ => match wants st.fr i.guard with | some true => noted i st ls | _ => ls) c

def seqK (rest : St → Tape → Ans) (k : KC) : KC := fun ex st τ =>
  match ex with
  | .normal => rest st τ
  | .exit id => k (.exit id) st τ
  | .ret => k .ret st τ

def blockK (id : Nat) (k : KC) : KC := fun ex st τ =>
  match ex with
  | .normal => k .normal st τ
  | .exit id' => bif Nat.beq id' id then k .normal st τ else k (.exit id') st τ
  | .ret => k .ret st τ

def loopK (body : St → Tape → KC → Ans) : Nat → St → Tape → KC → Ans
  | 0, _, _, _ => none
  | n + 1, st, τ, k => body st τ (seqK (fun st τ => loopK body n st τ k) k)

def getK (fr : T V) (i : Nat) (c : V → Ans) : Ans :=
  match fr.get i with
  | some v => c v
  | none => none

def keepK : List Nat → T V → T V → (T V → Ans) → Ans
  | [], _, acc, c => c acc
  | i :: l, fr, acc, c => getK fr i fun v => keepK l fr (acc.set i v) c

def condK (x : V) (a b : Ans) : Ans :=
  match x with
  | .bool true => a
  | .bool false => b
  | _ => none

def execK (call : CallK) (N : Nat) : C → St → Tape → KC → Ans
  | .skip, st, τ, k => k .normal st τ
  | .reg ops, st, τ, k => regK call ops st τ fun st τ => k .normal st τ
  | .draw ops, st, τ, k => drawK call ops st τ [st.hp] [] fun st τ hs ls => bif chkLoads hs.reverse ls then k .normal st τ else none
  | .seq a b, st, τ, k => execK call N a st τ (seqK (fun st τ => execK call N b st τ k) k)
  | .cond x a b, st, τ, k => match evO st.fr x with
    | some x => condK x (execK call N a st τ k) (execK call N b st τ k)
    | none => none
  | .block id c, st, τ, k => execK call N c st τ (blockK id k)
  | .loop c, st, τ, k => loopK (execK call N c) N st τ k
  | .exit id, st, τ, k => k (.exit id) st τ
  | .ret, st, τ, k => k .ret st τ
  | .scope c, st, τ, k => execK call N c st τ k
  | .keep l c, st, τ, k => keepK l st.fr .leaf fun fr => execK call N c ⟨fr, st.hp⟩ τ k
  | .bad, _, _, _ => none

/-- the end of a function -/
def endK (rs : List R) (c : KV) : KC := fun ex st τ =>
  match ex with
  | .exit _ => none
  | .normal => someK (results st rs) fun v => c v st.hp τ
  | .ret => someK (results st rs) fun v => c v st.hp τ

def funK (call : CallK) (N : Nat) (fn : Fun) (vs : List V) (H : Heap) (τ : Tape) (c : KV) : Ans :=
  bif Nat.beq vs.length fn.nparams then execK call N fn.body ⟨frameOf vs 0 .leaf, H⟩ τ (endK fn.res c) else none

/-- the functions, as they are printed -/
def callK (tab : Nat → CallK → List V → Heap → Tape → KV → Ans) : Nat → CallK
  | 0 => fun _ _ _ _ _ => none
  | d + 1 => fun f vs H τ c => tab f (callK tab d) vs H τ c

theorem mkI_eq {α : Type} (k : IntKind) (n : Int) (c : V → α) : mkI k n c = c (.int k n) := forceI_eq n _

theorem intK_eq (b : BinOp) (k : IntKind) (x y : Int) (c : V → Ans) : intK b k x y c = someK (intBin b k x y) c := by
  cases b <;> simp only [intK, intBin, mkI_eq, someK] <;> (try split) <;> (try rfl) <;> simp_all

theorem shiftK_eq (b : BinOp) (k : IntKind) (x y : Int) (c : V → Ans) : shiftK b k x y c = someK (shiftOp b k x y) c := by
  cases y with
  | negSucc m => rfl
  | ofNat m => simp only [shiftK, shiftOp, forceN_eq]; cases b <;> simp [mkI_eq, someK]

theorem binIntK_eq (b : BinOp) (k : IntKind) (x : Int) (k' : IntKind) (y : Int) (c : V → Ans) : binIntK b k x k' y c = someK (binInt b k x k' y) c := by
  cases b <;> simp only [binIntK, binInt, shiftK_eq] <;> (try (split <;> simp [intK_eq, someK]))

theorem binK_eq (b : BinOp) (x y : V) (c : V → Ans) : binK b x y c = someK (pBin b [x, y]) c := by
  cases x <;> cases y <;> simp [binK, pBin, binIntK_eq] <;> rfl

theorem toIntK_eq (k : IntKind) (x : V) (c : V → Ans) : toIntK k x c = someK (pToInt k [x]) c := by
  cases x <;> simp [toIntK, pToInt, mkI_eq, someK]

theorem unK_eq (u : UnOp) (x : V) (c : V → Ans) : unK u x c = someK (pUn u [x]) c := by
  cases u <;> cases x <;> simp [unK, pUn, unOp, mkI_eq, someK]

theorem pK_eq (o : POp) (vs : List V) (c : V → Ans) : pK o vs c = someK (evalP o vs) c := by
  cases o with
  | bin b =>
    match vs with
    | [] => rfl
    | [_] => simp [pK, evalP, pBin, someK]
    | [x, y] => exact binK_eq b x y c
    | x :: y :: z :: l => cases x <;> cases y <;> rfl
  | toInt k =>
    match vs with
    | [] => rfl
    | [x] => exact toIntK_eq k x c
    | x :: y :: l => cases x <;> rfl
  | un u =>
    match vs with
    | [] => rfl
    | [x] => exact unK_eq u x c
    | x :: y :: l => rfl
  | mv =>
    match vs with
    | [] => rfl
    | [x] => rfl
    | x :: y :: l => rfl
  | _ => rfl

theorem someK_some {o : Option V} {c : V → Ans} {r : V × Heap × Tape} (h : someK o c = some r) : ∃ v, o = some v ∧ c v = some r := by
  cases o with
  | none => cases h
  | some v => exact ⟨v, rfl, h⟩
theorem effK_some {o : Ans} {c : KV} {r : V × Heap × Tape} (h : effK o c = some r) : ∃ v H τ, o = some (v, H, τ) ∧ c v H τ = some r := by
  cases o with
  | none => cases h
  | some x => obtain ⟨v, H, τ⟩ := x; exact ⟨v, H, τ, rfl, h⟩

/-- what 'K' answers, the machine comes to -/
def Le (cK : CallK) (c : ACall) : Prop := ∀ f vs H τ k r, cK f vs H τ k = some r → ∃ v H' τ', c f vs H τ = some (v, H', τ') ∧ k v H' τ' = some r

section
variable {cK : CallK} {call : ACall} (hle : Le cK call)

include hle
theorem opK_le {o : AOp} {vs : List V} {H : Heap} {τ : Tape} {k : KV} {r : V × Heap × Tape} (h : opK cK o vs H τ k = some r) : ∃ v H' τ', evalOp call o vs H τ = some (v, H', τ') ∧ k v H' τ' = some r := by
  cases o with
  | p o =>
    simp only [opK, pK_eq] at h
    obtain ⟨v, h1, h2⟩ := someK_some h
    exact ⟨v, H, τ, by simp [evalOp, h1], h2⟩
  | l o =>
    simp only [opK] at h
    obtain ⟨v, h1, h2⟩ := someK_some h
    exact ⟨v, H, τ, by simp [evalOp, h1], h2⟩
  | e o =>
    simp only [opK] at h
    obtain ⟨v, H', τ', h1, h2⟩ := effK_some h
    exact ⟨v, H', τ', by simp [evalOp, h1], h2⟩
  | call f => exact hle _ _ _ _ _ _ h
  | callv =>
    simp only [opK] at h
    split at h
    · exact hle _ _ _ _ _ _ h
    · cases h

omit hle in
theorem argsK_some {fr : T V} {args : List O} {c : List V → Ans} {r : V × Heap × Tape} (h : argsK fr args c = some r) : ∃ vs, evOs fr args = some vs ∧ c vs = some r := by
  unfold argsK at h
  split at h
  · rename_i vs e; exact ⟨vs, e, h⟩
  · cases h

theorem insK_le {i : Ins} {st : St} {τ : Tape} {k : St → Tape → Ans} {r : V × Heap × Tape} (h : insK cK i st τ k = some r) : ∃ st' τ', runIns call i st τ = some (st', τ') ∧ k st' τ' = some r := by
  unfold insK at h
  split at h
  · rename_i hg
    obtain ⟨vs, h1, h2⟩ := argsK_some h
    obtain ⟨v, H', τ', h3, h4⟩ := opK_le hle h2
    exact ⟨_, τ', by simp only [runIns, hg, wants, h1, h3], h4⟩
  · rename_i t w hg
    split at h
    · rename_i g ht
      unfold gK at h
      split at h
      · rename_i b
        cases hb : b == w with
        | true =>
          rw [hb, cond_true] at h
          obtain ⟨v, H', τ', h1, h2⟩ := effK_some h
          obtain ⟨vs, h3, h4⟩ := argsK_some h1
          obtain ⟨v', H2, τ2, h5, h6⟩ := opK_le hle h4
          cases h6
          exact ⟨_, τ', by simp only [runIns, hg, wants, ht, hb, h3, h5], h2⟩
        | false =>
          rw [hb, cond_false] at h
          exact ⟨_, τ, by simp only [runIns, hg, wants, ht, hb], h⟩
      · exact ⟨_, τ, by simp only [runIns, hg, wants, ht], h⟩
      · cases h
    · cases h

theorem regK_le : ∀ {is : List Ins} {st : St} {τ : Tape} {k : St → Tape → Ans} {r : V × Heap × Tape}, regK cK is st τ k = some r → ∃ st' τ', runReg call is st τ = some (st', τ') ∧ k st' τ' = some r := by
  intro is
  induction is with
  | nil => intro st τ k r h; exact ⟨st, τ, rfl, h⟩
  | cons i is ih =>
    intro st τ k r h
    obtain ⟨st1, τ1, h1, h2⟩ := insK_le hle h
    obtain ⟨st2, τ2, h3, h4⟩ := ih h2
    exact ⟨st2, τ2, by simp only [runReg, h1, h3], h4⟩

theorem drawK_le : ∀ {is : List Ins} {st : St} {τ : Tape} {hs : List Heap} {ls : List LNote} {k : St → Tape → List Heap → List LNote → Ans} {r : V × Heap × Tape}, drawK cK is st τ hs ls k = some r →
    ∃ st' τ' hs' ls', runDraw call is st τ hs ls = some (st', τ', hs', ls') ∧ k st' τ' hs' ls' = some r := by
  intro is
  induction is with
  | nil => intro st τ hs ls k r h; exact ⟨st, τ, hs, ls, rfl, h⟩
  | cons i is ih =>
    intro st τ hs ls k r h
    obtain ⟨st1, τ1, h1, h2⟩ := insK_le hle h
    have e : (match i.rng with | none => ls | some _ => match wants st.fr i.guard with | some true => noted i st ls | _ => ls) = (match wants st.fr i.guard with | some true => noted i st ls | _ => ls) := by
      cases hr : i.rng with
      | none => simp only [noted, hr]; split <;> rfl
      | some x => rfl
    rw [e] at h2
    obtain ⟨st2, τ2, hs2, ls2, h3, h4⟩ := ih h2
    exact ⟨st2, τ2, hs2, ls2, by simp only [runDraw, h1]; exact h3, h4⟩

omit hle in
theorem keepK_le : ∀ {l : List Nat} {fr acc : T V} {c : T V → Ans} {r : V × Heap × Tape}, keepK l fr acc c = some r → c (keepT l fr acc) = some r := by
  intro l
  induction l with
  | nil => intro fr acc c r h; exact h
  | cons i l ih =>
    intro fr acc c r h
    simp only [keepK, getK] at h
    split at h
    · rename_i v hv
      simp only [keepT, hv]
      exact ih h
    · cases h

theorem execK_le (N : Nat) : ∀ (c : C) {st : St} {τ : Tape} {k : KC} {r : V × Heap × Tape}, execK cK N c st τ k = some r → ∃ ex st' τ', exec call N c st τ = some (ex, st', τ') ∧ k ex st' τ' = some r := by
  intro c
  induction c with
  | skip => intro st τ k r h; exact ⟨_, _, _, rfl, h⟩
  | reg ops =>
    intro st τ k r h
    obtain ⟨st', τ', h1, h2⟩ := regK_le hle h
    exact ⟨_, _, _, by simp only [exec, h1], h2⟩
  | draw ops =>
    intro st τ k r h
    obtain ⟨st', τ', hs, ls, h1, h2⟩ := drawK_le hle h
    cases hc : chkLoads hs.reverse ls with
    | true =>
      rw [hc, cond_true] at h2
      exact ⟨_, _, _, by simp only [exec, h1, hc, cond_true], h2⟩
    | false => rw [hc, cond_false] at h2; cases h2
  | seq a b iha ihb =>
    intro st τ k r h
    obtain ⟨ex, st1, τ1, h1, h2⟩ := iha h
    cases ex with
    | normal =>
      obtain ⟨ex2, st2, τ2, h3, h4⟩ := ihb h2
      exact ⟨ex2, st2, τ2, by simp only [exec, h1, h3], h4⟩
    | exit id => exact ⟨_, _, _, by simp only [exec, h1], h2⟩
    | ret => exact ⟨_, _, _, by simp only [exec, h1], h2⟩
  | cond x a b iha ihb =>
    intro st τ k r h
    simp only [execK] at h
    split at h
    · rename_i v hv
      unfold condK at h
      split at h
      · obtain ⟨ex, st1, τ1, h1, h2⟩ := iha h
        exact ⟨ex, st1, τ1, by simp only [exec, hv, h1], h2⟩
      · obtain ⟨ex, st1, τ1, h1, h2⟩ := ihb h
        exact ⟨ex, st1, τ1, by simp only [exec, hv, h1], h2⟩
      · cases h
    · cases h
  | block id c ih =>
    intro st τ k r h
    obtain ⟨ex, st1, τ1, h1, h2⟩ := ih h
    cases ex with
    | normal => exact ⟨_, _, _, by simp only [exec, h1], h2⟩
    | exit id' =>
      simp only [blockK] at h2
      cases hb : Nat.beq id' id with
      | true => rw [hb, cond_true] at h2; exact ⟨_, _, _, by simp only [exec, h1, hb, cond_true], h2⟩
      | false => rw [hb, cond_false] at h2; exact ⟨_, _, _, by simp only [exec, h1, hb, cond_false], h2⟩
    | ret => exact ⟨_, _, _, by simp only [exec, h1], h2⟩
  | loop c ih =>
    intro st τ k r h
    simp only [execK] at h
    have : ∀ n {st : St} {τ : Tape} {k : KC}, loopK (execK cK N c) n st τ k = some r → ∃ ex st' τ', loopF (exec call N c) n st τ = some (ex, st', τ') ∧ k ex st' τ' = some r := by
      intro n
      induction n with
      | zero => intro st τ k h; cases h
      | succ n ihn =>
        intro st τ k h
        obtain ⟨ex, st1, τ1, h1, h2⟩ := ih h
        cases ex with
        | normal =>
          obtain ⟨ex2, st2, τ2, h3, h4⟩ := ihn h2
          exact ⟨ex2, st2, τ2, by simp only [loopF, h1, h3], h4⟩
        | exit id => exact ⟨_, _, _, by simp only [loopF, h1], h2⟩
        | ret => exact ⟨_, _, _, by simp only [loopF, h1], h2⟩
    exact this N h
  | exit id => intro st τ k r h; exact ⟨_, _, _, rfl, h⟩
  | ret => intro st τ k r h; exact ⟨_, _, _, rfl, h⟩
  | scope c ih => intro st τ k r h; exact ih h
  | keep l c ih =>
    intro st τ k r h
    have := keepK_le h
    obtain ⟨ex, st1, τ1, h1, h2⟩ := ih this
    exact ⟨ex, st1, τ1, h1, h2⟩
  | bad => intro st τ k r h; cases h

theorem funK_le {N : Nat} {fn : Fun} {vs : List V} {H : Heap} {τ : Tape} {k : KV} {r : V × Heap × Tape} (h : funK cK N fn vs H τ k = some r) : ∃ v H' τ', callDef call N (some (.fn fn)) vs H τ = some (v, H', τ') ∧ k v H' τ' = some r := by
  unfold funK at h
  cases hb : Nat.beq vs.length fn.nparams with
  | false => rw [hb, cond_false] at h; cases h
  | true =>
    rw [hb, cond_true] at h
    obtain ⟨ex, st1, τ1, h1, h2⟩ := execK_le hle N _ h
    cases ex with
    | exit id => cases h2
    | normal =>
      obtain ⟨v, h3, h4⟩ := someK_some h2
      exact ⟨v, st1.hp, τ1, by simp only [callDef, hb, cond_true, h1, h3], h4⟩
    | ret =>
      obtain ⟨v, h3, h4⟩ := someK_some h2
      exact ⟨v, st1.hp, τ1, by simp only [callDef, hb, cond_true, h1, h3], h4⟩
end

/-- a printed function is one of the program's, or one that is known by what it answers -/
def TabOk (prog : Nat → Option Def) (N : Nat) (tab : Nat → CallK → List V → Heap → Tape → KV → Ans) : Prop :=
  ∀ f cK vs H τ k r, tab f cK vs H τ k = some r → (∃ fn, prog f = some (.fn fn) ∧ funK cK N fn vs H τ k = some r) ∨ (∃ p, prog f = some (.prim p) ∧ effK (p vs H τ) k = some r)

theorem callK_le {prog : Nat → Option Def} {N : Nat} {tab : Nat → CallK → List V → Heap → Tape → KV → Ans} (ht : TabOk prog N tab) : ∀ d, Le (callK tab d) (call prog N d) := by
  intro d
  induction d with
  | zero => intro f vs H τ k r h; cases h
  | succ d ih =>
    intro f vs H τ k r h
    rcases ht f _ vs H τ k r h with ⟨fn, h1, h2⟩ | ⟨p, h1, h2⟩
    · obtain ⟨v, H', τ', h3, h4⟩ := funK_le ih h2
      exact ⟨v, H', τ', by simp only [call, h1]; exact h3, h4⟩
    · obtain ⟨v, H', τ', h3, h4⟩ := effK_some h2
      exact ⟨v, H', τ', by simp only [call, h1, callDef]; exact h3, h4⟩
end Go.Am


/-
  THE ABSTRACT MACHINE 'Am', twenty-eighth part: tables of printed functions.
-/
namespace Go.Am
/-- something of all that a tree holds -/
def T.All {α : Type} (P : Nat → α → Prop) : T α → (Nat → Nat) → Prop
  | .leaf, _ => True
  | .node v l r, ix => (match v with | some a => P (ix 0) a | none => True) ∧ T.All P l (fun k => ix (2 * k + 1)) ∧ T.All P r (fun k => ix (2 * k + 2))

theorem T.All_at {α : Type} {P : Nat → α → Prop} : ∀ (t : T α) (ix : Nat → Nat), T.All P t ix → ∀ i a, t.get i = some a → P (ix i) a := by
  intro t
  induction t with
  | leaf => intro ix _ i a h; rw [T.get_leaf] at h; cases h
  | node v l r ihl ihr =>
    intro ix h i a hg
    obtain ⟨h0, h1, h2⟩ := h
    cases i with
    | zero => simp only [T.get] at hg; subst hg; exact h0
    | succ j =>
      simp only [T.get] at hg
      cases hb : Nat.beq (j % 2) 0 with
      | true =>
        rw [hb, cond_true] at hg
        have := ihl _ h1 _ _ hg
        have e : 2 * (j / 2) + 1 = j + 1 := by have := Nat.eq_of_beq_eq_true hb; omega
        simpa only [e] using this
      | false =>
        rw [hb, cond_false] at hg
        have := ihr _ h2 _ _ hg
        have e : 2 * (j / 2) + 2 = j + 1 := by have := Nat.ne_of_beq_eq_false hb; omega
        simpa only [e] using this

theorem T.All_get {α : Type} {P : Nat → α → Prop} {t : T α} (h : T.All P t (fun k => k)) {i : Nat} {a : α} (hg : t.get i = some a) : P i a := T.All_at t _ h i a hg

/-- a printed function -/
abbrev Ent := CallK → Nat → List V → Heap → Tape → KV → Ans
def EntOk (fn : Fun) (e : Ent) : Prop := ∀ call N vs H τ q r, e call N vs H τ q = some r → funK call N fn vs H τ q = some r
def tabOf (E : T Ent) (N : Nat) : Nat → CallK → List V → Heap → Tape → KV → Ans := fun f call vs H τ q =>
  match E.get f with
  | some e => e call N vs H τ q
  | none => none
/-- true: nothing else is told -/
def trueK : KV := fun v _ _ =>
  match v with
  | .bool true => some (.bool true, ⟨0, .leaf, .leaf⟩, fun _ => 0)
  | _ => none
theorem trueK_some {v : V} {H : Heap} {τ : Tape} {r : V × Heap × Tape} (h : trueK v H τ = some r) : v = .bool true := by
  unfold trueK at h
  split at h
  · rfl
  · cases h
end Go.Am


/-
  THE ABSTRACT MACHINE 'Am', twenty-ninth part: a run that the kernel reckons.
-/
namespace Go.Am
def doneA : Ans := some (.bool true, ⟨0, .leaf, .leaf⟩, fun _ => 0)

theorem run_true {E : T Ent} {F : T Def} {N d f : Nat} {vs : List V} {H : Heap} (ht : TabOk F.get N (tabOf E N))
    (h : (fun τ => callK (tabOf E N) d f vs H τ trueK) = fun _ => doneA) : ∀ τ, isTrue (call F.get N d f vs H τ) = true := by
  intro τ
  have h1 : callK (tabOf E N) d f vs H τ trueK = doneA := congrFun h τ
  obtain ⟨v, H', τ', h2, h3⟩ := callK_le ht d f vs H τ trueK _ h1
  obtain rfl := trueK_some h3
  rw [h2]
  rfl

/-- a function of the model's, and its code as it is printed -/
theorem fnOk {P : Program} {f : FuncId} {fn : Fun} (g : Func) (code : Code) (hg : P.funcs[f]? = some g) (hb : g.body = some code) (hp : plainCall P f = true) (ht : fn.body.strip = trCode P g.ntmps code) (hr : fn.res = g.results.toList.map (trRes P)) (hk : g.results.toList.all (resOk P) = true) : FnOk P f fn :=
  ⟨g, code, hg, hb, hp, tr_of_strip _ _ ht, hr, hk⟩

theorem defs_ok {P : Program} {base : Nat} {w0 : World} {F : T Def} (h : T.All (fun f d => DefOk P base w0 f d) F (fun k => k)) : ∀ f d, F.get f = some d → DefOk P base w0 f d := fun _ _ hg => T.All_get h hg
end Go.Am


/-
  THE ABSTRACT MACHINE 'Am', thirtieth part: functions of the library that are known by what they answer: a byte's place in a text; texts joined.
-/
namespace Go.Am
open Go.RowKit (Below)

/-- the place of the first such byte, counted from i on; -1: none -/
def idxB (n : Nat) : List UInt8 → Nat → Int
  | [], _ => -1
  | b :: l, i => bif Nat.beq b.toNat n then forceN i fun i => .ofNat i else idxB n l (i + 1)

theorem idxB_eq (c : UInt8) : ∀ (l : List UInt8) (i : Nat), idxB c.toNat l i = if Lib.indexByte l c = -1 then -1 else Lib.indexByte l c + i := by
  intro l
  induction l with
  | nil => intro i; rfl
  | cons b l ih =>
    intro i
    simp only [idxB, forceN_eq]
    unfold Lib.indexByte
    by_cases h : b = c
    · subst h
      simp
    · have h1 : Nat.beq b.toNat c.toNat = false := by
        cases hb : Nat.beq b.toNat c.toNat with
        | false => rfl
        | true => exact absurd (UInt8.toNat_inj.1 (Nat.eq_of_beq_eq_true hb)) h
      have h2 : (b == c) = false := by simpa using h
      rw [h1, h2, cond_false, ih]
      have := Lib.indexByte_ge l c
      simp only [Bool.false_eq_true, if_false, beq_iff_eq]
      split
      · rfl
      · rw [if_neg (by omega)]
        push_cast
        omega

def idxP (vs : List V) (H : Heap) (τ : Tape) : Option (V × Heap × Tape) :=
  match vs with
  | [.str s, .int .u8 c] => match c with
    | .ofNat m => some (.int .i64 (idxB (m % 256) s 0), H, τ)
    | .negSucc _ => none
  | _ => none

theorem primOk_idx {P : Program} {f : FuncId} (hp : plainCall P f = true)
    (h : ∀ (s : ByteArray) (c : Int) (w : World), Calls P f #[.string s, .int .u8 c] w fun e w' => e = .returned (.int .i64 (Lib.indexByte s.data.toList c.toNat.toUInt8)) ∧ w' = w) (base : Nat) (w0 : World) : PrimOk P base w0 f idxP := by
  intro vs H ι w hM hG hok hn0
  refine ⟨hp, ?_⟩
  have hn := hn0 (fun _ => 0)
  unfold idxP at hn
  split at hn
  · rename_i s c
    split at hn
    · rename_i m
      refine (h ⟨s.toArray⟩ (.ofNat m) w).mono fun e w' ⟨he, hw⟩ => ?_
      subst hw
      refine ⟨.int .i64 (Lib.indexByte s (UInt8.ofNat m)), H, ι, [], ?_, fun τ => ?_, hM, Ext.refl _ _, Evol.refl _, trivial⟩
      · rw [he]
        rfl
      · have e : m % 256 = (UInt8.ofNat m).toNat := by simp
        simp only [Tape.app, idxP]
        rw [e, idxB_eq]
        split
        · rename_i h1; rw [h1]
        · simp
    · exact absurd rfl hn
  · exact absurd rfl hn

/-- texts out of cells -/
def strsOf : List V → Option (List (List UInt8))
  | [] => some []
  | .str s :: l => match strsOf l with
    | some r => some (s :: r)
    | none => none
  | _ => none

theorem strsOf_spec : ∀ (l : List V) (xs : List (List UInt8)), strsOf l = some xs → l = xs.map V.str := by
  intro l
  induction l with
  | nil => intro xs h; cases h; rfl
  | cons v l ih =>
    intro xs h
    cases v <;> simp only [strsOf] at h <;> first | (cases h; done) | skip
    split at h
    · rename_i r hr
      cases h
      rw [ih _ hr]
      rfl
    · cases h

def joinT (sep : List UInt8) : List (List UInt8) → List UInt8
  | [] => []
  | x :: r => sep ++ (x ++ joinT sep r)
def joinB (sep : List UInt8) : List (List UInt8) → List UInt8
  | [] => []
  | x :: r => x ++ joinT sep r

theorem joinT_eq (sep : List UInt8) (r : List (List UInt8)) : joinT sep r = Lib.joinTail sep r := by
  induction r with
  | nil => rfl
  | cons x r ih => simp [joinT, ih, Lib.joinTail]
theorem joinB_eq (sep : List UInt8) (xs : List (List UInt8)) : joinB sep xs = Lib.join xs sep := by
  cases xs with
  | nil => rfl
  | cons x r => rw [Lib.join_cons, joinB, joinT_eq]

def joinP (vs : List V) (H : Heap) (τ : Tape) : Option (V × Heap × Tape) :=
  match vs with
  | [.nils, .str _] => some (.str [], H, τ)
  | [.sl id off len _ _ z, .str sep] =>
    bif Nat.beq z 1 then
      match H.loads id off len with
      | some cs => match strsOf cs with
        | some xs =>
          let r := joinB sep xs
          bif Nat.ble r.length 140737488355328 && Nat.ble len 140737488355328 then some (.str r, H, τ) else none
        | none => none
      | none => none
    else none
  | _ => none

theorem primOk_join {P : Program} {f : FuncId} (hp : plainCall P f = true)
    (h0 : ∀ (a : Option Addr) (c : Nat) (sep : ByteArray) (w : World), Calls P f #[.slice a 0 c, .string sep] w fun e w' => e = .returned (.string ⟨#[]⟩) ∧ w' = w)
    (h : ∀ (bk o c : Nat) (xs : List ByteArray) (sep : ByteArray) (w : World), (∀ (j : Nat) x, xs[j]? = some x → w.cell? ⟨bk, o + j, none⟩ = some (.string x)) → bk < w.heap.size → xs.length ≤ 140737488355328 → xs.length ≤ c →
      (Lib.join (xs.map (·.data.toList)) sep.data.toList).length ≤ 140737488355328 →
      Calls P f #[.slice (some ⟨bk, o, none⟩) xs.length c, .string sep] w fun e w' => e = .returned (.string ⟨(Lib.join (xs.map (·.data.toList)) sep.data.toList).toArray⟩) ∧ Below w.heap.size w w') (base : Nat) (w0 : World) : PrimOk P base w0 f joinP := by
  intro vs H ι w hM hG hok hn0
  refine ⟨hp, ?_⟩
  have hn := hn0 (fun _ => 0)
  unfold joinP at hn
  split at hn
  · rename_i sep
    refine (h0 none 0 ⟨sep.toArray⟩ w).mono fun e w' ⟨he, hw⟩ => ?_
    subst hw
    refine ⟨.str [], H, ι, [], ?_, fun τ => rfl, hM, Ext.refl _ _, Evol.refl _, trivial⟩
    rw [he]
    rfl
  · rename_i id off len lo ex z sep
    cases hz : Nat.beq z 1 with
    | false => rw [hz, cond_false] at hn; exact absurd rfl hn
    | true =>
      rw [hz, cond_true] at hn
      split at hn
      · rename_i cs hcs
        split at hn
        · rename_i xs hxs
          simp only at hn
          cases hb : (Nat.ble (joinB sep xs).length 140737488355328 && Nat.ble len 140737488355328) with
          | false => rw [hb, cond_false] at hn; exact absurd rfl hn
          | true =>
            have hans : ∀ τ, joinP [.sl id off len lo ex z, .str sep] H τ = some (.str (joinB sep xs), H, τ) := fun τ => by
              simp only [joinP, hz, cond_true, hcs, hxs, hb]
            simp only [Bool.and_eq_true, Nat.ble_eq] at hb
            obtain ⟨hb1, hb2⟩ := hb
            obtain ⟨k1, k2, k3, k4⟩ := MRel.loads (P := P) hM hcs
            have hcs' := strsOf_spec _ _ hxs
            have hlen : xs.length = len := by rw [← k2, hcs']; simp
            have hcap : len ≤ lo + ex.getD 0 := hok.1.2.1
            have hmap : (xs.map fun s => (⟨s.toArray⟩ : ByteArray)).map (fun b => b.data.toList) = xs := by
              rw [List.map_map]
              exact List.map_id' xs
            have hcell : ∀ (j : Nat) x, (xs.map fun s => (⟨s.toArray⟩ : ByteArray))[j]? = some x → w.cell? ⟨(ι id).1, (ι id).2 + off + j, none⟩ = some (.string x) := by
              intro j x hx
              rw [List.getElem?_map] at hx
              cases hj : xs[j]? with
              | none => rw [hj] at hx; cases hx
              | some s =>
                rw [hj] at hx
                cases hx
                exact k3 j (.str s) (by rw [hcs', List.getElem?_map, hj]; rfl)
            cases hlz : len with
            | zero =>
              have : xs = [] := List.length_eq_zero_iff.1 (by omega)
              subst this
              subst hlz
              refine (h0 (some ⟨(ι id).1, (ι id).2 + off, none⟩) (lo + ex.getD 0) ⟨sep.toArray⟩ w).mono fun e w' ⟨he, hw⟩ => ?_
              subst hw
              refine ⟨.str [], H, ι, [], ?_, fun τ => by simpa [joinB, Tape.app] using hans τ, hM, Ext.refl _ _, Evol.refl _, trivial⟩
              rw [he]
              rfl
            | succ m =>
              have hbk : (ι id).1 < w.heap.size := by
                obtain ⟨s, hs⟩ : ∃ s, xs[0]? = some s := ⟨xs[0], List.getElem?_eq_getElem (by omega)⟩
                have := hcell 0 ⟨s.toArray⟩ (by rw [List.getElem?_map, hs]; rfl)
                unfold World.cell? at this
                split at this
                · rename_i hh
                  exact (Array.getElem?_eq_some_iff.1 hh).1
                · cases this
              have hJ : Lib.join ((xs.map fun s => (⟨s.toArray⟩ : ByteArray)).map (fun b => b.data.toList)) (⟨sep.toArray⟩ : ByteArray).data.toList = joinB sep xs := by
                rw [hmap, joinB_eq]
              have hc := h (ι id).1 ((ι id).2 + off) (lo + ex.getD 0) (xs.map fun s => (⟨s.toArray⟩ : ByteArray)) ⟨sep.toArray⟩ w hcell hbk (by rw [List.length_map, hlen]; exact hb2) (by rw [List.length_map, hlen]; exact hcap)
                (by rw [hJ]; exact hb1)
              rw [hJ, List.length_map, hlen, hlz] at hc
              refine hc.mono fun e w' ⟨he, hw⟩ => ?_
              subst hlz
              refine ⟨.str (joinB sep xs), H, ι, [], ?_, hans, hM.keep hw, Ext.refl _ _, Evol.refl _, trivial⟩
              rw [he]
              rfl
        · exact absurd rfl hn
      · exact absurd rfl hn
  · exact absurd rfl hn

/-- tables with functions that are known by what they answer -/
def PrimEnt (p : List V → Heap → Tape → Option (V × Heap × Tape)) : Ent := fun _ _ vs H τ q => effK (p vs H τ) q
theorem tabOf_okP {E : T Ent} {F : T Def} (N : Nat) (h : ∀ f e, E.get f = some e → (∃ fn, F.get f = some (.fn fn) ∧ EntOk fn e) ∨ (∃ p, F.get f = some (.prim p) ∧ e = PrimEnt p)) : TabOk F.get N (tabOf E N) := by
  intro f cK vs H τ k r hr
  unfold tabOf at hr
  split at hr
  · rename_i e he
    rcases h f e he with ⟨fn, h1, h2⟩ | ⟨p, h1, rfl⟩
    · exact .inl ⟨fn, h1, h2 _ _ _ _ _ _ _ hr⟩
    · exact .inr ⟨p, h1, hr⟩
  · cases hr
end Go.Am


/-
  THE ABSTRACT MACHINE 'Am', thirty-first part: memories that grow; lists of a call's own, appended to; lists that are read.
-/
namespace Go.Am

/-- nothing lies beyond the end -/
structure WF (H : Heap) : Prop where
  blk : ∀ id b, H.blk.get id = some b → id < H.size
  fams : ∀ f x, H.fams.get f = some x → f < H.size
  fam : ∀ id cs room fam ver wr pl st, H.blk.get id = some (.mem cs room fam ver wr pl st) → fam < H.size

/-- a memory that goes on from another: what lay below B is as it was -/
structure Gr (B : Nat) (H H' : Heap) : Prop where
  wf : WF H'
  size : H.size ≤ H'.size
  blk : ∀ id, id < B → H'.blk.get id = H.blk.get id
  fams : ∀ f, f < B → H'.fams.get f = H.fams.get f

theorem Gr.refl {B : Nat} {H : Heap} (h : WF H) : Gr B H H := ⟨h, Nat.le_refl _, fun _ _ => rfl, fun _ _ => rfl⟩
theorem Gr.trans {B C : Nat} {H H1 H2 : Heap} (h : Gr B H H1) (k : Gr C H1 H2) (hBC : B ≤ C) : Gr B H H2 :=
  ⟨k.wf, Nat.le_trans h.size k.size, fun id hid => (k.blk id (by omega)).trans (h.blk id hid), fun f hf => (k.fams f (by omega)).trans (h.fams f hf)⟩
theorem Gr.weaken {B C : Nat} {H H' : Heap} (h : Gr C H H') (hBC : B ≤ C) : Gr B H H' :=
  ⟨h.wf, h.size, fun id hid => h.blk id (by omega), fun f hf => h.fams f (by omega)⟩

theorem WF.cells_lt {H : Heap} (h : WF H) {id : Nat} {cs : List V} (hc : H.cells? id = some cs) : id < H.size := by
  unfold Heap.cells? at hc
  split at hc
  · rename_i hb; exact h.blk _ _ hb
  · cases hc

/-- what could be read below B is read so still -/
theorem Gr.cells {B : Nat} {H H' : Heap} (h : Gr B H H') (hw : WF H) (hB : H.size ≤ B) {id : Nat} {cs : List V} (hc : H.cells? id = some cs) : H'.cells? id = some cs := by
  have hlt := hw.cells_lt hc
  unfold Heap.cells? at hc ⊢
  rw [h.blk id (by omega)]
  split at hc
  · rename_i cs' room fam ver wr pl st hb
    have hf := hw.fam _ _ _ _ _ _ _ _ hb
    rw [h.fams fam (by omega)]
    exact hc
  · cases hc

theorem WF.new {H : Heap} (h : WF H) (cells : List V) (room : Nat) (pl : Bool) : WF (H.new cells room pl) := by
  refine ⟨?_, ?_, ?_⟩
  · intro id b hb
    simp only [Heap.new, T.get_set] at hb ⊢
    split at hb
    · omega
    · have := h.blk _ _ hb; omega
  · intro f x hf
    simp only [Heap.new, T.get_set] at hf ⊢
    split at hf
    · omega
    · have := h.fams _ _ hf; omega
  · intro id cs r fam ver wr p st hb
    simp only [Heap.new, T.get_set] at hb ⊢
    split at hb
    · cases hb; omega
    · have := h.fam _ _ _ _ _ _ _ _ hb; omega

theorem Gr.new {H : Heap} (h : WF H) (cells : List V) (room : Nat) (pl : Bool) : Gr H.size H (H.new cells room pl) := by
  refine ⟨h.new _ _ _, Nat.le_succ _, fun id hid => ?_, fun f hf => ?_⟩
  · simp only [Heap.new, T.get_set]; rw [if_neg (by omega)]
  · simp only [Heap.new, T.get_set]; rw [if_neg (by omega)]

theorem cells_new (H : Heap) (cells : List V) (room : Nat) (pl : Bool) : (H.new cells room pl).cells? H.size = some cells := by
  simp only [Heap.cells?, Heap.new, T.get_set_same]
  rfl

/-- a list that is read: n elements of z cells -/
def Rd (H : Heap) (z : Nat) (v : V) (n : Nat) (cs : List V) : Prop :=
  ((v = .nils ∨ ∃ id off lo ex, v = .sl id off 0 lo ex z) ∧ n = 0 ∧ cs = []) ∨ ∃ id off lo ex all, v = .sl id off n lo ex z ∧ H.cells? id = some all ∧ cs = (all.drop off).take (n * z) ∧ cs.length = n * z

theorem Rd.gr {B : Nat} {H H' : Heap} {z : Nat} {v : V} {n : Nat} {cs : List V} (h : Rd H z v n cs) (hg : Gr B H H') (hw : WF H) (hB : H.size ≤ B) : Rd H' z v n cs := by
  rcases h with h | ⟨id, off, lo, ex, all, h1, h2, h3, h4⟩
  · exact .inl h
  · exact .inr ⟨id, off, lo, ex, all, h1, hg.cells hw hB h2, h3, h4⟩

/-- a list of the call's own, its blocks from B on, that may be appended to -/
def Own (H : Heap) (B z : Nat) (v : V) (n : Nat) (cs : List V) : Prop :=
  (v = .nils ∧ n = 0 ∧ cs = []) ∨ ∃ id e room fam ver pl st fr, v = .sl id 0 n n (some e) z ∧ H.blk.get id = some (.mem cs room fam ver true pl st) ∧ H.fams.get fam = some (fr, ver) ∧ fr ≤ ver ∧ B ≤ id ∧ B ≤ fam ∧ cs.length = n * z

theorem Own.nil (H : Heap) (B z : Nat) : Own H B z .nils 0 [] := .inl ⟨rfl, rfl, rfl⟩

theorem Own.rd {H : Heap} {B z : Nat} {v : V} {n : Nat} {cs : List V} (h : Own H B z v n cs) : Rd H z v n cs := by
  rcases h with h | ⟨id, e, room, fam, ver, pl, st, fr, h1, h2, h3, h4, _, _, h7⟩
  · exact .inl ⟨.inl h.1, h.2⟩
  · refine .inr ⟨id, 0, n, some e, cs, h1, ?_, ?_, h7⟩
    · simp only [Heap.cells?, h2, h3]
      rw [show Nat.ble fr ver = true from Nat.ble_eq_true_of_le h4]
      rfl
    · simp [← h7]

theorem Own.gr {H H' : Heap} {B C z : Nat} {v : V} {n : Nat} {cs : List V} (h : Own H B z v n cs) (hg : Gr C H H') (hw : WF H) (hC : H.size ≤ C) : Own H' B z v n cs := by
  rcases h with h | ⟨id, e, room, fam, ver, pl, st, fr, h1, h2, h3, h4, h5, h6, h7⟩
  · exact .inl h
  · have := hw.blk _ _ h2
    have := hw.fams _ _ h3
    exact .inr ⟨id, e, room, fam, ver, pl, st, fr, h1, by rw [hg.blk id (by omega)]; exact h2, by rw [hg.fams fam (by omega)]; exact h3, h4, h5, h6, h7⟩

theorem takeN_all : ∀ (n : Nat) (l : List V), n ≤ l.length → takeN n l = some (l.take n) := by
  intro n
  induction n with
  | zero => intro l _; cases l <;> rfl
  | succ n ih =>
    intro l h
    cases l with
    | nil => simp at h
    | cons v l => simp only [takeN, ih l (by simpa using h)]; rfl

theorem WF.version {H : Heap} (h : WF H) (cells : List V) (room fam fr last : Nat) (hf : fam < H.size) : WF (H.version cells room fam fr last) := by
  refine ⟨?_, ?_, ?_⟩
  · intro id b hb
    simp only [Heap.version, T.get_set] at hb ⊢
    split at hb
    · omega
    · have := h.blk _ _ hb; omega
  · intro f x hf'
    simp only [Heap.version, T.get_set] at hf' ⊢
    split at hf'
    · omega
    · have := h.fams _ _ hf'; omega
  · intro id cs r fam' ver wr p st hb
    simp only [Heap.version, T.get_set] at hb ⊢
    split at hb
    · cases hb; omega
    · have := h.fam _ _ _ _ _ _ _ _ hb; omega

/-- APPEND to a list of the call's own -/
theorem Own.append {H : Heap} {B z bytes : Nat} {v : V} {m : Nat} {cs : List V} (h : Own H B z v m cs) (hw : WF H) (hB : B ≤ H.size) (n : Nat) (new : List V) (hn : 0 < n) (hl : new.length = n * z) (hs : new.all V.scal = true)
    (h1 : (m + n) * bytes ≤ 140737488355328) (h2 : m + n ≤ 140737488355328) (τ : Tape) :
    ∃ v' H', Am.append H z bytes v n new τ = some (v', H', τ.tail) ∧ Own H' B z v' (m + n) (cs ++ new) ∧ Gr B H H' ∧ (∀ id cs, H.cells? id = some cs → H'.cells? id = some cs) := by
  rcases h with ⟨rfl, rfl, rfl⟩ | ⟨id, e, room, fam, ver, pl, st, fr, rfl, k2, k3, k4, k5, k6, k7⟩
  · obtain ⟨k, rfl⟩ : ∃ k, n = k + 1 := ⟨n - 1, by omega⟩
    refine ⟨.sl H.size 0 (k + 1) (k + 1) (some (spare (k + 1) (τ 0))) z, H.new new ((k + 1 + spare (k + 1) (τ 0)) * z) false, ?_, ?_, (Gr.new hw _ _ _).weaken hB, ?_⟩
    · have e1 : Nat.ble ((k + 1) * bytes) 140737488355328 = true := Nat.ble_eq_true_of_le (by simpa using h1)
      have e2 : Nat.ble (k + 1) 140737488355328 = true := Nat.ble_eq_true_of_le (by simpa using h2)
      simp only [Am.append, e1, e2, Bool.and_self, cond_true, fresh]
    · refine .inr ⟨H.size, spare (k + 1) (τ 0), _, H.size, 0, false, 0, 0, by simp, by rw [List.nil_append]; exact T.get_set_same _ _ _, T.get_set_same _ _ _, Nat.le_refl _, hB, hB, by simpa using hl⟩
    · intro id cs hc
      exact (Gr.new hw new _ false).cells hw (Nat.le_refl _) hc
  · have hfam : fam < H.size := hw.fams _ _ k3
    have hid : id < H.size := hw.blk _ _ k2
    have hcells : H.cells? id = some cs := by
      simp only [Heap.cells?, k2, k3]
      rw [show Nat.ble fr ver = true from Nat.ble_eq_true_of_le k4]
      rfl
    have hloads : H.loads id 0 (m * z) = some cs := by
      simp only [Heap.loads, hcells, List.drop_zero]
      rw [takeN_all _ _ (by omega), ← k7, List.take_length]
    refine ⟨.sl H.size 0 (m + n) (m + n) (some (spare (m + n) (τ 0))) z, H.version (cs ++ new) ((m + n + spare (m + n) (τ 0)) * z) fam fr ver, ?_, ?_, ⟨hw.version _ _ _ _ _ hfam, Nat.le_succ _, fun i hi => ?_, fun f hf => ?_⟩, ?_⟩
    · have e1 : Nat.ble ((m + n) * bytes) 140737488355328 = true := Nat.ble_eq_true_of_le h1
      have e2 : Nat.ble (m + n) 140737488355328 = true := Nat.ble_eq_true_of_le h2
      have e3 : Nat.ble (m + n) m = false := by
        cases hb : Nat.ble (m + n) m with
        | false => rfl
        | true => have := Nat.le_of_ble_eq_true hb; omega
      have e4 : Nat.beq z z = true := Nat.beq_refl z
      have e5 : Nat.beq ver ver = true := Nat.beq_refl ver
      have e6 : Nat.beq (0 + m * z) cs.length = true := by rw [k7, Nat.zero_add]; exact Nat.beq_refl _
      simp only [Am.append, e4, cond_true, e3, cond_false, e1, e2, Bool.and_self, hloads, k2, k3, e5, e6, hs]
    · refine .inr ⟨H.size, spare (m + n) (τ 0), _, fam, ver + 1, false, 0, fr, rfl, T.get_set_same _ _ _, T.get_set_same _ _ _, by omega, hB, k6, by rw [List.length_append, k7, hl, Nat.add_mul]⟩
    · simp only [Heap.version, T.get_set]; rw [if_neg (by omega)]
    · simp only [Heap.version, T.get_set]; rw [if_neg (by omega)]
    · intro i c hc
      have hilt := hw.cells_lt hc
      unfold Heap.cells? at hc ⊢
      simp only [Heap.version, T.get_set]
      rw [if_neg (by omega)]
      split at hc
      · rename_i cs' room' fam' ver' wr' pl' st' hb
        by_cases he : fam = fam'
        · subst he
          rw [k3] at hc
          simpa using hc
        · rw [if_neg he]
          exact hc
      · cases hc
end Go.Am


/-
  THE ABSTRACT MACHINE 'Am', thirty-second part: closed functions as functions that are known by what they answer; the steps of printed functions, in words of values.
-/
namespace Go.Am
open Go.RowKit (Below)

def closedP (vs : List V) (H : Heap) (τ : Tape) : Option (V × Heap × Tape) :=
  match vs with
  | [] => some (.bool true, H, τ)
  | _ => none

theorem primOk_closed {P : Program} (hm : P.follows .mixedOrders = true) {F : T Def} (hF : ∀ base w0, T.All (fun f d => DefOk P base w0 f d) F (fun k => k)) {E : T Ent} {N d f : Nat} (ht : TabOk F.get N (tabOf E N)) (hp : plainCall P f = true)
    (n : Nat) (hn : P.globals.size ≤ n) (h : (fun τ => callK (tabOf E N) d f [] (start (List.replicate n none)) τ trueK) = fun _ => doneA) (base : Nat) (w0 : World) : PrimOk P base w0 f closedP := by
  intro vs H ι w hM hG hok hn0
  refine ⟨hp, ?_⟩
  cases vs with
  | cons a l => exact absurd rfl (hn0 (fun _ => 0))
  | nil =>
    refine (call_true hm (W := w) (defs_ok (hF w.heap.size w)) N d f [] (List.replicate n none) (fun id => (id, 0)) (fun id cs hid => ?_) (fun g _ => rfl) (by simpa using hn) trivial (run_true ht h)).mono fun e w' ⟨he, hb⟩ => ?_
    · rw [List.getElem?_replicate] at hid
      split at hid <;> cases hid
    · exact ⟨.bool true, H, ι, [], by rw [he]; rfl, fun τ => rfl, hM.keep hb, Ext.refl _ _, Evol.refl _, trivial⟩

theorem someK_mk (v : V) (c : V → Ans) : someK (some v) c = c v := rfl
theorem effK_mk (v : V) (H : Heap) (τ : Tape) (c : KV) : effK (some (v, H, τ)) c = c v H τ := rfl
theorem condK_bool (b : Bool) (x y : Ans) : condK (.bool b) x y = bif b then x else y := by cases b <;> rfl
theorem condK_t (x y : Ans) : condK (.bool true) x y = x := rfl
theorem condK_f (x y : Ans) : condK (.bool false) x y = y := rfl
theorem gK_skip (body : KV → Ans) (H : Heap) (τ : Tape) (c : KV) : gK (.bool false) true body H τ c = c (.tup []) H τ := rfl
theorem gK_skip' (body : KV → Ans) (H : Heap) (τ : Tape) (c : KV) : gK (.bool true) false body H τ c = c (.tup []) H τ := rfl
theorem gK_do (body : KV → Ans) (H : Heap) (τ : Tape) (c : KV) : gK (.bool true) true body H τ c = effK (body retK) c := rfl
theorem gK_do' (body : KV → Ans) (H : Heap) (τ : Tape) (c : KV) : gK (.bool false) false body H τ c = effK (body retK) c := rfl
theorem gK_none (w : Bool) (body : KV → Ans) (H : Heap) (τ : Tape) (c : KV) : gK (.tup []) w body H τ c = c (.tup []) H τ := rfl
theorem getK_mk {fr : T V} {i : Nat} {v : V} (h : fr.get i = some v) (c : V → Ans) : getK fr i c = c v := by simp [getK, h]
theorem wr_id {n : Int} (h : -9223372036854775808 ≤ n) (h' : n ≤ 9223372036854775807) : wr .i64 n = n := by
  rw [wr_eq]
  simp only [IntKind.wrap, IntKind.signed, IntKind.bits]
  simp only [Bool.true_and]
  split <;> simp_all <;> omega
theorem bin_add (k : IntKind) (x y : Int) (c : V → Ans) : binK .add (.int k x) (.int k y) c = c (.int k (wr k (x + y))) := by simp [binK, binIntK, intK, mkI_eq]
theorem bin_sub (k : IntKind) (x y : Int) (c : V → Ans) : binK .sub (.int k x) (.int k y) c = c (.int k (wr k (x - y))) := by simp [binK, binIntK, intK, mkI_eq]
theorem bin_mul (k : IntKind) (x y : Int) (c : V → Ans) : binK .mul (.int k x) (.int k y) c = c (.int k (wr k (x * y))) := by simp [binK, binIntK, intK, mkI_eq]
theorem bin_eql (k : IntKind) (x y : Int) (c : V → Ans) : binK .eql (.int k x) (.int k y) c = c (.bool (x == y)) := by simp [binK, binIntK, intK]
theorem bin_neq (k : IntKind) (x y : Int) (c : V → Ans) : binK .neq (.int k x) (.int k y) c = c (.bool (x != y)) := by simp [binK, binIntK, intK]
theorem bin_lss (k : IntKind) (x y : Int) (c : V → Ans) : binK .lss (.int k x) (.int k y) c = c (.bool (decide (x < y))) := by simp [binK, binIntK, intK]
theorem bin_leq (k : IntKind) (x y : Int) (c : V → Ans) : binK .leq (.int k x) (.int k y) c = c (.bool (decide (x ≤ y))) := by simp [binK, binIntK, intK]
theorem bin_gtr (k : IntKind) (x y : Int) (c : V → Ans) : binK .gtr (.int k x) (.int k y) c = c (.bool (decide (y < x))) := by simp [binK, binIntK, intK]
theorem bin_geq (k : IntKind) (x y : Int) (c : V → Ans) : binK .geq (.int k x) (.int k y) c = c (.bool (decide (y ≤ x))) := by simp [binK, binIntK, intK]
theorem bin_quo (k : IntKind) (x : Int) (y : Int) (hy : y ≠ 0) (c : V → Ans) : binK .quo (.int k x) (.int k y) c = c (.int k (wr k (x.tdiv y))) := by
  simp only [binK, binIntK, intK, mkI_eq, if_true]
  split
  · exact absurd rfl hy
  · rfl
theorem bin_str (b : BinOp) (x y : List UInt8) (c : V → Ans) : binK b (.str x) (.str y) c = someK (strBin b x y) c := rfl
theorem str_add {x y : List UInt8} (h : x.length + y.length ≤ 4611686018427387904) : strBin .add x y = some (.str (x ++ y)) := by
  simp only [strBin]
  rw [Nat.ble_eq_true_of_le h]
  rfl
theorem str_eql (x y : List UInt8) : strBin .eql x y = some (.bool (x == y)) := by simp [strBin, eqB_eq]
theorem str_neq (x y : List UInt8) : strBin .neq x y = some (.bool (x != y)) := by simp [strBin, eqB_eq, bne]
theorem un_not (b : Bool) (c : V → Ans) : unK .not (.bool b) c = c (.bool (!b)) := by simp [unK, unOp, someK]
theorem toInt_mk (k k' : IntKind) (n : Int) (c : V → Ans) : toIntK k (.int k' n) c = c (.int k (wr k n)) := by simp [toIntK, mkI_eq]
theorem pick_mk (b : Bool) (x y : V) : pPick [.bool b, x, y] = some (bif b then x else y) := by cases b <;> rfl
theorem lenS_mk (s : List UInt8) : pLenS [.str s] = some (.int .i64 (s.length : Int)) := rfl
theorem natOf_nat (n : Nat) : natOf (n : Int) = some n := by simp [natOf, forceN_eq]
theorem strIndex_mk {s : List UInt8} {i : Nat} {c : UInt8} (h : s[i]? = some c) : pStrIndex [.str s, .int .i64 (i : Int)] = some (.int .u8 (c.toNat : Int)) := by
  simp [pStrIndex, natOf_nat, h]

theorem loopK_succ (body : St → Tape → KC → Ans) (n : Nat) (st : St) (τ : Tape) (k : KC) : loopK body (n + 1) st τ k = body st τ (seqK (fun st τ => loopK body n st τ k) k) := rfl
end Go.Am


