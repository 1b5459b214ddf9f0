/- The abstract machine, printed functions of the program, and what they are shown to be. -/
import Derived.Test.YtpigmhokjbbffaaDoorHSOL1
import Derived.Test.YtpigmhokjbbffaaDoorHSOM3
namespace Go.Am.X
set_option linter.unusedSimpArgs false
set_option linter.unusedVariables false
set_option linter.unusedSectionVars false
set_option maxRecDepth 100000
abbrev ltB (x y : Bs) : Prop := lessB x y = true
theorem lessB_cons (a b : UInt8) (x y : Bs) : lessB (a :: x) (b :: y) = (decide (a.toNat < b.toNat) || (decide (a.toNat = b.toNat) && lessB x y)) := by
  rw [lessB]
  have h1 : Nat.blt a.toNat b.toNat = decide (a.toNat < b.toNat) := by
    by_cases h : a.toNat < b.toNat
    · rw [decide_eq_true h]; simp [Nat.blt]; omega
    · rw [decide_eq_false h]; cases hb : Nat.blt a.toNat b.toNat with
      | false => rfl
      | true => exact absurd (Nat.le_of_ble_eq_true hb) h
  have h2 : Nat.beq a.toNat b.toNat = decide (a.toNat = b.toNat) := by
    by_cases h : a.toNat = b.toNat
    · rw [decide_eq_true h, h]; exact Nat.beq_refl _
    · rw [decide_eq_false h]; cases hb : Nat.beq a.toNat b.toNat with
      | false => rfl
      | true => exact absurd (Nat.eq_of_beq_eq_true hb) h
  rw [h1, h2]
theorem ltB_irrefl : ∀ (x : Bs), lessB x x = false := by
  intro x
  induction x with
  | nil => rfl
  | cons a x ih => rw [lessB_cons, ih]; simp
theorem ltB_no {x : Bs} (h : ltB x x) : False := by rw [ltB, ltB_irrefl] at h; cases h
theorem ltB_trans : ∀ (x y z : Bs), ltB x y → ltB y z → ltB x z := by
  intro x
  induction x with
  | nil =>
    intro y z h1 h2
    cases y with
    | nil => exact h2
    | cons b y => cases z with
      | nil => cases h2
      | cons c z => rfl
  | cons a x ih =>
    intro y z h1 h2
    cases y with
    | nil => cases h1
    | cons b y => cases z with
      | nil => cases h2
      | cons c z =>
        unfold ltB at *
        rw [lessB_cons, Bool.or_eq_true, Bool.and_eq_true, decide_eq_true_iff, decide_eq_true_iff] at h1 h2 ⊢
        rcases h1 with h1 | ⟨h1, h1'⟩ <;> rcases h2 with h2 | ⟨h2, h2'⟩
        · exact .inl (by omega)
        · exact .inl (by omega)
        · exact .inl (by omega)
        · exact .inr ⟨by omega, ih y z h1' h2'⟩
theorem ltB_tri : ∀ (x y : Bs), ltB x y ∨ x = y ∨ ltB y x := by
  intro x
  induction x with
  | nil => intro y; cases y with
    | nil => exact .inr (.inl rfl)
    | cons b y => exact .inl rfl
  | cons a x ih =>
    intro y
    cases y with
    | nil => exact .inr (.inr rfl)
    | cons b y =>
      unfold ltB
      rw [lessB_cons, lessB_cons, Bool.or_eq_true, Bool.and_eq_true, decide_eq_true_iff, decide_eq_true_iff, Bool.or_eq_true, Bool.and_eq_true, decide_eq_true_iff, decide_eq_true_iff]
      rcases Nat.lt_trichotomy a.toNat b.toNat with h | h | h
      · exact .inl (.inl h)
      · rcases ih y with k | k | k
        · exact .inl (.inr ⟨h, k⟩)
        · exact .inr (.inl (by rw [UInt8.toNat_inj.1 h, k]))
        · exact .inr (.inr (.inr ⟨h.symm, k⟩))
      · exact .inr (.inr (.inl h))
theorem lt_iff (x y : Bs) : x < y ↔ ltB x y := by
  induction x generalizing y with
  | nil => cases y with
    | nil => exact ⟨fun h => (by cases h), fun h => (by cases h)⟩
    | cons b y => exact ⟨fun _ => rfl, fun _ => List.Lex.nil⟩
  | cons a x ih =>
    cases y with
    | nil => exact ⟨fun h => (by cases h), fun h => (by cases h)⟩
    | cons b y =>
      unfold ltB
      rw [lessB_cons, Bool.or_eq_true, Bool.and_eq_true, decide_eq_true_iff, decide_eq_true_iff, List.cons_lt_cons_iff, ih y, UInt8.lt_iff_toNat_lt, UInt8.toNat_inj]
/-- lists in order, each once -/
abbrev SrtB (l : List Bs) : Prop := l.Pairwise ltB
theorem srt_uniq : ∀ (a b : List Bs), SrtB a → SrtB b → (∀ x, x ∈ a ↔ x ∈ b) → a = b := by
  intro a
  induction a with
  | nil => intro b _ _ h; cases b with
    | nil => rfl
    | cons y b => exact absurd ((h y).2 (by simp)) (by simp)
  | cons x a ih =>
    intro b ha hb h
    cases b with
    | nil => exact absurd ((h x).1 (by simp)) (by simp)
    | cons y b =>
      rw [SrtB, List.pairwise_cons] at ha hb
      have hxy : x = y := by
        rcases List.mem_cons.1 ((h x).1 (by simp)) with e | e
        · exact e
        · rcases List.mem_cons.1 ((h y).2 (by simp)) with e' | e'
          · exact e'.symm
          · have h1 := hb.1 x e
            have h2 := ha.1 y e'
            exact (ltB_no (ltB_trans _ _ _ h1 h2)).elim
      subst hxy
      congr 1
      refine ih b ha.2 hb.2 fun z => ⟨fun hz => ?_, fun hz => ?_⟩
      · rcases List.mem_cons.1 ((h z).1 (by simp [hz])) with e | e
        · subst e; exact (ltB_no (ha.1 z hz)).elim
        · exact e
      · rcases List.mem_cons.1 ((h z).2 (by simp [hz])) with e | e
        · subst e; exact (ltB_no (hb.1 z hz)).elim
        · exact e
/-- a text put into a list in order -/
def insB (x : Bs) : List Bs → List Bs
  | [] => [x]
  | y :: l => bif lessB y x then y :: insB x l else bif y == x then y :: l else x :: y :: l
theorem insB_mem (x : Bs) : ∀ (l : List Bs) (z : Bs), z ∈ insB x l ↔ z = x ∨ z ∈ l := by
  intro l
  induction l with
  | nil => intro z; simp [insB]
  | cons y l ih =>
    intro z
    rw [insB]
    cases lessB y x with
    | true => rw [cond_true, List.mem_cons, ih z, List.mem_cons]; constructor <;> (intro h; rcases h with h | h | h <;> simp [h])
    | false =>
      rw [cond_false]
      cases h : (y == x) with
      | true => rw [cond_true, ← beq_iff_eq.1 h]; simp
      | false => rw [cond_false]; simp
theorem insB_srt (x : Bs) : ∀ (l : List Bs), SrtB l → SrtB (insB x l) := by
  intro l
  induction l with
  | nil => intro _; simp [insB]
  | cons y l ih =>
    intro h
    rw [SrtB, List.pairwise_cons] at h
    rw [insB]
    cases h1 : lessB y x with
    | true =>
      rw [cond_true, SrtB, List.pairwise_cons]
      refine ⟨fun z hz => ?_, ih h.2⟩
      rcases (insB_mem x l z).1 hz with e | e
      · rw [e]; exact h1
      · exact h.1 z e
    | false =>
      rw [cond_false]
      cases h2 : (y == x) with
      | true => rw [cond_true, SrtB, List.pairwise_cons]; exact h
      | false =>
        rw [cond_false, SrtB, List.pairwise_cons]
        have hxy : ltB x y := by
          rcases ltB_tri x y with k | k | k
          · exact k
          · exact absurd k.symm (beq_eq_false_iff_ne.1 h2)
          · have k' : lessB y x = true := k
            rw [h1] at k'; cases k'
        refine ⟨fun z hz => ?_, by rw [List.pairwise_cons]; exact h⟩
        rcases List.mem_cons.1 hz with e | e
        · rw [e]; exact hxy
        · exact ltB_trans _ _ _ hxy (h.1 z e)
theorem insB_len (x : Bs) : ∀ (l : List Bs), (insB x l).length ≤ l.length + 1 := by
  intro l
  induction l with
  | nil => simp [insB]
  | cons y l ih =>
    rw [insB]
    cases lessB y x with
    | true => rw [cond_true]; simp; omega
    | false => rw [cond_false]; cases (y == x) <;> simp
def srtT (ss : List Bs) : List Bs := ss.foldl (fun acc x => insB x acc) []
theorem srtT_ok (ss : List Bs) : SrtB (srtT ss) ∧ (∀ z, z ∈ srtT ss ↔ z ∈ ss) ∧ (srtT ss).length ≤ ss.length := by
  have key : ∀ (ss acc : List Bs), SrtB acc → SrtB (ss.foldl (fun acc x => insB x acc) acc) ∧ (∀ z, z ∈ ss.foldl (fun acc x => insB x acc) acc ↔ z ∈ acc ∨ z ∈ ss) ∧ (ss.foldl (fun acc x => insB x acc) acc).length ≤ acc.length + ss.length := by
    intro ss
    induction ss with
    | nil => intro acc h; exact ⟨h, fun z => by simp, by simp⟩
    | cons x ss ih =>
      intro acc h
      obtain ⟨a, b, c⟩ := ih (insB x acc) (insB_srt x acc h)
      have := insB_len x acc
      refine ⟨a, fun z => ?_, by simp only [List.foldl_cons, List.length_cons]; omega⟩
      rw [List.foldl_cons, b z, insB_mem, List.mem_cons]
      constructor
      · rintro ((h | h) | h) <;> simp [h]
      · rintro (h | h | h) <;> simp [h]
  obtain ⟨a, b, c⟩ := key ss [] (by simp)
  exact ⟨a, fun z => (b z).trans (by simp), by unfold srtT; simpa using c⟩
theorem compL_ok (zs : List Bs) (h : zs.Pairwise fun a b => ¬ ltB b a) : SrtB (compL zs) ∧ ∀ z, z ∈ compL zs ↔ z ∈ zs := by
  have hget : ∀ j, j < zs.length → zs.toArray[j]! = zs[j]! := fun j hj => by simp
  have hle : ∀ i j, i < j → j < zs.length → ¬ ltB (zs.toArray[j]!) (zs.toArray[i]!) := by
    intro i j hij hj
    have := List.pairwise_iff_getElem.1 h i j (by omega) hj hij
    simpa [getElem!_pos, hj, (show i < zs.length by omega)] using this
  have key : ∀ m, m ≤ zs.length → SrtB (Lib.compactUpTo zs.toArray m) ∧ ∀ z, z ∈ Lib.compactUpTo zs.toArray m ↔ ∃ j, j < m ∧ zs.toArray[j]! = z := by
    intro m
    induction m with
    | zero => intro _; exact ⟨by simp [Lib.compactUpTo], fun z => by simp [Lib.compactUpTo]⟩
    | succ m ih =>
      intro hm
      obtain ⟨a, b⟩ := ih (by omega)
      rw [Lib.compactUpTo_succ]
      cases hk : Lib.keeps zs.toArray m with
      | true =>
        rw [if_pos rfl]
        refine ⟨?_, fun z => ?_⟩
        · rw [SrtB, List.pairwise_append]
          refine ⟨a, by simp, fun x hx y hy => ?_⟩
          obtain ⟨j, hj, rfl⟩ := (b x).1 hx
          rw [List.mem_singleton] at hy
          subst hy
          have hne : zs.toArray[m]! ≠ zs.toArray[m - 1]! := by
            have := of_decide_eq_true hk
            rcases this with h0 | h0
            · omega
            · exact h0
          have h1 : ltB (zs.toArray[m - 1]!) (zs.toArray[m]!) := by
            rcases ltB_tri (zs.toArray[m - 1]!) (zs.toArray[m]!) with k | k | k
            · exact k
            · exact absurd k.symm hne
            · exact absurd k (hle (m - 1) m (by omega) (by omega))
          by_cases e : j = m - 1
          · rw [e]; exact h1
          · rcases ltB_tri (zs.toArray[j]!) (zs.toArray[m - 1]!) with k | k | k
            · exact ltB_trans _ _ _ k h1
            · rw [k]; exact h1
            · exact absurd k (hle j (m - 1) (by omega) (by omega))
        · rw [List.mem_append, b z, List.mem_singleton]
          constructor
          · rintro (⟨j, hj, e⟩ | e)
            · exact ⟨j, by omega, e⟩
            · exact ⟨m, by omega, e.symm⟩
          · rintro ⟨j, hj, e⟩
            by_cases hjm : j = m
            · exact .inr (by rw [← e, hjm])
            · exact .inl ⟨j, by omega, e⟩
      | false =>
        rw [if_neg (by simp), List.append_nil]
        refine ⟨a, fun z => ?_⟩
        rw [b z]
        constructor
        · rintro ⟨j, hj, e⟩; exact ⟨j, by omega, e⟩
        · rintro ⟨j, hj, e⟩
          by_cases hjm : j = m
          · have := of_decide_eq_false hk
            have h0 : ¬ m = 0 := fun h => this (.inl h)
            have h1 : zs.toArray[m]! = zs.toArray[m - 1]! := by
              by_cases h : zs.toArray[m]! = zs.toArray[m - 1]!
              · exact h
              · exact absurd (.inr h) this
            exact ⟨m - 1, by omega, by rw [← h1, ← e, hjm]⟩
          · exact ⟨j, by omega, e⟩
  obtain ⟨a, b⟩ := key zs.length (Nat.le_refl _)
  refine ⟨a, fun z => ?_⟩
  have : compL zs = Lib.compactUpTo zs.toArray zs.length := rfl
  rw [this, b z]
  constructor
  · rintro ⟨j, hj, e⟩
    rw [hget j hj, getElem!_pos zs j hj] at e
    rw [← e]; exact List.getElem_mem hj
  · intro hz
    obtain ⟨j, hj, e⟩ := List.getElem_of_mem hz
    exact ⟨j, hj, by rw [hget j hj, getElem!_pos zs j hj]; exact e⟩
theorem le_of_ltB (x y : Bs) : x ≤ y ↔ ¬ ltB y x := by
  rw [← List.not_lt, lt_iff]
theorem sorted_ok (ss : List Bs) : (sorted ss).Pairwise (fun a b => ¬ ltB b a) ∧ (∀ z, z ∈ sorted ss ↔ z ∈ ss) ∧ (sorted ss).length = ss.length := by
  refine ⟨?_, fun z => by unfold sorted; exact List.mem_mergeSort, by unfold sorted; exact List.length_mergeSort _⟩
  have := List.pairwise_mergeSort (le := fun x y : Bs => decide (x ≤ y)) (fun a b c h1 h2 => by
    simp only [decide_eq_true_eq, le_of_ltB] at *
    rcases ltB_tri a b with k | k | k
    · rcases ltB_tri b c with j | j | j
      · intro e; have := ltB_trans _ _ _ (ltB_trans _ _ _ k j) e; exact ltB_no this
      · rw [← j]; exact h1
      · exact absurd j h2
    · rw [k]; exact h2
    · exact absurd k h1) (fun a b => by
    simp only [Bool.or_eq_true, decide_eq_true_eq, le_of_ltB]
    rcases ltB_tri a b with k | k | k
    · left; intro e; have := ltB_trans _ _ _ k e; exact ltB_no this
    · left; rw [k, ltB, ltB_irrefl]; simp
    · right; intro e; have := ltB_trans _ _ _ k e; exact ltB_no this) ss
  unfold sorted
  exact this.imp fun h => (le_of_ltB _ _).1 (of_decide_eq_true h)
/-- sorted and without doubles: one list -/
theorem compact_sorted (ss : List Bs) : compL (sorted ss) = srtT ss := by
  obtain ⟨h1, h2, _⟩ := sorted_ok ss
  obtain ⟨h3, h4⟩ := compL_ok (sorted ss) h1
  obtain ⟨h5, h6, _⟩ := srtT_ok ss
  exact srt_uniq _ _ h3 h5 fun x => by rw [h4, h2, h6]
theorem str_lss (x y : Bs) : strBin .lss x y = some (.bool (lessB x y)) := rfl
end Go.Am.X


namespace Go.Am.X
set_option linter.unusedSimpArgs false
set_option linter.unusedVariables false
set_option linter.unusedSectionVars false
set_option maxRecDepth 100000
theorem Own.stores {H : Heap} {B z id n e : Nat} {cs : List V} (h : Own H B z (.sl id 0 n n (some e) z) n cs) (hw : WF H) (off : Nat) (vs : List V) (hl : off + vs.length ≤ cs.length) (hs : vs.all V.scal = true) :
    ∃ H', H.stores id off vs = some H' ∧ Own H' B z (.sl id 0 n n (some e) z) n (cs.take off ++ vs ++ cs.drop (off + vs.length)) ∧ Gr B H H' := by
  rcases h with ⟨h, _⟩ | ⟨id', e', room, fam, ver, pl, st, fr, q, h1, h2, h3, h4, h5, h7⟩
  · cases h
  · cases q
    cases vs with
    | nil => exact ⟨H, rfl, by simpa using .inr ⟨id, e, room, fam, ver, pl, st, fr, rfl, h1, h2, h3, h4, h5, h7⟩, Gr.refl hw⟩
    | cons v vs =>
      have hroom : H.room? id = room := by simp only [Heap.room?, h1]
      have hov := over_in off room (v :: vs) cs hl
      refine ⟨{ size := H.size, blk := H.blk.set id (.mem (cs.take off ++ (v :: vs) ++ cs.drop (off + (v :: vs).length)) room fam ver true pl (st + 1)), fams := H.fams.set fam (ver, ver) }, ?_, ?_, ?_⟩
      · simp only [Heap.stores, hs, cond_true, Heap.write, h1, h2, hroom, hov]
        rw [show Nat.beq ver ver = true from Nat.beq_refl ver, show Nat.ble fr ver = true from Nat.ble_eq_true_of_le h3]
        rfl
      · refine .inr ⟨id, e, room, fam, ver, pl, st + 1, ver, rfl, T.get_set_same _ _ _, T.get_set_same _ _ _, Nat.le_refl _, h4, h5, ?_⟩
        rw [← h7]
        simp only [List.length_append, List.length_take, List.length_drop]
        omega
      · have hid := hw.blk _ _ h1
        have hfam := hw.fams _ _ h2
        refine ⟨⟨?_, ?_, ?_⟩, Nat.le_refl _, fun i hi => ?_, fun f hf => ?_⟩
        · intro i b hb
          simp only [T.get_set] at hb ⊢
          split at hb
          · omega
          · exact hw.blk _ _ hb
        · intro f x hf
          simp only [T.get_set] at hf ⊢
          split at hf
          · omega
          · exact hw.fams _ _ hf
        · intro i c r f v' w p s hb
          simp only [T.get_set] at hb ⊢
          split at hb
          · cases hb; exact hfam
          · exact hw.fam _ _ _ _ _ _ _ _ hb
        · simp only [T.get_set]; rw [if_neg (by omega)]
        · simp only [T.get_set]; rw [if_neg (by omega)]
theorem Own.cellsQ {H : Heap} {B z id n e : Nat} {cs : List V} (h : Own H B z (.sl id 0 n n (some e) z) n cs) : H.cells? id = some cs := by
  rcases h with ⟨h, _⟩ | ⟨id', e', room, fam, ver, pl, st, fr, q, h1, h2, h3, h4, h5, h7⟩
  · cases h
  · cases q
    simp only [Heap.cells?, h1, h2]
    rw [show Nat.ble fr ver = true from Nat.ble_eq_true_of_le h3]
    rfl
theorem Own.form {H : Heap} {B z : Nat} {v : V} {n : Nat} {cs : List V} (h : Own H B z v n cs) (hn : 0 < n) : ∃ id e, v = .sl id 0 n n (some e) z := by
  rcases h with ⟨_, h, _⟩ | ⟨id', e', room, fam, ver, pl, st, fr, q, _⟩
  · omega
  · exact ⟨id', e', q⟩
theorem Own.sort {H : Heap} {B : Nat} {v : V} {ss : List Bs} (h : Own H B 1 v ss.length (ss.map V.str)) (hw : WF H) (hl : ss.length < 4611686018427387904) :
    ∃ H', (∀ τ, sortP [v] H τ = some (.tup [], H', τ)) ∧ Own H' B 1 v (sorted ss).length ((sorted ss).map V.str) ∧ Gr B H H' := by
  have hlen : (sorted ss).length = ss.length := (sorted_ok ss).2.2
  by_cases h0 : ss = []
  · subst h0
    have hs : sorted [] = [] := by unfold sorted; simp
    refine ⟨H, fun τ => ?_, by rw [hs]; exact h, Gr.refl hw⟩
    rcases h with ⟨rfl, _, _⟩ | ⟨id, e, room, fam, ver, pl, st, fr, rfl, _⟩ <;> rfl
  · have hpos := List.length_pos_iff.2 h0
    obtain ⟨id, e, rfl⟩ := Own.form h hpos
    obtain ⟨H', s1, o1, g1⟩ := Own.stores h hw 0 ((sorted ss).map V.str) (by simp [hlen]) (strs_scal _)
    have hld : H.loads id 0 ss.length = some (ss.map V.str) := by
      rw [loads_cells (Own.cellsQ h) (by simp), List.drop_zero]
      rw [show ss.length = (ss.map V.str).length by simp, List.take_length]
    refine ⟨H', fun τ => ?_, ?_, g1⟩
    · obtain ⟨m, hm⟩ : ∃ m, ss.length = m + 1 := ⟨ss.length - 1, by omega⟩
      have hb : Nat.blt ss.length 4611686018427387904 = true := by simp [Nat.blt]; omega
      rw [hm] at hld hb ⊢
      simp only [sortP, Nat.beq_refl, hb, Bool.and_self, cond_true, hld, strsOf_map, s1]
    · rw [hlen]
      have : (List.map V.str ss).take 0 ++ List.map V.str (sorted ss) ++ (List.map V.str ss).drop (0 + (List.map V.str (sorted ss)).length) = List.map V.str (sorted ss) := by
        rw [List.drop_eq_nil_of_le (by simp [hlen])]; simp
      rw [this] at o1
      exact o1
theorem Own.compact {H : Heap} {B : Nat} {v : V} {ss : List Bs} (h : Own H B 1 v ss.length (ss.map V.str)) (hw : WF H) (hl : ss.length < 4611686018427387904) :
    ∃ v' H', (∀ τ, compactP [v] H τ = some (v', H', τ)) ∧ Rd H' 1 v' (compL ss).length ((compL ss).map V.str) ∧ Src H' v' ∧ Gr B H H' := by
  have hle := compL_le ss
  by_cases h0 : ss = []
  · subst h0
    have hs : compL [] = [] := List.eq_nil_of_length_eq_zero (by simpa using hle)
    rw [hs]
    refine ⟨v, H, fun τ => ?_, h.rd, h.src, Gr.refl hw⟩
    rcases h with ⟨rfl, _, _⟩ | ⟨id, e, room, fam, ver, pl, st, fr, rfl, _⟩ <;> rfl
  · have hpos := List.length_pos_iff.2 h0
    obtain ⟨id, e, rfl⟩ := Own.form h hpos
    have hpl : ((compL ss ++ List.replicate (ss.length - (compL ss).length) []).map V.str).length = (ss.map V.str).length := by
      rw [List.length_map, List.length_map, List.length_append, List.length_replicate]; omega
    obtain ⟨H', s1, o1, g1⟩ := Own.stores h hw 0 ((compL ss ++ List.replicate (ss.length - (compL ss).length) []).map V.str) (by rw [hpl]; omega) (strs_scal _)
    have hld : H.loads id 0 ss.length = some (ss.map V.str) := by
      rw [loads_cells (Own.cellsQ h) (by simp), List.drop_zero]
      rw [show ss.length = (ss.map V.str).length by simp, List.take_length]
    have hcs : H'.cells? id = some ((compL ss ++ List.replicate (ss.length - (compL ss).length) []).map V.str) := by
      have := Own.cellsQ o1
      rw [List.take_zero, List.nil_append, Nat.zero_add, hpl, List.drop_length, List.append_nil] at this
      exact this
    refine ⟨.sl id 0 (compL ss).length ss.length (some e) 1, H', fun τ => ?_, .inr ⟨id, 0, _, _, _, rfl, hcs, ?_, by simp⟩, ⟨_, hcs⟩, g1⟩
    · obtain ⟨m, hm⟩ : ∃ m, ss.length = m + 1 := ⟨ss.length - 1, by omega⟩
      have hb : Nat.ble ss.length 9223372036854775807 = true := Nat.ble_eq_true_of_le (by omega)
      rw [hm] at hb hld
      rw [hm]
      simp only [compactP, Nat.beq_refl, hb, Bool.and_self, cond_true, hld, strsOf_map, s1]
    · rw [List.drop_zero, Nat.mul_one, List.map_append]
      have : (compL ss).length = ((compL ss).map V.str).length := by simp
      rw [this, List.take_left]
end Go.Am.X


namespace Go.Am.X
set_option linter.unusedSimpArgs false
set_option linter.unusedVariables false
set_option linter.unusedSectionVars false
set_option maxRecDepth 100000
theorem p_headers_is : ∀ base w0, PrimOk PG base w0 f_headers_is (outP RNamedR) := by
  refine primOk_E 4 _ ?_
  rintro vs H o hw hvs ⟨hp, rfl⟩ τ
  unfold NamedPre at hp; split at hp
  · rename_i a b n
    obtain ⟨H', τ', g, k⟩ := d_headers_is nb 4 (by omega) n hp.2 a b hp.1 H hw τ retK
    exact ⟨_, H', τ', k, g, rfl, trivial⟩
  · exact hp.elim
abbrev NIsOk (c : CallK) : Prop := ∀ (h : Hd) (n : Bs), h.1.length ≤ 140737488355328 → n.length ≤ 140737488355328 → ∀ H τ q, c f_headers_is [hv h, .str n] H τ q = q (.bool (named n h)) H τ
theorem k_headers_is {c : CallK} (h : IsP c f_headers_is RNamedR) : NIsOk c := fun hd n h1 h2 H τ q => RV_call h (vs := [.agg [.str hd.1, .str hd.2], .str n]) ⟨h1, h2⟩ H τ q
def scT : Bs := [115, 101, 116, 45, 99, 111, 111, 107, 105, 101]
def lowN (hs : List Hd) : List Bs := hs.map fun h => lower h.1
def oneT (hs : List Hd) (n : Bs) : List Hd := bif n == scT then (hs.filter (named n)).map (fun h => (n, h.2)) else [(n, getT n hs)]
def sortT (hs : List Hd) : List Hd := (srtT (lowN hs)).flatMap (oneT hs)
theorem oneT_len (hs : List Hd) (n : Bs) : (oneT hs n).length ≤ hs.length + 1 := by
  unfold oneT
  cases (n == scT) with
  | true => rw [cond_true, List.length_map]; have := List.length_filter_le (named n) hs; omega
  | false => simp
theorem flat_len (hs : List Hd) : ∀ (l : List Bs), (l.flatMap (oneT hs)).length ≤ l.length * (hs.length + 1) := by
  intro l
  induction l with
  | nil => simp
  | cons n l ih =>
    have := oneT_len hs n
    rw [List.flatMap_cons, List.length_append, List.length_cons, Nat.succ_mul]; omega
theorem lowN_len (hs : List Hd) : (srtT (lowN hs)).length ≤ hs.length := by
  have := (srtT_ok (lowN hs)).2.2
  simpa [lowN] using this
theorem lower_len (s : Bs) : (lower s).length = s.length := by simp [lower]
theorem lowN_small {hs : List Hd} (hS : Small hs) : ∀ n ∈ srtT (lowN hs), n.length ≤ 10000 := by
  intro n hn
  have := ((srtT_ok (lowN hs)).2.1 n).1 hn
  unfold lowN at this
  obtain ⟨h, hh, rfl⟩ := List.mem_map.1 this
  rw [lower_len]; exact (hS.all h hh).1
abbrev SortPre (hs : List Hd) : List V → Prop | [] => Small hs ∧ hs.length ≤ 900 | _ => False
abbrev SortG (_ : Bool) (hs : List Hd) : List V → Out | [] => lstO 2 (sortT hs).length (hcells (sortT hs)) (fun v => v) | _ => .val (.tup [])
theorem k_Sorted {c : CallK} {f : Nat} (h : IsP c f (RH SortPre SortG)) {hs : List Hd} (hS : Small hs) (h9 : hs.length ≤ 900) {lv : V} {H : Heap} (hw : WF H) (hr : RdH H lv hs) (τ : Tape) :
    ∃ v' H' τ', Own H' H.size 2 v' (sortT hs).length (hcells (sortT hs)) ∧ Gr H.size H H' ∧ ∀ q, c f [lv] H τ q = q v' H' τ' :=
  RH_lstO (l := []) h hr ⟨hS, h9⟩ rfl hw (by rw [hcells_length]) τ
theorem l_headers_Sorted_names (c : CallK) (N : Nat) (hL : ∀ (s : Bs), s.length ≤ 140737488355328 → ∀ H τ q, c f_infra_Lower [.str s] H τ q = q (.str (lower s)) H τ) (hs : List Hd) (hS : Small hs) (lv : V) (B : Nat) : ∀ (l pre : List Hd) (ov : V) (H : Heap) (τ : Tape) (m : Nat), hs = pre ++ l → l.length < m → WF H → B ≤ H.size → (∀ H', Gr B H H' → RdH H' lv hs) → LsS H B ov (lowN pre) →
    ∃ ov' H' τ', LsS H' B ov' (lowN hs) ∧ Gr B H H' ∧ ∀ (fr : T V) k, fr.get 0 = some lv → fr.get 3 = some ov → fr.get 13 = some lv → fr.get 14 = some (.int .i64 (hs.length : Int)) → fr.get 15 = some (.int .i64 (pre.length : Int)) →
      loopK (s_headers_Sorted_l6 c N) m ⟨fr, H⟩ τ k = k (.exit 0) ⟨(T.set (T.set .leaf 0 lv) 3 ov'), H'⟩ τ' := by
  intro l
  induction l with
  | nil =>
    intro pre ov H τ m he hm hw hB hrd ho
    obtain ⟨m, rfl⟩ : ∃ j, m = j + 1 := ⟨m - 1, by omega⟩
    have e1 : decide (pre.length < hs.length) = false := decide_eq_false (by rw [he]; simp)
    refine ⟨ov, H, τ, by rw [he, List.append_nil]; exact ho, Gr.refl hw, fun fr k f0 f3 f13 f14 f15 => ?_⟩
    rw [loopK_succ]
    simp only [s_headers_Sorted_l6, getK_mk f0, getK_mk f3, getK_mk f13, getK_mk f14, getK_mk f15, getK_set, ↓reduceIte, Nat.reduceEqDiff, someK_n, effK_n, retK, gK_do, gK_do', gK_skip, gK_skip', gK_none, pick_mk, cond_true, cond_false, condK_tn, condK_fn, bin_eql, bin_neq, bin_lss, bin_leq, bin_gtr, bin_geq, un_not, Bool.not_true, Bool.not_false, bin_str, lenS_mk, nle_l, nle_r, nle_n, nlt_l, nlt_r, nlt_n, neq_r, neq_n, nne_r, nne_n, ext0, ext1, ext30, ext31, ext32, bin_add, bin_sub, decide_true, decide_false, e1]
    rfl
  | cons x l ih =>
    intro pre ov H τ m he hm hw hB hrd ho
    obtain ⟨m, rfl⟩ : ∃ j, m = j + 1 := ⟨m - 1, by omega⟩
    have hlt : pre.length < hs.length := by rw [he]; simp
    have hl := hS.len
    have e1 : decide (pre.length < hs.length) = true := decide_eq_true hlt
    have e3 : wr .i64 ((pre.length : Int) + Int.ofNat 1) = ((pre ++ [x]).length : Int) := by rw [adI (by omega)]; simp
    have hr := (hrd H (Gr.refl hw)).1
    obtain ⟨id, o, p1, p2⟩ := hd_at (v := lv) pre x l (H := H) (by rw [← he]; exact hr)
    obtain ⟨q1, q2, q3⟩ := p2 H (by rw [← he]; exact hr)
    obtain ⟨H1, H2, a1, s1, b2, g2, lt2⟩ := box2 hw (.str x.1) (.str x.2) (.str []) (.str []) rfl rfl τ
    have s1' : eStore 2 [.ptr H.size 0, hv x] H1 τ = some (.tup [], H2, τ) := s1
    have l1a : lLoad1 [.ptr H.size 0] H2 = some (.str x.1) := load_cell b2.cells rfl
    have fa : pFieldAddr 0 [.ptr H.size 0] = some (.ptr H.size 0) := rfl
    have hx := hS.all x (by rw [he]; simp)
    have kl := hL x.1 (by omega)
    have ho2 := ho.gr g2 hw (Nat.le_refl _)
    have gB2 := g2.weaken hB
    obtain ⟨w, H3, v', H4, τ4, r1, r2, r3, r4⟩ := ho2.put g2.wf (Nat.le_trans hB g2.size) (lower x.1) (by simp [lowN]; omega) τ
    have gB4 := gB2.trans r4 (Nat.le_refl _)
    obtain ⟨ov', H', τ', i1, i2, i3⟩ := ih (pre ++ [x]) v' H4 τ4 m (by rw [he]; simp) (by simp at hm; omega) r4.wf (Nat.le_trans hB gB4.size) (fun H' hg => hrd H' (gB4.trans hg (Nat.le_refl _))) (by simpa [lowN] using r3)
    refine ⟨ov', H', τ', i1, gB4.trans i2 (Nat.le_refl _), fun fr k f0 f3 f13 f14 f15 => ?_⟩
    rw [loopK_succ]
    simp only [s_headers_Sorted_l6, getK_mk f0, getK_mk f3, getK_mk f13, getK_mk f14, getK_mk f15, getK_set, ↓reduceIte, Nat.reduceEqDiff, someK_n, effK_n, retK, gK_do, gK_do', gK_skip, gK_skip', gK_none, pick_mk, cond_true, cond_false, condK_tn, condK_fn, bin_eql, bin_neq, bin_lss, bin_leq, bin_gtr, bin_geq, un_not, Bool.not_true, Bool.not_false, bin_str, lenS_mk, nle_l, nle_r, nle_n, nlt_l, nlt_r, nlt_n, neq_r, neq_n, nne_r, nne_n, ext0, ext1, ext30, ext31, ext32, bin_add, bin_sub, decide_true, decide_false, e1, p1, q1, a1, s1', fa, l1a, kl, r1, r2, e3]
    exact i3 _ k (by simp [T.get_set]) (by simp [T.get_set]) (by simp [T.get_set]) (by simp [T.get_set]) (by simp [T.get_set])
theorem l_headers_Sorted_ck (c : CallK) (N : Nat) (hNm : NIsOk c) (hs : List Hd) (hS : Small hs) (lv v29 v30 v31 : V) (n : Bs) (hn : n.length ≤ 10000) (acc : List Hd) (B : Nat) (hacc : acc.length ≤ 998000) : ∀ (l pre : List Hd) (ov : V) (H : Heap) (τ : Tape) (m : Nat), hs = pre ++ l → l.length < m → WF H → B ≤ H.size → (∀ H', Gr B H H' → RdH H' lv hs) → LsH H B ov (acc ++ (pre.filter (named n)).map (fun h => (n, h.2))) →
    ∃ ov' H' τ', LsH H' B ov' (acc ++ (hs.filter (named n)).map (fun h => (n, h.2))) ∧ Gr B H H' ∧ ∀ (fr : T V) k, fr.get 0 = some lv → fr.get 6 = some ov → fr.get 8 = some (.str n) → fr.get 29 = some v29 → fr.get 30 = some v30 → fr.get 31 = some v31 → fr.get 49 = some lv → fr.get 50 = some (.int .i64 (hs.length : Int)) → fr.get 51 = some (.int .i64 (pre.length : Int)) →
      loopK (s_headers_Sorted_l4 c N) m ⟨fr, H⟩ τ k = k (.exit 4) ⟨(T.set (T.set (T.set (T.set (T.set .leaf 0 lv) 6 ov') 29 v29) 30 v30) 31 v31), H'⟩ τ' := by
  intro l
  induction l with
  | nil =>
    intro pre ov H τ m he hm hw hB hrd ho
    obtain ⟨m, rfl⟩ : ∃ j, m = j + 1 := ⟨m - 1, by omega⟩
    have e1 : decide (pre.length < hs.length) = false := decide_eq_false (by rw [he]; simp)
    refine ⟨ov, H, τ, by rw [he, List.append_nil]; exact ho, Gr.refl hw, fun fr k f0 f6 f8 f29 f30 f31 f49 f50 f51 => ?_⟩
    rw [loopK_succ]
    simp only [s_headers_Sorted_l4, getK_mk f0, getK_mk f6, getK_mk f8, getK_mk f29, getK_mk f30, getK_mk f31, getK_mk f49, getK_mk f50, getK_mk f51, getK_set, ↓reduceIte, Nat.reduceEqDiff, someK_n, effK_n, retK, gK_do, gK_do', gK_skip, gK_skip', gK_none, pick_mk, cond_true, cond_false, condK_tn, condK_fn, bin_eql, bin_neq, bin_lss, bin_leq, bin_gtr, bin_geq, un_not, Bool.not_true, Bool.not_false, bin_str, lenS_mk, nle_l, nle_r, nle_n, nlt_l, nlt_r, nlt_n, neq_r, neq_n, nne_r, nne_n, ext0, ext1, ext30, ext31, ext32, bin_add, bin_sub, decide_true, decide_false, e1]
    rfl
  | cons x l ih =>
    intro pre ov H τ m he hm hw hB hrd ho
    obtain ⟨m, rfl⟩ : ∃ j, m = j + 1 := ⟨m - 1, by omega⟩
    have hlt : pre.length < hs.length := by rw [he]; simp
    have hl := hS.len
    have e1 : decide (pre.length < hs.length) = true := decide_eq_true hlt
    have e3 : wr .i64 ((pre.length : Int) + Int.ofNat 1) = ((pre ++ [x]).length : Int) := by rw [adI (by omega)]; simp
    have hr := (hrd H (Gr.refl hw)).1
    obtain ⟨id, o, p1, p2⟩ := hd_at (v := lv) pre x l (H := H) (by rw [← he]; exact hr)
    obtain ⟨q1, q2, q3⟩ := p2 H (by rw [← he]; exact hr)
    obtain ⟨H1, H2, a1, s1, b2, g2, lt2⟩ := box2 hw (.str x.1) (.str x.2) (.str []) (.str []) rfl rfl τ
    have s1' : eStore 2 [.ptr H.size 0, hv x] H1 τ = some (.tup [], H2, τ) := s1
    have l1 : lLoadN 2 [.ptr H.size 0] H2 = some (hv x) := load_cells b2.cells (by simp)
    have l1b : lLoad1 [.ptr H.size 1] H2 = some (.str x.2) := load_cell b2.cells rfl
    have fa : pFieldAddr 1 [.ptr H.size 0] = some (.ptr H.size 1) := rfl
    have hx := hS.all x (by rw [he]; simp)
    have kn := fun H τ q => hNm x n (by omega) (by omega) H τ q
    have ho2 := ho.gr g2 hw (Nat.le_refl _)
    have gB2 := g2.weaken hB
    cases hb : named n x with
    | false =>
      obtain ⟨ov', H', τ', i1, i2, i3⟩ := ih (pre ++ [x]) ov H2 τ m (by rw [he]; simp) (by simp at hm; omega) g2.wf (Nat.le_trans hB g2.size) (fun H' hg => hrd H' (gB2.trans hg (Nat.le_refl _))) (by rw [List.filter_append]; simpa [hb] using ho2)
      refine ⟨ov', H', τ', i1, gB2.trans i2 (Nat.le_refl _), fun fr k f0 f6 f8 f29 f30 f31 f49 f50 f51 => ?_⟩
      rw [loopK_succ]
      simp only [s_headers_Sorted_l4, getK_mk f0, getK_mk f6, getK_mk f8, getK_mk f29, getK_mk f30, getK_mk f31, getK_mk f49, getK_mk f50, getK_mk f51, getK_set, ↓reduceIte, Nat.reduceEqDiff, someK_n, effK_n, retK, gK_do, gK_do', gK_skip, gK_skip', gK_none, pick_mk, cond_true, cond_false, condK_tn, condK_fn, bin_eql, bin_neq, bin_lss, bin_leq, bin_gtr, bin_geq, un_not, Bool.not_true, Bool.not_false, bin_str, lenS_mk, nle_l, nle_r, nle_n, nlt_l, nlt_r, nlt_n, neq_r, neq_n, nne_r, nne_n, ext0, ext1, ext30, ext31, ext32, bin_add, bin_sub, decide_true, decide_false, e1, p1, q1, a1, s1', l1, kn, hb, s_headers_Sorted_j5, e3]
      exact i3 _ k (by simp [T.get_set]) (by simp [T.get_set]) (by simp [T.get_set]) (by simp [T.get_set]) (by simp [T.get_set]) (by simp [T.get_set]) (by simp [T.get_set]) (by simp [T.get_set]) (by simp [T.get_set])
    | true =>
      have pb : pBuild [(.str []), (.str [])] [(0, 1), (1, 1)] [.str n, .str x.2] = some (hv (n, x.2)) := rfl
      have hfl := List.length_filter_le (named n) pre
      obtain ⟨w, H3, v', H4, τ4, r1, r2, r3, r4, _, _⟩ := ho2.put g2.wf (Nat.le_trans hB g2.size) (n, x.2) (by simp; omega) τ
      have gB4 := gB2.trans r4 (Nat.le_refl _)
      obtain ⟨ov', H', τ', i1, i2, i3⟩ := ih (pre ++ [x]) v' H4 τ4 m (by rw [he]; simp) (by simp at hm; omega) r4.wf (Nat.le_trans hB gB4.size) (fun H' hg => hrd H' (gB4.trans hg (Nat.le_refl _))) (by rw [List.filter_append]; simpa [hb] using r3)
      refine ⟨ov', H', τ', i1, gB4.trans i2 (Nat.le_refl _), fun fr k f0 f6 f8 f29 f30 f31 f49 f50 f51 => ?_⟩
      rw [loopK_succ]
      simp only [s_headers_Sorted_l4, getK_mk f0, getK_mk f6, getK_mk f8, getK_mk f29, getK_mk f30, getK_mk f31, getK_mk f49, getK_mk f50, getK_mk f51, getK_set, ↓reduceIte, Nat.reduceEqDiff, someK_n, effK_n, retK, gK_do, gK_do', gK_skip, gK_skip', gK_none, pick_mk, cond_true, cond_false, condK_tn, condK_fn, bin_eql, bin_neq, bin_lss, bin_leq, bin_gtr, bin_geq, un_not, Bool.not_true, Bool.not_false, bin_str, lenS_mk, nle_l, nle_r, nle_n, nlt_l, nlt_r, nlt_n, neq_r, neq_n, nne_r, nne_n, ext0, ext1, ext30, ext31, ext32, bin_add, bin_sub, decide_true, decide_false, e1, p1, q1, a1, s1', l1, kn, hb, fa, l1b, pb, r1, r2, s_headers_Sorted_j5, e3]
      exact i3 _ k (by simp [T.get_set]) (by simp [T.get_set]) (by simp [T.get_set]) (by simp [T.get_set]) (by simp [T.get_set]) (by simp [T.get_set]) (by simp [T.get_set]) (by simp [T.get_set]) (by simp [T.get_set])
theorem l_headers_Sorted (c : CallK) {N : Nat} (hN : 9223372036854775807 < N) (hG : IsP c f_headers_Get (RH GetPre GetG)) (hNm : NIsOk c) (hs : List Hd) (hS : Small hs) (h9 : hs.length ≤ 900) (lv nv : V) (ns : List Bs) (hns : ns.length ≤ hs.length) (hnl : ∀ n ∈ ns, n.length ≤ 10000) (B : Nat) : ∀ (l pre : List Bs) (ov : V) (H : Heap) (τ : Tape) (m : Nat), ns = pre ++ l → l.length < m → WF H → B ≤ H.size → (∀ H', Gr B H H' → RdH H' lv hs) → (∀ H', Gr B H H' → Rd H' 1 nv ns.length (ns.map V.str)) → LsH H B ov (pre.flatMap (oneT hs)) →
    ∃ ov' H' τ', LsH H' B ov' (ns.flatMap (oneT hs)) ∧ Gr B H H' ∧ ∀ (fr : T V) k, fr.get 0 = some lv → fr.get 6 = some ov → fr.get 29 = some nv → fr.get 30 = some (.int .i64 (ns.length : Int)) → fr.get 31 = some (.int .i64 (pre.length : Int)) →
      loopK (s_headers_Sorted_l2 c N) m ⟨fr, H⟩ τ k = k (.exit 2) ⟨(T.set .leaf 6 ov'), H'⟩ τ' := by
  intro l
  induction l with
  | nil =>
    intro pre ov H τ m he hm hw hB hrd hnd ho
    obtain ⟨m, rfl⟩ : ∃ j, m = j + 1 := ⟨m - 1, by omega⟩
    have e1 : decide (pre.length < ns.length) = false := decide_eq_false (by rw [he]; simp)
    refine ⟨ov, H, τ, by rw [he, List.append_nil]; exact ho, Gr.refl hw, fun fr k f0 f6 f29 f30 f31 => ?_⟩
    rw [loopK_succ]
    simp only [s_headers_Sorted_l2, getK_mk f0, getK_mk f6, getK_mk f29, getK_mk f30, getK_mk f31, getK_set, ↓reduceIte, Nat.reduceEqDiff, someK_n, effK_n, retK, gK_do, gK_do', gK_skip, gK_skip', gK_none, pick_mk, cond_true, cond_false, condK_tn, condK_fn, bin_eql, bin_neq, bin_lss, bin_leq, bin_gtr, bin_geq, un_not, Bool.not_true, Bool.not_false, bin_str, lenS_mk, nle_l, nle_r, nle_n, nlt_l, nlt_r, nlt_n, neq_r, neq_n, nne_r, nne_n, ext0, ext1, ext30, ext31, ext32, bin_add, bin_sub, decide_true, decide_false, e1]
    rfl
  | cons x l ih =>
    intro pre ov H τ m he hm hw hB hrd hnd ho
    obtain ⟨m, rfl⟩ : ∃ j, m = j + 1 := ⟨m - 1, by omega⟩
    have hlt : pre.length < ns.length := by rw [he]; simp
    have hl := hS.len
    have e1 : decide (pre.length < ns.length) = true := decide_eq_true hlt
    have e3 : wr .i64 ((pre.length : Int) + Int.ofNat 1) = ((pre ++ [x]).length : Int) := by rw [adI (by omega)]; simp
    have hnr := hnd H (Gr.refl hw)
    have hrl := hrd H (Gr.refl hw)
    have pl := hrl.1.pLen
    have hj : (ns.map V.str)[pre.length]? = some (.str x) := by rw [he]; simp
    obtain ⟨pn, n1, n2⟩ := hnr.elem1 hj
    have hx := hnl x (by rw [he]; simp)
    have hacc : (pre.flatMap (oneT hs)).length ≤ 998000 := by
      have h1 := flat_len hs pre
      have h2 : pre.length * (hs.length + 1) ≤ 900 * 901 := Nat.mul_le_mul (by omega) (by omega)
      omega
    have ek : bs [115, 101, 116, 45, 99, 111, 111, 107, 105, 101] = scT := rfl
    cases hb : (x == scT) with
    | false =>
      have en : (x != scT) = true := by rw [bne, hb]; rfl
      have kg := fun τ q => k_Get hG hS (name := x) (by omega) hrl τ q
      have pb : pBuild [(.str []), (.str [])] [(0, 1), (1, 1)] [.str x, .str (getT x hs)] = some (hv (x, getT x hs)) := rfl
      obtain ⟨w, H1, v', H2, τ2, r1, r2, r3, r4, _, _⟩ := ho.put hw hB (x, getT x hs) (by omega) τ
      obtain ⟨ov', H', τ', i1, i2, i3⟩ := ih (pre ++ [x]) v' H2 τ2 m (by rw [he]; simp) (by simp at hm; omega) r4.wf (Nat.le_trans hB r4.size) (fun H' hg => hrd H' (r4.trans hg (Nat.le_refl _))) (fun H' hg => hnd H' (r4.trans hg (Nat.le_refl _))) (by rw [List.flatMap_append]; simpa [oneT, hb] using r3)
      refine ⟨ov', H', τ', i1, r4.trans i2 (Nat.le_refl _), fun fr k f0 f6 f29 f30 f31 => ?_⟩
      rw [loopK_succ]
      simp only [s_headers_Sorted_l2, getK_mk f0, getK_mk f6, getK_mk f29, getK_mk f30, getK_mk f31, getK_set, ↓reduceIte, Nat.reduceEqDiff, someK_n, effK_n, retK, gK_do, gK_do', gK_skip, gK_skip', gK_none, pick_mk, cond_true, cond_false, condK_tn, condK_fn, bin_eql, bin_neq, bin_lss, bin_leq, bin_gtr, bin_geq, un_not, Bool.not_true, Bool.not_false, bin_str, lenS_mk, nle_l, nle_r, nle_n, nlt_l, nlt_r, nlt_n, neq_r, neq_n, nne_r, nne_n, ext0, ext1, ext30, ext31, ext32, bin_add, bin_sub, decide_true, decide_false, e1, n1, n2, ek, str_neq, en, kg, pb, r1, r2, s_headers_Sorted_j3, e3]
      exact i3 _ k (by simp [T.get_set]) (by simp [T.get_set]) (by simp [T.get_set]) (by simp [T.get_set]) (by simp [T.get_set])
    | true =>
      have en : (x != scT) = false := by rw [bne, hb]; rfl
      obtain ⟨v', H2, τ2, r1, r2, r3⟩ := l_headers_Sorted_ck c N hNm hs hS lv nv (.int .i64 (ns.length : Int)) (.int .i64 (pre.length : Int)) x hx (pre.flatMap (oneT hs)) B hacc hs [] ov H τ N rfl (by omega) hw hB hrd (by simpa using ho)
      obtain ⟨ov', H', τ', i1, i2, i3⟩ := ih (pre ++ [x]) v' H2 τ2 m (by rw [he]; simp) (by simp at hm; omega) r2.wf (Nat.le_trans hB r2.size) (fun H' hg => hrd H' (r2.trans hg (Nat.le_refl _))) (fun H' hg => hnd H' (r2.trans hg (Nat.le_refl _))) (by rw [List.flatMap_append]; simpa [oneT, hb] using r1)
      refine ⟨ov', H', τ', i1, r2.trans i2 (Nat.le_refl _), fun fr k f0 f6 f29 f30 f31 => ?_⟩
      rw [loopK_succ]
      simp only [s_headers_Sorted_l2, getK_mk f0, getK_mk f6, getK_mk f29, getK_mk f30, getK_mk f31, pl, getK_set, ↓reduceIte, Nat.reduceEqDiff, someK_n, effK_n, retK, gK_do, gK_do', gK_skip, gK_skip', gK_none, pick_mk, cond_true, cond_false, condK_tn, condK_fn, bin_eql, bin_neq, bin_lss, bin_leq, bin_gtr, bin_geq, un_not, Bool.not_true, Bool.not_false, bin_str, lenS_mk, nle_l, nle_r, nle_n, nlt_l, nlt_r, nlt_n, neq_r, neq_n, nne_r, nne_n, ext0, ext1, ext30, ext31, ext32, bin_add, bin_sub, decide_true, decide_false, e1, n1, n2, ek, str_neq, en]
      rw [r3 _ _ (by simp [T.get_set]) (by simp [T.get_set]) (by simp [T.get_set]) (by simp [T.get_set]) (by simp [T.get_set]) (by simp [T.get_set]) (by simp [T.get_set]) (by simp [T.get_set]) (by simp [T.get_set])]
      simp only [blockK, Nat.beq_refl, cond_true, seqK, s_headers_Sorted_j3, getK_set, ↓reduceIte, Nat.reduceEqDiff, someK_n, effK_n, retK, gK_do, gK_do', gK_skip, gK_skip', gK_none, pick_mk, cond_true, cond_false, condK_tn, condK_fn, bin_eql, bin_neq, bin_lss, bin_leq, bin_gtr, bin_geq, un_not, Bool.not_true, Bool.not_false, bin_str, lenS_mk, nle_l, nle_r, nle_n, nlt_l, nlt_r, nlt_n, neq_r, neq_n, nne_r, nne_n, ext0, ext1, ext30, ext31, ext32, bin_add, bin_sub, decide_true, decide_false, e3]
      exact i3 _ k (by simp [T.get_set]) (by simp [T.get_set]) (by simp [T.get_set]) (by simp [T.get_set]) (by simp [T.get_set])
theorem s_headers_Sorted_ret (c : CallK) {N : Nat} (hN : 9223372036854775807 < N) (hL : ∀ (s : Bs), s.length ≤ 140737488355328 → ∀ H τ q, c f_infra_Lower [.str s] H τ q = q (.str (lower s)) H τ) (hG : IsP c f_headers_Get (RH GetPre GetG)) (hNm : NIsOk c) (hSr : ∀ vs H τ q, c f_slices_Sort_string vs H τ q = effK (sortP vs H τ) q) (hCo : ∀ vs H τ q, c f_slices_Compact_string vs H τ q = effK (compactP vs H τ) q) (hs : List Hd) (hS : Small hs) (h9 : hs.length ≤ 900) (lv : V) (H : Heap) (hw : WF H) (hr : RdH H lv hs) (τ : Tape) :
    ∃ v' H' τ', LsH H' H.size v' (sortT hs) ∧ Gr H.size H H' ∧ ∀ q, s_headers_Sorted c N lv H τ q = q v' H' τ' := by
  obtain ⟨v1, H1, τ1, i1, i2, i3⟩ := l_headers_Sorted_names c N hL hs hS lv H.size hs [] .nils H τ N rfl (by omega) hw (Nat.le_refl _) (fun H' hg => hr.gr hg hw (Nat.le_refl _)) (LsS.nil _ _)
  have hll : (lowN hs).length ≤ 900 := by simp [lowN]; omega
  obtain ⟨H2, j1, j2, j3⟩ := Own.sort i1.1 i2.wf (by omega)
  have hsl := (sorted_ok (lowN hs)).2.2
  obtain ⟨v3, H3, k1, k2, k3, k4⟩ := Own.compact j2 j3.wf (by omega)
  rw [compact_sorted] at k2
  have g13 := (i2.trans j3 (Nat.le_refl _)).trans k4 (Nat.le_refl _)
  have hr3 := hr.gr g13 hw (Nat.le_refl _)
  have pl := hr.1.pLen
  have pl3 := k2.pLen
  obtain ⟨v4, H4, τ4, m1, m2, m3⟩ := l_headers_Sorted c hN hG hNm hs hS h9 lv v3 (srtT (lowN hs)) (lowN_len hs) (lowN_small hS) H3.size (srtT (lowN hs)) [] .nils H3 τ1 N rfl (by have := lowN_len hs; omega) k4.wf (Nat.le_refl _) (fun H' hg => hr3.gr hg k4.wf (Nat.le_refl _)) (fun H' hg => k2.gr hg k4.wf (Nat.le_refl _)) (LsH.nil _ _)
  refine ⟨v4, H4, τ4, m1.weaken g13.size, g13.trans m2 g13.size, fun q => ?_⟩
  simp only [s_headers_Sorted, pl, someK_n]
  rw [i3 _ _ (by simp [T.get_set]) (by simp [T.get_set]) (by simp [T.get_set]) (by simp [T.get_set]) (by simp [T.get_set])]
  simp only [blockK, Nat.beq_refl, cond_true, seqK, s_headers_Sorted_j0, getK_set, ↓reduceIte, Nat.reduceEqDiff, someK_n, effK_n, retK, gK_do, gK_do', gK_skip, gK_skip', gK_none, pick_mk, cond_true, cond_false, condK_tn, condK_fn, bin_eql, bin_neq, bin_lss, bin_leq, bin_gtr, bin_geq, un_not, Bool.not_true, Bool.not_false, bin_str, lenS_mk, nle_l, nle_r, nle_n, nlt_l, nlt_r, nlt_n, neq_r, neq_n, nne_r, nne_n, ext0, ext1, ext30, ext31, ext32, bin_add, bin_sub, decide_true, decide_false, hSr, hCo, j1, k1, pl3]
  rw [m3 _ _ (by simp [T.get_set]) (by simp [T.get_set]) (by simp [T.get_set]) (by simp [T.get_set]) (by simp [T.get_set])]
  simp only [blockK, Nat.beq_refl, cond_true, seqK, s_headers_Sorted_j1, getK_set, ↓reduceIte, Nat.reduceEqDiff, someK_n, effK_n, retK, gK_do, gK_do', gK_skip, gK_skip', gK_none, pick_mk, cond_true, cond_false, condK_tn, condK_fn, bin_eql, bin_neq, bin_lss, bin_leq, bin_gtr, bin_geq, un_not, Bool.not_true, Bool.not_false, bin_str, lenS_mk, nle_l, nle_r, nle_n, nlt_l, nlt_r, nlt_n, neq_r, neq_n, nne_r, nne_n, ext0, ext1, ext30, ext31, ext32, bin_add, bin_sub, decide_true, decide_false]
noncomputable abbrev rw_HSorted : List Row := [Row.fn f_headers_Sorted fn_headers_Sorted e_headers_Sorted, Row.prim f_infra_Lower (outP LowR), Row.prim f_headers_Get (outP (RH GetPre GetG)), Row.prim f_headers_is (outP RNamedR), Row.prim f_slices_Sort_string sortP, Row.prim f_slices_Compact_string compactP]
theorem p_headers_Sorted : ∀ base w0, PrimOk PG base w0 f_headers_Sorted (outP (RH SortPre SortG)) := by
  obtain ⟨N, hN⟩ := someN
  refine primRH (N := N) (l := rw_HSorted) (.fn ok_headers_Sorted e_headers_Sorted_ok (.prim p_infra_Lower (.prim p_headers_Get (.prim p_headers_is (.prim sortP_ok (.prim compactP_ok (.nil _))))))) 2 _ (fun hs args hp lv H hw hr τ => ?_)
  unfold SortPre at hp; split at hp
  · obtain ⟨v', H', τ', h1, h2, h3⟩ := s_headers_Sorted_ret (CR rw_HSorted N 1) hN (fun s hs H τ q => callS (c := CR rw_HSorted N 1) (f := f_infra_Lower) (M := 140737488355328) (g := fun s => .str (lower s)) (fun _ _ _ _ => rfl) s hs H τ q) (fun _ _ _ _ => rfl) (k_headers_is fun _ _ _ _ => rfl) (fun _ _ _ _ => rfl) (fun _ _ _ _ => rfl) hs hp.1 hp.2 lv H hw hr τ
    exact ⟨_, H', τ', h2, LsH.met h1 mkOk_id trivial, h3⟩
  · exact hp.elim
end Go.Am.X


