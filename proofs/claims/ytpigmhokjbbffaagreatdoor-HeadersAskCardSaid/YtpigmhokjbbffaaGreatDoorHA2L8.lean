/- The abstract machine, printed functions of the program, and what they are shown to be. -/
import Derived.Test.YtpigmhokjbbffaaGreatDoorHA2L5
import Derived.Test.YtpigmhokjbbffaaGreatDoorHA2M3
import Derived.Test.YtpigmhokjbbffaaGreatDoorHA2L3
namespace Go.Am.X
set_option linter.unusedSimpArgs false
set_option linter.unusedVariables false
set_option linter.unusedSectionVars false
set_option maxRecDepth 100000
abbrev ltB (x y : Bs) : Prop := lessB x y = true
theorem lessB_cons (a b : UInt8) (x y : Bs) : lessB (a :: x) (b :: y) = (decide (a.toNat < b.toNat) || (decide (a.toNat = b.toNat) && lessB x y)) := by
  rw [lessB]
  have h1 : Nat.blt a.toNat b.toNat = decide (a.toNat < b.toNat) := by
    by_cases h : a.toNat < b.toNat
    · rw [decide_eq_true h]; simp [Nat.blt]; omega
    · rw [decide_eq_false h]; cases hb : Nat.blt a.toNat b.toNat with
      | false => rfl
      | true => exact absurd (Nat.le_of_ble_eq_true hb) h
  have h2 : Nat.beq a.toNat b.toNat = decide (a.toNat = b.toNat) := by
    by_cases h : a.toNat = b.toNat
    · rw [decide_eq_true h, h]; exact Nat.beq_refl _
    · rw [decide_eq_false h]; cases hb : Nat.beq a.toNat b.toNat with
      | false => rfl
      | true => exact absurd (Nat.eq_of_beq_eq_true hb) h
  rw [h1, h2]
theorem ltB_irrefl : ∀ (x : Bs), lessB x x = false := by
  intro x
  induction x with
  | nil => rfl
  | cons a x ih => rw [lessB_cons, ih]; simp
theorem ltB_no {x : Bs} (h : ltB x x) : False := by rw [ltB, ltB_irrefl] at h; cases h
theorem ltB_trans : ∀ (x y z : Bs), ltB x y → ltB y z → ltB x z := by
  intro x
  induction x with
  | nil =>
    intro y z h1 h2
    cases y with
    | nil => exact h2
    | cons b y => cases z with
      | nil => cases h2
      | cons c z => rfl
  | cons a x ih =>
    intro y z h1 h2
    cases y with
    | nil => cases h1
    | cons b y => cases z with
      | nil => cases h2
      | cons c z =>
        unfold ltB at *
        rw [lessB_cons, Bool.or_eq_true, Bool.and_eq_true, decide_eq_true_iff, decide_eq_true_iff] at h1 h2 ⊢
        rcases h1 with h1 | ⟨h1, h1'⟩ <;> rcases h2 with h2 | ⟨h2, h2'⟩
        · exact .inl (by omega)
        · exact .inl (by omega)
        · exact .inl (by omega)
        · exact .inr ⟨by omega, ih y z h1' h2'⟩
theorem ltB_tri : ∀ (x y : Bs), ltB x y ∨ x = y ∨ ltB y x := by
  intro x
  induction x with
  | nil => intro y; cases y with
    | nil => exact .inr (.inl rfl)
    | cons b y => exact .inl rfl
  | cons a x ih =>
    intro y
    cases y with
    | nil => exact .inr (.inr rfl)
    | cons b y =>
      unfold ltB
      rw [lessB_cons, lessB_cons, Bool.or_eq_true, Bool.and_eq_true, decide_eq_true_iff, decide_eq_true_iff, Bool.or_eq_true, Bool.and_eq_true, decide_eq_true_iff, decide_eq_true_iff]
      rcases Nat.lt_trichotomy a.toNat b.toNat with h | h | h
      · exact .inl (.inl h)
      · rcases ih y with k | k | k
        · exact .inl (.inr ⟨h, k⟩)
        · exact .inr (.inl (by rw [UInt8.toNat_inj.1 h, k]))
        · exact .inr (.inr (.inr ⟨h.symm, k⟩))
      · exact .inr (.inr (.inl h))
theorem lt_iff (x y : Bs) : x < y ↔ ltB x y := by
  induction x generalizing y with
  | nil => cases y with
    | nil => exact ⟨fun h => (by cases h), fun h => (by cases h)⟩
    | cons b y => exact ⟨fun _ => rfl, fun _ => List.Lex.nil⟩
  | cons a x ih =>
    cases y with
    | nil => exact ⟨fun h => (by cases h), fun h => (by cases h)⟩
    | cons b y =>
      unfold ltB
      rw [lessB_cons, Bool.or_eq_true, Bool.and_eq_true, decide_eq_true_iff, decide_eq_true_iff, List.cons_lt_cons_iff, ih y, UInt8.lt_iff_toNat_lt, UInt8.toNat_inj]
/-- lists in order, each once -/
abbrev SrtB (l : List Bs) : Prop := l.Pairwise ltB
theorem srt_uniq : ∀ (a b : List Bs), SrtB a → SrtB b → (∀ x, x ∈ a ↔ x ∈ b) → a = b := by
  intro a
  induction a with
  | nil => intro b _ _ h; cases b with
    | nil => rfl
    | cons y b => exact absurd ((h y).2 (by simp)) (by simp)
  | cons x a ih =>
    intro b ha hb h
    cases b with
    | nil => exact absurd ((h x).1 (by simp)) (by simp)
    | cons y b =>
      rw [SrtB, List.pairwise_cons] at ha hb
      have hxy : x = y := by
        rcases List.mem_cons.1 ((h x).1 (by simp)) with e | e
        · exact e
        · rcases List.mem_cons.1 ((h y).2 (by simp)) with e' | e'
          · exact e'.symm
          · have h1 := hb.1 x e
            have h2 := ha.1 y e'
            exact (ltB_no (ltB_trans _ _ _ h1 h2)).elim
      subst hxy
      congr 1
      refine ih b ha.2 hb.2 fun z => ⟨fun hz => ?_, fun hz => ?_⟩
      · rcases List.mem_cons.1 ((h z).1 (by simp [hz])) with e | e
        · subst e; exact (ltB_no (ha.1 z hz)).elim
        · exact e
      · rcases List.mem_cons.1 ((h z).2 (by simp [hz])) with e | e
        · subst e; exact (ltB_no (hb.1 z hz)).elim
        · exact e
/-- a text put into a list in order -/
def insB (x : Bs) : List Bs → List Bs
  | [] => [x]
  | y :: l => bif lessB y x then y :: insB x l else bif y == x then y :: l else x :: y :: l
theorem insB_mem (x : Bs) : ∀ (l : List Bs) (z : Bs), z ∈ insB x l ↔ z = x ∨ z ∈ l := by
  intro l
  induction l with
  | nil => intro z; simp [insB]
  | cons y l ih =>
    intro z
    rw [insB]
    cases lessB y x with
    | true => rw [cond_true, List.mem_cons, ih z, List.mem_cons]; constructor <;> (intro h; rcases h with h | h | h <;> simp [h])
    | false =>
      rw [cond_false]
      cases h : (y == x) with
      | true => rw [cond_true, ← beq_iff_eq.1 h]; simp
      | false => rw [cond_false]; simp
theorem insB_srt (x : Bs) : ∀ (l : List Bs), SrtB l → SrtB (insB x l) := by
  intro l
  induction l with
  | nil => intro _; simp [insB]
  | cons y l ih =>
    intro h
    rw [SrtB, List.pairwise_cons] at h
    rw [insB]
    cases h1 : lessB y x with
    | true =>
      rw [cond_true, SrtB, List.pairwise_cons]
      refine ⟨fun z hz => ?_, ih h.2⟩
      rcases (insB_mem x l z).1 hz with e | e
      · rw [e]; exact h1
      · exact h.1 z e
    | false =>
      rw [cond_false]
      cases h2 : (y == x) with
      | true => rw [cond_true, SrtB, List.pairwise_cons]; exact h
      | false =>
        rw [cond_false, SrtB, List.pairwise_cons]
        have hxy : ltB x y := by
          rcases ltB_tri x y with k | k | k
          · exact k
          · exact absurd k.symm (beq_eq_false_iff_ne.1 h2)
          · have k' : lessB y x = true := k
            rw [h1] at k'; cases k'
        refine ⟨fun z hz => ?_, by rw [List.pairwise_cons]; exact h⟩
        rcases List.mem_cons.1 hz with e | e
        · rw [e]; exact hxy
        · exact ltB_trans _ _ _ hxy (h.1 z e)
theorem insB_len (x : Bs) : ∀ (l : List Bs), (insB x l).length ≤ l.length + 1 := by
  intro l
  induction l with
  | nil => simp [insB]
  | cons y l ih =>
    rw [insB]
    cases lessB y x with
    | true => rw [cond_true]; simp; omega
    | false => rw [cond_false]; cases (y == x) <;> simp
def srtT (ss : List Bs) : List Bs := ss.foldl (fun acc x => insB x acc) []
theorem srtT_snoc (pre : List Bs) (x : Bs) : srtT (pre ++ [x]) = insB x (srtT pre) := by unfold srtT; rw [List.foldl_append]; rfl
theorem srtT_ok (ss : List Bs) : SrtB (srtT ss) ∧ (∀ z, z ∈ srtT ss ↔ z ∈ ss) ∧ (srtT ss).length ≤ ss.length := by
  have key : ∀ (ss acc : List Bs), SrtB acc → SrtB (ss.foldl (fun acc x => insB x acc) acc) ∧ (∀ z, z ∈ ss.foldl (fun acc x => insB x acc) acc ↔ z ∈ acc ∨ z ∈ ss) ∧ (ss.foldl (fun acc x => insB x acc) acc).length ≤ acc.length + ss.length := by
    intro ss
    induction ss with
    | nil => intro acc h; exact ⟨h, fun z => by simp, by simp⟩
    | cons x ss ih =>
      intro acc h
      obtain ⟨a, b, c⟩ := ih (insB x acc) (insB_srt x acc h)
      have := insB_len x acc
      refine ⟨a, fun z => ?_, by simp only [List.foldl_cons, List.length_cons]; omega⟩
      rw [List.foldl_cons, b z, insB_mem, List.mem_cons]
      constructor
      · rintro ((h | h) | h) <;> simp [h]
      · rintro (h | h | h) <;> simp [h]
  obtain ⟨a, b, c⟩ := key ss [] (by simp)
  exact ⟨a, fun z => (b z).trans (by simp), by unfold srtT; simpa using c⟩
theorem compL_ok (zs : List Bs) (h : zs.Pairwise fun a b => ¬ ltB b a) : SrtB (compL zs) ∧ ∀ z, z ∈ compL zs ↔ z ∈ zs := by
  have hget : ∀ j, j < zs.length → zs.toArray[j]! = zs[j]! := fun j hj => by simp
  have hle : ∀ i j, i < j → j < zs.length → ¬ ltB (zs.toArray[j]!) (zs.toArray[i]!) := by
    intro i j hij hj
    have := List.pairwise_iff_getElem.1 h i j (by omega) hj hij
    simpa [getElem!_pos, hj, (show i < zs.length by omega)] using this
  have key : ∀ m, m ≤ zs.length → SrtB (Lib.compactUpTo zs.toArray m) ∧ ∀ z, z ∈ Lib.compactUpTo zs.toArray m ↔ ∃ j, j < m ∧ zs.toArray[j]! = z := by
    intro m
    induction m with
    | zero => intro _; exact ⟨by simp [Lib.compactUpTo], fun z => by simp [Lib.compactUpTo]⟩
    | succ m ih =>
      intro hm
      obtain ⟨a, b⟩ := ih (by omega)
      rw [Lib.compactUpTo_succ]
      cases hk : Lib.keeps zs.toArray m with
      | true =>
        rw [if_pos rfl]
        refine ⟨?_, fun z => ?_⟩
        · rw [SrtB, List.pairwise_append]
          refine ⟨a, by simp, fun x hx y hy => ?_⟩
          obtain ⟨j, hj, rfl⟩ := (b x).1 hx
          rw [List.mem_singleton] at hy
          subst hy
          have hne : zs.toArray[m]! ≠ zs.toArray[m - 1]! := by
            have := of_decide_eq_true hk
            rcases this with h0 | h0
            · omega
            · exact h0
          have h1 : ltB (zs.toArray[m - 1]!) (zs.toArray[m]!) := by
            rcases ltB_tri (zs.toArray[m - 1]!) (zs.toArray[m]!) with k | k | k
            · exact k
            · exact absurd k.symm hne
            · exact absurd k (hle (m - 1) m (by omega) (by omega))
          by_cases e : j = m - 1
          · rw [e]; exact h1
          · rcases ltB_tri (zs.toArray[j]!) (zs.toArray[m - 1]!) with k | k | k
            · exact ltB_trans _ _ _ k h1
            · rw [k]; exact h1
            · exact absurd k (hle j (m - 1) (by omega) (by omega))
        · rw [List.mem_append, b z, List.mem_singleton]
          constructor
          · rintro (⟨j, hj, e⟩ | e)
            · exact ⟨j, by omega, e⟩
            · exact ⟨m, by omega, e.symm⟩
          · rintro ⟨j, hj, e⟩
            by_cases hjm : j = m
            · exact .inr (by rw [← e, hjm])
            · exact .inl ⟨j, by omega, e⟩
      | false =>
        rw [if_neg (by simp), List.append_nil]
        refine ⟨a, fun z => ?_⟩
        rw [b z]
        constructor
        · rintro ⟨j, hj, e⟩; exact ⟨j, by omega, e⟩
        · rintro ⟨j, hj, e⟩
          by_cases hjm : j = m
          · have := of_decide_eq_false hk
            have h0 : ¬ m = 0 := fun h => this (.inl h)
            have h1 : zs.toArray[m]! = zs.toArray[m - 1]! := by
              by_cases h : zs.toArray[m]! = zs.toArray[m - 1]!
              · exact h
              · exact absurd (.inr h) this
            exact ⟨m - 1, by omega, by rw [← h1, ← e, hjm]⟩
          · exact ⟨j, by omega, e⟩
  obtain ⟨a, b⟩ := key zs.length (Nat.le_refl _)
  refine ⟨a, fun z => ?_⟩
  have : compL zs = Lib.compactUpTo zs.toArray zs.length := rfl
  rw [this, b z]
  constructor
  · rintro ⟨j, hj, e⟩
    rw [hget j hj, getElem!_pos zs j hj] at e
    rw [← e]; exact List.getElem_mem hj
  · intro hz
    obtain ⟨j, hj, e⟩ := List.getElem_of_mem hz
    exact ⟨j, hj, by rw [hget j hj, getElem!_pos zs j hj]; exact e⟩
theorem le_of_ltB (x y : Bs) : x ≤ y ↔ ¬ ltB y x := by
  rw [← List.not_lt, lt_iff]
theorem sorted_ok (ss : List Bs) : (sorted ss).Pairwise (fun a b => ¬ ltB b a) ∧ (∀ z, z ∈ sorted ss ↔ z ∈ ss) ∧ (sorted ss).length = ss.length := by
  refine ⟨?_, fun z => by unfold sorted; exact List.mem_mergeSort, by unfold sorted; exact List.length_mergeSort _⟩
  have := List.pairwise_mergeSort (le := fun x y : Bs => decide (x ≤ y)) (fun a b c h1 h2 => by
    simp only [decide_eq_true_eq, le_of_ltB] at *
    rcases ltB_tri a b with k | k | k
    · rcases ltB_tri b c with j | j | j
      · intro e; have := ltB_trans _ _ _ (ltB_trans _ _ _ k j) e; exact ltB_no this
      · rw [← j]; exact h1
      · exact absurd j h2
    · rw [k]; exact h2
    · exact absurd k h1) (fun a b => by
    simp only [Bool.or_eq_true, decide_eq_true_eq, le_of_ltB]
    rcases ltB_tri a b with k | k | k
    · left; intro e; have := ltB_trans _ _ _ k e; exact ltB_no this
    · left; rw [k, ltB, ltB_irrefl]; simp
    · right; intro e; have := ltB_trans _ _ _ k e; exact ltB_no this) ss
  unfold sorted
  exact this.imp fun h => (le_of_ltB _ _).1 (of_decide_eq_true h)
/-- sorted and without doubles: one list -/
theorem compact_sorted (ss : List Bs) : compL (sorted ss) = srtT ss := by
  obtain ⟨h1, h2, _⟩ := sorted_ok ss
  obtain ⟨h3, h4⟩ := compL_ok (sorted ss) h1
  obtain ⟨h5, h6, _⟩ := srtT_ok ss
  exact srt_uniq _ _ h3 h5 fun x => by rw [h4, h2, h6]
theorem str_lss (x y : Bs) : strBin .lss x y = some (.bool (lessB x y)) := rfl
end Go.Am.X


namespace Go.Am.X
set_option linter.unusedSimpArgs false
set_option linter.unusedVariables false
set_option linter.unusedSectionVars false
set_option maxRecDepth 100000
theorem Own.stores {H : Heap} {B z id n e : Nat} {cs : List V} (h : Own H B z (.sl id 0 n n (some e) z) n cs) (hw : WF H) (off : Nat) (vs : List V) (hl : off + vs.length ≤ cs.length) (hs : vs.all V.scal = true) :
    ∃ H', H.stores id off vs = some H' ∧ Own H' B z (.sl id 0 n n (some e) z) n (cs.take off ++ vs ++ cs.drop (off + vs.length)) ∧ Gr B H H' := by
  rcases h with ⟨h, _⟩ | ⟨id', e', room, fam, ver, pl, st, fr, q, h1, h2, h3, h4, h5, h7⟩
  · cases h
  · cases q
    cases vs with
    | nil => exact ⟨H, rfl, by simpa using .inr ⟨id, e, room, fam, ver, pl, st, fr, rfl, h1, h2, h3, h4, h5, h7⟩, Gr.refl hw⟩
    | cons v vs =>
      have hroom : H.room? id = room := by simp only [Heap.room?, h1]
      have hov := over_in off room (v :: vs) cs hl
      refine ⟨{ size := H.size, blk := H.blk.set id (.mem (cs.take off ++ (v :: vs) ++ cs.drop (off + (v :: vs).length)) room fam ver true pl (st + 1)), fams := H.fams.set fam (ver, ver) }, ?_, ?_, ?_⟩
      · simp only [Heap.stores, hs, cond_true, Heap.write, h1, h2, hroom, hov]
        rw [show Nat.beq ver ver = true from Nat.beq_refl ver, show Nat.ble fr ver = true from Nat.ble_eq_true_of_le h3]
        rfl
      · refine .inr ⟨id, e, room, fam, ver, pl, st + 1, ver, rfl, T.get_set_same _ _ _, T.get_set_same _ _ _, Nat.le_refl _, h4, h5, ?_⟩
        rw [← h7]
        simp only [List.length_append, List.length_take, List.length_drop]
        omega
      · have hid := hw.blk _ _ h1
        have hfam := hw.fams _ _ h2
        refine ⟨⟨?_, ?_, ?_⟩, Nat.le_refl _, fun i hi => ?_, fun f hf => ?_⟩
        · intro i b hb
          simp only [T.get_set] at hb ⊢
          split at hb
          · omega
          · exact hw.blk _ _ hb
        · intro f x hf
          simp only [T.get_set] at hf ⊢
          split at hf
          · omega
          · exact hw.fams _ _ hf
        · intro i c r f v' w p s hb
          simp only [T.get_set] at hb ⊢
          split at hb
          · cases hb; exact hfam
          · exact hw.fam _ _ _ _ _ _ _ _ hb
        · simp only [T.get_set]; rw [if_neg (by omega)]
        · simp only [T.get_set]; rw [if_neg (by omega)]
theorem Own.cellsQ {H : Heap} {B z id n e : Nat} {cs : List V} (h : Own H B z (.sl id 0 n n (some e) z) n cs) : H.cells? id = some cs := by
  rcases h with ⟨h, _⟩ | ⟨id', e', room, fam, ver, pl, st, fr, q, h1, h2, h3, h4, h5, h7⟩
  · cases h
  · cases q
    simp only [Heap.cells?, h1, h2]
    rw [show Nat.ble fr ver = true from Nat.ble_eq_true_of_le h3]
    rfl
theorem Own.form {H : Heap} {B z : Nat} {v : V} {n : Nat} {cs : List V} (h : Own H B z v n cs) (hn : 0 < n) : ∃ id e, v = .sl id 0 n n (some e) z := by
  rcases h with ⟨_, h, _⟩ | ⟨id', e', room, fam, ver, pl, st, fr, q, _⟩
  · omega
  · exact ⟨id', e', q⟩
/-- room made in the midst of a list: its end one place on, and x put where it began -/
theorem Own.slide {H : Heap} {B : Nat} {v : V} {a r : List V} {z x : V} (h : Own H B 1 v (a.length + r.length + 1) (a ++ r ++ [z])) (hw : WF H) (hr : r.all V.scal = true) (hx : x.cells = [x]) (hxs : x.scal = true) :
    ∃ v40 v41 n H1 p H2, pSlSlice 1 true false false [v, .int .i64 ((a.length + 1 : Nat) : Int)] = some v40 ∧ pSlSlice 1 true false false [v, .int .i64 (a.length : Int)] = some v41 ∧ (∀ τ, eCopy 1 [v40, v41] H τ = some (n, H1, τ)) ∧ Gr B H H1 ∧
      pSlIdx 1 [v, .int .i64 (a.length : Int)] = some p ∧ (∀ τ, eStore 1 [p, x] H1 τ = some (.tup [], H2, τ)) ∧ Own H2 B 1 v (a.length + r.length + 1) (a ++ x :: r) ∧ Gr B H H2 := by
  obtain ⟨id, e, rfl⟩ := Own.form h (by omega)
  have hwi : within (a.length + r.length + 1) (a.length + r.length + 1) (some e) = true := by rw [within_iff]; exact .inl (Nat.le_refl _)
  obtain ⟨o40, l40, e40, p40, q40, _⟩ := from_mk (id := id) (off := 0) (z := 1) hwi (show a.length + 1 ≤ a.length + r.length + 1 by omega)
  obtain ⟨o41, l41, e41, p41, q41, _⟩ := from_mk (id := id) (off := 0) (z := 1) hwi (show a.length ≤ a.length + r.length + 1 by omega)
  have e1 : o41 = a.length := by have := q41 (by omega); omega
  subst e1
  have hc := Own.cellsQ h
  have hsrc : H.loads id a.length (r.length * 1) = some r := by
    rw [loads_cells hc (by simp <;> omega), List.append_assoc, List.drop_left, Nat.mul_one, List.take_left]
  have hlenr : (a ++ r ++ [z]).length = a.length + r.length + 1 := by simp; omega
  obtain ⟨H1, s1, own1, g1⟩ := Own.stores h hw (a.length + 1) r (by simp; omega) hr
  have hst : H.stores id o40 r = some H1 := by
    by_cases h0 : r = []
    · subst h0; exact s1
    · have hpos := List.length_pos_iff.2 h0
      have := q40 (by omega)
      rw [show o40 = a.length + 1 by omega]; exact s1
  have hcopy : ∀ τ, eCopy 1 [.sl id o40 (a.length + r.length + 1 - (a.length + 1)) l40 e40 1, .sl id a.length (a.length + r.length + 1 - a.length) l41 e41 1] H τ = some (.int .i64 (.ofNat r.length), H1, τ) := by
    intro τ
    have n1 : a.length + r.length + 1 - (a.length + 1) = r.length := by omega
    have n2 : a.length + r.length + 1 - a.length = r.length + 1 := by omega
    have nb : Nat.ble (r.length + 1) r.length = false := by
      cases hb : Nat.ble (r.length + 1) r.length with
      | false => rfl
      | true => have := Nat.le_of_ble_eq_true hb; omega
    simp only [eCopy, srcLen, srcCells, n1, n2, nb, cond_false, Nat.beq_refl, cond_true, hsrc, hst]
  have hbt : Nat.blt a.length (a.length + r.length + 1) = true := by simp [Nat.blt] <;> omega
  have hidx : pSlIdx 1 [.sl id 0 (a.length + r.length + 1) (a.length + r.length + 1) (some e) 1, .int .i64 (a.length : Int)] = some (.ptr id a.length) := by simp [pSlIdx, natOf_nat, hbt]
  have hlen1 : ((a ++ r ++ [z]).take (a.length + 1) ++ r ++ (a ++ r ++ [z]).drop (a.length + 1 + r.length)).length = a.length + r.length + 1 := by
    simp only [List.length_append, List.length_take, List.length_drop, hlenr]; simp <;> omega
  obtain ⟨H2, s2, own2, g2⟩ := Own.stores own1 g1.wf a.length [x] (by rw [hlen1]; simp <;> omega) (by simp [hxs])
  have hsto : ∀ τ, eStore 1 [.ptr id a.length, x] H1 τ = some (.tup [], H2, τ) := by
    intro τ
    simp only [eStore, hx, s2]
    rfl
  have hfin : ((a ++ r ++ [z]).take (a.length + 1) ++ r ++ (a ++ r ++ [z]).drop (a.length + 1 + r.length)).take a.length ++ [x] ++ ((a ++ r ++ [z]).take (a.length + 1) ++ r ++ (a ++ r ++ [z]).drop (a.length + 1 + r.length)).drop (a.length + [x].length) = a ++ x :: r := by
    have d1 : (a ++ r ++ [z]).drop (a.length + 1 + r.length) = [] := List.drop_eq_nil_of_le (by rw [hlenr]; omega)
    have t1 : (a ++ r ++ [z]).take (a.length + 1) = a ++ (r ++ [z]).take 1 := by rw [List.append_assoc, List.take_length_add_append]
    have l1 : (a ++ (r ++ [z]).take 1).length = a.length + 1 := by simp
    have t2 : (a ++ (r ++ [z]).take 1 ++ r).take a.length = a := by rw [List.append_assoc, List.take_left]
    have d2 : (a ++ (r ++ [z]).take 1 ++ r).drop (a.length + [x].length) = r := by
      rw [show a.length + [x].length = (a ++ (r ++ [z]).take 1).length by rw [l1]; rfl, List.drop_left]
    rw [d1, t1, List.append_nil, t2, d2]; simp
  rw [hfin] at own2
  exact ⟨_, _, _, H1, _, H2, p40, p41, hcopy, g1, hidx, hsto, own2, g1.trans g2 (Nat.le_refl _)⟩
theorem Own.sort {H : Heap} {B : Nat} {v : V} {ss : List Bs} (h : Own H B 1 v ss.length (ss.map V.str)) (hw : WF H) (hl : ss.length < 4611686018427387904) :
    ∃ H', (∀ τ, sortP [v] H τ = some (.tup [], H', τ)) ∧ Own H' B 1 v (sorted ss).length ((sorted ss).map V.str) ∧ Gr B H H' := by
  have hlen : (sorted ss).length = ss.length := (sorted_ok ss).2.2
  by_cases h0 : ss = []
  · subst h0
    have hs : sorted [] = [] := by unfold sorted; simp
    refine ⟨H, fun τ => ?_, by rw [hs]; exact h, Gr.refl hw⟩
    rcases h with ⟨rfl, _, _⟩ | ⟨id, e, room, fam, ver, pl, st, fr, rfl, _⟩ <;> rfl
  · have hpos := List.length_pos_iff.2 h0
    obtain ⟨id, e, rfl⟩ := Own.form h hpos
    obtain ⟨H', s1, o1, g1⟩ := Own.stores h hw 0 ((sorted ss).map V.str) (by simp [hlen]) (strs_scal _)
    have hld : H.loads id 0 ss.length = some (ss.map V.str) := by
      rw [loads_cells (Own.cellsQ h) (by simp), List.drop_zero]
      rw [show ss.length = (ss.map V.str).length by simp, List.take_length]
    refine ⟨H', fun τ => ?_, ?_, g1⟩
    · obtain ⟨m, hm⟩ : ∃ m, ss.length = m + 1 := ⟨ss.length - 1, by omega⟩
      have hb : Nat.blt ss.length 4611686018427387904 = true := by simp [Nat.blt]; omega
      rw [hm] at hld hb ⊢
      simp only [sortP, Nat.beq_refl, hb, Bool.and_self, cond_true, hld, strsOf_map, s1]
    · rw [hlen]
      have : (List.map V.str ss).take 0 ++ List.map V.str (sorted ss) ++ (List.map V.str ss).drop (0 + (List.map V.str (sorted ss)).length) = List.map V.str (sorted ss) := by
        rw [List.drop_eq_nil_of_le (by simp [hlen])]; simp
      rw [this] at o1
      exact o1
theorem Own.compact {H : Heap} {B : Nat} {v : V} {ss : List Bs} (h : Own H B 1 v ss.length (ss.map V.str)) (hw : WF H) (hl : ss.length < 4611686018427387904) :
    ∃ v' H', (∀ τ, compactP [v] H τ = some (v', H', τ)) ∧ Rd H' 1 v' (compL ss).length ((compL ss).map V.str) ∧ Src H' v' ∧ Gr B H H' := by
  have hle := compL_le ss
  by_cases h0 : ss = []
  · subst h0
    have hs : compL [] = [] := List.eq_nil_of_length_eq_zero (by simpa using hle)
    rw [hs]
    refine ⟨v, H, fun τ => ?_, h.rd, h.src, Gr.refl hw⟩
    rcases h with ⟨rfl, _, _⟩ | ⟨id, e, room, fam, ver, pl, st, fr, rfl, _⟩ <;> rfl
  · have hpos := List.length_pos_iff.2 h0
    obtain ⟨id, e, rfl⟩ := Own.form h hpos
    have hpl : ((compL ss ++ List.replicate (ss.length - (compL ss).length) []).map V.str).length = (ss.map V.str).length := by
      rw [List.length_map, List.length_map, List.length_append, List.length_replicate]; omega
    obtain ⟨H', s1, o1, g1⟩ := Own.stores h hw 0 ((compL ss ++ List.replicate (ss.length - (compL ss).length) []).map V.str) (by rw [hpl]; omega) (strs_scal _)
    have hld : H.loads id 0 ss.length = some (ss.map V.str) := by
      rw [loads_cells (Own.cellsQ h) (by simp), List.drop_zero]
      rw [show ss.length = (ss.map V.str).length by simp, List.take_length]
    have hcs : H'.cells? id = some ((compL ss ++ List.replicate (ss.length - (compL ss).length) []).map V.str) := by
      have := Own.cellsQ o1
      rw [List.take_zero, List.nil_append, Nat.zero_add, hpl, List.drop_length, List.append_nil] at this
      exact this
    refine ⟨.sl id 0 (compL ss).length ss.length (some e) 1, H', fun τ => ?_, .inr ⟨id, 0, _, _, _, rfl, hcs, ?_, by simp⟩, ⟨_, hcs⟩, g1⟩
    · obtain ⟨m, hm⟩ : ∃ m, ss.length = m + 1 := ⟨ss.length - 1, by omega⟩
      have hb : Nat.ble ss.length 9223372036854775807 = true := Nat.ble_eq_true_of_le (by omega)
      rw [hm] at hb hld
      rw [hm]
      simp only [compactP, Nat.beq_refl, hb, Bool.and_self, cond_true, hld, strsOf_map, s1]
    · rw [List.drop_zero, Nat.mul_one, List.map_append]
      have : (compL ss).length = ((compL ss).map V.str).length := by simp
      rw [this, List.take_left]
theorem insB_go (x : Bs) : ∀ (a r : List Bs), (∀ y ∈ a, lessB y x = true) → insB x (a ++ r) = a ++ insB x r := by
  intro a
  induction a with
  | nil => intro r _; rfl
  | cons y a ih => intro r h; rw [List.cons_append, insB, h y (by simp), cond_true, ih r fun z hz => h z (by simp [hz])]; rfl
theorem l_ref1_Sorted_in (c : CallK) (N : Nat) (lv ov iv : V) (i : Nat) (ss acc : List Bs) (x : Bs) (H : Heap) (hiv : iv = .int .i64 (i : Int)) (hx : (ss.map V.str)[i]? = some (.str x)) (hr : Rd H 1 lv ss.length (ss.map V.str)) (ho : Rd H 1 ov acc.length (acc.map V.str)) (hl : acc.length < 1000000) (τ : Tape) : ∀ (r a : List Bs) (m : Nat), acc = a ++ r → (∀ y ∈ a, lessB y x = true) → r.length < m →
    ∃ a' r', acc = a' ++ r' ∧ (∀ y ∈ a', lessB y x = true) ∧ (∀ y l, r' = y :: l → lessB y x = false) ∧ ∀ (fr : T V) k, fr.get 0 = some lv → fr.get 3 = some ov → fr.get 4 = some iv → fr.get 5 = some (.int .i64 (a.length : Int)) →
      loopK (s_ref1_Sorted_l4 c N) m ⟨fr, H⟩ τ k = k (.exit 2) ⟨(T.set (T.set (T.set (T.set .leaf 0 lv) 3 ov) 4 iv) 5 (.int .i64 (a'.length : Int))), H⟩ τ := by
  intro r
  induction r with
  | nil =>
    intro a m he ha hm
    obtain ⟨m, rfl⟩ : ∃ j, m = j + 1 := ⟨m - 1, by omega⟩
    have e1 : decide (a.length < acc.length) = false := decide_eq_false (by rw [he]; simp)
    refine ⟨a, [], he, ha, fun y l h => (by cases h), fun fr k f0 f3 f4 f5 => ?_⟩
    rw [loopK_succ]
    simp only [s_ref1_Sorted_l4, getK_mk f0, getK_mk f3, getK_mk f4, getK_mk f5, ho.pLen, getK_set, ↓reduceIte, Nat.reduceEqDiff, someK_n, effK_n, retK, gK_do, gK_do', gK_skip, gK_skip', gK_none, pick_mk, cond_true, cond_false, condK_tn, condK_fn, bin_eql, bin_neq, bin_lss, bin_leq, bin_gtr, bin_geq, un_not, Bool.not_true, Bool.not_false, bin_str, lenS_mk, nle_l, nle_r, nle_n, nlt_l, nlt_r, nlt_n, neq_r, neq_n, nne_r, nne_n, ext0, ext1, ext30, ext31, ext32, bin_add, bin_sub, decide_true, decide_false, e1]
    rfl
  | cons y r ih =>
    intro a m he ha hm
    obtain ⟨m, rfl⟩ : ∃ j, m = j + 1 := ⟨m - 1, by omega⟩
    have e1 : decide (a.length < acc.length) = true := decide_eq_true (by rw [he]; simp)
    obtain ⟨p, p1, p2⟩ := ho.elem1 (i := a.length) (x := .str y) (by rw [he]; simp)
    obtain ⟨p', p3, p4⟩ := hr.elem1 (i := i) (x := .str x) hx
    have e3 : wr .i64 ((a.length : Int) + Int.ofNat 1) = ((a ++ [y]).length : Int) := by
      rw [adI (by rw [he] at hl; simp at hl; omega)]; simp
    subst hiv
    cases hy : lessB y x with
    | true =>
      obtain ⟨a', r', i1, i2, i3, i4⟩ := ih (a ++ [y]) m (by rw [he]; simp) (fun z hz => by rcases List.mem_append.1 hz with h | h; exact ha z h; simp at h; rw [h]; exact hy) (by simp at hm; omega)
      refine ⟨a', r', i1, i2, i3, fun fr k f0 f3 f4 f5 => ?_⟩
      rw [loopK_succ]
      simp only [s_ref1_Sorted_l4, getK_mk f0, getK_mk f3, getK_mk f4, getK_mk f5, ho.pLen, getK_set, ↓reduceIte, Nat.reduceEqDiff, someK_n, effK_n, retK, gK_do, gK_do', gK_skip, gK_skip', gK_none, pick_mk, cond_true, cond_false, condK_tn, condK_fn, bin_eql, bin_neq, bin_lss, bin_leq, bin_gtr, bin_geq, un_not, Bool.not_true, Bool.not_false, bin_str, lenS_mk, nle_l, nle_r, nle_n, nlt_l, nlt_r, nlt_n, neq_r, neq_n, nne_r, nne_n, ext0, ext1, ext30, ext31, ext32, bin_add, bin_sub, decide_true, decide_false, e1, p1, p2, p3, p4, str_lss, hy, e3]
      exact i4 _ k (by simp [T.get_set]) (by simp [T.get_set]) (by simp [T.get_set]) (by simp [T.get_set])
    | false =>
      refine ⟨a, y :: r, he, ha, fun z l h => (by cases h; exact hy), fun fr k f0 f3 f4 f5 => ?_⟩
      rw [loopK_succ]
      simp only [s_ref1_Sorted_l4, getK_mk f0, getK_mk f3, getK_mk f4, getK_mk f5, ho.pLen, getK_set, ↓reduceIte, Nat.reduceEqDiff, someK_n, effK_n, retK, gK_do, gK_do', gK_skip, gK_skip', gK_none, pick_mk, cond_true, cond_false, condK_tn, condK_fn, bin_eql, bin_neq, bin_lss, bin_leq, bin_gtr, bin_geq, un_not, Bool.not_true, Bool.not_false, bin_str, lenS_mk, nle_l, nle_r, nle_n, nlt_l, nlt_r, nlt_n, neq_r, neq_n, nne_r, nne_n, ext0, ext1, ext30, ext31, ext32, bin_add, bin_sub, decide_true, decide_false, e1, p1, p2, p3, p4, str_lss, hy]
      rfl
theorem l_ref1_Sorted (c : CallK) {N : Nat} (hN : 9223372036854775807 < N) (lv : V) (ss : List Bs) (hl : ss.length < 1000000) (B : Nat) : ∀ (l pre : List Bs) (ov : V) (H : Heap) (τ : Tape) (m : Nat), ss = pre ++ l → l.length < m → WF H → B ≤ H.size → (∀ H', Gr B H H' → Rd H' 1 lv ss.length (ss.map V.str)) → LsS H B ov (srtT pre) →
    ∃ ov' H' τ', LsS H' B ov' (srtT ss) ∧ Gr B H H' ∧ ∀ (fr : T V) k, fr.get 0 = some lv → fr.get 3 = some ov → fr.get 4 = some (.int .i64 (pre.length : Int)) →
      loopK (s_ref1_Sorted_l1 c N) m ⟨fr, H⟩ τ k = k (.exit 0) ⟨(T.set .leaf 3 ov'), H'⟩ τ' := by
  intro l
  induction l with
  | nil =>
    intro pre ov H τ m he hm hw hB hrd ho
    obtain ⟨m, rfl⟩ : ∃ j, m = j + 1 := ⟨m - 1, by omega⟩
    have e1 : decide (pre.length < ss.length) = false := decide_eq_false (by rw [he]; simp)
    have pl := (hrd H (Gr.refl hw)).pLen
    refine ⟨ov, H, τ, by rw [he, List.append_nil]; exact ho, Gr.refl hw, fun fr k f0 f3 f4 => ?_⟩
    rw [loopK_succ]
    simp only [s_ref1_Sorted_l1, getK_mk f0, getK_mk f3, getK_mk f4, pl, getK_set, ↓reduceIte, Nat.reduceEqDiff, someK_n, effK_n, retK, gK_do, gK_do', gK_skip, gK_skip', gK_none, pick_mk, cond_true, cond_false, condK_tn, condK_fn, bin_eql, bin_neq, bin_lss, bin_leq, bin_gtr, bin_geq, un_not, Bool.not_true, Bool.not_false, bin_str, lenS_mk, nle_l, nle_r, nle_n, nlt_l, nlt_r, nlt_n, neq_r, neq_n, nne_r, nne_n, ext0, ext1, ext30, ext31, ext32, bin_add, bin_sub, decide_true, decide_false, e1]
    rfl
  | cons x l ih =>
    intro pre ov H τ m he hm hw hB hrd ho
    obtain ⟨m, rfl⟩ : ∃ j, m = j + 1 := ⟨m - 1, by omega⟩
    have hlt : pre.length < ss.length := by rw [he]; simp
    have e1 : decide (pre.length < ss.length) = true := decide_eq_true hlt
    have e3 : wr .i64 ((pre.length : Int) + Int.ofNat 1) = ((pre ++ [x]).length : Int) := by rw [adI (by omega)]; simp
    have hr := hrd H (Gr.refl hw)
    have pl := hr.pLen
    have hx : (ss.map V.str)[pre.length]? = some (.str x) := by rw [he]; simp
    have hsl := (srtT_ok pre).2.2
    have ors := ho.rdS.1
    obtain ⟨a, r, i1, i2, i3, i4⟩ := l_ref1_Sorted_in c N lv ov _ pre.length ss (srtT pre) x H rfl hx hr ors (by omega) τ (srtT pre) [] N rfl (fun y hy => by simp at hy) (by omega)
    have hins : insB x (srtT pre) = a ++ insB x r := by rw [i1]; exact insB_go x a r i2
    have hal : (srtT pre).length = a.length + r.length := by rw [i1]; simp
    obtain ⟨p', p3, p4⟩ := hr.elem1 hx
    -- what follows
    have fin : ∀ (ov2 : V) (H2 : Heap) (τ2 : Tape), LsS H2 B ov2 (insB x (srtT pre)) → Gr B H H2 → ∃ ov' H' τ', LsS H' B ov' (srtT ss) ∧ Gr B H H' ∧ ∀ (fr : T V) k, fr.get 0 = some lv → fr.get 3 = some ov2 → fr.get 4 = some (.int .i64 ((pre ++ [x]).length : Int)) →
        loopK (s_ref1_Sorted_l1 c N) m ⟨fr, H2⟩ τ2 k = k (.exit 0) ⟨(T.set .leaf 3 ov'), H'⟩ τ' := by
      intro ov2 H2 τ2 h2 g2
      obtain ⟨ov', H', τ', j1, j2, j3⟩ := ih (pre ++ [x]) ov2 H2 τ2 m (by rw [he]; simp) (by simp at hm; omega) g2.wf (Nat.le_trans hB g2.size) (fun H' hg => hrd H' (g2.trans hg (Nat.le_refl _))) (by rw [srtT_snoc]; exact h2)
      exact ⟨ov', H', τ', j1, g2.trans j2 (Nat.le_refl _), j3⟩
    -- a text that is put in
    have putin : insB x r = x :: r → (∀ y l', r = y :: l' → (y == x) = false) → ∃ ov' H' τ', LsS H' B ov' (srtT ss) ∧ Gr B H H' ∧ ∀ (fr : T V) k, fr.get 0 = some lv → fr.get 3 = some ov → fr.get 4 = some (.int .i64 (pre.length : Int)) →
        loopK (s_ref1_Sorted_l1 c N) (m + 1) ⟨fr, H⟩ τ k = k (.exit 0) ⟨(T.set .leaf 3 ov'), H'⟩ τ' := by
      intro hput hne
      obtain ⟨w, H1, v36, H3, τ3, r1, r2, r3, r4⟩ := ho.put hw hB [] (by omega) τ
      have hown : Own H3 B 1 v36 ((a.map V.str).length + (r.map V.str).length + 1) (a.map V.str ++ r.map V.str ++ [V.str []]) := by
        have := r3.1
        rw [i1] at this
        simpa [Nat.add_assoc] using this
      obtain ⟨v40, v41, nn, H4, pp, H5, t1, t2, t3, t4, t5, t6, t7, t8⟩ := Own.slide hown (x := .str x) r4.wf (strs_scal r) rfl rfl
      rw [List.length_map] at t1 t2 t5 t7
      have hr4 := hrd H4 (r4.trans t4 (Nat.le_refl _))
      obtain ⟨p5, p6, p7⟩ := hr4.elem1 hx
      obtain rfl : p5 = p' := Option.some.inj (p6.symm.trans p3)
      have o5 : LsS H5 B v36 (insB x (srtT pre)) := by
        rw [hins, hput]
        refine ⟨?_, fun h => by simp at h⟩
        have hlr : (r.map V.str).length = r.length := List.length_map ..
        rw [hlr] at t7
        have e : (a ++ x :: r).length = a.length + r.length + 1 := by simp; omega
        rw [e]
        simpa using t7
      obtain ⟨ov', H', τ', j1, j2, j3⟩ := fin v36 H5 τ3 o5 (r4.trans t8 (Nat.le_refl _))
      refine ⟨ov', H', τ', j1, j2, fun fr k f0 f3 f4 => ?_⟩
      have e5 : wr .i64 ((a.length : Int) + Int.ofNat 1) = ((a.length + 1 : Nat) : Int) := adI (by omega)
      rw [loopK_succ]
      simp only [s_ref1_Sorted_l1, getK_mk f0, getK_mk f3, getK_mk f4, pl, getK_set, ↓reduceIte, Nat.reduceEqDiff, someK_n, effK_n, retK, gK_do, gK_do', gK_skip, gK_skip', gK_none, pick_mk, cond_true, cond_false, condK_tn, condK_fn, bin_eql, bin_neq, bin_lss, bin_leq, bin_gtr, bin_geq, un_not, Bool.not_true, Bool.not_false, bin_str, lenS_mk, nle_l, nle_r, nle_n, nlt_l, nlt_r, nlt_n, neq_r, neq_n, nne_r, nne_n, ext0, ext1, ext30, ext31, ext32, bin_add, bin_sub, decide_true, decide_false, e1]
      rw [i4 _ _ (by simp [T.get_set]) (by simp [T.get_set]) (by simp [T.get_set]) (by simp [T.get_set])]
      simp only [blockK, Nat.beq_refl, cond_true, seqK]
      cases hrr : r with
      | nil =>
        have e2 : decide (a.length < (srtT pre).length) = false := decide_eq_false (by rw [hal, hrr]; simp)
        simp only [s_ref1_Sorted_j3, getK_set, ↓reduceIte, Nat.reduceEqDiff, someK_n, effK_n, retK, gK_do, gK_do', gK_skip, gK_skip', gK_none, pick_mk, cond_true, cond_false, condK_tn, condK_fn, bin_eql, bin_neq, bin_lss, bin_leq, bin_gtr, bin_geq, un_not, Bool.not_true, Bool.not_false, bin_str, lenS_mk, nle_l, nle_r, nle_n, nlt_l, nlt_r, nlt_n, neq_r, neq_n, nne_r, nne_n, ext0, ext1, ext30, ext31, ext32, bin_add, bin_sub, decide_true, decide_false, ors.pLen, e2, r1, r2, e5, t1, t2, t3, p6, p7, t5, t6, s_ref1_Sorted_j2, e3]
        exact j3 _ k (by simp [T.get_set]) (by simp [T.get_set]) (by simp [T.get_set])
      | cons y r' =>
        have e2 : decide (a.length < (srtT pre).length) = true := decide_eq_true (by rw [hal, hrr]; simp)
        obtain ⟨py, py1, py2⟩ := ors.elem1 (i := a.length) (x := .str y) (by rw [i1, hrr]; simp)
        have hy := hne y r' hrr
        simp only [s_ref1_Sorted_j3, getK_set, ↓reduceIte, Nat.reduceEqDiff, someK_n, effK_n, retK, gK_do, gK_do', gK_skip, gK_skip', gK_none, pick_mk, cond_true, cond_false, condK_tn, condK_fn, bin_eql, bin_neq, bin_lss, bin_leq, bin_gtr, bin_geq, un_not, Bool.not_true, Bool.not_false, bin_str, lenS_mk, nle_l, nle_r, nle_n, nlt_l, nlt_r, nlt_n, neq_r, neq_n, nne_r, nne_n, ext0, ext1, ext30, ext31, ext32, bin_add, bin_sub, decide_true, decide_false, ors.pLen, e2, py1, py2, p3, p4, str_eql, hy, r1, r2, e5, t1, t2, t3, p6, p7, t5, t6, s_ref1_Sorted_j2, e3]
        exact j3 _ k (by simp [T.get_set]) (by simp [T.get_set]) (by simp [T.get_set])
    cases hrr : r with
    | nil => exact putin (by rw [hrr]; rfl) (fun y l' h => by rw [hrr] at h; cases h)
    | cons y r' =>
      have hly := i3 y r' hrr
      cases hyx : (y == x) with
      | false => exact putin (by rw [hrr, insB, hly, cond_false, hyx, cond_false]) (fun z l' h => by rw [hrr] at h; cases h; exact hyx)
      | true =>
        have hsame : insB x (srtT pre) = srtT pre := by rw [hins, hrr, insB, hly, cond_false, hyx, cond_true, ← hrr, ← i1]
        obtain ⟨ov', H', τ', j1, j2, j3⟩ := fin ov H τ (by rw [hsame]; exact ho) (Gr.refl hw)
        refine ⟨ov', H', τ', j1, j2, fun fr k f0 f3 f4 => ?_⟩
        have e2 : decide (a.length < (srtT pre).length) = true := decide_eq_true (by rw [hal, hrr]; simp)
        obtain ⟨py, py1, py2⟩ := ors.elem1 (i := a.length) (x := .str y) (by rw [i1, hrr]; simp)
        rw [loopK_succ]
        simp only [s_ref1_Sorted_l1, getK_mk f0, getK_mk f3, getK_mk f4, pl, getK_set, ↓reduceIte, Nat.reduceEqDiff, someK_n, effK_n, retK, gK_do, gK_do', gK_skip, gK_skip', gK_none, pick_mk, cond_true, cond_false, condK_tn, condK_fn, bin_eql, bin_neq, bin_lss, bin_leq, bin_gtr, bin_geq, un_not, Bool.not_true, Bool.not_false, bin_str, lenS_mk, nle_l, nle_r, nle_n, nlt_l, nlt_r, nlt_n, neq_r, neq_n, nne_r, nne_n, ext0, ext1, ext30, ext31, ext32, bin_add, bin_sub, decide_true, decide_false, e1]
        rw [i4 _ _ (by simp [T.get_set]) (by simp [T.get_set]) (by simp [T.get_set]) (by simp [T.get_set])]
        simp only [blockK, Nat.beq_refl, cond_true, seqK, s_ref1_Sorted_j3, getK_set, ↓reduceIte, Nat.reduceEqDiff, someK_n, effK_n, retK, gK_do, gK_do', gK_skip, gK_skip', gK_none, pick_mk, cond_true, cond_false, condK_tn, condK_fn, bin_eql, bin_neq, bin_lss, bin_leq, bin_gtr, bin_geq, un_not, Bool.not_true, Bool.not_false, bin_str, lenS_mk, nle_l, nle_r, nle_n, nlt_l, nlt_r, nlt_n, neq_r, neq_n, nne_r, nne_n, ext0, ext1, ext30, ext31, ext32, bin_add, bin_sub, decide_true, decide_false, ors.pLen, e2, py1, py2, p3, p4, str_eql, hyx, s_ref1_Sorted_j2, e3]
        exact j3 _ k (by simp [T.get_set]) (by simp [T.get_set]) (by simp [T.get_set])
theorem s_ref1_Sorted_ret (c : CallK) {N : Nat} (hN : 9223372036854775807 < N) (lv : V) (ss : List Bs) (hl : ss.length < 1000000) (H : Heap) (hw : WF H) (hr : RdS H lv ss) (τ : Tape) :
    ∃ v' H' τ', LsS H' H.size v' (srtT ss) ∧ Gr H.size H H' ∧ ∀ q, s_ref1_Sorted c N lv H τ q = q v' H' τ' := by
  obtain ⟨v', H', τ', i1, i2, i3⟩ := l_ref1_Sorted c hN lv ss hl H.size ss [] .nils H τ N rfl (by omega) hw (Nat.le_refl _) (fun H' hg => hr.1.gr hg hw (Nat.le_refl _)) (LsS.nil _ _)
  refine ⟨v', H', τ', i1, i2, fun q => ?_⟩
  simp only [s_ref1_Sorted]
  rw [i3 _ _ (by simp [T.get_set]) (by simp [T.get_set]) (by simp [T.get_set])]
  simp only [blockK, Nat.beq_refl, cond_true, seqK, s_ref1_Sorted_j0, getK_set, ↓reduceIte, Nat.reduceEqDiff, someK_n, effK_n, retK, gK_do, gK_do', gK_skip, gK_skip', gK_none, pick_mk, cond_true, cond_false, condK_tn, condK_fn, bin_eql, bin_neq, bin_lss, bin_leq, bin_gtr, bin_geq, un_not, Bool.not_true, Bool.not_false, bin_str, lenS_mk, nle_l, nle_r, nle_n, nlt_l, nlt_r, nlt_n, neq_r, neq_n, nne_r, nne_n, ext0, ext1, ext30, ext31, ext32, bin_add, bin_sub, decide_true, decide_false]
/-- a function of a list of texts -/
def RSs (Pre : List Bs → List V → Prop) (g : Bool → List Bs → List V → Out) (vs : List V) (H : Heap) (o : Out) : Prop := ∃ v l ss, vs = v :: l ∧ RdS H v ss ∧ Pre ss l ∧ o = g (isNil v) ss l
theorem RSs_fun (Pre : List Bs → List V → Prop) (g : Bool → List Bs → List V → Out) : Fun1 (RSs Pre g) := by
  rintro vs H o o' ⟨v, l, ss, rfl, h1, _, rfl⟩ ⟨v', l', ss', e, h2, _, rfl⟩
  cases e
  rw [h1.uniq h2]
theorem primRSs {N : Nat} {l : List Row} (hl : RowsOk PG l) (d f : Nat) {Pre : List Bs → List V → Prop} {g : Bool → List Bs → List V → Out} (h : ∀ ss args, Pre ss args → ∀ lv H, WF H → RdS H lv ss → ∀ τ, ∃ v H' τ', Gr H.size H H' ∧ (g (isNil lv) ss args).Met H v H' ∧ ∀ q, CR l N d f (lv :: args) H τ q = q v H' τ') : ∀ base w0, PrimOk PG base w0 f (outP (RSs Pre g)) := by
  refine primOk_out mixed_ok hl N d f ?_
  rintro vs H o hw hvs ⟨lv, args, ss, rfl, hr, hp, rfl⟩ τ
  obtain ⟨v, H', τ', g1, m1, k1⟩ := h ss args hp lv H hw hr τ
  exact ⟨v, H', τ', k1 retK, g1, m1⟩
abbrev SrtPre (ss : List Bs) : List V → Prop | [] => ss.length < 1000000 | _ => False
abbrev SrtG (_ : Bool) (ss : List Bs) : List V → Out | [] => lstO 1 (srtT ss).length ((srtT ss).map V.str) (fun v => v) | _ => .val (.tup [])
theorem p_ref1_Sorted : ∀ base w0, PrimOk PG base w0 f_ref1_Sorted (outP (RSs SrtPre SrtG)) := by
  obtain ⟨N, hN⟩ := someN
  refine primRSs (N := N) (l := [Row.fn f_ref1_Sorted fn_ref1_Sorted e_ref1_Sorted]) (.fn ok_ref1_Sorted e_ref1_Sorted_ok (.nil _)) 1 _ (fun ss args hp lv H hw hr τ => ?_)
  unfold SrtPre at hp; split at hp
  · obtain ⟨v', H', τ', h1, h2, h3⟩ := s_ref1_Sorted_ret (CR [Row.fn f_ref1_Sorted fn_ref1_Sorted e_ref1_Sorted] N 0) hN lv ss hp H hw hr τ
    exact ⟨_, H', τ', h2, LsS.met h1 mkOk_id trivial, h3⟩
  · exact hp.elim
theorem k_ref1_Sorted {c : CallK} (h : IsP c f_ref1_Sorted (RSs SrtPre SrtG)) {ss : List Bs} (hl : ss.length < 1000000) {lv : V} {H : Heap} (hw : WF H) (hr : RdS H lv ss) (τ : Tape) :
    ∃ v' H' τ', Own H' H.size 1 v' (srtT ss).length ((srtT ss).map V.str) ∧ Gr H.size H H' ∧ ∀ q, c f_ref1_Sorted [lv] H τ q = q v' H' τ' :=
  outK_list h (RSs_fun _ _) ⟨lv, [], ss, rfl, hr, hl, rfl⟩ hw (by simp) τ
end Go.Am.X


