/- Contracts of the functions that AgeBefore comes to, and its plain law: part 1. -/
import Derived.Test.YtpfaceclaigpgaaDoorDC0
import Derived.Test.YtpfaceclaigpgaaDoorAm35
namespace Go.Am.AmTrydAge
set_option linter.unusedSimpArgs false
set_option linter.unusedVariables false
set_option linter.unusedSectionVars false
theorem strsOf_map (l : List Bs) : strsOf (l.map V.str) = some l := by
  induction l with
  | nil => rfl
  | cons x l ih => simp only [List.map_cons, strsOf, ih]

theorem join_own {H : Heap} {B : Nat} {v : V} {n : Nat} {vals : List Bs} {sep : Bs} (ho : Own H B 1 v n (vals.map V.str)) (h1 : (joinB sep vals).length ≤ 140737488355328) (h2 : n ≤ 140737488355328) (τ : Tape) : joinP [v, .str sep] H τ = some (.str (joinB sep vals), H, τ) := by
  have hc := ho.rd
  rcases ho with ⟨rfl, rfl, hv⟩ | ⟨id, e, room, fam, ver, pl, st, fr, rfl, k2, k3, k4, k5, k6, k7⟩
  · have : vals = [] := by simpa using hv
    subst this
    rfl
  · have hcells : H.cells? id = some (vals.map V.str) := by
      simp only [Heap.cells?, k2, k3]
      rw [show Nat.ble fr ver = true from Nat.ble_eq_true_of_le k4]
      rfl
    have hl : H.loads id 0 n = some (vals.map V.str) := by
      rw [loads_cells hcells (by rw [k7]; omega), List.drop_zero, List.take_of_length_le (by rw [k7]; omega)]
    simp only [joinP, Nat.beq_refl, cond_true, hl, strsOf_map, Nat.ble_eq_true_of_le h1, Nat.ble_eq_true_of_le h2, Bool.and_self]

theorem own_len {H : Heap} {B z : Nat} {v : V} {n : Nat} {cs : List V} (ho : Own H B z v n cs) : pLen [v] = some (.int .i64 (n : Int)) := by
  rcases ho with ⟨rfl, rfl, _⟩ | ⟨id, e, room, fam, ver, pl, st, fr, rfl, _⟩ <;> rfl

theorem rd_len {H : Heap} {z : Nat} {v : V} {n : Nat} {cs : List V} (ho : Rd H z v n cs) : pLen [v] = some (.int .i64 (n : Int)) := by
  rcases ho with ⟨rfl | ⟨id, off, lo, ex, rfl⟩, rfl, _⟩ | ⟨id, off, lo, ex, all, rfl, _⟩ <;> rfl

def getT (name : Bs) (hs : List (Bs × Bs)) : Bs := joinB [44, 32] (sel name hs)

theorem s78_ret (c : CallK) (N : Nat) (hN : 9223372036854775807 ≤ N) (name : Bs) (hname : name.length ≤ 274877906944) (hs : List (Bs × Bs)) (hmb : hs.length ≤ 4294967296) (hsz : ∀ h ∈ hs, h.1.length ≤ 274877906944) (hj : (getT name hs).length ≤ 140737488355328)
    (h113 : ∀ vs H τ q, c 113 vs H τ q = effK (joinP vs H τ) q)
    (h112 : ∀ (n v : Bs), n.length ≤ 274877906944 → ∀ (H : Heap), WF H → ∀ τ q, ∃ H' τ', Gr H.size H H' ∧ c 112 [.agg [.str n, .str v], .str name] H τ q = q (.bool (lower n == lower name)) H' τ')
    (v : V) (H : Heap) (hw : WF H) (hr : Rd H 2 v hs.length (hcells hs)) (τ : Tape) (q : KV) :
    ∃ H' τ', Gr H.size H H' ∧ s78 c N v (.str name) H τ q = q (.tup [.str (getT name hs), .bool (decide (0 < (sel name hs).length))]) H' τ' := by
  have hend : ∀ (v6 : V) (H' : Heap) (τ' : Tape), Own H' H.size 1 v6 (sel name hs).length ((sel name hs).map V.str) →
      (blockK 0 (seqK (s78_j0 c N q) (endK [(.t 4), (.t 5)] q))) (.exit 0) ⟨T.set .leaf 6 v6, H'⟩ τ' = q (.tup [.str (getT name hs), .bool (decide (0 < (sel name hs).length))]) H' τ' := by
    intro v6 H' τ' ho
    have hsl : (sel name hs).length ≤ hs.length := by
      simp only [sel, List.length_map]
      exact List.length_filter_le _ _
    simp only [blockK, Nat.beq_refl, cond_true, seqK, s78_j0, getK_set, ↓reduceIte, h113]
    rw [show bs [44, 32] = [44, 32] from rfl, join_own ho hj (by omega), effK_mk, own_len ho, someK_mk, bin_gtr]
    have : decide (Int.ofNat 0 < ((sel name hs).length : Int)) = decide (0 < (sel name hs).length) := by
      rw [decide_eq_decide]; simp <;> omega
    rw [this]
    rfl
  by_cases h0 : hs = []
  · subst h0
    refine ⟨H, τ, Gr.refl hw, ?_⟩
    obtain ⟨N, rfl⟩ : ∃ j, N = j + 1 := ⟨N - 1, by omega⟩
    simp only [s78, rd_len hr, someK_mk, loopK_succ, s78_l1, getK_set, ↓reduceIte, Nat.reduceEqDiff]
    rw [bin_lss, show decide (Int.ofNat 0 < ((([] : List (Bs × Bs)).length : Nat) : Int)) = false from rfl, condK_f, seqK]
    exact hend .nils H τ (Own.nil _ _ _)
  · rcases hr with ⟨_, hz, _⟩ | ⟨id, off, lo, ex, all, rfl, hc, hall, hlen⟩
    · exact absurd (List.length_eq_zero_iff.1 hz) h0
    · have hpos : 0 < hs.length := List.length_pos_iff.2 h0
      have hl : off + hs.length * 2 ≤ all.length := by
        have := hlen
        rw [hall, List.length_take, List.length_drop] at this
        omega
      obtain ⟨v6, H', τ', k1, k2, k3⟩ := get_loop c N (B := H.size) (lo := lo) (ex := ex) (blockK 0 (seqK (s78_j0 c N q) (endK [(.t 4), (.t 5)] q))) name hname hs rfl hmb hsz hall.symm hl h112 hs [] .nils [] N (T.set (T.set (T.set (T.set (T.set .leaf 1 (.str name)) 6 .nils) 9 (.sl id off hs.length lo ex 2)) 10 (.int .i64 (hs.length : Int))) 11 (.int .i64 0)) H τ hw (Nat.le_refl _) rfl hc (Own.nil _ _ _) (by simpa using hmb) (by omega) (by simp [T.get_set]) (by simp [T.get_set]) (by simp [T.get_set]) (by simp [T.get_set]) (by simp [T.get_set])
      refine ⟨H', τ', k1, ?_⟩
      have e1 : pLen [.sl id off hs.length lo ex 2] = some (.int .i64 (hs.length : Int)) := rfl
      simp only [s78, e1, someK_mk]
      rw [show (V.int IntKind.i64 (Int.ofNat 0)) = .int .i64 0 from rfl, k3]
      exact hend v6 H' τ' (by simpa using k2)

/-! ### trimming, cutting -/
abbrev TrimOk (c : CallK) (cut : Bs) : Prop := ∀ (s : Bs), s.length < 9223372036854775807 → ∀ (H : Heap), WF H → ∀ τ q, ∃ H', Gr H.size H H' ∧ c 114 [.str s, .str cut] H τ q = q (.str (trimB cut.contains s)) H' τ

/-- ahead of the first such byte, and behind it -/
def cutB (x : UInt8) : Bs → Option (Bs × Bs)
  | [] => none
  | y :: l => if y = x then some ([], l) else match cutB x l with
    | some (a, b) => some (y :: a, b)
    | none => none
theorem cutB_spec (x : UInt8) : ∀ (s : Bs), (cutB x s = none → idxB x.toNat s 0 = -1) ∧ (∀ a b, cutB x s = some (a, b) → s = a ++ x :: b ∧ idxB x.toNat s 0 = (a.length : Int)) := by
  intro s
  have key : ∀ (s : Bs) (i : Nat), (cutB x s = none → idxB x.toNat s i = -1) ∧ (∀ a b, cutB x s = some (a, b) → s = a ++ x :: b ∧ idxB x.toNat s i = ((i + a.length : Nat) : Int)) := by
    intro s
    induction s with
    | nil => intro i; exact ⟨fun _ => rfl, fun a b h => by cases h⟩
    | cons y l ih =>
      intro i
      by_cases h : y = x
      · subst h
        refine ⟨fun h => by simp [cutB] at h, fun a b h => ?_⟩
        simp only [cutB, if_true, Option.some.injEq, Prod.mk.injEq] at h
        obtain ⟨rfl, rfl⟩ := h
        refine ⟨rfl, ?_⟩
        simp [idxB, forceN_eq]
      · have hb : Nat.beq y.toNat x.toNat = false := by
          cases hb : Nat.beq y.toNat x.toNat with
          | false => rfl
          | true => exact absurd (UInt8.toNat_inj.1 (Nat.eq_of_beq_eq_true hb)) h
        simp only [cutB, h, if_false, idxB, hb, cond_false]
        obtain ⟨h1, h2⟩ := ih (i + 1)
        cases hc : cutB x l with
        | none => exact ⟨fun _ => h1 hc, fun a b h => by cases h⟩
        | some ab =>
          obtain ⟨a', b'⟩ := ab
          refine ⟨fun h => (by cases h), fun a b h => ?_⟩
          cases h
          obtain ⟨h3, h4⟩ := h2 a' b' hc
          refine ⟨by rw [h3]; rfl, ?_⟩
          rw [h4]
          simp <;> omega
  have := key s 0
  simpa using this

theorem s130_one (c : CallK) (N : Nat) (s : Bs) (x : UInt8) (h131 : ∀ vs H τ q, c 131 vs H τ q = effK (idxP vs H τ) q) (H : Heap) (τ : Tape) (q : KV) :
    s130 c N (.str s) (.str [x]) H τ q = q (.int .i64 (idxB x.toNat s 0)) H τ := by
  have e1 : ((([x] : Bs).length : Int) == Int.ofNat 0) = false := rfl
  have e2 : ((([x] : Bs).length : Int) == Int.ofNat 1) = true := rfl
  have e3 : pStrIndex [.str [x], .int .i64 (.ofNat 0)] = some (.int .u8 (.ofNat x.toNat)) := rfl
  have e4 : x.toNat % 256 = x.toNat := Nat.mod_eq_of_lt (u8_lt x)
  simp only [s130, lenS_mk, someK_mk, bin_eql, e1, gK_do', retK, effK_mk, bin_str, str_eql, pick_mk, cond_false, e2, condK_t, e3, h131, idxP, e4]
  cases hx : ([x] == s) with
  | false => simp only [condK_f]
  | true =>
    have : s = [x] := (beq_iff_eq.1 hx).symm
    subst this
    simp [condK_t, idxB, forceN_eq]

theorem s103_one (c : CallK) (N : Nat) (s : Bs) (x : UInt8) (hs : s.length < 9223372036854775807) (h130 : ∀ (s : Bs) (x : UInt8) H τ q, c 130 [.str s, .str [x]] H τ q = q (.int .i64 (idxB x.toNat s 0)) H τ) (H : Heap) (τ : Tape) (q : KV) :
    s103 c N (.str s) (.str [x]) H τ q = q (match cutB x s with | some (a, b) => .tup [.str a, .str b, .bool true] | none => .tup [.str s, .str [], .bool false]) H τ := by
  obtain ⟨h1, h2⟩ := cutB_spec x s
  simp only [s103, h130]
  cases hc : cutB x s with
  | none =>
    rw [h1 hc, bin_geq]
    rfl
  | some ab =>
    obtain ⟨a, b⟩ := ab
    obtain ⟨h3, h4⟩ := h2 a b hc
    have e1 : decide (Int.ofNat 0 ≤ (a.length : Int)) = true := decide_eq_true (by simp <;> omega)
    have hl : a.length < s.length := by rw [h3]; simp
    have e2 : pStrSlice false true [.str s, .int .i64 (a.length : Int)] = some (.str a) := by
      rw [strSlice_hi (by omega), h3]; simp
    have e3 : wr .i64 ((a.length : Int) + (([x] : Bs).length : Int)) = ((a.length + 1 : Nat) : Int) := by
      rw [wr_id (by simp; omega) (by simp; omega)]; simp
    have e4 : pStrSlice true false [.str s, .int .i64 ((a.length + 1 : Nat) : Int)] = some (.str b) := by
      rw [strSlice_lo (by omega), h3]; simp
    rw [h4, bin_geq, e1, condK_t, e2, someK_mk, lenS_mk, someK_mk, bin_add, e3, e4, someK_mk]

theorem s62_one (c : CallK) (N : Nat) (s : Bs) (x : UInt8) (h103 : ∀ H τ q, c 103 [.str s, .str [x]] H τ q = q (match cutB x s with | some (a, b) => .tup [.str a, .str b, .bool true] | none => .tup [.str s, .str [], .bool false]) H τ) (H : Heap) (τ : Tape) (q : KV) :
    s62 c N (.str s) (.str [x]) H τ q = q (match cutB x s with | some (a, b) => .tup [.str a, .str b, .bool true] | none => .tup [.str s, .str [], .bool false]) H τ := by
  simp only [s62, h103]
  cases hc : cutB x s with
  | none => rfl
  | some ab => rfl

def splitF : Bool → Bs → Bs → List Bs × Bs
  | _, cur, [] => ([], cur)
  | q, cur, x :: r =>
    if x = 34 then splitF (!q) (cur ++ [x]) r
    else if q = true ∧ x = 92 then
      match r with
      | [] => ([], cur ++ [x])
      | y :: r' => splitF q (cur ++ [x, y]) r'
    else if q = false ∧ x = 44 then
      (cur :: (splitF false [] r).1, (splitF false [] r).2)
    else splitF q (cur ++ [x]) r

theorem splitF_quote (q : Bool) (cur : Bs) {x : UInt8} (r : Bs) (h : x = 34) : splitF q cur (x :: r) = splitF (!q) (cur ++ [x]) r := by
  cases r <;> simp [splitF, h]
theorem splitF_end (cur : Bs) {x : UInt8} (h : x ≠ 34) (h' : x = 92) : splitF true cur [x] = ([], cur ++ [x]) := by
  subst h'
  simp [splitF]
theorem splitF_esc (cur : Bs) {x : UInt8} (y : UInt8) (r : Bs) (h : x ≠ 34) (h' : x = 92) : splitF true cur (x :: y :: r) = splitF true (cur ++ [x, y]) r := by
  subst h'
  simp [splitF]
theorem splitF_comma (cur : Bs) {x : UInt8} (r : Bs) (h : x ≠ 34) (h' : x = 44) : splitF false cur (x :: r) = (cur :: (splitF false [] r).1, (splitF false [] r).2) := by
  subst h'
  cases r <;> simp [splitF]
theorem splitF_in (cur : Bs) {x : UInt8} (r : Bs) (h : x ≠ 34) (h' : x ≠ 92) : splitF true cur (x :: r) = splitF true (cur ++ [x]) r := by
  cases r <;> simp [splitF, h, h']
theorem splitF_out (cur : Bs) {x : UInt8} (r : Bs) (h : x ≠ 34) (h' : x ≠ 44) : splitF false cur (x :: r) = splitF false (cur ++ [x]) r := by
  cases r <;> simp [splitF, h, h']

def tight : UInt8 → Bool := ([9, 32] : Bs).contains

theorem drop_mid (pre cur rest : Bs) : ((pre ++ cur ++ rest).take (pre.length + cur.length)).drop pre.length = cur := by
  rw [← List.length_append, List.take_left', List.drop_left'] <;> simp

theorem split_loop (c : CallK) (N : Nat) {B : Nat} (k : KC) (s : Bs) (hs : s.length < 4294967296) (h114 : TrimOk c [9, 32]) : ∀ (m : Nat) (rest : Bs), rest.length ≤ m → ∀ (q : Bool) (pre cur : Bs) (v8 : V) (acc : List Bs) (n : Nat) (fr : T V) (H : Heap) (τ : Tape), WF H → B ≤ H.size → s = pre ++ cur ++ rest → Own H B 1 v8 acc.length (acc.map V.str) → acc.length + rest.length < 4294967296 → rest.length < n →
    fr.get 6 = some (.str s) → fr.get 8 = some v8 → fr.get 9 = some (.bool q) → fr.get 10 = some (.int .i64 (pre.length : Int)) → fr.get 11 = some (.int .i64 ((pre.length + cur.length : Nat) : Int)) →
    ∃ v8' fro H' τ', Gr B H H' ∧ Own H' B 1 v8' (acc ++ (splitF q cur rest).1.map (trimB tight)).length ((acc ++ (splitF q cur rest).1.map (trimB tight)).map V.str) ∧ fro ≤ s.length ∧ s.drop fro = (splitF q cur rest).2 ∧ (acc ++ (splitF q cur rest).1.map (trimB tight)).length < 4294967296 ∧
      loopK (s91_l1 c N) n ⟨fr, H⟩ τ k = k (.exit 0) ⟨T.set (T.set (T.set .leaf 6 (.str s)) 8 v8') 10 (.int .i64 (fro : Int)), H'⟩ τ' := by
  intro m
  induction m with
  | zero =>
    intro rest hm q pre cur v8 acc n fr H τ hw hB he ho hb hn f6 f8 f9 f10 f11
    have : rest = [] := List.length_eq_zero_iff.1 (by omega)
    subst this
    obtain ⟨n, rfl⟩ : ∃ j, n = j + 1 := ⟨n - 1, by simp at hn; omega⟩
    refine ⟨v8, pre.length, H, τ, Gr.refl hw, by simpa [splitF] using ho, by rw [he]; simp <;> omega, by rw [he]; simp [splitF], by simpa [splitF] using hb, ?_⟩
    have e1 : decide (((pre.length + cur.length : Nat) : Int) < (s.length : Int)) = false := decide_eq_false (by rw [he]; simp)
    rw [loopK_succ]
    simp only [s91_l1, getK_mk f6, getK_mk f8, getK_mk f9, getK_mk f10, getK_mk f11, lenS_mk, someK_mk, bin_lss, e1, condK_f, seqK]
  | succ m ih =>
    intro rest hm q pre cur v8 acc n fr H τ hw hB he ho hb hn f6 f8 f9 f10 f11
    obtain ⟨n, rfl⟩ : ∃ j, n = j + 1 := ⟨n - 1, by omega⟩
    cases rest with
    | nil =>
      refine ⟨v8, pre.length, H, τ, Gr.refl hw, by simpa [splitF] using ho, by rw [he]; simp <;> omega, by rw [he]; simp [splitF], by simpa [splitF] using hb, ?_⟩
      have e1 : decide (((pre.length + cur.length : Nat) : Int) < (s.length : Int)) = false := decide_eq_false (by rw [he]; simp)
      rw [loopK_succ]
      simp only [s91_l1, getK_mk f6, getK_mk f8, getK_mk f9, getK_mk f10, getK_mk f11, lenS_mk, someK_mk, bin_lss, e1, condK_f, seqK]
    | cons x r =>
      have hlen : s.length = pre.length + cur.length + (r.length + 1) := by rw [he]; simp; omega
      have e1 : decide (((pre.length + cur.length : Nat) : Int) < (s.length : Int)) = true := decide_eq_true (by omega)
      have e2 : pStrIndex [.str s, .int .i64 ((pre.length + cur.length : Nat) : Int)] = some (.int .u8 (x.toNat : Int)) := strIndex_mk (by
        rw [he, ← List.length_append, List.getElem?_append_right (Nat.le_refl _)]; simp)
      have e9 : ∀ (j : Nat), j ≤ s.length + 1 → wr .i64 ((j : Int) + Int.ofNat 1) = ((j + 1 : Nat) : Int) := fun j hj => by
        rw [wr_id (by simp; omega) (by simp; omega)]; simp
      have h34 : ((x.toNat : Int) == Int.ofNat 34) = decide (x = 34) := by
        rw [Bool.eq_iff_iff]; simp [← UInt8.toNat_inj]; omega
      have h92 : ((x.toNat : Int) == Int.ofNat 92) = decide (x = 92) := by
        rw [Bool.eq_iff_iff]; simp [← UInt8.toNat_inj]; omega
      have h44 : ((x.toNat : Int) == Int.ofNat 44) = decide (x = 44) := by
        rw [Bool.eq_iff_iff]; simp [← UInt8.toNat_inj]; omega
      rw [loopK_succ]
      simp only [s91_l1, getK_mk f6, getK_mk f8, getK_mk f9, getK_mk f10, getK_mk f11, lenS_mk, someK_mk, bin_lss, e1, condK_t, e2, bin_eql, h34]
      by_cases c34 : x = 34
      · simp only [decide_eq_true c34, condK_t, un_not, s91_j2, getK_set, ↓reduceIte, Nat.reduceEqDiff, bin_add, e9 _ (show pre.length + cur.length ≤ s.length + 1 by omega), seqK]
        obtain ⟨v8', fro, H', τ', k1, k2, k3, k4, k5, k6⟩ := ih r (by simp at hm; omega) (!q) pre (cur ++ [x]) v8 acc n (T.set (T.set (T.set (T.set (T.set (T.set (T.set (T.set .leaf 6 (.str s)) 8 v8) 9 (.bool (!q))) 10 (.int .i64 (pre.length : Int))) 11 (.int .i64 ((pre.length + cur.length : Nat) : Int))) 24 (.int .i64 ((pre.length + cur.length : Nat) : Int))) 25 (.int .i64 ((pre.length + cur.length + 1 : Nat) : Int))) 11 (.int .i64 ((pre.length + cur.length + 1 : Nat) : Int))) H τ hw hB (by rw [he]; simp) ho (by simp at hb; omega) (by simp at hn; omega) (by simp [T.get_set]) (by simp [T.get_set]) (by simp [T.get_set]) (by simp [T.get_set]) (by simp [T.get_set]; omega)
        have hf : splitF q cur (x :: r) = splitF (!q) (cur ++ [x]) r := splitF_quote q cur r c34
        rw [hf]
        exact ⟨v8', fro, H', τ', k1, k2, k3, k4, k5, k6⟩
      · simp only [decide_eq_false c34, condK_f]
        cases q with
        | true =>
          simp only [gK_do, retK, effK_mk, e2, someK_mk, bin_eql, h92, pick_mk, cond_true]
          by_cases c92 : x = 92
          · simp only [decide_eq_true c92, condK_t, bin_add, e9 _ (show pre.length + cur.length ≤ s.length + 1 by omega), s91_j2, getK_set, ↓reduceIte, Nat.reduceEqDiff, e9 _ (show pre.length + cur.length + 1 ≤ s.length + 1 by omega), seqK]
            cases r with
            | nil =>
              -- the loop ends
              have hf : splitF true cur (x :: []) = ([], cur ++ [x]) := splitF_end cur c34 c92
              rw [hf]
              obtain ⟨n, rfl⟩ : ∃ j, n = j + 1 := ⟨n - 1, by simp at hn; omega⟩
              refine ⟨v8, pre.length, H, τ, Gr.refl hw, by simpa using ho, by omega, by rw [he]; simp, by simp at hb ⊢; omega, ?_⟩
              have e3 : decide (((pre.length + cur.length + 1 + 1 : Nat) : Int) < (s.length : Int)) = false := decide_eq_false (by simp at hlen; omega)
              rw [loopK_succ]
              simp only [s91_l1, getK_set, ↓reduceIte, Nat.reduceEqDiff, lenS_mk, someK_mk, bin_lss, e3, condK_f, seqK]
            | cons y r' =>
              obtain ⟨v8', fro, H', τ', k1, k2, k3, k4, k5, k6⟩ := ih r' (by simp at hm; omega) true pre (cur ++ [x, y]) v8 acc n (T.set (T.set (T.set (T.set (T.set (T.set (T.set (T.set .leaf 6 (.str s)) 8 v8) 9 (.bool true)) 10 (.int .i64 (pre.length : Int))) 11 (.int .i64 ((pre.length + cur.length + 1 : Nat) : Int))) 24 (.int .i64 ((pre.length + cur.length + 1 : Nat) : Int))) 25 (.int .i64 ((pre.length + cur.length + 1 + 1 : Nat) : Int))) 11 (.int .i64 ((pre.length + cur.length + 1 + 1 : Nat) : Int))) H τ hw hB (by rw [he]; simp) ho (by simp at hb; omega) (by simp at hn; omega) (by simp [T.get_set]) (by simp [T.get_set]) (by simp [T.get_set]) (by simp [T.get_set]) (by simp [T.get_set]; omega)
              have hf : splitF true cur (x :: y :: r') = splitF true (cur ++ [x, y]) r' := splitF_esc cur y r' c34 c92
              rw [hf]
              exact ⟨v8', fro, H', τ', k1, k2, k3, k4, k5, k6⟩
          · simp only [decide_eq_false c92, condK_f, un_not, Bool.not_true, gK_skip, someK_mk, pick_mk, cond_false, s91_j2, getK_set, ↓reduceIte, Nat.reduceEqDiff, bin_add, e9 _ (show pre.length + cur.length ≤ s.length + 1 by omega), seqK]
            obtain ⟨v8', fro, H', τ', k1, k2, k3, k4, k5, k6⟩ := ih r (by simp at hm; omega) true pre (cur ++ [x]) v8 acc n (T.set (T.set (T.set (T.set (T.set (T.set (T.set (T.set .leaf 6 (.str s)) 8 v8) 9 (.bool true)) 10 (.int .i64 (pre.length : Int))) 11 (.int .i64 ((pre.length + cur.length : Nat) : Int))) 24 (.int .i64 ((pre.length + cur.length : Nat) : Int))) 25 (.int .i64 ((pre.length + cur.length + 1 : Nat) : Int))) 11 (.int .i64 ((pre.length + cur.length + 1 : Nat) : Int))) H τ hw hB (by rw [he]; simp) ho (by simp at hb; omega) (by simp at hn; omega) (by simp [T.get_set]) (by simp [T.get_set]) (by simp [T.get_set]) (by simp [T.get_set]) (by simp [T.get_set]; omega)
            have hf : splitF true cur (x :: r) = splitF true (cur ++ [x]) r := splitF_in cur r c34 c92
            rw [hf]
            exact ⟨v8', fro, H', τ', k1, k2, k3, k4, k5, k6⟩
        | false =>
          simp only [gK_skip, someK_mk, pick_mk, cond_false, condK_f, un_not, Bool.not_false, gK_do, retK, effK_mk, e2, bin_eql, h44, cond_true]
          by_cases c44 : x = 44
          · have e3 : pStrSlice true true [.str s, .int .i64 (pre.length : Int), .int .i64 ((pre.length + cur.length : Nat) : Int)] = some (.str cur) := by
              rw [strSlice_lohi (by omega) (by omega), he, drop_mid]
            obtain ⟨H1, p1, p2⟩ := h114 cur (by omega) H hw τ (fun v51 H52 τ53 =>
              effK (eBuildSlice 1 1 [(.str [])] [(0, 1)] [v51] H52 τ53) fun v54 H55 τ56 =>
              effK (eAppend 1 16 [v8, v54] H55 τ56) fun v57 H58 τ59 =>
              binK .add (.int .i64 ((pre.length + cur.length : Nat) : Int)) (.int .i64 (.ofNat 1)) fun v60 =>
              s91_j2 c N (seqK (fun st τ => loopK (s91_l1 c N) n st τ k) k) ⟨(T.set (T.set (T.set (T.set (T.set (T.set (T.set .leaf 6 (.str s)) 8 v57) 9 (.bool false)) 11 (.int .i64 ((pre.length + cur.length : Nat) : Int))) 60 (.int .i64 ((pre.length + cur.length : Nat) : Int))) 61 v60) 10 v60), H58⟩ τ59)
            have hw1 := p1.wf
            have ho1 := ho.gr p1 hw (Nat.le_refl _)
            have hG3 := Gr.new hw1 [V.str (trimB tight cur)] (1 * 1) false
            have ho3 := ho1.gr hG3 hw1 (Nat.le_refl _)
            obtain ⟨v57, H4, r1, r2, r3, r4⟩ := ho3.append (bytes := 16) hG3.wf (by have := p1.size; have := hG3.size; omega) 1 [.str (trimB tight cur)] (by omega) rfl rfl (by simp at hb; omega) (by simp at hb; omega) τ
            have e8 : eAppend 1 16 [v8, .sl H1.size 0 1 1 none 1] (H1.new [.str (trimB tight cur)] (1 * 1) false) τ = some (v57, H4, τ.tail) := by
              have hl : (H1.new [V.str (trimB tight cur)] (1 * 1) false).loads H1.size 0 (1 * 1) = some [.str (trimB tight cur)] := by
                rw [loads_cells (cells_new _ _ _ _) (by simp)]; rfl
              simp only [eAppend, srcLen, srcCells, Nat.beq_refl, cond_true, hl, r1]
            have e7 : eBuildSlice 1 1 [(.str [])] [(0, 1)] [.str (trimB (List.contains [9, 32]) cur)] H1 τ = some (.sl H1.size 0 1 1 none 1, H1.new [.str (trimB tight cur)] (1 * 1) false, τ) := rfl
            obtain ⟨v8', fro, H', τ', k1, k2, k3, k4, k5, k6⟩ := ih r (by simp at hm; omega) false (pre ++ cur ++ [x]) [] v57 (acc ++ [trimB tight cur]) n (T.set (T.set (T.set (T.set (T.set (T.set (T.set (T.set .leaf 6 (.str s)) 8 v57) 9 (.bool false)) 10 (.int .i64 ((pre.length + cur.length + 1 : Nat) : Int))) 11 (.int .i64 ((pre.length + cur.length : Nat) : Int))) 24 (.int .i64 ((pre.length + cur.length : Nat) : Int))) 25 (.int .i64 ((pre.length + cur.length + 1 : Nat) : Int))) 11 (.int .i64 ((pre.length + cur.length + 1 : Nat) : Int))) H4 τ.tail r3.wf (by have := p1.size; have := hG3.size; have := r3.size; omega) (by rw [he]; simp) (by simpa using r2) (by simp at hb ⊢; omega) (by simp at hn; omega) (by simp [T.get_set]) (by simp [T.get_set]) (by simp [T.get_set]) (by simp [T.get_set]; omega) (by simp [T.get_set]; omega)
            have hf : splitF false cur (x :: r) = (cur :: (splitF false [] r).1, (splitF false [] r).2) := splitF_comma cur r c34 c44
            rw [hf]
            refine ⟨v8', fro, H', τ', ((p1.trans hG3 p1.size).weaken hB).trans (r3.trans k1 (Nat.le_refl _)) (Nat.le_refl _), by simpa using k2, k3, k4, by simpa using k5, ?_⟩
            simp only [decide_eq_true c44, condK_t, e3, someK_mk]
            rw [show bs [9, 32] = [9, 32] from rfl, p2, e7, effK_mk, e8, effK_mk]
            simp only [bin_add, e9 _ (show pre.length + cur.length ≤ s.length + 1 by omega), s91_j2, getK_set, ↓reduceIte, Nat.reduceEqDiff, seqK]
            exact k6
          · simp only [decide_eq_false c44, condK_f, s91_j2, getK_set, ↓reduceIte, Nat.reduceEqDiff, bin_add, e9 _ (show pre.length + cur.length ≤ s.length + 1 by omega), seqK]
            obtain ⟨v8', fro, H', τ', k1, k2, k3, k4, k5, k6⟩ := ih r (by simp at hm; omega) false pre (cur ++ [x]) v8 acc n (T.set (T.set (T.set (T.set (T.set (T.set (T.set (T.set .leaf 6 (.str s)) 8 v8) 9 (.bool false)) 10 (.int .i64 (pre.length : Int))) 11 (.int .i64 ((pre.length + cur.length : Nat) : Int))) 24 (.int .i64 ((pre.length + cur.length : Nat) : Int))) 25 (.int .i64 ((pre.length + cur.length + 1 : Nat) : Int))) 11 (.int .i64 ((pre.length + cur.length + 1 : Nat) : Int))) H τ hw hB (by rw [he]; simp) ho (by simp at hb; omega) (by simp at hn; omega) (by simp [T.get_set]) (by simp [T.get_set]) (by simp [T.get_set]) (by simp [T.get_set]) (by simp [T.get_set]; omega)
            have hf : splitF false cur (x :: r) = splitF false (cur ++ [x]) r := splitF_out cur r c34 c44
            rw [hf]
            exact ⟨v8', fro, H', τ', k1, k2, k3, k4, k5, k6⟩

def piecesB (s : Bs) : List Bs := ((splitF false [] s).1 ++ [(splitF false [] s).2]).map (trimB tight)
def splitT (name : Bs) (hs : List (Bs × Bs)) : List Bs := if 0 < (sel name hs).length then piecesB (getT name hs) else []

/-- what 'headers.Get' answers -/
def GetOk (c : CallK) (name : Bs) (hs : List (Bs × Bs)) : Prop := ∀ (v : V) (H : Heap), WF H → Rd H 2 v hs.length (hcells hs) → ∀ τ q,
    ∃ H' τ', Gr H.size H H' ∧ c 78 [v, .str name] H τ q = q (.tup [.str (getT name hs), .bool (decide (0 < (sel name hs).length))]) H' τ'

theorem s91_ret (c : CallK) (N : Nat) (hN : 9223372036854775807 ≤ N) (name : Bs) (hs : List (Bs × Bs)) (hj : (getT name hs).length < 4294967296) (h78 : GetOk c name hs) (h114 : TrimOk c [9, 32])
    (v : V) (H : Heap) (hw : WF H) (hr : Rd H 2 v hs.length (hcells hs)) (τ : Tape) (q : KV) :
    ∃ v' H' τ', Own H' H.size 1 v' (splitT name hs).length ((splitT name hs).map V.str) ∧ (splitT name hs).length ≤ 4294967296 ∧ Gr H.size H H' ∧ s91 c N v (.str name) H τ q = q (.tup [v', .bool (decide (0 < (sel name hs).length))]) H' τ' := by
  obtain ⟨H1, τ1, k1, k2⟩ := h78 v H hw hr τ (fun v0 H1 τ2 =>
    someK (pExtract 0 [v0]) fun v3 =>
    someK (pExtract 1 [v0]) fun v4 =>
    unK .not v4 fun v5 =>
    condK v5
      (q (.tup [.nils, (.bool false)]) H1 τ2)
      (loopK (s91_l1 c N) N ⟨(T.set (T.set (T.set (T.set (T.set .leaf 6 v3) 8 .nils) 9 (.bool false)) 10 (.int .i64 (.ofNat 0))) 11 (.int .i64 (.ofNat 0))), H1⟩ τ2 (blockK 0 (seqK (s91_j0 c N q) (endK [(.t 4), (.t 5)] q)))))
  by_cases hp : 0 < (sel name hs).length
  · obtain ⟨v8, fro, H2, τ2, m1, m2, m3, m4, m5, m6⟩ := split_loop c N (B := H.size) (blockK 0 (seqK (s91_j0 c N q) (endK [(.t 4), (.t 5)] q))) (getT name hs) hj h114 _ (getT name hs) (Nat.le_refl _) false [] [] .nils [] N (T.set (T.set (T.set (T.set (T.set .leaf 6 (.str (getT name hs))) 8 .nils) 9 (.bool false)) 10 (.int .i64 0)) 11 (.int .i64 0)) H1 τ1 k1.wf k1.size rfl (Own.nil _ _ _) (by simpa using hj) (by omega) (by simp [T.get_set]) (by simp [T.get_set]) (by simp [T.get_set]) (by simp [T.get_set]) (by simp [T.get_set])
    obtain ⟨H3, p1, p2⟩ := h114 (splitF false [] (getT name hs)).2 (by
      have : ((getT name hs).drop fro).length ≤ (getT name hs).length := by rw [List.length_drop]; omega
      rw [← m4]; omega) H2 m1.wf τ2 (fun v7 H8 τ9 =>
      effK (eBuildSlice 1 1 [(.str [])] [(0, 1)] [v7] H8 τ9) fun v10 H11 τ12 =>
      effK (eAppend 1 16 [v8, v10] H11 τ12) fun v13 H14 τ15 =>
      q (.tup [v13, (.bool true)]) H14 τ15)
    have ho1 := m2.gr p1 m1.wf (Nat.le_refl _)
    have hG3 := Gr.new p1.wf [V.str (trimB tight (splitF false [] (getT name hs)).2)] (1 * 1) false
    have ho3 := ho1.gr hG3 p1.wf (Nat.le_refl _)
    obtain ⟨v13, H4, r1, r2, r3, r4⟩ := ho3.append (bytes := 16) hG3.wf (by have := k1.size; have := m1.size; have := p1.size; have := hG3.size; omega) 1 [.str (trimB tight (splitF false [] (getT name hs)).2)] (by omega) rfl rfl (by simp at m5 ⊢; omega) (by simp at m5 ⊢; omega) τ2
    have e8 : eAppend 1 16 [v8, .sl H3.size 0 1 1 none 1] (H3.new [.str (trimB tight (splitF false [] (getT name hs)).2)] (1 * 1) false) τ2 = some (v13, H4, τ2.tail) := by
      have hl : (H3.new [V.str (trimB tight (splitF false [] (getT name hs)).2)] (1 * 1) false).loads H3.size 0 (1 * 1) = some [.str (trimB tight (splitF false [] (getT name hs)).2)] := by
        rw [loads_cells (cells_new _ _ _ _) (by simp)]; rfl
      simp only [eAppend, srcLen, srcCells, Nat.beq_refl, cond_true, hl, r1]
    have e7 : eBuildSlice 1 1 [(.str [])] [(0, 1)] [.str (trimB (List.contains [9, 32]) (splitF false [] (getT name hs)).2)] H3 τ2 = some (.sl H3.size 0 1 1 none 1, H3.new [.str (trimB tight (splitF false [] (getT name hs)).2)] (1 * 1) false, τ2) := rfl
    have hT : splitT name hs = piecesB (getT name hs) := if_pos hp
    have hP : piecesB (getT name hs) = ([] ++ (splitF false [] (getT name hs)).1.map (trimB tight)) ++ [trimB tight (splitF false [] (getT name hs)).2] := by simp [piecesB]
    refine ⟨v13, H4, τ2.tail, ?_, ?_, ?_, ?_⟩
    · rw [hT, hP]; simpa using r2
    · rw [hT, hP, List.length_append]; simp at m5 ⊢; omega
    · have hB1 := k1.size
      have hB2 := m1.size
      have hB3 := p1.size
      exact k1.trans (m1.trans ((p1.weaken (by omega)).trans ((hG3.weaken (by omega)).trans r3 (Nat.le_refl _)) (Nat.le_refl _)) (Nat.le_refl _)) (Nat.le_refl _)
    · have hst : s91 c N v (.str name) H τ q = _ := k2
      rw [hst]
      simp only [pExtract, List.getElem?_cons_zero, List.getElem?_cons_succ, someK_mk, un_not, decide_eq_true hp, Bool.not_true, condK_f]
      rw [show (V.int IntKind.i64 (Int.ofNat 0)) = .int .i64 0 from rfl, m6]
      simp only [blockK, Nat.beq_refl, cond_true, seqK, s91_j0, getK_set, ↓reduceIte, Nat.reduceEqDiff]
      rw [strSlice_lo m3, m4, someK_mk, show bs [9, 32] = [9, 32] from rfl, p2, e7, effK_mk, e8, effK_mk]
  · have hT : splitT name hs = [] := if_neg hp
    refine ⟨.nils, H1, τ1, by rw [hT]; exact Own.nil _ _ _, by rw [hT]; simp, k1, ?_⟩
    have hst : s91 c N v (.str name) H τ q = _ := k2
    rw [hst]
    simp only [pExtract, List.getElem?_cons_zero, List.getElem?_cons_succ, someK_mk, un_not, decide_eq_false hp, Bool.not_false, condK_t]

/-! ### a piece -/
def blank : UInt8 → Bool := ([9, 10, 12, 13, 32] : Bs).contains
def strip (s : Bs) : Bs := trimB blank s
abbrev StripOk (c : CallK) : Prop := ∀ (s : Bs), s.length < 9223372036854775807 → ∀ (H : Heap), WF H → ∀ τ q, ∃ H', Gr H.size H H' ∧ c 80 [.str s] H τ q = q (.str (strip s)) H' τ
theorem trimB_length (p : UInt8 → Bool) (s : Bs) : (trimB p s).length ≤ s.length := by
  unfold trimB
  have h1 := (List.dropWhile_sublist (l := (s.reverse.dropWhile p).reverse) p).length_le
  have h2 := (List.dropWhile_sublist (l := s.reverse) p).length_le
  simp only [List.length_reverse] at h1 h2
  omega
theorem s80_ret (c : CallK) (N : Nat) (h114 : TrimOk c [9, 10, 12, 13, 32]) (s : Bs) (hs : s.length < 9223372036854775807) (H : Heap) (hw : WF H) (τ : Tape) (q : KV) : ∃ H', Gr H.size H H' ∧ s80 c N (.str s) H τ q = q (.str (strip s)) H' τ := by
  obtain ⟨H', h1, h2⟩ := h114 s hs H hw τ (fun v0 H1 τ2 => q v0 H1 τ2)
  exact ⟨H', h1, h2⟩

def unq (v : Bs) : Bs := if 1 < v.length ∧ v[0]? = some 34 ∧ v[v.length - 1]? = some 34 then (v.take (v.length - 1)).drop 1 else v
def pieceT (s : Bs) : Bs × Bs :=
  match cutB 61 s with
  | some (a, b) => (lower (strip a), unq (strip b))
  | none => (lower (strip s), unq (strip []))

abbrev CutOk (c : CallK) (x : UInt8) : Prop := ∀ (s : Bs), s.length < 9223372036854775807 → ∀ H τ q, c 62 [.str s, .str [x]] H τ q = q (match cutB x s with | some (a, b) => .tup [.str a, .str b, .bool true] | none => .tup [.str s, .str [], .bool false]) H τ

theorem s95_ret (c : CallK) (N : Nat) (h62 : CutOk c 61) (h80 : StripOk c) (h92 : LowOk c) (s : Bs) (hs : s.length ≤ 274877906944) (H : Heap) (hw : WF H) (τ : Tape) (q : KV) :
    ∃ H' τ', Gr H.size H H' ∧ s95 c N (.str s) H τ q = q (.tup [.str (pieceT s).1, .str (pieceT s).2]) H' τ' := by
  obtain ⟨a, b, hab, ha, hb, hc⟩ : ∃ a b : Bs, (∃ d, (match cutB 61 s with | some (a, b) => V.tup [.str a, .str b, .bool true] | none => V.tup [.str s, .str [], .bool false]) = .tup [.str a, .str b, .bool d]) ∧ a.length ≤ s.length ∧ b.length ≤ s.length ∧ pieceT s = (lower (strip a), unq (strip b)) := by
    unfold pieceT
    cases hx : cutB 61 s with
    | none => exact ⟨s, [], ⟨false, rfl⟩, Nat.le_refl _, by simp, rfl⟩
    | some ab =>
      obtain ⟨a, b⟩ := ab
      have := ((cutB_spec 61 s).2 a b hx).1
      exact ⟨a, b, ⟨true, rfl⟩, by rw [this]; simp, by rw [this]; simp; omega, rfl⟩
  obtain ⟨d, hab⟩ := hab
  -- what comes behind the value
  have hjoin : ∀ (w : Bs) (H1 : Heap) (fr : T V), WF H1 → fr.get 4 = some (.str a) → fr.get 5 = some (.str w) → ∃ H' τ', Gr H1.size H1 H' ∧ s95_j0 c N q ⟨fr, H1⟩ τ = q (.tup [.str (lower (strip a)), .str w]) H' τ' := by
    intro w H1 fr hw1 f4 f5
    obtain ⟨H2, p1, p2⟩ := h80 a (by omega) H1 hw1 τ (fun v40 H41 τ42 => c 92 [v40] H41 τ42 fun v43 H44 τ45 => q (.tup [v43, .str w]) H44 τ45)
    obtain ⟨H3, τ3, r1, r2⟩ := h92 (strip a) (by have := trimB_length blank a; unfold strip; omega) H2 p1.wf τ (fun v43 H44 τ45 => q (.tup [v43, .str w]) H44 τ45)
    refine ⟨H3, τ3, p1.trans r1 p1.size, ?_⟩
    simp only [s95_j0, getK_mk f4, getK_mk f5, p2, r2]
  obtain ⟨H1, k1, k2⟩ := h80 b (by omega) H hw τ (fun v6 H7 τ8 =>
    someK (pLenS [v6]) fun v9 =>
    binK .gtr v9 (.int .i64 (.ofNat 1)) fun v10 =>
    gK v10 true (fun q' => q' v6 H7 τ8) H7 τ8 fun v11 H12 τ13 =>
    gK v10 true (fun q' => someK (pStrIndex [v11, (.int .i64 (.ofNat 0))]) fun v => q' v H12 τ13) H12 τ13 fun v14 H15 τ16 =>
    gK v10 true (fun q' => binK .eql v14 (.int .u8 (.ofNat 34)) fun v => q' v H15 τ16) H15 τ16 fun v17 H18 τ19 =>
    someK (pPick [v10, v17, (.bool false)]) fun v20 =>
    gK v20 true (fun q' => q' v6 H18 τ19) H18 τ19 fun v21 H22 τ23 =>
    gK v20 true (fun q' => q' v6 H22 τ23) H22 τ23 fun v24 H25 τ26 =>
    gK v20 true (fun q' => someK (pLenS [v24]) fun v => q' v H25 τ26) H25 τ26 fun v27 H28 τ29 =>
    gK v20 true (fun q' => binK .sub v27 (.int .i64 (.ofNat 1)) fun v => q' v H28 τ29) H28 τ29 fun v30 H31 τ32 =>
    gK v20 true (fun q' => someK (pStrIndex [v21, v30]) fun v => q' v H31 τ32) H31 τ32 fun v33 H34 τ35 =>
    gK v20 true (fun q' => binK .eql v33 (.int .u8 (.ofNat 34)) fun v => q' v H34 τ35) H34 τ35 fun v36 H37 τ38 =>
    someK (pPick [v20, v36, (.bool false)]) fun v39 =>
    condK v39
      (someK (pLenS [v6]) fun v46 =>
    binK .sub v46 (.int .i64 (.ofNat 1)) fun v47 =>
    someK (pStrSlice true true [v6, (.int .i64 (.ofNat 1)), v47]) fun v48 =>
    s95_j0 c N q ⟨(T.set (T.set (T.set (T.set (T.set (T.set (T.set (T.set (T.set .leaf 4 (.str a)) 5 v6) 30 v39) 31 v6) 32 v6) 33 v46) 34 v47) 35 v48) 5 v48), H37⟩ τ38)
      (s95_j0 c N q ⟨(T.set (T.set (T.set .leaf 4 (.str a)) 5 v6) 30 v39), H37⟩ τ38))
  have hvl : (strip b).length ≤ s.length := by have := trimB_length blank b; unfold strip; omega
  have fin : ∀ (w : Bs) (fr : T V), w = unq (strip b) → fr.get 4 = some (.str a) → fr.get 5 = some (.str w) → s95 c N (.str s) H τ q = s95_j0 c N q ⟨fr, H1⟩ τ → ∃ H' τ', Gr H.size H H' ∧ s95 c N (.str s) H τ q = q (.tup [.str (pieceT s).1, .str (pieceT s).2]) H' τ' := by
    intro w fr hw' f4 f5 he
    obtain ⟨H', τ', r1, r2⟩ := hjoin w H1 fr k1.wf f4 f5
    exact ⟨H', τ', k1.trans r1 k1.size, by rw [he, r2, hc, hw']⟩
  have hst := Eq.trans (a := s95 c N (.str s) H τ q) (by
    simp only [s95]
    rw [show bs [61] = [61] from rfl, h62 s (by omega), hab]
    simp only [pExtract, List.getElem?_cons_zero, List.getElem?_cons_succ, someK_mk]) k2
  rw [hst] at fin ⊢
  simp only [lenS_mk, someK_mk, bin_gtr] at fin ⊢
  by_cases h1 : 1 < (strip b).length
  · have e1 : decide (Int.ofNat 1 < ((strip b).length : Int)) = true := decide_eq_true (by first | (simp; done) | (simp; omega) | omega)
    obtain ⟨x, hx⟩ : ∃ x, (strip b)[0]? = some x := ⟨(strip b)[0], List.getElem?_eq_getElem (by omega)⟩
    obtain ⟨y, hy⟩ : ∃ y, (strip b)[(strip b).length - 1]? = some y := ⟨(strip b)[(strip b).length - 1], List.getElem?_eq_getElem (by omega)⟩
    have e2 : pStrIndex [.str (strip b), .int .i64 (.ofNat 0)] = some (.int .u8 (x.toNat : Int)) := strIndex_mk (i := 0) hx
    have e3 : wr .i64 (((strip b).length : Int) - Int.ofNat 1) = (((strip b).length - 1 : Nat) : Int) := by
      have e0 : ((strip b).length : Int) - Int.ofNat 1 = (((strip b).length - 1 : Nat) : Int) := by
        rw [Int.ofNat_sub (by omega)]; rfl
      rw [e0]
      exact wr_id (by omega) (by omega)
    have e4 : pStrIndex [.str (strip b), .int .i64 (((strip b).length - 1 : Nat) : Int)] = some (.int .u8 (y.toNat : Int)) := strIndex_mk hy
    have e5 : pStrSlice true true [.str (strip b), .int .i64 (.ofNat 1), .int .i64 (((strip b).length - 1 : Nat) : Int)] = some (.str (((strip b).take ((strip b).length - 1)).drop 1)) := strSlice_lohi (i := 1) (by omega) (by omega)
    have hx34 : ((x.toNat : Int) == Int.ofNat 34) = decide (x = 34) := by
      rw [Bool.eq_iff_iff]; simp [← UInt8.toNat_inj]; omega
    have hy34 : ((y.toNat : Int) == Int.ofNat 34) = decide (y = 34) := by
      rw [Bool.eq_iff_iff]; simp [← UInt8.toNat_inj]; omega
    simp only [e1, gK_do, retK, effK_mk, e2, someK_mk, bin_eql, hx34, pick_mk, cond_true] at fin ⊢
    by_cases cx : x = 34
    · simp only [decide_eq_true cx, gK_do, retK, effK_mk, lenS_mk, someK_mk, bin_sub, e3, e4, bin_eql, hy34, pick_mk, cond_true] at fin ⊢
      by_cases cy : y = 34
      · simp only [decide_eq_true cy, condK_t, e5, someK_mk] at fin ⊢
        refine fin (((strip b).take ((strip b).length - 1)).drop 1) _ ?_ (by simp [T.get_set]) (by simp [T.get_set]) rfl
        rw [unq, if_pos ⟨h1, by rw [hx, cx], by rw [hy, cy]⟩]
      · simp only [decide_eq_false cy, condK_f] at fin ⊢
        refine fin (strip b) _ ?_ (by simp [T.get_set]) (by simp [T.get_set]) rfl
        rw [unq, if_neg (fun h => cy (by have := h.2.2; rw [hy] at this; simpa using this))]
    · simp only [decide_eq_false cx, gK_skip, pick_mk, cond_false, someK_mk, condK_f] at fin ⊢
      refine fin (strip b) _ ?_ (by simp [T.get_set]) (by simp [T.get_set]) rfl
      rw [unq, if_neg (fun h => cx (by have := h.2.1; rw [hx] at this; simpa using this))]
  · have e1 : decide (Int.ofNat 1 < ((strip b).length : Int)) = false := decide_eq_false (by first | (simp; done) | (simp; omega) | omega)
    simp only [e1, gK_skip, pick_mk, cond_false, someK_mk, condK_f] at fin ⊢
    refine fin (strip b) _ ?_ (by simp [T.get_set]) (by simp [T.get_set]) rfl
    rw [unq, if_neg (fun h => h1 h.1)]

abbrev Ctl := Bool × Bool × Int
def ctlStep (st : Ctl) (p : Bs × Bs) : Ctl :=
  if p.1 = [110, 111, 45, 115, 116, 111, 114, 101] then (true, st.2.1, st.2.2)
  else if p.1 = [110, 111, 45, 99, 97, 99, 104, 101] then (st.1, true, st.2.2)
  else if p.1 = [109, 97, 120, 45, 97, 103, 101] then (st.1, st.2.1, if (intB p.2).2 = true ∧ st.2.2 < 0 then (intB p.2).1 else st.2.2)
  else st
def ctlC (st : Ctl) : List V := [.bool st.1, .bool st.2.1, .int .i64 st.2.2]

abbrev IntOk (c : CallK) : Prop := ∀ (s : Bs), s.length < 9223372036854775807 → ∀ H τ q, c 79 [.str s] H τ q = q (.tup [.int .i64 (intB s).1, .bool (intB s).2]) H τ
abbrev PieceOk (c : CallK) : Prop := ∀ (s : Bs), s.length ≤ 274877906944 → ∀ (H : Heap), WF H → ∀ τ, ∃ H' τ', Gr H.size H H' ∧ ∀ q, c 95 [.str s] H τ q = q (.tup [.str (pieceT s).1, .str (pieceT s).2]) H' τ'

theorem parse_loop (c : CallK) (N : Nat) (h79 : IntOk c) (h95 : PieceOk c) {B iA iC Bp m : Nat} {cA : List V} {v18 : V} (ps : List Bs) (hm : ps.length = m) (hmb : m ≤ 4294967296) (hsz : ∀ s ∈ ps, s.length ≤ 274877906944) (hpz : ∀ s ∈ ps, (pieceT s).2.length < 9223372036854775807) (hBA : B ≤ iC) (hAC : iA < iC) (hCB : iC < Bp) (l : List Bs) :
    ∀ (pre : List Bs) (st : Ctl) (n : Nat) (fr : T V) (H : Heap) (τ : Tape), WF H → B ≤ H.size → ps = pre ++ l → Bx H iA cA → Bx H iC (ctlC st) → Own H Bp 1 v18 m (ps.map V.str) → l.length < n →
    fr.get 2 = some (.ptr iA 0) → fr.get 3 = some (.ptr iC 0) → fr.get 18 = some v18 → fr.get 19 = some (.int .i64 (m : Int)) → fr.get 20 = some (.int .i64 (pre.length : Int)) →
    ∃ H' τ', Gr B H H' ∧ Bx H' iA cA ∧ Bx H' iC (ctlC (l.foldl (fun st s => ctlStep st (pieceT s)) st)) ∧ ∀ k, loopK (s53_l1 c N) n ⟨fr, H⟩ τ k = k (.exit 0) ⟨T.set (T.set .leaf 2 (.ptr iA 0)) 3 (.ptr iC 0), H'⟩ τ' := by
  induction l with
  | nil =>
    intro pre st n fr H τ hw hB he hA hC ho hn f2 f3 f18 f19 f20
    obtain ⟨n, rfl⟩ : ∃ j, n = j + 1 := ⟨n - 1, by simp at hn; omega⟩
    refine ⟨H, τ, Gr.refl hw, hA, hC, fun k => ?_⟩
    have e1 : decide ((pre.length : Int) < (m : Int)) = false := decide_eq_false (by rw [← hm, he]; simp)
    rw [loopK_succ]
    simp only [s53_l1, getK_mk f2, getK_mk f3, getK_mk f18, getK_mk f19, getK_mk f20, bin_lss, e1, condK_f, seqK]
  | cons s l ih =>
    intro pre st n fr H τ hw hB he hA hC ho hn f2 f3 f18 f19 f20
    obtain ⟨n, rfl⟩ : ∃ j, n = j + 1 := ⟨n - 1, by simp at hn; omega⟩
    have hmm : m = pre.length + (l.length + 1) := by rw [← hm, he]; simp
    have e1 : decide ((pre.length : Int) < (m : Int)) = true := decide_eq_true (by omega)
    obtain ⟨p, e2, e3⟩ := ho.rd.elem1 (i := pre.length) (x := .str s) (by rw [he]; simp)
    have hs : s ∈ ps := by rw [he]; simp
    obtain ⟨H1, τ1, k1, k2⟩ := h95 s (hsz s hs) H hw τ
    have hw1 := k1.wf
    have hA1 := hA.gr k1 (hA.lt hw)
    have hC1 := hC.gr k1 (hC.lt hw)
    have ho1 := ho.gr k1 hw (Nat.le_refl _)
    have e9 : wr .i64 ((pre.length : Int) + Int.ofNat 1) = ((pre ++ [s]).length : Int) := by
      rw [wr_id (by first | (simp; done) | (simp; omega) | omega) (by first | (simp; done) | (simp; omega) | omega)]
      simp
    -- the rest, from a memory on
    have rest : ∀ (st' : Ctl) (H2 : Heap) (fr' : T V), ctlStep st (pieceT s) = st' → WF H2 → B ≤ H2.size → Bx H2 iA cA → Bx H2 iC (ctlC st') → Own H2 Bp 1 v18 m (ps.map V.str) → Gr B H1 H2 →
        fr'.get 2 = some (.ptr iA 0) → fr'.get 3 = some (.ptr iC 0) → fr'.get 18 = some v18 → fr'.get 19 = some (.int .i64 (m : Int)) → fr'.get 20 = some (.int .i64 (pre.length : Int)) →
        ∃ H' τ', Gr B H H' ∧ Bx H' iA cA ∧ Bx H' iC (ctlC ((s :: l).foldl (fun st s => ctlStep st (pieceT s)) st)) ∧ ∀ k, s53_j2 c N (seqK (fun st τ => loopK (s53_l1 c N) n st τ k) k) ⟨fr', H2⟩ τ1 = k (.exit 0) ⟨T.set (T.set .leaf 2 (.ptr iA 0)) 3 (.ptr iC 0), H'⟩ τ' := by
      intro st' H2 fr' hst hw2 hB2 hA2 hC2 ho2 hG2 g2 g3 g18 g19 g20
      obtain ⟨H', τ', q1, q2, q3, q4⟩ := ih (pre ++ [s]) st' n (T.set (T.set (T.set (T.set (T.set (T.set (T.set .leaf 2 (.ptr iA 0)) 3 (.ptr iC 0)) 18 v18) 19 (.int .i64 (m : Int))) 20 (.int .i64 (pre.length : Int))) 51 (.int .i64 ((pre ++ [s]).length : Int))) 20 (.int .i64 ((pre ++ [s]).length : Int))) H2 τ1 hw2 hB2 (by rw [he]; simp) hA2 hC2 ho2 (by simp at hn; omega) (by simp [T.get_set]) (by simp [T.get_set]) (by simp [T.get_set]) (by simp [T.get_set]) (by simp [T.get_set])
      refine ⟨H', τ', (k1.weaken hB).trans (hG2.trans q1 (Nat.le_refl _)) (Nat.le_refl _), q2, by rw [List.foldl_cons, hst]; exact q3, fun k => ?_⟩
      simp only [s53_j2, getK_mk g2, getK_mk g3, getK_mk g18, getK_mk g19, getK_mk g20, bin_add, e9, seqK]
      exact q4 k
    have hB1 : B ≤ H1.size := by have := k1.size; omega
    by_cases c1 : (pieceT s).1 = [110, 111, 45, 115, 116, 111, 114, 101]
    · obtain ⟨H2, m1, m2, m3⟩ := hC1.eStore hw1 0 (.bool true) 1 rfl (by simp [ctlC]) (by omega) rfl τ1
      obtain ⟨H', τ', q1, q2, q3, q4⟩ := rest (true, st.2.1, st.2.2) H2 (T.set (T.set (T.set (T.set (T.set (T.set (T.set (T.set (T.set .leaf 2 (.ptr iA 0)) 3 (.ptr iC 0)) 9 (.str (pieceT s).2)) 18 v18) 19 (.int .i64 (m : Int))) 20 (.int .i64 (pre.length : Int))) 29 (.str (pieceT s).1)) 30 (.bool true)) 32 (.ptr iC 0)) (by rw [ctlStep, if_pos c1]) m3.wf (by rw [m3.size]; exact hB1) (hA1.only m3 (by omega)) m2 (ho1.only m3 hCB) (m3.gr hBA) (by simp [T.get_set]) (by simp [T.get_set]) (by simp [T.get_set]) (by simp [T.get_set]) (by simp [T.get_set])
      refine ⟨H', τ', q1, q2, q3, fun k => ?_⟩
      rw [loopK_succ]
      simp only [s53_l1, getK_mk f2, getK_mk f3, getK_mk f18, getK_mk f19, getK_mk f20, bin_lss, e1, condK_t, e2, someK_mk, e3, k2, pExtract, List.getElem?_cons_zero, List.getElem?_cons_succ, bin_str, str_eql, show ((pieceT s).1 == bs [110, 111, 45, 115, 116, 111, 114, 101]) = true from beq_iff_eq.2 c1, pFieldAddr, Nat.add_zero, m1, effK_mk]
      exact q4 k
    · have b1 : ((pieceT s).1 == bs [110, 111, 45, 115, 116, 111, 114, 101]) = false := beq_eq_false_iff_ne.2 c1
      by_cases c2 : (pieceT s).1 = [110, 111, 45, 99, 97, 99, 104, 101]
      · obtain ⟨H2, m1, m2, m3⟩ := hC1.eStore hw1 1 (.bool true) 1 rfl (by simp [ctlC]) (by omega) rfl τ1
        obtain ⟨H', τ', q1, q2, q3, q4⟩ := rest (st.1, true, st.2.2) H2 (T.set (T.set (T.set (T.set (T.set (T.set (T.set (T.set (T.set .leaf 2 (.ptr iA 0)) 3 (.ptr iC 0)) 9 (.str (pieceT s).2)) 18 v18) 19 (.int .i64 (m : Int))) 20 (.int .i64 (pre.length : Int))) 29 (.str (pieceT s).1)) 33 (.bool true)) 35 (.ptr iC 1)) (by rw [ctlStep, if_neg c1, if_pos c2]) m3.wf (by rw [m3.size]; exact hB1) (hA1.only m3 (by omega)) m2 (ho1.only m3 hCB) (m3.gr hBA) (by simp [T.get_set]) (by simp [T.get_set]) (by simp [T.get_set]) (by simp [T.get_set]) (by simp [T.get_set])
        refine ⟨H', τ', q1, q2, q3, fun k => ?_⟩
        rw [loopK_succ]
        simp only [s53_l1, getK_mk f2, getK_mk f3, getK_mk f18, getK_mk f19, getK_mk f20, bin_lss, e1, condK_t, e2, someK_mk, e3, k2, pExtract, List.getElem?_cons_zero, List.getElem?_cons_succ, bin_str, str_eql, b1, condK_f, show ((pieceT s).1 == bs [110, 111, 45, 99, 97, 99, 104, 101]) = true from beq_iff_eq.2 c2, pFieldAddr, Nat.zero_add, m1, effK_mk]
        exact q4 k
      · have b2 : ((pieceT s).1 == bs [110, 111, 45, 99, 97, 99, 104, 101]) = false := beq_eq_false_iff_ne.2 c2
        by_cases c3 : (pieceT s).1 = [109, 97, 120, 45, 97, 103, 101]
        · have b3 : ((pieceT s).1 == bs [109, 97, 120, 45, 97, 103, 101]) = true := beq_iff_eq.2 c3
          have e5 : lLoad1 [.ptr iC 2] H1 = some (.int .i64 st.2.2) := load_cell hC1.cells rfl
          have e6 : decide (st.2.2 < Int.ofNat 0) = decide (st.2.2 < 0) := rfl
          by_cases c4 : (intB (pieceT s).2).2 = true ∧ st.2.2 < 0
          · obtain ⟨H2, m1, m2, m3⟩ := hC1.eStore hw1 2 (.int .i64 (intB (pieceT s).2).1) 1 rfl (by simp [ctlC]) (by omega) rfl τ1
            obtain ⟨H', τ', q1, q2, q3, q4⟩ := rest (st.1, st.2.1, (intB (pieceT s).2).1) H2 (T.set (T.set (T.set (T.set (T.set (T.set (T.set (T.set (T.set .leaf 2 (.ptr iA 0)) 3 (.ptr iC 0)) 10 (.int .i64 (intB (pieceT s).2).1)) 18 v18) 19 (.int .i64 (m : Int))) 20 (.int .i64 (pre.length : Int))) 48 (.bool true)) 49 (.int .i64 (intB (pieceT s).2).1)) 50 (.ptr iC 2)) (by rw [ctlStep, if_neg c1, if_neg c2, if_pos c3, if_pos c4]) m3.wf (by rw [m3.size]; exact hB1) (hA1.only m3 (by omega)) m2 (ho1.only m3 hCB) (m3.gr hBA) (by simp [T.get_set]) (by simp [T.get_set]) (by simp [T.get_set]) (by simp [T.get_set]) (by simp [T.get_set])
            refine ⟨H', τ', q1, q2, q3, fun k => ?_⟩
            rw [loopK_succ]
            simp only [s53_l1, getK_mk f2, getK_mk f3, getK_mk f18, getK_mk f19, getK_mk f20, bin_lss, e1, condK_t, e2, someK_mk, e3, k2, pExtract, List.getElem?_cons_zero, List.getElem?_cons_succ, bin_str, str_eql, b1, b2, b3, condK_f, h79 _ (hpz s hs), c4.1, gK_do, retK, effK_mk, pFieldAddr, Nat.zero_add, e5, e6, decide_eq_true c4.2, pick_mk, cond_true, m1]
            exact q4 k
          · obtain ⟨H', τ', q1, q2, q3, q4⟩ := rest st H1 (T.set (T.set (T.set (T.set (T.set (T.set (T.set .leaf 2 (.ptr iA 0)) 3 (.ptr iC 0)) 10 (.int .i64 (intB (pieceT s).2).1)) 18 v18) 19 (.int .i64 (m : Int))) 20 (.int .i64 (pre.length : Int))) 48 (.bool false)) (by rw [ctlStep, if_neg c1, if_neg c2, if_pos c3, if_neg c4]) hw1 hB1 hA1 hC1 ho1 (Gr.refl hw1) (by simp [T.get_set]) (by simp [T.get_set]) (by simp [T.get_set]) (by simp [T.get_set]) (by simp [T.get_set])
            refine ⟨H', τ', q1, q2, q3, fun k => ?_⟩
            rw [loopK_succ]
            simp only [s53_l1, getK_mk f2, getK_mk f3, getK_mk f18, getK_mk f19, getK_mk f20, bin_lss, e1, condK_t, e2, someK_mk, e3, k2, pExtract, List.getElem?_cons_zero, List.getElem?_cons_succ, bin_str, str_eql, b1, b2, b3, condK_f, h79 _ (hpz s hs)]
            cases hb : (intB (pieceT s).2).2 with
            | false =>
              simp only [gK_skip, someK_mk, pick_mk, cond_false, condK_f]
              exact q4 k
            | true =>
              have hlt : ¬ st.2.2 < 0 := fun h => c4 ⟨hb, h⟩
              simp only [gK_do, retK, effK_mk, pFieldAddr, Nat.zero_add, someK_mk, e5, bin_lss, e6, decide_eq_false hlt, pick_mk, cond_true, condK_f]
              exact q4 k
        · have b3 : ((pieceT s).1 == bs [109, 97, 120, 45, 97, 103, 101]) = false := beq_eq_false_iff_ne.2 c3
          obtain ⟨H', τ', q1, q2, q3, q4⟩ := rest st H1 (T.set (T.set (T.set (T.set (T.set (T.set (T.set .leaf 2 (.ptr iA 0)) 3 (.ptr iC 0)) 9 (.str (pieceT s).2)) 18 v18) 19 (.int .i64 (m : Int))) 20 (.int .i64 (pre.length : Int))) 36 (.bool false)) (by rw [ctlStep, if_neg c1, if_neg c2, if_neg c3]) hw1 hB1 hA1 hC1 ho1 (Gr.refl hw1) (by simp [T.get_set]) (by simp [T.get_set]) (by simp [T.get_set]) (by simp [T.get_set]) (by simp [T.get_set])
          refine ⟨H', τ', q1, q2, q3, fun k => ?_⟩
          rw [loopK_succ]
          simp only [s53_l1, getK_mk f2, getK_mk f3, getK_mk f18, getK_mk f19, getK_mk f20, bin_lss, e1, condK_t, e2, someK_mk, e3, k2, pExtract, List.getElem?_cons_zero, List.getElem?_cons_succ, bin_str, str_eql, b1, b2, b3, condK_f]
          exact q4 k

end Go.Am.AmTrydAge
