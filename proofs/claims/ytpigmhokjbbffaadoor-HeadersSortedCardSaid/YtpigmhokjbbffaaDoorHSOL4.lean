/- The abstract machine, printed functions of the program, and what they are shown to be. -/
import Derived.Test.YtpigmhokjbbffaaDoorHSOL1
import Derived.Test.YtpigmhokjbbffaaDoorHSOL2
import Derived.Test.YtpigmhokjbbffaaDoorHSOL3
namespace Go.Am.X
set_option linter.unusedSimpArgs false
set_option linter.unusedVariables false
set_option linter.unusedSectionVars false
set_option maxRecDepth 100000
theorem lowB_lowB (x : UInt8) : lowB (lowB x) = lowB x := by
  unfold lowB
  by_cases h : 65 ≤ x.toNat ∧ x.toNat ≤ 90
  · have e : (UInt8.ofNat (x.toNat + 32)).toNat = x.toNat + 32 := by simp; omega
    rw [if_pos h, if_neg (by rw [e]; omega)]
  · rw [if_neg h, if_neg h]
theorem lower_lower (s : Bs) : lower (lower s) = lower s := by
  unfold lower; rw [List.map_map]; exact List.map_congr_left fun x _ => lowB_lowB x
theorem lowN_low {hs : List Hd} {n : Bs} (h : n ∈ srtT (lowN hs)) : lower n = n ∧ ∃ x ∈ hs, lower x.1 = n := by
  have := ((srtT_ok (lowN hs)).2.1 n).1 h
  unfold lowN at this
  obtain ⟨x, hx, rfl⟩ := List.mem_map.1 this
  exact ⟨lower_lower _, x, hx, rfl⟩
theorem oneT_name {hs : List Hd} {n : Bs} {y : Hd} (h : y ∈ oneT hs n) : y.1 = n := by
  unfold oneT at h
  cases hb : (n == scT) with
  | true =>
    rw [hb, cond_true] at h
    obtain ⟨x, _, rfl⟩ := List.mem_map.1 h; rfl
  | false => rw [hb, cond_false, List.mem_singleton] at h; rw [h]
theorem sortT_mem {hs : List Hd} {y : Hd} (h : y ∈ sortT hs) : y.1 ∈ srtT (lowN hs) ∧ y ∈ oneT hs y.1 := by
  unfold sortT at h
  obtain ⟨n, hn, hy⟩ := List.mem_flatMap.1 h
  have e := oneT_name hy
  rw [e]; exact ⟨hn, hy⟩
theorem sel_pos {hs : List Hd} {n : Bs} (h : n ∈ srtT (lowN hs)) : 0 < (sel n hs).length := by
  obtain ⟨h1, x, hx, h2⟩ := lowN_low h
  unfold sel
  rw [List.length_map]
  refine List.length_pos_iff.2 fun e => ?_
  have : x ∈ hs.filter fun h => lower h.1 == lower n := List.mem_filter.2 ⟨hx, by rw [h1, h2]; simp⟩
  rw [e] at this; simp at this
theorem oneT_ne {hs : List Hd} {n : Bs} (h : n ∈ srtT (lowN hs)) : oneT hs n ≠ [] := by
  unfold oneT
  cases hb : (n == scT) with
  | true =>
    rw [cond_true]
    have := sel_pos h
    unfold sel at this
    intro e
    rw [List.map_eq_nil_iff] at e
    have e' : (hs.filter fun h => lower h.1 == lower n) = [] := e
    rw [e'] at this; simp at this
  | false => rw [cond_false]; simp
theorem sortT_get {hs : List Hd} {y : Hd} (h : y ∈ sortT hs) (hn : (y.1 == scT) = false) : y.2 = getT y.1 hs := by
  have h2 := (sortT_mem h).2
  unfold oneT at h2
  rw [hn, cond_false, List.mem_singleton] at h2
  exact congrArg Prod.snd h2
theorem sortT_order (hs : List Hd) : (sortT hs).Pairwise fun a b => ltB a.1 b.1 ∨ (a.1 = b.1 ∧ a.1 = scT) := by
  unfold sortT
  rw [List.pairwise_flatMap]
  refine ⟨fun n hn => ?_, (srtT_ok (lowN hs)).1.imp fun {a b} h x hx y hy => by rw [oneT_name hx, oneT_name hy]; exact .inl h⟩
  unfold oneT
  cases hb : (n == scT) with
  | true =>
    rw [cond_true, List.pairwise_map]
    exact List.pairwise_iff_getElem.2 fun i j _ _ _ => .inr ⟨rfl, beq_iff_eq.1 hb⟩
  | false => rw [cond_false]; simp
theorem flat_filter (hs : List Hd) (n : Bs) (hn : lower n = n) : ∀ (ns : List Bs), ns.Nodup → (∀ m ∈ ns, lower m = m) → (ns.flatMap (oneT hs)).filter (named n) = if n ∈ ns then oneT hs n else [] := by
  have one : ∀ m, lower m = m → (oneT hs m).filter (named n) = if m = n then oneT hs m else [] := by
    intro m hm
    by_cases e : m = n
    · rw [if_pos e, List.filter_eq_self]
      intro y hy
      unfold named
      rw [oneT_name hy, e]; simp
    · rw [if_neg e, List.filter_eq_nil_iff]
      intro y hy
      unfold named
      rw [oneT_name hy, hm, hn]; simpa using e
  intro ns
  induction ns with
  | nil => intro _ _; simp
  | cons m ns ih =>
    intro hd hl
    rw [List.nodup_cons] at hd
    rw [List.flatMap_cons, List.filter_append, one m (hl m (by simp)), ih hd.2 fun k hk => hl k (by simp [hk])]
    by_cases e : m = n
    · subst e
      rw [if_pos rfl, if_neg hd.1, if_pos (by simp), List.append_nil]
    · rw [if_neg e, List.nil_append]
      by_cases e2 : n ∈ ns
      · rw [if_pos e2, if_pos (by simp [e2])]
      · rw [if_neg e2, if_neg (by simp [e2]; exact fun h => e h.symm)]
theorem srt_nodup {l : List Bs} (h : SrtB l) : l.Nodup := h.imp fun {a b} hab e => by rw [e] at hab; exact ltB_no hab
theorem sortT_filter (hs : List Hd) {n : Bs} (hn : n ∈ srtT (lowN hs)) : (sortT hs).filter (named n) = oneT hs n := by
  unfold sortT
  rw [flat_filter hs n (lowN_low hn).1 _ (srt_nodup (srtT_ok (lowN hs)).1) fun m hm => (lowN_low hm).1, if_pos hn]
theorem sortT_names (hs : List Hd) : srtT (lowN (sortT hs)) = srtT (lowN hs) := by
  refine srt_uniq _ _ (srtT_ok _).1 (srtT_ok _).1 fun z => ?_
  rw [(srtT_ok (lowN (sortT hs))).2.1 z]
  constructor
  · intro h
    unfold lowN at h
    obtain ⟨y, hy, rfl⟩ := List.mem_map.1 h
    have := (sortT_mem hy).1
    rw [(lowN_low this).1]; exact this
  · intro h
    obtain ⟨y, hy⟩ := List.exists_mem_of_ne_nil _ (oneT_ne h)
    have e := oneT_name hy
    unfold lowN
    refine List.mem_map.2 ⟨y, ?_, by rw [e, (lowN_low h).1]⟩
    unfold sortT
    exact List.mem_flatMap.2 ⟨z, h, hy⟩
theorem sortT_sortT (hs : List Hd) : sortT (sortT hs) = sortT hs := by
  show (srtT (lowN (sortT hs))).flatMap (oneT (sortT hs)) = (srtT (lowN hs)).flatMap (oneT hs)
  rw [sortT_names]
  have key : ∀ n ∈ srtT (lowN hs), oneT (sortT hs) n = oneT hs n := by
    intro n hn
    have hf := sortT_filter hs hn
    unfold oneT at hf ⊢
    cases hb : (n == scT) with
    | true =>
      rw [hb, cond_true] at hf
      rw [cond_true, cond_true, hf, List.map_map]
      exact List.map_congr_left fun x _ => rfl
    | false =>
      rw [hb, cond_false] at hf
      rw [cond_false, cond_false]
      have hg : getT n (sortT hs) = getT n hs := by
        have hs' : sel n (sortT hs) = [getT n hs] := by
          unfold sel
          have : (fun h : Hd => lower h.1 == lower n) = named n := rfl
          rw [this, hf]; rfl
        show joinB [44, 32] (sel n (sortT hs)) = getT n hs
        rw [hs']
        simp [joinB, joinT]
      rw [hg]
  have : ∀ ns : List Bs, (∀ n ∈ ns, oneT (sortT hs) n = oneT hs n) → ns.flatMap (oneT (sortT hs)) = ns.flatMap (oneT hs) := by
    intro ns
    induction ns with
    | nil => intro _; rfl
    | cons n ns ih => intro h; rw [List.flatMap_cons, List.flatMap_cons, h n (by simp), ih fun m hm => h m (by simp [hm])]
  exact this _ key
theorem safe_forb (n v : Bs) (h : safeB n v = true) : forbB n = false := by
  unfold safeB at h
  unfold forbB
  cases h0 : decide (128 < v.length) with
  | true => rw [h0] at h; cases h
  | false =>
    rw [h0, cond_false] at h
    generalize lower n = l at h ⊢
    have key : ∀ t : Bs, (l == t) = true → (forbT.contains t || (begB t [112, 114, 111, 120, 121, 45] || begB t [115, 101, 99, 45])) = false → (forbT.contains l || (begB l [112, 114, 111, 120, 121, 45] || begB l [115, 101, 99, 45])) = false := by
      intro t ht hh; rw [beq_iff_eq.1 ht]; exact hh
    cases h1 : (l == ([97, 99, 99, 101, 112, 116] : Bs)) with
    | true => exact key _ h1 (by decide)
    | false =>
      rw [h1, cond_false] at h
      cases h2 : (l == ([97, 99, 99, 101, 112, 116, 45, 108, 97, 110, 103, 117, 97, 103, 101] : Bs)) with
      | true => exact key _ h2 (by decide)
      | false =>
        cases h3 : (l == ([99, 111, 110, 116, 101, 110, 116, 45, 108, 97, 110, 103, 117, 97, 103, 101] : Bs)) with
        | true => exact key _ h3 (by decide)
        | false =>
          rw [h2, h3, Bool.false_or, cond_false] at h
          cases h4 : (l == ([99, 111, 110, 116, 101, 110, 116, 45, 116, 121, 112, 101] : Bs)) with
          | true => exact key _ h4 (by decide)
          | false =>
            rw [h4, cond_false] at h
            cases h5 : (l == ([114, 97, 110, 103, 101] : Bs)) with
            | true => exact key _ h5 (by decide)
            | false => rw [h5] at h; cases h
set_option maxHeartbeats 1000000 in
theorem l_law5_HeadersSorted (c : CallK) (N : Nat) (hG : IsP c f_headers_Get (RH GetPre GetG)) (hSa : IsP c f_headers_Safe SafeR) (hFo : IsP c f_headers_Forbidden ForbR) (hs S : List Hd) (hS : Small hs) (lv sv : V) (H : Heap) (hr : RdH H lv hs) (hrs : RdH H sv S) (hl : S.length ≤ 1000000) (hn : ∀ x ∈ S, x.1.length ≤ 1000000)
    (hp : ∀ a p x b, S = a ++ p :: x :: b → lessB x.1 p.1 = false ∧ ((x.1 == p.1) = true → (x.1 != scT) = false))
    (hg : ∀ x ∈ S, decide (0 < (sel x.1 hs).length) = true ∧ ((x.1 != scT) = true → (getT x.1 hs != x.2) = false)) :
    ∀ (l pre : List Hd) (τ : Tape) (m : Nat), S = pre ++ l → l.length < m → ∀ (fr : T V) k, fr.get 0 = some lv → fr.get 3 = some sv → fr.get 4 = some (.int .i64 (pre.length : Int)) →
    loopK (s_law5_HeadersSorted_l1 c N) m ⟨fr, H⟩ τ k = k (.exit 0) ⟨(T.set .leaf 3 sv), H⟩ τ := by
  intro l
  induction l with
  | nil =>
    intro pre τ m he hm fr k f0 f3 f4
    obtain ⟨m, rfl⟩ : ∃ j, m = j + 1 := ⟨m - 1, by omega⟩
    have e1 : decide (pre.length < S.length) = false := decide_eq_false (by rw [he]; simp)
    rw [loopK_succ]
    simp only [s_law5_HeadersSorted_l1, getK_mk f0, getK_mk f3, getK_mk f4, hrs.1.pLen, getK_set, ↓reduceIte, Nat.reduceEqDiff, someK_n, effK_n, retK, gK_do, gK_do', gK_skip, gK_skip', gK_none, pick_mk, cond_true, cond_false, condK_tn, condK_fn, bin_eql, bin_neq, bin_lss, bin_leq, bin_gtr, bin_geq, un_not, Bool.not_true, Bool.not_false, bin_str, lenS_mk, nle_l, nle_r, nle_n, nlt_l, nlt_r, nlt_n, neq_r, neq_n, nne_r, nne_n, ext0, ext1, ext30, ext31, ext32, bin_add, bin_sub, decide_true, decide_false, e1]
    rfl
  | cons x l ih =>
    intro pre τ m he hm fr k f0 f3 f4
    obtain ⟨m, rfl⟩ : ∃ j, m = j + 1 := ⟨m - 1, by omega⟩
    have hlt : pre.length < S.length := by rw [he]; simp
    have hx : x ∈ S := by rw [he]; simp
    have e1 : decide (pre.length < S.length) = true := decide_eq_true hlt
    have e3 : wr .i64 ((pre.length : Int) + Int.ofNat 1) = ((pre ++ [x]).length : Int) := by rw [adI (by omega)]; simp
    obtain ⟨id, o, p1, p2⟩ := hd_at (v := sv) pre x l (H := H) (by rw [← he]; exact hrs.1)
    obtain ⟨q1, q2, q3⟩ := p2 H (by rw [← he]; exact hrs.1)
    have pf0 : ∀ id o, pFieldAddr 0 [.ptr id o] = some (.ptr id o) := fun _ _ => rfl
    have pf1 : ∀ id o, pFieldAddr 1 [.ptr id o] = some (.ptr id (o + 1)) := fun _ _ => rfl
    have hxn := hn x hx
    obtain ⟨g1, g2⟩ := hg x hx
    have kg := fun τ q => k_Get hG hS (name := x.1) (by omega) hr τ q
    have ks := fun H τ q => k_Safe hSa x.1 x.2 (by omega) H τ q
    have kf := fun H τ q => k_Forbidden hFo x.1 (by omega) H τ q
    have ek : bs [115, 101, 116, 45, 99, 111, 111, 107, 105, 101] = scT := rfl
    have next := fun fr f0 f3 f4 => ih (pre ++ [x]) τ m (by rw [he]; simp) (by simp at hm; omega) fr k f0 f3 f4
    have sf := safe_forb x.1 x.2
    -- behind the first question
    rw [loopK_succ]
    by_cases h0 : 0 < pre.length
    · obtain ⟨pre', p, rfl⟩ : ∃ a p, pre = a ++ [p] := ⟨pre.dropLast, pre.getLast (by intro h; subst h; simp at h0), (List.dropLast_concat_getLast _).symm⟩
      have e0 : decide (0 < (pre' ++ [p]).length) = true := decide_eq_true h0
      have he' : S = pre' ++ p :: x :: l := by rw [he]; simp
      obtain ⟨id', o', p3, p4⟩ := hd_at (v := sv) pre' p (x :: l) (H := H) (by rw [← he']; exact hrs.1)
      obtain ⟨q4, q5, q6⟩ := p4 H (by rw [← he']; exact hrs.1)
      have e5 : wr .i64 (((pre' ++ [p]).length : Int) - Int.ofNat 1) = (pre'.length : Int) := by rw [sbI (by simp) (by omega)]; simp
      obtain ⟨c1, c2⟩ := hp pre' p x l he'
      cases d1 : (x.1 == p.1) with
      | true =>
        have d2 := c2 d1
        cases d4 : safeB x.1 x.2 with
        | true =>
          have d5 := sf d4
          simp only [s_law5_HeadersSorted_l1, getK_mk f0, getK_mk f3, getK_mk f4, hrs.1.pLen, getK_set, ↓reduceIte, Nat.reduceEqDiff, someK_n, effK_n, retK, gK_do, gK_do', gK_skip, gK_skip', gK_none, pick_mk, cond_true, cond_false, condK_tn, condK_fn, bin_eql, bin_neq, bin_lss, bin_leq, bin_gtr, bin_geq, un_not, Bool.not_true, Bool.not_false, bin_str, lenS_mk, nle_l, nle_r, nle_n, nlt_l, nlt_r, nlt_n, neq_r, neq_n, nne_r, nne_n, ext0, ext1, ext30, ext31, ext32, bin_add, bin_sub, decide_true, decide_false, e1, e0, p1, pf0, pf1, q2, q3, e5, p3, q5, str_lss, c1, str_eql, str_neq, d1, ek, d2, kg, g1, ks, kf, d4, d5, e3]
          exact next _ (by simp [T.get_set]) (by simp [T.get_set]) (by simp [T.get_set])
        | false =>
          simp only [s_law5_HeadersSorted_l1, getK_mk f0, getK_mk f3, getK_mk f4, hrs.1.pLen, getK_set, ↓reduceIte, Nat.reduceEqDiff, someK_n, effK_n, retK, gK_do, gK_do', gK_skip, gK_skip', gK_none, pick_mk, cond_true, cond_false, condK_tn, condK_fn, bin_eql, bin_neq, bin_lss, bin_leq, bin_gtr, bin_geq, un_not, Bool.not_true, Bool.not_false, bin_str, lenS_mk, nle_l, nle_r, nle_n, nlt_l, nlt_r, nlt_n, neq_r, neq_n, nne_r, nne_n, ext0, ext1, ext30, ext31, ext32, bin_add, bin_sub, decide_true, decide_false, e1, e0, p1, pf0, pf1, q2, q3, e5, p3, q5, str_lss, c1, str_eql, str_neq, d1, ek, d2, kg, g1, ks, kf, d4, e3]
          exact next _ (by simp [T.get_set]) (by simp [T.get_set]) (by simp [T.get_set])
      | false =>
        cases d3 : (x.1 != scT) with
        | true =>
          have d6 := g2 d3
          cases d4 : safeB x.1 x.2 with
          | true =>
            have d5 := sf d4
            simp only [s_law5_HeadersSorted_l1, getK_mk f0, getK_mk f3, getK_mk f4, hrs.1.pLen, getK_set, ↓reduceIte, Nat.reduceEqDiff, someK_n, effK_n, retK, gK_do, gK_do', gK_skip, gK_skip', gK_none, pick_mk, cond_true, cond_false, condK_tn, condK_fn, bin_eql, bin_neq, bin_lss, bin_leq, bin_gtr, bin_geq, un_not, Bool.not_true, Bool.not_false, bin_str, lenS_mk, nle_l, nle_r, nle_n, nlt_l, nlt_r, nlt_n, neq_r, neq_n, nne_r, nne_n, ext0, ext1, ext30, ext31, ext32, bin_add, bin_sub, decide_true, decide_false, e1, e0, p1, pf0, pf1, q2, q3, e5, p3, q5, str_lss, c1, str_eql, str_neq, d1, ek, d3, kg, g1, d6, ks, kf, d4, d5, e3]
            exact next _ (by simp [T.get_set]) (by simp [T.get_set]) (by simp [T.get_set])
          | false =>
            simp only [s_law5_HeadersSorted_l1, getK_mk f0, getK_mk f3, getK_mk f4, hrs.1.pLen, getK_set, ↓reduceIte, Nat.reduceEqDiff, someK_n, effK_n, retK, gK_do, gK_do', gK_skip, gK_skip', gK_none, pick_mk, cond_true, cond_false, condK_tn, condK_fn, bin_eql, bin_neq, bin_lss, bin_leq, bin_gtr, bin_geq, un_not, Bool.not_true, Bool.not_false, bin_str, lenS_mk, nle_l, nle_r, nle_n, nlt_l, nlt_r, nlt_n, neq_r, neq_n, nne_r, nne_n, ext0, ext1, ext30, ext31, ext32, bin_add, bin_sub, decide_true, decide_false, e1, e0, p1, pf0, pf1, q2, q3, e5, p3, q5, str_lss, c1, str_eql, str_neq, d1, ek, d3, kg, g1, d6, ks, kf, d4, e3]
            exact next _ (by simp [T.get_set]) (by simp [T.get_set]) (by simp [T.get_set])
        | false =>
          cases d4 : safeB x.1 x.2 with
          | true =>
            have d5 := sf d4
            simp only [s_law5_HeadersSorted_l1, getK_mk f0, getK_mk f3, getK_mk f4, hrs.1.pLen, getK_set, ↓reduceIte, Nat.reduceEqDiff, someK_n, effK_n, retK, gK_do, gK_do', gK_skip, gK_skip', gK_none, pick_mk, cond_true, cond_false, condK_tn, condK_fn, bin_eql, bin_neq, bin_lss, bin_leq, bin_gtr, bin_geq, un_not, Bool.not_true, Bool.not_false, bin_str, lenS_mk, nle_l, nle_r, nle_n, nlt_l, nlt_r, nlt_n, neq_r, neq_n, nne_r, nne_n, ext0, ext1, ext30, ext31, ext32, bin_add, bin_sub, decide_true, decide_false, e1, e0, p1, pf0, pf1, q2, q3, e5, p3, q5, str_lss, c1, str_eql, str_neq, d1, ek, d3, kg, g1, ks, kf, d4, d5, e3]
            exact next _ (by simp [T.get_set]) (by simp [T.get_set]) (by simp [T.get_set])
          | false =>
            simp only [s_law5_HeadersSorted_l1, getK_mk f0, getK_mk f3, getK_mk f4, hrs.1.pLen, getK_set, ↓reduceIte, Nat.reduceEqDiff, someK_n, effK_n, retK, gK_do, gK_do', gK_skip, gK_skip', gK_none, pick_mk, cond_true, cond_false, condK_tn, condK_fn, bin_eql, bin_neq, bin_lss, bin_leq, bin_gtr, bin_geq, un_not, Bool.not_true, Bool.not_false, bin_str, lenS_mk, nle_l, nle_r, nle_n, nlt_l, nlt_r, nlt_n, neq_r, neq_n, nne_r, nne_n, ext0, ext1, ext30, ext31, ext32, bin_add, bin_sub, decide_true, decide_false, e1, e0, p1, pf0, pf1, q2, q3, e5, p3, q5, str_lss, c1, str_eql, str_neq, d1, ek, d3, kg, g1, ks, kf, d4, e3]
            exact next _ (by simp [T.get_set]) (by simp [T.get_set]) (by simp [T.get_set])
    · have e0 : decide (0 < pre.length) = false := decide_eq_false h0
      cases d3 : (x.1 != scT) with
      | true =>
        have d6 := g2 d3
        cases d4 : safeB x.1 x.2 with
        | true =>
          have d5 := sf d4
          simp only [s_law5_HeadersSorted_l1, getK_mk f0, getK_mk f3, getK_mk f4, hrs.1.pLen, getK_set, ↓reduceIte, Nat.reduceEqDiff, someK_n, effK_n, retK, gK_do, gK_do', gK_skip, gK_skip', gK_none, pick_mk, cond_true, cond_false, condK_tn, condK_fn, bin_eql, bin_neq, bin_lss, bin_leq, bin_gtr, bin_geq, un_not, Bool.not_true, Bool.not_false, bin_str, lenS_mk, nle_l, nle_r, nle_n, nlt_l, nlt_r, nlt_n, neq_r, neq_n, nne_r, nne_n, ext0, ext1, ext30, ext31, ext32, bin_add, bin_sub, decide_true, decide_false, e1, e0, p1, pf0, pf1, q2, q3, str_neq, ek, d3, kg, g1, d6, ks, kf, d4, d5, e3]
          exact next _ (by simp [T.get_set]) (by simp [T.get_set]) (by simp [T.get_set])
        | false =>
          simp only [s_law5_HeadersSorted_l1, getK_mk f0, getK_mk f3, getK_mk f4, hrs.1.pLen, getK_set, ↓reduceIte, Nat.reduceEqDiff, someK_n, effK_n, retK, gK_do, gK_do', gK_skip, gK_skip', gK_none, pick_mk, cond_true, cond_false, condK_tn, condK_fn, bin_eql, bin_neq, bin_lss, bin_leq, bin_gtr, bin_geq, un_not, Bool.not_true, Bool.not_false, bin_str, lenS_mk, nle_l, nle_r, nle_n, nlt_l, nlt_r, nlt_n, neq_r, neq_n, nne_r, nne_n, ext0, ext1, ext30, ext31, ext32, bin_add, bin_sub, decide_true, decide_false, e1, e0, p1, pf0, pf1, q2, q3, str_neq, ek, d3, kg, g1, d6, ks, kf, d4, e3]
          exact next _ (by simp [T.get_set]) (by simp [T.get_set]) (by simp [T.get_set])
      | false =>
        cases d4 : safeB x.1 x.2 with
        | true =>
          have d5 := sf d4
          simp only [s_law5_HeadersSorted_l1, getK_mk f0, getK_mk f3, getK_mk f4, hrs.1.pLen, getK_set, ↓reduceIte, Nat.reduceEqDiff, someK_n, effK_n, retK, gK_do, gK_do', gK_skip, gK_skip', gK_none, pick_mk, cond_true, cond_false, condK_tn, condK_fn, bin_eql, bin_neq, bin_lss, bin_leq, bin_gtr, bin_geq, un_not, Bool.not_true, Bool.not_false, bin_str, lenS_mk, nle_l, nle_r, nle_n, nlt_l, nlt_r, nlt_n, neq_r, neq_n, nne_r, nne_n, ext0, ext1, ext30, ext31, ext32, bin_add, bin_sub, decide_true, decide_false, e1, e0, p1, pf0, pf1, q2, q3, str_neq, ek, d3, kg, g1, ks, kf, d4, d5, e3]
          exact next _ (by simp [T.get_set]) (by simp [T.get_set]) (by simp [T.get_set])
        | false =>
          simp only [s_law5_HeadersSorted_l1, getK_mk f0, getK_mk f3, getK_mk f4, hrs.1.pLen, getK_set, ↓reduceIte, Nat.reduceEqDiff, someK_n, effK_n, retK, gK_do, gK_do', gK_skip, gK_skip', gK_none, pick_mk, cond_true, cond_false, condK_tn, condK_fn, bin_eql, bin_neq, bin_lss, bin_leq, bin_gtr, bin_geq, un_not, Bool.not_true, Bool.not_false, bin_str, lenS_mk, nle_l, nle_r, nle_n, nlt_l, nlt_r, nlt_n, neq_r, neq_n, nne_r, nne_n, ext0, ext1, ext30, ext31, ext32, bin_add, bin_sub, decide_true, decide_false, e1, e0, p1, pf0, pf1, q2, q3, str_neq, ek, d3, kg, g1, ks, kf, d4, e3]
          exact next _ (by simp [T.get_set]) (by simp [T.get_set]) (by simp [T.get_set])
theorem few_len2 (nn mm : Nat) (hs : List Hd) : (fewH nn mm hs).length ≤ nn ∧ ∀ h ∈ fewH nn mm hs, h.1.length ≤ mm ∧ h.2.length ≤ mm := by
  refine ⟨by unfold fewH; rw [List.length_map, List.length_take]; omega, fun h hh => ?_⟩
  unfold fewH at hh
  obtain ⟨y, _, rfl⟩ := List.mem_map.1 hh
  unfold fewh
  simp only [List.length_take]
  omega
theorem getT_le2 (n : Bs) {l : List Hd} {M : Nat} (h : ∀ x ∈ l, x.2.length ≤ M) : (getT n l).length ≤ l.length * (M + 2) := by
  have h1 : (sel n l).length ≤ l.length := by
    unfold sel; rw [List.length_map]; exact List.length_filter_le _ _
  have h2 := joinB_length [44, 32] M (sel n l) (fun x hx => by
    simp only [sel, List.mem_map, List.mem_filter] at hx
    obtain ⟨y, ⟨hy, _⟩, rfl⟩ := hx
    exact h y hy)
  exact Nat.le_trans h2 (Nat.mul_le_mul h1 (Nat.le_refl _))
theorem s_law5_HeadersSorted_ret (c : CallK) {N : Nat} (hN : 9223372036854775807 < N) (hFew : IsP c f_keep_FewHeaders (RH FewHPre FewHG)) (hSo : IsP c f_headers_Sorted (RH SortPre SortG)) (hG : IsP c f_headers_Get (RH GetPre GetG)) (hSa : IsP c f_headers_Safe SafeR) (hFo : IsP c f_headers_Forbidden ForbR) (hSame : IsP c f_book_Same_Header SameR) (hKn : ∀ H τ q, c f_law5_known [] H τ q = q (.bool true) H τ)
    (hs : List Hd) (hl : hs.length ≤ 9223372036854775807) (lv : V) (H : Heap) (hw : WF H) (hr : RdH H lv hs) (τ : Tape) :
    ∃ H' τ', Gr H.size H H' ∧ ∀ q, s_law5_HeadersSorted c N lv H τ q = q (.bool true) H' τ' := by
  obtain ⟨v0, H1, τ1, o1, g1, k1⟩ := k_keep_FewHeaders hFew hl 20 200 (by omega) (by omega) hw hr τ
  obtain ⟨fl1, fl2⟩ := few_len2 20 200 hs
  generalize fewH 20 200 hs = l at o1 fl1 fl2
  have sm : Small l := ⟨by omega, fun h hh => by have := fl2 h hh; omega⟩
  have r0 : RdH H1 v0 l := ⟨o1.rd, o1.src⟩
  obtain ⟨v3, H2, τ2, o2, g2, k2⟩ := k_Sorted hSo sm (by omega) g1.wf r0 τ1
  have r02 := r0.gr g2 g1.wf (Nat.le_refl _)
  have r2 : RdH H2 v3 (sortT l) := ⟨o2.rd, o2.src⟩
  have hsn : ∀ x ∈ sortT l, x.1.length ≤ 10000 := fun x hx => lowN_small sm _ (sortT_mem hx).1
  have hsv : ∀ x ∈ sortT l, x.2.length ≤ 10000 := by
    intro x hx
    cases hb : (x.1 == scT) with
    | false =>
      rw [sortT_get hx hb]
      exact Nat.le_trans (getT_le2 x.1 (M := 200) fun y hy => (fl2 y hy).2) (Nat.le_trans (Nat.mul_le_mul fl1 (Nat.le_refl _)) (by omega))
    | true =>
      have h2 := (sortT_mem hx).2
      unfold oneT at h2
      rw [hb, cond_true] at h2
      obtain ⟨y, hy, e⟩ := List.mem_map.1 h2
      rw [← e]
      have := (fl2 y (List.mem_filter.1 hy).1).2
      show y.2.length ≤ 10000
      omega
  have hln : (sortT l).length ≤ 20 * 21 := by
    have h1 := flat_len l (srtT (lowN l))
    have h2 := lowN_len l
    have h4 : (srtT (lowN l)).length * (l.length + 1) ≤ 20 * 21 := Nat.mul_le_mul (by omega) (by omega)
    unfold sortT; omega
  have sm2 : Small (sortT l) := ⟨by omega, fun h hh => ⟨hsn h hh, hsv h hh⟩⟩
  obtain ⟨v6, H3, τ3, o3, g3, k3⟩ := k_Sorted hSo sm2 (by omega) g2.wf r2 τ2
  rw [sortT_sortT] at o3
  have r23 := r2.gr g3 g2.wf (Nat.le_refl _)
  have w1 := fun τ q => k_book_Same_Header hSame (hs := sortT l) (by omega) ⟨o3.rd, o3.src⟩ r23 τ q
  have hloop := fun fr k => l_law5_HeadersSorted c N hG hSa hFo l (sortT l) sm v0 v3 H2 r02 r2 (by omega) (fun x hx => by have := hsn x hx; omega) (fun a p x b e => by
      have ho := sortT_order l
      rw [e] at ho
      have h1 := (List.pairwise_cons.1 (List.pairwise_append.1 ho).2.1).1 x (by simp)
      constructor
      · cases h : lessB x.1 p.1 with
        | false => rfl
        | true =>
          rcases h1 with h1 | ⟨h1, _⟩
          · exact (ltB_no (ltB_trans _ _ _ h1 h)).elim
          · rw [h1, ltB_irrefl] at h; cases h
      · intro h
        have e := beq_iff_eq.1 h
        rcases h1 with h1 | ⟨_, h1⟩
        · rw [e] at h1; exact (ltB_no h1).elim
        · rw [e, h1]; simp) (fun x hx => ⟨decide_eq_true (sel_pos (sortT_mem hx).1), fun h => by
      have hb : (x.1 == scT) = false := by cases h' : (x.1 == scT) with
        | false => rfl
        | true => rw [bne, h'] at h; cases h
      rw [← sortT_get hx hb]; simp⟩) (sortT l) [] τ2 N rfl (by omega) fr k
  refine ⟨H3, τ3, (g1.trans g2 g1.size).trans g3 (by have := g1.size; have := g2.size; omega), fun q => ?_⟩
  simp only [s_law5_HeadersSorted, k1, k2]
  rw [hloop _ _ (by simp [T.get_set]) (by simp [T.get_set]) (by simp [T.get_set])]
  simp only [blockK, Nat.beq_refl, cond_true, seqK, s_law5_HeadersSorted_j0, getK_set, ↓reduceIte, Nat.reduceEqDiff, someK_n, effK_n, retK, gK_do, gK_do', gK_skip, gK_skip', gK_none, pick_mk, cond_true, cond_false, condK_tn, condK_fn, bin_eql, bin_neq, bin_lss, bin_leq, bin_gtr, bin_geq, un_not, Bool.not_true, Bool.not_false, bin_str, lenS_mk, nle_l, nle_r, nle_n, nlt_l, nlt_r, nlt_n, neq_r, neq_n, nne_r, nne_n, ext0, ext1, ext30, ext31, ext32, bin_add, bin_sub, decide_true, decide_false, k3, w1, hKn]
def HeadersSortedR (vs : List V) (H : Heap) (o : Out) : Prop := (∃ (lv : V) (hs : List Hd), vs = [lv] ∧ RdH H lv hs ∧ hs.length ≤ 9223372036854775807) ∧ o = .val (.bool true)
noncomputable abbrev rw_HeadersSorted : List Row := [Row.fn f_law5_HeadersSorted fn_law5_HeadersSorted e_law5_HeadersSorted, Row.prim f_keep_FewHeaders (outP (RH FewHPre FewHG)), Row.prim f_headers_Sorted (outP (RH SortPre SortG)), Row.prim f_headers_Get (outP (RH GetPre GetG)), Row.prim f_headers_Safe (outP SafeR), Row.prim f_headers_Forbidden (outP ForbR), Row.prim f_book_Same_Header (outP SameR), Row.prim f_law5_known closedP]
theorem headersSorted_ok : ∀ base w0, PrimOk PG base w0 f_law5_HeadersSorted (outP HeadersSortedR) := by
  obtain ⟨N, hN⟩ := someN
  refine primOk_out mixed_ok (l := rw_HeadersSorted) (.fn ok_law5_HeadersSorted e_law5_HeadersSorted_ok (.prim p_keep_FewHeaders (.prim p_headers_Sorted (.prim p_headers_Get (.prim p_headers_Safe (.prim p_headers_Forbidden (.prim p_book_Same_Header (.prim closed_law5_known_ok (.nil _))))))))) N 2 _ ?_
  rintro vs H o hw hvs ⟨⟨lv, hs, rfl, hr, h1⟩, rfl⟩ τ
  obtain ⟨H', τ', g, k⟩ := s_law5_HeadersSorted_ret (CR rw_HeadersSorted N 1) hN (fun _ _ _ _ => rfl) (fun _ _ _ _ => rfl) (fun _ _ _ _ => rfl) (fun _ _ _ _ => rfl) (fun _ _ _ _ => rfl) (fun _ _ _ _ => rfl) (closedP_call fun _ _ _ _ => rfl) hs h1 lv H hw hr τ
  exact ⟨_, H', τ', k retK, g, rfl, trivial⟩
theorem headersSorted_fun : Fun1 HeadersSortedR := fun vs H o o' k k' => k.2.trans k'.2.symm
theorem headersSorted_in {lv : V} {H : Heap} {hs : List Hd} (hr : RdH H lv hs) (hl : hs.length ≤ 9223372036854775807) (τ : Tape) : outP HeadersSortedR [lv] H τ = some (.bool true, H, τ) :=
  outP_mk headersSorted_fun ⟨⟨lv, hs, rfl, hr, hl⟩, rfl⟩ τ
end Go.Am.X


