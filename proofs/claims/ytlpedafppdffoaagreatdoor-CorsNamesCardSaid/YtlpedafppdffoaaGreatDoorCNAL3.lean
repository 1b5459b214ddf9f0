/- The abstract machine, printed functions of the program, and what they are shown to be. -/
import Derived.Test.YtlpedafppdffoaaGreatDoorCNAL2
import Derived.Test.YtlpedafppdffoaaGreatDoorCNAM5
set_option linter.unusedSimpArgs false
set_option linter.unusedVariables false
set_option linter.unusedSectionVars false
set_option maxRecDepth 100000
namespace Go.Am.X
def addK (k : Bs) (ks : List Bs) : List Bs := if k ∈ ks then ks else ks ++ [k]
def addAll (l : List Bs) : List Bs := l.foldl (fun a k => addK k a) []
theorem addAll_snoc (l : List Bs) (x : Bs) : addAll (l ++ [x]) = addK x (addAll l) := by unfold addAll; rw [List.foldl_append]; rfl
theorem addK_mem {k : Bs} {ks : List Bs} {x : Bs} : x ∈ addK k ks ↔ x ∈ ks ∨ x = k := by
 unfold addK
 split
 ·rename_i h
  constructor
  ·exact .inl
  ·rintro (h1 | rfl)
   ·exact h1
   ·exact h
 ·simp
theorem addK_nodup {k : Bs} {ks : List Bs} (h : ks.Nodup) : (addK k ks).Nodup := by
 unfold addK
 split
 ·exact h
 ·rename_i hk
  exact List.nodup_append.2 ⟨h, by simp, fun a ha b hb e => by simp at hb; subst hb; subst e; exact hk ha⟩
theorem addK_len (k : Bs) (ks : List Bs) : (addK k ks).length ≤ ks.length + 1 := by unfold addK; split <;> simp
theorem addAll_ok (l : List Bs) : (addAll l).Nodup ∧ (∀ x, x ∈ addAll l ↔ x ∈ l) ∧ (addAll l).length ≤ l.length := by
 have key : ∀ (l a : List Bs), a.Nodup → (l.foldl (fun a k => addK k a) a).Nodup ∧ (∀ x, x ∈ l.foldl (fun a k => addK k a) a ↔ x ∈ a ∨ x ∈ l) ∧ (l.foldl (fun a k => addK k a) a).length ≤ a.length + l.length := by
  intro l
  induction l with
  | nil => intro a h; exact ⟨h, fun x => by simp, by simp⟩
  | cons y l ih =>
   intro a h
   obtain ⟨h1, h2, h3⟩ := ih (addK y a) (addK_nodup h)
   refine ⟨h1, fun x => ?_, ?_⟩
   ·rw [List.foldl_cons, h2, addK_mem, List.mem_cons]
    constructor
    ·rintro ((h | h) | h)
     ·exact .inl h
     ·exact .inr (.inl h)
     ·exact .inr (.inr h)
    ·rintro (h | h | h)
     ·exact .inl (.inl h)
     ·exact .inl (.inr h)
     ·exact .inr h
   ·have := addK_len y a
    rw [List.foldl_cons, List.length_cons]
    omega
 obtain ⟨h1, h2, h3⟩ := key l [] List.nodup_nil
 exact ⟨h1, fun x => by rw [addAll, h2]; simp, by simpa [addAll] using h3⟩
def Mk (H : Heap) (m : Nat) (ks : List Bs) : Prop := ∃ ms c, H.blk.get m = some (.mapb ms (some c)) ∧ keysE ms = ks ∧ ∀ p ∈ ms, ∃ x : Int, p.2.1 = .int .i64 x
theorem Mk.gr {H H' : Heap} {m C : Nat} {ks : List Bs} (h : Mk H m ks) (hg : Gr C H H') (hm : m < C) : Mk H' m ks := by
 obtain ⟨ms, c, h1, h2⟩ := h
 exact ⟨ms, c, by rw [hg.blk m hm]; exact h1, h2⟩
theorem Mk.only {H H' : Heap} {m i : Nat} {ks : List Bs} (h : Mk H m ks) (hg : Only i H H') (hm : m ≠ i) : Mk H' m ks := by
 obtain ⟨ms, c, h1, h2⟩ := h
 exact ⟨ms, c, by rw [hg.blk m hm]; exact h1, h2⟩
theorem Mk.lt {H : Heap} {m : Nat} {ks : List Bs} (h : Mk H m ks) (hw : WF H) : m < H.size := by
 obtain ⟨ms, c, h1, _⟩ := h
 exact hw.blk _ _ h1
theorem mk_new {H : Heap} (hw : WF H) (τ : Tape) : ∃ H', eMkMap [] H τ = some (.map H.size, H', τ) ∧ Mk H' H.size [] ∧ Gr H.size H H' ∧ H'.size = H.size + 1 := by
 refine ⟨{ size := H.size + 1, blk := H.blk.set H.size (.mapb [] (some 0)), fams := H.fams }, rfl, ⟨[], 0, T.get_set_same _ _ _, rfl, fun p hp => by cases hp⟩, ⟨?_, Nat.le_succ _, fun id hid => T.get_set_ne _ _ (by omega), fun f _ => rfl⟩, rfl⟩
 refine ⟨fun id b hb => ?_, fun f x hx => Nat.lt_succ_of_lt (hw.fams _ _ hx), fun id cs room fam ver wr pl st hb => ?_⟩
 ·by_cases e : H.size = id
  ·subst e; exact Nat.lt_succ_self _
  ·simp only [T.get_set_ne _ _ e] at hb; exact Nat.lt_succ_of_lt (hw.blk _ _ hb)
 ·by_cases e : H.size = id
  ·subst e; simp only [T.get_set_same] at hb; cases hb
  ·simp only [T.get_set_ne _ _ e] at hb; exact Nat.lt_succ_of_lt (hw.fam _ _ _ _ _ _ _ _ hb)
theorem findS_key {k : Bs} : ∀ {ms : List (Bs × V × Nat)}, (findS k ms = none ↔ k ∉ keysE ms) ∧ ∀ v, findS k ms = some v → ∃ p ∈ ms, p.2 = v := by
 intro ms
 induction ms with
 | nil => exact ⟨by simp [findS, keysE], fun v h => by cases h⟩
 | cons p r ih =>
  obtain ⟨k', u⟩ := p
  cases hb : eqB k k' with
  | true =>
   have hk : k = k' := by rw [eqB_eq] at hb; simpa using hb
   subst hk
   refine ⟨by simp [findS, hb, keysE], fun v h => ?_⟩
   simp only [findS, hb, cond_true, Option.some.injEq] at h
   exact ⟨_, List.mem_cons_self, h⟩
  | false =>
   have hk : k ≠ k' := fun e => by subst e; rw [eqB_eq] at hb; simp at hb
   refine ⟨?_, fun v h => ?_⟩
   ·simp only [findS, hb, cond_false, ih.1, keysE, List.map_cons, List.mem_cons, not_or]
    exact ⟨fun h => ⟨hk, h⟩, fun h => h.2⟩
   ·simp only [findS, hb, cond_false] at h
    obtain ⟨p, hp, e⟩ := ih.2 v h
    exact ⟨p, List.mem_cons_of_mem _ hp, e⟩
theorem mlook_K {H : Heap} {m : Nat} {ks : List Bs} (h : Mk H m ks) (k : Bs) : ∃ x : Int, lLook (.int .i64 (.ofNat 0)) false [.map m, .str k] H = some (.int .i64 x) := by
 obtain ⟨ms, c, h1, h2, h3⟩ := h
 cases hf : findS k ms with
 | none => exact ⟨0, by simp only [lLook, h1, hf]; rfl⟩
 | some v =>
  obtain ⟨p, hp, e⟩ := findS_key.2 v hf
  obtain ⟨x, hx⟩ := h3 p hp
  refine ⟨x, ?_⟩
  simp only [lLook, h1, hf, lookV]
  rw [← e, hx]
theorem keysE_put (k : Bs) (v : V) (c : Nat) : ∀ (ms : List (Bs × V × Nat)), keysE (putS k v c ms) = addK k (keysE ms) := by
 intro ms
 induction ms with
 | nil => simp [putS, keysE, addK]
 | cons p r ih =>
  obtain ⟨k', u, b⟩ := p
  cases hb : eqB k k' with
  | true =>
   have hk : k = k' := by rw [eqB_eq] at hb; simpa using hb
   subst hk
   simp [putS, hb, keysE, addK]
  | false =>
   have hk : k ≠ k' := fun e => by subst e; rw [eqB_eq] at hb; simp at hb
   have e1 : keysE (putS k v c ((k', u, b) :: r)) = k' :: keysE (putS k v c r) := by simp only [putS, hb, cond_false]; rfl
   have e2 : keysE ((k', u, b) :: r) = k' :: keysE r := rfl
   rw [e1, ih, e2]
   unfold addK
   by_cases hm : k ∈ keysE r
   ·rw [if_pos hm, if_pos (List.mem_cons_of_mem _ hm)]
   ·rw [if_neg hm, if_neg (by simp only [List.mem_cons, not_or]; exact ⟨hk, hm⟩)]
    rfl
theorem putS_mem' {k : Bs} {v : V} {c : Nat} : ∀ {es : List (Bs × V × Nat)} {p : Bs × V × Nat}, p ∈ putS k v c es → p.2.1 = v ∨ p ∈ es := by
 intro es
 induction es with
 | nil => intro p h; simp [putS] at h; exact .inl (by rw [h])
 | cons q es ih =>
  intro p h
  obtain ⟨k', u, b'⟩ := q
  cases hb : eqB k k' with
  | true =>
   simp only [putS, hb, cond_true, List.mem_cons] at h
   rcases h with rfl | h
   ·exact .inl rfl
   ·exact .inr (by simp [h])
  | false =>
   simp only [putS, hb, cond_false, List.mem_cons] at h
   rcases h with rfl | h
   ·exact .inr (by simp)
   ·rcases ih h with h | h
    ·exact .inl h
    ·exact .inr (by simp [h])
theorem only_map {H : Heap} {m : Nat} {es es' : List (Bs × V × Nat)} {c c' : Option Nat} (h : H.blk.get m = some (.mapb es c)) (hw : WF H) : Only m H { size := H.size, blk := H.blk.set m (.mapb es' c'), fams := H.fams } := by
 refine ⟨⟨?_, hw.fams, ?_⟩, rfl, fun id hid => T.get_set_ne _ _ (Ne.symm hid), fun _ _ => rfl⟩
 ·intro id b hb
  by_cases e : m = id
  ·subst e; exact hw.blk _ _ h
  ·simp only [T.get_set_ne _ _ e] at hb; exact hw.blk _ _ hb
 ·intro id cs room fam ver wr pl st hb
  by_cases e : m = id
  ·subst e; simp only [T.get_set_same] at hb; cases hb
  ·simp only [T.get_set_ne _ _ e] at hb; exact hw.fam _ _ _ _ _ _ _ _ hb
theorem mput_K {H : Heap} {m : Nat} {ks : List Bs} (h : Mk H m ks) (hw : WF H) (k : Bs) (x : Int) (τ : Tape) : ∃ H', eMput [.map m, .str k, .int .i64 x] H τ = some (.tup [], H', τ) ∧ Mk H' m (addK k ks) ∧ Only m H H' := by
 obtain ⟨ms, c, h1, h2, h3⟩ := h
 refine ⟨_, by simp only [eMput, h1, forceN_eq]; rfl, ⟨_, _, T.get_set_same _ _ _, by rw [keysE_put, h2], fun p hp => ?_⟩, only_map h1 hw⟩
 rcases putS_mem' hp with e | hp
 ·exact ⟨x, e⟩
 ·exact h3 p hp
theorem sorted_set {ks L : List Bs} (hn : ks.Nodup) (hm : ∀ x, x ∈ ks ↔ x ∈ L) : sorted ks = srtT L := by
 obtain ⟨h1, h2, _⟩ := srtT_ok L
 obtain ⟨h3, h4, _⟩ := srtT_ok ks
 have e1 : srtT ks = srtT L := srt_uniq _ _ h3 h1 fun x => by rw [h4, h2, hm]
 have hp : (sorted ks).Perm ks := by rw [sorted_eq]; exact List.mergeSort_perm ks _
 obtain ⟨s1, s2, _⟩ := sorted_ok ks
 have hnd : (sorted ks).Nodup := hp.nodup_iff.2 hn
 refine srt_uniq _ _ ?_ h1 fun x => by rw [h2, ← hm]; exact hp.mem_iff
 exact (s1.and hnd).imp fun {a b} h => by
  rcases ltB_tri a b with k | k | k
  ·exact k
  ·exact absurd k h.2
  ·exact absurd k h.1
theorem names_K {H : Heap} {m : Nat} {es : List (Bs × V × Nat)} {clk : Option Nat} (hw : WF H) (h : H.blk.get m = some (.mapb es clk)) {L : List Bs} (hn : (keysE es).Nodup) (hm : ∀ x, x ∈ keysE es ↔ x ∈ L) (hl : (keysE es).length ≤ 1000000) (hk : ∀ x ∈ L, x.length ≤ 1000000) (τ : Tape) :
  ∃ v H' τ', namesP [.map m] H τ = some (v, H', τ') ∧ LsS H' H.size v (srtT L) ∧ Gr H.size H H' := by
 have hok : okKeys es = true := by
  simp only [okKeys, Bool.and_eq_true, List.all_eq_true]
  refine ⟨Nat.ble_eq_true_of_le (by have : es.length = (keysE es).length := (by simp [keysE]); omega), fun p hp => Nat.ble_eq_true_of_le ?_⟩
  have := hk p.1 ((hm _).1 (List.mem_map.2 ⟨p, hp, rfl⟩))
  omega
 have hs := sorted_set hn hm
 cases es with
 | nil =>
  have e0 : srtT L = [] := by rw [← hs]; rfl
  refine ⟨.nils, H, τ, by simp only [namesP, h, hok, cond_true], by rw [e0]; exact LsS.nil _ _, Gr.refl hw⟩
 | cons p r =>
  have hlen : (srtT L).length = r.length + 1 := by
   rw [← hs, sorted_eq, List.length_mergeSort]; simp [keysE]
  refine ⟨_, _, τ.tail, by simp only [namesP, h, hok, cond_true]; rfl, ⟨?_, fun e => by rw [e] at hlen; simp at hlen⟩, Gr.new hw _ _ _⟩
  rw [hs, hlen]
  refine .inr ⟨H.size, _, _, H.size, 0, false, 0, 0, rfl, T.get_set_same _ _ _, T.get_set_same _ _ _, Nat.le_refl _, Nat.le_refl _, Nat.le_refl _, by rw [List.length_map, hlen]; omega⟩
theorem copy_K {H : Heap} (hw : WF H) {d s : Nat} {kd ks : List Bs} (hd : Mk H d kd) (hs : Mk H s ks) (hne : d ≠ s) (h1 : kd.length ≤ 1000000) (h2 : ks.length ≤ 1000000) (h3 : ∀ x ∈ kd, x.length ≤ 1000000) (h4 : ∀ x ∈ ks, x.length ≤ 1000000) (hnd : kd.Nodup) (τ : Tape) :
  ∃ H' es, copyP [.map d, .map s] H τ = some (.tup [], H', τ) ∧ H'.blk.get d = some (.mapb es none) ∧ (keysE es).Nodup ∧ (∀ x, x ∈ keysE es ↔ x ∈ kd ∨ x ∈ ks) ∧ (keysE es).length ≤ kd.length + ks.length ∧ Only d H H' := by
 obtain ⟨md, cd, d1, d2, _⟩ := hd
 obtain ⟨ms, cs, s1, s2, _⟩ := hs
 have ok : ∀ {es : List (Bs × V × Nat)} {k : List Bs}, keysE es = k → k.length ≤ 1000000 → (∀ x ∈ k, x.length ≤ 1000000) → okKeys es = true := by
  intro es k e hl hk
  simp only [okKeys, Bool.and_eq_true, List.all_eq_true]
  refine ⟨Nat.ble_eq_true_of_le (by have : es.length = (keysE es).length := (by simp [keysE]); rw [e] at this; omega), fun p hp => Nat.ble_eq_true_of_le ?_⟩
  have := hk p.1 (by rw [← e]; exact List.mem_map.2 ⟨p, hp, rfl⟩)
  omega
 have hbd : Nat.beq d s = false := by
  cases h : Nat.beq d s with
  | false => rfl
  | true => exact absurd (Nat.eq_of_beq_eq_true h) hne
 have hlen : ∀ (ks es : List (Bs × V × Nat)), (keysE (putK es ks)).length ≤ (keysE es).length + ks.length := by
  intro ks
  induction ks with
  | nil => intro es; simp [putK]
  | cons p r ih =>
   intro es
   have := ih (putS p.1 .nilm 0 es)
   have h2 : (keysE (putS p.1 .nilm 0 es)).length ≤ (keysE es).length + 1 := by rw [keysE_put]; exact addK_len _ _
   show (keysE (putK (putS p.1 .nilm 0 es) r)).length ≤ _
   rw [List.length_cons]
   omega
 refine ⟨_, _, by simp only [copyP, hbd, cond_false, d1, s1, ok d2 h1 h3, ok s2 h2 h4, Bool.and_self, cond_true]; rfl, T.get_set_same _ _ _, ?_, fun x => ?_, ?_, only_map d1 hw⟩
 ·rw [keysE_flat]; exact nodup_putK (by rw [d2]; exact hnd)
 ·rw [keysE_flat, mem_putK, d2, s2]
 ·rw [keysE_flat, ← d2, ← s2]
  have := hlen ms md
  have e : ms.length = (keysE ms).length := by simp [keysE]
  omega
end Go.Am.X

namespace Go.Am.X
def toldB (s : Bs) : Int × Bool := if s = [] then (-1, true) else intB s
def bytesEq : Bs := [98, 121, 116, 101, 115, 61]
end Go.Am.X

namespace Go.Am.X
theorem s_stringslite_HasPrefix_ret (c : CallK) (N : Nat) (s p : Bs) (H : Heap) (τ : Tape) (q : KV) : s_stringslite_HasPrefix c N (.str s) (.str p) H τ q = q (.bool (begB s p)) H τ := by
 unfold begB
 rw [isPrefixOf_take]
 by_cases h : p.length ≤ s.length
 ·have e1 : decide (p.length ≤ s.length) = true := decide_eq_true h
  have s1 : pStrSlice false true [.str s, .int .i64 (p.length : Int)] = some (.str (s.take p.length)) := strSlice_hi h
  simp only [s_stringslite_HasPrefix, getK_set, ↓reduceIte, Nat.reduceEqDiff, someK_n, effK_n, retK, gK_do, gK_do', gK_skip, gK_skip', gK_none, pick_mk, cond_true, cond_false, condK_tn, condK_fn, bin_eql, bin_neq, bin_lss, bin_leq, bin_gtr, bin_geq, un_not, Bool.not_true, Bool.not_false, bin_str, lenS_mk, nle_l, nle_r, nle_n, nlt_l, nlt_r, nlt_n, neq_r, neq_n, nne_r, nne_n, ext0, ext1, ext30, ext31, ext32, bin_add, bin_sub, decide_true, decide_false, e1, s1, str_eql, Bool.true_and]
 ·have e1 : decide (p.length ≤ s.length) = false := decide_eq_false h
  simp only [s_stringslite_HasPrefix, getK_set, ↓reduceIte, Nat.reduceEqDiff, someK_n, effK_n, retK, gK_do, gK_do', gK_skip, gK_skip', gK_none, pick_mk, cond_true, cond_false, condK_tn, condK_fn, bin_eql, bin_neq, bin_lss, bin_leq, bin_gtr, bin_geq, un_not, Bool.not_true, Bool.not_false, bin_str, lenS_mk, nle_l, nle_r, nle_n, nlt_l, nlt_r, nlt_n, neq_r, neq_n, nne_r, nne_n, ext0, ext1, ext30, ext31, ext32, bin_add, bin_sub, decide_true, decide_false, e1, Bool.false_and]
abbrev BegOk (c : CallK) (f : Nat) : Prop := ∀ (s p : Bs) (H : Heap) (τ : Tape) (q : KV), c f [.str s, .str p] H τ q = q (.bool (begB s p)) H τ
def cutpV (s p : Bs) : V := bif begB s p then .tup [.str (s.drop p.length), .bool true] else .tup [.str s, .bool false]
theorem begB_len {s p : Bs} (h : begB s p = true) : p.length ≤ s.length := by
 unfold begB at h; rw [isPrefixOf_take, Bool.and_eq_true] at h; exact of_decide_eq_true h.1
theorem s_stringslite_CutPrefix_ret (c : CallK) (N : Nat) (h : BegOk c f_stringslite_HasPrefix) (s p : Bs) (H : Heap) (τ : Tape) (q : KV) : s_stringslite_CutPrefix c N (.str s) (.str p) H τ q = q (cutpV s p) H τ := by
 unfold cutpV
 cases hb : begB s p with
 | true =>
  have e2 : pStrSlice true false [.str s, .int .i64 (p.length : Int)] = some (.str (s.drop p.length)) := strSlice_lo (begB_len hb)
  simp only [s_stringslite_CutPrefix, h s p, hb, getK_set, ↓reduceIte, Nat.reduceEqDiff, someK_n, effK_n, retK, gK_do, gK_do', gK_skip, gK_skip', gK_none, pick_mk, cond_true, cond_false, condK_tn, condK_fn, bin_eql, bin_neq, bin_lss, bin_leq, bin_gtr, bin_geq, un_not, Bool.not_true, Bool.not_false, bin_str, lenS_mk, nle_l, nle_r, nle_n, nlt_l, nlt_r, nlt_n, neq_r, neq_n, nne_r, nne_n, ext0, ext1, ext30, ext31, ext32, bin_add, bin_sub, decide_true, decide_false, e2]
 | false => simp only [s_stringslite_CutPrefix, h s p, hb, getK_set, ↓reduceIte, Nat.reduceEqDiff, someK_n, effK_n, retK, gK_do, gK_do', gK_skip, gK_skip', gK_none, pick_mk, cond_true, cond_false, condK_tn, condK_fn, bin_eql, bin_neq, bin_lss, bin_leq, bin_gtr, bin_geq, un_not, Bool.not_true, Bool.not_false, bin_str, lenS_mk, nle_l, nle_r, nle_n, nlt_l, nlt_r, nlt_n, neq_r, neq_n, nne_r, nne_n, ext0, ext1, ext30, ext31, ext32, bin_add, bin_sub, decide_true, decide_false]
abbrev CutpOk (c : CallK) (f : Nat) : Prop := ∀ (s p : Bs) (H : Heap) (τ : Tape) (q : KV), c f [.str s, .str p] H τ q = q (cutpV s p) H τ
theorem s_strings_CutPrefix_ret (c : CallK) (N : Nat) (h : CutpOk c f_stringslite_CutPrefix) (s p : Bs) (H : Heap) (τ : Tape) (q : KV) : s_strings_CutPrefix c N (.str s) (.str p) H τ q = q (cutpV s p) H τ := by
 simp only [s_strings_CutPrefix, h s p]
 unfold cutpV
 cases begB s p <;> simp only [getK_set, ↓reduceIte, Nat.reduceEqDiff, someK_n, effK_n, retK, gK_do, gK_do', gK_skip, gK_skip', gK_none, pick_mk, cond_true, cond_false, condK_tn, condK_fn, bin_eql, bin_neq, bin_lss, bin_leq, bin_gtr, bin_geq, un_not, Bool.not_true, Bool.not_false, bin_str, lenS_mk, nle_l, nle_r, nle_n, nlt_l, nlt_r, nlt_n, neq_r, neq_n, nne_r, nne_n, ext0, ext1, ext30, ext31, ext32, bin_add, bin_sub, decide_true, decide_false]
abbrev CutPre : List V → Prop | [.str s, .str [_]] => s.length < 9223372036854775807 | _ => False
abbrev CutG : List V → V | [.str s, .str [x]] => partV x s | _ => .tup []
abbrev CutR := RV CutPre CutG
theorem p_strings_Cut : ∀ base w0, PrimOk PG base w0 f_strings_Cut (outP CutR) := by
 refine primOk_E 4 _ ?_
 rintro vs H o hw hvs ⟨hp, rfl⟩ τ
 unfold CutPre at hp; split at hp
 ·rename_i s x
  exact ⟨_, H, τ, d_strings_Cut nb 4 (by omega) x s hp H τ retK, Gr.refl hw, rfl, partV_vok x s H⟩
 ·exact hp.elim
abbrev RCutOk (c : CallK) : Prop := ∀ (s : Bs) (x : UInt8), s.length < 9223372036854775807 → ∀ H τ q, c f_strings_Cut [.str s, .str [x]] H τ q = q (partV x s) H τ
theorem k_strings_Cut {c : CallK} (h : IsP c f_strings_Cut CutR) : RCutOk c := fun s x hs H τ q => RV_call h (vs := [.str s, .str [x]]) hs H τ q
theorem p_infra_Int : ∀ base w0, PrimOk PG base w0 f_infra_Int (outP IntR) := primS 1 _ _ _ (fun _ _ => ⟨trivial, trivial, trivial⟩) fun s hs H hw τ => ⟨H, τ, Gr.refl hw, fun q => d_infra_Int nb 1 (by omega) s (by omega) H τ q⟩
abbrev NIntOk (c : CallK) : Prop := ∀ (s : Bs), s.length ≤ 9223372036854775806 → ∀ H τ q, c f_infra_Int [.str s] H τ q = q (intV s) H τ
theorem k_infra_Int {c : CallK} (h : IsP c f_infra_Int IntR) : NIntOk c := fun s hs H τ q => callS h s hs H τ q
theorem p_infra_Strip : ∀ base w0, PrimOk PG base w0 f_infra_Strip (outP RStripR) := primS 4 _ _ _ (fun _ _ => trivial) fun s hs H hw τ => by
 obtain ⟨H', τ', g, k⟩ := d42' nb 4 (by omega) s (by omega) H hw τ
 exact ⟨H', τ', g, k⟩
abbrev NStripOk (c : CallK) : Prop := ∀ (s : Bs), s.length ≤ 9223372036854775806 → ∀ H τ q, c f_infra_Strip [.str s] H τ q = q (.str (strip s)) H τ
theorem k_infra_Strip {c : CallK} (h : IsP c f_infra_Strip RStripR) : NStripOk c := fun s hs H τ q => callS h s hs H τ q
def rngAB (a b : Int × Bool) : Int × Int × Bool :=
 bif (a.2 && b.2) && (!(decide (a.1 < 0) && decide (b.1 < 0)) && !(decide (0 ≤ a.1) && (decide (0 ≤ b.1) && decide (b.1 < a.1)))) then (a.1, b.1, true) else (0, 0, false)
def rng (s : Bs) : Int × Int × Bool := bif begB s bytesEq then (match cutB 45 (s.drop 6) with | some (a, b) => rngAB (toldB a) (toldB b) | none => (0, 0, false)) else (0, 0, false)
abbrev rngV (s : Bs) : V := .tup [.int .i64 (rng s).1, .int .i64 (rng s).2.1, .bool (rng s).2.2]
abbrev ToldOk (c : CallK) : Prop := ∀ (s : Bs), s.length ≤ 9223372036854775806 → ∀ H τ q, c f_headers_told [.str s] H τ q = q (.tup [.int .i64 (toldB s).1, .bool (toldB s).2]) H τ
theorem s_headers_told_gen (c : CallK) (N : Nat) (h : NIntOk c) (s : Bs) (hs : s.length ≤ 9223372036854775806) (H : Heap) (τ : Tape) (q : KV) : s_headers_told c N (.str s) H τ q = q (.tup [.int .i64 (toldB s).1, .bool (toldB s).2]) H τ := by
 unfold toldB
 by_cases e : s = []
 ·subst e
  have e : (([] : Bs) == []) = true := rfl
  simp only [s_headers_told, getK_set, ↓reduceIte, Nat.reduceEqDiff, someK_n, effK_n, retK, gK_do, gK_do', gK_skip, gK_skip', gK_none, pick_mk, cond_true, cond_false, condK_tn, condK_fn, bin_eql, bin_neq, bin_lss, bin_leq, bin_gtr, bin_geq, un_not, Bool.not_true, Bool.not_false, bin_str, lenS_mk, nle_l, nle_r, nle_n, nlt_l, nlt_r, nlt_n, neq_r, neq_n, nne_r, nne_n, ext0, ext1, ext30, ext31, ext32, bin_add, bin_sub, decide_true, decide_false, str_eql, e, if_true]
  rfl
 ·have e' : (s == ([] : Bs)) = false := beq_eq_false_iff_ne.2 e
  simp only [s_headers_told, getK_set, ↓reduceIte, Nat.reduceEqDiff, someK_n, effK_n, retK, gK_do, gK_do', gK_skip, gK_skip', gK_none, pick_mk, cond_true, cond_false, condK_tn, condK_fn, bin_eql, bin_neq, bin_lss, bin_leq, bin_gtr, bin_geq, un_not, Bool.not_true, Bool.not_false, bin_str, lenS_mk, nle_l, nle_r, nle_n, nlt_l, nlt_r, nlt_n, neq_r, neq_n, nne_r, nne_n, ext0, ext1, ext30, ext31, ext32, bin_add, bin_sub, decide_true, decide_false, str_eql, e', if_neg e, h s hs]
theorem cutB_len (x : UInt8) : ∀ (s a b : Bs), cutB x s = some (a, b) → a.length + b.length + 1 = s.length := by
 intro s a b h
 have := ((cutB_spec x s).2 a b h).1
 rw [this]; simp; omega
set_option maxHeartbeats 2000000 in
theorem s_headers_Range_gen (c : CallK) (N : Nat) (hP : CutpOk c f_strings_CutPrefix) (hC : RCutOk c) (hT : ToldOk c) (s : Bs) (hs : s.length ≤ 9223372036854775806) (H : Heap) (τ : Tape) (q : KV) : s_headers_Range c N (.str s) H τ q = q (rngV s) H τ := by
 have k1 := fun H τ q => hP s bytesEq H τ q
 have eb : bs [98, 121, 116, 101, 115, 61] = bytesEq := rfl
 have e45 : bs [45] = [45] := rfl
 have fin : ∀ (a b : Int × Bool) (q : KV), s_headers_Range c N (.str s) H τ q = s_headers_Range c N (.str s) H τ q := fun _ _ _ => rfl
 unfold rngV rng
 unfold cutpV at k1
 cases hb : begB s bytesEq with
 | false =>
  rw [hb] at k1
  have k2 := hC s 45 (by omega)
  unfold partV at k2
  cases hc : cutB 45 s with
  | none =>
   rw [hc] at k2
   simp only [s_headers_Range, eb, e45, k1, cond_false, getK_set, ↓reduceIte, Nat.reduceEqDiff, someK_n, effK_n, retK, gK_do, gK_do', gK_skip, gK_skip', gK_none, pick_mk, cond_true, cond_false, condK_tn, condK_fn, bin_eql, bin_neq, bin_lss, bin_leq, bin_gtr, bin_geq, un_not, Bool.not_true, Bool.not_false, bin_str, lenS_mk, nle_l, nle_r, nle_n, nlt_l, nlt_r, nlt_n, neq_r, neq_n, nne_r, nne_n, ext0, ext1, ext30, ext31, ext32, bin_add, bin_sub, decide_true, decide_false, k2, hT s hs, hT [] (by simp)]
   rfl
  | some ab =>
   obtain ⟨a, b⟩ := ab
   have hl := cutB_len 45 s a b hc
   rw [hc] at k2
   simp only [s_headers_Range, eb, e45, k1, cond_false, getK_set, ↓reduceIte, Nat.reduceEqDiff, someK_n, effK_n, retK, gK_do, gK_do', gK_skip, gK_skip', gK_none, pick_mk, cond_true, cond_false, condK_tn, condK_fn, bin_eql, bin_neq, bin_lss, bin_leq, bin_gtr, bin_geq, un_not, Bool.not_true, Bool.not_false, bin_str, lenS_mk, nle_l, nle_r, nle_n, nlt_l, nlt_r, nlt_n, neq_r, neq_n, nne_r, nne_n, ext0, ext1, ext30, ext31, ext32, bin_add, bin_sub, decide_true, decide_false, k2, hT a (by omega), hT b (by omega)]
   rfl
 | true =>
  rw [hb] at k1
  have hd : (s.drop 6).length ≤ s.length := by rw [List.length_drop]; omega
  have k2 := hC (s.drop 6) 45 (by omega)
  have e6 : s.drop bytesEq.length = s.drop 6 := rfl
  unfold partV at k2
  cases hc : cutB 45 (s.drop 6) with
  | none =>
   rw [hc] at k2
   simp only [s_headers_Range, eb, e45, k1, cond_true, getK_set, ↓reduceIte, Nat.reduceEqDiff, someK_n, effK_n, retK, gK_do, gK_do', gK_skip, gK_skip', gK_none, pick_mk, cond_true, cond_false, condK_tn, condK_fn, bin_eql, bin_neq, bin_lss, bin_leq, bin_gtr, bin_geq, un_not, Bool.not_true, Bool.not_false, bin_str, lenS_mk, nle_l, nle_r, nle_n, nlt_l, nlt_r, nlt_n, neq_r, neq_n, nne_r, nne_n, ext0, ext1, ext30, ext31, ext32, bin_add, bin_sub, decide_true, decide_false, e6, k2, hT (s.drop 6) (by omega), hT [] (by simp)]
   rfl
  | some ab =>
   obtain ⟨a, b⟩ := ab
   have hl := cutB_len 45 _ a b hc
   rw [hc] at k2
   have kA := hT a (by omega)
   have kB := hT b (by omega)
   simp only [cond_true]
   generalize toldB a = ta at kA ⊢
   generalize toldB b = tb at kB ⊢
   obtain ⟨fa, ba⟩ := ta
   obtain ⟨fb, bb⟩ := tb
   simp only at kA kB
   unfold rngAB
   have z1 : decide (fa < Int.ofNat 0) = decide (fa < 0) := rfl
   have z2 : decide (fb < Int.ofNat 0) = decide (fb < 0) := rfl
   have z3 : decide (Int.ofNat 0 ≤ fa) = decide (0 ≤ fa) := rfl
   have z4 : decide (Int.ofNat 0 ≤ fb) = decide (0 ≤ fb) := rfl
   have z5 : ∀ (q : V → Ans), binK .gtr (.int .i64 fa) (.int .i64 fb) q = q (.bool (decide (fb < fa))) := fun q => bin_gtr _ _ _ _
   have d3 : decide (0 ≤ fa) = !decide (fa < 0) := by by_cases h : fa < 0 <;> simp [h] <;> omega
   have d4 : decide (0 ≤ fb) = !decide (fb < 0) := by by_cases h : fb < 0 <;> simp [h] <;> omega
   rw [d3] at z3
   rw [d4] at z4
   rw [d3, d4]
   simp only [s_headers_Range, eb, e45, k1, cond_true, getK_set, ↓reduceIte, Nat.reduceEqDiff, someK_n, effK_n, retK, gK_do, gK_do', gK_skip, gK_skip', gK_none, pick_mk, cond_true, cond_false, condK_tn, condK_fn, bin_eql, bin_neq, bin_lss, bin_leq, bin_gtr, bin_geq, un_not, Bool.not_true, Bool.not_false, bin_str, lenS_mk, nle_l, nle_r, nle_n, nlt_l, nlt_r, nlt_n, neq_r, neq_n, nne_r, nne_n, ext0, ext1, ext30, ext31, ext32, bin_add, bin_sub, decide_true, decide_false, e6, k2, kA, kB]
   cases ba <;> cases bb <;> simp only [getK_set, ↓reduceIte, Nat.reduceEqDiff, someK_n, effK_n, retK, gK_do, gK_do', gK_skip, gK_skip', gK_none, pick_mk, cond_true, cond_false, condK_tn, condK_fn, bin_eql, bin_neq, bin_lss, bin_leq, bin_gtr, bin_geq, un_not, Bool.not_true, Bool.not_false, bin_str, lenS_mk, nle_l, nle_r, nle_n, nlt_l, nlt_r, nlt_n, neq_r, neq_n, nne_r, nne_n, ext0, ext1, ext30, ext31, ext32, bin_add, bin_sub, decide_true, decide_false] <;> cases d1 : decide (fa < 0) <;> cases d2 : decide (fb < 0) <;> cases d5 : decide (fb < fa) <;>
    (simp only [getK_set, ↓reduceIte, Nat.reduceEqDiff, someK_n, effK_n, retK, gK_do, gK_do', gK_skip, gK_skip', gK_none, pick_mk, cond_true, cond_false, condK_tn, condK_fn, bin_eql, bin_neq, bin_lss, bin_leq, bin_gtr, bin_geq, un_not, Bool.not_true, Bool.not_false, bin_str, lenS_mk, nle_l, nle_r, nle_n, nlt_l, nlt_r, nlt_n, neq_r, neq_n, nne_r, nne_n, ext0, ext1, ext30, ext31, ext32, bin_add, bin_sub, decide_true, decide_false, z1, z2, z3, z4, z5, d1, d2, d5]; rfl)
abbrev RngR := RS 9223372036854775806 rngV
theorem rngV_vok (s : Bs) (H : Heap) : VOk H (rngV s) := ⟨trivial, trivial, trivial, trivial⟩
noncomputable abbrev rw_HRange : List Row := [Row.fn f_headers_Range fn_headers_Range e_headers_Range, Row.fn f_strings_CutPrefix fn_strings_CutPrefix e_strings_CutPrefix, Row.fn f_stringslite_CutPrefix fn_stringslite_CutPrefix e_stringslite_CutPrefix, Row.fn f_stringslite_HasPrefix fn_stringslite_HasPrefix e_stringslite_HasPrefix, Row.fn f_headers_told fn_headers_told e_headers_told, Row.prim f_strings_Cut (outP CutR), Row.prim f_infra_Int (outP IntR)]
theorem p_headers_Range : ∀ base w0, PrimOk PG base w0 f_headers_Range (outP RngR) := by
 obtain ⟨N, hN⟩ := someN
 refine primRV (N := N) (l := rw_HRange) (.fn ok_headers_Range e_headers_Range_ok (.fn ok_strings_CutPrefix e_strings_CutPrefix_ok (.fn ok_stringslite_CutPrefix e_stringslite_CutPrefix_ok (.fn ok_stringslite_HasPrefix e_stringslite_HasPrefix_ok (.fn ok_headers_told e_headers_told_ok (.prim p_strings_Cut (.prim p_infra_Int (.nil _)))))))) 4 _ (fun vs H h => ?_) (fun vs h H hw τ => ?_)
 ·unfold strP at h; split at h
  ·exact rngV_vok _ _
  ·exact h.elim
 ·unfold strP at h; split at h
  ·exact ⟨H, τ, Gr.refl hw, fun q => s_headers_Range_gen (CR rw_HRange N 3) N (fun s p H τ q => s_strings_CutPrefix_ret (CR rw_HRange N 2) N (fun s p H τ q => s_stringslite_CutPrefix_ret (CR rw_HRange N 1) N (fun s p H τ q => s_stringslite_HasPrefix_ret (CR rw_HRange N 0) N s p H τ q) s p H τ q) s p H τ q) (k_strings_Cut fun _ _ _ _ => rfl) (fun s hs H τ q => s_headers_told_gen (CR rw_HRange N 2) N (k_infra_Int fun _ _ _ _ => rfl) s hs H τ q) _ h H τ q⟩
  ·exact h.elim
abbrev RngOk (c : CallK) (f : Nat) : Prop := ∀ (s : Bs), s.length ≤ 9223372036854775806 → ∀ H τ q, c f [.str s] H τ q = q (rngV s) H τ
theorem k_Range {c : CallK} {f : Nat} (h : IsP c f RngR) : RngOk c f := fun s hs H τ q => callS h s hs H τ q
abbrev NLowOk (c : CallK) : Prop := ∀ (s : Bs), s.length ≤ 140737488355328 → ∀ H τ q, c f_infra_Lower [.str s] H τ q = q (.str (lower s)) H τ
theorem k_infra_Lower {c : CallK} (h : IsP c f_infra_Lower LowR) : NLowOk c := fun s hs H τ q => callS h s hs H τ q
end Go.Am.X

namespace Go.Am.X
theorem idx_has (x : UInt8) (l : Bs) : decide (Int.ofNat 0 ≤ idxB x.toNat l 0) = l.contains x := by
 by_cases h : l.contains x = true
 ·rw [h]; exact decide_eq_true (idxB_some _ _ _ ⟨x, List.contains_iff_mem.1 h, rfl⟩)
 ·have h' : l.contains x = false := by cases e : l.contains x; rfl; exact absurd e h
  rw [h', idxB_none _ _ _ (fun y hy e => h (List.contains_iff_mem.2 (by rw [← UInt8.toNat_inj.1 e]; exact hy)))]; rfl
theorem idx_hasnt (x : UInt8) (l : Bs) : decide (idxB x.toNat l 0 < Int.ofNat 0) = !l.contains x := by
 rw [← idx_has]
 by_cases h : Int.ofNat 0 ≤ idxB x.toNat l 0
 ·rw [decide_eq_true h]; exact decide_eq_false (by omega)
 ·rw [decide_eq_false h]; exact decide_eq_true (by omega)
theorem k_idx {c : CallK} (h : ∀ vs H τ q, c f_stringslite_IndexByte vs H τ q = effK (idxP vs H τ) q) (s : Bs) (x : UInt8) (H : Heap) (τ : Tape) (q : KV) : c f_stringslite_IndexByte [.str s, .int .u8 (x.toNat : Int)] H τ q = q (.int .i64 (idxB x.toNat s 0)) H τ := by
 have e4 : x.toNat % 256 = x.toNat := Nat.mod_eq_of_lt (u8_lt x)
 rw [h]
 show effK (idxP [.str s, .int .u8 (.ofNat x.toNat)] H τ) q = _
 simp only [idxP, e4, effK_n]
def unsT : Bs := [34, 40, 41, 58, 60, 62, 63, 64, 91, 92, 93, 123, 125]
def unsB (x : UInt8) : Bool := ((decide (x.toNat < 32) && !decide (x.toNat = 9)) || decide (x.toNat = 127)) || unsT.contains x
def unsafeB (s : Bs) : Bool := s.any unsB
def lngT : Bs := [32, 42, 44, 45, 46, 59, 61]
def lngB (x : UInt8) : Bool := (letB x.toNat || digB x.toNat) || lngT.contains x
def tongB (s : Bs) : Bool := s.all lngB
theorem l_headers_unsafe (c : CallK) (N : Nat) (hI : Idx70 c) (s : Bs) (hs : s.length < 9223372036854775807) (H : Heap) : ∀ (l pre : Bs) (τ : Tape) (m : Nat), s = pre ++ l → l.length < m → ∀ (fr : T V) k, fr.get 0 = some (.str s) → fr.get 6 = some (.int .i64 (s.length : Int)) → fr.get 7 = some (.int .i64 (pre.length : Int)) →
  loopK (s_headers_unsafe_l1 c N) m ⟨fr, H⟩ τ k = bif l.any unsB then k .ret ⟨(T.set .leaf 2 (.bool true)), H⟩ τ else k (.exit 0) ⟨.leaf, H⟩ τ := by
 intro l
 induction l with
 | nil =>
  intro pre τ m he hm fr k f0 f6 f7
  obtain ⟨m, rfl⟩ : ∃ j, m = j + 1 := ⟨m - 1, by omega⟩
  have e1 : decide (pre.length < s.length) = false := decide_eq_false (by rw [he]; simp)
  rw [loopK_succ]
  simp only [s_headers_unsafe_l1, getK_mk f0, getK_mk f6, getK_mk f7, getK_set, ↓reduceIte, Nat.reduceEqDiff, someK_n, effK_n, retK, gK_do, gK_do', gK_skip, gK_skip', gK_none, pick_mk, cond_true, cond_false, condK_tn, condK_fn, bin_eql, bin_neq, bin_lss, bin_leq, bin_gtr, bin_geq, un_not, Bool.not_true, Bool.not_false, bin_str, lenS_mk, nle_l, nle_r, nle_n, nlt_l, nlt_r, nlt_n, neq_r, neq_n, nne_r, nne_n, ext0, ext1, ext30, ext31, ext32, bin_add, bin_sub, decide_true, decide_false, e1]
  rfl
 | cons x l ih =>
  intro pre τ m he hm fr k f0 f6 f7
  obtain ⟨m, rfl⟩ : ∃ j, m = j + 1 := ⟨m - 1, by omega⟩
  have hlt : pre.length < s.length := by rw [he]; simp
  have e1 : decide (pre.length < s.length) = true := decide_eq_true hlt
  have e2 : pStrIndex [.str s, .int .i64 (pre.length : Int)] = some (.int .u8 (x.toNat : Int)) := strIndex_mk (by rw [he]; simp)
  have e3 : wr .i64 ((pre.length : Int) + Int.ofNat 1) = ((pre ++ [x]).length : Int) := by rw [adI (by omega)]; simp
  have k1 := hI unsT x
  have eu : bs [34, 40, 41, 58, 60, 62, 63, 64, 91, 92, 93, 123, 125] = unsT := rfl
  have ei := idx_has x unsT
  have ea : (x :: l).any unsB = (unsB x || l.any unsB) := rfl
  have eb : unsB x = (((decide (x.toNat < 32) && !decide (x.toNat = 9)) || decide (x.toNat = 127)) || unsT.contains x) := rfl
  have go := fun fr f0 f6 f7 => ih (pre ++ [x]) τ m (by rw [he]; simp) (by simp at hm; omega) fr k f0 f6 f7
  rw [loopK_succ, ea, eb]
  cases h1 : decide (x.toNat < 32) <;> cases h2 : decide (x.toNat = 9) <;> cases h3 : decide (x.toNat = 127) <;> cases h4 : unsT.contains x <;>
   simp only [s_headers_unsafe_l1, getK_mk f0, getK_mk f6, getK_mk f7, getK_set, ↓reduceIte, Nat.reduceEqDiff, someK_n, effK_n, retK, gK_do, gK_do', gK_skip, gK_skip', gK_none, pick_mk, cond_true, cond_false, condK_tn, condK_fn, bin_eql, bin_neq, bin_lss, bin_leq, bin_gtr, bin_geq, un_not, Bool.not_true, Bool.not_false, bin_str, lenS_mk, nle_l, nle_r, nle_n, nlt_l, nlt_r, nlt_n, neq_r, neq_n, nne_r, nne_n, ext0, ext1, ext30, ext31, ext32, bin_add, bin_sub, decide_true, decide_false, e1, e2, h1, h2, h3, eu, k1, ei, h4, e3, Bool.true_or, Bool.false_or, Bool.or_false, Bool.or_true, Bool.and_true, Bool.and_false, Bool.true_and, Bool.false_and] <;>
   first | rfl | exact go _ (by simp [T.get_set]) (by simp [T.get_set]) (by simp [T.get_set])
theorem s_headers_unsafe_ret (c : CallK) {N : Nat} (hN : 9223372036854775807 < N) (hI : Idx70 c) (s : Bs) (hs : s.length ≤ 9223372036854775806) (H : Heap) (τ : Tape) (q : KV) : s_headers_unsafe c N (.str s) H τ q = q (.bool (unsafeB s)) H τ := by
 unfold unsafeB
 simp only [s_headers_unsafe, lenS_mk, someK_n]
 rw [l_headers_unsafe c N hI s (by omega) H s [] τ N rfl (by omega) _ _ (by simp [T.get_set]) (by simp [T.get_set]) (by simp [T.get_set])]
 cases s.any unsB with
 | true => simp only [cond_true, blockK, seqK, endK]; rfl
 | false => simp only [cond_false, blockK, Nat.beq_refl, cond_true, seqK, s_headers_unsafe_j0]
theorem l_headers_tongues (c : CallK) (N : Nat) (hI : Idx70 c) (s : Bs) (hs : s.length < 9223372036854775807) (H : Heap) : ∀ (l pre : Bs) (τ : Tape) (m : Nat), s = pre ++ l → l.length < m → ∀ (fr : T V) k, fr.get 0 = some (.str s) → fr.get 6 = some (.int .i64 (s.length : Int)) → fr.get 7 = some (.int .i64 (pre.length : Int)) →
  loopK (s_headers_tongues_l1 c N) m ⟨fr, H⟩ τ k = bif l.all lngB then k (.exit 0) ⟨.leaf, H⟩ τ else k .ret ⟨(T.set .leaf 2 (.bool false)), H⟩ τ := by
 intro l
 induction l with
 | nil =>
  intro pre τ m he hm fr k f0 f6 f7
  obtain ⟨m, rfl⟩ : ∃ j, m = j + 1 := ⟨m - 1, by omega⟩
  have e1 : decide (pre.length < s.length) = false := decide_eq_false (by rw [he]; simp)
  rw [loopK_succ]
  simp only [s_headers_tongues_l1, getK_mk f0, getK_mk f6, getK_mk f7, getK_set, ↓reduceIte, Nat.reduceEqDiff, someK_n, effK_n, retK, gK_do, gK_do', gK_skip, gK_skip', gK_none, pick_mk, cond_true, cond_false, condK_tn, condK_fn, bin_eql, bin_neq, bin_lss, bin_leq, bin_gtr, bin_geq, un_not, Bool.not_true, Bool.not_false, bin_str, lenS_mk, nle_l, nle_r, nle_n, nlt_l, nlt_r, nlt_n, neq_r, neq_n, nne_r, nne_n, ext0, ext1, ext30, ext31, ext32, bin_add, bin_sub, decide_true, decide_false, e1]
  rfl
 | cons x l ih =>
  intro pre τ m he hm fr k f0 f6 f7
  obtain ⟨m, rfl⟩ : ∃ j, m = j + 1 := ⟨m - 1, by omega⟩
  have hlt : pre.length < s.length := by rw [he]; simp
  have e1 : decide (pre.length < s.length) = true := decide_eq_true hlt
  have e2 : pStrIndex [.str s, .int .i64 (pre.length : Int)] = some (.int .u8 (x.toNat : Int)) := strIndex_mk (by rw [he]; simp)
  have e3 : wr .i64 ((pre.length : Int) + Int.ofNat 1) = ((pre ++ [x]).length : Int) := by rw [adI (by omega)]; simp
  have k1 := hI lngT x
  have eu : bs [32, 42, 44, 45, 46, 59, 61] = lngT := rfl
  have ei := idx_hasnt x lngT
  have ea : (x :: l).all lngB = (lngB x && l.all lngB) := rfl
  have eb : lngB x = ((((decide (97 ≤ x.toNat) && decide (x.toNat ≤ 122)) || (decide (65 ≤ x.toNat) && decide (x.toNat ≤ 90))) || (decide (48 ≤ x.toNat) && decide (x.toNat ≤ 57))) || lngT.contains x) := rfl
  have go := fun fr f0 f6 f7 => ih (pre ++ [x]) τ m (by rw [he]; simp) (by simp at hm; omega) fr k f0 f6 f7
  rw [loopK_succ, ea, eb]
  simp only [s_headers_tongues_l1, getK_mk f0, getK_mk f6, getK_mk f7, getK_set, ↓reduceIte, Nat.reduceEqDiff, someK_n, effK_n, retK, gK_do, gK_do', gK_skip, gK_skip', gK_none, pick_mk, cond_true, cond_false, condK_tn, condK_fn, bin_eql, bin_neq, bin_lss, bin_leq, bin_gtr, bin_geq, un_not, Bool.not_true, Bool.not_false, bin_str, lenS_mk, nle_l, nle_r, nle_n, nlt_l, nlt_r, nlt_n, neq_r, neq_n, nne_r, nne_n, ext0, ext1, ext30, ext31, ext32, bin_add, bin_sub, decide_true, decide_false, e1, e2]
  cases h1 : decide (97 ≤ x.toNat) <;> cases h2 : decide (x.toNat ≤ 122) <;> cases h3 : decide (65 ≤ x.toNat) <;> simp only [getK_set, ↓reduceIte, Nat.reduceEqDiff, someK_n, effK_n, retK, gK_do, gK_do', gK_skip, gK_skip', gK_none, pick_mk, cond_true, cond_false, condK_tn, condK_fn, bin_eql, bin_neq, bin_lss, bin_leq, bin_gtr, bin_geq, un_not, Bool.not_true, Bool.not_false, bin_str, lenS_mk, nle_l, nle_r, nle_n, nlt_l, nlt_r, nlt_n, neq_r, neq_n, nne_r, nne_n, ext0, ext1, ext30, ext31, ext32, bin_add, bin_sub, decide_true, decide_false, h1, h2, h3] <;> cases h4 : decide (x.toNat ≤ 90) <;> cases h5 : decide (48 ≤ x.toNat) <;> cases h6 : decide (x.toNat ≤ 57) <;> cases h7 : lngT.contains x <;>
   simp only [getK_set, ↓reduceIte, Nat.reduceEqDiff, someK_n, effK_n, retK, gK_do, gK_do', gK_skip, gK_skip', gK_none, pick_mk, cond_true, cond_false, condK_tn, condK_fn, bin_eql, bin_neq, bin_lss, bin_leq, bin_gtr, bin_geq, un_not, Bool.not_true, Bool.not_false, bin_str, lenS_mk, nle_l, nle_r, nle_n, nlt_l, nlt_r, nlt_n, neq_r, neq_n, nne_r, nne_n, ext0, ext1, ext30, ext31, ext32, bin_add, bin_sub, decide_true, decide_false, h1, h2, h3, h4, h5, h6, eu, k1, ei, h7, e3, Bool.true_or, Bool.false_or, Bool.or_false, Bool.or_true, Bool.and_true, Bool.and_false, Bool.true_and, Bool.false_and] <;>
   first | rfl | exact go _ (by simp [T.get_set]) (by simp [T.get_set]) (by simp [T.get_set])
theorem s_headers_tongues_ret (c : CallK) {N : Nat} (hN : 9223372036854775807 < N) (hI : Idx70 c) (s : Bs) (hs : s.length ≤ 9223372036854775806) (H : Heap) (τ : Tape) (q : KV) : s_headers_tongues c N (.str s) H τ q = q (.bool (tongB s)) H τ := by
 unfold tongB
 simp only [s_headers_tongues, lenS_mk, someK_n]
 rw [l_headers_tongues c N hI s (by omega) H s [] τ N rfl (by omega) _ _ (by simp [T.get_set]) (by simp [T.get_set]) (by simp [T.get_set])]
 cases s.all lngB with
 | false => simp only [cond_false, blockK, seqK, endK]; rfl
 | true => simp only [blockK, Nat.beq_refl, cond_true, seqK, s_headers_tongues_j0]
def partA (v : Bs) : Bs := match cutB 59 v with | some (a, _) => a | none => v
def essB (e : Bs) : Bool := (e == [97, 112, 112, 108, 105, 99, 97, 116, 105, 111, 110, 47, 120, 45, 119, 119, 119, 45, 102, 111, 114, 109, 45, 117, 114, 108, 101, 110, 99, 111, 100, 101, 100]) || ((e == [109, 117, 108, 116, 105, 112, 97, 114, 116, 47, 102, 111, 114, 109, 45, 100, 97, 116, 97]) || (e == [116, 101, 120, 116, 47, 112, 108, 97, 105, 110]))
def safeB (n v : Bs) : Bool :=
 bif decide (128 < v.length) then false else bif lower n == [97, 99, 99, 101, 112, 116] then !unsafeB v else bif (lower n == [97, 99, 99, 101, 112, 116, 45, 108, 97, 110, 103, 117, 97, 103, 101]) || (lower n == [99, 111, 110, 116, 101, 110, 116, 45, 108, 97, 110, 103, 117, 97, 103, 101]) then tongB v
 else bif lower n == [99, 111, 110, 116, 101, 110, 116, 45, 116, 121, 112, 101] then !unsafeB v && essB (lower (strip (partA v))) else bif lower n == [114, 97, 110, 103, 101] then (rng v).2.2 && decide (0 ≤ (rng v).1) else false
abbrev BoolOk (c : CallK) (f : Nat) (g : Bs → Bool) : Prop := ∀ (s : Bs), s.length ≤ 9223372036854775806 → ∀ H τ q, c f [.str s] H τ q = q (.bool (g s)) H τ
theorem partA_len (v : Bs) : (partA v).length ≤ v.length := by
 unfold partA
 split
 ·rename_i a b h; have := cutB_len 59 v a b h; omega
 ·exact Nat.le_refl _
theorem strip_len (v : Bs) : (strip v).length ≤ v.length := trimB_length _ _
theorem partV_A (v : Bs) : ∃ b d, partV 59 v = .tup [.str (partA v), b, d] := by
 unfold partV partA
 cases cutB 59 v with
 | none => exact ⟨_, _, rfl⟩
 | some ab => obtain ⟨a, b⟩ := ab; exact ⟨_, _, rfl⟩
set_option maxHeartbeats 2000000 in
theorem s_headers_Safe_ret (c : CallK) (N : Nat) (hL : NLowOk c) (hU : BoolOk c f_headers_unsafe unsafeB) (hT : BoolOk c f_headers_tongues tongB) (hC : RCutOk c) (hS : NStripOk c) (hR : RngOk c f_headers_Range) (n v : Bs) (hn : n.length ≤ 140737488355328) (H : Heap) (τ : Tape) (q : KV) : s_headers_Safe c N (.str n) (.str v) H τ q = q (.bool (safeB n v)) H τ := by
 unfold safeB
 cases h0 : decide (128 < v.length) with
 | true => simp only [s_headers_Safe, getK_set, ↓reduceIte, Nat.reduceEqDiff, someK_n, effK_n, retK, gK_do, gK_do', gK_skip, gK_skip', gK_none, pick_mk, cond_true, cond_false, condK_tn, condK_fn, bin_eql, bin_neq, bin_lss, bin_leq, bin_gtr, bin_geq, un_not, Bool.not_true, Bool.not_false, bin_str, lenS_mk, nle_l, nle_r, nle_n, nlt_l, nlt_r, nlt_n, neq_r, neq_n, nne_r, nne_n, ext0, ext1, ext30, ext31, ext32, bin_add, bin_sub, decide_true, decide_false, h0]
 | false =>
  have hv : v.length ≤ 128 := by have := of_decide_eq_false h0; omega
  have k1 := hL n hn
  generalize lower n = l at k1 ⊢
  have e1 : bs [97, 99, 99, 101, 112, 116] = [97, 99, 99, 101, 112, 116] := rfl
  have e2 : bs [97, 99, 99, 101, 112, 116, 45, 108, 97, 110, 103, 117, 97, 103, 101] = [97, 99, 99, 101, 112, 116, 45, 108, 97, 110, 103, 117, 97, 103, 101] := rfl
  have e3 : bs [99, 111, 110, 116, 101, 110, 116, 45, 108, 97, 110, 103, 117, 97, 103, 101] = [99, 111, 110, 116, 101, 110, 116, 45, 108, 97, 110, 103, 117, 97, 103, 101] := rfl
  have e4 : bs [99, 111, 110, 116, 101, 110, 116, 45, 116, 121, 112, 101] = [99, 111, 110, 116, 101, 110, 116, 45, 116, 121, 112, 101] := rfl
  have e5 : bs [114, 97, 110, 103, 101] = [114, 97, 110, 103, 101] := rfl
  have e6 : bs [97, 112, 112, 108, 105, 99, 97, 116, 105, 111, 110, 47, 120, 45, 119, 119, 119, 45, 102, 111, 114, 109, 45, 117, 114, 108, 101, 110, 99, 111, 100, 101, 100] = [97, 112, 112, 108, 105, 99, 97, 116, 105, 111, 110, 47, 120, 45, 119, 119, 119, 45, 102, 111, 114, 109, 45, 117, 114, 108, 101, 110, 99, 111, 100, 101, 100] := rfl
  have e7 : bs [109, 117, 108, 116, 105, 112, 97, 114, 116, 47, 102, 111, 114, 109, 45, 100, 97, 116, 97] = [109, 117, 108, 116, 105, 112, 97, 114, 116, 47, 102, 111, 114, 109, 45, 100, 97, 116, 97] := rfl
  have e8 : bs [116, 101, 120, 116, 47, 112, 108, 97, 105, 110] = [116, 101, 120, 116, 47, 112, 108, 97, 105, 110] := rfl
  have e9 : bs [59] = [59] := rfl
  have ku := hU v (by omega)
  have kt := hT v (by omega)
  have kc := hC v 59 (by omega)
  obtain ⟨pb, pd, hp⟩ := partV_A v
  rw [hp] at kc
  have hl := partA_len v
  have hl2 := strip_len (partA v)
  have ks := hS (partA v) (by omega)
  have kl := hL (strip (partA v)) (by omega)
  have kr := hR v (by omega)
  have zr : decide (Int.ofNat 0 ≤ (rng v).1) = decide (0 ≤ (rng v).1) := rfl
  cases h1 : (l == ([97, 99, 99, 101, 112, 116] : Bs)) with
  | true => simp only [s_headers_Safe, getK_set, ↓reduceIte, Nat.reduceEqDiff, someK_n, effK_n, retK, gK_do, gK_do', gK_skip, gK_skip', gK_none, pick_mk, cond_true, cond_false, condK_tn, condK_fn, bin_eql, bin_neq, bin_lss, bin_leq, bin_gtr, bin_geq, un_not, Bool.not_true, Bool.not_false, bin_str, lenS_mk, nle_l, nle_r, nle_n, nlt_l, nlt_r, nlt_n, neq_r, neq_n, nne_r, nne_n, ext0, ext1, ext30, ext31, ext32, bin_add, bin_sub, decide_true, decide_false, str_eql, h0, k1, e1, h1, ku]
  | false =>
   cases h2 : (l == ([97, 99, 99, 101, 112, 116, 45, 108, 97, 110, 103, 117, 97, 103, 101] : Bs)) with
   | true => simp only [s_headers_Safe, s_headers_Safe_j1, getK_set, ↓reduceIte, Nat.reduceEqDiff, someK_n, effK_n, retK, gK_do, gK_do', gK_skip, gK_skip', gK_none, pick_mk, cond_true, cond_false, condK_tn, condK_fn, bin_eql, bin_neq, bin_lss, bin_leq, bin_gtr, bin_geq, un_not, Bool.not_true, Bool.not_false, bin_str, lenS_mk, nle_l, nle_r, nle_n, nlt_l, nlt_r, nlt_n, neq_r, neq_n, nne_r, nne_n, ext0, ext1, ext30, ext31, ext32, bin_add, bin_sub, decide_true, decide_false, str_eql, h0, k1, e1, h1, e2, h2, kt, Bool.true_or]
   | false =>
    cases h3 : (l == ([99, 111, 110, 116, 101, 110, 116, 45, 108, 97, 110, 103, 117, 97, 103, 101] : Bs)) with
    | true => simp only [s_headers_Safe, s_headers_Safe_j1, getK_set, ↓reduceIte, Nat.reduceEqDiff, someK_n, effK_n, retK, gK_do, gK_do', gK_skip, gK_skip', gK_none, pick_mk, cond_true, cond_false, condK_tn, condK_fn, bin_eql, bin_neq, bin_lss, bin_leq, bin_gtr, bin_geq, un_not, Bool.not_true, Bool.not_false, bin_str, lenS_mk, nle_l, nle_r, nle_n, nlt_l, nlt_r, nlt_n, neq_r, neq_n, nne_r, nne_n, ext0, ext1, ext30, ext31, ext32, bin_add, bin_sub, decide_true, decide_false, str_eql, h0, k1, e1, h1, e2, h2, e3, h3, kt, Bool.false_or]
    | false =>
     cases h4 : (l == ([99, 111, 110, 116, 101, 110, 116, 45, 116, 121, 112, 101] : Bs)) with
     | true =>
      unfold essB
      generalize lower (strip (partA v)) = w at kl ⊢
      cases h6 : (w == ([97, 112, 112, 108, 105, 99, 97, 116, 105, 111, 110, 47, 120, 45, 119, 119, 119, 45, 102, 111, 114, 109, 45, 117, 114, 108, 101, 110, 99, 111, 100, 101, 100] : Bs)) <;> cases h7 : (w == ([109, 117, 108, 116, 105, 112, 97, 114, 116, 47, 102, 111, 114, 109, 45, 100, 97, 116, 97] : Bs)) <;> cases h8 : (w == ([116, 101, 120, 116, 47, 112, 108, 97, 105, 110] : Bs)) <;>
       simp only [s_headers_Safe, s_headers_Safe_j1, s_headers_Safe_j2, s_headers_Safe_j0, getK_set, ↓reduceIte, Nat.reduceEqDiff, someK_n, effK_n, retK, gK_do, gK_do', gK_skip, gK_skip', gK_none, pick_mk, cond_true, cond_false, condK_tn, condK_fn, bin_eql, bin_neq, bin_lss, bin_leq, bin_gtr, bin_geq, un_not, Bool.not_true, Bool.not_false, bin_str, lenS_mk, nle_l, nle_r, nle_n, nlt_l, nlt_r, nlt_n, neq_r, neq_n, nne_r, nne_n, ext0, ext1, ext30, ext31, ext32, bin_add, bin_sub, decide_true, decide_false, str_eql, h0, k1, e1, h1, e2, h2, e3, h3, e4, h4, e9, kc, ks, kl, e6, h6, e7, h7, e8, h8, ku, Bool.true_or, Bool.false_or, Bool.and_true, Bool.and_false]
     | false =>
      cases h5 : (l == ([114, 97, 110, 103, 101] : Bs)) with
      | true =>
       cases hr : (rng v).2.2 <;> simp only [s_headers_Safe, s_headers_Safe_j1, getK_set, ↓reduceIte, Nat.reduceEqDiff, someK_n, effK_n, retK, gK_do, gK_do', gK_skip, gK_skip', gK_none, pick_mk, cond_true, cond_false, condK_tn, condK_fn, bin_eql, bin_neq, bin_lss, bin_leq, bin_gtr, bin_geq, un_not, Bool.not_true, Bool.not_false, bin_str, lenS_mk, nle_l, nle_r, nle_n, nlt_l, nlt_r, nlt_n, neq_r, neq_n, nne_r, nne_n, ext0, ext1, ext30, ext31, ext32, bin_add, bin_sub, decide_true, decide_false, str_eql, h0, k1, e1, h1, e2, h2, e3, h3, e4, h4, e5, h5, kr, hr, zr, Bool.true_and, Bool.false_and, Bool.false_or]
      | false => simp only [s_headers_Safe, s_headers_Safe_j1, s_headers_Safe_j0, getK_set, ↓reduceIte, Nat.reduceEqDiff, someK_n, effK_n, retK, gK_do, gK_do', gK_skip, gK_skip', gK_none, pick_mk, cond_true, cond_false, condK_tn, condK_fn, bin_eql, bin_neq, bin_lss, bin_leq, bin_gtr, bin_geq, un_not, Bool.not_true, Bool.not_false, bin_str, lenS_mk, nle_l, nle_r, nle_n, nlt_l, nlt_r, nlt_n, neq_r, neq_n, nne_r, nne_n, ext0, ext1, ext30, ext31, ext32, bin_add, bin_sub, decide_true, decide_false, str_eql, h0, k1, e1, h1, e2, h2, e3, h3, e4, h4, e5, h5, Bool.false_or]
abbrev SafePre : List V → Prop | [.str n, .str _] => n.length ≤ 140737488355328 | _ => False
abbrev SafeG : List V → V | [.str n, .str v] => .bool (safeB n v) | _ => .tup []
abbrev SafeR := RV SafePre SafeG
noncomputable abbrev rw_HSafe : List Row := [Row.fn f_headers_Safe fn_headers_Safe e_headers_Safe, Row.fn f_headers_unsafe fn_headers_unsafe e_headers_unsafe, Row.fn f_headers_tongues fn_headers_tongues e_headers_tongues, Row.fn f_strings_IndexByte fn_strings_IndexByte e_strings_IndexByte, Row.prim f_stringslite_IndexByte idxP, Row.prim f_infra_Lower (outP LowR), Row.prim f_strings_Cut (outP CutR), Row.prim f_infra_Strip (outP RStripR), Row.prim f_headers_Range (outP RngR)]
theorem p_headers_Safe : ∀ base w0, PrimOk PG base w0 f_headers_Safe (outP SafeR) := by
 obtain ⟨N, hN⟩ := someN
 refine primRV (N := N) (l := rw_HSafe) (.fn ok_headers_Safe e_headers_Safe_ok (.fn ok_headers_unsafe e_headers_unsafe_ok (.fn ok_headers_tongues e_headers_tongues_ok (.fn ok_strings_IndexByte e_strings_IndexByte_ok (.prim idxP_ok (.prim p_infra_Lower (.prim p_strings_Cut (.prim p_infra_Strip (.prim p_headers_Range (.nil _)))))))))) 4 _ (fun vs H h => ?_) (fun vs h H hw τ => ?_)
 ·unfold SafePre at h; split at h
  ·trivial
  ·exact h.elim
 ·have hI : Idx70 (CR rw_HSafe N 2) := fun s x H τ q => s_strings_IndexByte_ret (CR rw_HSafe N 1) N (k_idx fun _ _ _ _ => rfl) s x H τ q
  unfold SafePre at h; split at h
  ·exact ⟨H, τ, Gr.refl hw, fun q => s_headers_Safe_ret (CR rw_HSafe N 3) N (k_infra_Lower fun _ _ _ _ => rfl) (fun s hs H τ q => s_headers_unsafe_ret (CR rw_HSafe N 2) hN hI s hs H τ q) (fun s hs H τ q => s_headers_tongues_ret (CR rw_HSafe N 2) hN hI s hs H τ q) (k_strings_Cut fun _ _ _ _ => rfl) (k_infra_Strip fun _ _ _ _ => rfl) (k_Range fun _ _ _ _ => rfl) _ _ h H τ q⟩
  ·exact h.elim
theorem k_Safe {c : CallK} {f : Nat} (h : IsP c f SafeR) (n v : Bs) (hn : n.length ≤ 140737488355328) (H : Heap) (τ : Tape) (q : KV) : c f [.str n, .str v] H τ q = q (.bool (safeB n v)) H τ := RV_call h (vs := [.str n, .str v]) hn H τ q
end Go.Am.X

