/- The abstract machine, printed functions of the program, and what they are shown to be. -/
import Derived.Test.YtfamalehnahbdaaGreatDoorBRAL2
import Derived.Test.YtfamalehnahbdaaGreatDoorBRAL1
import Derived.Test.YtfamalehnahbdaaGreatDoorBRAM4
import Derived.Test.YtfamalehnahbdaaGreatDoorBRAM5
set_option linter.unusedSimpArgs false
set_option linter.unusedVariables false
set_option linter.unusedSectionVars false
set_option maxRecDepth 100000
namespace Go.Am.X
theorem dig_loop21 (c : CallK) (N : Nat) (H : Heap) (k : KC) : ∀ (f n : Nat) (acc : Bs) (m : Nat) (fr : T V) (τ : Tape), n < 10 ^ f → n < 4611686018427387904 → (acc ≠ [] ∨ 0 < f) → acc.length < 1000 - f → f < 100 → f < m →
  fr.get 0 = some (.int .i64 (n : Int)) → fr.get 3 = some (.str acc) → loopK (s_law21_digits_l1 c N) m ⟨fr, H⟩ τ k = k (.exit 0) ⟨T.set .leaf 3 (.str (digF f n acc)), H⟩ τ := by
 intro f
 induction f with
 | zero =>
  intro n acc m fr τ hn hb ha hl hf hm f0 f3
  obtain ⟨m, rfl⟩ : ∃ j, m = j + 1 := ⟨m - 1, by omega⟩
  have hn0 : n = 0 := by simpa using hn
  subst hn0
  have hac : acc ≠ [] := by rcases ha with h | h; exact h; omega
  have e1 : decide (Int.ofNat 0 < ((0 : Nat) : Int)) = false := rfl
  have e2 : (acc == ([] : Bs)) = false := beq_eq_false_iff_ne.2 hac
  rw [loopK_succ]
  simp only [s_law21_digits_l1, getK_mk f0, getK_mk f3, bin_gtr, e1, gK_do', retK, effK_mk, bin_str, str_eql, e2, someK_mk, pick_mk, cond_false, condK_f, seqK, digF]
 | succ f ih =>
  intro n acc m fr τ hn hb ha hl hf hm f0 f3
  obtain ⟨m, rfl⟩ : ∃ j, m = j + 1 := ⟨m - 1, by omega⟩
  rw [loopK_succ]
  have step : (0 < n ∨ acc = []) → loopK (s_law21_digits_l1 c N) m ⟨(T.set (T.set (T.set (T.set (T.set .leaf 0 (.int .i64 (n : Int))) 3 (.str (UInt8.ofNat (48 + n % 10) :: acc))) 19 (.int .i64 (n : Int))) 20 (.int .i64 ((n / 10 : Nat) : Int))) 0 (.int .i64 ((n / 10 : Nat) : Int))), H⟩ τ k = k (.exit 0) ⟨T.set .leaf 3 (.str (digF (f + 1) n acc)), H⟩ τ := by
   intro h
   rw [ih (n / 10) (UInt8.ofNat (48 + n % 10) :: acc) m _ τ (by rw [Nat.pow_succ] at hn; omega) (by omega) (.inl (by simp)) (by simp; omega) (by omega) (by omega) (by simp [T.get_set]) (by simp [T.get_set])]
   have : (Nat.blt 0 n || acc.isEmpty) = true := by
    rcases h with h | h
    ·have : Nat.blt 0 n = true := by simp [Nat.blt]; omega
     rw [this]; rfl
    ·rw [h]; simp
   simp only [digF, this, cond_true]
  have hr : (n : Int).tmod (Int.ofNat 10) = ((n % 10 : Nat) : Int) := rfl
  have hq : (n : Int).tdiv (Int.ofNat 10) = ((n / 10 : Nat) : Int) := rfl
  have e3 : wr .i64 (((n % 10 : Nat) : Int) + Int.ofNat 1) = ((n % 10 + 1 : Nat) : Int) := by
   rw [wr_id (by simp; omega) (by simp; omega)]; rfl
  have e4 : wr .i64 ((n / 10 : Nat) : Int) = ((n / 10 : Nat) : Int) := wr_id (by omega) (by omega)
  have e5 : strBin .add [UInt8.ofNat (48 + n % 10)] acc = some (.str (UInt8.ofNat (48 + n % 10) :: acc)) := str_add (by simp; omega)
  by_cases h0 : 0 < n
  ·have e1 : decide (Int.ofNat 0 < (n : Int)) = true := decide_eq_true (by simp; omega)
   simp only [s_law21_digits_l1, getK_mk f0, getK_mk f3, bin_gtr, e1, gK_skip', someK_mk, pick_mk, cond_true, condK_t]
   rw [bin_rem _ _ _ (by decide), hr, bin_add, e3, dig_slice _ (Nat.mod_lt _ (by omega)), someK_mk, bin_str, e5, someK_mk, bin_quo _ _ _ (by decide), hq, e4]
   exact step (.inl h0)
  ·have hn0 : n = 0 := by omega
   subst hn0
   have e1 : decide (Int.ofNat 0 < ((0 : Nat) : Int)) = false := rfl
   by_cases hac : acc = []
   ·have e2 : (acc == ([] : Bs)) = true := beq_iff_eq.2 hac
    simp only [s_law21_digits_l1, getK_mk f0, getK_mk f3, bin_gtr, e1, gK_do', retK, effK_mk, bin_str, str_eql, e2, someK_mk, pick_mk, cond_false, condK_t]
    rw [bin_rem _ _ _ (by decide), hr, bin_add, e3, dig_slice _ (Nat.mod_lt _ (by omega)), someK_mk, bin_str, e5, someK_mk, bin_quo _ _ _ (by decide), hq, e4]
    exact step (.inr hac)
   ·have e2 : (acc == ([] : Bs)) = false := beq_eq_false_iff_ne.2 hac
    have : (Nat.blt 0 0 || acc.isEmpty) = false := by
     cases acc with
     | nil => exact absurd rfl hac
     | cons x l => rfl
    simp only [s_law21_digits_l1, getK_mk f0, getK_mk f3, bin_gtr, e1, gK_do', retK, effK_mk, bin_str, str_eql, e2, someK_mk, pick_mk, cond_false, condK_f, seqK, digF, this]
theorem s_law21_digits_ret (c : CallK) (N : Nat) (hN : 9223372036854775807 ≤ N) (n : Nat) (hn : n < 100000000) (H : Heap) (τ : Tape) (q : KV) : s_law21_digits c N (.int .i64 (n : Int)) H τ q = q (.str (dig n)) H τ := by
 simp only [s_law21_digits]
 rw [dig_loop21 c N H _ 8 n [] N _ τ (by omega) (by omega) (.inr (by omega)) (by simp) (by omega) (by omega) (by simp [T.get_set]) (by simp [T.get_set])]
 simp only [blockK, Nat.beq_refl, cond_true, seqK, s_law21_digits_j0, getK_set, ↓reduceIte]
 rfl
end Go.Am.X

namespace Go.Am.X
end Go.Am.X

namespace Go.Am.X
end Go.Am.X

namespace Go.Am.X
theorem Own.stores {H : Heap} {B z id n e : Nat} {cs : List V} (h : Own H B z (.sl id 0 n n (some e) z) n cs) (hw : WF H) (off : Nat) (vs : List V) (hl : off + vs.length ≤ cs.length) (hs : vs.all V.scal = true) :
  ∃ H', H.stores id off vs = some H' ∧ Own H' B z (.sl id 0 n n (some e) z) n (cs.take off ++ vs ++ cs.drop (off + vs.length)) ∧ Gr B H H' := by
 rcases h with ⟨h, _⟩ | ⟨id', e', room, fam, ver, pl, st, fr, q, h1, h2, h3, h4, h5, h7⟩
 ·cases h
 ·cases q
  cases vs with
  | nil => exact ⟨H, rfl, by simpa using .inr ⟨id, e, room, fam, ver, pl, st, fr, rfl, h1, h2, h3, h4, h5, h7⟩, Gr.refl hw⟩
  | cons v vs =>
   have hroom : H.room? id = room := by simp only [Heap.room?, h1]
   have hov := over_in off room (v :: vs) cs hl
   refine ⟨{ size := H.size, blk := H.blk.set id (.mem (cs.take off ++ (v :: vs) ++ cs.drop (off + (v :: vs).length)) room fam ver true pl (st + 1)), fams := H.fams.set fam (ver, ver) }, ?_, ?_, ?_⟩
   ·simp only [Heap.stores, hs, cond_true, Heap.write, h1, h2, hroom, hov]
    rw [show Nat.beq ver ver = true from Nat.beq_refl ver, show Nat.ble fr ver = true from Nat.ble_eq_true_of_le h3]
    rfl
   ·refine .inr ⟨id, e, room, fam, ver, pl, st + 1, ver, rfl, T.get_set_same _ _ _, T.get_set_same _ _ _, Nat.le_refl _, h4, h5, ?_⟩
    rw [← h7]
    simp only [List.length_append, List.length_take, List.length_drop]
    omega
   ·have hid := hw.blk _ _ h1
    have hfam := hw.fams _ _ h2
    refine ⟨⟨?_, ?_, ?_⟩, Nat.le_refl _, fun i hi => ?_, fun f hf => ?_⟩
    ·intro i b hb
     simp only [T.get_set] at hb ⊢
     split at hb
     ·omega
     ·exact hw.blk _ _ hb
    ·intro f x hf
     simp only [T.get_set] at hf ⊢
     split at hf
     ·omega
     ·exact hw.fams _ _ hf
    ·intro i c r f v' w p s hb
     simp only [T.get_set] at hb ⊢
     split at hb
     ·cases hb; exact hfam
     ·exact hw.fam _ _ _ _ _ _ _ _ hb
    ·simp only [T.get_set]; rw [if_neg (by omega)]
    ·simp only [T.get_set]; rw [if_neg (by omega)]
end Go.Am.X

namespace Go.Am.X
end Go.Am.X

namespace Go.Am.X
end Go.Am.X

namespace Go.Am.X
def GoodB (cs : List V) (n : Nat) : Prop := ∃ la : List Nat, cs = ws .u8 la ∧ n = la.length ∧ la.length < 1000000
end Go.Am.X

namespace Go.Am.X
theorem ws_take_drop (la : List Nat) (a b : Nat) : ((ws .u8 la).take b).drop a = ws .u8 ((la.take b).drop a) := by
 simp [ws, List.map_take, List.map_drop]
theorem rdH_scal {H : Heap} {v : V} {hs : List Hd} (h : RdH H v hs) : v.cells = [v] ∧ v.scal = true := by
 rcases h.1 with ⟨rfl | ⟨id, off, lo, ex, rfl⟩, _, _⟩ | ⟨id, off, lo, ex, all, rfl, _⟩ <;> exact ⟨rfl, rfl⟩
structure KBst (H0 : Heap) (B0 : Nat) (L : Lab) (H : Heap) (K : Nat) (its : List ItZ) (s m : Nat) (e : Blb) (r : Nat) : Prop where
 wf : WF H
 b1 : BookZ 1 (selL 1 L) H K its
 st : Stor (fun i => i < B0 ∧ i ≠ s ∧ i ≠ m) H s m 1 [e]
 g : ∀ it ∈ its, GoodB it.cs it.n
 k : ∀ it ∈ its, it.key < r
 l : its.length ≤ r
 z : ∀ i, i < B0 → L i = (0, 0)
 sz : B0 ≤ H.size
 gr : Gr H0.size H0 H
abbrev ReadOk (c : CallK) : Prop := ∀ {P : Nat → Prop} {H : Heap} {s m k : Nat} {es : List Blb}, Stor P H s m k es → WF H → (∀ e ∈ es, e.cs.length < 400) → inH H 0 tabs = true → 6 ≤ H.size → ∀ (u : Bs), u.length < 9223372036854775807 → ∀ (ranged : Bs), ranged.length ≤ 9223372036854775806 → ∀ (has : Bool) (τ : Tape),
   ∃ res H' τ', Gr H.size H H' ∧ ReadRes H' H.size res (readE es u ranged has) ∧ ∀ q, c f_blob_Store_Read [.ptr s 0, .str u, .str ranged, .bool has] H τ q = q res H' τ'
abbrev PutOk (c : CallK) : Prop := ∀ {P : Nat → Prop} {H : Heap} {s m k : Nat} {es : List Blb}, Stor P H s m k es → WF H → (∀ i, P i → i < H.size) →
  ∀ {o : Bs}, Adr o → ∀ (kind : Bs), kind.length ≤ 9223372036854775806 → ∀ {bv : V} {n : Nat} {cs : List V}, Rd H 1 bv n cs → (∀ H', Chg (fun i => i = s) H H' → Rd H' 1 bv n cs ∧ Src H' bv) → n ≤ 140737488355328 → k < 90 → putErr kind n es.length = 0 → ∀ (τ : Tape),
  ∃ bv' H' τ', Stor (fun i => P i ∨ (H.size ≤ i ∧ i < H'.size)) H' s m (k + 1) (putE ⟨putU o (k + 1), valT kind, bv', cs⟩ es) ∧ Chg (fun i => i = s ∨ i = m) H H' ∧ ∀ q, c f_blob_Store_Put [.ptr s 0, org o, .str kind, bv] H τ q = q (.tup [.str (putU o (k + 1)), .int .i64 (Int.ofNat 0)]) H' τ'
theorem ws_take (la : List Nat) (k : Nat) : (ws .u8 la).take k = ws .u8 (la.take k) := by simp [ws, List.map_take]
theorem fewB_ret (c : CallK) (N : Nat) (v : V) (n k : Nat) (cs : List V) (hk : 0 < k) (hkk : k < 1000000) (H : Heap) (hR : Roomy v) (hRd : Rd H 1 v n cs) :
  ∃ v', Roomy v' ∧ (∀ H', Src H' v → Src H' v') ∧ (∀ H', Rd H' 1 v n cs → Rd H' 1 v' (min n k) (cs.take k)) ∧ ∀ H τ q, s_keep_FewBytes c N v (.int .i64 (k : Int)) H τ q = q v' H τ := by
 by_cases h : k < n
 ·rcases hRd with ⟨_, h0, _⟩ | ⟨id, off, lo, ex, all, rfl, q1, q2, q3⟩
  ·omega
  ·have hb : bounds3 false true false [V.int .i64 (k : Int)] = some (none, some k, none) := by simp only [bounds3, optN, natOf_mk]
   have hwi : within k lo ex = true := by have hR : within n lo ex = true := hR; rw [within_iff] at hR ⊢; omega
   have h0 : Nat.ble 0 k = true := Nat.ble_eq_true_of_le (Nat.zero_le _)
   have h1 : Nat.ble 0 lo = true := Nat.ble_eq_true_of_le (Nat.zero_le _)
   have e1 : decide ((k : Int) < (n : Int)) = true := decide_eq_true (by omega)
   refine ⟨.sl id off k lo ex 1, hwi, fun _ h => h, fun H' hd => ?_, fun H τ q => ?_⟩
   ·rcases hd with ⟨_, h0, _⟩ | ⟨id', off', lo', ex', all', e, q1, q2, q3⟩
    ·omega
    ·cases e
     rw [Nat.min_eq_right (by omega)]
     refine .inr ⟨id, off, lo, ex, all', rfl, q1, ?_, ?_⟩
     ·rw [q2, List.take_take]; congr 1; omega
     ·rw [List.length_take]; omega
   ·have hp : pLen [V.sl id off n lo ex 1] = some (.int .i64 (n : Int)) := rfl
    have hs : pSlSlice 1 false true false [V.sl id off n lo ex 1, V.int .i64 (k : Int)] = some (.sl id off k lo ex 1) := by
     simp only [pSlSlice, Nat.beq_refl, cond_true, hb, slCut, Option.getD_some, Option.getD_none, hwi, h0, Bool.and_self, h1, offIn, Nat.sub_zero]
    simp only [s_keep_FewBytes, hp, someK_mk, bin_gtr, e1, condK_t, hs]
 ·have e1 : decide ((k : Int) < (n : Int)) = false := decide_eq_false (by omega)
  refine ⟨v, hR, fun _ h => h, fun H' hd => ?_, fun H τ q => ?_⟩
  ·rw [Nat.min_eq_left (by omega), List.take_of_length_le (by have := hd.len; omega)]
   exact hd
  ·simp only [s_keep_FewBytes, hRd.pLen, someK_mk, bin_gtr, e1, condK_f]
end Go.Am.X

namespace Go.Am.X
def toB (l : List Nat) : Bs := l.map UInt8.ofNat
theorem bytesOf_ws : ∀ l : List Nat, bytesOf (ws .u8 l) = some (toB l) := by
 intro l; induction l with
 | nil => rfl
 | cons x l ih =>
  show (match bytesOf (ws .u8 l) with | some r => some (UInt8.ofNat (x : Int).toNat :: r) | none => none) = _
  rw [ih]; rfl
theorem str_rd {H : Heap} {v : V} {n : Nat} {l : List Nat} (h : Rd H 1 v n (ws .u8 l)) (hs : Src H v) : lBytesStr [v] H = some (.str (toB l)) := by
 obtain ⟨h1, h2⟩ := h.loads hs
 rcases h with ⟨rfl | ⟨id, off, lo, ex, rfl⟩, rfl, h0⟩ | ⟨id, off, lo, ex, all, rfl, _⟩
 ·cases l with
  | nil => rfl
  | cons a l => simp [ws] at h0
 ·simp only [srcCells, Nat.beq_refl, cond_true] at h2
  rw [Nat.zero_mul] at h2
  simp only [lBytesStr, Nat.beq_refl, cond_true, h2, bytesOf_ws]
 ·simp only [srcCells, Nat.beq_refl, cond_true] at h2
  rw [Nat.mul_one] at h2
  simp only [lBytesStr, Nat.beq_refl, cond_true, h2, bytesOf_ws]
theorem s_book_Within_gen (c : CallK) (N : Nat) (n : Int) {h : Nat} (hh : h < 4611686018427387903) (H : Heap) (τ : Tape) : ∃ m : Nat, m ≤ h ∧ ∀ q, s_book_Within c N (.int .i64 n) (.int .i64 (.ofNat 0)) (.int .i64 (h : Int)) H τ q = q (.int .i64 (m : Int)) H τ := by
 have h1 := Int.tmod_lt_of_pos n (b := (h : Int) + 1) (by omega)
 have h2 := Int.lt_tmod_of_pos n (b := (h : Int) + 1) (by omega)
 have e1 : wr .i64 ((h : Int) - Int.ofNat 0) = h := by rw [wr_id (by simp <;> omega) (by simp <;> omega)]; simp
 have e2 : wr .i64 ((h : Int) + Int.ofNat 1) = (h : Int) + 1 := by rw [wr_id (by simp <;> omega) (by simp <;> omega)]; simp
 have er := bin_rem (k := .i64) n ((h : Int) + 1)
 generalize hr : n.tmod ((h : Int) + 1) = r at h1 h2
 by_cases hneg : r < 0
 ·refine ⟨(r + (h + 1)).toNat, by omega, fun q => ?_⟩
  have e3 : decide (r < Int.ofNat 0) = true := decide_eq_true hneg
  have e4 : wr .i64 (r + (h : Int)) = r + h := by rw [wr_id (by omega) (by omega)]
  have e5 : wr .i64 (r + h - Int.ofNat 0) = r + h := by rw [wr_id (by simp <;> omega) (by simp <;> omega)]; simp
  have e6 : wr .i64 (r + h + Int.ofNat 1) = r + (h + 1) := by rw [wr_id (by simp <;> omega) (by simp <;> omega)]; simp; try omega
  have e7 : wr .i64 (Int.ofNat 0 + (r + (h + 1))) = (((r + (h + 1)).toNat : Nat) : Int) := by rw [wr_id (by simp <;> omega) (by simp <;> omega)]; simp; try omega
  simp only [s_book_Within, bin_sub, e1, bin_add, e2, bin_rem _ _ ((h : Int) + 1) (by omega), hr, bin_lss, e3, condK_tn, e4, e5, e6, s_book_Within_j0, getK_set, ↓reduceIte, Nat.reduceEqDiff, e7]
 ·refine ⟨r.toNat, by omega, fun q => ?_⟩
  have e3 : decide (r < Int.ofNat 0) = false := decide_eq_false hneg
  have e7 : wr .i64 (Int.ofNat 0 + r) = ((r.toNat : Nat) : Int) := by rw [wr_id (by simp <;> omega) (by simp <;> omega)]; simp; omega
  simp only [s_book_Within, bin_sub, e1, bin_add, e2, bin_rem _ _ ((h : Int) + 1) (by omega), hr, bin_lss, e3, condK_fn, s_book_Within_j0, getK_set, ↓reduceIte, Nat.reduceEqDiff, e7]
theorem told_dig (n : Nat) (hn : n < 100000000) : toldB (dig n) = ((n : Int), true) := by
 unfold toldB; rw [if_neg (dig_ok n).2.1, intB_dig n hn]
def rgT (a b : Bs) : Bs := bytesEq ++ (a ++ 45 :: b)
theorem rng_T (A B : Bs) (hA : Dgs A) : rng (rgT A B) = rngAB (toldB A) (toldB B) := by
 have h1 : begB (rgT A B) bytesEq = true := rfl
 have h2 : (rgT A B).drop 6 = A ++ 45 :: B := rfl
 unfold rng
 rw [h1, h2, cut_dig A B hA]
 rfl
theorem dgs_nil : Dgs [] := fun x h => by simp at h
theorem rng_ab (a b : Nat) (hab : a ≤ b) (hb : b < 100000000) : rng (rgT (dig a) (dig b)) = ((a : Int), (b : Int), true) := by
 rw [rng_T _ _ (dig_ok a).1, told_dig a (by omega), told_dig b hb]
 have h1 : decide ((a : Int) < 0) = false := decide_eq_false (by omega)
 have h2 : decide (b < a) = false := decide_eq_false (by omega)
 simp [rngAB, h1, h2]
theorem rng_a (a : Nat) (ha : a < 100000000) : rng (rgT (dig a) []) = ((a : Int), -1, true) := by
 have ht : toldB [] = (-1, true) := rfl
 rw [rng_T _ _ (dig_ok a).1, told_dig a ha, ht]
 have h1 : decide ((a : Int) < 0) = false := decide_eq_false (by omega)
 simp [rngAB, h1]
theorem rng_b (b : Nat) (hb : b < 100000000) : rng (rgT [] (dig b)) = (-1, (b : Int), true) := by
 have ht : toldB [] = (-1, true) := rfl
 rw [rng_T _ _ dgs_nil, told_dig b hb, ht]
 have h1 : decide ((b : Int) < 0) = false := decide_eq_false (by omega)
 simp [rngAB, h1]
theorem cutR_ab {n a b : Nat} (ha : a < n) (hab : a ≤ b) : cutR n ((a : Int), (b : Int), true) = some (a, min (b + 1) n) := by
 have h1 : cutF n ((a : Int), (b : Int), true) = a := by unfold cutF; rw [if_neg (by simp)]
 have h2 : cutM n ((a : Int), (b : Int), true) = min (b : Int) ((n : Int) - 1) := by
  unfold cutM cutL; rw [if_neg (by simp), if_neg (by simp)]
 unfold cutR
 rw [h1, h2, if_pos rfl, if_neg (by omega)]
 congr 1
 refine Prod.ext (by simp) ?_
 show (min (b : Int) ((n : Int) - 1) + 1).toNat = min (b + 1) n
 omega
theorem cutR_a {n a : Nat} (ha : a < n) : cutR n ((a : Int), -1, true) = some (a, n) := by
 have h1 : cutF n ((a : Int), -1, true) = a := by unfold cutF; rw [if_neg (by simp)]
 have h2 : cutM n ((a : Int), -1, true) = (n : Int) - 1 := by
  unfold cutM cutL; rw [if_neg (by simp), if_pos (by simp)]; omega
 unfold cutR
 rw [h1, h2, if_pos rfl, if_neg (by omega)]
 congr 1
 refine Prod.ext (by simp) ?_
 show ((n : Int) - 1 + 1).toNat = n
 omega
theorem cutR_b {n b : Nat} (h0 : 0 < b) (hb : b ≤ n) : cutR n (-1, (b : Int), true) = some (n - b, n) := by
 have h1 : cutF n (-1, (b : Int), true) = ((n - b : Nat) : Int) := by
  unfold cutF; rw [if_pos (by simp)]
  show max ((n : Int) - (b : Int)) 0 = _
  omega
 have h2 : cutM n (-1, (b : Int), true) = (n : Int) - 1 := by
  unfold cutM cutL; rw [if_pos (by simp)]; omega
 unfold cutR
 rw [h1, h2, if_pos rfl, if_neg (by omega)]
 congr 1
 refine Prod.ext (by simp) ?_
 show ((n : Int) - 1 + 1).toNat = n
 omega
theorem readE_one (e : Blb) (u rg : Bs) (hu : uCut u = e.url) {ab : Nat × Nat} (h : cutR e.cs.length (rng rg) = some ab) : readE [e] u rg true = some (e, some ab) := by
 unfold readE findE
 rw [hu]
 simp only [List.find?_cons, beq_self_eq_true, cond_true, h]
theorem s_law21_part_ret (c : CallK) (N : Nat) (hRead : ReadOk c) {P : Nat → Prop} {H : Heap} {s m k : Nat} {es : List Blb} (hst : Stor P H s m k es) (hw : WF H) (hes : ∀ e ∈ es, e.cs.length < 400) (ht : inH H 0 tabs = true) (hg : 6 ≤ H.size)
  (u : Bs) (hu : u.length < 9223372036854775807) (rg : Bs) (hrg : rg.length ≤ 9223372036854775806) {e : Blb} {ab : Nat × Nat} (hr : readE es u rg true = some (e, some ab)) (τ : Tape) :
  ∃ bv H' τ', Gr H.size H H' ∧ Rd H' 1 bv (readBs e (some ab)).length (readBs e (some ab)) ∧ Src H' bv ∧ ∀ q, s_law21_part c N (.ptr s 0) (.str u) (.str rg) H τ q = q bv H' τ' := by
 obtain ⟨res, H1, τ1, g1, hres, k1⟩ := hRead hst hw hes ht hg u hu rg hrg true τ
 rw [hr] at hres
 obtain ⟨hv, bv, hres, h2, h3⟩ := hres
 have hres : res = .tup [.agg [.int .i64 (Int.ofNat 206), hv, bv], .bool true] := hres
 subst hres
 have hhv := rdH_scal h2
 have hb := h3.scal
 have a1 : eAlloc [(.int .i64 (.ofNat 0)), .nils, .nils] [] H1 τ1 = some (.ptr H1.size 0, H1.new [(.int .i64 (.ofNat 0)), .nils, .nils] 3 true, τ1) := rfl
 generalize hH2 : H1.new [(.int .i64 (.ofNat 0)), .nils, .nils] 3 true = H2 at a1
 have g2 : Gr H1.size H1 H2 := hH2 ▸ Gr.new g1.wf _ _ _
 have x2 : Bx H2 H1.size [(.int .i64 (.ofNat 0)), .nils, .nils] := hH2 ▸ Bx.new H1 _ _ _ (by simp)
 have s1z := g1.size
 obtain ⟨H3, s1, s2, s3⟩ := x2.eStore g2.wf 0 (.agg [.int .i64 (Int.ofNat 206), hv, bv]) 3 rfl (by simp) (by omega) (by show (true && (hv.scal && (bv.scal && true))) = true; rw [hhv.2, hb.2]; rfl) τ1
 have x3 : Bx H3 H1.size [.int .i64 (Int.ofNat 206), hv, bv] := s2
 have ld0 : lLoad1 [.ptr H1.size (0 + 0)] H3 = some (.int .i64 (Int.ofNat 206)) := load_cell x3.cells rfl
 have ld : lLoad1 [.ptr H1.size (0 + 2)] H3 = some bv := load_cell x3.cells rfl
 have g3 : Gr H.size H H3 := (g1.trans g2 g1.size).trans (s3.gr (B := H.size) (by omega)) (Nat.le_refl _)
 have b3 : BodP (fun i => H.size ≤ i) H3 bv (readBs e (some ab)).length (readBs e (some ab)) := by
  have c1 := h3.weaken (Q := fun i => H.size ≤ i ∧ i < H1.size) g1.wf fun i hi q => ⟨q, hi⟩
  have c2 := c1.chg g1.wf g2.chg (P := fun i => H.size ≤ i ∧ i < H1.size) (Q := fun _ => False) (fun _ _ _ q => q)
  exact (c2.chg g2.wf (s3.chg (P := fun i => i = H1.size) rfl) (fun i _ q e => by omega)).weaken s3.wf fun i _ q => q.1
 refine ⟨bv, H3, τ1, g3, b3.rd, b3.src, fun q => ?_⟩
 have ex0 : pExtract 0 [.tup [.agg [.int .i64 (Int.ofNat 206), hv, bv], .bool true]] = some (.agg [.int .i64 (Int.ofNat 206), hv, bv]) := rfl
 have ex1 : pExtract 1 [.tup [.agg [.int .i64 (Int.ofNat 206), hv, bv], .bool true]] = some (.bool true) := rfl
 have e2 : (Int.ofNat 206 != Int.ofNat 206) = false := rfl
 simp only [s_law21_part, k1, ex0, ex1, someK_n, a1, effK_n, s1, un_not, Bool.not_true, gK_do', retK, fa_ptr, ld0, bin_neq, e2, pick_mk, cond_false, condK_fn, ld]
theorem sl_cut {H : Heap} {id n : Nat} {ex : Option Nat} {cs : List V} (hc : H.cells? id = some cs) (hn : cs.length = n) (a b : Nat) (hab : a ≤ b) (hb : b ≤ n) :
  Rd H 1 (.sl id a (b - a) (n - a) ex 1) (b - a) ((cs.take b).drop a) ∧ Src H (.sl id a (b - a) (n - a) ex 1) := by
 refine ⟨.inr ⟨id, a, n - a, ex, cs, rfl, hc, ?_, ?_⟩, ⟨_, hc⟩⟩
 ·rw [Nat.mul_one, List.drop_take]
 ·rw [List.length_drop, List.length_take]; omega
end Go.Am.X

namespace Go.Am.X
theorem off_a (id a n : Nat) (ex : Option Nat) (ha : a < n) : offIn 0 a n ex 1 = a := by
 unfold offIn
 cases h : Nat.beq a 0 with
 | true => have := Nat.eq_of_beq_eq_true h; subst this; rfl
 | false =>
  have h2 : Nat.blt a n = true := by simp [Nat.blt]; omega
  simp [h2]
theorem within_n {b n : Nat} {ex : Option Nat} (h : b ≤ n) : within b n ex = true := within_iff.2 (.inl h)
theorem slc_ab {id n : Nat} {ex : Option Nat} {a b : Nat} (hab : a ≤ b) (hb : b ≤ n) (ha : a < n) : pSlSlice 1 true true false [.sl id 0 n n ex 1, .int .i64 (a : Int), .int .i64 (b : Int)] = some (.sl id a (b - a) (n - a) ex 1) := by
 have h1 : bounds3 true true false [V.int .i64 (a : Int), V.int .i64 (b : Int)] = some (some a, some b, none) := by simp only [bounds3, optN, natOf_mk]
 simp only [pSlSlice, Nat.beq_refl, cond_true, h1, slCut, Option.getD_some, within_n hb, Nat.ble_eq_true_of_le hab, Bool.and_self, Nat.ble_eq_true_of_le (Nat.le_of_lt ha), off_a id a n ex ha]
theorem slc_a {id n : Nat} {ex : Option Nat} {a : Nat} (ha : a < n) : pSlSlice 1 true false false [.sl id 0 n n ex 1, .int .i64 (a : Int)] = some (.sl id a (n - a) (n - a) ex 1) := by
 have h1 : bounds3 true false false [V.int .i64 (a : Int)] = some (some a, none, none) := by simp only [bounds3, optN, natOf_mk]
 simp only [pSlSlice, Nat.beq_refl, cond_true, h1, slCut, Option.getD_some, Option.getD_none, within_n (Nat.le_refl n), Nat.ble_eq_true_of_le (Nat.le_of_lt ha), Bool.and_self, off_a id a n ex ha]
theorem slc_b {id n : Nat} {ex : Option Nat} {b : Nat} (hb : b ≤ n) : pSlSlice 1 false true false [.sl id 0 n n ex 1, .int .i64 (b : Int)] = some (.sl id 0 b n ex 1) := by
 have h1 : bounds3 false true false [V.int .i64 (b : Int)] = some (none, some b, none) := by simp only [bounds3, optN, natOf_mk]
 have h0 : ∀ k, Nat.ble 0 k = true := fun k => Nat.ble_eq_true_of_le (Nat.zero_le _)
 simp only [pSlSlice, Nat.beq_refl, cond_true, h1, slCut, Option.getD_some, Option.getD_none, within_n hb, h0, Bool.and_self, offIn, Nat.sub_zero]
theorem lit_append {H : Heap} (hw : WF H) (x : V) {v : V} {n : Nat} {ys : List V} (hr : Rd (H.new [x] 1 false) 1 v n ys) (hs : Src (H.new [x] 1 false) v) (hn : n ≤ 1000) (τ : Tape) :
  ∃ id ex H' τ', eAppend 1 1 [.sl H.size 0 1 1 none 1, v] (H.new [x] 1 false) τ = some (.sl id 0 (n + 1) (n + 1) ex 1, H', τ') ∧ Bx H' id (x :: ys) ∧ H.size ≤ id ∧ Gr H.size H H' := by
 obtain ⟨e1, e2⟩ := hr.loads hs
 have hlen := hr.len
 have g1 := Gr.new hw [x] 1 false
 have b1 : Bx (H.new [x] 1 false) H.size [x] := Bx.new H [x] 1 false (by simp)
 have hstores : ∀ (H : Heap) id off, H.stores id off [] = some H := fun _ _ _ => rfl
 have eA : eAppend 1 1 [.sl H.size 0 1 1 none 1, v] (H.new [x] 1 false) τ = Am.append (H.new [x] 1 false) 1 1 (.sl H.size 0 1 1 none 1) n ys τ := by simp only [eAppend, e1, e2]
 rw [eA]
 cases n with
 | zero =>
  obtain rfl : ys = [] := List.eq_nil_of_length_eq_zero (by omega)
  refine ⟨H.size, none, _, τ, ?_, b1, Nat.le_refl _, g1⟩
  simp only [Am.append, Nat.beq_refl, cond_true, Nat.add_zero, Nat.ble_eq_true_of_le (Nat.le_refl 1), hstores]
 | succ n =>
  have l0 : (H.new [x] 1 false).loads H.size 0 (1 * 1) = some [x] := by
   simp only [Heap.loads, b1.cells]; rfl
  have e3 : Nat.ble (n + 1 + 1) 1 = false := by
   cases h : Nat.ble (n + 1 + 1) 1 with
   | false => rfl
   | true => have := Nat.le_of_ble_eq_true h; omega
  have h1 : Nat.ble ((n + 1 + 1) * 1) 140737488355328 = true := Nat.ble_eq_true_of_le (by omega)
  have h2 : Nat.ble (n + 1 + 1) 140737488355328 = true := Nat.ble_eq_true_of_le (by omega)
  have hc : 1 + (n + 1) = n + 1 + 1 := by omega
  refine ⟨(H.new [x] 1 false).size, some (spare (n + 1 + 1) (τ 0)), (H.new [x] 1 false).new ([x] ++ ys) ((n + 1 + 1 + spare (n + 1 + 1) (τ 0)) * 1) false, τ.tail, ?_, Bx.new _ _ _ _ (by simp; omega), g1.size, g1.trans (Gr.new g1.wf _ _ _) g1.size⟩
  simp only [Am.append, Nat.beq_refl, cond_true, cond_false, hc, e3, h1, h2, Bool.and_self, l0, fresh]
abbrev Prt21Ok (c : CallK) : Prop := ∀ {P : Nat → Prop} {H : Heap} {s m k : Nat} {es : List Blb}, Stor P H s m k es → WF H → (∀ e ∈ es, e.cs.length < 400) → inH H 0 tabs = true → 6 ≤ H.size →
  ∀ (u : Bs), u.length < 9223372036854775807 → ∀ (rg : Bs), rg.length ≤ 9223372036854775806 → ∀ {e : Blb} {ab : Nat × Nat}, readE es u rg true = some (e, some ab) → ∀ (τ : Tape),
  ∃ bv H' τ', Gr H.size H H' ∧ Rd H' 1 bv (readBs e (some ab)).length (readBs e (some ab)) ∧ Src H' bv ∧ ∀ q, c f_law21_part [.ptr s 0, .str u, .str rg] H τ q = q bv H' τ'
abbrev WithinOk (c : CallK) : Prop := ∀ (n : Int) {h : Nat}, h < 4611686018427387903 → ∀ (H : Heap) (τ : Tape), ∃ m : Nat, m ≤ h ∧ ∀ q, c f_book_Within [.int .i64 n, .int .i64 (.ofNat 0), .int .i64 (h : Int)] H τ q = q (.int .i64 (m : Int)) H τ
abbrev Dig21Ok (c : CallK) : Prop := ∀ (n : Nat), n < 100000000 → ∀ H τ q, c f_law21_digits [.int .i64 (n : Int)] H τ q = q (.str (dig n)) H τ
structure RgS (H0 : Heap) (s m : Nat) (e : Blb) (id : Nat) (H : Heap) : Prop where
 wf : WF H
 gr : Gr H0.size H0 H
 st : Stor (fun i => i < H0.size ∧ i ≠ s ∧ i ≠ m) H s m 1 [e]
 bx : Bx H id e.cs
theorem RgS.next {H0 : Heap} {s m : Nat} {e : Blb} {id : Nat} {H H' : Heap} (h : RgS H0 s m e id H) (g : Gr H.size H H') : RgS H0 s m e id H' :=
 ⟨g.wf, h.gr.trans g h.gr.size, stor_gr h.st h.wf g, h.bx.gr g (h.bx.lt h.wf)⟩
theorem RgS.str {H0 : Heap} {s m : Nat} {e : Blb} {id : Nat} {H : Heap} (h : RgS H0 s m e id H) {la : List Nat} (he : e.cs = ws .u8 la) (ex : Option Nat) (a b : Nat) (hab : a ≤ b) (hb : b ≤ la.length) :
  lBytesStr [.sl id a (b - a) (la.length - a) ex 1] H = some (.str (toB ((la.take b).drop a))) := by
 have hl : e.cs.length = la.length := by rw [he]; simp [ws]
 obtain ⟨h1, h2⟩ := sl_cut (ex := ex) h.bx.cells hl a b hab hb
 rw [he, ws_take_drop] at h1
 exact str_rd h1 h2
theorem part_str {c : CallK} (hP : Prt21Ok c) {H0 : Heap} (ht0 : inH H0 0 tabs = true) (hg0 : 6 ≤ H0.size) (hw0 : WF H0) {s m : Nat} {e : Blb} {id : Nat} {H : Heap} (h : RgS H0 s m e id H) {la : List Nat} (he : e.cs = ws .u8 la) (hla : la.length < 400) (hu : uCut e.url = e.url) (hul : e.url.length < 1000)
  (rg : Bs) (hrg : rg.length ≤ 1000) {a b : Nat} (hc : cutR la.length (rng rg) = some (a, b)) (τ : Tape) :
  ∃ bv H' τ', RgS H0 s m e id H' ∧ Gr H.size H H' ∧ (∀ H'', Gr H'.size H' H'' → lBytesStr [bv] H'' = some (.str (toB ((la.take b).drop a)))) ∧ ∀ q, c f_law21_part [.ptr s 0, .str e.url, .str rg] H τ q = q bv H' τ' := by
 have hl : e.cs.length = la.length := by rw [he]; simp [ws]
 have ht := inH_gr ht0 tabs_plain h.gr hw0 (Nat.le_refl _)
 obtain ⟨bv, H', τ', g, r1, r2, k⟩ := hP h.st h.wf (fun x hx => by rw [List.mem_singleton] at hx; subst hx; omega) ht (by have := h.gr.size; omega) e.url (by omega) rg (by omega) (readE_one e e.url rg hu (by rw [hl]; exact hc)) τ
 refine ⟨bv, H', τ', h.next g, g, fun H'' g' => ?_, k⟩
 have r1' : Rd H' 1 bv (readBs e (some (a, b))).length ((e.cs.take b).drop a) := r1
 rw [he, ws_take_drop] at r1'
 exact str_rd (r1'.gr g' g.wf (Nat.le_refl _)) (r2.gr g' g.wf (Nat.le_refl _))
theorem toB_app (a b : List Nat) : toB (a ++ b) = toB a ++ toB b := by simp [toB]
theorem toB_len (a : List Nat) : (toB a).length = a.length := by simp [toB]
theorem str_neq (x : Bs) : strBin .neq x x = some (.bool false) := by
 have : (x == x) = true := beq_self_eq_true x
 simp [strBin, eqB_eq]
theorem wants_tt : wantsV (.bool true) true = some true := rfl
theorem wants_ff : wantsV (.bool false) false = some true := rfl
theorem wants_ft : wantsV (.bool false) true = some false := rfl
theorem same_str (x : Bs) : same (.str x) (.str x) = true := by simp [same, same1, same0]
theorem s_law21_BlobRanges_ret (c c0 : CallK) {N : Nat} (hN : 9223372036854775808 < N) (hNew : ∀ H τ q, c f_blob_New [] H τ q = s_blob_New c0 N H τ q) (hOf : IsP c f_law21_of (RV OfPre OfG)) (hFew : ∀ v k H τ q, c f_keep_FewBytes [v, k] H τ q = s_keep_FewBytes c0 N v k H τ q) (hPut : PutOk c) (hP : Prt21Ok c) (hW : WithinOk c) (hD : Dig21Ok c)
  (hKn : ∀ H τ q, c f_law21_known [] H τ q = q (.bool true) H τ)
  (la : List Nat) (a b : Int) {v : V} {H : Heap} (hw : WF H) (hr : Rd H 1 v la.length (ws .u8 la)) (hs : Src H v) (hro : Roomy v) (ht : inH H 0 tabs = true) (hg : 6 ≤ H.size) (τ : Tape) :
  ∃ H' τ', Gr H.size H H' ∧ ∀ q, s_law21_BlobRanges c N v (.int .i64 a) (.int .i64 b) H τ q = q (.bool true) H' τ' := by
 obtain ⟨H1, st1, g1, z1, k1⟩ := s_blob_New_ret c0 N hw τ
 have kO : ∀ H τ q, c f_law21_of [.str a1] H τ q = q (org a1) H τ := fun H τ q => RV_call hOf (vs := [.str a1]) (.inl rfl) H τ q
 obtain ⟨v', w1, w2, w3, w4⟩ := fewB_ret c0 N v la.length 300 (ws .u8 la) (by omega) (by omega) H hro hr
 have hmin : (ws .u8 la).take 300 = ws .u8 (la.take 300) := ws_take la 300
 have hlen : min la.length 300 = (la.take 300).length := by rw [List.length_take, Nat.min_comm]
 rw [hmin, hlen] at w3
 generalize hlb : la.take 300 = lb at w3
 have hl300 : lb.length ≤ 300 := by rw [← hlb, List.length_take]; omega
 have st0 : Stor (fun _ => False) H1 (H.size + 1) H.size 0 [] := ⟨st1.var, st1.map, fun e he => by simp at he, id, id⟩
 have e4 : eBuildSlice 1 1 [.int .u8 (.ofNat 0)] [(0, 1)] [.int .u8 (.ofNat 1)] H1 τ = some (.sl H1.size 0 1 1 none 1, H1.new [.int .u8 (.ofNat 1)] 1 false, τ) := rfl
 have g5 : Gr H.size H (H1.new [.int .u8 (.ofNat 1)] 1 false) := g1.trans (Gr.new g1.wf _ _ _) g1.size
 obtain ⟨id, ex, H2, τ2, e5, b2, hid, g2⟩ := lit_append g1.wf (.int .u8 (.ofNat 1)) (w3 _ (hr.gr g5 hw (Nat.le_refl _))) (w2 _ (hs.gr g5 hw (Nat.le_refl _))) (by omega) τ
 have hws : ((.int .u8 (.ofNat 1) : V) :: ws .u8 lb) = ws .u8 (1 :: lb) := rfl
 rw [hws] at b2
 have hn1 : (1 :: lb).length = lb.length + 1 := rfl
 have hB : ∀ H', Bx H' id (ws .u8 (1 :: lb)) → Rd H' 1 (.sl id 0 (lb.length + 1) (lb.length + 1) ex 1) (1 :: lb).length (ws .u8 (1 :: lb)) ∧ Src H' (.sl id 0 (lb.length + 1) (lb.length + 1) ex 1) := fun H' hb =>
  ⟨.inr ⟨id, 0, _, ex, _, rfl, hb.cells, by rw [List.drop_zero, List.take_of_length_le (by simp [ws])], by simp [ws]⟩, ⟨_, hb.cells⟩⟩
 have hnm : H.size + 1 ≠ id ∧ H.size ≠ id := by omega
 have st2 := stor_gr st0 g1.wf g2
 obtain ⟨bv, H3, τ3, p1, p2, p3⟩ := hPut st2 g2.wf (fun _ h => h.elim) (o := a1) (.inl rfl) [] (by decide) (hB H2 b2).1 (fun H' hg' => hB H' (b2.chg g2.wf hg' (by omega))) (by rw [hn1]; omega) (by omega) (by
   have : valO [] = true := by decide
   unfold putErr; rw [this]; simp; omega) τ2
 have g3 : Gr H.size H H3 := (g1.trans g2 g1.size).trans (p2.gr (B := H.size) (by have := g2.size; omega) (fun i hi e => by omega)) (Nat.le_refl _)
 have b3 : Bx H3 id (ws .u8 (1 :: lb)) := b2.chg g2.wf p2 (by omega)
 have z2 := g2.size
 have z3 := p2.size
 have R0 : RgS H3 (H.size + 1) H.size ⟨putU a1 1, valT [], bv, ws .u8 (1 :: lb)⟩ id H3 :=
  ⟨p2.wf, Gr.refl p2.wf, stor_weaken p1 p2.wf (fun i hi h => by rcases h with h | h; exact h.elim; omega) (by simp) (by simp), b3⟩
 have ht3 := inH_gr ht tabs_plain g3 hw (Nat.le_refl _)
 have hg3 : 6 ≤ H3.size := by have := g3.size; omega
 generalize hLb : (1 :: lb) = Lb at *
 have hLn : Lb.length = lb.length + 1 := by rw [← hLb]; rfl
 have hL400 : Lb.length < 400 := by omega
 have hu1 : uCut (putU a1 1) = putU a1 1 := by decide
 have hu2 : (putU a1 1).length < 1000 := by decide
 obtain ⟨i, hi, ki⟩ := hW a (h := Lb.length - 1) (by omega) H3 τ3
 obtain ⟨j, hj, kj⟩ := hW b (h := Lb.length - 1 - i) (by omega) H3 τ3
 have hdl : ∀ n, (dig n).length ≤ 8 := fun n => (dig_ok n).2.2
 have hrl : ∀ A B : Bs, A.length ≤ 8 → B.length ≤ 8 → (rgT A B).length ≤ 1000 := fun A B h1 h2 => by simp [rgT, bytesEq]; omega
 obtain ⟨x1, Ha, τa, Ra, ga, sa, ka⟩ := part_str hP ht3 hg3 p2.wf R0 rfl hL400 hu1 hu2 (rgT (dig i) (dig (i + j))) (hrl _ _ (hdl _) (hdl _)) (a := i) (b := i + j + 1) (by rw [rng_ab _ _ (by omega) (by omega), cutR_ab (by omega) (by omega)]; congr 2; omega) τ3
 obtain ⟨x2, Hb, τb, Rb, gb, sb, kb⟩ := part_str hP ht3 hg3 p2.wf Ra rfl hL400 hu1 hu2 (rgT (dig i) []) (hrl _ _ (hdl _) (by simp)) (a := i) (b := Lb.length) (by rw [rng_a _ (by omega), cutR_a (by omega)]) τa
 obtain ⟨x3, Hc, τc, Rc, gc, sc, kc⟩ := part_str hP ht3 hg3 p2.wf Rb rfl hL400 hu1 hu2 (rgT [] (dig (Lb.length - i))) (hrl _ _ (by simp) (hdl _)) (a := i) (b := Lb.length) (by rw [rng_b _ (by omega), cutR_b (by omega) (by omega)]; congr 2; omega) τb
 obtain ⟨x4, Hd, τd, Rd', gd, sd, kd⟩ := part_str hP ht3 hg3 p2.wf Rc rfl hL400 hu1 hu2 (rgT (dig 0) (dig (Lb.length + 5))) (hrl _ _ (hdl _) (hdl _)) (a := 0) (b := Lb.length) (by rw [rng_ab _ _ (by omega) (by omega), cutR_ab (by omega) (by omega)]; congr 2; omega) τc
 obtain ⟨x5, He, τe, Re, ge, se, ke⟩ : ∃ bv' H' τ', RgS H3 (H.size + 1) H.size ⟨putU a1 1, valT [], bv, ws .u8 Lb⟩ id H' ∧ Gr Hd.size Hd H' ∧ (0 < i → ∀ H'', Gr H'.size H' H'' → lBytesStr [bv'] H'' = some (.str (toB (Lb.take i)))) ∧ (0 < i → ∀ q, c f_law21_part [.ptr (H.size + 1) 0, .str (putU a1 1), .str (rgT (dig 0) (dig (i - 1)))] Hd τd q = q bv' H' τ') := by
  by_cases h0 : 0 < i
  ·obtain ⟨x5, He, τe, Re, ge, se, ke⟩ := part_str hP ht3 hg3 p2.wf Rd' rfl hL400 hu1 hu2 (rgT (dig 0) (dig (i - 1))) (hrl _ _ (hdl _) (hdl _)) (a := 0) (b := i) (by rw [rng_ab _ _ (by omega) (by omega), cutR_ab (by omega) (by omega)]; congr 2; omega) τd
   exact ⟨x5, He, τe, Re, ge, fun _ => by simpa using se, fun _ => ke⟩
  ·exact ⟨.nils, Hd, τd, Rd', Gr.refl Rd'.wf, fun h => absurd h h0, fun h => absurd h h0⟩
 have gE : Gr H.size H (if 0 < i then He else Hd) := by
  have g4 : Gr H.size H Hd := g3.trans Rd'.gr g3.size
  split
  ·exact g3.trans Re.gr g3.size
  ·exact g4
 refine ⟨_, if 0 < i then τe else τd, gE, fun q => ?_⟩
 have ep : lPeq false [.ptr (H.size + 1) 0, .nilp] H1 = some (.bool false) := rfl
 have ex0 : pExtract 0 [.tup [.str (putU a1 1), .int .i64 (Int.ofNat 0)]] = some (.str (putU a1 1)) := rfl
 have ex1 : pExtract 1 [.tup [.str (putU a1 1), .int .i64 (Int.ofNat 0)]] = some (.int .i64 (Int.ofNat 0)) := rfl
 have w4' : ∀ H τ q, s_keep_FewBytes c0 N v (.int .i64 (Int.ofNat 300)) H τ q = q v' H τ := w4
 rw [← hLn] at e5 p3
 have e22 : pLen [.sl id 0 Lb.length Lb.length ex 1] = some (.int .i64 (Lb.length : Int)) := rfl
 have en0 : (Int.ofNat 0 != Int.ofNat 0) = false := rfl
 have e23 : wr .i64 ((Lb.length : Int) - Int.ofNat 1) = ((Lb.length - 1 : Nat) : Int) := by
  rw [wr_id (by simp <;> omega) (by simp <;> omega)]; simp; omega
 have e28 : wr .i64 (((Lb.length - 1 : Nat) : Int) - (i : Int)) = ((Lb.length - 1 - i : Nat) : Int) := by
  rw [wr_id (by omega) (by omega)]; omega
 have e32 : wr .i64 ((i : Int) + (j : Int)) = ((i + j : Nat) : Int) := by
  rw [wr_id (by omega) (by omega)]; omega
 have e46 : wr .i64 (((i + j : Nat) : Int) + Int.ofNat 1) = ((i + j + 1 : Nat) : Int) := adI (by omega)
 have e102 : wr .i64 ((Lb.length : Int) - (i : Int)) = ((Lb.length - i : Nat) : Int) := by
  rw [wr_id (by omega) (by omega)]; omega
 have e142 : wr .i64 ((Lb.length : Int) + Int.ofNat 5) = ((Lb.length + 5 : Nat) : Int) := by
  rw [wr_id (by simp <;> omega) (by simp <;> omega)]; simp
 have kd1 := fun H τ q => hD i (by omega) H τ q
 have kd2 := fun H τ q => hD (i + j) (by omega) H τ q
 have kd3 := fun H τ q => hD (Lb.length - i) (by omega) H τ q
 have kd4 := fun H τ q => hD (Lb.length + 5) (by omega) H τ q
 have s1 : strBin .add (bs [98, 121, 116, 101, 115, 61]) (dig i) = some (.str (bytesEq ++ dig i)) := str_add (by have := hdl i; simp [bs]; omega)
 have s2 : strBin .add (bytesEq ++ dig i) (bs [45]) = some (.str (rgT (dig i) [])) := by
  rw [str_add (by have := hdl i; simp [bs, bytesEq]; omega)]; simp [rgT, bs]
 have s3 : strBin .add (rgT (dig i) []) (dig (i + j)) = some (.str (rgT (dig i) (dig (i + j)))) := by
  rw [str_add (by have := hdl i; have := hdl (i + j); simp [bs, bytesEq, rgT]; omega)]; simp [rgT]
 have s4 : strBin .add (bs [98, 121, 116, 101, 115, 61, 45]) (dig (Lb.length - i)) = some (.str (rgT [] (dig (Lb.length - i)))) := str_add (by have := hdl (Lb.length - i); simp [bs]; omega)
 have s5 : strBin .add (bs [98, 121, 116, 101, 115, 61, 48, 45]) (dig (Lb.length + 5)) = some (.str (rgT (dig 0) (dig (Lb.length + 5)))) := str_add (by have := hdl (Lb.length + 5); simp [bs]; omega)
 have ka' : ∀ q, c f_law21_part [.ptr (H.size + 1) 0, .str (putU a1 1), .str (rgT (dig i) (dig (i + j)))] H3 τ3 q = q x1 Ha τa := ka
 have kb' : ∀ q, c f_law21_part [.ptr (H.size + 1) 0, .str (putU a1 1), .str (rgT (dig i) [])] Ha τa q = q x2 Hb τb := kb
 have kc' : ∀ q, c f_law21_part [.ptr (H.size + 1) 0, .str (putU a1 1), .str (rgT [] (dig (Lb.length - i)))] Hb τb q = q x3 Hc τc := kc
 have kd' : ∀ q, c f_law21_part [.ptr (H.size + 1) 0, .str (putU a1 1), .str (rgT (dig 0) (dig (Lb.length + 5)))] Hc τc q = q x4 Hd τd := kd
 have t1 := sa Ha (Gr.refl Ra.wf)
 have t2 := sb Hb (Gr.refl Rb.wf)
 have t3 := sc Hc (Gr.refl Rc.wf)
 have t4 := sd Hd (Gr.refl Rd'.wf)
 have c1 : pSlSlice 1 true true false [.sl id 0 Lb.length Lb.length ex 1, .int .i64 (i : Int), .int .i64 ((i + j + 1 : Nat) : Int)] = _ := slc_ab (by omega) (by omega) (by omega)
 have c2 : pSlSlice 1 true false false [.sl id 0 Lb.length Lb.length ex 1, .int .i64 (i : Int)] = _ := slc_a (by omega)
 have u1 := Ra.str rfl ex i (i + j + 1) (by omega) (by omega)
 have u2a := Ra.str rfl ex i Lb.length (by omega) (Nat.le_refl _)
 have u2b := Rb.str rfl ex i Lb.length (by omega) (Nat.le_refl _)
 have u2c := Rc.str rfl ex i Lb.length (by omega) (Nat.le_refl _)
 have u4c := Rc.str rfl ex 0 Lb.length (by omega) (Nat.le_refl _)
 have u4d := Rd'.str rfl ex 0 Lb.length (by omega) (Nat.le_refl _)
 rw [Nat.sub_zero] at u4c u4d
 have hch : chkLoads [Ha, Ha, Hb, Hb, Hc, Hc, Hd] ((.bytesStr, [.sl id 0 Lb.length Lb.length ex 1], 4, 6) :: (.bytesStr, [.sl id i (Lb.length - i) (Lb.length - i) ex 1], 2, 4) :: (.bytesStr, [.sl id i (Lb.length - i) (Lb.length - i) ex 1], 0, 2) :: []) = true := by
  simp [chkLoads, evalL, u2a, u2b, u2c, u4c, u4d, chk1, same_str]
 simp only [s_law21_BlobRanges, hNew, k1, ep, someK_n, condK_fn, e4, effK_n, hFew, w4', e5, show bs [104, 116, 116, 112, 115, 58, 47, 47, 97] = a1 from rfl, kO, p3, ex0, ex1, bin_neq, en0, e22, bin_sub, e23, ki, e28, kj, bin_add, e32, kd1, bin_str, s1, s2, kd2, s3, ka', t1, e46, c1, u1, str_neq, gK_do', retK, kb', t2, c2, u2b, pick_mk, cond_false, e102, kd3, s4, kc', t3, u2c, e142, kd4, s5, kd', t4, u4d, wants_ff, hch, cond_true, bin_gtr]
 by_cases h0 : 0 < i
 ·have e167 : decide (Int.ofNat 0 < (i : Int)) = true := decide_eq_true (by simp; omega)
  have e177 : wr .i64 ((i : Int) - Int.ofNat 1) = ((i - 1 : Nat) : Int) := by
   rw [wr_id (by simp <;> omega) (by simp <;> omega)]; simp; omega
  have kd5 := fun H τ q => hD (i - 1) (by omega) H τ q
  have s6 : strBin .add (bs [98, 121, 116, 101, 115, 61, 48, 45]) (dig (i - 1)) = some (.str (rgT (dig 0) (dig (i - 1)))) := str_add (by have := hdl (i - 1); simp [bs]; omega)
  have ke' := ke h0
  have t5 := se h0 He (Gr.refl Re.wf)
  have gad : Gr Ha.size Ha Hd := (gb.trans gc gb.size).trans gd (Nat.le_trans gb.size gc.size)
  have t1d := sa Hd gad
  have t1e := sa He (gad.trans ge gad.size)
  have c3 : pSlSlice 1 false true false [.sl id 0 Lb.length Lb.length ex 1, .int .i64 ((i + j + 1 : Nat) : Int)] = _ := slc_b (by omega)
  have u5d := Rd'.str rfl ex 0 (i + j + 1) (by omega) (by omega)
  have u5e := Re.str rfl ex 0 (i + j + 1) (by omega) (by omega)
  rw [Nat.sub_zero, Nat.sub_zero] at u5d u5e
  have s7 : strBin .add (toB (Lb.take i)) (toB ((Lb.take (i + j + 1)).drop i)) = some (.str (toB ((Lb.take (i + j + 1)).drop 0))) := by
   rw [str_add (by rw [toB_len, toB_len, List.length_take, List.length_drop, List.length_take]; omega), ← toB_app]
   have : Lb.take i = (Lb.take (i + j + 1)).take i := by rw [List.take_take]; congr 1; omega
   rw [this, List.take_append_drop, List.drop_zero]
  have hc2 : chkLoads [Hd, Hd, He] ((.bytesStr, [.sl id 0 (i + j + 1) Lb.length ex 1], 0, 2) :: (.bytesStr, [x1], 0, 2) :: []) = true := by
   simp [chkLoads, evalL, u5d, u5e, t1d, t1e, chk1, same_str]
  simp only [if_pos h0, e167, gK_do, gK_do', effK_n, bin_neq, retK, bin_sub, e177, kd5, bin_str, s6, ke', someK_n, t5, t1e, s7, bin_add, e46, c3, u5e, str_neq, pick_mk, cond_true, wants_tt, hc2, condK_fn, hKn]
 ·have e167 : decide (Int.ofNat 0 < (i : Int)) = false := decide_eq_false (by simp; omega)
  simp only [if_neg h0, e167, gK_skip, gK_skip', pick_mk, cond_false, wants_ft, condK_fn, hKn, someK_n]
  simp only [chkLoads, cond_true, condK_fn, hKn]
end Go.Am.X

namespace Go.Am.X
def BlobRangesR (vs : List V) (H : Heap) (o : Out) : Prop := (∃ (v : V) (la : List Nat) (a b : Int), vs = [v, .int .i64 a, .int .i64 b] ∧ Rd H 1 v la.length (ws .u8 la) ∧ Src H v ∧ Roomy v ∧ inH H 0 tabs = true ∧ 6 ≤ H.size) ∧ o = .val (.bool true)
noncomputable abbrev rw_BlobRanges : List Row := [Row.fn f_law21_BlobRanges fn_law21_BlobRanges e_law21_BlobRanges, Row.fn f_blob_New fn_blob_New e_blob_New, Row.prim f_law21_of (outP (RV OfPre OfG)), Row.fn f_keep_FewBytes fn_keep_FewBytes e_keep_FewBytes,
 Row.fn f_blob_Store_Put fn_blob_Store_Put e_blob_Store_Put, Row.fn f_blob_Store_Read fn_blob_Store_Read e_blob_Store_Read, Row.fn f_blob_reply fn_blob_reply e_blob_reply, Row.fn f_blob_number fn_blob_number e_blob_number, Row.fn f_slices_Clone_byte fn_slices_Clone_byte e_slices_Clone_byte,
 Row.prim f_strconv_FormatInt (outP (RG tabs FmtPre FmtG)), Row.prim f_strconv_Itoa (outP (RV ItoPre ItoG)), Row.prim f_origin_Text (outP (RV TxtPre TxtG)), Row.prim f_headers_Value (outP ValueR), Row.prim f_headers_Range (outP RngR), Row.prim f_strings_Cut (outP CutR),
 Row.fn f_book_Within fn_book_Within e_book_Within, Row.fn f_law21_digits fn_law21_digits e_law21_digits, Row.fn f_law21_part fn_law21_part e_law21_part, Row.prim f_law21_known closedP]
theorem closedP_callB {c : CallK} {f : Nat} (h : ∀ vs H τ q, c f vs H τ q = effK (closedP vs H τ) q) : ∀ H τ q, c f [] H τ q = q (.bool true) H τ := fun H τ q => by rw [h]; rfl
theorem someN3 : ∃ N : Nat, 9223372036854775808 < N := ⟨9223372036854775809, by decide⟩
theorem blobRanges_ok : ∀ base w0, PrimOk PG base w0 f_law21_BlobRanges (outP BlobRangesR) := by
 obtain ⟨N, hN⟩ := someN3
 refine primOk_out mixed_ok (l := rw_BlobRanges) (.fn ok_law21_BlobRanges e_law21_BlobRanges_ok (.fn ok_blob_New e_blob_New_ok (.prim p_law21_of (.fn ok_keep_FewBytes e_keep_FewBytes_ok (.fn ok_blob_Store_Put e_blob_Store_Put_ok (.fn ok_blob_Store_Read e_blob_Store_Read_ok (.fn ok_blob_reply e_blob_reply_ok (.fn ok_blob_number e_blob_number_ok (.fn ok_slices_Clone_byte e_slices_Clone_byte_ok (.prim p_fmt (.prim p_itoa (.prim p_origin_Text (.prim p_headers_Value (.prim p_headers_Range (.prim p_strings_Cut (.fn ok_book_Within e_book_Within_ok (.fn ok_law21_digits e_law21_digits_ok (.fn ok_law21_part e_law21_part_ok (.prim closed_law21_known_ok (.nil _)))))))))))))))))))) N 9 _ ?_
 rintro vs H o hw hvs ⟨⟨v, la, a, b, rfl, hr, hs, hro, ht, hg⟩, rfl⟩ τ
 have clone : ∀ d, CloneOk (CR rw_BlobRanges N (d + 1)) := fun d _ _ _ _ h1 h2 h3 h4 τ => s_slices_Clone_byte_ret (CR rw_BlobRanges N d) N h1 h2 h3 h4 τ
 have numb : ∀ d, NumOk (CR rw_BlobRanges N (d + 2)) := fun d n hn H ht τ q => s_blob_number_ret (CR rw_BlobRanges N (d + 1)) N (fun _ _ _ _ => rfl) n hn H ht τ q
 have reply : ∀ d, ReplyOk (CR rw_BlobRanges N (d + 3)) := fun d st kind _ _ _ _ _ _ h1 h2 h3 h4 h5 h6 h7 h8 h9 τ => s_blob_reply_ret (CR rw_BlobRanges N (d + 2)) N (numb d) (clone (d + 1)) st kind h1 h2 h3 h4 h5 h6 h7 h8 h9 τ
 have read : ReadOk (CR rw_BlobRanges N 7) := fun h1 h2 h3 h4 h5 u hu rg hrg has τ => s_blob_Store_Read_ret (CR rw_BlobRanges N 6) N (k_strings_Cut fun _ _ _ _ => rfl) (k_Range fun _ _ _ _ => rfl) (numb 4) (reply 3) h1 h2 h3 h4 h5 u hu rg hrg has τ
 have part : Prt21Ok (CR rw_BlobRanges N 8) := fun h1 h2 h3 h4 h5 u hu rg hrg _ _ hr τ => s_law21_part_ret (CR rw_BlobRanges N 7) N read h1 h2 h3 h4 h5 u hu rg hrg hr τ
 have put : PutOk (CR rw_BlobRanges N 8) := fun h1 h2 h3 _ h4 kind h5 _ _ _ h6 h7 h8 h9 h10 τ => s_blob_Store_Put_ok (CR rw_BlobRanges N 7) N (fun _ _ _ _ => rfl) (fun _ _ _ _ => rfl) (fun _ _ _ _ => rfl) (clone 6) h1 h2 h3 h4 kind h5 h6 h7 h8 h9 h10 τ
 obtain ⟨H', τ', g, k⟩ := s_law21_BlobRanges_ret (CR rw_BlobRanges N 8) (CR rw_BlobRanges N 7) hN (fun _ _ _ => rfl) (fun _ _ _ _ => rfl) (fun _ _ _ _ _ => rfl) put part (fun n _ hh H τ => s_book_Within_gen (CR rw_BlobRanges N 7) N n hh H τ) (fun n hn H τ q => s_law21_digits_ret (CR rw_BlobRanges N 7) N (by omega) n hn H τ q)
  (closedP_callB fun _ _ _ _ => rfl) la a b hw hr hs hro ht hg τ
 exact ⟨_, H', τ', k retK, g, rfl, trivial⟩
theorem blobRanges_fun : Fun1 BlobRangesR := fun vs H o o' k k' => k.2.trans k'.2.symm
theorem blobRanges_in {v : V} {H : Heap} {la : List Nat} (hr : Rd H 1 v la.length (ws .u8 la) ∧ Src H v) (hro : Roomy v) (a b : Int) (ht : inH H 0 tabs = true) (hg : 6 ≤ H.size) (τ : Tape) : outP BlobRangesR [v, .int .i64 a, .int .i64 b] H τ = some (.bool true, H, τ) :=
 outP_mk blobRanges_fun ⟨⟨v, la, a, b, rfl, hr.1, hr.2, hro, ht, hg⟩, rfl⟩ τ
theorem tabs_start {l : List (Option (List V))} (h : l[1]? = some (some pow10V)) : inH (start l) 0 tabs = true :=
 inH_mk tabs 0 tabs_plain fun j cs hj => by
  obtain ⟨rfl, rfl⟩ := tabs_at hj
  rw [Nat.zero_add]; exact start_cells h
end Go.Am.X

