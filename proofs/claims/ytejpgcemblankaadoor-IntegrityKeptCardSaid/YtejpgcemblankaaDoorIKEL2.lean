/- The abstract machine, printed functions of the program, and what they are shown to be. -/
import Derived.Test.YtejpgcemblankaaDoorIKEL1
import Derived.Test.YtejpgcemblankaaDoorIKEM4
set_option linter.unusedSimpArgs false
set_option linter.unusedVariables false
set_option linter.unusedSectionVars false
set_option maxRecDepth 100000
namespace Go.Am.X
def SameAt_integrity_Item (c : CallK) (its : List ItZ) : Prop := ∀ it ∈ its, ∀ (a b : V) (H : Heap), Rd H 3 a it.n it.cs → Src H a → Rd H 3 b it.n it.cs → Src H b → ∀ τ q, c f_book_Same_integrity_Item [a, b] H τ q = q (.bool true) H τ
theorem OwnP.srcT_integrity_Item {P : Nat → Prop} {H : Heap} {z : Nat} {v : V} {n : Nat} {cs : List V} (h : OwnP P H z v n cs) : Src H v := h.own0.src
theorem l_book_Book_integrity_Item_Keep (c : CallK) (N : Nat) (lab : Nat → Nat) (K : Nat) : ∀ (its : List ItZ) (H : Heap) (τ : Tape) (m : Nat), its ≠ [] → SameAt_integrity_Item c its → its.length < m → its.length < 1000000000 → WF H → BookZ 3 lab H K its →
  ∃ its' H', its' ≠ [] ∧ ((∀ it ∈ its', it ∈ its) ∧ its'.length ≤ its.length) ∧ BookZ 3 lab H' K its' ∧ Only K H H' ∧ ∀ (fr : T V) k, fr.get 0 = some (.ptr K 0) →
   loopK (s_book_Book_integrity_Item_Keep_l0 c N) m ⟨fr, H⟩ τ k = k (.exit 0) ⟨.leaf, H'⟩ τ := by
 intro its
 induction its with
 | nil => intro H τ m h; exact absurd rfl h
 | cons it r ih =>
  intro H τ m _ hSm hm hlen hw hb
  obtain ⟨m, rfl⟩ : ∃ j, m = j + 1 := ⟨m - 1, by omega⟩
  have hb0 := hb
  obtain ⟨L, W, held, h1, h2, h3, h4, h5, h6⟩ := hb
  have nk : ∀ (i o : Nat), pNilck [.ptr i o] = some (.ptr i o) := fun _ _ => rfl
  have fa : ∀ (i o : Nat), pFieldAddr o [.ptr i 0] = some (.ptr i o) := fun _ _ => by simp [pFieldAddr]
  have ld0 : lLoad1 [.ptr K 0] H = some L := load_cell h1.cells rfl
  have ld1 : lLoad1 [.ptr K 1] H = some W := load_cell h1.cells rfl
  have ld2 : lLoad1 [.ptr K 2] H = some (.int .i64 held) := load_cell h1.cells rfl
  have ld3 : lLoad1 [.ptr K 3] H = some (.bool false) := load_cell h1.cells rfl
  have pl : pLen [L] = some (.int .i64 ((it :: r).length : Int)) := by have := h3.rd.pLen; rwa [List.length_map] at this
  have refl : Only K H H := ⟨hw, rfl, fun _ _ => rfl, fun _ _ => rfl⟩
  by_cases h0 : r = []
  ·subst h0
   have e1 : decide (1 < ([it] : List ItZ).length) = false := rfl
   refine ⟨[it], H, by simp, ⟨fun x h => h, Nat.le_refl _⟩, hb0, refl, fun fr k f0 => ?_⟩
   rw [loopK_succ]
   simp only [s_book_Book_integrity_Item_Keep_l0, getK_mk f0, nk, fa, ld0, pl, getK_set, ↓reduceIte, Nat.reduceEqDiff, someK_n, effK_n, retK, gK_do, gK_do', gK_skip, gK_skip', gK_none, pick_mk, cond_true, cond_false, condK_tn, condK_fn, bin_eql, bin_neq, bin_lss, bin_leq, bin_gtr, bin_geq, un_not, Bool.not_true, Bool.not_false, bin_str, lenS_mk, nle_l, nle_r, nle_n, nlt_l, nlt_r, nlt_n, neq_r, neq_n, nne_r, nne_n, ext0, ext1, ext30, ext31, ext32, bin_add, bin_sub, decide_true, decide_false, e1]
   rfl
  ·have hpos := List.length_pos_iff.2 h0
   have e1 : decide (1 < (it :: r).length) = true := decide_eq_true (by simp; omega)
   have z1 : decide (Int.ofNat 1000000 < held) = decide (1000000 < held) := rfl
   cases hd : (decide (1000000 < held) || decide (4000 < (it :: r).length)) with
   | false =>
    have d1 : decide (1000000 < held) = false := by cases h : decide (1000000 < held) with
     | false => rfl
     | true => rw [h] at hd; cases hd
    have d2 : decide (4000 < (it :: r).length) = false := by rw [d1] at hd; exact hd
    refine ⟨it :: r, H, by simp, ⟨fun x h => h, Nat.le_refl _⟩, hb0, refl, fun fr k f0 => ?_⟩
    rw [loopK_succ]
    simp only [s_book_Book_integrity_Item_Keep_l0, getK_mk f0, nk, fa, ld0, ld2, pl, getK_set, ↓reduceIte, Nat.reduceEqDiff, someK_n, effK_n, retK, gK_do, gK_do', gK_skip, gK_skip', gK_none, pick_mk, cond_true, cond_false, condK_tn, condK_fn, bin_eql, bin_neq, bin_lss, bin_leq, bin_gtr, bin_geq, un_not, Bool.not_true, Bool.not_false, bin_str, lenS_mk, nle_l, nle_r, nle_n, nlt_l, nlt_r, nlt_n, neq_r, neq_n, nne_r, nne_n, ext0, ext1, ext30, ext31, ext32, bin_add, bin_sub, decide_true, decide_false, e1, z1, d1, d2]
    rfl
   | true =>
    obtain ⟨o1, o2, o3, o4, o5⟩ := h6 it (by simp)
    obtain ⟨a1, a2⟩ := o1.rd o2 o3
    have ks := fun τ q => hSm it (by simp) it.v it.w H a1 a2 o5.rd (OwnP.srcT_integrity_Item o5) τ q
    obtain ⟨p, p1, p2⟩ := h3.rd.elem1 (i := 0) (x := it.v) rfl
    obtain ⟨p', p3, p4⟩ := h4.rd.elem1 (i := 0) (x := it.w) rfl
    have p1 : pSlIdx 1 [L, .int .i64 (.ofNat 0)] = some p := p1
    have p3 : pSlIdx 1 [W, .int .i64 (.ofNat 0)] = some p' := p3
    have rv : r.map ItZ.v ≠ [] := by simpa using h0
    have rw' : r.map ItZ.w ≠ [] := by simpa using h0
    rw [List.map_cons] at h3 h4
    obtain ⟨L', t1, t2⟩ := h3.tail rv
    obtain ⟨W', t3, t4⟩ := h4.tail rw'
    have sL := (t2 H _ h3).scal
    have sW := (t4 H _ h4).scal
    obtain ⟨H1, s1, b1, g1⟩ := h1.eStore hw 3 (.bool false) 1 rfl (by simp) (by omega) rfl τ
    have b1 : Bx H1 K [L, W, .int .i64 held, .bool false] := b1
    obtain ⟨H2, s2, b2, g2⟩ := b1.eStore g1.wf 2 (.int .i64 (wr .i64 (wr .i64 (held - (it.cap : Int)) - Int.ofNat 1))) 1 rfl (by simp) (by omega) rfl τ
    have b2 : Bx H2 K [L, W, .int .i64 (wr .i64 (wr .i64 (held - (it.cap : Int)) - Int.ofNat 1)), .bool false] := b2
    obtain ⟨H3, s3, b3, g3⟩ := b2.eStore g2.wf 0 L' 1 (by rw [sL.1]; rfl) (by simp) (by omega) (by rw [sL.1]; simp [sL.2]) τ
    rw [sL.1] at b3
    have b3 : Bx H3 K [L', W, .int .i64 (wr .i64 (wr .i64 (held - (it.cap : Int)) - Int.ofNat 1)), .bool false] := b3
    obtain ⟨H4, s4, b4, g4⟩ := b3.eStore g3.wf 1 W' 1 (by rw [sW.1]; rfl) (by simp) (by omega) (by rw [sW.1]; simp [sW.2]) τ
    rw [sW.1] at b4
    have b4 : Bx H4 K [L', W', .int .i64 (wr .i64 (wr .i64 (held - (it.cap : Int)) - Int.ofNat 1)), .bool false] := b4
    have l2 : lLoad1 [.ptr K 2] H1 = some (.int .i64 held) := load_cell b1.cells rfl
    have l0 : lLoad1 [.ptr K 0] H1 = some L := load_cell b1.cells rfl
    have l02 : lLoad1 [.ptr K 0] H2 = some L := load_cell b2.cells rfl
    have l13 : lLoad1 [.ptr K 1] H3 = some W := load_cell b3.cells rfl
    have only : Only K H H4 := by
     refine ⟨g4.wf, by rw [g4.size, g3.size, g2.size, g1.size], fun i hi => ?_, fun i hi => ?_⟩
     ·rw [g4.blk i hi, g3.blk i hi, g2.blk i hi, g1.blk i hi]
     ·rw [g4.fams i hi, g3.fams i hi, g2.fams i hi, g1.fams i hi]
    have chg : Chg (fun i => i = K) H H4 := only.chg rfl
    have h31 := h3.chg hw (g1.chg (P := fun i => i = K) rfl) fun i _ (e : lab i = 2) q => by subst q; omega
    obtain ⟨pp, u1, u2⟩ := h31.rd.elem1 (i := 0) (x := it.v) rfl
    have u1 : pSlIdx 1 [L, .int .i64 (.ofNat 0)] = some pp := u1
    obtain rfl : pp = p := Option.some.inj (u1.symm.trans p1)
    have hb4 : BookZ 3 lab H4 K r := by
     refine ⟨L', W', _, b4, h2, t2 H4 _ (h3.chg hw chg fun i _ (e : lab i = 2) q => by subst q; omega), t4 H4 _ (h4.chg hw chg fun i _ (e : lab i = 3) q => by subst q; omega), (List.nodup_cons.1 (by simpa using h5)).2, fun x hx => (h6 x (by simp [hx])).chg hw chg (fun i _ q => ?_) fun _ _ => rfl⟩
     subst q; omega
    obtain ⟨its', H', i1, i2, i3, i4, i5⟩ := ih H4 τ m h0 (fun x hx => hSm x (by simp [hx])) (by simp at hm; omega) (by simp at hlen; omega) g4.wf hb4
    refine ⟨its', H', i1, ⟨fun x hx => by simp [i2.1 x hx], by have := i2.2; simp; omega⟩, i3, ⟨i4.wf, by rw [i4.size, only.size], fun i hi => by rw [i4.blk i hi, only.blk i hi], fun i hi => by rw [i4.fams i hi, only.fams i hi]⟩, fun fr k f0 => ?_⟩
    rw [loopK_succ]
    cases d1 : decide (1000000 < held) with
    | true =>
     simp only [s_book_Book_integrity_Item_Keep_l0, getK_mk f0, nk, fa, ld0, ld1, ld2, ld3, pl, getK_set, ↓reduceIte, Nat.reduceEqDiff, someK_n, effK_n, retK, gK_do, gK_do', gK_skip, gK_skip', gK_none, pick_mk, cond_true, cond_false, condK_tn, condK_fn, bin_eql, bin_neq, bin_lss, bin_leq, bin_gtr, bin_geq, un_not, Bool.not_true, Bool.not_false, bin_str, lenS_mk, nle_l, nle_r, nle_n, nlt_l, nlt_r, nlt_n, neq_r, neq_n, nne_r, nne_n, ext0, ext1, ext30, ext31, ext32, bin_add, bin_sub, decide_true, decide_false, e1, z1, d1, p1, p2, p3, p4, ks, s1, l2, l0, u2, o1.pCap, s2, l02, t1, s3, l13, t3, s4]
     exact i5 _ k (by simp [T.get_set])
    | false =>
     have d2 : decide (4000 < (it :: r).length) = true := by rw [d1] at hd; exact hd
     simp only [s_book_Book_integrity_Item_Keep_l0, getK_mk f0, nk, fa, ld0, ld1, ld2, ld3, pl, getK_set, ↓reduceIte, Nat.reduceEqDiff, someK_n, effK_n, retK, gK_do, gK_do', gK_skip, gK_skip', gK_none, pick_mk, cond_true, cond_false, condK_tn, condK_fn, bin_eql, bin_neq, bin_lss, bin_leq, bin_gtr, bin_geq, un_not, Bool.not_true, Bool.not_false, bin_str, lenS_mk, nle_l, nle_r, nle_n, nlt_l, nlt_r, nlt_n, neq_r, neq_n, nne_r, nne_n, ext0, ext1, ext30, ext31, ext32, bin_add, bin_sub, decide_true, decide_false, e1, z1, d1, d2, p1, p2, p3, p4, ks, s1, l2, l0, u2, o1.pCap, s2, l02, t1, s3, l13, t3, s4]
     exact i5 _ k (by simp [T.get_set])
theorem s_book_Book_integrity_Item_Keep_ret (c : CallK) {N : Nat} (hN : 9223372036854775807 < N) (lab : Nat → Nat) (H : Heap) (hw : WF H) (K : Nat) (its : List ItZ) (h : BookZ 3 lab H K its) (x : V) (cap n : Nat) (cs : List V) (key : Nat) (hkey : key ∉ its.map ItZ.key)
  (hx : RoomZ (fun i => lab i = 2 * key + 4) H x 3 cap cs) (hn : cs.length = n * 3) (hp : pLen [x] = some (.int .i64 (n : Int))) (hcap : cap < 9223372036854775808) (hs : cs.all V.scal = true) (hlen : n < 1000000000) (hits : its.length + 1 < 1000000) (hSm : ∀ w, SameAt_integrity_Item c (its ++ [⟨x, cap, n, cs, w, key⟩])) (τ : Tape) :
  ∃ its' H' τ' lab', BookZ 3 lab' H' K its' ∧ ((∀ it ∈ its', it ∈ its ∨ (it.key = key ∧ it.cs = cs ∧ it.n = n)) ∧ its'.length ≤ its.length + 1) ∧ Chg (fun i => lab i = 1 ∨ lab i = 2 ∨ lab i = 3) H H' ∧ (∀ i, i < H.size → lab' i = lab i) ∧ ∀ q, s_book_Book_integrity_Item_Keep c N (.ptr K 0) x H τ q = q (.tup []) H' τ' := by
 obtain ⟨L, W, held, h1, h2, h3, h4, h5, h6⟩ := h
 have hK := h1.lt hw
 obtain ⟨w1, Ha, L', Hb, b1, b2, b3, b4, _, b5, _⟩ := h3.push (bytes := 24) hw x .nils hx.scal.1 hx.scal.2 (by rw [List.length_map]; omega) (by rw [List.length_map]; omega) τ
 have Kb := h1.chg hw b4 (by rw [h2]; omega)
 obtain ⟨Hc, c1, c2, c3⟩ := Kb.eStore b4.wf 0 L' 1 (by rw [b3.scal.1]; rfl) (by simp) (by omega) (by rw [b3.scal.1]; simp [b3.scal.2]) τ.tail
 rw [b3.scal.1] at c2
 have c2 : Bx Hc K [L', W, .int .i64 held, .bool false] := c2
 have hsz : Hc.size = Hb.size := c3.size
 have g0c : Chg (fun i => lab i = 1 ∨ lab i = 2) H Hc := (b4.weaken fun i _ h => .inr h).trans (c3.chg (P := fun i => i = K) rfl) fun i hi e => by subst e; exact .inl h2
 have x2 := hx.chg hw g0c fun i hi (e : lab i = 2 * key + 4) q => by omega
 obtain ⟨w, Hd, τd, d1, d2, d3⟩ := x2.copy hn hp c3.wf 40 hs (by omega) (by omega) τ.tail
 have W2 := (h4.weaken (Q := fun i => i < H.size ∧ lab i = 3) hw fun i hi e => ⟨hi, e⟩).chg hw (g0c.trans (d3.chg (P := fun _ => False)) fun _ _ h => h.elim) fun i hi e q => by omega
 obtain ⟨w2, He, W', Hf, e1, e2, e3, e4, _, e5, e6⟩ := W2.push (bytes := 24) d3.wf w .nils d2.scal.1 d2.scal.2 (by rw [List.length_map]; omega) (by rw [List.length_map]; omega) τd
 have Kd := c2.gr d3 (c2.lt c3.wf)
 have Ke := Kd.gr e5 (Kd.lt d3.wf)
 have Kf := Ke.chg e5.wf e6 fun q => by rw [h2] at q; omega
 obtain ⟨Hg, f1, f2, f3⟩ := Kf.eStore e6.wf 1 W' 1 (by rw [e3.scal.1]; rfl) (by simp) (by omega) (by rw [e3.scal.1]; simp [e3.scal.2]) τd.tail
 rw [e3.scal.1] at f2
 have f2 : Bx Hg K [L', W', .int .i64 held, .bool false] := f2
 obtain ⟨Hh, i1, i2, i3⟩ := f2.eStore f3.wf 2 (.int .i64 (wr .i64 (wr .i64 (held + (cap : Int)) + Int.ofNat 1))) 1 rfl (by simp) (by omega) rfl τd.tail
 have i2 : Bx Hh K [L', W', .int .i64 (wr .i64 (wr .i64 (held + (cap : Int)) + Int.ofNat 1)), .bool false] := i2
 have zab := b4.size
 have zcd := d3.size
 have zdf := e4.size
 have zg := f3.size
 have zh := i3.size
 have hKb : K < Hb.size := by omega
 have gbc : Chg (fun i => i = K) Hb Hc := c3.chg rfl
 have gcd : Chg (fun i => i = K) Hc Hd := d3.chg
 have gdf : Chg (fun i => i < H.size ∧ lab i = 3) Hd Hf := e4.weaken fun i _ q => q
 have gfh : Chg (fun i => i = K) Hf Hh := (f3.chg (P := fun i => i = K) rfl).trans (i3.chg (P := fun i => i = K) rfl) fun _ _ q => q
 have gbh : Chg (fun i => i = K ∨ (i < H.size ∧ lab i = 3)) Hb Hh :=
  (((gbc.trans gcd fun _ _ q => q).weaken fun i _ q => .inl q).trans gdf fun i _ q => .inr q).trans gfh fun i _ q => .inl q
 have g0h : Chg (fun i => lab i = 1 ∨ lab i = 2 ∨ lab i = 3) H Hh :=
  (b4.weaken fun i _ q => .inr (.inl q)).trans gbh fun i hi q => by rcases q with rfl | ⟨_, q⟩; exact .inl h2; exact .inr (.inr q)
 let lab' : Nat → Nat := fun i => if i < H.size then lab i else if i < Hb.size then 2 else if i < Hd.size then 2 * key + 5 else 3
 have l0 : ∀ i, i < H.size → lab' i = lab i := fun i hi => if_pos hi
 have l1 : ∀ i, H.size ≤ i → i < Hb.size → lab' i = 2 := fun i h1 h2 => by simp only [lab']; rw [if_neg (by omega), if_pos h2]
 have l2 : ∀ i, Hb.size ≤ i → i < Hd.size → lab' i = 2 * key + 5 := fun i h1 h2 => by simp only [lab']; rw [if_neg (by omega), if_neg (by omega), if_pos h2]
 have l3 : ∀ i, Hd.size ≤ i → lab' i = 3 := fun i h1 => by simp only [lab']; rw [if_neg (by omega), if_neg (by omega), if_neg (by omega)]
 have L3 : TailP (fun i => lab' i = 2) Hh L' (its.map ItZ.v ++ [x]) := by
  have := (b3.weaken (Q := fun i => i < Hb.size ∧ lab' i = 2) b4.wf fun i hi q => by
   rcases q with ⟨a, b⟩ | a
   ·exact ⟨hi, by rw [l0 i a]; exact b⟩
   ·exact ⟨hi, l1 i a hi⟩).chg b4.wf gbh fun i hi q r => by
    rcases r with rfl | ⟨a, b⟩
    ·have := l0 i hK; omega
    ·have := l0 i a; omega
  exact this.weaken gbh.wf fun i _ q => q.2
 have W3 : TailP (fun i => lab' i = 3) Hh W' (its.map ItZ.w ++ [w]) := by
  have := (e3.weaken (Q := fun i => lab' i = 3) e4.wf fun i hi q => by
   rcases q with ⟨a, b, c⟩ | a
   ·show lab' i = 3; rw [l0 i b]; exact c
   ·exact l3 i a).chg e4.wf gfh fun i hi q r => by
    have q : lab' i = 3 := q
    subst r; have := l0 i hK; omega
  exact this
 have X3 : RoomZ (fun i => lab' i = 2 * key + 4) Hh x 3 cap cs := by
  have := (hx.weaken (Q := fun i => i < H.size ∧ lab' i = 2 * key + 4) hw fun i hi q => ⟨hi, by rw [l0 i hi]; exact q⟩).chg hw g0h fun i hi q r => by
   have := l0 i hi; omega
  exact this.weaken g0h.wf fun i _ q => q.2
 have gdh : Chg (fun i => i = K ∨ (i < H.size ∧ lab i = 3)) Hd Hh := (gdf.weaken fun i _ q => .inr q).trans gfh fun i _ q => .inl q
 have w3 : OwnP (fun i => lab' i = 2 * key + 5) Hh 3 w n cs := by
  have := (d2.weaken (Q := fun i => Hc.size ≤ i ∧ lab' i = 2 * key + 5) d3.wf fun i hi q => ⟨q, l2 i (by omega) hi⟩).chg d3.wf gdh fun i hi q r => by
   rcases r with rfl | ⟨a, b⟩
   ·omega
   ·omega
  exact this.weaken gdh.wf fun i _ q => q.2
 have K3 : lab' K = 1 := by rw [l0 K hK]; exact h2
 have B3 : BookZ 3 lab' Hh K (its ++ [⟨x, cap, n, cs, w, key⟩]) := by
  refine ⟨L', W', _, i2, K3, by simpa using L3, by simpa using W3, ?_, fun it hit => ?_⟩
  ·rw [List.map_append, List.nodup_append]
   refine ⟨h5, by simp, fun a ha b hb => ?_⟩
   simp at hb
   subst hb
   exact fun e => hkey (e ▸ ha)
  ·rcases List.mem_append.1 hit with hit | hit
   ·exact (h6 it hit).chg hw g0h (fun i hi q => by omega) l0
   ·rw [List.mem_singleton] at hit
    subst hit
    exact ⟨X3, hn, hp, hcap, w3⟩
 obtain ⟨its', H', j1, j2, j3, j4, j5⟩ := l_book_Book_integrity_Item_Keep c N lab' K (its ++ [⟨x, cap, n, cs, w, key⟩]) Hh τd.tail N (by simp) (hSm w) (by simp; omega) (by simp; omega) i3.wf B3
 refine ⟨its', H', τd.tail, lab', j3, ⟨fun it hit => ?_, by have := j2.2; simpa using this⟩, g0h.trans (j4.chg (P := fun i => i = K) rfl) fun i hi e => by subst e; exact .inl h2, l0, fun q => ?_⟩
 ·rcases List.mem_append.1 (j2.1 it hit) with e | e
  ·exact .inl e
  ·rw [List.mem_singleton] at e; subst e; exact .inr ⟨rfl, rfl, rfl⟩
 have nk : ∀ (i o : Nat), pNilck [.ptr i o] = some (.ptr i o) := fun _ _ => rfl
 have fa : ∀ (i o : Nat), pFieldAddr o [.ptr i 0] = some (.ptr i o) := fun _ _ => by simp [pFieldAddr]
 have ld0 : lLoad1 [.ptr K 0] H = some L := load_cell h1.cells rfl
 have ld1 : ∀ {H}, Bx H K [L', W, .int .i64 held, .bool false] → lLoad1 [.ptr K 1] H = some W := fun h => load_cell h.cells rfl
 have ld2 : lLoad1 [.ptr K 2] Hg = some (.int .i64 held) := load_cell f2.cells rfl
 have hc : chkLoads [Hc, Hd, He, Hf, Hg] (((.load none), [.ptr K 1], 0, 2) :: []) = true := by
  simp [chkLoads, evalL, lLoad, ld1 c2, ld1 Kd, ld1 Ke, chk1]
  rcases h4 with ⟨rfl, _⟩ | ⟨id, off, e, all, room, fam, ver, pl, st, fr, rfl, _⟩ <;> simp [same, sameL, same1, same0]
 simp only [s_book_Book_integrity_Item_Keep, nk, someK_n, fa, ld0, b1, effK_n, b2, c1, ld1 c2, d1, e1, e2, f1, hc, cond_true, ld2, hx.pCap, bin_add, i1]
 rw [j5 _ _ (by simp [T.get_set])]
 simp only [blockK, Nat.beq_refl, cond_true, endK]
 rfl
theorem l_book_Book_integrity_Item_Stays (c : CallK) (N : Nat) (lab : Nat → Nat) (K : Nat) (its : List ItZ) (hSm : SameAt_integrity_Item c its) (hits : its.length < 1000000) : ∀ (l pre : List ItZ) (H : Heap) (τ : Tape) (m : Nat), its = pre ++ l → l.length < m → WF H → BookZ 3 lab H K its →
  ∃ H', BookZ 3 lab H' K its ∧ Only K H H' ∧ ∀ (fr : T V) k, fr.get 0 = some (.ptr K 0) → fr.get 3 = some (.int .i64 (pre.length : Int)) →
   loopK (s_book_Book_integrity_Item_Stays_l1 c N) m ⟨fr, H⟩ τ k = k (.exit 0) ⟨(T.set .leaf 0 (.ptr K 0)), H'⟩ τ := by
 have nk : ∀ (i o : Nat), pNilck [.ptr i o] = some (.ptr i o) := fun _ _ => rfl
 have fa : ∀ (i o : Nat), pFieldAddr o [.ptr i 0] = some (.ptr i o) := fun _ _ => by simp [pFieldAddr]
 intro l
 induction l with
 | nil =>
  intro pre H τ m he hm hw hb
  obtain ⟨m, rfl⟩ : ∃ j, m = j + 1 := ⟨m - 1, by omega⟩
  have hb0 := hb
  obtain ⟨L, W, held, h1, h2, h3, h4, h5, h6⟩ := hb
  have ld0 : lLoad1 [.ptr K 0] H = some L := load_cell h1.cells rfl
  have pl : pLen [L] = some (.int .i64 (its.length : Int)) := by have := h3.rd.pLen; rwa [List.length_map] at this
  have e1 : decide (pre.length < its.length) = false := decide_eq_false (by rw [he]; simp)
  refine ⟨H, hb0, ⟨hw, rfl, fun _ _ => rfl, fun _ _ => rfl⟩, fun fr k f0 f3 => ?_⟩
  rw [loopK_succ]
  simp only [s_book_Book_integrity_Item_Stays_l1, getK_mk f0, getK_mk f3, nk, fa, ld0, pl, getK_set, ↓reduceIte, Nat.reduceEqDiff, someK_n, effK_n, retK, gK_do, gK_do', gK_skip, gK_skip', gK_none, pick_mk, cond_true, cond_false, condK_tn, condK_fn, bin_eql, bin_neq, bin_lss, bin_leq, bin_gtr, bin_geq, un_not, Bool.not_true, Bool.not_false, bin_str, lenS_mk, nle_l, nle_r, nle_n, nlt_l, nlt_r, nlt_n, neq_r, neq_n, nne_r, nne_n, ext0, ext1, ext30, ext31, ext32, bin_add, bin_sub, decide_true, decide_false, e1]
  rfl
 | cons it l ih =>
  intro pre H τ m he hm hw hb
  obtain ⟨m, rfl⟩ : ∃ j, m = j + 1 := ⟨m - 1, by omega⟩
  obtain ⟨L, W, held, h1, h2, h3, h4, h5, h6⟩ := hb
  have hit : it ∈ its := by rw [he]; simp
  have hlt : pre.length < its.length := by rw [he]; simp
  have ld0 : lLoad1 [.ptr K 0] H = some L := load_cell h1.cells rfl
  have ld1 : lLoad1 [.ptr K 1] H = some W := load_cell h1.cells rfl
  have ld3 : lLoad1 [.ptr K 3] H = some (.bool false) := load_cell h1.cells rfl
  have pl : pLen [L] = some (.int .i64 (its.length : Int)) := by have := h3.rd.pLen; rwa [List.length_map] at this
  have e1 : decide (pre.length < its.length) = true := decide_eq_true hlt
  have e3 : wr .i64 ((pre.length : Int) + Int.ofNat 1) = ((pre ++ [it]).length : Int) := by rw [adI (by omega)]; simp
  obtain ⟨o1, o2, o3, o4, o5⟩ := h6 it hit
  obtain ⟨a1, a2⟩ := o1.rd o2 o3
  have ks := fun τ q => hSm it hit it.v it.w H a1 a2 o5.rd (OwnP.srcT_integrity_Item o5) τ q
  obtain ⟨p, p1, p2⟩ := h3.rd.elem1 (i := pre.length) (x := it.v) (by rw [he]; simp)
  obtain ⟨p', p3, p4⟩ := h4.rd.elem1 (i := pre.length) (x := it.w) (by rw [he]; simp)
  obtain ⟨H1, s1, b1, g1⟩ := h1.eStore hw 3 (.bool false) 1 rfl (by simp) (by omega) rfl τ
  have b1 : Bx H1 K [L, W, .int .i64 held, .bool false] := b1
  have chg : Chg (fun i => i = K) H H1 := g1.chg rfl
  have hb1 : BookZ 3 lab H1 K its :=
   ⟨L, W, held, b1, h2, h3.chg hw chg fun i _ (e : lab i = 2) q => by subst q; omega, h4.chg hw chg fun i _ (e : lab i = 3) q => by subst q; omega, h5, fun x hx => (h6 x hx).chg hw chg (fun i _ q => by subst q; omega) fun _ _ => rfl⟩
  obtain ⟨H', i1, i2, i3⟩ := ih (pre ++ [it]) H1 τ m (by rw [he]; simp) (by simp at hm; omega) g1.wf hb1
  refine ⟨H', i1, ⟨i2.wf, by rw [i2.size, g1.size], fun i hi => by rw [i2.blk i hi, g1.blk i hi], fun i hi => by rw [i2.fams i hi, g1.fams i hi]⟩, fun fr k f0 f3 => ?_⟩
  rw [loopK_succ]
  simp only [s_book_Book_integrity_Item_Stays_l1, getK_mk f0, getK_mk f3, nk, fa, ld0, ld1, ld3, pl, getK_set, ↓reduceIte, Nat.reduceEqDiff, someK_n, effK_n, retK, gK_do, gK_do', gK_skip, gK_skip', gK_none, pick_mk, cond_true, cond_false, condK_tn, condK_fn, bin_eql, bin_neq, bin_lss, bin_leq, bin_gtr, bin_geq, un_not, Bool.not_true, Bool.not_false, bin_str, lenS_mk, nle_l, nle_r, nle_n, nlt_l, nlt_r, nlt_n, neq_r, neq_n, nne_r, nne_n, ext0, ext1, ext30, ext31, ext32, bin_add, bin_sub, decide_true, decide_false, e1, p1, p2, p3, p4, ks, s1, e3]
  exact i3 _ k (by simp [T.get_set]) (by simp [T.get_set])
theorem s_book_Book_integrity_Item_Stays_ret (c : CallK) {N : Nat} (hN : 9223372036854775807 < N) (lab : Nat → Nat) (K : Nat) (its : List ItZ) (hSm : SameAt_integrity_Item c its) (hits : its.length < 1000000) (H : Heap) (hw : WF H) (hb : BookZ 3 lab H K its) (τ : Tape) :
  ∃ H', BookZ 3 lab H' K its ∧ Only K H H' ∧ ∀ q, s_book_Book_integrity_Item_Stays c N (.ptr K 0) H τ q = q (.bool true) H' τ := by
 obtain ⟨H', i1, i2, i3⟩ := l_book_Book_integrity_Item_Stays c N lab K its hSm hits its [] H τ N rfl (by omega) hw hb
 have h1 := i1
 obtain ⟨L, W, held, h1, _⟩ := h1
 have nk : ∀ (i o : Nat), pNilck [.ptr i o] = some (.ptr i o) := fun _ _ => rfl
 have fa : ∀ (i o : Nat), pFieldAddr o [.ptr i 0] = some (.ptr i o) := fun _ _ => by simp [pFieldAddr]
 have ld3 : lLoad1 [.ptr K 3] H' = some (.bool false) := load_cell h1.cells rfl
 refine ⟨H', i1, i2, fun q => ?_⟩
 simp only [s_book_Book_integrity_Item_Stays]
 rw [i3 _ _ (by simp [T.get_set]) (by simp [T.get_set])]
 simp only [blockK, Nat.beq_refl, cond_true, seqK, s_book_Book_integrity_Item_Stays_j0, getK_set, ↓reduceIte, Nat.reduceEqDiff, someK_n, effK_n, retK, gK_do, gK_do', gK_skip, gK_skip', gK_none, pick_mk, cond_true, cond_false, condK_tn, condK_fn, bin_eql, bin_neq, bin_lss, bin_leq, bin_gtr, bin_geq, un_not, Bool.not_true, Bool.not_false, bin_str, lenS_mk, nle_l, nle_r, nle_n, nlt_l, nlt_r, nlt_n, neq_r, neq_n, nne_r, nne_n, ext0, ext1, ext30, ext31, ext32, bin_add, bin_sub, decide_true, decide_false, nk, fa, ld3]
def marksT_integrity_Item (mk : Nat → Nat → V) (i j : Nat) : List V := (List.range j).flatMap fun j => (mk i j).cells
theorem marksT_integrity_Item_succ (mk : Nat → Nat → V) (i j : Nat) : marksT_integrity_Item mk i (j + 1) = marksT_integrity_Item mk i j ++ (mk i j).cells := by unfold marksT_integrity_Item; rw [List.range_succ, List.flatMap_append]; simp
theorem marksT_integrity_Item_len (mk : Nat → Nat → V) (hz : ∀ i j, (mk i j).cells.length = 3) (i j : Nat) : (marksT_integrity_Item mk i j).length = j * 3 := by
 induction j with
 | zero => rfl
 | succ j ih => rw [marksT_integrity_Item_succ, List.length_append, ih, hz, Nat.succ_mul]
def MarkAt_integrity_Item (c : CallK) (fm : Nat) (mk : Nat → Nat → V) : Prop := ∀ (i j : Nat), i < 1000000 → j < 9223372036854775808 → ∀ H τ q, c fm [.int .i64 (i : Int), .int .i64 (j : Int)] H τ q = q (mk i j) H τ
theorem l_book_Book_integrity_Item_Apart_w (c : CallK) (N fm : Nat) (mk : Nat → Nat → V) (hM : MarkAt_integrity_Item c fm mk) (hz : ∀ i j, (mk i j).cells.length = 3) (hsc : ∀ i j, (mk i j).cells.all V.scal = true) (P : Nat → Prop) (v v' : V) (cap i : Nat) (hi : i < 1000000) (hcap : cap < 9223372036854775808) (t0 : V) (hlen : pLen [v'] = some (.int .i64 (cap : Int)))
  (hwr : ∀ H' l' k, WF H' → RoomZ P H' v 3 cap l' → l'.length = k * 3 → k < cap → ∀ (x : V), x.cells.length = 3 → x.cells.all V.scal = true → ∀ τ, ∃ p H'', pSlIdx 3 [v', .int .i64 (k : Int)] = some p ∧ eStore 3 [p, x] H' τ = some (.tup [], H'', τ) ∧ RoomZ P H'' v 3 cap (l' ++ x.cells) ∧ Chg P H' H'') :
  ∀ (n j : Nat) (H : Heap) (τ : Tape) (m : Nat), j + n = cap → n < m → WF H → RoomZ P H v 3 cap (marksT_integrity_Item mk i j) →
  ∃ H', RoomZ P H' v 3 cap (marksT_integrity_Item mk i cap) ∧ Chg P H H' ∧ ∀ (fr : T V) k, fr.get 0 = some t0 → fr.get 1 = some (.func fm [] []) → fr.get 5 = some (.int .i64 (i : Int)) → fr.get 6 = some v' → fr.get 7 = some (.int .i64 (j : Int)) →
   loopK (s_book_Book_integrity_Item_Apart_l7 c N) m ⟨fr, H⟩ τ k = k (.exit 2) ⟨(T.set (T.set (T.set .leaf 0 t0) 1 (.func fm [] [])) 5 (.int .i64 (i : Int))), H'⟩ τ := by
 intro n
 induction n with
 | zero =>
  intro j H τ m hj hm hw hR
  obtain ⟨m, rfl⟩ : ∃ j, m = j + 1 := ⟨m - 1, by omega⟩
  have e1 : decide (j < cap) = false := decide_eq_false (by omega)
  refine ⟨H, (by obtain rfl : j = cap := (by omega); exact hR), Chg.refl hw, fun fr k f0 f1 f5 f6 f7 => ?_⟩
  rw [loopK_succ]
  simp only [s_book_Book_integrity_Item_Apart_l7, getK_mk f0, getK_mk f1, getK_mk f5, getK_mk f6, getK_mk f7, hlen, getK_set, ↓reduceIte, Nat.reduceEqDiff, someK_n, effK_n, retK, gK_do, gK_do', gK_skip, gK_skip', gK_none, pick_mk, cond_true, cond_false, condK_tn, condK_fn, bin_eql, bin_neq, bin_lss, bin_leq, bin_gtr, bin_geq, un_not, Bool.not_true, Bool.not_false, bin_str, lenS_mk, nle_l, nle_r, nle_n, nlt_l, nlt_r, nlt_n, neq_r, neq_n, nne_r, nne_n, ext0, ext1, ext30, ext31, ext32, bin_add, bin_sub, decide_true, decide_false, e1]
  rfl
 | succ n ih =>
  intro j H τ m hj hm hw hR
  obtain ⟨m, rfl⟩ : ∃ j, m = j + 1 := ⟨m - 1, by omega⟩
  have e1 : decide (j < cap) = true := decide_eq_true (by omega)
  obtain ⟨p, H1, p1, p2, p3, p4⟩ := hwr H _ j hw hR (marksT_integrity_Item_len mk hz i j) (by omega) (mk i j) (hz i j) (hsc i j) τ
  rw [← marksT_integrity_Item_succ] at p3
  have e3 : wr .i64 ((j : Int) + Int.ofNat 1) = ((j + 1 : Nat) : Int) := adI (by omega)
  obtain ⟨H', r1, r2, r3⟩ := ih (j + 1) H1 τ m (by omega) (by omega) p4.wf p3
  refine ⟨H', r1, p4.trans r2 fun _ _ q => q, fun fr k f0 f1 f5 f6 f7 => ?_⟩
  rw [loopK_succ]
  simp only [s_book_Book_integrity_Item_Apart_l7, getK_mk f0, getK_mk f1, getK_mk f5, getK_mk f6, getK_mk f7, hlen, getK_set, ↓reduceIte, Nat.reduceEqDiff, someK_n, effK_n, retK, gK_do, gK_do', gK_skip, gK_skip', gK_none, pick_mk, cond_true, cond_false, condK_tn, condK_fn, bin_eql, bin_neq, bin_lss, bin_leq, bin_gtr, bin_geq, un_not, Bool.not_true, Bool.not_false, bin_str, lenS_mk, nle_l, nle_r, nle_n, nlt_l, nlt_r, nlt_n, neq_r, neq_n, nne_r, nne_n, ext0, ext1, ext30, ext31, ext32, bin_add, bin_sub, decide_true, decide_false, e1, opK, List.nil_append, List.append_nil, hM i j hi (by omega), p1, p2, e3]
  exact r3 _ k (by simp [T.get_set]) (by simp [T.get_set]) (by simp [T.get_set]) (by simp [T.get_set]) (by simp [T.get_set])
theorem l_book_Book_integrity_Item_Apart_r (c : CallK) (N fm : Nat) (f : Nat → Nat → Int) (hM : MarkAt_integrity_Item c fm (fun i j => V.agg [.int .i64 (f i j), .str [], .str []])) (v' : V) (cap i : Nat) (hi : i < 1000000) (hcap : cap < 9223372036854775808) (t0 : V) (H : Heap) (hlen : pLen [v'] = some (.int .i64 (cap : Int)))
  (hrd : ∀ j, j < cap → ∃ id o, pSlIdx 3 [v', .int .i64 (j : Int)] = some (.ptr id o) ∧ lLoadN 3 [.ptr id o] H = some ((fun i j => V.agg [.int .i64 (f i j), .str [], .str []]) i j)) :
  ∀ (n j : Nat) (τ : Tape) (m : Nat), j + n = cap → n < m → ∀ (fr : T V) k, fr.get 0 = some t0 → fr.get 1 = some (.func fm [] []) → fr.get 8 = some (.int .i64 (i : Int)) → fr.get 9 = some v' → fr.get 10 = some (.int .i64 (j : Int)) →
   loopK (s_book_Book_integrity_Item_Apart_l4 c N) m ⟨fr, H⟩ τ k = k (.exit 6) ⟨(T.set (T.set (T.set .leaf 0 t0) 1 (.func fm [] [])) 8 (.int .i64 (i : Int))), H⟩ τ := by
 intro n
 induction n with
 | zero =>
  intro j τ m hj hm fr k f0 f1 f8 f9 f10
  obtain ⟨m, rfl⟩ : ∃ j, m = j + 1 := ⟨m - 1, by omega⟩
  have e1 : decide (j < cap) = false := decide_eq_false (by omega)
  rw [loopK_succ]
  simp only [s_book_Book_integrity_Item_Apart_l4, getK_mk f0, getK_mk f1, getK_mk f8, getK_mk f9, getK_mk f10, hlen, getK_set, ↓reduceIte, Nat.reduceEqDiff, someK_n, effK_n, retK, gK_do, gK_do', gK_skip, gK_skip', gK_none, pick_mk, cond_true, cond_false, condK_tn, condK_fn, bin_eql, bin_neq, bin_lss, bin_leq, bin_gtr, bin_geq, un_not, Bool.not_true, Bool.not_false, bin_str, lenS_mk, nle_l, nle_r, nle_n, nlt_l, nlt_r, nlt_n, neq_r, neq_n, nne_r, nne_n, ext0, ext1, ext30, ext31, ext32, bin_add, bin_sub, decide_true, decide_false, e1]
  rfl
 | succ n ih =>
  intro j τ m hj hm fr k f0 f1 f8 f9 f10
  obtain ⟨m, rfl⟩ : ∃ j, m = j + 1 := ⟨m - 1, by omega⟩
  have e1 : decide (j < cap) = true := decide_eq_true (by omega)
  obtain ⟨id, o, p1, p2⟩ := hrd j (by omega)
  have e3 : wr .i64 ((j : Int) + Int.ofNat 1) = ((j + 1 : Nat) : Int) := adI (by omega)
  have hc : chkLoads [H, H] (((.load (some 3)), [.ptr id o], 0, 1) :: []) = true := by
   simp [chkLoads, evalL, lLoad, p2, chk1, same, sameL, same1, same0]
  have en : pEq true (.flat [.int, .str, .str]) [V.agg [.int .i64 (f i j), .str [], .str []], V.agg [.int .i64 (f i j), .str [], .str []]] = some (.bool false) := by simp [pEq, eqV, eqFlat, eqS, eqB_eq]
  rw [loopK_succ]
  simp only [s_book_Book_integrity_Item_Apart_l4, getK_mk f0, getK_mk f1, getK_mk f8, getK_mk f9, getK_mk f10, hlen, getK_set, ↓reduceIte, Nat.reduceEqDiff, someK_n, effK_n, retK, gK_do, gK_do', gK_skip, gK_skip', gK_none, pick_mk, cond_true, cond_false, condK_tn, condK_fn, bin_eql, bin_neq, bin_lss, bin_leq, bin_gtr, bin_geq, un_not, Bool.not_true, Bool.not_false, bin_str, lenS_mk, nle_l, nle_r, nle_n, nlt_l, nlt_r, nlt_n, neq_r, neq_n, nne_r, nne_n, ext0, ext1, ext30, ext31, ext32, bin_add, bin_sub, decide_true, decide_false, e1, p1, p2, opK, List.nil_append, List.append_nil, hM i j hi (by omega), en, hc, e3]
  exact ih (j + 1) τ m (by omega) (by omega) _ k (by simp [T.get_set]) (by simp [T.get_set]) (by simp [T.get_set]) (by simp [T.get_set]) (by simp [T.get_set])
theorem l_book_Book_integrity_Item_Apart_o (c : CallK) {N : Nat} (hN : 9223372036854775808 < N) (fm : Nat) (mk : Nat → Nat → V) (hM : MarkAt_integrity_Item c fm mk) (hz : ∀ i j, (mk i j).cells.length = 3) (hsc : ∀ i j, (mk i j).cells.all V.scal = true) (lab : Nat → Nat) (K : Nat) (its : List ItZ) (hits : its.length < 1000000) (hcap : ∀ it ∈ its, it.cap < 9223372036854775808) (hk : ∀ (p q : Nat) it jt, its[p]? = some it → its[q]? = some jt → it.key = jt.key → p = q) (L W x2 x3 : V) (hK1 : lab K = 1) :
  ∀ (r pre : List ItZ) (H : Heap) (τ : Tape) (m : Nat), its = pre ++ r → r.length < m → WF H → Bx H K [L, W, x2, x3] → TailP (fun i => lab i = 2) H L (its.map ItZ.v) →
  (∀ (j : Nat) it, its[j]? = some it → RoomZ (fun i => lab i = 2 * it.key + 4) H it.v 3 it.cap (if j < pre.length then marksT_integrity_Item mk j it.cap else [])) →
  ∃ H', (∀ (j : Nat) it, its[j]? = some it → RoomZ (fun i => lab i = 2 * it.key + 4) H' it.v 3 it.cap (marksT_integrity_Item mk j it.cap)) ∧ Bx H' K [L, W, x2, x3] ∧ TailP (fun i => lab i = 2) H' L (its.map ItZ.v) ∧ Chg (fun i => 4 ≤ lab i) H H' ∧
   ∀ (fr : T V) k, fr.get 0 = some (.ptr K 0) → fr.get 1 = some (.func fm [] []) → fr.get 5 = some (.int .i64 (pre.length : Int)) →
    loopK (s_book_Book_integrity_Item_Apart_l5 c N) m ⟨fr, H⟩ τ k = k (.exit 0) ⟨(T.set (T.set .leaf 0 (.ptr K 0)) 1 (.func fm [] [])), H'⟩ τ := by
 have nk : ∀ (i o : Nat), pNilck [.ptr i o] = some (.ptr i o) := fun _ _ => rfl
 have fa : ∀ (i o : Nat), pFieldAddr o [.ptr i 0] = some (.ptr i o) := fun _ _ => by simp [pFieldAddr]
 intro r
 induction r with
 | nil =>
  intro pre H τ m he hm hw hK hL hR
  obtain ⟨m, rfl⟩ : ∃ j, m = j + 1 := ⟨m - 1, by omega⟩
  have ld0 : lLoad1 [.ptr K 0] H = some L := load_cell hK.cells rfl
  have pl : pLen [L] = some (.int .i64 (its.length : Int)) := by have := hL.rd.pLen; rwa [List.length_map] at this
  have e1 : decide (pre.length < its.length) = false := decide_eq_false (by rw [he]; simp)
  refine ⟨H, fun j it hj => ?_, hK, hL, Chg.refl hw, fun fr k f0 f1 f5 => ?_⟩
  ·have := hR j it hj
   rw [if_pos (by have := (List.getElem?_eq_some_iff.1 hj).1; rw [he] at this; simpa using this)] at this
   exact this
  ·rw [loopK_succ]
   simp only [s_book_Book_integrity_Item_Apart_l5, getK_mk f0, getK_mk f1, getK_mk f5, nk, fa, ld0, pl, getK_set, ↓reduceIte, Nat.reduceEqDiff, someK_n, effK_n, retK, gK_do, gK_do', gK_skip, gK_skip', gK_none, pick_mk, cond_true, cond_false, condK_tn, condK_fn, bin_eql, bin_neq, bin_lss, bin_leq, bin_gtr, bin_geq, un_not, Bool.not_true, Bool.not_false, bin_str, lenS_mk, nle_l, nle_r, nle_n, nlt_l, nlt_r, nlt_n, neq_r, neq_n, nne_r, nne_n, ext0, ext1, ext30, ext31, ext32, bin_add, bin_sub, decide_true, decide_false, e1]
   rfl
 | cons it r ih =>
  intro pre H τ m he hm hw hK hL hR
  obtain ⟨m, rfl⟩ : ∃ j, m = j + 1 := ⟨m - 1, by omega⟩
  have hit : its[pre.length]? = some it := by rw [he]; simp
  have hlen : pre.length < its.length := by rw [he]; simp
  have hc := hcap it (by rw [he]; simp)
  have ld0 : lLoad1 [.ptr K 0] H = some L := load_cell hK.cells rfl
  have pl : pLen [L] = some (.int .i64 (its.length : Int)) := by have := hL.rd.pLen; rwa [List.length_map] at this
  have e1 : decide (pre.length < its.length) = true := decide_eq_true hlen
  obtain ⟨p, p1, p2⟩ := hL.rd.elem1 (i := pre.length) (x := it.v) (by rw [List.getElem?_map, hit]; rfl)
  have hRi := hR _ _ hit
  rw [if_neg (by omega)] at hRi
  obtain ⟨v', q1, q2, q3, q4⟩ := hRi.full (by omega)
  obtain ⟨H1, a1, a2, a3⟩ := l_book_Book_integrity_Item_Apart_w c N fm mk hM hz hsc (fun i => lab i = 2 * it.key + 4) it.v v' it.cap pre.length (by omega) hc (.ptr K 0) q2 q3 it.cap 0 H τ N (by omega) (by omega) hw hRi
  have e3 : wr .i64 ((pre.length : Int) + Int.ofNat 1) = ((pre ++ [it]).length : Int) := by rw [adI (by omega)]; simp
  obtain ⟨H', r1, r2, r3, r4, r5⟩ := ih (pre ++ [it]) H1 τ m (by rw [he]; simp) (by simp at hm; omega) a2.wf (hK.chg hw a2 (by omega)) (hL.chg hw a2 fun i _ q1 q2 => by omega)
   (fun j jt hj => by
    by_cases hji : j = pre.length
    ·subst hji
     rw [hit] at hj
     cases hj
     rw [if_pos (by simp)]
     exact a1
    ·have hne : jt.key ≠ it.key := fun e => hji (hk _ _ _ _ hj hit e)
     have := (hR j jt hj).chg hw a2 fun i _ q1 q2 => by omega
     have hif : (j < (pre ++ [it]).length) = (j < pre.length) := by
      simp only [List.length_append, List.length_singleton, eq_iff_iff]; omega
     rw [show (if j < (pre ++ [it]).length then marksT_integrity_Item mk j jt.cap else []) = (if j < pre.length then marksT_integrity_Item mk j jt.cap else []) by simp only [hif]]
     exact this)
  refine ⟨H', r1, r2, r3, (a2.weaken fun i _ q => by omega).trans r4 fun _ _ q => q, fun fr k f0 f1 f5 => ?_⟩
  rw [loopK_succ]
  simp only [s_book_Book_integrity_Item_Apart_l5, getK_mk f0, getK_mk f1, getK_mk f5, nk, fa, ld0, pl, getK_set, ↓reduceIte, Nat.reduceEqDiff, someK_n, effK_n, retK, gK_do, gK_do', gK_skip, gK_skip', gK_none, pick_mk, cond_true, cond_false, condK_tn, condK_fn, bin_eql, bin_neq, bin_lss, bin_leq, bin_gtr, bin_geq, un_not, Bool.not_true, Bool.not_false, bin_str, lenS_mk, nle_l, nle_r, nle_n, nlt_l, nlt_r, nlt_n, neq_r, neq_n, nne_r, nne_n, ext0, ext1, ext30, ext31, ext32, bin_add, bin_sub, decide_true, decide_false, e1, p1, p2, hRi.pCap, q1]
  rw [a3 _ _ (by simp [T.get_set]) (by simp [T.get_set]) (by simp [T.get_set]) (by simp [T.get_set]) (by simp [T.get_set])]
  simp only [blockK, Nat.beq_refl, cond_true, cond_false, seqK, s_book_Book_integrity_Item_Apart_j6, getK_set, ↓reduceIte, Nat.reduceEqDiff, someK_n, effK_n, retK, gK_do, gK_do', gK_skip, gK_skip', gK_none, pick_mk, cond_true, cond_false, condK_tn, condK_fn, bin_eql, bin_neq, bin_lss, bin_leq, bin_gtr, bin_geq, un_not, Bool.not_true, Bool.not_false, bin_str, lenS_mk, nle_l, nle_r, nle_n, nlt_l, nlt_r, nlt_n, neq_r, neq_n, nne_r, nne_n, ext0, ext1, ext30, ext31, ext32, bin_add, bin_sub, decide_true, decide_false, e3]
  exact r5 _ k (by simp [T.get_set]) (by simp [T.get_set]) (by simp [T.get_set])
theorem marksT_integrity_Item_get (mk : Nat → Nat → V) (hz : ∀ i j, (mk i j).cells.length = 3) (i j : Nat) : ∀ cap, j < cap → ((marksT_integrity_Item mk i cap).drop (j * 3)).take 3 = (mk i j).cells := by
 intro cap
 induction cap with
 | zero => intro h; omega
 | succ cap ih =>
  intro h
  have hl := marksT_integrity_Item_len mk hz i cap
  rw [marksT_integrity_Item_succ]
  by_cases e : j = cap
  ·subst e
   rw [← hl, List.drop_left, List.take_of_length_le (by rw [hz]; omega)]
  ·have := ih (by omega)
   have h2 : j * 3 + 3 ≤ cap * 3 := by have := Nat.mul_le_mul_right 3 (show j + 1 ≤ cap by omega); rw [Nat.succ_mul] at this; exact this
   rw [List.drop_append_of_le_length (by rw [hl]; omega), List.take_append_of_le_length (by rw [List.length_drop, hl]; omega), this]
theorem l_book_Book_integrity_Item_Apart_c (c : CallK) {N : Nat} (hN : 9223372036854775808 < N) (fm : Nat) (f : Nat → Nat → Int) (hM : MarkAt_integrity_Item c fm (fun i j => V.agg [.int .i64 (f i j), .str [], .str []])) (lab : Nat → Nat) (K : Nat) (its : List ItZ) (hits : its.length < 1000000) (hcap : ∀ it ∈ its, it.cap < 9223372036854775808) (L W x2 x3 : V) (H : Heap) (hK : Bx H K [L, W, x2, x3]) (hL : TailP (fun i => lab i = 2) H L (its.map ItZ.v))
  (hR : ∀ (j : Nat) it, its[j]? = some it → RoomZ (fun i => lab i = 2 * it.key + 4) H it.v 3 it.cap (marksT_integrity_Item (fun i j => V.agg [.int .i64 (f i j), .str [], .str []]) j it.cap)) :
  ∀ (r pre : List ItZ) (τ : Tape) (m : Nat), its = pre ++ r → r.length < m → ∀ (fr : T V) k, fr.get 0 = some (.ptr K 0) → fr.get 1 = some (.func fm [] []) → fr.get 8 = some (.int .i64 (pre.length : Int)) →
   loopK (s_book_Book_integrity_Item_Apart_l2 c N) m ⟨fr, H⟩ τ k = k (.exit 4) ⟨(T.set .leaf 0 (.ptr K 0)), H⟩ τ := by
 have nk : ∀ (i o : Nat), pNilck [.ptr i o] = some (.ptr i o) := fun _ _ => rfl
 have fa : ∀ (i o : Nat), pFieldAddr o [.ptr i 0] = some (.ptr i o) := fun _ _ => by simp [pFieldAddr]
 have ld0 : lLoad1 [.ptr K 0] H = some L := load_cell hK.cells rfl
 have pl : pLen [L] = some (.int .i64 (its.length : Int)) := by have := hL.rd.pLen; rwa [List.length_map] at this
 intro r
 induction r with
 | nil =>
  intro pre τ m he hm fr k f0 f1 f8
  obtain ⟨m, rfl⟩ : ∃ j, m = j + 1 := ⟨m - 1, by omega⟩
  have e1 : decide (pre.length < its.length) = false := decide_eq_false (by rw [he]; simp)
  rw [loopK_succ]
  simp only [s_book_Book_integrity_Item_Apart_l2, getK_mk f0, getK_mk f1, getK_mk f8, nk, fa, ld0, pl, getK_set, ↓reduceIte, Nat.reduceEqDiff, someK_n, effK_n, retK, gK_do, gK_do', gK_skip, gK_skip', gK_none, pick_mk, cond_true, cond_false, condK_tn, condK_fn, bin_eql, bin_neq, bin_lss, bin_leq, bin_gtr, bin_geq, un_not, Bool.not_true, Bool.not_false, bin_str, lenS_mk, nle_l, nle_r, nle_n, nlt_l, nlt_r, nlt_n, neq_r, neq_n, nne_r, nne_n, ext0, ext1, ext30, ext31, ext32, bin_add, bin_sub, decide_true, decide_false, e1]
  rfl
 | cons it r ih =>
  intro pre τ m he hm fr k f0 f1 f8
  obtain ⟨m, rfl⟩ : ∃ j, m = j + 1 := ⟨m - 1, by omega⟩
  have hit : its[pre.length]? = some it := by rw [he]; simp
  have hlen : pre.length < its.length := by rw [he]; simp
  have hc := hcap it (by rw [he]; simp)
  have e1 : decide (pre.length < its.length) = true := decide_eq_true hlen
  obtain ⟨p, p1, p2⟩ := hL.rd.elem1 (i := pre.length) (x := it.v) (by rw [List.getElem?_map, hit]; rfl)
  have hRi := hR _ _ hit
  obtain ⟨v', q1, q2, q3, q4⟩ := hRi.full (by omega)
  have hml := marksT_integrity_Item_len (fun i j => V.agg [.int .i64 (f i j), .str [], .str []]) (fun _ _ => rfl) pre.length it.cap
  have a3 := fun fr k => l_book_Book_integrity_Item_Apart_r c N fm f hM v' it.cap pre.length (by omega) hc (.ptr K 0) H q2 (fun j hj => by
   obtain ⟨id, o, u1, u2, u3⟩ := q4 H _ hRi j (by rw [hml]; have := Nat.mul_le_mul_right 3 (show j + 1 ≤ it.cap by omega); rw [Nat.succ_mul] at this; exact this)
   have hd := marksT_integrity_Item_get (fun i j => V.agg [.int .i64 (f i j), .str [], .str []]) (fun _ _ => rfl) pre.length j it.cap hj
   exact ⟨id, o, u1, by rw [u2, hd]; rfl⟩) it.cap 0 τ N (by omega) (by omega) fr k
  have e3 : wr .i64 ((pre.length : Int) + Int.ofNat 1) = ((pre ++ [it]).length : Int) := by rw [adI (by omega)]; simp
  rw [loopK_succ]
  simp only [s_book_Book_integrity_Item_Apart_l2, getK_mk f0, getK_mk f1, getK_mk f8, nk, fa, ld0, pl, getK_set, ↓reduceIte, Nat.reduceEqDiff, someK_n, effK_n, retK, gK_do, gK_do', gK_skip, gK_skip', gK_none, pick_mk, cond_true, cond_false, condK_tn, condK_fn, bin_eql, bin_neq, bin_lss, bin_leq, bin_gtr, bin_geq, un_not, Bool.not_true, Bool.not_false, bin_str, lenS_mk, nle_l, nle_r, nle_n, nlt_l, nlt_r, nlt_n, neq_r, neq_n, nne_r, nne_n, ext0, ext1, ext30, ext31, ext32, bin_add, bin_sub, decide_true, decide_false, e1, p1, p2, hRi.pCap, q1]
  rw [a3 _ _ (by simp [T.get_set]) (by simp [T.get_set]) (by simp [T.get_set]) (by simp [T.get_set]) (by simp [T.get_set])]
  simp only [blockK, Nat.beq_refl, cond_true, cond_false, seqK, s_book_Book_integrity_Item_Apart_j3, getK_set, ↓reduceIte, Nat.reduceEqDiff, someK_n, effK_n, retK, gK_do, gK_do', gK_skip, gK_skip', gK_none, pick_mk, cond_true, cond_false, condK_tn, condK_fn, bin_eql, bin_neq, bin_lss, bin_leq, bin_gtr, bin_geq, un_not, Bool.not_true, Bool.not_false, bin_str, lenS_mk, nle_l, nle_r, nle_n, nlt_l, nlt_r, nlt_n, neq_r, neq_n, nne_r, nne_n, ext0, ext1, ext30, ext31, ext32, bin_add, bin_sub, decide_true, decide_false, e3]
  exact ih (pre ++ [it]) τ m (by rw [he]; simp) (by simp at hm; omega) _ k (by simp [T.get_set]) (by simp [T.get_set]) (by simp [T.get_set])
theorem nodupK_integrity_Item {its : List ItZ} (h : (its.map ItZ.key).Nodup) : ∀ (p q : Nat) (it jt : ItZ), its[p]? = some it → its[q]? = some jt → it.key = jt.key → p = q := by
 intro p q it jt hp hq e
 have h1 : (its.map ItZ.key)[p]? = some it.key := by rw [List.getElem?_map, hp]; rfl
 have h2 : (its.map ItZ.key)[q]? = some jt.key := by rw [List.getElem?_map, hq]; rfl
 obtain ⟨l1, v1⟩ := List.getElem?_eq_some_iff.1 h1
 obtain ⟨l2, v2⟩ := List.getElem?_eq_some_iff.1 h2
 exact (List.getElem_inj h).1 (by rw [v1, v2, e])
theorem s_book_Book_integrity_Item_Apart_ret (c : CallK) {N : Nat} (hN : 9223372036854775808 < N) (fm : Nat) (f : Nat → Nat → Int) (hM : MarkAt_integrity_Item c fm (fun i j => V.agg [.int .i64 (f i j), .str [], .str []])) (lab : Nat → Nat) (K : Nat) (its : List ItZ) (hits : its.length < 1000000)
  (hSt : ∀ H, WF H → BookZ 3 lab H K its → ∀ τ, ∃ H', BookZ 3 lab H' K its ∧ Only K H H' ∧ ∀ q, c f_book_Book_integrity_Item_Stays [.ptr K 0] H τ q = q (.bool true) H' τ)
  (H : Heap) (hw : WF H) (hb : BookZ 3 lab H K its) (τ : Tape) :
  ∃ H', Chg (fun i => lab i ≠ 0) H H' ∧ ∀ q, s_book_Book_integrity_Item_Apart c N (.ptr K 0) (.func fm [] []) H τ q = q (.bool true) H' τ := by
 obtain ⟨H1, b1, g1, k1⟩ := hSt H hw hb τ
 obtain ⟨L, W, held, h1, h2, h3, h4, h5, h6⟩ := b1
 have hcap : ∀ it ∈ its, it.cap < 9223372036854775808 := fun it h => (h6 it h).2.2.2.1
 obtain ⟨H2, a1, a2, a3, a4, a5⟩ := l_book_Book_integrity_Item_Apart_o c hN fm (fun i j => V.agg [.int .i64 (f i j), .str [], .str []]) hM (fun _ _ => rfl) (fun _ _ => rfl) lab K its hits hcap (nodupK_integrity_Item h5) L W _ _ h2 its [] H1 τ N rfl (by omega) g1.wf h1 h3
  (fun j it hj => by have := (h6 it (List.mem_of_getElem? hj)).1.take 0; simpa using this)
 have a6 := fun fr k => l_book_Book_integrity_Item_Apart_c c hN fm f hM lab K its hits hcap L W _ _ H2 a2 a3 a1 its [] τ N rfl (by omega) fr k
 obtain ⟨H3, s1, s2, s3⟩ := a2.eStore a4.wf 0 .nils 1 rfl (by simp) (by omega) rfl τ
 have s2 : Bx H3 K [.nils, W, .int .i64 held, .bool false] := s2
 obtain ⟨H4, t1, t2, t3⟩ := s2.eStore s3.wf 1 .nils 1 rfl (by simp) (by omega) rfl τ
 have t2 : Bx H4 K [.nils, .nils, .int .i64 held, .bool false] := t2
 obtain ⟨H5, u1, u2, u3⟩ := t2.eStore t3.wf 2 (.int .i64 (.ofNat 0)) 1 rfl (by simp) (by omega) rfl τ
 refine ⟨H5, ?_, fun q => ?_⟩
 ·have n1 : ∀ {H H'}, Only K H H' → Chg (fun i => lab i ≠ 0) H H' := fun h => h.chg (by omega)
  exact ((((n1 g1).trans (a4.weaken (Q := fun i => lab i ≠ 0) fun i _ q => by omega) fun _ _ q => q).trans (n1 s3) fun _ _ q => q).trans (n1 t3) fun _ _ q => q).trans (n1 u3) fun _ _ q => q
 ·have nk : ∀ (i o : Nat), pNilck [.ptr i o] = some (.ptr i o) := fun _ _ => rfl
  have fa : ∀ (i o : Nat), pFieldAddr o [.ptr i 0] = some (.ptr i o) := fun _ _ => by simp [pFieldAddr]
  simp only [s_book_Book_integrity_Item_Apart, k1, getK_set, ↓reduceIte, Nat.reduceEqDiff, someK_n, effK_n, retK, gK_do, gK_do', gK_skip, gK_skip', gK_none, pick_mk, cond_true, cond_false, condK_tn, condK_fn, bin_eql, bin_neq, bin_lss, bin_leq, bin_gtr, bin_geq, un_not, Bool.not_true, Bool.not_false, bin_str, lenS_mk, nle_l, nle_r, nle_n, nlt_l, nlt_r, nlt_n, neq_r, neq_n, nne_r, nne_n, ext0, ext1, ext30, ext31, ext32, bin_add, bin_sub, decide_true, decide_false]
  rw [a5 _ _ (by simp [T.get_set]) (by simp [T.get_set]) (by simp [T.get_set])]
  simp only [blockK, Nat.beq_refl, cond_true, cond_false, seqK, s_book_Book_integrity_Item_Apart_j0, getK_set, ↓reduceIte, Nat.reduceEqDiff, someK_n, effK_n, retK, gK_do, gK_do', gK_skip, gK_skip', gK_none, pick_mk, cond_true, cond_false, condK_tn, condK_fn, bin_eql, bin_neq, bin_lss, bin_leq, bin_gtr, bin_geq, un_not, Bool.not_true, Bool.not_false, bin_str, lenS_mk, nle_l, nle_r, nle_n, nlt_l, nlt_r, nlt_n, neq_r, neq_n, nne_r, nne_n, ext0, ext1, ext30, ext31, ext32, bin_add, bin_sub, decide_true, decide_false]
  rw [a6 _ _ (by simp [T.get_set]) (by simp [T.get_set]) (by simp [T.get_set])]
  simp only [blockK, Nat.beq_refl, cond_true, cond_false, seqK, s_book_Book_integrity_Item_Apart_j1, getK_set, ↓reduceIte, Nat.reduceEqDiff, someK_n, effK_n, retK, gK_do, gK_do', gK_skip, gK_skip', gK_none, pick_mk, cond_true, cond_false, condK_tn, condK_fn, bin_eql, bin_neq, bin_lss, bin_leq, bin_gtr, bin_geq, un_not, Bool.not_true, Bool.not_false, bin_str, lenS_mk, nle_l, nle_r, nle_n, nlt_l, nlt_r, nlt_n, neq_r, neq_n, nne_r, nne_n, ext0, ext1, ext30, ext31, ext32, bin_add, bin_sub, decide_true, decide_false, nk, fa, s1, t1, u1]
end Go.Am.X

