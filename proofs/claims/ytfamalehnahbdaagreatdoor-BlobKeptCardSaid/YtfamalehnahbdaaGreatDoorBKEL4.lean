/- The abstract machine, printed functions of the program, and what they are shown to be. -/
import Derived.Test.YtfamalehnahbdaaGreatDoorBKEL2
import Derived.Test.YtfamalehnahbdaaGreatDoorBKEL3
import Derived.Test.YtfamalehnahbdaaGreatDoorBKEM4
set_option linter.unusedSimpArgs false
set_option linter.unusedVariables false
set_option linter.unusedSectionVars false
set_option maxRecDepth 100000
namespace Go.Am.X
theorem ws_take_drop (la : List Nat) (a b : Nat) : ((ws .u8 la).take b).drop a = ws .u8 ((la.take b).drop a) := by
 simp [ws, List.map_take, List.map_drop]
theorem ws_scalB (la : List Nat) : (ws .u8 la).all V.scal = true := by
 rw [List.all_eq_true]
 intro x hx
 obtain ⟨n, _, rfl⟩ := List.mem_map.1 hx
 rfl
theorem rdH_scal {H : Heap} {v : V} {hs : List Hd} (h : RdH H v hs) : v.cells = [v] ∧ v.scal = true := by
 rcases h.1 with ⟨rfl | ⟨id, off, lo, ex, rfl⟩, _, _⟩ | ⟨id, off, lo, ex, all, rfl, _⟩ <;> exact ⟨rfl, rfl⟩
theorem read_body {H' : Heap} {B : Nat} {res : V} {e : Blb} {la : List Nat} (he : e.cs = ws .u8 la) (hl : la.length < 400) {es : List Blb} (hes : ∀ x ∈ es, x = e) {u rg : Bs} {has : Bool} (h : ReadRes H' B res (readE es u rg has)) :
  ∃ (st : Int) (hv bv : V) (t : Bool) (lb : List Nat), res = .tup [.agg [.int .i64 st, hv, bv], .bool t] ∧ (hv.cells = [hv] ∧ hv.scal = true) ∧ BodP (fun i => B ≤ i) H' bv lb.length (ws .u8 lb) ∧ lb.length < 400 := by
 cases hr : readE es u rg has with
 | none =>
  rw [hr] at h
  exact ⟨_, .nils, .nils, false, [], h, ⟨rfl, rfl⟩, BodP.nil _ _, by simp⟩
 | some p =>
  obtain ⟨x, ab⟩ := p
  rw [hr] at h
  obtain ⟨hv, bv, h1, h2, h3⟩ := h
  have hx : x = e := by
   unfold readE at hr
   split at hr
   ·cases hr
   ·rename_i y hy
    have hye := hes y (findE_mem hy)
    cases has with
    | false => simp only [cond_false] at hr; cases hr; exact hye
    | true =>
     simp only [cond_true] at hr
     split at hr
     ·cases hr; exact hye
     ·cases hr
  subst hx
  cases ab with
  | none =>
   refine ⟨_, hv, bv, true, la, h1, rdH_scal h2, ?_, hl⟩
   have h3' : BodP (fun i => B ≤ i) H' bv x.cs.length x.cs := h3
   rw [he] at h3'
   simpa [ws] using h3'
  | some ab =>
   obtain ⟨a, b⟩ := ab
   have h3' : BodP (fun i => B ≤ i) H' bv ((x.cs.take b).drop a).length ((x.cs.take b).drop a) := h3
   rw [he, ws_take_drop] at h3'
   refine ⟨_, hv, bv, true, (la.take b).drop a, h1, rdH_scal h2, by simpa [ws] using h3', ?_⟩
   rw [List.length_drop, List.length_take]; omega
structure KBst (H0 : Heap) (B0 : Nat) (L : Lab) (H : Heap) (K : Nat) (its : List ItZ) (s m : Nat) (e : Blb) (r : Nat) : Prop where
 wf : WF H
 b1 : BookZ 1 (selL 1 L) H K its
 st : Stor (fun i => i < B0 ∧ i ≠ s ∧ i ≠ m) H s m 1 [e]
 g : ∀ it ∈ its, GoodB it.cs it.n
 k : ∀ it ∈ its, it.key < r
 l : its.length ≤ r
 z : ∀ i, i < B0 → L i = (0, 0)
 sz : B0 ≤ H.size
 gr : Gr H0.size H0 H
theorem s_law21_BlobKept_round (c : CallK) (N : Nat) (hRead : ∀ {P : Nat → Prop} {H : Heap} {s m k : Nat} {es : List Blb}, Stor P H s m k es → WF H → (∀ e ∈ es, e.cs.length < 400) → inH H 0 tabs = true → 6 ≤ H.size → ∀ (u : Bs), u.length < 9223372036854775807 → ∀ (ranged : Bs), ranged.length ≤ 9223372036854775806 → ∀ (has : Bool) (τ : Tape),
   ∃ res H' τ', Gr H.size H H' ∧ ReadRes H' H.size res (readE es u ranged has) ∧ ∀ q, c f_blob_Store_Read [.ptr s 0, .str u, .str ranged, .bool has] H τ q = q res H' τ')
  (hK : KeepZ c f_book_Book_byte_Keep 1 GoodB) {H0 : Heap} (hw0 : WF H0) (ht0 : inH H0 0 tabs = true) (hg0 : 6 ≤ H0.size) {B0 : Nat} (hB0 : H0.size ≤ B0) {s m K : Nat} {e : Blb} {la : List Nat} (he : e.cs = ws .u8 la) (hla : la.length < 400) (u : Bs) (hu : u.length < 9223372036854775807) {r : Nat} (hr : r < 3)
  {L : Lab} {H : Heap} {its : List ItZ} (h : KBst H0 B0 L H K its s m e r) (hsB : s < B0) (hmB : m < B0) (τ : Tape) :
  ∃ L' H' its' τ', KBst H0 B0 L' H' K its' s m e (r + 1) ∧ ∀ (fr : T V) k, fr.get 3 = some (.ptr s 0) → fr.get 4 = some (.str u) → fr.get 6 = some (.ptr K 0) → fr.get 7 = some (.int .i64 (r : Int)) →
   s_law21_BlobKept_l1 c N ⟨fr, H⟩ τ k = k .normal ⟨(T.set (T.set (T.set (T.set (T.set (T.set (T.set .leaf 3 (.ptr s 0)) 4 (.str u)) 6 (.ptr K 0)) 7 (.int .i64 (r : Int))) 23 (.int .i64 (r : Int))) 24 (.int .i64 ((r + 1 : Nat) : Int))) 7 (.int .i64 ((r + 1 : Nat) : Int))), H'⟩ τ' := by
 have htH := inH_gr ht0 tabs_plain h.gr hw0 (Nat.le_refl _)
 have hsz := h.sz
 obtain ⟨res, H1, τ1, g1, hres, k1⟩ := hRead h.st h.wf (fun x hx => by rw [List.mem_singleton] at hx; subst hx; rw [he]; simpa [ws] using hla) htH (by omega) u hu [98, 121, 116, 101, 115, 61, 48, 45] (by decide) (decide ((r : Int) = 1)) τ
 obtain ⟨st, hv, bv, t, lb, rfl, hhv, hbv, hlb⟩ := read_body he hla (fun x hx => by simpa using hx) hres
 have hb := hbv.scal
 have a1 : eAlloc [(.int .i64 (.ofNat 0)), .nils, .nils] [] H1 τ1 = some (.ptr H1.size 0, H1.new [(.int .i64 (.ofNat 0)), .nils, .nils] 3 true, τ1) := rfl
 generalize hH2 : H1.new [(.int .i64 (.ofNat 0)), .nils, .nils] 3 true = H2 at a1
 have g2 : Gr H1.size H1 H2 := hH2 ▸ Gr.new g1.wf _ _ _
 have x2 : Bx H2 H1.size [(.int .i64 (.ofNat 0)), .nils, .nils] := hH2 ▸ Bx.new H1 _ _ _ (by simp)
 have s1z := g1.size
 obtain ⟨H3, s1, s2, s3⟩ := x2.eStore g2.wf 0 (.agg [.int .i64 st, hv, bv]) 3 rfl (by simp) (by omega) (by show (true && (hv.scal && (bv.scal && true))) = true; rw [hhv.2, hb.2]; rfl) τ1
 have x3 : Bx H3 H1.size [.int .i64 st, hv, bv] := s2
 have ld : lLoad1 [.ptr H1.size (0 + 2)] H3 = some bv := load_cell x3.cells rfl
 have g3 : Gr H.size H H3 := (g1.trans g2 g1.size).trans (s3.gr (B := H.size) (by omega)) (Nat.le_refl _)
 have b3 : BodP (fun i => H.size ≤ i) H3 bv lb.length (ws .u8 lb) := by
  have c1 := hbv.weaken (Q := fun i => H.size ≤ i ∧ i < H1.size) g1.wf fun i hi q => ⟨q, hi⟩
  have c2 := c1.chg g1.wf g2.chg (P := fun i => H.size ≤ i ∧ i < H1.size) (Q := fun _ => False) (fun _ _ _ q => q)
  exact (c2.chg g2.wf (s3.chg (P := fun i => i = H1.size) rfl) (fun i _ q e => by omega)).weaken s3.wf fun i _ q => q.1
 obtain ⟨cap, rz, hcap⟩ := b3.roomZ
 have hx : LstZ (labN L H.size 1 (2 * r + 4)) 1 r H3 bv 1 cap lb.length (ws .u8 lb) := LstZ.new rz s3.wf (by simp [ws]) b3.rd.pLen hcap L 1 r
 have B3 := h.b1.mono h.wf 1 (2 * r + 4) g3
 obtain ⟨its', H4, τ4, L4, q1, q2, q3, q4, q5, q6⟩ := hK (labN L H.size 1 (2 * r + 4)) 1 K its H3 bv cap lb.length (ws .u8 lb) r s3.wf B3 (fun hm => by
  obtain ⟨it, hit, e⟩ := List.mem_map.1 hm
  have := h.k it hit; omega) hx (ws_scalB lb) (by omega) (by have := h.l; omega) h.g ⟨lb, rfl, rfl, by omega⟩ τ1
 have z3 := g3.size
 have hz : ∀ i, i < B0 → labN L H.size 1 (2 * r + 4) i = (0, 0) := fun i hi => by rw [labN_lt _ _ _ (by omega)]; exact h.z i hi
 have gK := Of.gr (OfB.of q4) (B := B0) (by omega) hz
 have hoff : ∀ i, i < B0 → ¬ OfB (labN L H.size 1 (2 * r + 4)) 1 i := fun i hi q => by have := q.1; rw [hz i hi] at this; simp at this
 refine ⟨L4, H4, its', τ4, ⟨q4.wf, q1, stor_chg (stor_gr h.st h.wf g3) s3.wf q4 (hoff s hsB) (hoff m hmB) (fun i _ hp => hoff i hp.1), fun it hit => ?_, fun it hit => ?_, by have := h.l; omega, fun i hi => by rw [q5 i (by omega)]; exact hz i hi, by have := q4.size; omega, ?_⟩, fun fr k f3 f4 f6 f7 => ?_⟩
 ·rcases q2 it hit with e | ⟨_, e2, e3⟩
  ·exact h.g it e
  ·rw [e2, e3]; exact ⟨lb, rfl, rfl, by omega⟩
 ·rcases q2 it hit with e | ⟨e1, _⟩
  ·have := h.k it e; omega
  ·omega
 ·have := h.gr.size
  exact (h.gr.trans g3 this).trans gK hB0
 ·have e0 : decide ((r : Int) < Int.ofNat 3) = true := decide_eq_true (by have : Int.ofNat 3 = 3 := rfl; omega)
  have e9 : wr .i64 ((r : Int) + Int.ofNat 1) = ((r + 1 : Nat) : Int) := adI (by omega)
  have k1' : ∀ q, c f_blob_Store_Read [.ptr s 0, .str u, .str (bs [98, 121, 116, 101, 115, 61, 48, 45]), .bool (decide ((r : Int) = 1))] H τ q = _ := k1
  have hb1 : ((r : Int) == Int.ofNat 1) = decide ((r : Int) = 1) := by rw [Bool.eq_iff_iff, beq_iff_eq, decide_eq_true_eq]; exact Iff.rfl
  have ex0 : pExtract 0 [.tup [.agg [.int .i64 st, hv, bv], .bool t]] = some (.agg [.int .i64 st, hv, bv]) := rfl
  have ex1 : pExtract 1 [.tup [.agg [.int .i64 st, hv, bv], .bool t]] = some (.bool t) := rfl
  simp only [s_law21_BlobKept_l1, getK_mk f3, getK_mk f4, getK_mk f6, getK_mk f7, bin_lss, e0, condK_tn, bin_eql, hb1, k1', ex0, ex1, someK_n, a1, effK_n, s1, fa_ptr, ld, q6, bin_add, e9]
abbrev ReadOk (c : CallK) : Prop := ∀ {P : Nat → Prop} {H : Heap} {s m k : Nat} {es : List Blb}, Stor P H s m k es → WF H → (∀ e ∈ es, e.cs.length < 400) → inH H 0 tabs = true → 6 ≤ H.size → ∀ (u : Bs), u.length < 9223372036854775807 → ∀ (ranged : Bs), ranged.length ≤ 9223372036854775806 → ∀ (has : Bool) (τ : Tape),
   ∃ res H' τ', Gr H.size H H' ∧ ReadRes H' H.size res (readE es u ranged has) ∧ ∀ q, c f_blob_Store_Read [.ptr s 0, .str u, .str ranged, .bool has] H τ q = q res H' τ'
abbrev PutOk (c : CallK) : Prop := ∀ {P : Nat → Prop} {H : Heap} {s m k : Nat} {es : List Blb}, Stor P H s m k es → WF H → (∀ i, P i → i < H.size) →
  ∀ {o : Bs}, Adr o → ∀ (kind : Bs), kind.length ≤ 9223372036854775806 → ∀ {bv : V} {n : Nat} {cs : List V}, Rd H 1 bv n cs → (∀ H', Chg (fun i => i = s) H H' → Rd H' 1 bv n cs ∧ Src H' bv) → n ≤ 140737488355328 → k < 90 → putErr kind n es.length = 0 → ∀ (τ : Tape),
  ∃ bv' H' τ', Stor (fun i => P i ∨ (H.size ≤ i ∧ i < H'.size)) H' s m (k + 1) (putE ⟨putU o (k + 1), valT kind, bv', cs⟩ es) ∧ Chg (fun i => i = s ∨ i = m) H H' ∧ ∀ q, c f_blob_Store_Put [.ptr s 0, org o, .str kind, bv] H τ q = q (.tup [.str (putU o (k + 1)), .int .i64 (Int.ofNat 0)]) H' τ'
theorem ws_take (la : List Nat) (k : Nat) : (ws .u8 la).take k = ws .u8 (la.take k) := by simp [ws, List.map_take]
theorem fewB_ret (c : CallK) (N : Nat) (v : V) (n k : Nat) (cs : List V) (hk : 0 < k) (hkk : k < 1000000) (H : Heap) (hR : Roomy v) (hRd : Rd H 1 v n cs) :
  ∃ v', Roomy v' ∧ (∀ H', Src H' v → Src H' v') ∧ (∀ H', Rd H' 1 v n cs → Rd H' 1 v' (min n k) (cs.take k)) ∧ ∀ H τ q, s_keep_FewBytes c N v (.int .i64 (k : Int)) H τ q = q v' H τ := by
 by_cases h : k < n
 ·rcases hRd with ⟨_, h0, _⟩ | ⟨id, off, lo, ex, all, rfl, q1, q2, q3⟩
  ·omega
  ·have hb : bounds3 false true false [V.int .i64 (k : Int)] = some (none, some k, none) := by simp only [bounds3, optN, natOf_mk]
   have hwi : within k lo ex = true := by have hR : within n lo ex = true := hR; rw [within_iff] at hR ⊢; omega
   have h0 : Nat.ble 0 k = true := Nat.ble_eq_true_of_le (Nat.zero_le _)
   have h1 : Nat.ble 0 lo = true := Nat.ble_eq_true_of_le (Nat.zero_le _)
   have e1 : decide ((k : Int) < (n : Int)) = true := decide_eq_true (by omega)
   refine ⟨.sl id off k lo ex 1, hwi, fun _ h => h, fun H' hd => ?_, fun H τ q => ?_⟩
   ·rcases hd with ⟨_, h0, _⟩ | ⟨id', off', lo', ex', all', e, q1, q2, q3⟩
    ·omega
    ·cases e
     rw [Nat.min_eq_right (by omega)]
     refine .inr ⟨id, off, lo, ex, all', rfl, q1, ?_, ?_⟩
     ·rw [q2, List.take_take]; congr 1; omega
     ·rw [List.length_take]; omega
   ·have hp : pLen [V.sl id off n lo ex 1] = some (.int .i64 (n : Int)) := rfl
    have hs : pSlSlice 1 false true false [V.sl id off n lo ex 1, V.int .i64 (k : Int)] = some (.sl id off k lo ex 1) := by
     simp only [pSlSlice, Nat.beq_refl, cond_true, hb, slCut, Option.getD_some, Option.getD_none, hwi, h0, Bool.and_self, h1, offIn, Nat.sub_zero]
    simp only [s_keep_FewBytes, hp, someK_mk, bin_gtr, e1, condK_t, hs]
 ·have e1 : decide ((k : Int) < (n : Int)) = false := decide_eq_false (by omega)
  refine ⟨v, hR, fun _ h => h, fun H' hd => ?_, fun H τ q => ?_⟩
  ·rw [Nat.min_eq_left (by omega), List.take_of_length_le (by have := hd.len; omega)]
   exact hd
  ·simp only [s_keep_FewBytes, hRd.pLen, someK_mk, bin_gtr, e1, condK_f]
theorem s_law21_BlobKept_ret (c c0 : CallK) {N : Nat} (hN : 9223372036854775808 < N) (hNew : ∀ H τ q, c f_blob_New [] H τ q = s_blob_New c0 N H τ q) (hOf : IsP c f_law21_of (RV OfPre OfG)) (hFew : ∀ v k H τ q, c f_keep_FewBytes [v, k] H τ q = s_keep_FewBytes c0 N v k H τ q) (hPut : PutOk c) (hRead : ReadOk c)
  (hK : KeepZ c f_book_Book_byte_Keep 1 GoodB) (hA : ApartZ c f_book_Book_byte_Apart 1 f_book_Bytes GoodB) (hKn : ∀ H τ q, c f_law21_known [] H τ q = q (.bool true) H τ)
  (la : List Nat) {v : V} {H : Heap} (hw : WF H) (hr : Rd H 1 v la.length (ws .u8 la)) (hs : Src H v) (hro : Roomy v) (ht : inH H 0 tabs = true) (hg : 6 ≤ H.size) (τ : Tape) :
  ∃ H' τ', Gr H.size H H' ∧ ∀ q, s_law21_BlobKept c N v H τ q = q (.bool true) H' τ' := by
 obtain ⟨H1, st1, g1, z1, k1⟩ := s_blob_New_ret c0 N hw τ
 have kO : ∀ H τ q, c f_law21_of [.str a1] H τ q = q (org a1) H τ := fun H τ q => RV_call hOf (vs := [.str a1]) (.inl rfl) H τ q
 obtain ⟨v', w1, w2, w3, w4⟩ := fewB_ret c0 N v la.length 100 (ws .u8 la) (by omega) (by omega) H hro hr
 have hmin : (ws .u8 la).take 100 = ws .u8 (la.take 100) := ws_take la 100
 have hlen : min la.length 100 = (la.take 100).length := by rw [List.length_take, Nat.min_comm]
 rw [hmin, hlen] at w3
 generalize hlb : la.take 100 = lb at w3
 have hl100 : lb.length ≤ 100 := by rw [← hlb, List.length_take]; omega
 have st0 : Stor (fun _ => False) H1 (H.size + 1) H.size 0 [] := ⟨st1.var, st1.map, fun e he => by simp at he, id, id⟩
 obtain ⟨bv, H2, τ2, p1, p2, p3⟩ := hPut st0 g1.wf (fun _ h => h.elim) (o := a1) (.inl rfl) [] (by decide) (w3 H1 (hr.gr g1 hw (Nat.le_refl _))) (fun H' hg' => by
   have gg : Gr H.size H H' := g1.trans (hg'.gr (B := H.size) g1.size (fun i hi e => by omega)) (Nat.le_refl _)
   exact ⟨w3 H' (hr.gr gg hw (Nat.le_refl _)), w2 H' (hs.gr gg hw (Nat.le_refl _))⟩) (by omega) (by omega) (by
   have : valO [] = true := by decide
   unfold putErr; rw [this]; simp; omega) τ
 have z2 := p2.size
 have g2 : Gr H.size H H2 := g1.trans (p2.gr (B := H.size) g1.size (fun i hi e => by omega)) (Nat.le_refl _)
 have hsm : H.size + 1 < H2.size ∧ H.size < H2.size := by omega
 have stB : Stor (fun i => i < H2.size ∧ i ≠ H.size + 1 ∧ i ≠ H.size) H2 (H.size + 1) H.size 1 [⟨putU a1 1, valT [], bv, ws .u8 lb⟩] :=
  stor_weaken p1 p2.wf (fun i hi h => by rcases h with h | h; exact h.elim; omega) (by simp) (by simp)
 have a4 : eAlloc [.nils, .nils, (.int .i64 (.ofNat 0)), (.bool false)] [] H2 τ2 = some (.ptr H2.size 0, H2.new [.nils, .nils, .int .i64 ((0 : Nat) : Int), .bool false] 4 true, τ2) := rfl
 have g3 := Gr.new p2.wf [.nils, .nils, .int .i64 ((0 : Nat) : Int), .bool false] 4 true
 have B1 := BookZ.newL 1 1 H2 (fun _ => (0, 0))
 generalize hH3 : H2.new [.nils, .nils, .int .i64 ((0 : Nat) : Int), .bool false] 4 true = H3 at a4 g3 B1
 have k0 : KBst H H2.size (labN (fun _ => (0, 0)) H2.size 1 1) H3 H2.size [] (H.size + 1) H.size ⟨putU a1 1, valT [], bv, ws .u8 lb⟩ 0 :=
  ⟨g3.wf, B1, stor_gr stB p2.wf g3, by simp, by simp, by simp, fun i hi => labN_lt _ _ _ hi, g3.size, g2.trans g3 g2.size⟩
 have hu : (putU a1 1).length < 9223372036854775807 := by decide
 obtain ⟨La, Ha, ia, τa, ka, ra⟩ := s_law21_BlobKept_round c N hRead hK hw ht hg (B0 := H2.size) (by omega) (la := lb) rfl (by omega) (putU a1 1) hu (r := 0) (by omega) k0 (by omega) (by omega) τ2
 obtain ⟨Lb, Hb, ib, τb, kb, rb⟩ := s_law21_BlobKept_round c N hRead hK hw ht hg (B0 := H2.size) (by omega) (la := lb) rfl (by omega) (putU a1 1) hu (r := 1) (by omega) ka (by omega) (by omega) τa
 obtain ⟨Lc, Hc, ic, τc, kc, rc⟩ := s_law21_BlobKept_round c N hRead hK hw ht hg (B0 := H2.size) (by omega) (la := lb) rfl (by omega) (putU a1 1) hu (r := 2) (by omega) kb (by omega) (by omega) τb
 obtain ⟨Hd, τd, d1, d2⟩ := hA Lc 1 H2.size ic Hc kc.wf kc.b1 (by have := kc.l; omega) kc.g τc
 refine ⟨Hd, τd, kc.gr.trans (Of.gr d1 (B := H.size) kc.gr.size (fun i hi => kc.z i (by omega))) (Nat.le_refl _), fun q => ?_⟩
 obtain ⟨m, rfl⟩ : ∃ m, N = m + 1 + 1 + 1 + 1 := ⟨N - 4, by omega⟩
 have ep : ∀ i H, lPeq false [.ptr i 0, .nilp] H = some (.bool false) := fun _ _ => rfl
 have ex0 : pExtract 0 [.tup [.str (putU a1 1), .int .i64 (Int.ofNat 0)]] = some (.str (putU a1 1)) := rfl
 have ex1 : pExtract 1 [.tup [.str (putU a1 1), .int .i64 (Int.ofNat 0)]] = some (.int .i64 (Int.ofNat 0)) := rfl
 have w4' : ∀ H τ q, s_keep_FewBytes c0 (m + 1 + 1 + 1 + 1) v (.int .i64 (Int.ofNat 100)) H τ q = q v' H τ := w4
 simp only [s_law21_BlobKept, hNew, k1, ep, someK_n, condK_fn, show bs [104, 116, 116, 112, 115, 58, 47, 47, 97] = a1 from rfl, kO, hFew, w4', p3, ex0, ex1, a4, effK_n]
 rw [loopK_succ, ra _ _ (by simp [T.get_set]) (by simp [T.get_set]) (by simp [T.get_set]) (by simp [T.get_set])]
 simp only [seqK]
 rw [loopK_succ, rb _ _ (by simp [T.get_set]) (by simp [T.get_set]) (by simp [T.get_set]) (by simp [T.get_set])]
 simp only [seqK]
 rw [loopK_succ, rc _ _ (by simp [T.get_set]) (by simp [T.get_set]) (by simp [T.get_set]) (by simp [T.get_set])]
 simp only [seqK]
 rw [loopK_succ]
 have e2 : decide (((2 + 1 : Nat) : Int) < Int.ofNat 3) = false := by decide
 simp only [s_law21_BlobKept_l1, getK_set, ↓reduceIte, Nat.reduceEqDiff, someK_n, effK_n, retK, gK_do, gK_do', gK_skip, gK_skip', gK_none, pick_mk, cond_true, cond_false, condK_tn, condK_fn, bin_eql, bin_neq, bin_lss, bin_leq, bin_gtr, bin_geq, un_not, Bool.not_true, Bool.not_false, bin_str, lenS_mk, nle_l, nle_r, nle_n, nlt_l, nlt_r, nlt_n, neq_r, neq_n, nne_r, nne_n, ext0, ext1, ext30, ext31, ext32, bin_add, bin_sub, decide_true, decide_false, bin_lss, e2]
 simp only [seqK, blockK, Nat.beq_refl, cond_true, s_law21_BlobKept_j0, getK_set, ↓reduceIte, Nat.reduceEqDiff, someK_n, effK_n, retK, gK_do, gK_do', gK_skip, gK_skip', gK_none, pick_mk, cond_true, cond_false, condK_tn, condK_fn, bin_eql, bin_neq, bin_lss, bin_leq, bin_gtr, bin_geq, un_not, Bool.not_true, Bool.not_false, bin_str, lenS_mk, nle_l, nle_r, nle_n, nlt_l, nlt_r, nlt_n, neq_r, neq_n, nne_r, nne_n, ext0, ext1, ext30, ext31, ext32, bin_add, bin_sub, decide_true, decide_false, d2, hKn]
end Go.Am.X

namespace Go.Am.X
def BlobKeptR (vs : List V) (H : Heap) (o : Out) : Prop := (∃ (v : V) (la : List Nat), vs = [v] ∧ Rd H 1 v la.length (ws .u8 la) ∧ Src H v ∧ Roomy v ∧ inH H 0 tabs = true ∧ 6 ≤ H.size) ∧ o = .val (.bool true)
noncomputable abbrev rw_BlobKept : List Row := [Row.fn f_law21_BlobKept fn_law21_BlobKept e_law21_BlobKept, Row.fn f_blob_New fn_blob_New e_blob_New, Row.prim f_law21_of (outP (RV OfPre OfG)), Row.fn f_keep_FewBytes fn_keep_FewBytes e_keep_FewBytes,
 Row.fn f_blob_Store_Put fn_blob_Store_Put e_blob_Store_Put, Row.fn f_blob_Store_Read fn_blob_Store_Read e_blob_Store_Read, Row.fn f_blob_reply fn_blob_reply e_blob_reply, Row.fn f_blob_number fn_blob_number e_blob_number, Row.fn f_slices_Clone_byte fn_slices_Clone_byte e_slices_Clone_byte,
 Row.prim f_strconv_FormatInt (outP (RG tabs FmtPre FmtG)), Row.prim f_strconv_Itoa (outP (RV ItoPre ItoG)), Row.prim f_origin_Text (outP (RV TxtPre TxtG)), Row.prim f_headers_Value (outP ValueR), Row.prim f_headers_Range (outP RngR), Row.prim f_strings_Cut (outP CutR),
 Row.fn f_book_Book_byte_Keep fn_book_Book_byte_Keep e_book_Book_byte_Keep, Row.fn f_book_Book_byte_Apart fn_book_Book_byte_Apart e_book_Book_byte_Apart, Row.fn f_book_Book_byte_Stays fn_book_Book_byte_Stays e_book_Book_byte_Stays, Row.fn f_book_Same_byte fn_book_Same_byte e_book_Same_byte, Row.fn f_book_Bytes fn_book_Bytes e_book_Bytes, Row.prim f_law21_known closedP]
theorem closedP_callB {c : CallK} {f : Nat} (h : ∀ vs H τ q, c f vs H τ q = effK (closedP vs H τ) q) : ∀ H τ q, c f [] H τ q = q (.bool true) H τ := fun H τ q => by rw [h]; rfl
theorem someN3 : ∃ N : Nat, 9223372036854775808 < N := ⟨9223372036854775809, by decide⟩
theorem blobKept_ok : ∀ base w0, PrimOk PG base w0 f_law21_BlobKept (outP BlobKeptR) := by
 obtain ⟨N, hN⟩ := someN3
 refine primOk_out mixed_ok (l := rw_BlobKept) (.fn ok_law21_BlobKept e_law21_BlobKept_ok (.fn ok_blob_New e_blob_New_ok (.prim p_law21_of (.fn ok_keep_FewBytes e_keep_FewBytes_ok (.fn ok_blob_Store_Put e_blob_Store_Put_ok (.fn ok_blob_Store_Read e_blob_Store_Read_ok (.fn ok_blob_reply e_blob_reply_ok (.fn ok_blob_number e_blob_number_ok (.fn ok_slices_Clone_byte e_slices_Clone_byte_ok (.prim p_fmt (.prim p_itoa (.prim p_origin_Text (.prim p_headers_Value (.prim p_headers_Range (.prim p_strings_Cut (.fn ok_book_Book_byte_Keep e_book_Book_byte_Keep_ok (.fn ok_book_Book_byte_Apart e_book_Book_byte_Apart_ok (.fn ok_book_Book_byte_Stays e_book_Book_byte_Stays_ok (.fn ok_book_Same_byte e_book_Same_byte_ok (.fn ok_book_Bytes e_book_Bytes_ok (.prim closed_law21_known_ok (.nil _)))))))))))))))))))))) N 8 _ ?_
 rintro vs H o hw hvs ⟨⟨v, la, rfl, hr, hs, hro, ht, hg⟩, rfl⟩ τ
 have clone : ∀ d, CloneOk (CR rw_BlobKept N (d + 1)) := fun d _ _ _ _ h1 h2 h3 h4 τ => s_slices_Clone_byte_ret (CR rw_BlobKept N d) N h1 h2 h3 h4 τ
 have numb : ∀ d, NumOk (CR rw_BlobKept N (d + 2)) := fun d n hn H ht τ q => s_blob_number_ret (CR rw_BlobKept N (d + 1)) N (fun _ _ _ _ => rfl) n hn H ht τ q
 have reply : ∀ d, ReplyOk (CR rw_BlobKept N (d + 3)) := fun d st kind _ _ _ _ _ _ h1 h2 h3 h4 h5 h6 h7 h8 h9 τ => s_blob_reply_ret (CR rw_BlobKept N (d + 2)) N (numb d) (clone (d + 1)) st kind h1 h2 h3 h4 h5 h6 h7 h8 h9 τ
 have read : ReadOk (CR rw_BlobKept N 7) := fun h1 h2 h3 h4 h5 u hu rg hrg has τ => s_blob_Store_Read_ret (CR rw_BlobKept N 6) N (k_strings_Cut fun _ _ _ _ => rfl) (k_Range fun _ _ _ _ => rfl) (numb 4) (reply 3) h1 h2 h3 h4 h5 u hu rg hrg has τ
 have put : PutOk (CR rw_BlobKept N 7) := fun h1 h2 h3 _ h4 kind h5 _ _ _ h6 h7 h8 h9 h10 τ => s_blob_Store_Put_ok (CR rw_BlobKept N 6) N (fun _ _ _ _ => rfl) (fun _ _ _ _ => rfl) (fun _ _ _ _ => rfl) (clone 5) h1 h2 h3 h4 kind h5 h6 h7 h8 h9 h10 τ
 obtain ⟨H', τ', g, k⟩ := s_law21_BlobKept_ret (CR rw_BlobKept N 7) (CR rw_BlobKept N 6) hN (fun _ _ _ => rfl) (fun _ _ _ _ => rfl) (fun _ _ _ _ _ => rfl) put read
  (keepZ_byte (c' := CR rw_BlobKept N 6) (c0 := CR rw_BlobKept N 5) (by omega) (fun _ _ _ _ _ => rfl) (fun _ _ _ _ _ => rfl)) (apartZ_byte (c' := CR rw_BlobKept N 6) (c'' := CR rw_BlobKept N 5) (c0 := CR rw_BlobKept N 4) hN (fun _ _ _ _ _ => rfl) (fun _ _ _ _ _ => rfl) (fun _ _ _ _ => rfl) (fun _ _ _ _ _ => rfl))
  (closedP_callB fun _ _ _ _ => rfl) la hw hr hs hro ht hg τ
 exact ⟨_, H', τ', k retK, g, rfl, trivial⟩
theorem blobKept_fun : Fun1 BlobKeptR := fun vs H o o' k k' => k.2.trans k'.2.symm
theorem blobKept_in {v : V} {H : Heap} {la : List Nat} (hr : Rd H 1 v la.length (ws .u8 la) ∧ Src H v) (hro : Roomy v) (ht : inH H 0 tabs = true) (hg : 6 ≤ H.size) (τ : Tape) : outP BlobKeptR [v] H τ = some (.bool true, H, τ) :=
 outP_mk blobKept_fun ⟨⟨v, la, rfl, hr.1, hr.2, hro, ht, hg⟩, rfl⟩ τ
theorem tabs_start {l : List (Option (List V))} (h : l[1]? = some (some pow10V)) : inH (start l) 0 tabs = true :=
 inH_mk tabs 0 tabs_plain fun j cs hj => by
  obtain ⟨rfl, rfl⟩ := tabs_at hj
  rw [Nat.zero_add]; exact start_cells h
end Go.Am.X

