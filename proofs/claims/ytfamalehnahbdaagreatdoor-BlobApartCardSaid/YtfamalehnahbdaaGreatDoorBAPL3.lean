/- The abstract machine, printed functions of the program, and what they are shown to be. -/
import Derived.Test.YtfamalehnahbdaaGreatDoorBAPL2
set_option linter.unusedSimpArgs false
set_option linter.unusedVariables false
set_option linter.unusedSectionVars false
set_option maxRecDepth 100000
namespace Go.Am.X
theorem s_book_Within_gen (c : CallK) (N : Nat) (n : Int) {h : Nat} (hh : h < 4611686018427387903) (H : Heap) (τ : Tape) : ∃ m : Nat, m ≤ h ∧ ∀ q, s_book_Within c N (.int .i64 n) (.int .i64 (.ofNat 0)) (.int .i64 (h : Int)) H τ q = q (.int .i64 (m : Int)) H τ := by
 have h1 := Int.tmod_lt_of_pos n (b := (h : Int) + 1) (by omega)
 have h2 := Int.lt_tmod_of_pos n (b := (h : Int) + 1) (by omega)
 have e1 : wr .i64 ((h : Int) - Int.ofNat 0) = h := by rw [wr_id (by simp <;> omega) (by simp <;> omega)]; simp
 have e2 : wr .i64 ((h : Int) + Int.ofNat 1) = (h : Int) + 1 := by rw [wr_id (by simp <;> omega) (by simp <;> omega)]; simp
 have er := bin_rem (k := .i64) n ((h : Int) + 1)
 generalize hr : n.tmod ((h : Int) + 1) = r at h1 h2
 by_cases hneg : r < 0
 ·refine ⟨(r + (h + 1)).toNat, by omega, fun q => ?_⟩
  have e3 : decide (r < Int.ofNat 0) = true := decide_eq_true hneg
  have e4 : wr .i64 (r + (h : Int)) = r + h := by rw [wr_id (by omega) (by omega)]
  have e5 : wr .i64 (r + h - Int.ofNat 0) = r + h := by rw [wr_id (by simp <;> omega) (by simp <;> omega)]; simp
  have e6 : wr .i64 (r + h + Int.ofNat 1) = r + (h + 1) := by rw [wr_id (by simp <;> omega) (by simp <;> omega)]; simp; try omega
  have e7 : wr .i64 (Int.ofNat 0 + (r + (h + 1))) = (((r + (h + 1)).toNat : Nat) : Int) := by rw [wr_id (by simp <;> omega) (by simp <;> omega)]; simp; try omega
  simp only [s_book_Within, bin_sub, e1, bin_add, e2, bin_rem _ _ ((h : Int) + 1) (by omega), hr, bin_lss, e3, condK_tn, e4, e5, e6, s_book_Within_j0, getK_set, ↓reduceIte, Nat.reduceEqDiff, e7]
 ·refine ⟨r.toNat, by omega, fun q => ?_⟩
  have e3 : decide (r < Int.ofNat 0) = false := decide_eq_false hneg
  have e7 : wr .i64 (Int.ofNat 0 + r) = ((r.toNat : Nat) : Int) := by rw [wr_id (by simp <;> omega) (by simp <;> omega)]; simp; omega
  simp only [s_book_Within, bin_sub, e1, bin_add, e2, bin_rem _ _ ((h : Int) + 1) (by omega), hr, bin_lss, e3, condK_fn, s_book_Within_j0, getK_set, ↓reduceIte, Nat.reduceEqDiff, e7]
end Go.Am.X

namespace Go.Am.X
abbrev urlA (j : Nat) : Bs := putU a1 (j + 1)
abbrev cellA (j : Nat) : V := .int .u8 (j : Int)
theorem urlA_inj {i j : Nat} (hi : i < 1000) (hj : j < 1000) (h : urlA i = urlA j) : i = j := by
 have h1 : dig (i + 1) = dig (j + 1) := List.append_cancel_left h
 have h2 := intB_dig (i + 1) (by omega)
 rw [h1, intB_dig (j + 1) (by omega)] at h2
 have := congrArg (·.1) h2
 simp at this
 omega
theorem urlA_cut : ∀ j, j < 40 → uCut (urlA j) = urlA j := by decide
theorem urlA_len (j : Nat) : (urlA j).length ≤ 100 := by
 have := (dig_ok (j + 1)).2.2
 show ((([98, 108, 111, 98, 58] ++ orgT a1) ++ [47]) ++ dig (j + 1)).length ≤ 100
 have h2 := orgT_len (o := a1) (.inl rfl)
 simp only [List.length_append, List.length_cons, List.length_nil]
 omega
theorem urlA_text (j : Nat) : strBin .add (bs [98, 108, 111, 98, 58, 104, 116, 116, 112, 115, 58, 47, 47, 97, 47]) (dig (j + 1)) = some (.str (urlA j)) :=
 str_add (by have := (dig_ok (j + 1)).2.2; simp [bs]; omega)
def Lin (es : List Blb) (n : Nat) : Prop := es.map (fun e => (e.url, e.cs)) = (List.range n).map fun j => (urlA j, [cellA j])
theorem Lin.len {es : List Blb} {n : Nat} (h : Lin es n) : es.length = n := by have := congrArg List.length h; simpa using this
theorem Lin.mem {es : List Blb} {n : Nat} (h : Lin es n) {e : Blb} (he : e ∈ es) : ∃ j, j < n ∧ e.url = urlA j ∧ e.cs = [cellA j] := by
 have : (e.url, e.cs) ∈ es.map (fun e => (e.url, e.cs)) := List.mem_map.2 ⟨e, he, rfl⟩
 rw [h] at this
 obtain ⟨j, hj, e1⟩ := List.mem_map.1 this
 simp only [Prod.mk.injEq] at e1
 exact ⟨j, List.mem_range.1 hj, e1.1.symm, e1.2.symm⟩
theorem Lin.nodup {es : List Blb} {n : Nat} (h : Lin es n) (hn : n < 1000) : (es.map Blb.url).Nodup := by
 have e1 : es.map Blb.url = (List.range n).map urlA := by
  have := congrArg (List.map (·.1)) h
  simpa [List.map_map, Function.comp_def] using this
 rw [e1]
 exact List.pairwise_map.2 (List.nodup_range.imp_of_mem fun {a b} ha hb hne e => hne (urlA_inj (by have := List.mem_range.1 ha; omega) (by have := List.mem_range.1 hb; omega) e))
theorem putE_new {x : Blb} : ∀ {es : List Blb}, (∀ e ∈ es, e.url ≠ x.url) → putE x es = es ++ [x] := by
 intro es
 induction es with
 | nil => intro _; rfl
 | cons e r ih =>
  intro h
  rw [putE, if_neg (h e List.mem_cons_self), ih fun e he => h e (List.mem_cons_of_mem _ he)]
  rfl
theorem Lin.put {es : List Blb} {n : Nat} (h : Lin es n) (hn : n < 900) (k : Bs) (bv : V) : putE ⟨urlA n, k, bv, [cellA n]⟩ es = es ++ [⟨urlA n, k, bv, [cellA n]⟩] ∧ Lin (es ++ [⟨urlA n, k, bv, [cellA n]⟩]) (n + 1) := by
 refine ⟨putE_new fun e he heq => ?_, ?_⟩
 ·obtain ⟨j, hj, e1, _⟩ := h.mem he
  have : j = n := urlA_inj (by omega) (by omega) (e1.symm.trans heq)
  omega
 ·unfold Lin at *
  rw [List.map_append, h, List.range_succ, List.map_append]
  rfl
theorem findE_nodup {u : Bs} : ∀ {es : List Blb}, (es.map Blb.url).Nodup → ∀ (w : Bs), findE u (delE w es) = if u = w then none else findE u es := by
 intro es
 induction es with
 | nil => intro _ w; simp [delE, findE]
 | cons e r ih =>
  intro h w
  obtain ⟨h1, h2⟩ := List.nodup_cons.1 (show (e.url :: r.map Blb.url).Nodup from h)
  rw [delE]
  by_cases hw : e.url = w
  ·rw [if_pos hw]
   by_cases hu : u = w
   ·rw [if_pos hu]
    unfold findE
    rw [List.find?_eq_none]
    intro x hx hc
    have : x.url = u := by simpa using hc
    exact h1 (List.mem_map.2 ⟨x, hx, by rw [this, hu, hw]⟩)
   ·rw [if_neg hu]
    unfold findE
    rw [List.find?_cons]
    have : (e.url == u) = false := beq_eq_false_iff_ne.2 (by rw [hw]; exact Ne.symm hu)
    rw [this]
  ·rw [if_neg hw]
   have hi := ih h2 w
   unfold findE at hi ⊢
   rw [List.find?_cons, List.find?_cons]
   cases hc : (e.url == u) with
   | true =>
    have : e.url = u := by simpa using hc
    rw [if_neg (by rw [← this]; exact hw)]
   | false => exact hi
theorem Lin.find {es : List Blb} {n : Nat} (h : Lin es n) (hn : n < 900) {j : Nat} (hj : j < n) : ∃ e, findE (urlA j) es = some e ∧ e.cs = [cellA j] := by
 have hm : (urlA j, [cellA j]) ∈ es.map (fun e => (e.url, e.cs)) := by
  rw [h]; exact List.mem_map.2 ⟨j, List.mem_range.2 hj, rfl⟩
 obtain ⟨e0, he0, e1⟩ := List.mem_map.1 hm
 simp only [Prod.mk.injEq] at e1
 cases hf : findE (urlA j) es with
 | none =>
  unfold findE at hf
  have := List.find?_eq_none.1 hf e0 he0
  rw [e1.1] at this
  simp at this
 | some e =>
  obtain ⟨j', hj', h1, h2⟩ := h.mem (findE_mem hf)
  have h3 : e.url = urlA j := by
   unfold findE at hf
   have := List.find?_some hf
   simpa using this
  have : j' = j := urlA_inj (by omega) (by omega) (h1.symm.trans h3)
  subst this
  exact ⟨e, rfl, h2⟩
theorem delE_len {u : Bs} : ∀ {es : List Blb} {e : Blb}, findE u es = some e → (delE u es).length + 1 = es.length := by
 intro es
 induction es with
 | nil => intro e h; cases h
 | cons x r ih =>
  intro e h
  rw [delE]
  by_cases hx : x.url = u
  ·rw [if_pos hx]; rfl
  ·rw [if_neg hx]
   unfold findE at h
   rw [List.find?_cons] at h
   have : (x.url == u) = false := beq_eq_false_iff_ne.2 hx
   rw [this] at h
   have := ih (e := e) h
   simp only [List.length_cons]
   omega
structure ApI (H0 : Heap) (s m i : Nat) (H : Heap) (uv : V) (es : List Blb) (PB PU : Nat → Prop) : Prop where
 wf : WF H
 gr : Gr H0.size H0 H
 st : Stor PB H s m i es
 lin : Lin es i
 own : OwnP PU H 1 uv i ((List.range i).map fun j => V.str (urlA j))
 pb : ∀ x, PB x → H0.size + 2 ≤ x ∧ x < H.size
 pu : ∀ x, PU x → H0.size + 2 ≤ x ∧ x < H.size
 dis : ∀ x, PB x → PU x → False
 sm : s = H0.size + 1 ∧ m = H0.size ∧ H0.size + 2 ≤ H.size
abbrev Dig21Ok' (c : CallK) : Prop := ∀ (n : Nat), n < 100000000 → ∀ H τ q, c f_law21_digits [.int .i64 (n : Int)] H τ q = q (.str (dig n)) H τ
theorem ApI.round {c : CallK} (N : Nat) (hOf : IsP c f_law21_of (RV OfPre OfG)) (hPut : PutOk c) (hD : Dig21Ok' c) {H0 : Heap} {s m i n at' : Nat} {H : Heap} {uv : V} {es : List Blb} {PB PU : Nat → Prop} (h : ApI H0 s m i H uv es PB PU) (hi : i < n) (hn : n ≤ 32) (τ : Tape) :
  ∃ uv' H' τ' es' PB' PU', ApI H0 s m (i + 1) H' uv' es' PB' PU' ∧ ∀ (fr : T V) k, fr.get 0 = some (.int .i64 (n : Int)) → fr.get 1 = some (.int .i64 (at' : Int)) → fr.get 5 = some (.ptr s 0) → fr.get 6 = some uv → fr.get 7 = some (.int .i64 (i : Int)) →
   s_law21_BlobApart_l3 c N ⟨fr, H⟩ τ k = k .normal ⟨(T.set (T.set (T.set (T.set (T.set (T.set (T.set (T.set .leaf 0 (.int .i64 (n : Int))) 1 (.int .i64 (at' : Int))) 5 (.ptr s 0)) 6 uv') 7 (.int .i64 (i : Int))) 28 (.int .i64 (i : Int))) 29 (.int .i64 ((i + 1 : Nat) : Int))) 7 (.int .i64 ((i + 1 : Nat) : Int))), H'⟩ τ' := by
 obtain ⟨hs, hm, hz⟩ := h.sm
 have kO : ∀ H τ q, c f_law21_of [.str a1] H τ q = q (org a1) H τ := fun H τ q => RV_call hOf (vs := [.str a1]) (.inl rfl) H τ q
 have e8 : wr .u8 (i : Int) = (i : Int) := by
  have h255 : Nat.ble i (maxN .u8) = true := Nat.ble_eq_true_of_le (by show i ≤ 255; omega)
  show wr .u8 (Int.ofNat i) = Int.ofNat i
  simp only [wr, h255, cond_true]
 have e4 : eBuildSlice 1 1 [.int .u8 (.ofNat 0)] [(0, 1)] [cellA i] H τ = some (.sl H.size 0 1 1 none 1, H.new [cellA i] 1 false, τ) := rfl
 have g1 := Gr.new h.wf [cellA i] 1 false
 have b1 : Bx (H.new [cellA i] 1 false) H.size [cellA i] := Bx.new H _ _ _ (by simp)
 have z1 : (H.new [cellA i] 1 false).size = H.size + 1 := rfl
 generalize hH1 : H.new [cellA i] 1 false = H1 at e4 g1 b1 z1
 have st1 := stor_gr h.st h.wf g1
 have hB : ∀ H', Bx H' H.size [cellA i] → Rd H' 1 (.sl H.size 0 1 1 none 1) 1 [cellA i] ∧ Src H' (.sl H.size 0 1 1 none 1) := fun H' hb =>
  ⟨.inr ⟨H.size, 0, 1, none, _, rfl, hb.cells, rfl, rfl⟩, ⟨_, hb.cells⟩⟩
 obtain ⟨bv, H2, τ2, p1, p2, p3⟩ := hPut st1 g1.wf (fun x hx => by have := h.pb x hx; omega) (o := a1) (.inl rfl) [] (by decide) (hB H1 b1).1 (fun H' hg' => hB H' (b1.chg g1.wf hg' (by omega))) (by omega) (by omega) (by
   have hv : valO [] = true := by decide
   unfold putErr; rw [hv, h.lin.len]; simp; omega) τ
 obtain ⟨q1, q2⟩ := h.lin.put (by omega) (valT []) bv
 rw [q1] at p1
 have z2 := p2.size
 have own2 : OwnP PU H2 1 uv i ((List.range i).map fun j => V.str (urlA j)) := (h.own.chg h.wf (g1.chg (P := fun _ => False)) fun _ _ _ => not_false).chg g1.wf p2 fun x _ hx => by
  have := h.pu x hx; omega
 obtain ⟨w, H3, uv', H4, r1, r2, r3, r4, _, g3, r5⟩ := own2.push (bytes := 16) p2.wf (.str (urlA i)) (.str []) rfl rfl (by omega) (by omega) τ2
 have hcs : ((List.range i).map fun j => V.str (urlA j)) ++ [V.str (urlA i)] = (List.range (i + 1)).map fun j => V.str (urlA j) := by rw [List.range_succ, List.map_append]; rfl
 rw [hcs] at r3
 have z4 := r4.size
 have gr4 : Gr H0.size H0 H4 := ((h.gr.trans g1 (by omega)).trans (p2.gr (B := H0.size) (by omega) (fun x hx e => by omega)) (Nat.le_refl _)).trans (r4.gr (B := H0.size) (by omega) (fun x hx e => by have := h.pu x e; omega)) (Nat.le_refl _)
 refine ⟨uv', H4, τ2.tail, _, fun x => PB x ∨ (H1.size ≤ x ∧ x < H2.size), fun x => ((x < H2.size ∧ PU x) ∨ H2.size ≤ x) ∧ x < H4.size, ⟨r4.wf, gr4, stor_chg p1 p2.wf r4 (fun hx => by have := h.pu _ hx; omega) (fun hx => by have := h.pu _ hx; omega) (fun x _ hx hu => by
   rcases hx with hx | hx
   ·exact h.dis x hx hu
   ·have := h.pu x hu; omega), q2, r3.weaken r4.wf fun x hx hu => ⟨hu, hx⟩, fun x hx => by
   rcases hx with hx | hx
   ·have := h.pb x hx; omega
   ·omega, fun x hx => by
   obtain ⟨hx | hx, hl⟩ := hx
   ·have := h.pu x hx.2; omega
   ·omega, fun x hx hu => by
   rcases hx with hx | hx
   ·obtain ⟨hu | hu, _⟩ := hu
    ·exact h.dis x hx hu.2
    ·have := h.pb x hx; omega
   ·obtain ⟨hu | hu, _⟩ := hu
    ·have := h.pu x hu.2; omega
    ·omega, ⟨hs, hm, by omega⟩⟩, fun fr k f0 f1 f5 f6 f7 => ?_⟩
 have e0 : decide ((i : Int) < (n : Int)) = true := decide_eq_true (by omega)
 have ex0 : pExtract 0 [.tup [.str (putU a1 (i + 1)), .int .i64 (Int.ofNat 0)]] = some (.str (urlA i)) := rfl
 have ex1 : pExtract 1 [.tup [.str (putU a1 (i + 1)), .int .i64 (Int.ofNat 0)]] = some (.int .i64 (Int.ofNat 0)) := rfl
 have en0 : (Int.ofNat 0 != Int.ofNat 0) = false := rfl
 have e9 : wr .i64 ((i : Int) + Int.ofNat 1) = ((i + 1 : Nat) : Int) := adI (by omega)
 have kd := fun H τ q => hD (i + 1) (by omega) H τ q
 have sn : ∀ x : Bs, strBin .neq x x = some (.bool false) := fun x => by simp [strBin, eqB_eq]
 simp only [s_law21_BlobApart_l3, getK_mk f0, getK_mk f1, getK_mk f5, getK_mk f6, getK_mk f7, bin_lss, e0, condK_tn, show bs [104, 116, 116, 112, 115, 58, 47, 47, 97] = a1 from rfl, kO, toInt_mk, e8, e4, effK_n, p3, ex0, ex1, someK_n, bin_neq, en0, gK_do', retK, bin_add, e9, kd, bin_str, urlA_text, sn, pick_mk, cond_false, condK_fn, r1, r2]
end Go.Am.X

namespace Go.Am.X
abbrev WithinOkA (c : CallK) : Prop := ∀ (n : Int) {h : Nat}, h < 4611686018427387903 → ∀ (H : Heap) (τ : Tape), ∃ m : Nat, m ≤ h ∧ ∀ q, c f_book_Within [.int .i64 n, .int .i64 (.ofNat 0), .int .i64 (h : Int)] H τ q = q (.int .i64 (m : Int)) H τ
theorem ApI.loop {c : CallK} (N : Nat) (hOf : IsP c f_law21_of (RV OfPre OfG)) (hPut : PutOk c) (hD : Dig21Ok' c) {H0 : Heap} {s m n at' : Nat} (hn : n ≤ 32) : ∀ (r i : Nat) {H : Heap} {uv : V} {es : List Blb} {PB PU : Nat → Prop}, i + r = n → ApI H0 s m i H uv es PB PU → ∀ (τ : Tape),
  ∃ uv' H' τ' es' PB' PU', ApI H0 s m n H' uv' es' PB' PU' ∧ ∀ (fr : T V) (M : Nat) k, r < M → fr.get 0 = some (.int .i64 (n : Int)) → fr.get 1 = some (.int .i64 (at' : Int)) → fr.get 5 = some (.ptr s 0) → fr.get 6 = some uv → fr.get 7 = some (.int .i64 (i : Int)) →
   loopK (s_law21_BlobApart_l3 c N) M ⟨fr, H⟩ τ k = k (.exit 0) ⟨(T.set (T.set (T.set (T.set .leaf 0 (.int .i64 (n : Int))) 1 (.int .i64 (at' : Int))) 5 (.ptr s 0)) 6 uv'), H'⟩ τ' := by
 intro r
 induction r with
 | zero =>
  intro i H uv es PB PU hi h τ
  have : i = n := by omega
  subst this
  refine ⟨uv, H, τ, es, PB, PU, h, fun fr M k hM f0 f1 f5 f6 f7 => ?_⟩
  obtain ⟨M, rfl⟩ : ∃ j, M = j + 1 := ⟨M - 1, by omega⟩
  have e0 : decide ((i : Int) < (i : Int)) = false := decide_eq_false (by omega)
  rw [loopK_succ]
  simp only [s_law21_BlobApart_l3, getK_mk f0, getK_mk f1, getK_mk f5, getK_mk f6, getK_mk f7, bin_lss, e0, condK_fn, seqK]
 | succ r ih =>
  intro i H uv es PB PU hi h τ
  obtain ⟨uv1, H1, τ1, es1, PB1, PU1, h1, k1⟩ := h.round N hOf hPut hD (at' := at') (n := n) (by omega) hn τ
  obtain ⟨uv2, H2, τ2, es2, PB2, PU2, h2, k2⟩ := ih (i + 1) (by omega) h1 τ1
  refine ⟨uv2, H2, τ2, es2, PB2, PU2, h2, fun fr M k hM f0 f1 f5 f6 f7 => ?_⟩
  obtain ⟨M, rfl⟩ : ∃ j, M = j + 1 := ⟨M - 1, by omega⟩
  rw [loopK_succ, k1 fr _ f0 f1 f5 f6 f7]
  simp only [seqK]
  exact k2 _ M k (by omega) (by simp [T.get_set]) (by simp [T.get_set]) (by simp [T.get_set]) (by simp [T.get_set]) (by simp [T.get_set])
structure ApR (s m n at' : Nat) (H : Heap) (uv : V) (es : List Blb) (PB : Nat → Prop) : Prop where
 wf : WF H
 st : Stor PB H s m n (delE (urlA at') es)
 lin : Lin es n
 rd : Rd H 1 uv n ((List.range n).map fun j => V.str (urlA j))
theorem ApR.next {s m n at' : Nat} {H H' : Heap} {uv : V} {es : List Blb} {PB : Nat → Prop} (h : ApR s m n at' H uv es PB) (g : Gr H.size H H') : ApR s m n at' H' uv es PB :=
 ⟨g.wf, stor_gr h.st h.wf g, h.lin, h.rd.gr g h.wf (Nat.le_refl _)⟩
theorem ApR.round {c : CallK} (N : Nat) (hRead : ReadOk c) {s m n at' : Nat} {H : Heap} {uv : V} {es : List Blb} {PB : Nat → Prop} (h : ApR s m n at' H uv es PB) (hn : n ≤ 32) (hat : at' < n) (ht : inH H 0 tabs = true) (hg : 6 ≤ H.size) {j : Nat} (hj : j < n) (τ : Tape) :
  ∃ H' τ', Gr H.size H H' ∧ ∀ (fr : T V) k, fr.get 0 = some (.int .i64 (n : Int)) → fr.get 1 = some (.int .i64 (at' : Int)) → fr.get 5 = some (.ptr s 0) → fr.get 6 = some uv → fr.get 10 = some (.int .i64 (j : Int)) →
   s_law21_BlobApart_l2 c N ⟨fr, H⟩ τ k = k .normal ⟨(T.set (T.set (T.set (T.set (T.set (T.set (T.set (T.set .leaf 0 (.int .i64 (n : Int))) 1 (.int .i64 (at' : Int))) 5 (.ptr s 0)) 6 uv) 10 (.int .i64 (j : Int))) 63 (.int .i64 (j : Int))) 64 (.int .i64 ((j + 1 : Nat) : Int))) 10 (.int .i64 ((j + 1 : Nat) : Int))), H'⟩ τ' := by
 obtain ⟨p, i1, i2⟩ := h.rd.elem1 (i := j) (x := .str (urlA j)) (by rw [List.getElem?_map, List.getElem?_range hj]; rfl)
 have hlen : ∀ e ∈ delE (urlA at') es, e.cs.length < 400 := fun e he => by
  obtain ⟨_, _, _, h2⟩ := h.lin.mem (delE_mem he); rw [h2]; simp
 obtain ⟨res, H1, τ1, g1, hres, k1⟩ := hRead h.st h.wf hlen ht hg (urlA j) (by have := urlA_len j; omega) [] (by simp) false τ
 have hfind := findE_nodup (u := urlA j) (h.lin.nodup (by omega)) (urlA at')
 have e0 : decide ((j : Int) < (n : Int)) = true := decide_eq_true (by omega)
 have e9 : wr .i64 ((j : Int) + Int.ofNat 1) = ((j + 1 : Nat) : Int) := adI (by omega)
 have s1z := g1.size
 obtain ⟨stt, hv, bv, ok, rfl, hcl, hok, hbody⟩ : ∃ (stt : Int) (hv bv : V) (ok : Bool), res = .tup [.agg [.int .i64 stt, hv, bv], .bool ok] ∧ ((hv.cells = [hv] ∧ hv.scal = true) ∧ (bv.cells = [bv] ∧ bv.scal = true)) ∧ ok = decide (j ≠ at') ∧ (ok = true → BodP (fun i => H.size ≤ i) H1 bv 1 [cellA j]) := by
  by_cases hja : j = at'
  ·have hr : readE (delE (urlA at') es) (urlA j) [] false = none := by
    unfold readE; rw [urlA_cut j (by omega), hfind, if_pos (by rw [hja])]
   rw [hr] at hres
   exact ⟨_, .nils, .nils, false, hres, ⟨⟨rfl, rfl⟩, ⟨rfl, rfl⟩⟩, by simp [hja], fun h => by cases h⟩
  ·obtain ⟨e, he1, he2⟩ := h.lin.find (by omega) hj
   by_cases hu : urlA j = urlA at'
   ·exact absurd (urlA_inj (by omega) (by omega) hu) hja
   ·have hr : readE (delE (urlA at') es) (urlA j) [] false = some (e, none) := by
     unfold readE; rw [urlA_cut j (by omega), hfind, if_neg hu, he1]; rfl
    rw [hr] at hres
    obtain ⟨hv, bv, h1, h2, h3⟩ := hres
    have h3' : BodP (fun i => H.size ≤ i) H1 bv e.cs.length e.cs := h3
    rw [he2] at h3'
    exact ⟨_, hv, bv, true, h1, ⟨rdH_scal h2, h3'.scal⟩, by simp [hja], fun _ => h3'⟩
 have a1 : eAlloc [(.int .i64 (.ofNat 0)), .nils, .nils] [] H1 τ1 = some (.ptr H1.size 0, H1.new [(.int .i64 (.ofNat 0)), .nils, .nils] 3 true, τ1) := rfl
 generalize hH2 : H1.new [(.int .i64 (.ofNat 0)), .nils, .nils] 3 true = H2 at a1
 have g2 : Gr H1.size H1 H2 := hH2 ▸ Gr.new g1.wf _ _ _
 have x2 : Bx H2 H1.size [(.int .i64 (.ofNat 0)), .nils, .nils] := hH2 ▸ Bx.new H1 _ _ _ (by simp)
 obtain ⟨H3, s1, s2, s3⟩ := x2.eStore g2.wf 0 (.agg [.int .i64 stt, hv, bv]) 3 rfl (by simp) (by omega) (by show (true && (hv.scal && (bv.scal && true))) = true; rw [hcl.1.2, hcl.2.2]; rfl) τ1
 have x3 : Bx H3 H1.size [.int .i64 stt, hv, bv] := s2
 have ld : lLoad1 [.ptr H1.size (0 + 2)] H3 = some bv := load_cell x3.cells rfl
 have g3 : Gr H.size H H3 := (g1.trans g2 g1.size).trans (s3.gr (B := H.size) (by omega)) (Nat.le_refl _)
 have ex0 : pExtract 0 [.tup [.agg [.int .i64 stt, hv, bv], .bool ok]] = some (.agg [.int .i64 stt, hv, bv]) := rfl
 have ex1 : pExtract 1 [.tup [.agg [.int .i64 stt, hv, bv], .bool ok]] = some (.bool ok) := rfl
 refine ⟨H3, τ1, g3, fun fr k f0 f1 f5 f6 f10 => ?_⟩
 by_cases hja : j = at'
 ·have hok' : ok = false := by rw [hok]; simp [hja]
  subst hok'
  have e77 : ((j : Int) != (at' : Int)) = false := by simp [hja]
  have e78 : pEq true .bool [.bool false, .bool false] = some (.bool false) := rfl
  simp only [s_law21_BlobApart_l2, getK_mk f0, getK_mk f1, getK_mk f5, getK_mk f6, getK_mk f10, bin_lss, e0, condK_tn, i1, i2, someK_n, show bs [] = ([] : Bs) from rfl, k1, ex0, ex1, a1, effK_n, s1, bin_neq, e77, e78, gK_do', retK, gK_skip, gK_none, pick_mk, cond_false, condK_fn, bin_add, e9]
 ·have hok' : ok = true := by rw [hok]; simp [hja]
  subst hok'
  have b1 := hbody rfl
  have b3 : BodP (fun i => H.size ≤ i) H3 bv 1 [cellA j] := by
   have c1 := b1.weaken (Q := fun i => H.size ≤ i ∧ i < H1.size) g1.wf fun i hi q => ⟨q, hi⟩
   have c2 := c1.chg g1.wf g2.chg (P := fun i => H.size ≤ i ∧ i < H1.size) (Q := fun _ => False) (fun _ _ _ q => q)
   exact (c2.chg g2.wf (s3.chg (P := fun i => i = H1.size) rfl) (fun i _ q e => by omega)).weaken s3.wf fun i _ q => q.1
  have hl1 : pLen [bv] = some (.int .i64 ((1 : Nat) : Int)) := b3.rd.pLen
  obtain ⟨p', j1, j2⟩ := b3.rd.elem1 (i := 0) (x := cellA j) rfl
  have j1 : pSlIdx 1 [bv, .int .i64 (Int.ofNat 0)] = some p' := j1
  have e94 : (((1 : Nat) : Int) != Int.ofNat 1) = false := rfl
  have e77 : ((j : Int) != (at' : Int)) = true := by simp; omega
  have e78 : pEq true .bool [.bool true, .bool true] = some (.bool false) := rfl
  have e8 : wr .u8 (j : Int) = (j : Int) := by
   have h255 : Nat.ble j (maxN .u8) = true := Nat.ble_eq_true_of_le (by show j ≤ 255; omega)
   show wr .u8 (Int.ofNat j) = Int.ofNat j
   simp only [wr, h255, cond_true]
  have ejj : ((j : Int) != (j : Int)) = false := by simp
  simp only [s_law21_BlobApart_l2, getK_mk f0, getK_mk f1, getK_mk f5, getK_mk f6, getK_mk f10, bin_lss, e0, condK_tn, i1, i2, someK_n, show bs [] = ([] : Bs) from rfl, k1, ex0, ex1, a1, effK_n, s1, bin_neq, e77, e78, gK_do', gK_do, retK, gK_skip, gK_none, fa_ptr, ld, hl1, e94, j1, j2, toInt_mk, e8, ejj, pick_mk, cond_false, cond_true, condK_fn, bin_add, e9]
theorem ApR.loop {c : CallK} (N : Nat) (hRead : ReadOk c) {H0 : Heap} (hw0 : WF H0) (ht0 : inH H0 0 tabs = true) (hg0 : 6 ≤ H0.size) {s m n at' : Nat} {uv : V} {es : List Blb} {PB : Nat → Prop} (hn : n ≤ 32) (hat : at' < n) : ∀ (r j : Nat) {H : Heap}, j + r = n → Gr H0.size H0 H → ApR s m n at' H uv es PB → ∀ (τ : Tape),
  ∃ H' τ', ApR s m n at' H' uv es PB ∧ Gr H.size H H' ∧ ∀ (fr : T V) (M : Nat) k, r < M → fr.get 0 = some (.int .i64 (n : Int)) → fr.get 1 = some (.int .i64 (at' : Int)) → fr.get 5 = some (.ptr s 0) → fr.get 6 = some uv → fr.get 10 = some (.int .i64 (j : Int)) →
   loopK (s_law21_BlobApart_l2 c N) M ⟨fr, H⟩ τ k = k (.exit 2) ⟨(T.set (T.set .leaf 0 (.int .i64 (n : Int))) 5 (.ptr s 0)), H'⟩ τ' := by
 intro r
 induction r with
 | zero =>
  intro j H hj g h τ
  have : j = n := by omega
  subst this
  refine ⟨H, τ, h, Gr.refl h.wf, fun fr M k hM f0 f1 f5 f6 f10 => ?_⟩
  obtain ⟨M, rfl⟩ : ∃ j, M = j + 1 := ⟨M - 1, by omega⟩
  have e0 : decide ((j : Int) < (j : Int)) = false := decide_eq_false (by omega)
  rw [loopK_succ]
  simp only [s_law21_BlobApart_l2, getK_mk f0, getK_mk f1, getK_mk f5, getK_mk f6, getK_mk f10, bin_lss, e0, condK_fn, seqK]
 | succ r ih =>
  intro j H hj g h τ
  obtain ⟨H1, τ1, g1, k1⟩ := h.round N hRead hn hat (inH_gr ht0 tabs_plain g hw0 (Nat.le_refl _)) (by have := g.size; omega) (j := j) (by omega) τ
  obtain ⟨H2, τ2, h2, g2, k2⟩ := ih (j + 1) (by omega) (g.trans g1 g.size) (h.next g1) τ1
  refine ⟨H2, τ2, h2, g1.trans g2 g1.size, fun fr M k hM f0 f1 f5 f6 f10 => ?_⟩
  obtain ⟨M, rfl⟩ : ∃ j, M = j + 1 := ⟨M - 1, by omega⟩
  rw [loopK_succ, k1 fr _ f0 f1 f5 f6 f10]
  simp only [seqK]
  exact k2 _ M k (by omega) (by simp [T.get_set]) (by simp [T.get_set]) (by simp [T.get_set]) (by simp [T.get_set]) (by simp [T.get_set])
end Go.Am.X

namespace Go.Am.X
abbrev DropOk (c : CallK) : Prop := ∀ {P : Nat → Prop} {H : Heap} {s m k : Nat} {es : List Blb}, Stor P H s m k es → WF H → (∀ i, P i → i < H.size) → ∀ (u : Bs) (τ : Tape),
  ∃ H', Stor P H' s m k (delE u es) ∧ Chg (fun i => i = m) H H' ∧ ∀ q, c f_blob_Store_Drop [.ptr s 0, .str u] H τ q = q (.bool (findE u es).isSome) H' τ
abbrev LenOk21 (c : CallK) : Prop := ∀ {P : Nat → Prop} {H : Heap} {s m k : Nat} {es : List Blb}, Stor P H s m k es → ∀ (τ : Tape) (q : KV), c f_blob_Store_Len [.ptr s 0] H τ q = q (.int .i64 (es.length : Int)) H τ
theorem s_law21_BlobApart_ret (c c0 : CallK) {N : Nat} (hN : 9223372036854775808 < N) (hNew : ∀ H τ q, c f_blob_New [] H τ q = s_blob_New c0 N H τ q) (hOf : IsP c f_law21_of (RV OfPre OfG)) (hPut : PutOk c) (hRead : ReadOk c) (hD : Dig21Ok' c) (hW : WithinOkA c) (hDrop : DropOk c) (hLen : LenOk21 c)
  (hKn : ∀ H τ q, c f_law21_known [] H τ q = q (.bool true) H τ) (a b : Int) {H : Heap} (hw : WF H) (ht : inH H 0 tabs = true) (hg : 6 ≤ H.size) (τ : Tape) :
  ∃ H' τ', Gr H.size H H' ∧ ∀ q, s_law21_BlobApart c N (.int .i64 a) (.int .i64 b) H τ q = q (.bool true) H' τ' := by
 obtain ⟨H1, st1, g1, z1, k1⟩ := s_blob_New_ret c0 N hw τ
 have kO : ∀ H τ q, c f_law21_of [.str a1] H τ q = q (org a1) H τ := fun H τ q => RV_call hOf (vs := [.str a1]) (.inl rfl) H τ q
 obtain ⟨m0, hm0, w0⟩ := hW a (h := 30) (by omega) H1 τ
 obtain ⟨n, hn⟩ : ∃ n, n = 2 + m0 := ⟨_, rfl⟩
 obtain ⟨at', hat, w1⟩ := hW b (h := n - 1) (by omega) H1 τ
 have st0 : Stor (fun _ => False) H1 (H.size + 1) H.size 0 [] := ⟨st1.var, st1.map, fun e he => by simp at he, id, id⟩
 have i0 : ApI H (H.size + 1) H.size 0 H1 .nils [] (fun _ => False) (fun _ => False) :=
  ⟨g1.wf, g1, st0, rfl, OwnP.nil _ _ _, fun _ h => h.elim, fun _ h => h.elim, fun _ h => h.elim, ⟨rfl, rfl, by omega⟩⟩
 obtain ⟨uv, H2, τ2, es, PB, PU, i2, k2⟩ := ApI.loop N hOf hPut hD (n := n) (at' := at') (by omega) n 0 (by omega) i0 τ
 obtain ⟨e, he, _⟩ := i2.lin.find (by omega) (j := at') (by omega)
 obtain ⟨p, j1, j2⟩ := i2.own.rd.elem1 (i := at') (x := .str (urlA at')) (by rw [List.getElem?_map, List.getElem?_range (by omega)]; rfl)
 obtain ⟨H3, st3, ch3, k3⟩ := hDrop i2.st i2.wf (fun x hx => (i2.pb x hx).2) (urlA at') τ2
 rw [he] at k3
 have z2 := i2.gr.size
 have z3 := ch3.size
 have g3 : Gr H.size H H3 := i2.gr.trans (ch3.gr (B := H.size) (by omega) (fun x hx e => by omega)) (Nat.le_refl _)
 have r3 : ApR (H.size + 1) H.size n at' H3 uv es PB := ⟨ch3.wf, st3, i2.lin, (i2.own.chg i2.wf ch3 fun x _ hx e => by have := i2.pu x hx; omega).rd⟩
 obtain ⟨H4, τ4, r4, g4, k4⟩ := ApR.loop N hRead hw ht hg (by omega) (by omega) n 0 (by omega) g3 r3 τ2
 have hdl : (delE (urlA at') es).length + 1 = n := by rw [delE_len he, i2.lin.len]
 have hnew : putE ⟨urlA n, valT [], .nils, []⟩ (delE (urlA at') es) = delE (urlA at') es ++ [⟨urlA n, valT [], .nils, []⟩] := putE_new fun x hx heq => by
  obtain ⟨j, hj, e1, _⟩ := i2.lin.mem (delE_mem hx)
  have : j = n := urlA_inj (by omega) (by omega) (e1.symm.trans heq)
  omega
 obtain ⟨bv, H5, τ5, p1, p2, p3⟩ := hPut r4.st r4.wf (fun x hx => by have := i2.pb x hx; have := g4.size; omega) (o := a1) (.inl rfl) [] (by decide) (bv := .nils) (n := 0) (cs := []) (.inl ⟨.inl rfl, rfl, rfl⟩) (fun _ _ => ⟨.inl ⟨.inl rfl, rfl, rfl⟩, trivial⟩) (by omega) (by omega) (by
   have hv : valO [] = true := by decide
   unfold putErr; rw [hv]; simp; omega) τ4
 have hL5 : (putE ⟨putU a1 (n + 1), valT [], bv, []⟩ (delE (urlA at') es)).length = n := by
  rw [putE_new fun x hx heq => by
   obtain ⟨j, hj, e1, _⟩ := i2.lin.mem (delE_mem hx)
   have : j = n := urlA_inj (by omega) (by omega) (e1.symm.trans heq)
   omega, List.length_append]
  simp only [List.length_cons, List.length_nil]
  omega
 have k6 := hLen p1
 rw [hL5] at k6
 have z4 := g4.size
 refine ⟨H5, τ5, (g3.trans g4 g3.size).trans (p2.gr (B := H.size) (by omega) (fun x hx e => by omega)) (Nat.le_refl _), fun q => ?_⟩
 obtain ⟨M, rfl⟩ : ∃ M, N = M + 1 := ⟨N - 1, by omega⟩
 have ep : lPeq false [.ptr (H.size + 1) 0, .nilp] H1 = some (.bool false) := rfl
 have w0' : ∀ q, c f_book_Within [.int .i64 a, .int .i64 (.ofNat 0), .int .i64 (.ofNat 30)] H1 τ q = q (.int .i64 (m0 : Int)) H1 τ := w0
 have e7 : wr .i64 (Int.ofNat 2 + (m0 : Int)) = (n : Int) := by
  rw [wr_id (by simp <;> omega) (by simp <;> omega), hn]; simp
 have e8 : wr .i64 ((n : Int) - Int.ofNat 1) = ((n - 1 : Nat) : Int) := by
  rw [wr_id (by simp <;> omega) (by simp <;> omega)]; simp; omega
 simp only [s_law21_BlobApart, hNew, k1, ep, someK_n, condK_fn, w0', bin_add, e7, bin_sub, e8, w1]
 rw [k2 _ _ _ (by omega) (by simp [T.get_set]) (by simp [T.get_set]) (by simp [T.get_set]) (by simp [T.get_set]) (by simp [T.get_set])]
 have k3' : ∀ q, c f_blob_Store_Drop [.ptr (H.size + 1) 0, .str (urlA at')] H2 τ2 q = q (.bool true) H3 τ2 := k3
 simp only [blockK, Nat.beq_refl, cond_true, seqK, s_law21_BlobApart_j0, getK_set, ↓reduceIte, Nat.reduceEqDiff, j1, j2, someK_n, k3', un_not, Bool.not_true, condK_fn]
 rw [k4 _ _ _ (by omega) (by simp [T.get_set]) (by simp [T.get_set]) (by simp [T.get_set]) (by simp [T.get_set]) (by simp [T.get_set])]
 have ex0 : pExtract 0 [.tup [.str (putU a1 (n + 1)), .int .i64 (Int.ofNat 0)]] = some (.str (urlA n)) := rfl
 have ex1 : pExtract 1 [.tup [.str (putU a1 (n + 1)), .int .i64 (Int.ofNat 0)]] = some (.int .i64 (Int.ofNat 0)) := rfl
 have en0 : (Int.ofNat 0 == Int.ofNat 0) = true := rfl
 have enn : ((n : Int) == (n : Int)) = true := by simp
 have e9 : wr .i64 ((n : Int) + Int.ofNat 1) = ((n + 1 : Nat) : Int) := adI (by omega)
 have kd := fun H τ q => hD (n + 1) (by omega) H τ q
 have se : ∀ x : Bs, strBin .eql x x = some (.bool true) := fun x => by simp [strBin, eqB_eq]
 simp only [blockK, Nat.beq_refl, cond_true, seqK, s_law21_BlobApart_j1, getK_set, ↓reduceIte, Nat.reduceEqDiff, show bs [104, 116, 116, 112, 115, 58, 47, 47, 97] = a1 from rfl, show bs [] = ([] : Bs) from rfl, kO, p3, ex0, ex1, someK_n, bin_eql, en0, gK_do, retK, effK_n, bin_add, e9, kd, bin_str, urlA_text, se, pick_mk, k6, enn, hKn]
def BlobApartR (vs : List V) (H : Heap) (o : Out) : Prop := (∃ (a b : Int), vs = [.int .i64 a, .int .i64 b] ∧ inH H 0 tabs = true ∧ 6 ≤ H.size) ∧ o = .val (.bool true)
noncomputable abbrev rw_BlobApart : List Row := [Row.fn f_law21_BlobApart fn_law21_BlobApart e_law21_BlobApart, Row.fn f_blob_New fn_blob_New e_blob_New, Row.prim f_law21_of (outP (RV OfPre OfG)),
 Row.fn f_blob_Store_Put fn_blob_Store_Put e_blob_Store_Put, Row.fn f_blob_Store_Read fn_blob_Store_Read e_blob_Store_Read, Row.fn f_blob_reply fn_blob_reply e_blob_reply, Row.fn f_blob_number fn_blob_number e_blob_number, Row.fn f_slices_Clone_byte fn_slices_Clone_byte e_slices_Clone_byte,
 Row.prim f_strconv_FormatInt (outP (RG tabs FmtPre FmtG)), Row.prim f_strconv_Itoa (outP (RV ItoPre ItoG)), Row.prim f_origin_Text (outP (RV TxtPre TxtG)), Row.prim f_headers_Value (outP ValueR), Row.prim f_headers_Range (outP RngR), Row.prim f_strings_Cut (outP CutR),
 Row.fn f_book_Within fn_book_Within e_book_Within, Row.fn f_law21_digits fn_law21_digits e_law21_digits, Row.fn f_blob_Store_Drop fn_blob_Store_Drop e_blob_Store_Drop, Row.fn f_blob_Store_Len fn_blob_Store_Len e_blob_Store_Len, Row.prim f_law21_known closedP]
theorem closedP_callA {c : CallK} {f : Nat} (h : ∀ vs H τ q, c f vs H τ q = effK (closedP vs H τ) q) : ∀ H τ q, c f [] H τ q = q (.bool true) H τ := fun H τ q => by rw [h]; rfl
theorem blobApart_ok : ∀ base w0, PrimOk PG base w0 f_law21_BlobApart (outP BlobApartR) := by
 obtain ⟨N, hN⟩ : ∃ N : Nat, 9223372036854775808 < N := ⟨9223372036854775809, by decide⟩
 refine primOk_out mixed_ok (l := rw_BlobApart) (.fn ok_law21_BlobApart e_law21_BlobApart_ok (.fn ok_blob_New e_blob_New_ok (.prim p_law21_of (.fn ok_blob_Store_Put e_blob_Store_Put_ok (.fn ok_blob_Store_Read e_blob_Store_Read_ok (.fn ok_blob_reply e_blob_reply_ok (.fn ok_blob_number e_blob_number_ok (.fn ok_slices_Clone_byte e_slices_Clone_byte_ok (.prim p_fmt (.prim p_itoa (.prim p_origin_Text (.prim p_headers_Value (.prim p_headers_Range (.prim p_strings_Cut (.fn ok_book_Within e_book_Within_ok (.fn ok_law21_digits e_law21_digits_ok (.fn ok_blob_Store_Drop e_blob_Store_Drop_ok (.fn ok_blob_Store_Len e_blob_Store_Len_ok (.prim closed_law21_known_ok (.nil _)))))))))))))))))))) N 9 _ ?_
 rintro vs H o hw hvs ⟨⟨a, b, rfl, ht, hg⟩, rfl⟩ τ
 have clone : ∀ d, CloneOk (CR rw_BlobApart N (d + 1)) := fun d _ _ _ _ h1 h2 h3 h4 τ => s_slices_Clone_byte_ret (CR rw_BlobApart N d) N h1 h2 h3 h4 τ
 have numb : ∀ d, NumOk (CR rw_BlobApart N (d + 2)) := fun d n hn H ht τ q => s_blob_number_ret (CR rw_BlobApart N (d + 1)) N (fun _ _ _ _ => rfl) n hn H ht τ q
 have reply : ∀ d, ReplyOk (CR rw_BlobApart N (d + 3)) := fun d st kind _ _ _ _ _ _ h1 h2 h3 h4 h5 h6 h7 h8 h9 τ => s_blob_reply_ret (CR rw_BlobApart N (d + 2)) N (numb d) (clone (d + 1)) st kind h1 h2 h3 h4 h5 h6 h7 h8 h9 τ
 have read : ReadOk (CR rw_BlobApart N 8) := fun h1 h2 h3 h4 h5 u hu rg hrg has τ => s_blob_Store_Read_ret (CR rw_BlobApart N 7) N (k_strings_Cut fun _ _ _ _ => rfl) (k_Range fun _ _ _ _ => rfl) (numb 5) (reply 4) h1 h2 h3 h4 h5 u hu rg hrg has τ
 have put : PutOk (CR rw_BlobApart N 8) := fun h1 h2 h3 _ h4 kind h5 _ _ _ h6 h7 h8 h9 h10 τ => s_blob_Store_Put_ok (CR rw_BlobApart N 7) N (fun _ _ _ _ => rfl) (fun _ _ _ _ => rfl) (fun _ _ _ _ => rfl) (clone 6) h1 h2 h3 h4 kind h5 h6 h7 h8 h9 h10 τ
 obtain ⟨H', τ', g, k⟩ := s_law21_BlobApart_ret (CR rw_BlobApart N 8) (CR rw_BlobApart N 7) hN (fun _ _ _ => rfl) (fun _ _ _ _ => rfl) put read (fun n hn H τ q => s_law21_digits_ret (CR rw_BlobApart N 7) N (by omega) n hn H τ q) (fun n _ hh H τ => s_book_Within_gen (CR rw_BlobApart N 7) N n hh H τ)
  (fun h hw hP u τ => s_blob_Store_Drop_ret (CR rw_BlobApart N 7) N h hw hP u τ) (fun h τ q => s_blob_Store_Len_ret (CR rw_BlobApart N 7) N h τ q) (closedP_callA fun _ _ _ _ => rfl) a b hw ht hg τ
 exact ⟨_, H', τ', k retK, g, rfl, trivial⟩
theorem blobApart_fun : Fun1 BlobApartR := fun vs H o o' k k' => k.2.trans k'.2.symm
theorem blobApart_in {H : Heap} (a b : Int) (ht : inH H 0 tabs = true) (hg : 6 ≤ H.size) (τ : Tape) : outP BlobApartR [.int .i64 a, .int .i64 b] H τ = some (.bool true, H, τ) :=
 outP_mk blobApart_fun ⟨⟨a, b, rfl, ht, hg⟩, rfl⟩ τ
theorem tabs_startA {l : List (Option (List V))} (h : l[1]? = some (some pow10V)) : inH (start l) 0 tabs = true :=
 inH_mk tabs 0 tabs_plain fun j cs hj => by
  obtain ⟨rfl, rfl⟩ := tabs_at hj
  rw [Nat.zero_add]; exact start_cells h
end Go.Am.X

