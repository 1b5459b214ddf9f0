/- The abstract machine, printed functions of the program, and what they are shown to be. -/
import Derived.Test.YtfamalehnahbdaaGreatDoorBAPL1
import Derived.Test.YtfamalehnahbdaaGreatDoorBAPM4
import Derived.Test.YtfamalehnahbdaaGreatDoorBAPM5
set_option linter.unusedSimpArgs false
set_option linter.unusedVariables false
set_option linter.unusedSectionVars false
set_option maxRecDepth 100000
namespace Go.Am.X
def cutF (n : Nat) (r : Int × Int × Bool) : Int := if r.1 < 0 then max ((n : Int) - r.2.1) 0 else r.1
def cutL (n : Nat) (r : Int × Int × Bool) : Int := if r.1 < 0 then (n : Int) - 1 else if r.2.1 < 0 then (n : Int) - 1 else r.2.1
def cutM (n : Nat) (r : Int × Int × Bool) : Int := min (cutL n r) ((n : Int) - 1)
def cutR (n : Nat) (r : Int × Int × Bool) : Option (Nat × Nat) :=
 if r.2.2 = true then if cutM n r < cutF n r then none else some ((cutF n r).toNat, (cutM n r + 1).toNat) else none
def crT (a b n : Nat) : Bs := (((([98, 121, 116, 101, 115, 32] ++ dig a) ++ [45]) ++ dig (b - 1)) ++ [47]) ++ dig n
theorem pmin_mk (x y : Int) : pMin [.int .i64 x, .int .i64 y] = some (.int .i64 (min x y)) := by
 simp only [pMin]
 first | rfl | (congr 2; omega) | skip
theorem j0_none (c : CallK) (N : Nat) {H : Heap} {rid : Nat} (hw : WF H) {x y z : V} (hr : Bx H rid [x, y, z]) {n : Nat} (hn : n < 400) {f l : Int} (hf : min l ((n : Int) - 1) < f) (τ : Tape) :
  ∃ H', Only rid H H' ∧ ∀ (fr : T V) q, fr.get 8 = some (.ptr rid 0) → fr.get 10 = fr.get 10 → (∃ p, fr.get 10 = some p) → fr.get 12 = some (.int .i64 (n : Int)) → fr.get 13 = some (.int .i64 f) → fr.get 14 = some (.int .i64 l) →
   s_blob_Store_Read_j0 c N q ⟨fr, H⟩ τ = q (.tup [.agg [.int .i64 0, .nils, .nils], .bool false]) H' τ := by
 obtain ⟨H', s1, s2, s3⟩ := hr.eStore hw 0 (.agg [.int .i64 (Int.ofNat 0), .nils, .nils]) 3 rfl (by simp) (by omega) rfl τ
 have s2' : Bx H' rid [.int .i64 (Int.ofNat 0), .nils, .nils] := s2
 refine ⟨H', s3, fun fr q f8 _ f10 f12 f13 f14 => ?_⟩
 obtain ⟨p, f10⟩ := f10
 have e1 : wr .i64 ((n : Int) - Int.ofNat 1) = (n : Int) - 1 := by rw [wr_id (by simp; omega) (by simp; omega)]; rfl
 have e2 : decide (min l ((n : Int) - 1) < f) = true := decide_eq_true hf
 have pb : pBuild [.int .i64 (Int.ofNat 0), .nils, .nils] [] [] = some (.agg [.int .i64 (Int.ofNat 0), .nils, .nils]) := rfl
 have er : lLoadN 3 [.ptr rid 0] H' = some (.agg [.int .i64 (Int.ofNat 0), .nils, .nils]) := by
  have := load_cells (off := 0) (n := 3) s2'.cells (by simp)
  simpa using this
 have er2 : results ⟨T.set (T.set .leaf 8 (.ptr rid 0)) 9 (.bool false), H'⟩ [.cell 8 (some 3), .t 9] = some (.tup [.agg [.int .i64 (Int.ofNat 0), .nils, .nils], .bool false]) := res_ct (by simp [T.get_set]) er (by simp [T.get_set])
 simp only [s_blob_Store_Read_j0, getK_mk f8, getK_mk f10, getK_mk f12, getK_mk f13, getK_mk f14, bin_sub, e1, pmin_mk, someK_n, bin_gtr, e2, condK_tn, pb, s1, effK_n, er2]
 rfl
theorem rdH_sl {H : Heap} {i m : Nat} {ex : Option Nat} {hs : List Hd} {rest : List V} (h : H.cells? i = some (hcells hs ++ rest)) (hm : m = hs.length) : RdH H (.sl i 0 m m ex 2) hs := by
 subst hm
 refine ⟨.inr ⟨i, 0, _, ex, _, rfl, h, ?_, hcells_length hs⟩, ⟨_, h⟩⟩
 rw [List.drop_zero, ← hcells_length hs, List.take_left]
theorem j0_some (c : CallK) (N : Nat) (hNum : NumOk c) (hR : ReplyOk c) {H : Heap} {rid xid : Nat} (hw : WF H) {x y z : V} (hr : Bx H rid [x, y, z]) {kind : Bs} {bv : V} {n : Nat} {cs : List V} (hx : Bx H xid [.str kind, bv]) (hne : xid ≠ rid)
  (hb : Rd H 1 bv n cs) (hs : Src H bv) (hro : Roomy bv) (hn : n < 400) {a b : Nat} (hab : a < b) (hbn : b ≤ n) (ht : inH H 0 tabs = true) (hg : 6 ≤ H.size) {l : Int} (hl : min l ((n : Int) - 1) = (b : Int) - 1) (τ : Tape) :
  ∃ v bv' H' τ', RdH H' v [(clN, dig (b - a)), (ctN, kind), (crN, crT a b n)] ∧ BodP (fun i => H.size ≤ i) H' bv' (b - a) ((cs.take b).drop a) ∧ Chg (fun i => i = rid) H H' ∧ ∀ (fr : T V) q, fr.get 8 = some (.ptr rid 0) → fr.get 10 = some (.ptr xid 0) → fr.get 12 = some (.int .i64 (n : Int)) → fr.get 13 = some (.int .i64 (a : Int)) → fr.get 14 = some (.int .i64 l) →
   s_blob_Store_Read_j0 c N q ⟨fr, H⟩ τ = q (.tup [.agg [.int .i64 (Int.ofNat 206), v, bv'], .bool true]) H' τ' := by
 have e1 : wr .i64 ((n : Int) - Int.ofNat 1) = (n : Int) - 1 := by rw [wr_id (by simp; omega) (by simp; omega)]; rfl
 have e2 : decide (min l ((n : Int) - 1) < (a : Int)) = false := decide_eq_false (by omega)
 have e3 : wr .i64 (min l ((n : Int) - 1) + Int.ofNat 1) = (b : Int) := by rw [hl, show Int.ofNat 1 = (1 : Int) from rfl, wr_id (by omega) (by omega)]; omega
 have lx : lLoadN 2 [.ptr xid 0] H = some (.agg [.str kind, bv]) := by
  have := load_cells (off := 0) (n := 2) hx.cells (by simp)
  simpa using this
 obtain ⟨i, bv', H1, τ1, r1, r2, r3, r4, r5⟩ := hR (Int.ofNat 206) kind hw hb hs hro (Nat.le_of_lt hab) hbn hn ht hg τ
 have hbs := r3.scal
 have a1 : eAlloc [(.int .i64 (.ofNat 0)), .nils, .nils] [] H1 τ1 = some (.ptr H1.size 0, H1.new [(.int .i64 (.ofNat 0)), .nils, .nils] 3 true, τ1) := rfl
 generalize hH2 : H1.new [(.int .i64 (.ofNat 0)), .nils, .nils] 3 true = H2 at a1
 have g2 : Gr H1.size H1 H2 := hH2 ▸ Gr.new r4.wf _ _ _
 have x2 : Bx H2 H1.size [(.int .i64 (.ofNat 0)), .nils, .nils] := hH2 ▸ Bx.new H1 _ _ _ (by simp)
 have z2 : H2.size = H1.size + 1 := hH2 ▸ rfl
 have zi : i < H1.size := r1.lt r4.wf
 have s1z := r4.size
 obtain ⟨H3, s1, s2, s3⟩ := x2.eStore g2.wf 0 (.agg [.int .i64 (Int.ofNat 206), .sl i 0 2 2 none 2, bv']) 3 rfl (by simp) (by omega) (by show (true && (true && (bv'.scal && true))) = true; rw [hbs.2]; rfl) τ1
 have x3 : Bx H3 H1.size [.int .i64 (Int.ofNat 206), .sl i 0 2 2 none 2, bv'] := s2
 have i3 : Bx H3 i (hcells [(clN, dig (b - a)), (ctN, kind)]) := (r1.gr g2 zi).only s3 (by omega)
 have g03 : Gr H.size H H3 := (r4.trans g2 r4.size).trans (s3.gr (B := H.size) (by omega)) (Nat.le_refl _)
 have ht3 : inH H3 0 tabs = true := inH_gr ht tabs_plain g03 hw (Nat.le_refl _)
 have l3 : lLoad1 [.ptr H1.size (0 + 1)] H3 = some (.sl i 0 2 2 none 2) := load_cell x3.cells rfl
 have kn1 := fun τ q => hNum a (by omega) H3 ht3 τ q
 have kn2 := fun τ q => hNum (b - 1) (by omega) H3 ht3 τ q
 have kn3 := fun τ q => hNum n hn H3 ht3 τ q
 have d1 := dig_len a
 have d2 := dig_len (b - 1)
 have d3 := dig_len n
 have hmm : min l ((n : Int) - 1) = ((b - 1 : Nat) : Int) := by rw [hl]; omega
 have t1 : strBin .add [98, 121, 116, 101, 115, 32] (dig a) = some (.str ([98, 121, 116, 101, 115, 32] ++ dig a)) := str_add (by simp; omega)
 have t2 : strBin .add ([98, 121, 116, 101, 115, 32] ++ dig a) [45] = some (.str (([98, 121, 116, 101, 115, 32] ++ dig a) ++ [45])) := str_add (by simp; omega)
 have t3 : strBin .add (([98, 121, 116, 101, 115, 32] ++ dig a) ++ [45]) (dig (b - 1)) = some (.str ((([98, 121, 116, 101, 115, 32] ++ dig a) ++ [45]) ++ dig (b - 1))) := str_add (by simp; omega)
 have t4 : strBin .add ((([98, 121, 116, 101, 115, 32] ++ dig a) ++ [45]) ++ dig (b - 1)) [47] = some (.str (((([98, 121, 116, 101, 115, 32] ++ dig a) ++ [45]) ++ dig (b - 1)) ++ [47])) := str_add (by simp; omega)
 have t5 : strBin .add (((([98, 121, 116, 101, 115, 32] ++ dig a) ++ [45]) ++ dig (b - 1)) ++ [47]) (dig n) = some (.str (crT a b n)) := str_add (by simp; omega)
 have pb : pBuild [.str [], .str []] [(0, 1), (1, 1)] [.str (bs [99, 111, 110, 116, 101, 110, 116, 45, 114, 97, 110, 103, 101]), .str (crT a b n)] = some (.agg [.str crN, .str (crT a b n)]) := rfl
 have b4 : eBuildSlice 1 2 [(.str []), (.str [])] [(0, 2)] [.agg [.str crN, .str (crT a b n)]] H3 τ1 = some (.sl H3.size 0 1 1 none 2, H3.new (hcells [(crN, crT a b n)]) 2 false, τ1) := rfl
 generalize hH4 : H3.new (hcells [(crN, crT a b n)]) 2 false = H4 at b4
 have g4 : Gr H3.size H3 H4 := hH4 ▸ Gr.new s3.wf _ _ _
 have x4 : Bx H4 H3.size (hcells [(crN, crT a b n)]) := hH4 ▸ Bx.new H3 _ _ _ (by simp [hcells])
 have z3 : H3.size = H2.size := s3.size
 have i4 : Bx H4 i (hcells [(clN, dig (b - a)), (ctN, kind)]) := i3.gr g4 (by omega)
 have y4 : Bx H4 H1.size [.int .i64 (Int.ofNat 206), .sl i 0 2 2 none 2, bv'] := x3.gr g4 (by omega)
 have q4 : H4.loads i 0 (2 * 2) = some (hcells [(clN, dig (b - a)), (ctN, kind)]) := by
  have := loads_cells (off := 0) (n := 4) i4.cells (by simp [hcells])
  rw [this]; rfl
 have p4 : H4.loads H3.size 0 (1 * 2) = some (hcells [(crN, crT a b n)]) := by
  have := loads_cells (off := 0) (n := 2) x4.cells (by simp [hcells])
  rw [this]; rfl
 have ap : eAppend 2 32 [.sl i 0 2 2 none 2, .sl H3.size 0 1 1 none 2] H4 τ1 = some (.sl H4.size 0 3 3 (some (spare 3 (τ1 0))) 2, H4.new (hcells [(clN, dig (b - a)), (ctN, kind)] ++ hcells [(crN, crT a b n)]) ((3 + spare 3 (τ1 0)) * 2) false, τ1.tail) := by
  simp only [eAppend, srcLen, srcCells, Nat.beq_refl, cond_true, p4]
  exact append_none (bytes := 32) q4 (by omega) (by omega) (by omega) τ1
 generalize hH5 : H4.new (hcells [(clN, dig (b - a)), (ctN, kind)] ++ hcells [(crN, crT a b n)]) ((3 + spare 3 (τ1 0)) * 2) false = H5 at ap
 have g5 : Gr H4.size H4 H5 := hH5 ▸ Gr.new g4.wf _ _ _
 have x5 : Bx H5 H4.size (hcells [(clN, dig (b - a)), (ctN, kind), (crN, crT a b n)]) := hH5 ▸ Bx.new H4 _ _ _ (by simp [hcells]; omega)
 have z4 : H4.size = H3.size + 1 := hH4 ▸ rfl
 have y5 : Bx H5 H1.size [.int .i64 (Int.ofNat 206), .sl i 0 2 2 none 2, bv'] := y4.gr g5 (by omega)
 obtain ⟨H6, s4, s5, s6⟩ := y5.eStore g5.wf 1 (.sl H4.size 0 3 3 (some (spare 3 (τ1 0))) 2) 1 rfl (by simp) (by omega) rfl τ1.tail
 have y6 : Bx H6 H1.size [.int .i64 (Int.ofNat 206), .sl H4.size 0 3 3 (some (spare 3 (τ1 0))) 2, bv'] := s5
 have x6 : Bx H6 H4.size (hcells [(clN, dig (b - a)), (ctN, kind), (crN, crT a b n)]) := x5.only s6 (by omega)
 have z5 : H5.size = H4.size + 1 := hH5 ▸ rfl
 have z6 : H6.size = H5.size := s6.size
 have l4 : lLoad1 [.ptr H1.size (0 + 1)] H4 = some (.sl i 0 2 2 none 2) := load_cell y4.cells rfl
 have hc : chkLoads [H3, H3, H3, H3, H4, H5, H6] (((.load none), [.ptr H1.size (0 + 1)], 0, 4) :: []) = true := by
  simp only [Nat.zero_add] at l3 l4
  simp [chkLoads, evalL, lLoad, l3, l4, chk1]
  simp [same, same1, same0]
 have lr : lLoadN 3 [.ptr H1.size 0] H6 = some (.agg [.int .i64 (Int.ofNat 206), .sl H4.size 0 3 3 (some (spare 3 (τ1 0))) 2, bv']) := by
  have := load_cells (off := 0) (n := 3) y6.cells (by simp)
  simpa using this
 have g05 : Gr H.size H H5 := g03.trans (g4.trans g5 (by omega)) g03.size
 have g06 : Gr H.size H H6 := g05.trans (s6.gr (B := H.size) (by omega)) (Nat.le_refl _)
 have hrid : rid < H.size := hr.lt hw
 have r6 : Bx H6 rid [x, y, z] := ((hr.gr g03 hrid).gr (((g4.trans g5 (by omega))) ) (by omega)).only s6 (by omega)
 obtain ⟨H7, s7, s8, s9⟩ := r6.eStore s6.wf 0 (.agg [.int .i64 (Int.ofNat 206), .sl H4.size 0 3 3 (some (spare 3 (τ1 0))) 2, bv']) 3 rfl (by simp) (by omega) (by show (true && (true && (bv'.scal && true))) = true; rw [hbs.2]; rfl) τ1.tail
 have s8' : Bx H7 rid [.int .i64 (Int.ofNat 206), .sl H4.size 0 3 3 (some (spare 3 (τ1 0))) 2, bv'] := s8
 have lr2 : lLoadN 3 [.ptr rid 0] H7 = some (.agg [.int .i64 (Int.ofNat 206), .sl H4.size 0 3 3 (some (spare 3 (τ1 0))) 2, bv']) := by
  have := load_cells (off := 0) (n := 3) s8'.cells (by simp)
  simpa using this
 have er2 : results ⟨T.set (T.set .leaf 8 (.ptr rid 0)) 9 (.bool true), H7⟩ [.cell 8 (some 3), .t 9] = some (.tup [.agg [.int .i64 (Int.ofNat 206), .sl H4.size 0 3 3 (some (spare 3 (τ1 0))) 2, bv'], .bool true]) := res_ct (by simp [T.get_set]) lr2 (by simp [T.get_set])
 refine ⟨.sl H4.size 0 3 3 (some (spare 3 (τ1 0))) 2, bv', H7, τ1.tail, ?_, ?_, ?_, fun fr q f8 f10 f12 f13 f14 => ?_⟩
 ·exact rdH_sl (rest := []) (by rw [List.append_nil]; exact (x6.only s9 (by omega)).cells) rfl
 ·have c1 : BodP (fun i => H.size ≤ i ∧ i < H1.size) H1 bv' (b - a) ((cs.take b).drop a) := r3.weaken r4.wf fun i hi h => ⟨h, hi⟩
  have c2 := c1.chg r4.wf g2.chg (P := fun i => H.size ≤ i ∧ i < H1.size) (Q := fun _ => False) (fun _ _ _ h => h)
  have c3 := c2.chg g2.wf (s3.chg (P := fun i => i = H1.size) rfl) (fun i _ h e => by omega)
  have c4 := (c3.chg s3.wf g4.chg (Q := fun _ => False) (fun _ _ _ h => h)).chg g4.wf g5.chg (Q := fun _ => False) (fun _ _ _ h => h)
  have c5 := c4.chg g5.wf (s6.chg (P := fun i => i = H1.size) rfl) (fun i _ h e => by omega)
  have c6 := c5.chg s6.wf (s9.chg (P := fun i => i = rid) rfl) (fun i _ h e => by omega)
  exact c6.weaken s9.wf fun i _ h => h.1
 ·exact (g06.chg (P := fun i => i = rid)).trans (s9.chg (P := fun i => i = rid) rfl) fun _ _ h => h
 ·simp only [s_blob_Store_Read_j0, getK_mk f8, getK_mk f10, getK_mk f12, getK_mk f13, getK_mk f14, bin_sub, e1, pmin_mk, someK_n, bin_gtr, e2, condK_fn, lx, bin_add, e3, r5, a1, effK_n, s1, fa_ptr, l3, kn1]
  simp only [bin_str, show bs [98, 121, 116, 101, 115, 32] = [98, 121, 116, 101, 115, 32] from rfl, show bs [45] = [45] from rfl, show bs [47] = [47] from rfl, t1, t2, someK_n, hmm, kn2, t3, t4, kn3, t5, pb, b4, effK_n, ap, fa_ptr, s4, hc, cond_true, lr, s7, er2]
end Go.Am.X

namespace Go.Am.X
structure Blb where
 url : Bs
 kind : Bs
 bv : V
 cs : List V
def Blb.val (e : Blb) : V := .agg [.str e.kind, e.bv]
def mapE (es : List Blb) : List (Bs × V) := es.map fun e => (e.url, e.val)
def findE (u : Bs) (es : List Blb) : Option Blb := es.find? fun e => e.url == u
def putE (x : Blb) : List Blb → List Blb
 | [] => [x]
 | e :: r => if e.url = x.url then x :: r else e :: putE x r
def delE (u : Bs) : List Blb → List Blb
 | [] => []
 | e :: r => if e.url = u then r else e :: delE u r
theorem eqB_dec (a b : Bs) : eqB a b = decide (b = a) := by
 rw [eqB_eq, Bool.eq_iff_iff, beq_iff_eq, decide_eq_true_eq]; exact ⟨Eq.symm, Eq.symm⟩
abbrev prE (p : Bs × V × Nat) : Bs × V := (p.1, p.2.1)
theorem findS_mapE (u : Bs) : ∀ (es : List Blb) (ms : List (Bs × V × Nat)), ms.map prE = mapE es → (findS u ms).map Prod.fst = (findE u es).map Blb.val := by
 intro es
 induction es with
 | nil => intro ms h; cases ms with
  | nil => rfl
  | cons p r => cases h
 | cons e r ih =>
  intro ms h
  cases ms with
  | nil => cases h
  | cons p l =>
   obtain ⟨k, v, b⟩ := p
   simp only [mapE, List.map_cons, List.cons.injEq, Prod.mk.injEq] at h
   obtain ⟨⟨rfl, rfl⟩, h⟩ := h
   simp only [findS]
   rw [eqB_dec, findE, List.find?_cons]
   by_cases h1 : e.url = u
   ·simp [h1]
   ·have h' : (e.url == u) = false := beq_eq_false_iff_ne.2 h1
    simp only [h1, decide_false, cond_false, h']
    exact ih l h
theorem putS_mapE (x : Blb) (c : Nat) : ∀ (es : List Blb) (ms : List (Bs × V × Nat)), ms.map prE = mapE es → (putS x.url x.val c ms).map prE = mapE (putE x es) := by
 intro es
 induction es with
 | nil => intro ms h; cases ms with
  | nil => rfl
  | cons p r => cases h
 | cons e r ih =>
  intro ms h
  cases ms with
  | nil => cases h
  | cons p l =>
   obtain ⟨k, v, b⟩ := p
   simp only [mapE, List.map_cons, List.cons.injEq, Prod.mk.injEq] at h
   obtain ⟨⟨rfl, rfl⟩, h⟩ := h
   simp only [putS]
   rw [eqB_dec, putE]
   by_cases h1 : e.url = x.url
   ·simp only [h1, decide_true, cond_true, if_true, List.map_cons, mapE, h]
   ·simp only [h1, decide_false, cond_false, if_false, List.map_cons, mapE, ih l h]
theorem delS_mapE (u : Bs) : ∀ (es : List Blb) (ms : List (Bs × V × Nat)), ms.map prE = mapE es → (delS u ms).map prE = mapE (delE u es) := by
 intro es
 induction es with
 | nil => intro ms h; cases ms with
  | nil => rfl
  | cons p r => cases h
 | cons e r ih =>
  intro ms h
  cases ms with
  | nil => cases h
  | cons p l =>
   obtain ⟨k, v, b⟩ := p
   simp only [mapE, List.map_cons, List.cons.injEq, Prod.mk.injEq] at h
   obtain ⟨⟨rfl, rfl⟩, h⟩ := h
   simp only [delS]
   rw [eqB_dec, delE]
   by_cases h1 : e.url = u
   ·simp only [h1, decide_true, cond_true, if_true, h, mapE]
   ·simp only [h1, decide_false, cond_false, if_false, List.map_cons, mapE, ih l h]
theorem findE_mem {u : Bs} {es : List Blb} {e : Blb} (h : findE u es = some e) : e ∈ es := List.mem_of_find?_eq_some h
theorem delE_mem {u : Bs} : ∀ {es : List Blb} {e : Blb}, e ∈ delE u es → e ∈ es := by
 intro es
 induction es with
 | nil => intro e h; exact h
 | cons x r ih =>
  intro e h
  rw [delE] at h
  split at h
  ·exact List.mem_cons_of_mem _ h
  ·rcases List.mem_cons.1 h with rfl | h
   ·exact List.mem_cons_self
   ·exact List.mem_cons_of_mem _ (ih h)
theorem putE_mem {x : Blb} : ∀ {es : List Blb} {e : Blb}, e ∈ putE x es → e = x ∨ e ∈ es := by
 intro es
 induction es with
 | nil => intro e h; exact .inl (by simpa [putE] using h)
 | cons y r ih =>
  intro e h
  rw [putE] at h
  split at h
  ·rcases List.mem_cons.1 h with rfl | h
   ·exact .inl rfl
   ·exact .inr (List.mem_cons_of_mem _ h)
  ·rcases List.mem_cons.1 h with rfl | h
   ·exact .inr List.mem_cons_self
   ·rcases ih h with h | h
    ·exact .inl h
    ·exact .inr (List.mem_cons_of_mem _ h)
def Mp (H : Heap) (m : Nat) (es : List Blb) : Prop := ∃ ms c, H.blk.get m = some (.mapb ms (some c)) ∧ ms.map prE = mapE es
theorem Mp.lt {H : Heap} {m : Nat} {es : List Blb} (h : Mp H m es) (hw : WF H) : m < H.size := by
 obtain ⟨ms, cl, h, _⟩ := h
 exact hw.blk _ _ h
theorem Mp.chg {H H' : Heap} {m : Nat} {es : List Blb} {Q : Nat → Prop} (h : Mp H m es) (hw : WF H) (hg : Chg Q H H') (hq : ¬ Q m) : Mp H' m es := by
 obtain ⟨ms, cl, h, h'⟩ := h
 exact ⟨ms, cl, by rw [hg.blk m (hw.blk _ _ h) hq]; exact h, h'⟩
def NoM (v : V) : Prop := v = .nils ∨ ∃ i o n l e z, v = .sl i o n l e z
theorem bodP_noM {P : Nat → Prop} {H : Heap} {v : V} {n : Nat} {cs : List V} (h : BodP P H v n cs) : NoM v := by
 rcases h with ⟨rfl, _⟩ | ⟨id, lo, ex, room, fam, ver, pl, st, fr, rfl, _⟩
 ·exact .inl rfl
 ·exact .inr ⟨_, _, _, _, _, _, rfl⟩
structure Stor (P : Nat → Prop) (H : Heap) (s m k : Nat) (es : List Blb) : Prop where
 var : Bx H s [.map m, .int .i64 (k : Int)]
 map : Mp H m es
 bod : ∀ e ∈ es, BodP P H e.bv e.cs.length e.cs
 sP : ¬ P s
 mP : ¬ P m
theorem stor_ne {P : Nat → Prop} {H : Heap} {s m k : Nat} {es : List Blb} (h : Stor P H s m k es) : s ≠ m := by
 intro e
 obtain ⟨room, ver, pl, st, fr, h1, _⟩ := h.var
 obtain ⟨ms, cl, this, _⟩ := h.map
 rw [← e, h1] at this
 cases this
theorem stor_chg {P Q : Nat → Prop} {H H' : Heap} {s m k : Nat} {es : List Blb} (h : Stor P H s m k es) (hw : WF H) (hg : Chg Q H H') (hs : ¬ Q s) (hm : ¬ Q m) (hPQ : ∀ i, i < H.size → P i → ¬ Q i) : Stor P H' s m k es :=
 ⟨h.var.chg hw hg hs, h.map.chg hw hg hm, fun e he => (h.bod e he).chg hw hg hPQ, h.sP, h.mP⟩
theorem stor_gr {P : Nat → Prop} {H H' : Heap} {s m k : Nat} {es : List Blb} (h : Stor P H s m k es) (hw : WF H) (hg : Gr H.size H H') : Stor P H' s m k es :=
 stor_chg (Q := fun _ => False) h hw hg.chg (fun h => h) (fun h => h) fun _ _ _ h => h
def lkE : Option Blb → V
 | some e => .tup [e.val, .bool true]
 | none => .tup [.agg [.str [], .nils], .bool false]
theorem look_E {H : Heap} {m : Nat} {es : List Blb} (h : Mp H m es) (u : Bs) : lLook (.agg [.str [], .nils]) true [.map m, .str u] H = some (lkE (findE u es)) := by
 obtain ⟨ms, cl, h, h'⟩ := h
 have hf := findS_mapE u es ms h'
 simp only [lLook, h]
 cases h1 : findS u ms with
 | none =>
  rw [h1] at hf
  cases h2 : findE u es with
  | none => rfl
  | some e => rw [h2] at hf; cases hf
 | some p =>
  rw [h1] at hf
  cases h2 : findE u es with
  | none => rw [h2] at hf; cases hf
  | some e =>
   rw [h2] at hf
   simp only [Option.map_some, Option.some.injEq] at hf
   simp only [lkE, lookV, hf]
theorem mlen_E {H : Heap} {m : Nat} {es : List Blb} (h : Mp H m es) : lMlen [.map m] H = some (.int .i64 (es.length : Int)) := by
 obtain ⟨ms, cl, h, h'⟩ := h
 have hl : ms.length = es.length := by have := congrArg List.length h'; simpa [mapE] using this
 simp only [lMlen, h, hl]
 rfl
theorem mput_E {H : Heap} {m : Nat} {es : List Blb} (h : Mp H m es) (hw : WF H) (x : Blb) (τ : Tape) : ∃ H', eMput [.map m, .str x.url, x.val] H τ = some (.tup [], H', τ) ∧ Mp H' m (putE x es) ∧ Only m H H' := by
 obtain ⟨ms, cl, h, h'⟩ := h
 refine ⟨{ size := H.size, blk := H.blk.set m (.mapb (putS x.url x.val cl ms) (some (newS x.url cl ms))), fams := H.fams }, ?_, ⟨_, _, T.get_set_same _ _ _, putS_mapE x cl es ms h'⟩, ⟨⟨?_, hw.fams, ?_⟩, rfl, fun id hid => T.get_set_ne _ _ (Ne.symm hid), fun _ _ => rfl⟩⟩
 ·simp only [eMput, h, forceN_eq]
 ·intro id b hb
  by_cases e : m = id
  ·subst e; exact hw.blk _ _ h
  ·simp only [T.get_set_ne _ _ e] at hb; exact hw.blk _ _ hb
 ·intro id cs room fam ver wr pl st hb
  by_cases e : m = id
  ·subst e; simp only [T.get_set_same] at hb; cases hb
  ·simp only [T.get_set_ne _ _ e] at hb; exact hw.fam _ _ _ _ _ _ _ _ hb
theorem mdel_E {H : Heap} {m : Nat} {es : List Blb} (h : Mp H m es) (hw : WF H) (u : Bs) (τ : Tape) : ∃ H', eMdel [.map m, .str u] H τ = some (.tup [], H', τ) ∧ Mp H' m (delE u es) ∧ Only m H H' := by
 obtain ⟨ms, cl, h, h'⟩ := h
 refine ⟨{ size := H.size, blk := H.blk.set m (.mapb (delS u ms) (some cl)), fams := H.fams }, ?_, ⟨_, _, T.get_set_same _ _ _, delS_mapE u es ms h'⟩, ⟨⟨?_, hw.fams, ?_⟩, rfl, fun id hid => T.get_set_ne _ _ (Ne.symm hid), fun _ _ => rfl⟩⟩
 ·simp only [eMdel, h]
 ·intro id b hb
  by_cases e : m = id
  ·subst e; exact hw.blk _ _ h
  ·simp only [T.get_set_ne _ _ e] at hb; exact hw.blk _ _ hb
 ·intro id cs room fam ver wr pl st hb
  by_cases e : m = id
  ·subst e; simp only [T.get_set_same] at hb; cases hb
  ·simp only [T.get_set_ne _ _ e] at hb; exact hw.fam _ _ _ _ _ _ _ _ hb
theorem s_blob_New_ret (c : CallK) (N : Nat) {H : Heap} (hw : WF H) (τ : Tape) :
  ∃ H', Stor (fun i => H.size + 2 ≤ i) H' (H.size + 1) H.size 0 [] ∧ Gr H.size H H' ∧ H'.size = H.size + 2 ∧ ∀ q, s_blob_New c N H τ q = q (.ptr (H.size + 1) 0) H' τ := by
 have e0 : eMkMap [] H τ = some (.map H.size, { size := H.size + 1, blk := H.blk.set H.size (.mapb [] (some 0)), fams := H.fams }, τ) := rfl
 generalize hH1 : ({ size := H.size + 1, blk := H.blk.set H.size (.mapb [] (some 0)), fams := H.fams } : Heap) = H1 at e0
 have m1 : Mp H1 H.size [] := ⟨[], 0, hH1 ▸ T.get_set_same _ _ _, rfl⟩
 have w1 : WF H1 := by
  subst hH1
  refine ⟨fun id b hb => ?_, fun f x hx => Nat.lt_succ_of_lt (hw.fams _ _ hx), fun id cs room fam ver wr pl st hb => ?_⟩
  ·by_cases e : H.size = id
   ·subst e; exact Nat.lt_succ_self _
   ·simp only [T.get_set_ne _ _ e] at hb; exact Nat.lt_succ_of_lt (hw.blk _ _ hb)
  ·by_cases e : H.size = id
   ·subst e; simp only [T.get_set_same] at hb; cases hb
   ·simp only [T.get_set_ne _ _ e] at hb; exact Nat.lt_succ_of_lt (hw.fam _ _ _ _ _ _ _ _ hb)
 have z1 : H1.size = H.size + 1 := hH1 ▸ rfl
 have g1 : Gr H.size H H1 := ⟨w1, by omega, fun id hid => by subst hH1; exact T.get_set_ne _ _ (by omega), fun f _ => by subst hH1; rfl⟩
 have e1 : eBox [.agg [.map H.size, .int .i64 (Int.ofNat 0)]] H1 τ = some (.ptr H1.size 0, H1.new [.map H.size, .int .i64 (Int.ofNat 0)] 2 true, τ) := rfl
 have pb : pBuild [.nilm, .int .i64 (Int.ofNat 0)] [(0, 1)] [.map H.size] = some (.agg [.map H.size, .int .i64 (Int.ofNat 0)]) := rfl
 have g2 : Gr H1.size H1 (H1.new [.map H.size, .int .i64 (Int.ofNat 0)] 2 true) := Gr.new w1 _ _ _
 have x2 : Bx (H1.new [.map H.size, .int .i64 (Int.ofNat 0)] 2 true) H1.size [.map H.size, .int .i64 (Int.ofNat 0)] := Bx.new H1 _ _ _ (by simp)
 refine ⟨H1.new [.map H.size, .int .i64 (Int.ofNat 0)] 2 true, ⟨by rw [← z1]; exact x2, m1.chg w1 g2.chg (Q := fun _ => False) (fun h => h), fun e he => by simp at he, by omega, by omega⟩, g1.trans g2 (by omega), by show H1.size + 1 = _; omega, fun q => ?_⟩
 simp only [s_blob_New, e0, effK_n, pb, someK_n, e1, z1]
theorem s_blob_Store_Len_ret (c : CallK) (N : Nat) {P : Nat → Prop} {H : Heap} {s m k : Nat} {es : List Blb} (h : Stor P H s m k es) (τ : Tape) (q : KV) : s_blob_Store_Len c N (.ptr s 0) H τ q = q (.int .i64 (es.length : Int)) H τ := by
 simp only [s_blob_Store_Len, nk_ptr, someK_n, fa_ptr, Nat.zero_add, (bx_pair h.var).1, mlen_E h.map]
theorem s_blob_Store_Drop_ret (c : CallK) (N : Nat) {P : Nat → Prop} {H : Heap} {s m k : Nat} {es : List Blb} (h : Stor P H s m k es) (hw : WF H) (hP : ∀ i, P i → i < H.size) (u : Bs) (τ : Tape) :
  ∃ H', Stor P H' s m k (delE u es) ∧ Chg (fun i => i = m) H H' ∧ ∀ q, s_blob_Store_Drop c N (.ptr s 0) (.str u) H τ q = q (.bool (findE u es).isSome) H' τ := by
 have hm := h.map.lt hw
 have hs := h.var.lt hw
 obtain ⟨xk, xb, hxb, hbx⟩ : ∃ xk xb, NoM xb ∧ lkE (findE u es) = .tup [.agg [.str xk, xb], .bool (findE u es).isSome] := by
  cases hf : findE u es with
  | none => exact ⟨[], .nils, .inl rfl, rfl⟩
  | some e => exact ⟨e.kind, e.bv, bodP_noM (h.bod e (findE_mem hf)), rfl⟩
 have hl := look_E h.map u
 rw [hbx] at hl
 have a1 : eAlloc [.str [], .nils] [] H τ = some (.ptr H.size 0, H.new [.str [], .nils] 2 true, τ) := rfl
 generalize hH1 : H.new [.str [], .nils] 2 true = H1 at a1
 have g1 : Gr H.size H H1 := hH1 ▸ Gr.new hw _ _ _
 have x1 : Bx H1 H.size [.str [], .nils] := hH1 ▸ Bx.new H _ _ _ (by simp)
 have hsc : xb.cells = [xb] ∧ xb.scal = true := by rcases hxb with rfl | ⟨i, o, n, l, e, z, rfl⟩ <;> exact ⟨rfl, rfl⟩
 obtain ⟨H2, s1, s2, s3⟩ := x1.eStore g1.wf 0 (.agg [.str xk, xb]) 2 rfl (by simp) (by omega) (by show (true && (xb.scal && true)) = true; rw [hsc.2]; rfl) τ
 have g2 : Gr H.size H H2 := g1.trans (s3.gr (B := H.size) (Nat.le_refl _)) (Nat.le_refl _)
 have h2 := stor_gr h hw g2
 obtain ⟨H3, d1, d2, d3⟩ := mdel_E h2.map g2.wf u τ
 refine ⟨H3, ⟨h2.var.only d3 (stor_ne h), d2, fun e he => (h2.bod e (delE_mem he)).chg g2.wf (d3.chg (P := fun i => i = m) rfl) (fun i _ hp e => h.mP (e ▸ hp)), h.sP, h.mP⟩, (g2.chg (P := fun i => i = m)).trans (d3.chg (P := fun i => i = m) rfl) fun _ _ h => h, fun q => ?_⟩
 have ex0 : pExtract 0 [.tup [.agg [.str xk, xb], .bool (findE u es).isSome]] = some (.agg [.str xk, xb]) := rfl
 have ex1 : pExtract 1 [.tup [.agg [.str xk, xb], .bool (findE u es).isSome]] = some (.bool (findE u es).isSome) := rfl
 simp only [s_blob_Store_Drop, nk_ptr, someK_n, fa_ptr, Nat.zero_add, (bx_pair h.var).1, hl, ex0, ex1, a1, effK_n, s1, (bx_pair h2.var).1, d1]
end Go.Am.X

namespace Go.Am.X
def putErr (kind : Bs) (n len : Nat) : Nat := if valO kind = false then 1 else if 16384 < n ∨ 4096 < kind.length then 3 else if 32 ≤ len then 4 else 0
def putU (o : Bs) (k : Nat) : Bs := (([98, 108, 111, 98, 58] ++ orgT o) ++ [47]) ++ dig k
theorem orgT_len {o : Bs} (h : Adr o) : (orgT o).length ≤ 10 := by rcases h with rfl | rfl | rfl <;> decide
theorem org_form (o : Bs) : ∃ a b p d, org o = .agg [.str a, .str b, .int .i64 p, .bool d] := by
 unfold org
 cases eqB o a1 <;> cases eqB o a2 <;> exact ⟨_, _, _, _, rfl⟩
theorem s_blob_Store_Put_ok (c : CallK) (N : Nat) (hV : IsP c f_headers_Value ValueR) (hT : IsP c f_origin_Text (RV TxtPre TxtG)) (hI : IsP c f_strconv_Itoa (RV ItoPre ItoG)) (hC : CloneOk c) {P : Nat → Prop} {H : Heap} {s m k : Nat} {es : List Blb} (h : Stor P H s m k es) (hw : WF H) (hP : ∀ i, P i → i < H.size)
  {o : Bs} (ho : Adr o) (kind : Bs) (hk : kind.length ≤ 9223372036854775806) {bv : V} {n : Nat} {cs : List V} (hr : Rd H 1 bv n cs) (hb : ∀ H', Chg (fun i => i = s) H H' → Rd H' 1 bv n cs ∧ Src H' bv) (hn : n ≤ 140737488355328) (hkk : k < 90) (he : putErr kind n es.length = 0) (τ : Tape) :
  ∃ bv' H' τ', Stor (fun i => P i ∨ (H.size ≤ i ∧ i < H'.size)) H' s m (k + 1) (putE ⟨putU o (k + 1), valT kind, bv', cs⟩ es) ∧ Chg (fun i => i = s ∨ i = m) H H' ∧ ∀ q, s_blob_Store_Put c N (.ptr s 0) (org o) (.str kind) bv H τ q = q (.tup [.str (putU o (k + 1)), .int .i64 (Int.ofNat 0)]) H' τ' := by
 obtain ⟨oa, ob, op, od, hof⟩ := org_form o
 have e0 : eBox [org o] H τ = some (.ptr H.size 0, H.new [.str oa, .str ob, .int .i64 op, .bool od] 4 true, τ) := by rw [hof]; rfl
 generalize hH1 : H.new [.str oa, .str ob, .int .i64 op, .bool od] 4 true = H1 at e0
 have g1 : Gr H.size H H1 := hH1 ▸ Gr.new hw _ _ _
 have x1 : Bx H1 H.size [.str oa, .str ob, .int .i64 op, .bool od] := hH1 ▸ Bx.new H _ _ _ (by simp)
 have h1 := stor_gr h hw g1
 have kv := fun H τ q => callS hV kind hk H τ q
 have hms : m < H.size := h.map.lt hw
 have hss : s < H.size := h.var.lt hw
 have hne := stor_ne h
 unfold putErr at he
 have hv : valO kind = true := by
  cases hv : valO kind with
  | true => rfl
  | false => rw [hv] at he; simp at he
 rw [hv] at he
 simp only [Bool.true_eq_false, if_false] at he
 have hl : ¬ (16384 < n ∨ 4096 < kind.length) := fun hl => by rw [if_pos hl] at he; omega
 rw [if_neg hl] at he
 have h32 : ¬ 32 ≤ es.length := fun h32 => by rw [if_pos h32] at he; omega
 have ev : valV kind = .tup [.str (valT kind), .bool true] := by unfold valV; rw [hv]; rfl
 have d1 : decide (Int.ofNat 16384 < (n : Int)) = false := decide_eq_false (by have : Int.ofNat 16384 = 16384 := rfl; omega)
 have d2 : decide (Int.ofNat 4096 < (kind.length : Int)) = false := decide_eq_false (by have : Int.ofNat 4096 = 4096 := rfl; omega)
 have d3 : decide (Int.ofNat 32 ≤ (es.length : Int)) = false := decide_eq_false (by have : Int.ofNat 32 = 32 := rfl; omega)
 have ek : wr .i64 ((k : Int) + Int.ofNat 1) = ((k + 1 : Nat) : Int) := adI (by omega)
 obtain ⟨H2, s1, s2, s3⟩ := h1.var.eStore g1.wf 1 (.int .i64 ((k + 1 : Nat) : Int)) 1 rfl (by simp) (by omega) rfl τ
 have v2 : Bx H2 s [.map m, .int .i64 ((k + 1 : Nat) : Int)] := s2
 have m2 : Mp H2 m es := h1.map.chg g1.wf (s3.chg (P := fun i => i = s) rfl) (fun e => hne e.symm)
 have x2 : Bx H2 H.size [.str oa, .str ob, .int .i64 op, .bool od] := x1.only s3 (by omega)
 have lo : lLoadN 4 [.ptr H.size 0] H2 = some (org o) := by
  have := load_cells (off := 0) (n := 4) x2.cells (by simp)
  rw [hof]; simpa using this
 have kt := fun τ q => outK_val hT (RV_fun _ _) (vs := [org o]) (H := H2) (v := .str (orgT o)) ⟨⟨o, ho, rfl⟩, by show Out.val _ = Out.val _; simp only [TxtG, unorg_org ho]⟩ τ q
 have ki := fun τ q => outK_val hI (RV_fun _ _) (vs := [.int .i64 ((k + 1 : Nat) : Int)]) (H := H2) (v := .str (dig (k + 1))) ⟨⟨by omega, by omega⟩, rfl⟩ τ q
 have lT := orgT_len ho
 have lD := dig_len (k + 1)
 have t1 : strBin .add [98, 108, 111, 98, 58] (orgT o) = some (.str ([98, 108, 111, 98, 58] ++ orgT o)) := str_add (by simp; omega)
 have t2 : strBin .add ([98, 108, 111, 98, 58] ++ orgT o) [47] = some (.str (([98, 108, 111, 98, 58] ++ orgT o) ++ [47])) := str_add (by simp; omega)
 have t3 : strBin .add (([98, 108, 111, 98, 58] ++ orgT o) ++ [47]) (dig (k + 1)) = some (.str (putU o (k + 1))) := str_add (by simp; omega)
 have p2 := bx_pair v2
 have hc1 : chkLoads [H2, H2, H2] (((.load none), [.ptr s 1], 0, 1) :: []) = true := by
  simp [chkLoads, evalL, lLoad, p2, chk1, same, same1, same0]
 have g2 : Chg (fun i => i = s) H H2 := (g1.chg (P := fun i => i = s)).trans (s3.chg (P := fun i => i = s) rfl) fun _ _ h => h
 obtain ⟨r2, sr2⟩ := hb H2 g2
 have z2 : H2.size = H.size + 1 := by rw [s3.size, ← hH1]; rfl
 obtain ⟨bv', H3, τ3, c1, c2, c3⟩ := hC s3.wf r2 sr2 hn τ
 have z3 := c2.size
 have v3 : Bx H3 s [.map m, .int .i64 ((k + 1 : Nat) : Int)] := v2.gr c2 (by omega)
 have m3 : Mp H3 m es := m2.chg s3.wf c2.chg (Q := fun _ => False) (fun h => h)
 have p3 := bx_pair v3
 have hbv := c1.scal
 have hln : cs.length = n := by have := r2.len; omega
 have pb : pBuild [.str [], .nils] [(0, 1), (1, 1)] [.str (valT kind), bv'] = some (Blb.val ⟨putU o (k + 1), valT kind, bv', cs⟩) := by
  rcases bodP_noM c1 with rfl | ⟨i, o, n, l, e, z, rfl⟩ <;> rfl
 obtain ⟨H4, u1, u2, u3⟩ := mput_E m3 c2.wf ⟨putU o (k + 1), valT kind, bv', cs⟩ τ3
 have hc2 : chkLoads [H2, H3, H4] (((.load none), [.ptr s 0], 0, 1) :: []) = true := by
  simp [chkLoads, evalL, lLoad, p2, p3, chk1, same, same1, same0]
 have z4 : H4.size = H3.size := u3.size
 refine ⟨bv', H4, τ3, ⟨v3.only u3 hne, u2, fun e he => ?_, ?_, ?_⟩, ?_, fun q => ?_⟩
 ·rcases putE_mem he with rfl | he
  ·rw [hln]
   have a1 := c1.weaken (Q := fun i => H2.size ≤ i ∧ i < H3.size) c2.wf fun i hi h => ⟨h, hi⟩
   exact (a1.chg c2.wf (u3.chg (P := fun i => i = m) rfl) (fun i _ h e => by omega)).weaken u3.wf fun i _ h => .inr ⟨by omega, by omega⟩
  ·have b1 := (h.bod e he).chg hw g2 (fun i _ hp e => h.sP (e ▸ hp))
   have b2 := b1.chg s3.wf c2.chg (Q := fun _ => False) (fun _ _ _ h => h)
   exact (b2.chg c2.wf (u3.chg (P := fun i => i = m) rfl) (fun i _ hp e => h.mP (e ▸ hp))).weaken u3.wf fun i _ h => .inl h
 ·rintro (hp | ⟨h1, _⟩)
  ·exact h.sP hp
  ·omega
 ·rintro (hp | ⟨h1, _⟩)
  ·exact h.mP hp
  ·omega
 ·exact ((g2.weaken (Q := fun i => i = s ∨ i = m) fun i _ h => .inl h).trans (c2.chg (P := fun i => i = s ∨ i = m)) fun _ _ h => h).trans (u3.chg (P := fun i => i = s ∨ i = m) (.inr rfl)) fun _ _ h => h
 ·simp only [s_blob_Store_Put, e0, effK_n, kv, ev, getK_set, ↓reduceIte, Nat.reduceEqDiff, someK_n, effK_n, retK, gK_do, gK_do', gK_skip, gK_skip', gK_none, pick_mk, cond_true, cond_false, condK_tn, condK_fn, bin_eql, bin_neq, bin_lss, bin_leq, bin_gtr, bin_geq, un_not, Bool.not_true, Bool.not_false, bin_str, lenS_mk, nle_l, nle_r, nle_n, nlt_l, nlt_r, nlt_n, neq_r, neq_n, nne_r, nne_n, ext0, ext1, ext30, ext31, ext32, bin_add, bin_sub, decide_true, decide_false, hr.pLen, d1, d2, nk_ptr, fa_ptr, Nat.zero_add, (bx_pair h1.var).1, (bx_pair h1.var).2, mlen_E h1.map, d3, ek, s1, lo, kt, show bs [98, 108, 111, 98, 58] = [98, 108, 111, 98, 58] from rfl, show bs [47] = [47] from rfl, t1, t2, p2.1, p2.2, ki, t3, hc1, c3, pb, u1, hc2]
end Go.Am.X

namespace Go.Am.X
theorem intL_rangeB : ∀ (s : Bs) (n m : Int), 0 ≤ n → n ≤ mostI → intL s n = some m → 0 ≤ m ∧ m ≤ mostI := by
 intro s
 induction s with
 | nil => intro n m h0 h1 h; cases h; exact ⟨h0, h1⟩
 | cons x s ih =>
  intro n m h0 h1 h
  rw [intL] at h
  split at h
  ·rename_i hx
   have := intStep_range h0 h1 (d := (x.toNat : Int) - 48) (by omega) (by omega)
   exact ih _ _ this.1 this.2 h
  ·cases h
theorem intB_rangeB (s : Bs) : 0 ≤ (intB s).1 ∧ (intB s).1 ≤ mostI := by
 unfold intB
 cases h : intL s 0 with
 | none => exact ⟨Int.le_refl _, by show (0 : Int) ≤ mostI; unfold mostI; omega⟩
 | some m => exact intL_rangeB s 0 m (Int.le_refl _) (by unfold mostI; omega) h
theorem toldB_range (s : Bs) : -1 ≤ (toldB s).1 ∧ (toldB s).1 ≤ mostI := by
 unfold toldB
 split
 ·exact ⟨by decide, by unfold mostI; omega⟩
 ·have := intB_rangeB s; omega
theorem rng_range (s : Bs) : (-1 ≤ (rng s).1 ∧ (rng s).1 ≤ 9223372036854775807) ∧ (-1 ≤ (rng s).2.1 ∧ (rng s).2.1 ≤ 9223372036854775807) ∧ ((rng s).2.2 = true → (rng s).1 < 0 → 0 ≤ (rng s).2.1) := by
 have z : (-1 ≤ (0 : Int) ∧ (0 : Int) ≤ 9223372036854775807) ∧ (-1 ≤ (0 : Int) ∧ (0 : Int) ≤ 9223372036854775807) ∧ (false = true → (0 : Int) < 0 → 0 ≤ (0 : Int)) := ⟨by omega, by omega, fun h => by cases h⟩
 unfold rng
 cases begB s bytesEq with
 | false => exact z
 | true =>
  simp only [cond_true]
  split
  ·rename_i a b hc
   unfold rngAB
   have ra := toldB_range a
   have rb := toldB_range b
   unfold mostI at ra rb
   cases hx : ((toldB a).2 && (toldB b).2) && (!(decide ((toldB a).1 < 0) && decide ((toldB b).1 < 0)) && !(decide (0 ≤ (toldB a).1) && (decide (0 ≤ (toldB b).1) && decide ((toldB b).1 < (toldB a).1)))) with
   | false => exact z
   | true =>
    refine ⟨ra, rb, fun _ h => ?_⟩
    simp only [cond_true] at h
    simp only [cond_true]
    simp only [Bool.and_eq_true, Bool.not_eq_true', Bool.and_eq_false_iff, decide_eq_false_iff_not] at hx
    rcases hx.2.1 with h1 | h1 <;> omega
  ·exact z
def uCut (u : Bs) : Bs := match cutB 35 u with | some (a, _) => a | none => u
theorem partV_form (u : Bs) : ∃ b t, partV 35 u = .tup [.str (uCut u), .str b, .bool t] := by
 unfold partV uCut
 cases cutB 35 u with
 | none => exact ⟨_, _, rfl⟩
 | some p => exact ⟨_, _, rfl⟩
def readE (es : List Blb) (u ranged : Bs) (has : Bool) : Option (Blb × Option (Nat × Nat)) :=
 match findE (uCut u) es with
 | none => none
 | some e => bif has then (match cutR e.cs.length (rng ranged) with | some ab => some (e, some ab) | none => none) else some (e, none)
def readHs (e : Blb) : Option (Nat × Nat) → List Hd
 | none => [(clN, dig e.cs.length), (ctN, e.kind)]
 | some (a, b) => [(clN, dig (b - a)), (ctN, e.kind), (crN, crT a b e.cs.length)]
def readBs (e : Blb) : Option (Nat × Nat) → List V
 | none => e.cs
 | some (a, b) => (e.cs.take b).drop a
def readSt : Option (Nat × Nat) → Int
 | none => Int.ofNat 200
 | some _ => Int.ofNat 206
theorem cutF_nonneg (n : Nat) (r : Int × Int × Bool) : 0 ≤ cutF n r := by unfold cutF; split <;> omega
theorem cutM_le (n : Nat) (r : Int × Int × Bool) : cutM n r ≤ (n : Int) - 1 := by unfold cutM; omega
theorem cutR_some {n a b : Nat} {r : Int × Int × Bool} (h : cutR n r = some (a, b)) : a < b ∧ b ≤ n ∧ r.2.2 = true ∧ cutF n r = (a : Int) ∧ cutM n r = (b : Int) - 1 := by
 have h1 := cutF_nonneg n r
 have h2 := cutM_le n r
 unfold cutR at h
 split at h
 ·rename_i hr
  split at h
  ·cases h
  ·rename_i h3
   injection h with h
   injection h with ha hb
   subst ha; subst hb
   exact ⟨by omega, by omega, hr, by omega, by omega⟩
 ·cases h
theorem cutR_none {n : Nat} {r : Int × Int × Bool} (h : cutR n r = none) (hr : r.2.2 = true) : cutM n r < cutF n r := by
 unfold cutR at h
 rw [if_pos hr] at h
 split at h
 ·assumption
 ·cases h
def ReadRes (H' : Heap) (B : Nat) (res : V) : Option (Blb × Option (Nat × Nat)) → Prop
 | none => res = .tup [.agg [.int .i64 (Int.ofNat 0), .nils, .nils], .bool false]
 | some (e, ab) => ∃ hv bv', res = .tup [.agg [.int .i64 (readSt ab), hv, bv'], .bool true] ∧ RdH H' hv (readHs e ab) ∧ BodP (fun i => B ≤ i) H' bv' (readBs e ab).length (readBs e ab)
theorem s_blob_Store_Read_ret (c : CallK) (N : Nat) (hCut : RCutOk c) (hRng : RngOk c f_headers_Range) (hNum : NumOk c) (hR : ReplyOk c) {P : Nat → Prop} {H : Heap} {s m k : Nat} {es : List Blb} (h : Stor P H s m k es) (hw : WF H) (hsz : ∀ e ∈ es, e.cs.length < 400) (ht : inH H 0 tabs = true) (hg : 6 ≤ H.size)
  (u : Bs) (hu : u.length < 9223372036854775807) (ranged : Bs) (hrg : ranged.length ≤ 9223372036854775806) (has : Bool) (τ : Tape) :
  ∃ res H' τ', Gr H.size H H' ∧ ReadRes H' H.size res (readE es u ranged has) ∧ ∀ q, s_blob_Store_Read c N (.ptr s 0) (.str u) (.str ranged) (.bool has) H τ q = q res H' τ' := by
 have a1 : eAlloc [(.int .i64 (.ofNat 0)), .nils, .nils] [] H τ = some (.ptr H.size 0, H.new [(.int .i64 (.ofNat 0)), .nils, .nils] 3 true, τ) := rfl
 generalize hH1 : H.new [(.int .i64 (.ofNat 0)), .nils, .nils] 3 true = H1 at a1
 have g1 : Gr H.size H H1 := hH1 ▸ Gr.new hw _ _ _
 have x1 : Bx H1 H.size [(.int .i64 (.ofNat 0)), .nils, .nils] := hH1 ▸ Bx.new H _ _ _ (by simp)
 have z1 : H1.size = H.size + 1 := hH1 ▸ rfl
 have h1 := stor_gr h hw g1
 have kc := fun H τ q => hCut u 35 hu H τ q
 obtain ⟨pb, pt, hpv⟩ := partV_form u
 have ec : bs [35] = [35] := rfl
 have px0 : pExtract 0 [.tup [.str (uCut u), .str pb, .bool pt]] = some (.str (uCut u)) := rfl
 have px1 : pExtract 1 [.tup [.str (uCut u), .str pb, .bool pt]] = some (.str pb) := rfl
 have px2 : pExtract 2 [.tup [.str (uCut u), .str pb, .bool pt]] = some (.bool pt) := rfl
 obtain ⟨xk, xb, hxb, hbx⟩ : ∃ xk xb, NoM xb ∧ lkE (findE (uCut u) es) = .tup [.agg [.str xk, xb], .bool (findE (uCut u) es).isSome] ∧ ∀ e, findE (uCut u) es = some e → xk = e.kind ∧ xb = e.bv := by
  cases hf : findE (uCut u) es with
  | none => exact ⟨[], .nils, .inl rfl, rfl, fun e h => by cases h⟩
  | some e => exact ⟨e.kind, e.bv, bodP_noM (h.bod e (findE_mem hf)), rfl, fun e' h => by cases h; exact ⟨rfl, rfl⟩⟩
 obtain ⟨hbx, hxe⟩ := hbx
 have hl := look_E h1.map (uCut u)
 rw [hbx] at hl
 have ex0 : pExtract 0 [.tup [.agg [.str xk, xb], .bool (findE (uCut u) es).isSome]] = some (.agg [.str xk, xb]) := rfl
 have ex1 : pExtract 1 [.tup [.agg [.str xk, xb], .bool (findE (uCut u) es).isSome]] = some (.bool (findE (uCut u) es).isSome) := rfl
 have a2 : eAlloc [.str [], .nils] [] H1 τ = some (.ptr H1.size 0, H1.new [.str [], .nils] 2 true, τ) := rfl
 generalize hH2 : H1.new [.str [], .nils] 2 true = H2 at a2
 have g2 : Gr H1.size H1 H2 := hH2 ▸ Gr.new g1.wf _ _ _
 have x2 : Bx H2 H1.size [.str [], .nils] := hH2 ▸ Bx.new H1 _ _ _ (by simp)
 have z2 : H2.size = H1.size + 1 := hH2 ▸ rfl
 have hsc : xb.cells = [xb] ∧ xb.scal = true := by rcases hxb with rfl | ⟨i, o, n, l, e, z, rfl⟩ <;> exact ⟨rfl, rfl⟩
 obtain ⟨H3, s1, s2, s3⟩ := x2.eStore g2.wf 0 (.agg [.str xk, xb]) 2 rfl (by simp) (by omega) (by show (true && (xb.scal && true)) = true; rw [hsc.2]; rfl) τ
 have x3 : Bx H3 H1.size [.str xk, xb] := s2
 have z3 : H3.size = H2.size := s3.size
 have r3 : Bx H3 H.size [(.int .i64 (.ofNat 0)), .nils, .nils] := (x1.gr g2 (by omega)).only s3 (by omega)
 have g3 : Gr H.size H H3 := (g1.trans g2 g1.size).trans (s3.gr (B := H.size) (by omega)) (Nat.le_refl _)
 have h3 := stor_gr h hw g3
 have ht3 : inH H3 0 tabs = true := inH_gr ht tabs_plain g3 hw (Nat.le_refl _)
 have hg3 : 6 ≤ H3.size := by omega
 have fail : ∀ {Hx : Heap}, Bx Hx H.size [(.int .i64 (.ofNat 0)), .nils, .nils] → WF Hx → ∀ τx, ∃ H', Only H.size Hx H' ∧ eStore 3 [.ptr H.size 0, .agg [.int .i64 (Int.ofNat 0), .nils, .nils]] Hx τx = some (.tup [], H', τx) ∧
   results ⟨T.set (T.set .leaf 8 (.ptr H.size 0)) 9 (.bool false), H'⟩ [.cell 8 (some 3), .t 9] = some (.tup [.agg [.int .i64 (Int.ofNat 0), .nils, .nils], .bool false]) := by
  intro Hx hx hwx τx
  obtain ⟨H', q1, q2, q3⟩ := hx.eStore hwx 0 (.agg [.int .i64 (Int.ofNat 0), .nils, .nils]) 3 rfl (by simp) (by omega) rfl τx
  have q2' : Bx H' H.size [.int .i64 (Int.ofNat 0), .nils, .nils] := q2
  exact ⟨H', q3, q1, res_ct (p := .ptr H.size 0) (by simp [T.get_set]) (by
   have := load_cells (off := 0) (n := 3) q2'.cells (by simp)
   simpa using this) (by simp [T.get_set])⟩
 have pb0 : pBuild [.int .i64 (Int.ofNat 0), .nils, .nils] [] [] = some (.agg [.int .i64 (Int.ofNat 0), .nils, .nils]) := rfl
 cases hf : findE (uCut u) es with
 | none =>
  obtain ⟨H4, f1, f2, f3⟩ := fail r3 s3.wf τ
  refine ⟨.tup [.agg [.int .i64 (Int.ofNat 0), .nils, .nils], .bool false], H4, τ, g3.trans (f1.gr (B := H.size) (Nat.le_refl _)) (Nat.le_refl _), by simp only [readE, hf]; rfl, fun q => ?_⟩
  rw [hf] at ex0 ex1 hl
  simp only [Option.isSome_none] at ex0 ex1 hl
  simp only [s_blob_Store_Read, a1, effK_n, ec, kc, hpv, px0, px1, px2, someK_n, nk_ptr, fa_ptr, Nat.zero_add, (bx_pair h1.var).1, hl, ex0, ex1, a2, s1, un_not, Bool.not_false, condK_tn, pb0, f2, f3]
 | some e =>
  obtain ⟨rfl, rfl⟩ := hxe e hf
  have he := findE_mem hf
  have hb := h3.bod e he
  have hn := hsz e he
  rw [hf] at ex0 ex1 hl
  simp only [Option.isSome_some] at ex0 ex1 hl
  have p3 := bx_pair x3
  have lx : lLoadN 2 [.ptr H1.size 0] H3 = some (.agg [.str e.kind, e.bv]) := by
   have := load_cells (off := 0) (n := 2) x3.cells (by simp)
   simpa using this
  cases has with
  | false =>
   obtain ⟨i, bv', H4, τ4, r1, r2, r5, r6, r7⟩ := hR (Int.ofNat 200) e.kind s3.wf hb.rd hb.src hb.roomy (Nat.zero_le _) (Nat.le_refl _) hn ht3 hg3 τ
   have e00 : ((0 : Nat) : Int) = Int.ofNat 0 := rfl
   rw [e00] at r7
   have hbs := r5.scal
   have y4 : Bx H4 H.size [(.int .i64 (.ofNat 0)), .nils, .nils] := r3.gr r6 (by omega)
   obtain ⟨H5, q1, q2, q3⟩ := y4.eStore r6.wf 0 (.agg [.int .i64 (Int.ofNat 200), .sl i 0 2 2 none 2, bv']) 3 rfl (by simp) (by omega) (by show (true && (true && (bv'.scal && true))) = true; rw [hbs.2]; rfl) τ4
   have q2' : Bx H5 H.size [.int .i64 (Int.ofNat 200), .sl i 0 2 2 none 2, bv'] := q2
   have lr : lLoadN 3 [.ptr H.size 0] H5 = some (.agg [.int .i64 (Int.ofNat 200), .sl i 0 2 2 none 2, bv']) := by
    have := load_cells (off := 0) (n := 3) q2'.cells (by simp)
    simpa using this
   have er : results ⟨T.set (T.set .leaf 8 (.ptr H.size 0)) 9 (.bool true), H5⟩ [.cell 8 (some 3), .t 9] = some (.tup [.agg [.int .i64 (Int.ofNat 200), .sl i 0 2 2 none 2, bv'], .bool true]) := res_ct (by simp [T.get_set]) lr (by simp [T.get_set])
   refine ⟨.tup [.agg [.int .i64 (Int.ofNat 200), .sl i 0 2 2 none 2, bv'], .bool true], H5, τ4, (g3.trans r6 g3.size).trans (q3.gr (B := H.size) (Nat.le_refl _)) (Nat.le_refl _), ?_, fun q => ?_⟩
   ·simp only [readE, hf, cond_false]
    refine ⟨.sl i 0 2 2 none 2, bv', rfl, ?_, ?_⟩
    ·exact rdH_sl (rest := []) (by rw [List.append_nil]; exact (r1.only q3 (by omega)).cells) rfl
    ·have b1 := r5
     simp only [Nat.sub_zero, List.drop_zero, List.take_length] at b1
     exact ((b1.chg r6.wf (q3.chg (P := fun i => i = H.size) rfl) (fun i _ h e => by omega)).weaken q3.wf fun i _ h => by omega)
   ·simp only [s_blob_Store_Read, a1, effK_n, ec, kc, hpv, px0, px1, px2, someK_n, nk_ptr, fa_ptr, Nat.zero_add, (bx_pair h1.var).1, hl, ex0, ex1, a2, s1, un_not, Bool.not_true, Bool.not_false, condK_fn, condK_tn, lx, p3.2, hb.rd.pLen, r7, q1, er]
  | true =>
   have kr := fun H τ q => hRng ranged hrg H τ q
   obtain ⟨⟨f1, f2⟩, ⟨l1, l2⟩, l3⟩ := rng_range ranged
   have rx0 : pExtract 0 [rngV ranged] = some (.int .i64 (rng ranged).1) := rfl
   have rx1 : pExtract 1 [rngV ranged] = some (.int .i64 (rng ranged).2.1) := rfl
   have rx2 : pExtract 2 [rngV ranged] = some (.bool (rng ranged).2.2) := rfl
   cases hok : (rng ranged).2.2 with
   | false =>
    obtain ⟨H4, q1, q2, q3⟩ := fail r3 s3.wf τ
    have hcr : cutR e.cs.length (rng ranged) = none := by unfold cutR; rw [hok]; simp
    refine ⟨.tup [.agg [.int .i64 (Int.ofNat 0), .nils, .nils], .bool false], H4, τ, g3.trans (q1.gr (B := H.size) (Nat.le_refl _)) (Nat.le_refl _), by simp only [readE, hf, cond_true, hcr]; rfl, fun q => ?_⟩
    rw [hok] at rx2
    simp only [s_blob_Store_Read, a1, effK_n, ec, kc, hpv, px0, px1, px2, someK_n, nk_ptr, fa_ptr, Nat.zero_add, (bx_pair h1.var).1, hl, ex0, ex1, a2, s1, un_not, Bool.not_true, Bool.not_false, condK_fn, condK_tn, p3.2, hb.rd.pLen, kr, rx0, rx1, rx2, pb0, q2, q3]
   | true =>
    rw [hok] at rx2
    have j0 : ∃ res H' τ', Gr H.size H H' ∧ ReadRes H' H.size res (readE es u ranged true) ∧ ∀ (fr : T V) q, fr.get 8 = some (.ptr H.size 0) → fr.get 10 = some (.ptr H1.size 0) → fr.get 12 = some (.int .i64 (e.cs.length : Int)) → fr.get 13 = some (.int .i64 (cutF e.cs.length (rng ranged))) → fr.get 14 = some (.int .i64 (cutL e.cs.length (rng ranged))) →
      s_blob_Store_Read_j0 c N q ⟨fr, H3⟩ τ = q res H' τ' := by
     cases hcr : cutR e.cs.length (rng ranged) with
     | none =>
      have hm := cutR_none hcr hok
      obtain ⟨H4, q1, q2⟩ := j0_none c N s3.wf r3 hn (f := cutF e.cs.length (rng ranged)) (l := cutL e.cs.length (rng ranged)) hm τ
      exact ⟨.tup [.agg [.int .i64 (Int.ofNat 0), .nils, .nils], .bool false], H4, τ, g3.trans (q1.gr (B := H.size) (Nat.le_refl _)) (Nat.le_refl _), by simp only [readE, hf, cond_true, hcr]; rfl, fun fr q f8 f10 f12 f13 f14 => q2 fr q f8 rfl ⟨_, f10⟩ f12 f13 f14⟩
     | some ab =>
      obtain ⟨a, b⟩ := ab
      obtain ⟨c1, c2, _, c3, c4⟩ := cutR_some hcr
      obtain ⟨v, bv', H4, τ4, k1, k2, k3, k4⟩ := j0_some c N hNum hR s3.wf r3 x3 (by omega) hb.rd hb.src hb.roomy hn c1 c2 ht3 hg3 (l := cutL e.cs.length (rng ranged)) c4 τ
      refine ⟨.tup [.agg [.int .i64 (Int.ofNat 206), v, bv'], .bool true], H4, τ4, ((g3.chg (P := fun i => i = H.size)).trans k3 fun _ _ h => h).gr (Nat.le_refl _) (fun i hi e => by omega), ?_, fun fr q f8 f10 f12 f13 f14 => k4 fr q f8 f10 f12 (by rw [f13, c3]) f14⟩
      simp only [readE, hf, cond_true, hcr]
      refine ⟨v, bv', rfl, k1, ?_⟩
      have hlb : ((e.cs.take b).drop a).length = b - a := by rw [List.length_drop, List.length_take, Nat.min_eq_left c2]
      show BodP _ H4 bv' ((e.cs.take b).drop a).length ((e.cs.take b).drop a)
      rw [hlb]
      exact k2.weaken k3.wf fun i _ h => by omega
    obtain ⟨res, H', τ', g, hres, hj⟩ := j0
    refine ⟨res, H', τ', g, hres, fun q => ?_⟩
    have w1 : wr .i64 ((e.cs.length : Int) - (rng ranged).2.1) = (e.cs.length : Int) - (rng ranged).2.1 := wr_id (by omega) (by omega)
    have w2 : wr .i64 ((e.cs.length : Int) - Int.ofNat 1) = (e.cs.length : Int) - 1 := by rw [show Int.ofNat 1 = (1 : Int) from rfl, wr_id (by omega) (by omega)]
    have pm : ∀ x : Int, pMax [.int .i64 x, .int .i64 (Int.ofNat 0)] = some (.int .i64 (max x 0)) := fun x => by simp [pMax]; split <;> omega
    by_cases d1 : (rng ranged).1 < 0
    ·have e1 : decide ((rng ranged).1 < Int.ofNat 0) = true := decide_eq_true d1
     have eF : cutF e.cs.length (rng ranged) = max ((e.cs.length : Int) - (rng ranged).2.1) 0 := if_pos d1
     have eL : cutL e.cs.length (rng ranged) = (e.cs.length : Int) - 1 := if_pos d1
     rw [eF, eL] at hj
     simp only [s_blob_Store_Read, a1, effK_n, ec, kc, hpv, px0, px1, px2, someK_n, nk_ptr, fa_ptr, Nat.zero_add, (bx_pair h1.var).1, hl, ex0, ex1, a2, s1, un_not, Bool.not_true, Bool.not_false, condK_fn, condK_tn, p3.2, hb.rd.pLen, kr, rx0, rx1, rx2, bin_lss, e1, bin_sub, w1, w2, pm]
     exact hj _ q (by simp [T.get_set]) (by simp [T.get_set]) (by simp [T.get_set]) (by simp [T.get_set]) (by simp [T.get_set])
    ·have e1 : decide ((rng ranged).1 < Int.ofNat 0) = false := decide_eq_false d1
     have eF : cutF e.cs.length (rng ranged) = (rng ranged).1 := if_neg d1
     by_cases d2 : (rng ranged).2.1 < 0
     ·have e2 : decide ((rng ranged).2.1 < Int.ofNat 0) = true := decide_eq_true d2
      have eL : cutL e.cs.length (rng ranged) = (e.cs.length : Int) - 1 := by unfold cutL; rw [if_neg d1, if_pos d2]
      rw [eF, eL] at hj
      simp only [s_blob_Store_Read, a1, effK_n, ec, kc, hpv, px0, px1, px2, someK_n, nk_ptr, fa_ptr, Nat.zero_add, (bx_pair h1.var).1, hl, ex0, ex1, a2, s1, un_not, Bool.not_true, Bool.not_false, condK_fn, condK_tn, p3.2, hb.rd.pLen, kr, rx0, rx1, rx2, bin_lss, e1, e2, bin_sub, w2]
      exact hj _ q (by simp [T.get_set]) (by simp [T.get_set]) (by simp [T.get_set]) (by simp [T.get_set]) (by simp [T.get_set])
     ·have e2 : decide ((rng ranged).2.1 < Int.ofNat 0) = false := decide_eq_false d2
      have eL : cutL e.cs.length (rng ranged) = (rng ranged).2.1 := by unfold cutL; rw [if_neg d1, if_neg d2]
      rw [eF, eL] at hj
      simp only [s_blob_Store_Read, a1, effK_n, ec, kc, hpv, px0, px1, px2, someK_n, nk_ptr, fa_ptr, Nat.zero_add, (bx_pair h1.var).1, hl, ex0, ex1, a2, s1, un_not, Bool.not_true, Bool.not_false, condK_fn, condK_tn, p3.2, hb.rd.pLen, kr, rx0, rx1, rx2, bin_lss, e1, e2]
      exact hj _ q (by simp [T.get_set]) (by simp [T.get_set]) (by simp [T.get_set]) (by simp [T.get_set]) (by simp [T.get_set])
end Go.Am.X

namespace Go.Am.X
theorem dig_loop21 (c : CallK) (N : Nat) (H : Heap) (k : KC) : ∀ (f n : Nat) (acc : Bs) (m : Nat) (fr : T V) (τ : Tape), n < 10 ^ f → n < 4611686018427387904 → (acc ≠ [] ∨ 0 < f) → acc.length < 1000 - f → f < 100 → f < m →
  fr.get 0 = some (.int .i64 (n : Int)) → fr.get 3 = some (.str acc) → loopK (s_law21_digits_l1 c N) m ⟨fr, H⟩ τ k = k (.exit 0) ⟨T.set .leaf 3 (.str (digF f n acc)), H⟩ τ := by
 intro f
 induction f with
 | zero =>
  intro n acc m fr τ hn hb ha hl hf hm f0 f3
  obtain ⟨m, rfl⟩ : ∃ j, m = j + 1 := ⟨m - 1, by omega⟩
  have hn0 : n = 0 := by simpa using hn
  subst hn0
  have hac : acc ≠ [] := by rcases ha with h | h; exact h; omega
  have e1 : decide (Int.ofNat 0 < ((0 : Nat) : Int)) = false := rfl
  have e2 : (acc == ([] : Bs)) = false := beq_eq_false_iff_ne.2 hac
  rw [loopK_succ]
  simp only [s_law21_digits_l1, getK_mk f0, getK_mk f3, bin_gtr, e1, gK_do', retK, effK_mk, bin_str, str_eql, e2, someK_mk, pick_mk, cond_false, condK_f, seqK, digF]
 | succ f ih =>
  intro n acc m fr τ hn hb ha hl hf hm f0 f3
  obtain ⟨m, rfl⟩ : ∃ j, m = j + 1 := ⟨m - 1, by omega⟩
  rw [loopK_succ]
  have step : (0 < n ∨ acc = []) → loopK (s_law21_digits_l1 c N) m ⟨(T.set (T.set (T.set (T.set (T.set .leaf 0 (.int .i64 (n : Int))) 3 (.str (UInt8.ofNat (48 + n % 10) :: acc))) 19 (.int .i64 (n : Int))) 20 (.int .i64 ((n / 10 : Nat) : Int))) 0 (.int .i64 ((n / 10 : Nat) : Int))), H⟩ τ k = k (.exit 0) ⟨T.set .leaf 3 (.str (digF (f + 1) n acc)), H⟩ τ := by
   intro h
   rw [ih (n / 10) (UInt8.ofNat (48 + n % 10) :: acc) m _ τ (by rw [Nat.pow_succ] at hn; omega) (by omega) (.inl (by simp)) (by simp; omega) (by omega) (by omega) (by simp [T.get_set]) (by simp [T.get_set])]
   have : (Nat.blt 0 n || acc.isEmpty) = true := by
    rcases h with h | h
    ·have : Nat.blt 0 n = true := by simp [Nat.blt]; omega
     rw [this]; rfl
    ·rw [h]; simp
   simp only [digF, this, cond_true]
  have hr : (n : Int).tmod (Int.ofNat 10) = ((n % 10 : Nat) : Int) := rfl
  have hq : (n : Int).tdiv (Int.ofNat 10) = ((n / 10 : Nat) : Int) := rfl
  have e3 : wr .i64 (((n % 10 : Nat) : Int) + Int.ofNat 1) = ((n % 10 + 1 : Nat) : Int) := by
   rw [wr_id (by simp; omega) (by simp; omega)]; rfl
  have e4 : wr .i64 ((n / 10 : Nat) : Int) = ((n / 10 : Nat) : Int) := wr_id (by omega) (by omega)
  have e5 : strBin .add [UInt8.ofNat (48 + n % 10)] acc = some (.str (UInt8.ofNat (48 + n % 10) :: acc)) := str_add (by simp; omega)
  by_cases h0 : 0 < n
  ·have e1 : decide (Int.ofNat 0 < (n : Int)) = true := decide_eq_true (by simp; omega)
   simp only [s_law21_digits_l1, getK_mk f0, getK_mk f3, bin_gtr, e1, gK_skip', someK_mk, pick_mk, cond_true, condK_t]
   rw [bin_rem _ _ _ (by decide), hr, bin_add, e3, dig_slice _ (Nat.mod_lt _ (by omega)), someK_mk, bin_str, e5, someK_mk, bin_quo _ _ _ (by decide), hq, e4]
   exact step (.inl h0)
  ·have hn0 : n = 0 := by omega
   subst hn0
   have e1 : decide (Int.ofNat 0 < ((0 : Nat) : Int)) = false := rfl
   by_cases hac : acc = []
   ·have e2 : (acc == ([] : Bs)) = true := beq_iff_eq.2 hac
    simp only [s_law21_digits_l1, getK_mk f0, getK_mk f3, bin_gtr, e1, gK_do', retK, effK_mk, bin_str, str_eql, e2, someK_mk, pick_mk, cond_false, condK_t]
    rw [bin_rem _ _ _ (by decide), hr, bin_add, e3, dig_slice _ (Nat.mod_lt _ (by omega)), someK_mk, bin_str, e5, someK_mk, bin_quo _ _ _ (by decide), hq, e4]
    exact step (.inr hac)
   ·have e2 : (acc == ([] : Bs)) = false := beq_eq_false_iff_ne.2 hac
    have : (Nat.blt 0 0 || acc.isEmpty) = false := by
     cases acc with
     | nil => exact absurd rfl hac
     | cons x l => rfl
    simp only [s_law21_digits_l1, getK_mk f0, getK_mk f3, bin_gtr, e1, gK_do', retK, effK_mk, bin_str, str_eql, e2, someK_mk, pick_mk, cond_false, condK_f, seqK, digF, this]
theorem s_law21_digits_ret (c : CallK) (N : Nat) (hN : 9223372036854775807 ≤ N) (n : Nat) (hn : n < 100000000) (H : Heap) (τ : Tape) (q : KV) : s_law21_digits c N (.int .i64 (n : Int)) H τ q = q (.str (dig n)) H τ := by
 simp only [s_law21_digits]
 rw [dig_loop21 c N H _ 8 n [] N _ τ (by omega) (by omega) (.inr (by omega)) (by simp) (by omega) (by omega) (by simp [T.get_set]) (by simp [T.get_set])]
 simp only [blockK, Nat.beq_refl, cond_true, seqK, s_law21_digits_j0, getK_set, ↓reduceIte]
 rfl
end Go.Am.X

namespace Go.Am.X
end Go.Am.X

namespace Go.Am.X
end Go.Am.X

namespace Go.Am.X
end Go.Am.X

namespace Go.Am.X
end Go.Am.X

namespace Go.Am.X
end Go.Am.X

namespace Go.Am.X
def GoodB (cs : List V) (n : Nat) : Prop := ∃ la : List Nat, cs = ws .u8 la ∧ n = la.length ∧ la.length < 1000000
end Go.Am.X

namespace Go.Am.X
theorem rdH_scal {H : Heap} {v : V} {hs : List Hd} (h : RdH H v hs) : v.cells = [v] ∧ v.scal = true := by
 rcases h.1 with ⟨rfl | ⟨id, off, lo, ex, rfl⟩, _, _⟩ | ⟨id, off, lo, ex, all, rfl, _⟩ <;> exact ⟨rfl, rfl⟩
structure KBst (H0 : Heap) (B0 : Nat) (L : Lab) (H : Heap) (K : Nat) (its : List ItZ) (s m : Nat) (e : Blb) (r : Nat) : Prop where
 wf : WF H
 b1 : BookZ 1 (selL 1 L) H K its
 st : Stor (fun i => i < B0 ∧ i ≠ s ∧ i ≠ m) H s m 1 [e]
 g : ∀ it ∈ its, GoodB it.cs it.n
 k : ∀ it ∈ its, it.key < r
 l : its.length ≤ r
 z : ∀ i, i < B0 → L i = (0, 0)
 sz : B0 ≤ H.size
 gr : Gr H0.size H0 H
abbrev ReadOk (c : CallK) : Prop := ∀ {P : Nat → Prop} {H : Heap} {s m k : Nat} {es : List Blb}, Stor P H s m k es → WF H → (∀ e ∈ es, e.cs.length < 400) → inH H 0 tabs = true → 6 ≤ H.size → ∀ (u : Bs), u.length < 9223372036854775807 → ∀ (ranged : Bs), ranged.length ≤ 9223372036854775806 → ∀ (has : Bool) (τ : Tape),
   ∃ res H' τ', Gr H.size H H' ∧ ReadRes H' H.size res (readE es u ranged has) ∧ ∀ q, c f_blob_Store_Read [.ptr s 0, .str u, .str ranged, .bool has] H τ q = q res H' τ'
abbrev PutOk (c : CallK) : Prop := ∀ {P : Nat → Prop} {H : Heap} {s m k : Nat} {es : List Blb}, Stor P H s m k es → WF H → (∀ i, P i → i < H.size) →
  ∀ {o : Bs}, Adr o → ∀ (kind : Bs), kind.length ≤ 9223372036854775806 → ∀ {bv : V} {n : Nat} {cs : List V}, Rd H 1 bv n cs → (∀ H', Chg (fun i => i = s) H H' → Rd H' 1 bv n cs ∧ Src H' bv) → n ≤ 140737488355328 → k < 90 → putErr kind n es.length = 0 → ∀ (τ : Tape),
  ∃ bv' H' τ', Stor (fun i => P i ∨ (H.size ≤ i ∧ i < H'.size)) H' s m (k + 1) (putE ⟨putU o (k + 1), valT kind, bv', cs⟩ es) ∧ Chg (fun i => i = s ∨ i = m) H H' ∧ ∀ q, c f_blob_Store_Put [.ptr s 0, org o, .str kind, bv] H τ q = q (.tup [.str (putU o (k + 1)), .int .i64 (Int.ofNat 0)]) H' τ'
end Go.Am.X

