/- The abstract machine, printed functions of the program, and what they are shown to be. -/
import Derived.Test.YtaikmfhjbcffiaaGreatDoorHKM3
import Derived.Sort.Row
import Derived.Sort.Grow
import Derived.Sort.EncStr
import Derived.Lib.Slices
import Derived.Lib.SlicesCompact
namespace Go.Am
set_option linter.unusedSimpArgs false
def Apd (H : Heap) (B z : Nat) (v : V) (n : Nat) (cs : List V) : Prop := Own H B z v n cs ∨ (n = 0 ∧ cs = [] ∧ ∃ id, v = .sl id 0 0 0 none z ∧ Blk H B id [])
theorem Own.apd {H : Heap} {B z : Nat} {v : V} {n : Nat} {cs : List V} (h : Own H B z v n cs) : Apd H B z v n cs := .inl h
theorem Apd.nil (H : Heap) (B z : Nat) : Apd H B z .nils 0 [] := .inl (Own.nil _ _ _)
theorem Apd.rd {H : Heap} {B z : Nat} {v : V} {n : Nat} {cs : List V} (h : Apd H B z v n cs) : Rd H z v n cs := by
  rcases h with h | ⟨rfl, rfl, id, rfl, _⟩
  · exact h.rd
  · exact .inl ⟨.inr ⟨id, 0, 0, none, rfl⟩, rfl, rfl⟩
theorem Apd.own {H : Heap} {B z : Nat} {v : V} {n : Nat} {cs : List V} (h : Apd H B z v n cs) (hn : 0 < n) : Own H B z v n cs := by
  rcases h with h | ⟨rfl, _⟩
  · exact h
  · omega
theorem Own.src {H : Heap} {B z : Nat} {v : V} {n : Nat} {cs : List V} (h : Own H B z v n cs) : Src H v := by
  rcases h with ⟨rfl, _⟩ | ⟨id, e, room, fam, ver, pl, st, fr, rfl, h2, h3, h4, _⟩
  · trivial
  · refine ⟨cs, ?_⟩
    simp only [Heap.cells?, h2, h3]
    rw [show Nat.ble fr ver = true from Nat.ble_eq_true_of_le h4]
    rfl
theorem Apd.src {H : Heap} {B z : Nat} {v : V} {n : Nat} {cs : List V} (h : Apd H B z v n cs) : Src H v := by
  rcases h with h | ⟨_, _, id, rfl, h⟩
  · exact h.src
  · exact ⟨_, h.cells⟩
theorem Apd.gr {H H' : Heap} {B C z : Nat} {v : V} {n : Nat} {cs : List V} (h : Apd H B z v n cs) (hg : Gr C H H') (hw : WF H) (hC : H.size ≤ C) : Apd H' B z v n cs := by
  rcases h with h | ⟨h1, h2, id, h3, h4⟩
  · exact .inl (h.gr hg hw hC)
  · exact .inr ⟨h1, h2, id, h3, h4.gr hg hw hC⟩
theorem Rd.loads {H : Heap} {z : Nat} {x : V} {n : Nat} {cs : List V} (hx : Rd H z x n cs) (hsr : Src H x) : srcLen x = some n ∧ srcCells H z n x = some cs := by
  rcases hx with ⟨rfl | ⟨id', off, lo, ex, rfl⟩, rfl, rfl⟩ | ⟨id', off, lo, ex, all, rfl, k1, k2, k3⟩
  · exact ⟨rfl, rfl⟩
  · obtain ⟨all, ha⟩ := hsr
    refine ⟨rfl, ?_⟩
    simp only [srcCells, Nat.beq_refl, cond_true, Heap.loads, ha, Nat.zero_mul]
    cases all.drop off <;> rfl
  · refine ⟨rfl, ?_⟩
    simp only [srcCells, Nat.beq_refl, cond_true, Heap.loads, k1]
    rw [takeN_all, ← k2]
    have := congrArg List.length k2
    rw [k3, List.length_take] at this
    omega
theorem Apd.append {H : Heap} {B z bytes : Nat} {v x : V} {m n : Nat} {cs ys : List V} (h : Apd H B z v m cs) (hw : WF H) (hB : B ≤ H.size) (hx : Rd H z x n ys) (hsr : Src H x) (hs : ys.all V.scal = true)
    (h1 : (m + n) * bytes ≤ 140737488355328) (h2 : m + n ≤ 140737488355328) (τ : Tape) :
    ∃ v' H' τ', eAppend z bytes [v, x] H τ = some (v', H', τ') ∧ Apd H' B z v' (m + n) (cs ++ ys) ∧ Gr B H H' ∧ (∀ id cs, H.cells? id = some cs → H'.cells? id = some cs) := by
  obtain ⟨e1, e2⟩ := hx.loads hsr
  have hlen := hx.len
  have hstores : ∀ id off, H.stores id off [] = some H := fun _ _ => rfl
  have eA : eAppend z bytes [v, x] H τ = Am.append H z bytes v n ys τ := by simp only [eAppend, e1, e2]
  rw [eA]
  cases n with
  | zero =>
    obtain rfl : ys = [] := List.eq_nil_of_length_eq_zero (by omega)
    have key : ∀ id lo ex, v = .sl id 0 m lo ex z → m ≤ lo → Am.append H z bytes v 0 [] τ = some (v, H, τ) := by
      rintro id lo ex rfl hlo
      simp only [Am.append, Nat.beq_refl, cond_true, Nat.add_zero, Nat.ble_eq_true_of_le hlo, hstores]
    refine ⟨v, H, τ, ?_, by simpa using h, Gr.refl hw, fun _ _ h => h⟩
    rcases h with (⟨rfl, rfl, rfl⟩ | ⟨id, e, room, fam, ver, pl, st, fr, rfl, k2, k3, k4, k5, k6, k7⟩) | ⟨rfl, rfl, id, rfl, _⟩
    · rfl
    · exact key _ _ _ rfl (Nat.le_refl _)
    · exact key _ _ _ rfl (Nat.le_refl _)
  | succ n =>
    rcases h with h | ⟨rfl, rfl, id, rfl, hbk⟩
    · obtain ⟨v', H', r1, r2, r3, r4⟩ := h.append (bytes := bytes) hw hB (n + 1) ys (by omega) hlen hs h1 h2 τ
      exact ⟨v', H', _, r1, .inl r2, r3, r4⟩
    · have e3 : Nat.ble (n + 1) 0 = false := rfl
      have hc := hbk.cells
      have l0 : H.loads id 0 (0 * z) = some [] := by
        simp only [Heap.loads, hc, Nat.zero_mul]; rfl
      rw [Nat.zero_add] at h1 h2 ⊢
      refine ⟨.sl H.size 0 (n + 1) (n + 1) (some (spare (n + 1) (τ 0))) z, H.new ys ((n + 1 + spare (n + 1) (τ 0)) * z) false, τ.tail, ?_, .inl ?_, (Gr.new hw _ _ _).weaken hB, fun id cs h => (Gr.new hw _ _ _).cells hw (Nat.le_refl _) h⟩
      · simp only [Am.append, Nat.beq_refl, cond_true, cond_false, e3, Nat.zero_add, Nat.ble_eq_true_of_le h1, Nat.ble_eq_true_of_le h2, Bool.and_self, l0, List.nil_append, fresh]
      · exact .inr ⟨H.size, spare (n + 1) (τ 0), _, H.size, 0, false, 0, 0, rfl, by rw [List.nil_append]; exact T.get_set_same _ _ _, T.get_set_same _ _ _, Nat.le_refl _, hB, hB, by simpa using hlen⟩
theorem Apd.put {H : Heap} {B z bytes : Nat} {v : V} {m : Nat} {cs : List V} (h : Apd H B z v m cs) (hw : WF H) (hB : B ≤ H.size) (ys : List V) (hl : ys.length = z) (hs : ys.all V.scal = true)
    (h1 : (m + 1) * bytes ≤ 140737488355328) (h2 : m + 1 ≤ 140737488355328) (τ : Tape) :
    ∃ v' H' τ', eAppend z bytes [v, .sl H.size 0 1 1 none z] (H.new ys (1 * z) false) τ = some (v', H', τ') ∧ Apd H' B z v' (m + 1) (cs ++ ys) ∧ Gr B H H' ∧ (∀ id cs, H.cells? id = some cs → H'.cells? id = some cs) := by
  have g1 := Gr.new hw ys (1 * z) false
  have c1 := cells_new H ys (1 * z) false
  have o1 := h.gr g1 hw (Nat.le_refl _)
  have rd : Rd (H.new ys (1 * z) false) z (.sl H.size 0 1 1 none z) 1 ys := .inr ⟨H.size, 0, 1, none, ys, rfl, c1, by rw [List.drop_zero, List.take_of_length_le (by omega)], by omega⟩
  obtain ⟨v', H', τ', r1, r2, r3, r4⟩ := o1.append (bytes := bytes) g1.wf (Nat.le_trans hB g1.size) rd ⟨_, c1⟩ hs h1 h2 τ
  exact ⟨v', H', τ', r1, r2, (g1.weaken hB).trans r3 (Nat.le_refl _), fun id cs hc => r4 id cs (g1.cells hw (Nat.le_refl _) hc)⟩
theorem Own.store {H : Heap} {B z : Nat} {v : V} {n : Nat} {cs : List V} (h : Own H B z v n cs) (hw : WF H) {i : Nat} (hi : i < n) :
    ∃ p, pSlIdx z [v, .int .i64 (i : Int)] = some p ∧ ∀ (x : V), x.cells.length = z → x.cells.all V.scal = true → 0 < z → ∀ τ, ∃ H', Am.eStore z [p, x] H τ = some (.tup [], H', τ) ∧ Own H' B z v n (cs.take (i * z) ++ x.cells ++ cs.drop (i * z + z)) ∧ Gr B H H' ∧ H'.size = H.size := by
  rcases h with ⟨_, h0, _⟩ | ⟨id, e, room, fam, ver, pl, st, fr, rfl, h2, h3, h4, h5, h6, h7⟩
  · omega
  · refine ⟨.ptr id (i * z), ?_, fun x hx hs hz τ => ?_⟩
    · have hb : Nat.blt i n = true := blt_yes hi
      simp only [pSlIdx, natOf_nat, Nat.beq_refl, hb, Bool.and_self, cond_true, Nat.zero_add]
    · have hroom : H.room? id = room := by simp only [Heap.room?, h2]
      have hmul : i * z + z ≤ n * z := by
        have := Nat.mul_le_mul_right z (show i + 1 ≤ n by omega)
        rw [Nat.succ_mul] at this; exact this
      have hov := over_in (i * z) room x.cells cs (by omega)
      rw [hx] at hov
      have hid := hw.blk _ _ h2
      have hfam := hw.fams _ _ h3
      refine ⟨{ size := H.size, blk := H.blk.set id (.mem (cs.take (i * z) ++ x.cells ++ cs.drop (i * z + z)) room fam ver true pl (st + 1)), fams := H.fams.set fam (ver, ver) }, ?_, ?_, ?_, rfl⟩
      · have hst : H.stores id (i * z) x.cells = some { size := H.size, blk := H.blk.set id (.mem (cs.take (i * z) ++ x.cells ++ cs.drop (i * z + z)) room fam ver true pl (st + 1)), fams := H.fams.set fam (ver, ver) } := by
          cases hc : x.cells with
          | nil => rw [hc] at hx; simp at hx; omega
          | cons a l =>
            rw [hc] at hs hov
            simp only [Heap.stores, hs, cond_true, Heap.write, h2, h3, hroom, hov]
            rw [show Nat.beq ver ver = true from Nat.beq_refl ver, show Nat.ble fr ver = true from Nat.ble_eq_true_of_le h4]
            rfl
        simp only [Am.eStore, hx, hst]
        rw [show Nat.beq z z = true from Nat.beq_refl z]
        rfl
      · refine .inr ⟨id, e, room, fam, ver, pl, st + 1, ver, rfl, T.get_set_same _ _ _, T.get_set_same _ _ _, Nat.le_refl _, h5, h6, ?_⟩
        simp only [List.length_append, List.length_take, List.length_drop]
        omega
      · refine ⟨⟨?_, ?_, ?_⟩, Nat.le_refl _, fun i hi => ?_, fun f hf => ?_⟩
        · intro i b hb
          simp only [T.get_set] at hb ⊢
          split at hb
          · omega
          · exact hw.blk _ _ hb
        · intro f x hf
          simp only [T.get_set] at hf ⊢
          split at hf
          · omega
          · exact hw.fams _ _ hf
        · intro i c r f v' w p s hb
          simp only [T.get_set] at hb ⊢
          split at hb
          · cases hb; exact hfam
          · exact hw.fam _ _ _ _ _ _ _ _ hb
        · simp only [T.get_set]; rw [if_neg (by omega)]
        · simp only [T.get_set]; rw [if_neg (by omega)]
theorem Rd.at {H : Heap} {z : Nat} {v : V} {n : Nat} {cs : List V} (h : Rd H z v n cs) (hz : 0 < z) {i : Nat} (hi : i < n) :
    ∃ id o, pSlIdx z [v, .int .i64 (i : Int)] = some (.ptr id o) ∧ ∀ H' cs', Rd H' z v n cs' → lLoadN z [.ptr id o] H' = some (.agg ((cs'.drop (i * z)).take z)) ∧
      ∀ j a, j < z → cs'[i * z + j]? = some a → lLoad1 [.ptr id (o + j)] H' = some a := by
  rcases h with ⟨_, h0, _⟩ | ⟨id, off, lo, ex, all, rfl, k1, k2, k3⟩
  · omega
  · have hb : Nat.blt i n = true := blt_yes hi
    have hmul : i * z + z ≤ n * z := by
      have := Nat.mul_le_mul_right z (show i + 1 ≤ n by omega)
      rw [Nat.succ_mul] at this; exact this
    refine ⟨id, off + i * z, ?_, fun H' cs' h' => ?_⟩
    · simp only [pSlIdx, natOf_nat, Nat.beq_refl, hb, Bool.and_self, cond_true]
    · rcases h' with ⟨_, h0, _⟩ | ⟨id', off', lo', ex', all', e, q1, q2, q3⟩
      · omega
      · cases e
        have hal : off + n * z ≤ all'.length := by
          have := congrArg List.length q2
          rw [q3, List.length_take, List.length_drop] at this
          omega
        refine ⟨?_, fun j a hj ha => ?_⟩
        · rw [load_cells q1 (by omega), q2, List.drop_take, List.take_take, List.drop_drop]
          rw [Nat.min_eq_left (by omega)]
        · refine load_cell q1 ?_
          rw [q2, List.getElem?_take_of_lt (by omega), List.getElem?_drop] at ha
          rw [show off + i * z + j = off + (i * z + j) by omega]
          exact ha
theorem Own.split {H : Heap} {B z : Nat} {v : V} {n : Nat} {cs : List V} (h : Own H B z v n cs) (hn : 0 < n) :
    ∃ id e, v = .sl id 0 n n (some e) z ∧ B ≤ id ∧ ∀ H' cs', Own H' B z v n cs' → WF H' → H'.cells? id = some cs' ∧ ∀ off vs, off + vs.length ≤ n * z → vs.all V.scal = true →
      ∃ H'', H'.stores id off vs = some H'' ∧ Own H'' B z v n (cs'.take off ++ vs ++ cs'.drop (off + vs.length)) ∧ Gr B H' H'' ∧ H''.size = H'.size := by
  rcases h with ⟨_, h0, _⟩ | ⟨id, e, room, fam, ver, pl, st, fr, rfl, h2, h3, h4, h5, h6, h7⟩
  · omega
  · refine ⟨id, e, rfl, h5, fun H' cs' h' hw => ?_⟩
    have h'' := h'
    rcases h' with ⟨_, h0, _⟩ | ⟨id', e', room, fam, ver, pl, st, fr, he, k2, k3, k4, k5, k6, k7⟩
    · omega
    · cases he
      refine ⟨?_, fun off vs hl hs => ?_⟩
      · simp only [Heap.cells?, k2, k3]
        rw [show Nat.ble fr ver = true from Nat.ble_eq_true_of_le k4]
        rfl
      · cases vs with
        | nil => exact ⟨H', rfl, by simpa using h'', Gr.refl hw, rfl⟩
        | cons a l =>
          have hroom : H'.room? id = room := by simp only [Heap.room?, k2]
          have hov := over_in off room (a :: l) cs' (by omega)
          have hid := hw.blk _ _ k2
          have hfam := hw.fams _ _ k3
          refine ⟨{ size := H'.size, blk := H'.blk.set id (.mem (cs'.take off ++ (a :: l) ++ cs'.drop (off + (a :: l).length)) room fam ver true pl (st + 1)), fams := H'.fams.set fam (ver, ver) }, ?_, ?_, ?_, rfl⟩
          · simp only [Heap.stores, hs, cond_true, Heap.write, k2, k3, hroom, hov]
            rw [show Nat.beq ver ver = true from Nat.beq_refl ver, show Nat.ble fr ver = true from Nat.ble_eq_true_of_le k4]
            rfl
          · refine .inr ⟨id, e, room, fam, ver, pl, st + 1, ver, rfl, T.get_set_same _ _ _, T.get_set_same _ _ _, Nat.le_refl _, k5, k6, ?_⟩
            simp only [List.length_append, List.length_take, List.length_drop]
            omega
          · refine ⟨⟨?_, ?_, ?_⟩, Nat.le_refl _, fun i hi => ?_, fun f hf => ?_⟩
            · intro i b hb
              simp only [T.get_set] at hb ⊢
              split at hb
              · omega
              · exact hw.blk _ _ hb
            · intro f x hf
              simp only [T.get_set] at hf ⊢
              split at hf
              · omega
              · exact hw.fams _ _ hf
            · intro i c r f v' w p s hb
              simp only [T.get_set] at hb ⊢
              split at hb
              · cases hb; exact hfam
              · exact hw.fam _ _ _ _ _ _ _ _ hb
            · simp only [T.get_set]; rw [if_neg (by omega)]
            · simp only [T.get_set]; rw [if_neg (by omega)]
theorem cut_hi {id n e z i : Nat} (hi : i ≤ n) : pSlSlice z false true false [.sl id 0 n n (some e) z, .int .i64 (i : Int)] = some (.sl id 0 i n (some e) z) := by
  have hb : bounds3 false true false [V.int .i64 (i : Int)] = some (none, some i, none) := by
    simp only [bounds3, optN, natOf_nat]
  have hwi : within i n (some e) = true := by rw [within_iff]; exact .inl hi
  have h0 : Nat.ble 0 i = true := Nat.ble_eq_true_of_le (Nat.zero_le _)
  have h0' : Nat.ble 0 n = true := Nat.ble_eq_true_of_le (Nat.zero_le _)
  have ho : offIn 0 0 n (some e) z = 0 := rfl
  simp only [pSlSlice, Nat.beq_refl, cond_true, hb, slCut, Option.getD_some, Option.getD_none, hwi, h0, h0', Bool.and_self, ho, Nat.sub_zero]
theorem box2 {H : Heap} (hw : WF H) (a b a0 b0 : V) (hs : a.scal = true) (hs' : b.scal = true) (τ : Tape) :
    ∃ H1 H2, eAlloc [a0, b0] [] H τ = some (.ptr H.size 0, H1, τ) ∧ eStore 2 [.ptr H.size 0, .agg [a, b]] H1 τ = some (.tup [], H2, τ) ∧ Bx H2 H.size [a, b] ∧ Gr H.size H H2 ∧ H.size < H2.size := by
  have g1 := Gr.new hw [a0, b0] 2 true
  have b1 := Bx.new H [a0, b0] 2 true (Nat.le_refl _)
  obtain ⟨H2, s2, b2, o2⟩ := b1.eStore g1.wf 0 (.agg [a, b]) 2 rfl (by simp) (by omega) (by simp [V.cells, hs, hs']) τ
  exact ⟨_, H2, rfl, s2, b2, g1.trans (o2.gr (Nat.le_refl _)) (Nat.le_refl _), b2.lt o2.wf⟩
end Go.Am

namespace Go.Am
set_option linter.unusedSimpArgs false
set_option linter.unusedVariables false
open Go.RowKit (Below)
abbrev Prim := List V → Heap → Tape → Option (V × Heap × Tape)
inductive Out where
  | val (v : V)
  | lst (z n : Nat) (cs : List V) (mk : V → V)
structure MkOk (mk : V → V) : Prop where
  same : ∀ (ι ι' : Inj) v v', cv ι v = cv ι' v' → cv ι (mk v) = cv ι' (mk v')
  ok : ∀ H v, VOk H v → VOk H (mk v)
  un : ∀ H v, VOk H (mk v) → VOk H v
def Out.run (o : Out) (H : Heap) (τ : Tape) : V × Heap × Tape :=
  match o with
  | .val v => (v, H, τ)
  | .lst z n cs mk => (mk (.sl H.size 0 n n (some (spare n (τ 0))) z), H.new cs ((n + spare n (τ 0)) * z) false, τ.tail)
def FreshL (B : Nat) (H' : Heap) (z n : Nat) (cs : List V) (lv : V) : Prop :=
  ∃ id off lo ex all room fam ver pl st fr la, lv = .sl id off n lo ex z ∧ H'.blk.get id = some (.mem all room fam ver true pl st) ∧ H'.fams.get fam = some (fr, la) ∧ fr ≤ ver ∧ B ≤ fam ∧
    (all.drop off).take (n * z) = cs ∧ cs.length = n * z ∧ (ex.isSome = true ∨ (off + lo * z ≤ room ∧ lo < 9223372036854775808))
def Out.Met (o : Out) (H : Heap) (v : V) (H' : Heap) : Prop :=
  match o with
  | .val u => v = u ∧ VOk H u
  | .lst z n cs mk => MkOk mk ∧ VsOk H cs ∧ ∃ lv, v = mk lv ∧ FreshL H.size H' z n cs lv
theorem MRel.wf {ι : Inj} {base : Base} {w0 w : World} {H : Heap} (h : MRel ι base w0 H w) : WF H :=
  ⟨h.lt, h.famlt, fun id cs room fam ver wr pl st hb => (h.fam id cs room fam ver wr pl st hb).1⟩
theorem MRel.old {ι ι1 : Inj} {base : Base} {w0 w w' : World} {H H1 : Heap} (hM : MRel ι base w0 H w) (h1 : MRel ι1 base w0 H1 w') (hg : Gr H.size H H1) : MRel ι1 base w0 H w' := by
  have hb : ∀ {id b}, H.blk.get id = some b → H1.blk.get id = some b := fun {id b} h => by rw [hg.blk _ (hM.lt _ _ h)]; exact h
  have hf : ∀ {f x}, H.fams.get f = some x → H1.fams.get f = some x := fun {f x} h => by rw [hg.fams _ (hM.famlt _ _ h)]; exact h
  refine ⟨h1.below, h1.base_le, hM.lt, hM.fam, hM.cells, ?_, ?_, hM.ver, ?_, hM.famlt, ?_, ?_, fun id cs room fam ver wr pl st fr la a b c => h1.gh _ _ _ _ _ _ _ _ _ _ (hb a) (hf b) c, fun id cs room fam ver wr st fr la a b c d => h1.plok _ _ _ _ _ _ _ _ _ (hb a) (hf b) c d, hM.plfam⟩
  · intro id cs room fam ver wr pl st fr la a b c
    exact h1.ok _ _ _ _ _ _ _ _ _ _ (hb a) (hf b) c
  · intro i cs room fam ver pl st fr la j cs' room' fam' ver' wr' pl' st' fr' la' a b c a' b' c' e
    exact h1.sep _ _ _ _ _ _ _ _ _ _ _ _ _ _ _ _ _ _ _ (hb a) (hf b) c (hb a') (hf b') c' e
  · intro id s pos a
    exact h1.iter _ _ _ (hb a)
  · intro i cs room fam ver wr pl st fr la j cs' room' ver' wr' pl' st' a b c a' c' e l
    exact h1.ends _ _ _ _ _ _ _ _ _ _ _ _ _ _ _ _ _ (hb a) (hf b) c (hb a') c' e l
  · intro i s p j s' p' a a' e
    exact h1.isep _ _ _ _ _ _ (hb a) (hb a') e
theorem MRel.freshL {ι1 : Inj} {base : Base} {w0 w' : World} {H H1 : Heap} (hM : MRel ι1 base w0 H w') (h1 : MRel ι1 base w0 H1 w') (hg : Gr H.size H H1)
    {id off k room' fr la fam ver room st : Nat} {all cs : List V} {pl : Bool} (hblk : H1.blk.get id = some (.mem all room fam ver true pl st)) (hfam : H1.fams.get fam = some (fr, la)) (hle : fr ≤ ver) (hB : H.size ≤ fam)
    (hcs : (all.drop off).take k = cs) (hlen : cs.length = k) (hr : off + room' ≤ room) (hk : k ≤ room') (hvs : VsOk H cs) :
    MRel (upd ι1 H.size ((ι1 id).1, (ι1 id).2 + off)) base w0 (H.new cs room' false) w' := by
  have hev := Evol.new hM cs room' false
  have hext := Ext.upd H ι1 ((ι1 id).1, (ι1 id).2 + off)
  have hb : ∀ {id b}, H.blk.get id = some b → H1.blk.get id = some b := fun {id b} h => by rw [hg.blk _ (hM.lt _ _ h)]; exact h
  have hf : ∀ {f x}, H.fams.get f = some x → H1.fams.get f = some x := fun {f x} h => by rw [hg.fams _ (hM.famlt _ _ h)]; exact h
  have part : ∀ i cs0 r fam ver wr p st, (H.new cs room' false).blk.get i = some (.mem cs0 r fam ver wr p st) →
      (i = H.size ∧ cs0 = cs ∧ r = room' ∧ fam = H.size ∧ ver = 0 ∧ wr = true) ∨ (i < H.size ∧ fam < H.size ∧ H.blk.get i = some (.mem cs0 r fam ver wr p st)) := by
    intro i cs0 r fam ver wr p st h
    by_cases e : i = H.size
    · subst e
      rw [get_new_new] at h
      injection h with h
      injection h with h1 h2 h3 h4 h5 h6 h7
      exact .inl ⟨rfl, h1.symm, h2.symm, h3.symm, h4.symm, h5.symm⟩
    · rw [get_new_old e] at h
      exact .inr ⟨hM.lt _ _ h, (hM.fam _ _ _ _ _ _ _ _ h).1, h⟩
  have famOld : ∀ f, f < H.size → (H.new cs room' false).fams.get f = H.fams.get f := fun f hf => by rw [fams_new, if_neg (by omega)]
  refine ⟨hM.below, hM.base_le, ?_, ?_, ?_, ?_, ?_, ?_, ?_, ?_, ?_, ?_, ?_, ?_, ?_⟩
  · intro i b h
    by_cases e : i = H.size
    · subst e; exact Nat.lt_succ_self _
    · rw [get_new_old e] at h; exact Nat.lt_succ_of_lt (hM.lt _ _ h)
  · intro i cs0 r fam ver wr p st h
    rcases part _ _ _ _ _ _ _ _ h with ⟨rfl, _, _, rfl, rfl, _⟩ | ⟨_, hf', h⟩
    · exact ⟨Nat.lt_succ_self _, 0, 0, by rw [fams_new, if_pos rfl], Nat.le_refl _⟩
    · obtain ⟨_, fr, la, h1, h2⟩ := hM.fam _ _ _ _ _ _ _ _ h
      exact ⟨Nat.lt_succ_of_lt hf', fr, la, by rw [famOld _ hf']; exact h1, h2⟩
  · intro i cs0 r fam ver wr p st h
    rcases part _ _ _ _ _ _ _ _ h with ⟨rfl, rfl, rfl, _⟩ | ⟨_, _, h⟩
    · exact ⟨by omega, hvs.mono hev⟩
    · obtain ⟨h1, h2⟩ := hM.cells _ _ _ _ _ _ _ _ h
      exact ⟨h1, h2.mono hev⟩
  · intro i cs0 r fam' ver' wr p st' fr' la' h hfm hv
    rcases part _ _ _ _ _ _ _ _ h with ⟨rfl, rfl, rfl, _, _, rfl⟩ | ⟨hid, hf', h⟩
    · obtain ⟨c, el, lo, hi, k1, k2, k3, k4⟩ := h1.ok _ _ _ _ _ _ _ _ _ _ hblk hfam hle
      refine ⟨c, el, lo, hi, by rw [upd_same]; exact k1, by rw [upd_same]; simp only; omega, fun j v hv => ?_, fun _ => by rw [upd_same]; exact k4 rfl⟩
      rw [upd_same, cv_congr hext v ((VsOk_iff H cs0).1 hvs v (List.mem_of_getElem? hv))]
      have hj : j < k := by have := (List.getElem?_eq_some_iff.1 hv).1; omega
      rw [← hcs, List.getElem?_take_of_lt hj, List.getElem?_drop] at hv
      have := k3 _ _ hv
      rw [Nat.add_assoc]
      exact this
    · rw [famOld _ hf'] at hfm
      obtain ⟨c, el, lo, hi, k1, k2, k3, k4⟩ := hM.ok _ _ _ _ _ _ _ _ _ _ h hfm hv
      have e : upd ι1 H.size ((ι1 id).1, (ι1 id).2 + off) i = ι1 i := upd_ne ι1 _ (by omega)
      refine ⟨c, el, lo, hi, by rw [e]; exact k1, by rw [e]; exact k2, fun j v hv => ?_, by rw [e]; exact k4⟩
      rw [e, cv_congr hext v ((VsOk_iff H cs0).1 (hM.cells _ _ _ _ _ _ _ _ h).2 v (List.mem_of_getElem? hv))]
      exact k3 j v hv
  · intro i cs1 r fam1 ver1 p st1 fr1 la1 j cs' r' fam' ver' wr' p' st' fr' la' hi hfi hvi hj hfj hvj he
    rcases part _ _ _ _ _ _ _ _ hi with ⟨rfl, _, _, rfl, _⟩ | ⟨hid, hf1, hi⟩
    · rcases part _ _ _ _ _ _ _ _ hj with ⟨rfl, _, _, rfl, _⟩ | ⟨hjd, hf', hj⟩
      · rfl
      · rw [famOld _ hf'] at hfj
        rw [upd_same, upd_ne ι1 _ (by omega)] at he
        have := h1.sep _ _ _ _ _ _ _ _ _ _ _ _ _ _ _ _ _ _ _ hblk hfam hle (hb hj) (hf hfj) hvj he
        omega
    · rw [famOld _ hf1] at hfi
      rcases part _ _ _ _ _ _ _ _ hj with ⟨rfl, _, _, rfl, _⟩ | ⟨hjd, hf', hj⟩
      · rw [upd_same, upd_ne ι1 _ (by omega)] at he
        have := h1.sep _ _ _ _ _ _ _ _ _ _ _ _ _ _ _ _ _ _ _ (hb hi) (hf hfi) hvi hblk hfam hle he
        omega
      · rw [famOld _ hf'] at hfj
        rw [upd_ne ι1 _ (by omega), upd_ne ι1 _ (by omega)] at he
        exact hM.sep _ _ _ _ _ _ _ _ _ _ _ _ _ _ _ _ _ _ _ hi hfi hvi hj hfj hvj he
  · intro i cs1 r fam1 ver1 wr p st1 j cs' r' wr' p' st' hi hj
    rcases part _ _ _ _ _ _ _ _ hi with ⟨rfl, _, _, rfl, _⟩ | ⟨hid, hf1, hi⟩
    · rcases part _ _ _ _ _ _ _ _ hj with ⟨rfl, _⟩ | ⟨_, hf', _⟩
      · rfl
      · omega
    · rcases part _ _ _ _ _ _ _ _ hj with ⟨_, _, _, rfl, _⟩ | ⟨_, _, hj⟩
      · omega
      · exact hM.ver _ _ _ _ _ _ _ _ _ _ _ _ _ _ hi hj
  · intro i s pos h
    by_cases e : i = H.size
    · subst e; rw [get_new_new] at h; cases h
    · rw [get_new_old e] at h
      rw [upd_ne ι1 _ e]
      exact hM.iter _ _ _ h
  · intro f x h
    rw [fams_new] at h
    by_cases e : H.size = f
    · subst e; exact Nat.lt_succ_self _
    · rw [if_neg e] at h; exact Nat.lt_succ_of_lt (hM.famlt _ _ h)
  · intro i cs1 r fam1 ver1 wr p st1 fr1 la1 j cs' r' ver' wr' p' st' hi hf1 hvi hj hvj he hl
    rcases part _ _ _ _ _ _ _ _ hi with ⟨rfl, rfl, _, rfl, _⟩ | ⟨hid, hf', hi⟩
    · rcases part _ _ _ _ _ _ _ _ hj with ⟨rfl, rfl, _⟩ | ⟨_, hf'', _⟩
      · exact Nat.le_refl _
      · omega
    · rcases part _ _ _ _ _ _ _ _ hj with ⟨_, _, _, rfl, _⟩ | ⟨hjd, _, hj⟩
      · omega
      · rw [famOld _ hf'] at hf1
        rw [upd_ne ι1 _ (by omega), upd_ne ι1 _ (by omega)] at he ⊢
        exact hM.ends _ _ _ _ _ _ _ _ _ _ _ _ _ _ _ _ _ hi hf1 hvi hj hvj he hl
  · intro i s p j s' p' hi hj he
    have hi' : i ≠ H.size := fun e => by subst e; rw [get_new_new] at hi; cases hi
    have hj' : j ≠ H.size := fun e => by subst e; rw [get_new_new] at hj; cases hj
    rw [get_new_old hi'] at hi
    rw [get_new_old hj'] at hj
    rw [upd_ne ι1 _ hi', upd_ne ι1 _ hj'] at he
    exact hM.isep _ _ _ _ _ _ hi hj he
  · intro i cs0 r fam' ver' wr p st' fr' la' h hfm hv
    rcases part _ _ _ _ _ _ _ _ h with ⟨rfl, _⟩ | ⟨hid, hf', h⟩
    · rw [upd_same]; exact h1.gh _ _ _ _ _ _ _ _ _ _ hblk hfam hle
    · rw [famOld _ hf'] at hfm
      rw [upd_ne ι1 _ (by omega)]
      exact hM.gh _ _ _ _ _ _ _ _ _ _ h hfm hv
  · intro i cs0 r fam' ver' wr st' fr' la' h hfm hv hw
    by_cases e : i = H.size
    · subst e; rw [get_new_new] at h; cases h
    · rw [get_new_old e] at h
      rw [famOld _ (hM.fam _ _ _ _ _ _ _ _ h).1] at hfm
      rw [upd_ne ι1 _ e]
      exact hM.plok _ _ _ _ _ _ _ _ _ h hfm hv hw
  · intro i cs0 r fam' ver' wr p st' j cs2 r2 ver2 wr2 p2 st2 hi hj
    by_cases ei : i = H.size
    · subst ei
      rw [get_new_new] at hi
      injection hi with hi
      injection hi with _ _ e3 _ _ e6 _
      by_cases ej : j = H.size
      · subst ej
        rw [get_new_new] at hj
        injection hj with hj
        injection hj with _ _ _ _ _ e6' _
        rw [← e6, ← e6']
      · rw [get_new_old ej] at hj
        have := (hM.fam _ _ _ _ _ _ _ _ hj).1
        omega
    · rw [get_new_old ei] at hi
      by_cases ej : j = H.size
      · subst ej
        rw [get_new_new] at hj
        injection hj with hj
        injection hj with _ _ e3 _ _ _ _
        have := (hM.fam _ _ _ _ _ _ _ _ hi).1
        omega
      · rw [get_new_old ej] at hj
        exact hM.plfam _ _ _ _ _ _ _ _ _ _ _ _ _ _ _ hi hj
structure Row where
  f : Nat
  e : Ent
  d : Def
def Row.fn (f : Nat) (fn : Fun) (e : Ent) : Row := ⟨f, e, .fn fn⟩
def Row.prim (f : Nat) (p : Prim) : Row := ⟨f, PrimEnt p, .prim p⟩
def findR : List Row → Nat → Option Row
  | [], _ => none
  | r :: l, f => bif Nat.beq r.f f then some r else findR l f
theorem findR_mem : ∀ {l : List Row} {f : Nat} {r : Row}, findR l f = some r → r ∈ l ∧ r.f = f := by
  intro l
  induction l with
  | nil => intro f r h; cases h
  | cons a l ih =>
    intro f r h
    unfold findR at h
    cases hb : Nat.beq a.f f with
    | true =>
      rw [hb, cond_true] at h
      cases h
      exact ⟨by simp, Nat.eq_of_beq_eq_true hb⟩
    | false =>
      rw [hb, cond_false] at h
      obtain ⟨h1, h2⟩ := ih h
      exact ⟨by simp [h1], h2⟩
def Row.Ok (r : Row) : Prop := (∃ fn, r.d = .fn fn ∧ EntOk fn r.e) ∨ (∃ p, r.d = .prim p ∧ r.e = PrimEnt p)
theorem Row.fn_ok {f : Nat} {fn : Fun} {e : Ent} (h : EntOk fn e) : (Row.fn f fn e).Ok := .inl ⟨fn, rfl, h⟩
theorem Row.prim_ok (f : Nat) (p : Prim) : (Row.prim f p).Ok := .inr ⟨p, rfl, rfl⟩
def tabR (l : List Row) (N : Nat) : Nat → CallK → List V → Heap → Tape → KV → Ans := fun f c vs H τ q =>
  match findR l f with
  | some r => r.e c N vs H τ q
  | none => none
def progR (l : List Row) (f : Nat) : Option Def := (findR l f).map Row.d
theorem tabR_ok {l : List Row} (h : ∀ r ∈ l, r.Ok) (N : Nat) : TabOk (progR l) N (tabR l N) := by
  intro f cK vs H τ k r hr
  unfold tabR at hr
  split at hr
  · rename_i x hx
    have hm := findR_mem hx
    rcases h x hm.1 with ⟨fn, h1, h2⟩ | ⟨p, h1, h2⟩
    · exact .inl ⟨fn, by unfold progR; rw [hx]; simp [h1], h2 _ _ _ _ _ _ _ hr⟩
    · refine .inr ⟨p, by unfold progR; rw [hx]; simp [h1], ?_⟩
      rw [h2] at hr; exact hr
  · cases hr
def RowsOk (P : Program) (l : List Row) : Prop := ∀ r ∈ l, r.Ok ∧ ∀ base w0, DefOk P base w0 r.f r.d
theorem RowsOk.nil (P : Program) : RowsOk P [] := fun _ h => by cases h
theorem RowsOk.fn {P : Program} {l : List Row} {f : Nat} {fn : Fun} {e : Ent} (h : FnOk P f fn) (he : EntOk fn e) (hl : RowsOk P l) : RowsOk P (Row.fn f fn e :: l) := by
  intro r hr
  rcases List.mem_cons.1 hr with rfl | hr
  · exact ⟨Row.fn_ok he, fun _ _ => h⟩
  · exact hl r hr
theorem RowsOk.prim {P : Program} {l : List Row} {f : Nat} {p : Prim} (h : ∀ base w0, PrimOk P base w0 f p) (hl : RowsOk P l) : RowsOk P (Row.prim f p :: l) := by
  intro r hr
  rcases List.mem_cons.1 hr with rfl | hr
  · exact ⟨Row.prim_ok f p, h⟩
  · exact hl r hr
abbrev CR (l : List Row) (N d : Nat) : CallK := callK (tabR l N) d
open Classical in
noncomputable def outP (R : List V → Heap → Out → Prop) : Prim := fun vs H τ =>
  if h : ∃ o, R vs H o then some (h.choose.run H τ) else none
def Fun1 (R : List V → Heap → Out → Prop) : Prop := ∀ vs H o o', R vs H o → R vs H o' → o = o'
theorem outP_mk {R : List V → Heap → Out → Prop} (hf : Fun1 R) {vs : List V} {H : Heap} {o : Out} (h : R vs H o) (τ : Tape) : outP R vs H τ = some (o.run H τ) := by
  have hx : ∃ o, R vs H o := ⟨o, h⟩
  unfold outP
  rw [dif_pos hx, hf _ _ _ _ hx.choose_spec h]
theorem spare_id {n e : Nat} (h : n + e < 9223372036854775808) : spare n e = e := by
  unfold spare; exact Nat.mod_eq_of_lt (by omega)
theorem outP_ev (R : List V → Heap → Out → Prop) : PrimEv (outP R) := by
  intro vs H τ v H' τ' h
  unfold outP at h
  split at h
  · rename_i hx
    generalize hx.choose = o at h
    cases o with
    | val u => cases h; exact Ev.refl _
    | lst z n cs mk =>
      simp only [Out.run, Option.some.injEq, Prod.mk.injEq] at h
      obtain ⟨_, rfl, _⟩ := h
      exact ev_new _ _ _ _
  · cases h
theorem primOk_tab {P : Program} (hm : P.follows .mixedOrders = true) {prog : Nat → Option Def} {tab : Nat → CallK → List V → Heap → Tape → KV → Ans} {N : Nat} (ht : TabOk prog N tab) (hp : ∀ f d, prog f = some d → ∀ base w0, DefOk P base w0 f d) (d f : Nat) {R : List V → Heap → Out → Prop}
    (hR : ∀ vs H o, WF H → VsOk H vs → R vs H o → ∀ τ, ∃ v H' τ', callK tab d f vs H τ retK = some (v, H', τ') ∧ Gr H.size H H' ∧ o.Met H v H') (base : Base) (w0 : World) : PrimOk P base w0 f (outP R) := by
  refine ⟨outP_ev R, fun vs H ι w hM hG hok hn => ?_⟩
  have hx : ∃ o, R vs H o := by
    have := hn (fun _ => 0)
    unfold outP at this
    by_cases h : ∃ o, R vs H o
    · exact h
    · rw [dif_neg h] at this; exact absurd rfl this
  have hans : ∀ τ, outP R vs H τ = some (hx.choose.run H τ) := fun τ => by unfold outP; rw [dif_pos hx]
  have hRo := hx.choose_spec
  generalize hx.choose = o at hans hRo
  have hrun : ∀ τ, ∃ v H' τ', call prog N d f vs H τ = some (v, H', τ') ∧ Gr H.size H H' ∧ o.Met H v H' := by
    intro τ
    obtain ⟨v, H', τ', h1, h2, h3⟩ := hR vs H o hM.wf hok hRo τ
    obtain ⟨v2, H2, τ2, h4, h5⟩ := callK_le ht d f vs H τ retK _ h1
    cases h5
    exact ⟨v, H', τ', h4, h2, h3⟩
  have hcs := call_sound hm (prog := prog) hp N d base w0 f vs H ι w hM hG hok (fun τ hnn => by
        obtain ⟨v, H', τ', h1, _⟩ := hrun τ
        rw [hnn] at h1; cases h1)
  refine ⟨hcs.1, hcs.2.mono fun e w' ⟨v, H', ι', pre, he, hcall, hM', hE, hEv, hvok⟩ => ?_⟩
  obtain ⟨v2, H2, τ2, h1, hgr, hmet⟩ := hrun (Tape.app pre fun _ => 0)
  rw [hcall] at h1
  cases h1
  have hold := hM.old hM' hgr
  cases o with
  | val u =>
    obtain ⟨rfl, hu⟩ := hmet
    exact ⟨v, H, ι', [], he, fun τ => hans τ, hold, hE, Evol.refl _, hu⟩
  | lst z n cs mk =>
    obtain ⟨hmk, hvs, lv, rfl, id, off, lo, ex, all, room, fam, ver, pl, st, fr, la, rfl, hblk, hfam, hle, hB, hc1, hc2, hrm⟩ := hmet
    obtain ⟨_, hcap, hex⟩ := hmk.un _ _ hvok
    have hroom : H'.room? id = room := by simp only [Heap.room?, hblk]
    have hb : off + (lo + ex.getD 0) * z ≤ room ∧ lo + ex.getD 0 < 9223372036854775808 := by
      rcases hrm with h | h
      · have := hex h; rw [hroom] at this; exact this
      · cases ex with
        | none => simpa using h
        | some e => have := hex rfl; rw [hroom] at this; exact this
    have hsp : spare n (lo + ex.getD 0 - n) = lo + ex.getD 0 - n := spare_id (by omega)
    have hcapn : n + (lo + ex.getD 0 - n) = lo + ex.getD 0 := by omega
    have hfr := hold.freshL hM' hgr (room' := (lo + ex.getD 0) * z) hblk hfam hle hB hc1 hc2 hb.1 (Nat.mul_le_mul_right _ hcap) hvs
    refine ⟨mk (.sl H.size 0 n n (some (lo + ex.getD 0 - n)) z), H.new cs ((lo + ex.getD 0) * z) false, upd ι' H.size ((ι' id).1, (ι' id).2 + off), [lo + ex.getD 0 - n], ?_, fun τ => ?_, hfr, ?_, Evol.new hM _ _ _, ?_⟩
    · rw [he]
      congr 1
      apply hmk.same
      simp only [cv, upd_same, Option.getD_some, hcapn, Nat.add_zero]
    · rw [hans]
      show some (Out.run (.lst z n cs mk) H (Tape.cons _ τ)) = _
      simp only [Out.run, Tape.head_cons, hsp, hcapn]
      rfl
    · intro i hi
      rw [upd_ne ι' _ (by omega)]
      exact hE i hi
    · apply hmk.ok
      refine ⟨Nat.lt_succ_self _, by simp only [Option.getD_some]; omega, fun _ => ⟨?_, by simp only [Option.getD_some]; omega⟩⟩
      simp only [Option.getD_some, hcapn, Heap.room?, get_new_new]
      omega
theorem primOk_out {P : Program} (hm : P.follows .mixedOrders = true) {l : List Row} (hl : RowsOk P l) (N d f : Nat) {R : List V → Heap → Out → Prop}
    (hR : ∀ vs H o, WF H → VsOk H vs → R vs H o → ∀ τ, ∃ v H' τ', CR l N d f vs H τ retK = some (v, H', τ') ∧ Gr H.size H H' ∧ o.Met H v H') (base : Base) (w0 : World) : PrimOk P base w0 f (outP R) :=
  primOk_tab hm (tabR_ok (fun r hr => (hl r hr).1) N) (fun f d hd base w0 => by
    unfold progR at hd
    cases hr : findR l f with
    | none => rw [hr] at hd; cases hd
    | some r =>
      rw [hr] at hd
      cases hd
      obtain ⟨h1, rfl⟩ := findR_mem hr
      exact (hl r h1).2 base w0) d f hR base w0
def RV (Pre : List V → Prop) (g : List V → V) (vs : List V) (_ : Heap) (o : Out) : Prop := Pre vs ∧ o = .val (g vs)
theorem RV_fun (Pre : List V → Prop) (g : List V → V) : Fun1 (RV Pre g) := fun _ _ _ _ h h' => h.2.trans h'.2.symm
theorem RV_call {c : CallK} {f : Nat} {Pre : List V → Prop} {g : List V → V} (hc : ∀ vs H τ q, c f vs H τ q = effK (outP (RV Pre g) vs H τ) q) {vs : List V} (h : Pre vs) (H : Heap) (τ : Tape) (q : KV) : c f vs H τ q = q (g vs) H τ := by
  rw [hc, outP_mk (RV_fun Pre g) ⟨h, rfl⟩]; rfl
theorem mkOk_id : MkOk fun v => v := ⟨fun _ _ _ _ h => h, fun _ _ h => h, fun _ _ h => h⟩
theorem mkOk_tup (a : V) (ha : ∀ (ι ι' : Inj), cv ι a = cv ι' a) (hok : ∀ H, VOk H a) : MkOk fun v => .tup [v, a] :=
  ⟨fun ι ι' v v' h => by simp only [cv, cvl, h, ha ι ι'], fun H v h => ⟨h, hok H, trivial⟩, fun H v h => h.1⟩
theorem mkOk_bool (b : Bool) : MkOk fun v => .tup [v, .bool b] := mkOk_tup _ (fun _ _ => rfl) fun _ => trivial
theorem mkOk_int (k : IntKind) (n : Int) : MkOk fun v => .tup [v, .int k n] := mkOk_tup _ (fun _ _ => rfl) fun _ => trivial
theorem outK_val {c : CallK} {f : Nat} {R : List V → Heap → Out → Prop} (hc : ∀ vs H τ q, c f vs H τ q = effK (outP R vs H τ) q) (hf : Fun1 R) {vs : List V} {H : Heap} {v : V} (h : R vs H (.val v)) (τ : Tape) (q : KV) : c f vs H τ q = q v H τ := by
  rw [hc, outP_mk hf h]; rfl
theorem law_true {P : Program} {f : FuncId} {W : World} {p : Prim} (hp : PrimOk P (baseOf W) W f p) (vs : List V) (l : List (Option (List V))) (ι : Inj)
    (hok : ∀ id cs, l[id]? = some (some cs) → VsOk (start l) cs ∧ BOk ι W.heap.size W id cs cs.length false) (hg : ∀ g, g < P.globals.size → ι g = (g, 0)) (hgl : P.globals.size ≤ l.length) (hvs : VsOk (start l) vs)
    (h : ∀ τ, p vs (start l) τ = some (.bool true, start l, τ)) :
    Calls P f (cvl ι vs).toArray W fun e W' => e = .returned (.bool true) ∧ Below W.heap.size W W' := by
  have hM := MRel.start W ι l hok
  have hs := hp.2 vs (start l) ι W hM ⟨hg, by rw [start_size]; exact hgl⟩ hvs (fun τ hn => by rw [h] at hn; cases hn)
  refine hs.2.mono fun e W' ⟨v, H', ι', pre, h1, h2, h3, _⟩ => ?_
  have hx := h2 (fun _ => 0)
  rw [h] at hx
  simp only [Option.some.injEq, Prod.mk.injEq] at hx
  obtain ⟨rfl, _, _⟩ := hx
  exact ⟨h1, h3.below.low⟩
theorem Rd.uniq {H : Heap} {z n n' : Nat} {v : V} {cs cs' : List V} (h : Rd H z v n cs) (h' : Rd H z v n' cs') : n = n' ∧ cs = cs' := by
  rcases h with ⟨rfl | ⟨id, off, lo, ex, rfl⟩, rfl, rfl⟩ | ⟨id, off, lo, ex, all, rfl, h1, h2, h3⟩
  · rcases h' with ⟨_, rfl, rfl⟩ | ⟨id', off', lo', ex', all', e, k1, k2, k3⟩
    · exact ⟨rfl, rfl⟩
    · cases e
  · rcases h' with ⟨_, rfl, rfl⟩ | ⟨id', off', lo', ex', all', e, k1, k2, k3⟩
    · exact ⟨rfl, rfl⟩
    · cases e; exact ⟨rfl, (List.eq_nil_of_length_eq_zero (by omega)).symm⟩
  · rcases h' with ⟨e | ⟨id', off', lo', ex', e⟩, rfl, rfl⟩ | ⟨id', off', lo', ex', all', e, k1, k2, k3⟩
    · cases e
    · cases e; exact ⟨rfl, List.eq_nil_of_length_eq_zero (by omega)⟩
    · cases e
      rw [h1] at k1
      cases k1
      exact ⟨rfl, h2.trans k2.symm⟩
def Got (H : Heap) (B z : Nat) (v : V) (n : Nat) (cs : List V) : Prop := (v = .nils ∧ n = 0 ∧ cs = []) ∨ FreshL B H z n cs v
theorem Got.weaken {H : Heap} {B C z : Nat} {v : V} {n : Nat} {cs : List V} (h : Got H C z v n cs) (hBC : B ≤ C) : Got H B z v n cs := by
  rcases h with h | ⟨id, off, lo, ex, all, room, fam, ver, pl, st, fr, la, h1, h2, h3, h4, h5, h6⟩
  · exact .inl h
  · exact .inr ⟨id, off, lo, ex, all, room, fam, ver, pl, st, fr, la, h1, h2, h3, h4, Nat.le_trans hBC h5, h6⟩
theorem Got.rd {H : Heap} {B z : Nat} {v : V} {n : Nat} {cs : List V} (h : Got H B z v n cs) : Rd H z v n cs := by
  rcases h with ⟨rfl, h1, h2⟩ | ⟨id, off, lo, ex, all, room, fam, ver, pl, st, fr, la, rfl, h2, h3, h4, h5, h6, h7, h8⟩
  · exact .inl ⟨.inl rfl, h1, h2⟩
  · by_cases h0 : n = 0
    · subst h0
      exact .inl ⟨.inr ⟨_, _, _, _, rfl⟩, rfl, List.eq_nil_of_length_eq_zero (by omega)⟩
    · refine .inr ⟨id, off, lo, ex, all, rfl, ?_, h6.symm, h7⟩
      simp only [Heap.cells?, h2, h3]
      rw [show Nat.ble fr ver = true from Nat.ble_eq_true_of_le h4]
      rfl
theorem Apd.got {H : Heap} {B z : Nat} {v : V} {n : Nat} {cs : List V} (h : Apd H B z v n cs) : Got H B z v n cs := by
  rcases h with (h | ⟨id, e, room, fam, ver, pl, st, fr, h1, h2, h3, h4, h5, h6, h7⟩) | ⟨rfl, rfl, id, rfl, room, fam, ver, pl, st, fr, h1, h2, h3, h4, h5, h6⟩
  · exact .inl h
  · exact .inr ⟨id, 0, n, some e, cs, room, fam, ver, pl, st, fr, ver, h1, h2, h3, h4, h6, by rw [List.drop_zero, ← h7, List.take_length], h7, .inl rfl⟩
  · exact .inr ⟨id, 0, 0, none, [], room, fam, ver, pl, st, fr, ver, rfl, h1, h2, h3, h5, by simp, by simp, .inr ⟨by omega, by omega⟩⟩
end Go.Am

namespace Go.Am
set_option linter.unusedSimpArgs false
set_option linter.unusedVariables false
theorem ext0 (a b : V) : pExtract 0 [.tup [a, b]] = some a := by simp [pExtract]
theorem ext1 (a b : V) : pExtract 1 [.tup [a, b]] = some b := by simp [pExtract]
theorem ext30 (a b c : V) : pExtract 0 [.tup [a, b, c]] = some a := by simp [pExtract]
theorem ext31 (a b c : V) : pExtract 1 [.tup [a, b, c]] = some b := by simp [pExtract]
theorem ext32 (a b c : V) : pExtract 2 [.tup [a, b, c]] = some c := by simp [pExtract]
theorem nle_l (a b : Nat) : decide (Int.ofNat a ≤ (b : Int)) = decide (a ≤ b) := by simp
theorem nle_r (a b : Nat) : decide ((a : Int) ≤ Int.ofNat b) = decide (a ≤ b) := by simp
theorem nle_n (a b : Nat) : decide ((a : Int) ≤ (b : Int)) = decide (a ≤ b) := by simp
theorem nlt_l (a b : Nat) : decide (Int.ofNat a < (b : Int)) = decide (a < b) := by simp
theorem nlt_r (a b : Nat) : decide ((a : Int) < Int.ofNat b) = decide (a < b) := by simp
theorem nlt_n (a b : Nat) : decide ((a : Int) < (b : Int)) = decide (a < b) := by simp
theorem neq_r (a b : Nat) : ((a : Int) == Int.ofNat b) = decide (a = b) := by
  by_cases h : a = b
  · subst h; simp
  · rw [decide_eq_false h, beq_eq_false_iff_ne]; intro e; exact h (Int.ofNat.inj e)
theorem neq_n (a b : Nat) : ((a : Int) == (b : Int)) = decide (a = b) := neq_r a b
theorem nne_r (a b : Nat) : ((a : Int) != Int.ofNat b) = !decide (a = b) := by rw [bne, neq_r]
theorem nne_n (a b : Nat) : ((a : Int) != (b : Int)) = !decide (a = b) := by rw [bne, neq_n]
theorem adI {i k : Nat} (h : i + k ≤ 9223372036854775807) : wr .i64 ((i : Int) + Int.ofNat k) = ((i + k : Nat) : Int) := by
  rw [wr_id (by simp; omega) (by simp; omega)]; simp
end Go.Am

namespace Go.Am
set_option linter.unusedSimpArgs false
set_option linter.unusedVariables false
open Go.Sort (putRow grow Holds mapBlock putCells onCells heap_ahead)
open Go.Proofs (encStr)
abbrev Bel := @Go.RowKit.Below
theorem overA_get (vs : List Value) : ∀ (c : Array Value) (k j : Nat), k + vs.length ≤ c.size → (overA c k vs)[j]? = if k ≤ j ∧ j < k + vs.length then vs[j - k]? else c[j]? := by
  induction vs with
  | nil => intro c k j _; simp [overA]; omega
  | cons v vs ih =>
    intro c k j h
    simp only [List.length_cons] at h
    rw [overA, ih _ _ _ (by simp; omega)]
    by_cases h1 : k + 1 ≤ j ∧ j < k + 1 + vs.length
    · rw [if_pos h1, if_pos (by simp only [List.length_cons]; omega), show j - k = (j - (k + 1)) + 1 by omega, List.getElem?_cons_succ]
    · rw [if_neg h1, Array.getElem?_setIfInBounds]
      by_cases h2 : k = j
      · subst h2
        rw [if_pos rfl, if_pos (by omega), if_pos (by simp)]
        simp
      · rw [if_neg h2, if_neg (by simp only [List.length_cons]; omega)]
theorem putRow_eq {w : World} {b o : Nat} {c : Array Value} {el : TypeId} {fz : Nat × Nat} (h : w.heap[b]? = some (.cells c el fz)) (d : List (List UInt8)) (hl : o + d.length ≤ c.size) :
    putRow encStr w b o d.toArray = setBlk w b (.cells (overA c o (d.map encStr)) el fz) := by
  have hb : b < w.heap.size := (Array.getElem?_eq_some_iff.1 h).1
  have hc : putCells encStr o d.toArray c = overA c o (d.map encStr) := by
    apply Array.ext_getElem?
    intro j
    rw [overA_get _ _ _ _ (by rw [List.length_map]; exact hl)]
    unfold putCells
    rw [Array.getElem?_mapIdx]
    by_cases hj : o ≤ j ∧ j < o + d.length
    · rw [if_pos (by rw [List.length_map]; exact hj)]
      have hjc : j < c.size := by omega
      rw [Array.getElem?_eq_getElem hjc, Option.map_some, if_pos (by simpa using hj)]
      have hjd : j - o < d.length := by omega
      rw [List.getElem?_map, List.getElem?_eq_getElem hjd]
      simp [hjd]
    · rw [if_neg (by rw [List.length_map]; exact hj)]
      cases hcj : c[j]? with
      | none => rfl
      | some x => rw [Option.map_some, if_neg (by simpa using hj)]
  unfold putRow mapBlock setBlk
  congr 1
  apply Array.ext_getElem?
  intro k
  rw [Array.getElem?_modify, Array.getElem?_setIfInBounds]
  by_cases hk : b = k
  · subst hk
    rw [if_pos rfl, if_pos rfl, if_pos hb, h, Option.map_some]
    simp only [onCells, hc]
  · rw [if_neg hk, if_neg hk]
theorem frozen_no {w : World} {b o : Nat} {c : Array Value} {el : TypeId} {lo hi : Nat} (h : w.heap[b]? = some (.cells c el (lo, hi))) (hf : lo = hi ∨ c.size ≤ lo) (ho : o < c.size) : w.frozen? ⟨b, o, none⟩ = false := by
  unfold World.frozen?
  simp only [h]
  rcases hf with rfl | hf
  · simp; try omega
  · simp; try omega
theorem MRel.putRow {ι : Inj} {base : Base} {w0 w : World} {H H' : Heap} (hM : MRel ι base w0 H w) {id off : Nat} {ss : List (List UInt8)} (hne : ss ≠ []) (h : H.stores id off (ss.map V.str) = some H') :
    (ι id).1 < w.heap.size ∧ (∀ j, j < ss.length → w.frozen? ⟨(ι id).1, (ι id).2 + off + j, none⟩ = false) ∧ MRel ι base w0 H' (Go.Sort.putRow encStr w (ι id).1 ((ι id).2 + off) ss.toArray) ∧ Evol H H' := by
  unfold Heap.stores at h
  split at h
  · rename_i he
    exact absurd (List.map_eq_nil_iff.1 he) hne
  · rename_i hne'
    have hs : (ss.map V.str).all V.scal = true := by simp [V.scal]
    rw [hs, cond_true] at h
    obtain ⟨cs, room, fam, ver, pl, st, fr, cs', hg, hf, hle, hov, rfl⟩ := write_inv h
    have hr : H.room? id = room := by simp only [Heap.room?, hg]
    rw [hr] at hov
    have hvs : VsOk H (ss.map V.str) := by
      rw [VsOk_iff]; intro v hv; obtain ⟨s, _, rfl⟩ := List.mem_map.1 hv; trivial
    obtain ⟨c, el, lo, hi, h1, h2, h3, h4, h5⟩ := hM.write hg hf hle off (ss.map V.str) cs' (fun e => hne' e) hov hvs
    rw [List.length_map] at h2
    have ec : cvl ι (ss.map V.str) = ss.map encStr := by rw [cvl_eq, List.map_map]; rfl
    rw [ec] at h4
    refine ⟨(Array.getElem?_eq_some_iff.1 h1).1, fun j hj => frozen_no h1 h3 (by omega), ?_, h5⟩
    rw [putRow_eq h1 ss h2]
    exact h4
theorem below_grown (w : World) (n : Nat) (os : Array Obj) : Bel w.heap.size w (grow (Go.Sort.ahead w n) os) :=
  ⟨rfl, rfl, rfl, by simp, fun k hk => by
    show (w.heap ++ os)[k]? = w.heap[k]?
    rw [Array.getElem?_append_left hk]⟩
def sorted (ss : List (List UInt8)) : List (List UInt8) := ss.mergeSort fun x y => decide (x ≤ y)
def sortP (vs : List V) (H : Heap) (τ : Tape) : Option (V × Heap × Tape) :=
  match vs with
  | [.nils] => some (.tup [], H, τ)
  | [.sl id off len _ _ z] => bif Nat.beq z 1 && Nat.blt len 4611686018427387904 then
      match len with
      | 0 => some (.tup [], H, τ)
      | len => match H.loads id off len with
        | some cs => match strsOf cs with
          | some ss => match H.stores id off ((sorted ss).map V.str) with
            | some H' => some (.tup [], H', τ)
            | none => none
          | none => none
        | none => none
    else none
  | _ => none
theorem sortP_ev : PrimEv sortP := by
  intro vs H τ v H' τ' h
  simp only [sortP, Bool.cond_eq_ite] at h
  (repeat' split at h) <;> first
    | (cases h; done)
    | (simp only [Option.some.injEq, Prod.mk.injEq] at h; obtain ⟨_, rfl, _⟩ := h; first | exact Ev.refl _ | exact ev_stores (by assumption))
theorem primOk_sort {P : Program} {f : FuncId} (hp : plainCall P f = true)
    (h0 : ∀ (p : Option Addr) (cap : Nat) (w : World), Calls P f #[.slice p 0 cap] w fun e w' => e = .returned (.tuple #[]) ∧ w' = w)
    (h : ∀ (blk off cap : Nat) (ss : List (List UInt8)) (w : World), Holds encStr w blk off ss.toArray → blk < w.heap.size → ss.length < 4611686018427387904 →
      Calls P f #[.slice (some ⟨blk, off, none⟩) ss.length cap] w fun e w' => e = .returned (.tuple #[]) ∧ ∃ n os, w' = grow (putRow encStr (Go.Sort.ahead w n) blk off (ss.mergeSort fun x y => decide (x ≤ y)).toArray) os) (base : Base) (w0 : World) : PrimOk P base w0 f sortP := by
  refine ⟨sortP_ev, fun vs H ι w hM hG hok hn0 => ⟨hp, ?_⟩⟩
  have hn := hn0 (fun _ => 0)
  unfold sortP at hn
  split at hn
  · refine (h0 none 0 w).mono fun e w' ⟨he, hw⟩ => ?_
    subst hw
    exact ⟨.tup [], H, ι, [], by rw [he]; rfl, fun τ => rfl, hM, Ext.refl _ _, Evol.refl _, trivial⟩
  · rename_i id off len lo ex z
    cases hz : (Nat.beq z 1 && Nat.blt len 4611686018427387904) with
    | false => rw [hz, cond_false] at hn; exact absurd rfl hn
    | true =>
      rw [hz, cond_true] at hn
      cases len with
      | zero =>
        refine (h0 (some ⟨(ι id).1, (ι id).2 + off, none⟩) (lo + ex.getD 0) w).mono fun e w' ⟨he, hw⟩ => ?_
        subst hw
        exact ⟨.tup [], H, ι, [], by rw [he]; rfl, fun τ => by simp only [sortP, Tape.app, hz, cond_true], hM, Ext.refl _ _, Evol.refl _, trivial⟩
      | succ m =>
        simp only at hn
        split at hn
        · rename_i cs hcs
          split at hn
          · rename_i ss hss
            split at hn
            · rename_i H' hst
              obtain ⟨k1, k2, k3, k4⟩ := MRel.loads (P := P) hM hcs
              have hcs' := strsOf_spec _ _ hss
              have hlen : ss.length = m + 1 := by rw [← k2, hcs']; simp
              have hne : sorted ss ≠ [] := by
                intro e
                have := congrArg List.length e
                unfold sorted at this
                rw [List.length_mergeSort] at this
                rw [hlen] at this; simp at this
              have hsl : (sorted ss).length = ss.length := List.length_mergeSort _
              obtain ⟨p1, p2, p3, p4⟩ := hM.putRow hne hst
              have hH : Holds encStr w (ι id).1 ((ι id).2 + off) ss.toArray := by
                intro j hj
                have hj' : j < ss.length := by simpa using hj
                refine ⟨?_, p2 j (by omega)⟩
                have := k3 j (.str ss[j]) (by rw [hcs', List.getElem?_map, List.getElem?_eq_getElem hj']; rfl)
                rw [this]
                simp [cv, encStr, hj']
              have hlt : ss.length < 4611686018427387904 := by
                simp only [Bool.and_eq_true] at hz
                have := hz.2
                simp [Nat.blt] at this
                omega
              have hc := h (ι id).1 ((ι id).2 + off) (lo + ex.getD 0) ss w hH p1 hlt
              rw [hlen] at hc
              refine hc.mono fun e w' ⟨he, n, os, hw⟩ => ?_
              have hans : ∀ τ, sortP [.sl id off (m + 1) lo ex z] H τ = some (.tup [], H', τ) := fun τ => by
                simp only [sortP, hz, cond_true, hcs, hss, hst]
              refine ⟨.tup [], H', ι, [], by rw [he]; rfl, hans, ?_, Ext.refl _ _, p4, trivial⟩
              have hw2 : w' = grow (Go.Sort.ahead (putRow encStr w (ι id).1 ((ι id).2 + off) (sorted ss).toArray) n) os := hw
              rw [hw2]
              exact p3.keep (below_grown _ _ _)
            · exact absurd rfl hn
          · exact absurd rfl hn
        · exact absurd rfl hn
  · exact absurd rfl hn
def compL (ss : List (List UInt8)) : List (List UInt8) := Lib.compact ss
def compactP (vs : List V) (H : Heap) (τ : Tape) : Option (V × Heap × Tape) :=
  match vs with
  | [.nils] => some (.nils, H, τ)
  | [.sl id off len lo ex z] => bif Nat.beq z 1 && Nat.ble len 9223372036854775807 then
      match len with
      | 0 => some (.sl id off 0 lo ex z, H, τ)
      | len => match H.loads id off len with
        | some cs => match strsOf cs with
          | some ss => match H.stores id off ((compL ss ++ List.replicate (ss.length - (compL ss).length) []).map V.str) with
            | some H' => some (.sl id off (compL ss).length lo ex z, H', τ)
            | none => none
          | none => none
        | none => none
    else none
  | _ => none
theorem compL_le (ss : List (List UInt8)) : (compL ss).length ≤ ss.length := by
  unfold compL Lib.compact Lib.compactUpTo
  rw [List.length_map]
  exact Nat.le_trans (List.length_filter_le _ _) (by simp)
theorem compactP_ev : PrimEv compactP := by
  intro vs H τ v H' τ' h
  simp only [compactP, Bool.cond_eq_ite] at h
  (repeat' split at h) <;> first
    | (cases h; done)
    | (simp only [Option.some.injEq, Prod.mk.injEq] at h; obtain ⟨_, rfl, _⟩ := h; first | exact Ev.refl _ | exact ev_stores (by assumption))
theorem primOk_compact {P : Program} {f : FuncId} (hp : plainCall P f = true)
    (h0 : ∀ (a : Option Addr) (cap : Nat) (w : World), Calls P f #[.slice a 0 cap] w fun e w' => e = .returned (.slice a 0 cap) ∧ w' = w)
    (h : ∀ (blk off cap : Nat) (zs : List (List UInt8)) (w : World), Holds encStr w blk off zs.toArray → zs.length ≤ 9223372036854775807 → zs.length ≤ cap →
      Calls P f #[.slice (some ⟨blk, off, none⟩) zs.length cap] w fun e w' => e = .returned (.slice (some ⟨blk, off, none⟩) (Lib.compact zs).length cap) ∧ ∃ q, w' = putRow encStr (Go.Sort.ahead w q) blk off (Lib.compact zs ++ List.replicate (zs.length - (Lib.compact zs).length) []).toArray) (base : Base) (w0 : World) : PrimOk P base w0 f compactP := by
  refine ⟨compactP_ev, fun vs H ι w hM hG hok hn0 => ⟨hp, ?_⟩⟩
  have hn := hn0 (fun _ => 0)
  unfold compactP at hn
  split at hn
  · refine (h0 none 0 w).mono fun e w' ⟨he, hw⟩ => ?_
    subst hw
    exact ⟨.nils, H, ι, [], by rw [he]; rfl, fun τ => rfl, hM, Ext.refl _ _, Evol.refl _, trivial⟩
  · rename_i id off len lo ex z
    cases hz : (Nat.beq z 1 && Nat.ble len 9223372036854775807) with
    | false => rw [hz, cond_false] at hn; exact absurd rfl hn
    | true =>
      rw [hz, cond_true] at hn
      have hvok := hok.1
      cases len with
      | zero =>
        refine (h0 (some ⟨(ι id).1, (ι id).2 + off, none⟩) (lo + ex.getD 0) w).mono fun e w' ⟨he, hw⟩ => ?_
        subst hw
        exact ⟨.sl id off 0 lo ex z, H, ι, [], by rw [he]; rfl, fun τ => by simp only [compactP, Tape.app, hz, cond_true], hM, Ext.refl _ _, Evol.refl _, hvok⟩
      | succ m =>
        simp only at hn
        split at hn
        · rename_i cs hcs
          split at hn
          · rename_i ss hss
            split at hn
            · rename_i H' hst
              obtain ⟨k1, k2, k3, k4⟩ := MRel.loads (P := P) hM hcs
              have hcs' := strsOf_spec _ _ hss
              have hlen : ss.length = m + 1 := by rw [← k2, hcs']; simp
              have hcl := compL_le ss
              have hsl : (compL ss ++ List.replicate (ss.length - (compL ss).length) []).length = ss.length := by
                rw [List.length_append, List.length_replicate]; omega
              have hne : compL ss ++ List.replicate (ss.length - (compL ss).length) [] ≠ [] := by
                intro e
                have := congrArg List.length e
                rw [hsl, hlen] at this; simp at this
              obtain ⟨p1, p2, p3, p4⟩ := hM.putRow hne hst
              have hH : Holds encStr w (ι id).1 ((ι id).2 + off) ss.toArray := by
                intro j hj
                have hj' : j < ss.length := by simpa using hj
                refine ⟨?_, p2 j (by omega)⟩
                have := k3 j (.str ss[j]) (by rw [hcs', List.getElem?_map, List.getElem?_eq_getElem hj']; rfl)
                rw [this]
                simp [cv, encStr, hj']
              have hle : ss.length ≤ 9223372036854775807 := by
                simp only [Bool.and_eq_true] at hz
                have := hz.2
                simp at this
                omega
              have hcap : m + 1 ≤ lo + ex.getD 0 := hvok.2.1
              have hc := h (ι id).1 ((ι id).2 + off) (lo + ex.getD 0) ss w hH hle (by omega)
              rw [hlen] at hc
              refine hc.mono fun e w' ⟨he, q, hw⟩ => ?_
              have hans : ∀ τ, compactP [.sl id off (m + 1) lo ex z] H τ = some (.sl id off (compL ss).length lo ex z, H', τ) := fun τ => by
                simp only [compactP, hz, cond_true, hcs, hss, hst]
              refine ⟨.sl id off (compL ss).length lo ex z, H', ι, [], by rw [he]; rfl, hans, ?_, Ext.refl _ _, p4, ?_⟩
              · have hw2 : w' = grow (Go.Sort.ahead (putRow encStr w (ι id).1 ((ι id).2 + off) (compL ss ++ List.replicate (ss.length - (compL ss).length) []).toArray) q) #[] := by
                  rw [hw, hlen]; simp [compL]; rfl
                rw [hw2]
                exact p3.keep (below_grown _ _ _)
              · have e1 := p4.room id hvok.1
                refine ⟨Nat.lt_of_lt_of_le hvok.1 p4.size, by have := hvok.2.1; omega, fun hx => ?_⟩
                rw [e1]; exact hvok.2.2 hx
            · exact absurd rfl hn
          · exact absurd rfl hn
        · exact absurd rfl hn
  · exact absurd rfl hn
end Go.Am

namespace Go.Am
set_option linter.unusedSimpArgs false
set_option linter.unusedVariables false
theorem over_gen : ∀ (off room : Nat) (vs cs : List V), vs ≠ [] → off ≤ cs.length → off + vs.length ≤ room → over room off vs cs = some (cs.take off ++ vs ++ cs.drop (off + vs.length)) := by
  intro off
  induction off with
  | zero =>
    intro room vs
    induction vs generalizing room with
    | nil => intro cs h; exact absurd rfl h
    | cons v vs ih =>
      intro cs _ _ hr
      cases cs with
      | nil =>
        simp only [over]
        rw [Nat.ble_eq_true_of_le (by simpa using hr)]
        simp
      | cons c cs =>
        cases vs with
        | nil => simp [over]
        | cons v' vs =>
          have := ih (room - 1) cs (by simp) (Nat.zero_le _) (by simp at hr ⊢; omega)
          simp only [over] at this ⊢
          rw [this]
          simp only [List.take_zero, List.nil_append, List.cons_append]
          rw [show 0 + (v :: v' :: vs).length = (0 + (v' :: vs).length) + 1 by simp only [List.length_cons]; omega, List.drop_succ_cons]
  | succ off ih =>
    intro room vs cs hv ho hr
    cases cs with
    | nil => simp at ho
    | cons c cs =>
      cases vs with
      | nil => exact absurd rfl hv
      | cons v vs =>
        have := ih (room - 1) (v :: vs) cs (by simp) (by simp at ho; omega) (by simp at hr ⊢; omega)
        simp only [over, this]
        simp only [List.take_succ_cons, List.cons_append, Option.some.injEq, List.cons.injEq, true_and]
        rw [show off + 1 + (v :: vs).length = (off + (v :: vs).length) + 1 by omega, List.drop_succ_cons]
def RoomZ (P : Nat → Prop) (H : Heap) (v : V) (z cap : Nat) (l : List V) : Prop :=
  (v = .nils ∧ cap = 0 ∧ l = []) ∨ ∃ id off len lo ex all room fam ver pl st fr, v = .sl id off len lo ex z ∧ cap = lo + ex.getD 0 ∧ H.blk.get id = some (.mem all room fam ver true pl st) ∧ H.fams.get fam = some (fr, ver) ∧ fr ≤ ver ∧ P id ∧ P fam ∧
    off + l.length ≤ all.length ∧ (all.drop off).take l.length = l ∧ (off + cap * z ≤ all.length ∨ off + cap * z ≤ room) ∧ l.length ≤ cap * z
theorem RoomZ.chg {P Q : Nat → Prop} {H H' : Heap} {v : V} {z cap : Nat} {l : List V} (h : RoomZ P H v z cap l) (hw : WF H) (hg : Chg Q H H') (hPQ : ∀ i, i < H.size → P i → ¬ Q i) : RoomZ P H' v z cap l := by
  rcases h with h | ⟨id, off, len, lo, ex, all, room, fam, ver, pl, st, fr, h1, h2, h3, h4, h5, h6, h7, h8, h9, h10, h11⟩
  · exact .inl h
  · have a := hw.blk _ _ h3
    have b := hw.fams _ _ h4
    exact .inr ⟨id, off, len, lo, ex, all, room, fam, ver, pl, st, fr, h1, h2, by rw [hg.blk id a (hPQ _ a h6)]; exact h3, by rw [hg.fams fam b (hPQ _ b h7)]; exact h4, h5, h6, h7, h8, h9, h10, h11⟩
theorem RoomZ.weaken {P Q : Nat → Prop} {H : Heap} {v : V} {z cap : Nat} {l : List V} (h : RoomZ P H v z cap l) (hw : WF H) (hPQ : ∀ i, i < H.size → P i → Q i) : RoomZ Q H v z cap l := by
  rcases h with h | ⟨id, off, len, lo, ex, all, room, fam, ver, pl, st, fr, h1, h2, h3, h4, h5, h6, h7, h8, h9, h10, h11⟩
  · exact .inl h
  · exact .inr ⟨id, off, len, lo, ex, all, room, fam, ver, pl, st, fr, h1, h2, h3, h4, h5, hPQ _ (hw.blk _ _ h3) h6, hPQ _ (hw.fams _ _ h4) h7, h8, h9, h10, h11⟩
theorem RoomZ.take {P : Nat → Prop} {H : Heap} {v : V} {z cap : Nat} {l : List V} (h : RoomZ P H v z cap l) (j : Nat) : RoomZ P H v z cap (l.take j) := by
  rcases h with ⟨h1, h2, h3⟩ | ⟨id, off, len, lo, ex, all, room, fam, ver, pl, st, fr, h1, h2, h3, h4, h5, h6, h7, h8, h9, h10, h11⟩
  · subst h3; exact .inl ⟨h1, h2, by simp⟩
  · refine .inr ⟨id, off, len, lo, ex, all, room, fam, ver, pl, st, fr, h1, h2, h3, h4, h5, h6, h7, ?_, ?_, h10, ?_⟩
    · rw [List.length_take]; omega
    · conv => rhs; rw [← h9]
      rw [List.take_take, List.length_take]
    · rw [List.length_take]; omega
theorem RoomZ.pCap {P : Nat → Prop} {H : Heap} {v : V} {z cap : Nat} {l : List V} (h : RoomZ P H v z cap l) : pCap [v] = some (.int .i64 (cap : Int)) := by
  rcases h with ⟨rfl, rfl, rfl⟩ | ⟨id, off, len, lo, ex, all, room, fam, ver, pl, st, fr, rfl, rfl, _⟩ <;> rfl
theorem full_mkZ {id off len lo z : Nat} {ex : Option Nat} : pSlSlice z false true false [.sl id off len lo ex z, .int .i64 ((lo + ex.getD 0 : Nat) : Int)] = some (.sl id off (lo + ex.getD 0) lo ex z) := by
  have hb : bounds3 false true false [V.int .i64 ((lo + ex.getD 0 : Nat) : Int)] = some (none, some (lo + ex.getD 0), none) := by
    simp only [bounds3, optN, natOf_mk]
  have hwi : within (lo + ex.getD 0) lo ex = true := by rw [within_iff]; exact .inr (Nat.le_refl _)
  have h0 : Nat.ble 0 (lo + ex.getD 0) = true := Nat.ble_eq_true_of_le (Nat.zero_le _)
  have h1 : Nat.ble 0 lo = true := Nat.ble_eq_true_of_le (Nat.zero_le _)
  have ho : offIn off 0 lo ex z = off := rfl
  simp only [pSlSlice, Nat.beq_refl, cond_true, hb, slCut, Option.getD_some, Option.getD_none, hwi, h0, Bool.and_self, h1, ho, Nat.sub_zero]
theorem RoomZ.full {P : Nat → Prop} {H : Heap} {v : V} {z cap : Nat} {l : List V} (hz : 0 < z) (h : RoomZ P H v z cap l) :
    ∃ v', pSlSlice z false true false [v, .int .i64 (cap : Int)] = some v' ∧ pLen [v'] = some (.int .i64 (cap : Int)) ∧
      (∀ H' l' k, WF H' → RoomZ P H' v z cap l' → l'.length = k * z → k < cap → ∀ (x : V), x.cells.length = z → x.cells.all V.scal = true → ∀ τ, ∃ p H'', pSlIdx z [v', .int .i64 (k : Int)] = some p ∧ eStore z [p, x] H' τ = some (.tup [], H'', τ) ∧ RoomZ P H'' v z cap (l' ++ x.cells) ∧ Chg P H' H'') ∧
      (∀ H' l', RoomZ P H' v z cap l' → ∀ (i : Nat), i * z + z ≤ l'.length → ∃ id o, pSlIdx z [v', .int .i64 (i : Int)] = some (.ptr id o) ∧ lLoadN z [.ptr id o] H' = some (.agg ((l'.drop (i * z)).take z)) ∧ ∀ j x, j < z → l'[i * z + j]? = some x → lLoad1 [.ptr id (o + j)] H' = some x) := by
  rcases h with ⟨rfl, rfl, rfl⟩ | ⟨id, off, len, lo, ex, all, room, fam, ver, pl, st, fr, rfl, rfl, _⟩
  · refine ⟨.nils, rfl, rfl, fun H' l' k _ h' hl hk => by omega, fun H' l' h' i hx => ?_⟩
    rcases h' with ⟨_, _, rfl⟩ | ⟨id, off, len, lo, ex, all, room, fam, ver, pl, st, fr, h1, _⟩
    · simp at hx; omega
    · cases h1
  · refine ⟨.sl id off (lo + ex.getD 0) lo ex z, full_mkZ, rfl, ?_, ?_⟩
    · intro H' l' k hw h' hk hkc x hxl hs τ
      rcases h' with ⟨h1, _⟩ | ⟨id', off', len', lo', ex', all', room', fam', ver', pl', st', fr', h1, h2, h3, h4, h5, h6, h7, h8, h9, h10, h11⟩
      · cases h1
      · cases h1
        have hkz : (k + 1) * z ≤ (lo + ex.getD 0) * z := Nat.mul_le_mul_right _ hkc
        rw [Nat.succ_mul] at hkz
        have hidx : pSlIdx z [.sl id off (lo + ex.getD 0) lo ex z, .int .i64 (k : Int)] = some (.ptr id (off + k * z)) := by
          have hb : Nat.blt k (lo + ex.getD 0) = true := by simp [Nat.blt]; omega
          simp [pSlIdx, natOf_nat, hb]
        have hroom : H'.room? id = room' := by simp only [Heap.room?, h3]
        have hne : x.cells ≠ [] := fun e => by rw [e] at hxl; simp at hxl; omega
        obtain ⟨all2, hov, hlen2, htk, hge⟩ : ∃ all2, over room' (off + k * z) x.cells all' = some all2 ∧ off + (l'.length + z) ≤ all2.length ∧ (all2.drop off).take (l'.length + z) = l' ++ x.cells ∧ all'.length ≤ all2.length := by
          have hp : over room' (off + k * z) x.cells all' = some (all'.take (off + k * z) ++ x.cells ++ all'.drop (off + k * z + x.cells.length)) := by
            by_cases hin : off + k * z + x.cells.length ≤ all'.length
            · exact over_in (off + k * z) room' x.cells all' hin
            · refine over_gen _ _ _ _ hne (by omega) ?_
              rw [hxl]; rcases h10 with h10 | h10 <;> omega
          have hll : (all'.take (off + k * z)).length = off + k * z := by rw [List.length_take]; omega
          refine ⟨_, hp, ?_, ?_, ?_⟩
          · simp only [List.length_append, hll, hxl, List.length_drop]; omega
          · have e1 : (all'.take (off + k * z)).drop off = l' := by rw [List.drop_take, Nat.add_sub_cancel_left, ← hk]; exact h9
            rw [List.append_assoc, List.drop_append_of_le_length (by rw [hll]; omega), e1]
            rw [show l'.length + z = (l' ++ x.cells).length by rw [List.length_append, hxl], ← List.append_assoc]
            exact List.take_left
          · simp only [List.length_append, hll, hxl, List.length_drop]; omega
        have hsx : ∃ y ys, x.cells = y :: ys := by
          cases hx : x.cells with
          | nil => exact absurd hx hne
          | cons y ys => exact ⟨y, ys, rfl⟩
        obtain ⟨y, ys, hy⟩ := hsx
        refine ⟨.ptr id (off + k * z), { size := H'.size, blk := H'.blk.set id (.mem all2 room' fam' ver' true pl' (st' + 1)), fams := H'.fams.set fam' (ver', ver') }, hidx, ?_, ?_, ?_⟩
        · have : H'.stores id (off + k * z) x.cells = some { size := H'.size, blk := H'.blk.set id (.mem all2 room' fam' ver' true pl' (st' + 1)), fams := H'.fams.set fam' (ver', ver') } := by
            rw [hy] at hs hov ⊢
            simp only [Heap.stores, hs, cond_true, Heap.write, h3, h4, hroom, hov]
            rw [show Nat.beq ver' ver' = true from Nat.beq_refl ver', show Nat.ble fr' ver' = true from Nat.ble_eq_true_of_le h5]
            rfl
          simp only [Am.eStore, hxl, Nat.beq_refl, cond_true, this]
        · refine .inr ⟨id, off, len, lo, ex, all2, room', fam', ver', pl', st' + 1, ver', rfl, rfl, T.get_set_same _ _ _, T.get_set_same _ _ _, Nat.le_refl _, h6, h7, ?_, ?_, ?_, ?_⟩
          · rw [List.length_append, hxl]; exact hlen2
          · rw [List.length_append, hxl]; exact htk
          · rcases h10 with h10 | h10
            · exact .inl (by omega)
            · exact .inr h10
          · rw [List.length_append, hxl]; omega
        · have hid := hw.blk _ _ h3
          have hfam := hw.fams _ _ h4
          refine ⟨⟨?_, ?_, ?_⟩, Nat.le_refl _, fun i hi hp => ?_, fun f hf hp => ?_⟩
          · intro i b hb
            simp only [T.get_set] at hb ⊢
            split at hb
            · omega
            · exact hw.blk _ _ hb
          · intro f x hf
            simp only [T.get_set] at hf ⊢
            split at hf
            · omega
            · exact hw.fams _ _ hf
          · intro i c r f v' w p s hb
            simp only [T.get_set] at hb ⊢
            split at hb
            · cases hb; exact hfam
            · exact hw.fam _ _ _ _ _ _ _ _ hb
          · simp only [T.get_set]; rw [if_neg (by intro he; subst he; exact hp h6)]
          · simp only [T.get_set]; rw [if_neg (by intro he; subst he; exact hp h7)]
    · intro H' l' h' i hi
      rcases h' with ⟨h1, _⟩ | ⟨id', off', len', lo', ex', all', room', fam', ver', pl', st', fr', h1, h2, h3, h4, h5, h6, h7, h8, h9, h10, h11⟩
      · cases h1
      · cases h1
        have hic : i < lo + ex.getD 0 := by
          by_cases hc : i < lo + ex.getD 0
          · exact hc
          · have := Nat.mul_le_mul_right z (Nat.le_of_not_lt hc)
            omega
        have hc : H'.cells? id = some all' := by
          simp only [Heap.cells?, h3, h4]
          rw [show Nat.ble fr' ver' = true from Nat.ble_eq_true_of_le h5]
          rfl
        refine ⟨id, off + i * z, ?_, ?_, fun j x hj hx => ?_⟩
        · have hb : Nat.blt i (lo + ex.getD 0) = true := by simp [Nat.blt]; omega
          simp [pSlIdx, natOf_nat, hb]
        · rw [load_cells hc (by omega)]
          have : (l'.drop (i * z)).take z = (all'.drop (off + i * z)).take z := by
            conv => lhs; rw [← h9]
            rw [List.drop_take, List.drop_drop, List.take_take]
            congr 1
            omega
          rw [this]
        · refine load_cell hc ?_
          have hlt := (List.getElem?_eq_some_iff.1 hx).1
          rw [← h9, List.getElem?_take_of_lt hlt, List.getElem?_drop] at hx
          rw [Nat.add_assoc]; exact hx
theorem RoomZ.scal {P : Nat → Prop} {H : Heap} {v : V} {z cap : Nat} {l : List V} (h : RoomZ P H v z cap l) : v.cells = [v] ∧ v.scal = true := by
  rcases h with ⟨rfl, _⟩ | ⟨id, off, len, lo, ex, all, room, fam, ver, pl, st, fr, rfl, _⟩ <;> exact ⟨rfl, rfl⟩
theorem RoomZ.rd {P : Nat → Prop} {H : Heap} {v : V} {z cap n : Nat} {l : List V} (h : RoomZ P H v z cap l) (hn : l.length = n * z) (hl : pLen [v] = some (.int .i64 (n : Int))) : Rd H z v n l ∧ Src H v := by
  rcases h with ⟨rfl, rfl, rfl⟩ | ⟨id, off, len, lo, ex, all, room, fam, ver, pl, st, fr, rfl, h2, h3, h4, h5, h6, h7, h8, h9, h10, h11⟩
  · have : n = 0 := by
      simp only [pLen, Option.some.injEq, V.int.injEq, true_and] at hl
      have : ((0 : Nat) : Int) = (n : Int) := hl
      omega
    subst this
    exact ⟨.inl ⟨.inl rfl, rfl, rfl⟩, trivial⟩
  · have e : len = n := by
      simp only [pLen, Option.some.injEq, V.int.injEq, true_and] at hl
      exact Int.ofNat.inj hl
    subst e
    have hc : H.cells? id = some all := by
      simp only [Heap.cells?, h3, h4]
      rw [show Nat.ble fr ver = true from Nat.ble_eq_true_of_le h5]
      rfl
    exact ⟨.inr ⟨id, off, lo, ex, all, rfl, hc, by rw [← hn, h9], hn⟩, ⟨all, hc⟩⟩
end Go.Am

namespace Go.Am
set_option linter.unusedSimpArgs false
set_option linter.unusedVariables false
def TailP (P : Nat → Prop) (H : Heap) (v : V) (vs : List V) : Prop :=
  (v = .nils ∧ vs = []) ∨ ∃ id off e all room fam ver pl st fr, v = .sl id off vs.length vs.length (some e) 1 ∧ H.blk.get id = some (.mem all room fam ver true pl st) ∧ H.fams.get fam = some (fr, ver) ∧ fr ≤ ver ∧ P id ∧ P fam ∧ all.length = off + vs.length ∧ all.drop off = vs
theorem TailP.nil (P : Nat → Prop) (H : Heap) : TailP P H .nils [] := .inl ⟨rfl, rfl⟩
theorem TailP.chg {P Q : Nat → Prop} {H H' : Heap} {v : V} {vs : List V} (h : TailP P H v vs) (hw : WF H) (hg : Chg Q H H') (hPQ : ∀ i, i < H.size → P i → ¬ Q i) : TailP P H' v vs := by
  rcases h with h | ⟨id, off, e, all, room, fam, ver, pl, st, fr, h1, h2, h3, h4, h5, h6, h7⟩
  · exact .inl h
  · have a := hw.blk _ _ h2
    have b := hw.fams _ _ h3
    exact .inr ⟨id, off, e, all, room, fam, ver, pl, st, fr, h1, by rw [hg.blk id a (hPQ _ a h5)]; exact h2, by rw [hg.fams fam b (hPQ _ b h6)]; exact h3, h4, h5, h6, h7⟩
theorem TailP.weaken {P Q : Nat → Prop} {H : Heap} {v : V} {vs : List V} (h : TailP P H v vs) (hw : WF H) (hPQ : ∀ i, i < H.size → P i → Q i) : TailP Q H v vs := by
  rcases h with h | ⟨id, off, e, all, room, fam, ver, pl, st, fr, h1, h2, h3, h4, h5, h6, h7⟩
  · exact .inl h
  · exact .inr ⟨id, off, e, all, room, fam, ver, pl, st, fr, h1, h2, h3, h4, hPQ _ (hw.blk _ _ h2) h5, hPQ _ (hw.fams _ _ h3) h6, h7⟩
theorem TailP.cells {H : Heap} {P : Nat → Prop} {id off e m : Nat} {vs : List V} (h : TailP P H (.sl id off m m (some e) 1) vs) : ∃ all, H.cells? id = some all ∧ all.length = off + vs.length ∧ all.drop off = vs ∧ m = vs.length := by
  rcases h with ⟨h, _⟩ | ⟨id', off', e', all, room, fam, ver, pl, st, fr, h1, h2, h3, h4, h5, h6, h7, h8⟩
  · cases h
  · cases h1
    refine ⟨all, ?_, h7, h8, rfl⟩
    simp only [Heap.cells?, h2, h3]
    rw [show Nat.ble fr ver = true from Nat.ble_eq_true_of_le h4]
    rfl
theorem TailP.rd {P : Nat → Prop} {H : Heap} {v : V} {vs : List V} (h : TailP P H v vs) : Rd H 1 v vs.length vs := by
  have h0 := h
  rcases h with ⟨rfl, rfl⟩ | ⟨id, off, e, all, room, fam, ver, pl, st, fr, rfl, h2, h3, h4, h5, h6, h7, h8⟩
  · exact .inl ⟨.inl rfl, rfl, rfl⟩
  · obtain ⟨all', c1, c2, c3, _⟩ := TailP.cells h0
    refine .inr ⟨id, off, vs.length, some e, all', rfl, c1, ?_, by omega⟩
    rw [c3, Nat.mul_one, List.take_length]
theorem TailP.append {P : Nat → Prop} {H : Heap} {bytes : Nat} {v : V} {vs : List V} (h : TailP P H v vs) (hw : WF H) (x : V) (hs : x.scal = true)
    (h1 : (vs.length + 1) * bytes ≤ 140737488355328) (h2 : vs.length + 1 ≤ 140737488355328) (τ : Tape) :
    ∃ v' H', Am.append H 1 bytes v 1 [x] τ = some (v', H', τ.tail) ∧ TailP (fun i => (i < H.size ∧ P i) ∨ H.size ≤ i) H' v' (vs ++ [x]) ∧ Chg P H H' ∧ (∀ id cs, H.cells? id = some cs → H'.cells? id = some cs) := by
  have h0 := h
  rcases h with ⟨rfl, rfl⟩ | ⟨id, off, e, all, room, fam, ver, pl, st, fr, rfl, k2, k3, k4, k5, k6, k7, k8⟩
  · obtain ⟨v', H', r1, r2, r3, r4⟩ := (OwnP.nil P H 1).append (bytes := bytes) hw 1 [x] (by omega) rfl (by simp [hs]) (by simpa using h1) (by simp) τ
    refine ⟨v', H', r1, ?_, r3, r4⟩
    rcases r2 with ⟨_, h, _⟩ | ⟨id, e, room, fam, ver, pl, st, fr, rfl, q1, q2, q3, q4, q5, q6⟩
    · cases h
    · exact .inr ⟨id, 0, e, _, room, fam, ver, pl, st, fr, rfl, q1, q2, q3, q4, q5, by simp, rfl⟩
  · have hfam : fam < H.size := hw.fams _ _ k3
    have hid : id < H.size := hw.blk _ _ k2
    obtain ⟨all', hcells, _, _, _⟩ := TailP.cells h0
    have ea : all' = all := by
      simp only [Heap.cells?, k2, k3] at hcells
      rw [show Nat.ble fr ver = true from Nat.ble_eq_true_of_le k4] at hcells
      exact (Option.some.inj hcells).symm
    subst ea
    have hloads : H.loads id off (vs.length * 1) = some vs := by
      rw [loads_cells hcells (by omega), k8, Nat.mul_one, List.take_length]
    have e1 : Nat.ble ((vs.length + 1) * bytes) 140737488355328 = true := Nat.ble_eq_true_of_le h1
    have e2 : Nat.ble (vs.length + 1) 140737488355328 = true := Nat.ble_eq_true_of_le h2
    have e3 : Nat.ble (vs.length + 1) vs.length = false := by
      cases hb : Nat.ble (vs.length + 1) vs.length with
      | false => rfl
      | true => have := Nat.le_of_ble_eq_true hb; omega
    have e5 : Nat.beq ver ver = true := Nat.beq_refl ver
    have e6 : Nat.beq (off + vs.length * 1) all'.length = true := by rw [k7, Nat.mul_one]; exact Nat.beq_refl _
    have hall : ([x] : List V).all V.scal = true := by simp [hs]
    refine ⟨.sl H.size 0 (vs.length + 1) (vs.length + 1) (some (spare (vs.length + 1) (τ 0))) 1, H.version (vs ++ [x]) ((vs.length + 1 + spare (vs.length + 1) (τ 0)) * 1) fam fr ver pl, ?_, ?_, ⟨hw.version _ _ _ _ _ _ hfam, Nat.le_succ _, fun i hi hp => ?_, fun f hf hp => ?_⟩, ?_⟩
    · simp only [Am.append, Nat.beq_refl, cond_true, e3, cond_false, e1, e2, Bool.and_self, hloads, k2, k3, e6, hall]
    · exact .inr ⟨H.size, 0, spare (vs.length + 1) (τ 0), _, _, fam, ver + 1, pl, 0, fr, by simp, T.get_set_same _ _ _, T.get_set_same _ _ _, by omega, .inr (Nat.le_refl _), .inl ⟨hfam, k6⟩, by simp, rfl⟩
    · simp only [Heap.version, T.get_set]; rw [if_neg (by omega)]
    · simp only [Heap.version, T.get_set]; rw [if_neg (by intro he; subst he; exact hp k6)]
    · intro i c hc
      have hilt := hw.cells_lt hc
      unfold Heap.cells? at hc ⊢
      simp only [Heap.version, T.get_set]
      rw [if_neg (by omega)]
      split at hc
      · rename_i cs' room' fam' ver' wr' pl' st' hb
        by_cases he : fam = fam'
        · subst he
          rw [k3] at hc
          simpa using hc
        · rw [if_neg he]
          exact hc
      · cases hc
theorem TailP.tail {P : Nat → Prop} {H : Heap} {v x : V} {r : List V} (h : TailP P H v (x :: r)) (hr : r ≠ []) :
    ∃ v', pSlSlice 1 true false false [v, .int .i64 (.ofNat 1)] = some v' ∧ ∀ H' Q, TailP Q H' v (x :: r) → TailP Q H' v' r := by
  rcases h with ⟨_, h⟩ | ⟨id, off, e, all, room, fam, ver, pl, st, fr, rfl, h2, h3, h4, h5, h6, h7, h8⟩
  · cases h
  · have hpos := List.length_pos_iff.2 hr
    have hb : bounds3 true false false [.int .i64 (.ofNat 1)] = some (some 1, none, none) := rfl
    have hwi : within (x :: r).length (x :: r).length (some e) = true := by rw [within_iff]; exact .inl (Nat.le_refl _)
    have hle : Nat.ble 1 (x :: r).length = true := Nat.ble_eq_true_of_le (by simp)
    have ho : offIn off 1 (x :: r).length (some e) 1 = off + 1 := by
      have h1 : Nat.beq 1 0 = false := rfl
      have h2 : Nat.blt 1 (x :: r).length = true := by simp [Nat.blt]; omega
      simp only [offIn, h1, cond_false, h2, cond_true, Nat.mul_one]
    have hl : (x :: r).length - 1 = r.length := by simp
    refine ⟨.sl id (off + 1) r.length r.length (some e) 1, ?_, fun H' Q h' => ?_⟩
    · simp only [pSlSlice, Nat.beq_refl, cond_true, hb, slCut, Option.getD_some, Option.getD_none, hwi, hle, Bool.and_self, ho, hl]
    · rcases h' with ⟨h, _⟩ | ⟨id', off', e', all', room', fam', ver', pl', st', fr', q1, q2, q3, q4, q5, q6, q7, q8⟩
      · cases h
      · cases q1
        refine .inr ⟨id, off + 1, e, all', room', fam', ver', pl', st', fr', rfl, q2, q3, q4, q5, q6, by simp at q7; omega, ?_⟩
        rw [← List.drop_drop, q8]; rfl
end Go.Am

namespace Go.Am
set_option linter.unusedSimpArgs false
set_option linter.unusedVariables false
structure ItZ where
  v : V
  cap : Nat
  n : Nat
  cs : List V
  w : V
  key : Nat
def ItZ.Ok (z : Nat) (lab : Nat → Nat) (H : Heap) (it : ItZ) : Prop :=
  RoomZ (fun i => lab i = 2 * it.key + 4) H it.v z it.cap it.cs ∧ it.cs.length = it.n * z ∧ pLen [it.v] = some (.int .i64 (it.n : Int)) ∧ it.cap < 9223372036854775808 ∧ OwnP (fun i => lab i = 2 * it.key + 5) H z it.w it.n it.cs
theorem ItZ.Ok.chg {z : Nat} {lab lab' : Nat → Nat} {Q : Nat → Prop} {H H' : Heap} {it : ItZ} (h : it.Ok z lab H) (hw : WF H) (hg : Chg Q H H') (hQ : ∀ i, i < H.size → Q i → lab i ≠ 2 * it.key + 4 ∧ lab i ≠ 2 * it.key + 5) (hl : ∀ i, i < H.size → lab' i = lab i) : it.Ok z lab' H' := by
  obtain ⟨a, b, c, d, e⟩ := h
  have tr : ∀ n, (n = 2 * it.key + 4 ∨ n = 2 * it.key + 5) → ∀ i, i < H.size → (i < H.size ∧ lab' i = n) → ¬ Q i := fun n hn i hi e q => by
    have := hQ i hi q
    have e2 := e.2
    rw [hl i hi] at e2
    rcases hn with hn | hn <;> omega
  have up : ∀ n i, i < H.size → lab i = n → (i < H.size ∧ lab' i = n) := fun n i hi e => ⟨hi, by rw [hl i hi]; exact e⟩
  exact ⟨((a.weaken hw (up _)).chg hw hg (tr _ (.inl rfl))).weaken hg.wf fun i _ h => h.2, b, c, d, ((e.weaken hw (up _)).chg hw hg (tr _ (.inr rfl))).weaken hg.wf fun i _ h => h.2⟩
def BookZ (z : Nat) (lab : Nat → Nat) (H : Heap) (K : Nat) (its : List ItZ) : Prop :=
  ∃ L W held, Bx H K [L, W, .int .i64 held, .bool false] ∧ lab K = 1 ∧ TailP (fun i => lab i = 2) H L (its.map ItZ.v) ∧ TailP (fun i => lab i = 3) H W (its.map ItZ.w) ∧ (its.map ItZ.key).Nodup ∧ ∀ it ∈ its, it.Ok z lab H
theorem BookZ.chg {z : Nat} {lab lab' : Nat → Nat} {Q : Nat → Prop} {H H' : Heap} {K : Nat} {its : List ItZ} (h : BookZ z lab H K its) (hw : WF H) (hg : Chg Q H H') (hQ : ∀ i, i < H.size → Q i → lab i = 0) (hl : ∀ i, i < H.size → lab' i = lab i) : BookZ z lab' H' K its := by
  obtain ⟨L, W, held, h1, h2, h3, h4, h5, h6⟩ := h
  have k1 := h1.lt hw
  have ne : ∀ n, 0 < n → ∀ i, i < H.size → lab i = n → ¬ Q i := fun n hn i hi e q => by have := hQ i hi q; omega
  have tr : ∀ n, 0 < n → ∀ i, i < H.size → (i < H.size ∧ lab' i = n) → ¬ Q i := fun n hn i hi e => ne n hn i hi (by rw [← hl i hi]; exact e.2)
  have up : ∀ n i, i < H.size → lab i = n → (i < H.size ∧ lab' i = n) := fun n i hi e => ⟨hi, by rw [hl i hi]; exact e⟩
  refine ⟨L, W, held, h1.chg hw hg (ne 1 (by omega) K k1 h2), by rw [hl K k1]; exact h2, ?_, ?_, h5, fun it hit => (h6 it hit).chg hw hg (fun i hi q => ?_) hl⟩
  · exact ((h3.weaken hw (up 2)).chg hw hg (tr 2 (by omega))).weaken hg.wf fun i _ h => h.2
  · exact ((h4.weaken hw (up 3)).chg hw hg (tr 3 (by omega))).weaken hg.wf fun i _ h => h.2
  · have := hQ i hi q; omega
theorem BookZ.new (z : Nat) (H : Heap) (lab : Nat → Nat) (hl : lab H.size = 1) : BookZ z lab (H.new [.nils, .nils, .int .i64 ((0 : Nat) : Int), .bool false] 4 true) H.size [] :=
  ⟨.nils, .nils, _, Bx.new _ _ _ _ (Nat.le_refl _), hl, TailP.nil _ _, TailP.nil _ _, by simp, fun it h => by simp at h⟩
end Go.Am

namespace Go.Am
set_option linter.unusedSimpArgs false
set_option linter.unusedVariables false
theorem TailP.scal {P : Nat → Prop} {H : Heap} {v : V} {vs : List V} (h : TailP P H v vs) : v.cells = [v] ∧ v.scal = true := by
  rcases h with ⟨rfl, _⟩ | ⟨id, off, e, all, room, fam, ver, pl, st, fr, rfl, _⟩ <;> exact ⟨rfl, rfl⟩
theorem TailP.push {P : Nat → Prop} {H : Heap} {bytes : Nat} {v : V} {vs : List V} (h : TailP P H v vs) (hw : WF H) (x zero : V) (hx : x.cells = [x]) (hs : x.scal = true)
    (h1 : (vs.length + 1) * bytes ≤ 140737488355328) (h2 : vs.length + 1 ≤ 140737488355328) (τ : Tape) :
    ∃ w H1 v' H', eBuildSlice 1 1 [zero] [(0, 1)] [x] H τ = some (w, H1, τ) ∧ eAppend 1 bytes [v, w] H1 τ = some (v', H', τ.tail) ∧ TailP (fun i => (i < H.size ∧ P i) ∨ H.size ≤ i) H' v' (vs ++ [x]) ∧ Chg P H H' ∧ (∀ id cs, H.cells? id = some cs → H'.cells? id = some cs) ∧ Gr H.size H H1 ∧ Chg P H1 H' := by
  have g1 := Gr.new hw [x] 1 false
  have o1 : TailP (fun i => i < H.size ∧ P i) (H.new [x] 1 false) v vs := by
    refine (h.weaken (Q := fun i => i < H.size ∧ P i) hw fun i hi hp => ⟨hi, hp⟩).chg hw (g1.chg (P := fun _ => False)) fun _ _ _ => not_false
  obtain ⟨v', H', r1, r2, r3, r4⟩ := o1.append (bytes := bytes) g1.wf x hs h1 h2 τ
  refine ⟨.sl H.size 0 1 1 none 1, H.new [x] 1 false, v', H', ?_, ?_, ?_, ?_, fun id cs hc => r4 id cs (g1.cells hw (Nat.le_refl _) hc), g1, r3.weaken fun i _ h => h.2⟩
  · simp only [eBuildSlice, fillC, hx]; rfl
  · have hl : (H.new [x] 1 false).loads H.size 0 (1 * 1) = some [x] := by
      have := loads_cells (n := 1) (off := 0) (cells_new H [x] 1 false) (by simp)
      simpa using this
    simp only [eAppend, srcLen, srcCells, Nat.beq_refl, cond_true, hl, r1]
  · refine r2.weaken r3.wf fun i _ hi => ?_
    rcases hi with ⟨_, h⟩ | h
    · exact .inl h
    · exact .inr (by have := g1.size; omega)
  · exact (g1.chg (P := P)).trans r3 fun i _ h => h.2
theorem RoomZ.copy {P : Nat → Prop} {H : Heap} {v : V} {z cap n : Nat} {l : List V} (h : RoomZ P H v z cap l) (hn : l.length = n * z) (hl : pLen [v] = some (.int .i64 (n : Int))) (hw : WF H) (bytes : Nat) (hs : l.all V.scal = true) (h1 : n * bytes ≤ 140737488355328) (h2 : n ≤ 140737488355328) (τ : Tape) :
    ∃ w H' τ', eAppend z bytes [.nils, v] H τ = some (w, H', τ') ∧ OwnP (fun i => H.size ≤ i) H' z w n l ∧ Gr H.size H H' := by
  obtain ⟨hr, hsr⟩ := h.rd hn hl
  obtain ⟨e1, e2⟩ := hr.loads hsr
  by_cases h0 : n = 0
  · subst h0
    have : l = [] := List.eq_nil_of_length_eq_zero (by omega)
    subst this
    refine ⟨.nils, H, τ, ?_, OwnP.nil _ _ _, Gr.refl hw⟩
    simp only [eAppend, e1, e2]
    rfl
  · obtain ⟨w, H', r1, r2, r3, _⟩ := (OwnP.nil (fun _ => False) H z).append (bytes := bytes) hw n l (by omega) hn hs (by rw [Nat.zero_add]; exact h1) (by omega) τ
    refine ⟨w, H', τ.tail, ?_, ?_, r3.gr (Nat.le_refl _) fun _ _ h => h⟩
    · simp only [eAppend, e1, e2]; exact r1
    · have := r2.weaken (Q := fun i => H.size ≤ i) r3.wf fun i _ h => by rcases h with ⟨_, h⟩ | h; exact h.elim; exact h
      simpa using this
end Go.Am

namespace Go.Am
set_option linter.unusedSimpArgs false
set_option linter.unusedVariables false
abbrev Lab := Nat → Nat × Nat
def selL (b : Nat) (L : Lab) : Nat → Nat := fun i => if (L i).1 = b then (L i).2 else 0
def labN (L : Lab) (n b m : Nat) : Lab := fun i => if n ≤ i then (b, m) else L i
theorem labN_lt (L : Lab) {n i : Nat} (b m : Nat) (h : i < n) : labN L n b m i = L i := if_neg (by omega)
theorem labN_ge (L : Lab) {n i : Nat} (b m : Nat) (h : n ≤ i) : labN L n b m i = (b, m) := if_pos h
theorem selL_eq {b : Nat} {L L' : Lab} {i : Nat} (h : L' i = L i) : selL b L' i = selL b L i := by unfold selL; rw [h]
theorem selL_ne {b : Nat} {L : Lab} {i : Nat} (h : selL b L i ≠ 0) : (L i).1 = b ∧ (L i).2 = selL b L i := by
  unfold selL at h ⊢
  split at h
  · rename_i e; rw [if_pos e]; exact ⟨e, rfl⟩
  · exact absurd rfl h
theorem selL_at {b m : Nat} {L : Lab} {i : Nat} (h : L i = (b, m)) : selL b L i = m := by unfold selL; rw [h]; simp
abbrev Of (L : Lab) (b : Nat) : Nat → Prop := fun i => (L i).1 = b ∧ (L i).2 ≠ 0
abbrev OfB (L : Lab) (b : Nat) : Nat → Prop := fun i => (L i).1 = b ∧ (L i).2 ≠ 0 ∧ (L i).2 ≤ 3
theorem BookZ.grL {z b : Nat} {L L' : Lab} {H H1 : Heap} {K : Nat} {its : List ItZ} (h : BookZ z (selL b L) H K its) (hw : WF H) (g : Gr H.size H H1) (hl : ∀ i, i < H.size → L' i = L i) : BookZ z (selL b L') H1 K its :=
  h.chg hw (g.chg (P := fun _ => False)) (fun _ _ q => q.elim) fun i hi => selL_eq (hl i hi)
theorem BookZ.other {z b b' : Nat} {L L' : Lab} {H H1 : Heap} {K : Nat} {its : List ItZ} (h : BookZ z (selL b L) H K its) (hw : WF H) (hne : b ≠ b') (g : Chg (Of L b') H H1) (hl : ∀ i, i < H.size → L' i = L i) : BookZ z (selL b L') H1 K its :=
  h.chg hw g (fun i _ q => by unfold selL; rw [if_neg (by rw [q.1]; exact Ne.symm hne)]) fun i hi => selL_eq (hl i hi)
def LstZ (L : Lab) (b key : Nat) (H : Heap) (v : V) (z cap n : Nat) (cs : List V) : Prop :=
  RoomZ (fun i => L i = (b, 2 * key + 4)) H v z cap cs ∧ cs.length = n * z ∧ pLen [v] = some (.int .i64 (n : Int)) ∧ cap < 9223372036854775808
theorem LstZ.chg {L L' : Lab} {b key : Nat} {Q : Nat → Prop} {H H1 : Heap} {v : V} {z cap n : Nat} {cs : List V} (h : LstZ L b key H v z cap n cs) (hw : WF H) (g : Chg Q H H1) (hQ : ∀ i, i < H.size → L i = (b, 2 * key + 4) → ¬ Q i) (hl : ∀ i, i < H.size → L' i = L i) : LstZ L' b key H1 v z cap n cs := by
  obtain ⟨a, c⟩ := h
  refine ⟨?_, c⟩
  have := (a.weaken (Q := fun i => i < H.size ∧ L' i = (b, 2 * key + 4)) hw fun i hi e => ⟨hi, by rw [hl i hi]; exact e⟩).chg hw g fun i hi e => hQ i hi (by rw [← hl i hi]; exact e.2)
  exact this.weaken g.wf fun i _ e => e.2
theorem LstZ.grL {L L' : Lab} {b key : Nat} {H H1 : Heap} {v : V} {z cap n : Nat} {cs : List V} (h : LstZ L b key H v z cap n cs) (hw : WF H) (g : Gr H.size H H1) (hl : ∀ i, i < H.size → L' i = L i) : LstZ L' b key H1 v z cap n cs :=
  h.chg hw (g.chg (P := fun _ => False)) (fun _ _ _ => not_false) hl
theorem LstZ.kept {L L' : Lab} {b b' key : Nat} {H H1 : Heap} {v : V} {z cap n : Nat} {cs : List V} (h : LstZ L b key H v z cap n cs) (hw : WF H) (g : Chg (OfB L b') H H1) (hl : ∀ i, i < H.size → L' i = L i) : LstZ L' b key H1 v z cap n cs :=
  h.chg hw g (fun i _ e q => by have := q.2.2; rw [e] at this; simp only at this; omega) hl
theorem LstZ.new {H H1 : Heap} {v : V} {z cap n : Nat} {cs : List V} (h : RoomZ (fun i => H.size ≤ i) H1 v z cap cs) (hw : WF H1) (hn : cs.length = n * z) (hp : pLen [v] = some (.int .i64 (n : Int))) (hc : cap < 9223372036854775808) (L : Lab) (b key : Nat) : LstZ (labN L H.size b (2 * key + 4)) b key H1 v z cap n cs :=
  ⟨h.weaken hw fun i _ e => labN_ge L _ _ e, hn, hp, hc⟩
theorem LstZ.rd {L : Lab} {b key : Nat} {H : Heap} {v : V} {z cap n : Nat} {cs : List V} (h : LstZ L b key H v z cap n cs) : Rd H z v n cs ∧ Src H v := h.1.rd h.2.1 h.2.2.1
def KeepZ (c : CallK) (f z : Nat) (Good : List V → Nat → Prop) : Prop :=
  ∀ (L : Lab) (b K : Nat) (its : List ItZ) (H : Heap) (x : V) (cap n : Nat) (cs : List V) (key : Nat), WF H → BookZ z (selL b L) H K its → key ∉ its.map ItZ.key → LstZ L b key H x z cap n cs → cs.all V.scal = true → n < 1000000000 → its.length + 1 < 1000000 →
    (∀ it ∈ its, Good it.cs it.n) → Good cs n → ∀ τ, ∃ its' H' τ' L', BookZ z (selL b L') H' K its' ∧ (∀ it ∈ its', it ∈ its ∨ (it.key = key ∧ it.cs = cs ∧ it.n = n)) ∧ its'.length ≤ its.length + 1 ∧ Chg (OfB L b) H H' ∧ (∀ i, i < H.size → L' i = L i) ∧ ∀ q, c f [.ptr K 0, x] H τ q = q (.tup []) H' τ'
theorem KeepZ.mk {c : CallK} {f z : Nat} {Good : List V → Nat → Prop}
    (h : ∀ (lab : Nat → Nat) (H : Heap), WF H → ∀ (K : Nat) (its : List ItZ), BookZ z lab H K its → ∀ (x : V) (cap n : Nat) (cs : List V) (key : Nat), key ∉ its.map ItZ.key → RoomZ (fun i => lab i = 2 * key + 4) H x z cap cs → cs.length = n * z → pLen [x] = some (.int .i64 (n : Int)) → cap < 9223372036854775808 → cs.all V.scal = true → n < 1000000000 → its.length + 1 < 1000000 →
      (∀ it ∈ its, Good it.cs it.n) → Good cs n → ∀ τ, ∃ its' H' τ' lab', BookZ z lab' H' K its' ∧ ((∀ it ∈ its', it ∈ its ∨ (it.key = key ∧ it.cs = cs ∧ it.n = n)) ∧ its'.length ≤ its.length + 1) ∧ Chg (fun i => lab i = 1 ∨ lab i = 2 ∨ lab i = 3) H H' ∧ (∀ i, i < H.size → lab' i = lab i) ∧ ∀ q, c f [.ptr K 0, x] H τ q = q (.tup []) H' τ') : KeepZ c f z Good := by
  intro L b K its H x cap n cs key hw hb hk hx hs hn hits hg hg' τ
  obtain ⟨x1, x2, x3, x4⟩ := hx
  obtain ⟨its', H', τ', lab', h1, h2, h3, h4, h5⟩ := h (selL b L) H hw K its hb x cap n cs key hk (x1.weaken hw fun i _ e => selL_at e) x2 x3 x4 hs hn hits hg hg' τ
  have e : selL b (fun i => if i < H.size then L i else (b, lab' i)) = lab' := by
    funext i
    by_cases hi : i < H.size
    · rw [h4 i hi]; unfold selL; simp [hi]
    · unfold selL; simp [hi]
  refine ⟨its', H', τ', fun i => if i < H.size then L i else (b, lab' i), by rw [e]; exact h1, h2.1, h2.2, h3.weaken fun i _ q => ?_, fun i hi => if_pos hi, h5⟩
  have hne : selL b L i ≠ 0 := by omega
  obtain ⟨a1, a2⟩ := selL_ne hne
  exact ⟨a1, by omega, by omega⟩
def ApartZ (c : CallK) (f z fm : Nat) (Good : List V → Nat → Prop) : Prop :=
  ∀ (L : Lab) (b K : Nat) (its : List ItZ) (H : Heap), WF H → BookZ z (selL b L) H K its → its.length < 1000000 → (∀ it ∈ its, Good it.cs it.n) → ∀ τ, ∃ H' τ', Chg (Of L b) H H' ∧ ∀ q, c f [.ptr K 0, .func fm [] []] H τ q = q (.bool true) H' τ'
theorem ApartZ.mk {c : CallK} {f z fm : Nat} {Good : List V → Nat → Prop}
    (h : ∀ (lab : Nat → Nat) (K : Nat) (its : List ItZ), its.length < 1000000 → (∀ it ∈ its, Good it.cs it.n) → ∀ H, WF H → BookZ z lab H K its → ∀ τ, ∃ H' τ', Chg (fun i => lab i ≠ 0) H H' ∧ ∀ q, c f [.ptr K 0, .func fm [] []] H τ q = q (.bool true) H' τ') : ApartZ c f z fm Good := by
  intro L b K its H hw hb hl hg τ
  obtain ⟨H', τ', h1, h2⟩ := h (selL b L) K its hl hg H hw hb τ
  exact ⟨H', τ', h1.weaken fun i _ q => ⟨(selL_ne q).1, by rw [(selL_ne q).2]; exact q⟩, h2⟩
theorem BookZ.newL (z b : Nat) (H : Heap) (L : Lab) : BookZ z (selL b (labN L H.size b 1)) (H.new [.nils, .nils, .int .i64 ((0 : Nat) : Int), .bool false] 4 true) H.size [] :=
  BookZ.new z H _ (selL_at (labN_ge L _ _ (Nat.le_refl _)))
theorem outK_hand {c : CallK} {f : Nat} {R : List V → Heap → Out → Prop} (hc : ∀ vs H τ q, c f vs H τ q = effK (outP R vs H τ) q) (hf : Fun1 R) {vs : List V} {H : Heap} {z n : Nat} {cs : List V} {mk : V → V} (h : R vs H (.lst z n cs mk) ∨ (R vs H (.val (mk .nils)) ∧ n = 0 ∧ cs = [])) (hw : WF H) (hlen : cs.length = n * z) (hn : n ≤ 140737488355328) (L : Lab) (b key : Nat) (τ : Tape) :
    ∃ lv cap H' τ', LstZ (labN L H.size b (2 * key + 4)) b key H' lv z cap n cs ∧ Gr H.size H H' ∧ ∀ q, c f vs H τ q = q (mk lv) H' τ' := by
  rcases h with h | ⟨h, rfl, rfl⟩
  · refine ⟨.sl H.size 0 n n (some (spare n (τ 0))) z, n + spare n (τ 0), H.new cs ((n + spare n (τ 0)) * z) false, τ.tail, LstZ.new (.inr ⟨H.size, 0, n, n, some (spare n (τ 0)), cs, (n + spare n (τ 0)) * z, H.size, 0, false, 0, 0, rfl, rfl, T.get_set_same _ _ _, T.get_set_same _ _ _, Nat.le_refl _, Nat.le_refl _, Nat.le_refl _, by omega, by rw [List.drop_zero, List.take_length], .inr (by simp), ?_⟩) (Gr.new hw _ _ _).wf hlen rfl (spare_lt hn) L b key, Gr.new hw _ _ _, fun q => ?_⟩
    · rw [hlen]; exact Nat.mul_le_mul_right _ (by omega)
    · rw [hc, outP_mk hf h]; rfl
  · exact ⟨.nils, 0, H, τ, ⟨.inl ⟨rfl, rfl, rfl⟩, by simp, rfl, by omega⟩, Gr.refl hw, fun q => outK_val hc hf h τ q⟩
theorem LstZ.mono {L : Lab} {b key : Nat} {H H1 : Heap} {v : V} {z cap n : Nat} {cs : List V} (h : LstZ L b key H v z cap n cs) (hw : WF H) (b' m : Nat) (g : Gr H.size H H1) : LstZ (labN L H.size b' m) b key H1 v z cap n cs := h.grL hw g fun i hi => labN_lt L _ _ hi
theorem BookZ.mono {z b : Nat} {L : Lab} {H H1 : Heap} {K : Nat} {its : List ItZ} (h : BookZ z (selL b L) H K its) (hw : WF H) (b' m : Nat) (g : Gr H.size H H1) : BookZ z (selL b (labN L H.size b' m)) H1 K its := h.grL hw g fun i hi => labN_lt L _ _ hi
theorem OfB.of {L : Lab} {b : Nat} {H H1 : Heap} (h : Chg (OfB L b) H H1) : Chg (Of L b) H H1 := h.weaken fun i _ q => ⟨q.1, q.2.1⟩
theorem Of.gr {L : Lab} {b B : Nat} {H H1 : Heap} (h : Chg (Of L b) H H1) (hB : B ≤ H.size) (hL : ∀ i, i < B → L i = (0, 0)) : Gr B H H1 := h.gr hB fun i hi q => by
  have q : (L i).1 = b ∧ (L i).2 ≠ 0 := q
  rw [hL i hi] at q
  exact q.2 rfl
end Go.Am

