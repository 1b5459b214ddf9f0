/- The abstract machine, printed functions of the program, and what they are shown to be. -/
import Derived.Sort.Row
import Derived.Sort.Grow
import Derived.Sort.EncStr
import Derived.Lib.Slices
import Derived.Lib.SlicesCompact
import Derived.Test.YthdglgbbkhiaaaaGreatDoorCNUM3
import Derived.JoinedOf
namespace Go.Am
set_option linter.unusedSimpArgs false
set_option linter.unusedVariables false
open Go.Sort (putRow grow Holds mapBlock putCells onCells heap_ahead)
open Go.Proofs (encStr)
abbrev Bel := @Go.RowKit.Below
theorem overA_get (vs : List Value) : ∀ (c : Array Value) (k j : Nat), k + vs.length ≤ c.size → (overA c k vs)[j]? = if k ≤ j ∧ j < k + vs.length then vs[j - k]? else c[j]? := by
  induction vs with
  | nil => intro c k j _; simp [overA]; omega
  | cons v vs ih =>
    intro c k j h
    simp only [List.length_cons] at h
    rw [overA, ih _ _ _ (by simp; omega)]
    by_cases h1 : k + 1 ≤ j ∧ j < k + 1 + vs.length
    · rw [if_pos h1, if_pos (by simp only [List.length_cons]; omega), show j - k = (j - (k + 1)) + 1 by omega, List.getElem?_cons_succ]
    · rw [if_neg h1, Array.getElem?_setIfInBounds]
      by_cases h2 : k = j
      · subst h2
        rw [if_pos rfl, if_pos (by omega), if_pos (by simp)]
        simp
      · rw [if_neg h2, if_neg (by simp only [List.length_cons]; omega)]
theorem putRow_eq {w : World} {b o : Nat} {c : Array Value} {el : TypeId} {fz : Nat × Nat} (h : w.heap[b]? = some (.cells c el fz)) (d : List (List UInt8)) (hl : o + d.length ≤ c.size) :
    putRow encStr w b o d.toArray = setBlk w b (.cells (overA c o (d.map encStr)) el fz) := by
  have hb : b < w.heap.size := (Array.getElem?_eq_some_iff.1 h).1
  have hc : putCells encStr o d.toArray c = overA c o (d.map encStr) := by
    apply Array.ext_getElem?
    intro j
    rw [overA_get _ _ _ _ (by rw [List.length_map]; exact hl)]
    unfold putCells
    rw [Array.getElem?_mapIdx]
    by_cases hj : o ≤ j ∧ j < o + d.length
    · rw [if_pos (by rw [List.length_map]; exact hj)]
      have hjc : j < c.size := by omega
      rw [Array.getElem?_eq_getElem hjc, Option.map_some, if_pos (by simpa using hj)]
      have hjd : j - o < d.length := by omega
      rw [List.getElem?_map, List.getElem?_eq_getElem hjd]
      simp [hjd]
    · rw [if_neg (by rw [List.length_map]; exact hj)]
      cases hcj : c[j]? with
      | none => rfl
      | some x => rw [Option.map_some, if_neg (by simpa using hj)]
  unfold putRow mapBlock setBlk
  congr 1
  apply Array.ext_getElem?
  intro k
  rw [Array.getElem?_modify, Array.getElem?_setIfInBounds]
  by_cases hk : b = k
  · subst hk
    rw [if_pos rfl, if_pos rfl, if_pos hb, h, Option.map_some]
    simp only [onCells, hc]
  · rw [if_neg hk, if_neg hk]
theorem frozen_no {w : World} {b o : Nat} {c : Array Value} {el : TypeId} {lo hi : Nat} (h : w.heap[b]? = some (.cells c el (lo, hi))) (hf : lo = hi ∨ c.size ≤ lo) (ho : o < c.size) : w.frozen? ⟨b, o, none⟩ = false := by
  unfold World.frozen?
  simp only [h]
  rcases hf with rfl | hf
  · simp; try omega
  · simp; try omega
theorem MRel.putRow {ι : Inj} {base : Base} {w0 w : World} {H H' : Heap} (hM : MRel ι base w0 H w) {id off : Nat} {ss : List (List UInt8)} (hne : ss ≠ []) (h : H.stores id off (ss.map V.str) = some H') :
    (ι id).1 < w.heap.size ∧ (∀ j, j < ss.length → w.frozen? ⟨(ι id).1, (ι id).2 + off + j, none⟩ = false) ∧ MRel ι base w0 H' (Go.Sort.putRow encStr w (ι id).1 ((ι id).2 + off) ss.toArray) ∧ Evol H H' := by
  unfold Heap.stores at h
  split at h
  · rename_i he
    exact absurd (List.map_eq_nil_iff.1 he) hne
  · rename_i hne'
    have hs : (ss.map V.str).all V.scal = true := by simp [V.scal]
    rw [hs, cond_true] at h
    obtain ⟨cs, room, fam, ver, pl, st, fr, cs', hg, hf, hle, hov, rfl⟩ := write_inv h
    have hr : H.room? id = room := by simp only [Heap.room?, hg]
    rw [hr] at hov
    have hvs : VsOk H (ss.map V.str) := by
      rw [VsOk_iff]; intro v hv; obtain ⟨s, _, rfl⟩ := List.mem_map.1 hv; trivial
    obtain ⟨c, el, lo, hi, h1, h2, h3, h4, h5⟩ := hM.write hg hf hle off (ss.map V.str) cs' (fun e => hne' e) hov hvs
    rw [List.length_map] at h2
    have ec : cvl ι (ss.map V.str) = ss.map encStr := by rw [cvl_eq, List.map_map]; rfl
    rw [ec] at h4
    refine ⟨(Array.getElem?_eq_some_iff.1 h1).1, fun j hj => frozen_no h1 h3 (by omega), ?_, h5⟩
    rw [putRow_eq h1 ss h2]
    exact h4
theorem below_grown (w : World) (n : Nat) (os : Array Obj) : Bel w.heap.size w (grow (Go.Sort.ahead w n) os) :=
  ⟨rfl, rfl, rfl, by simp, fun k hk => by
    show (w.heap ++ os)[k]? = w.heap[k]?
    rw [Array.getElem?_append_left hk]⟩
def sorted (ss : List (List UInt8)) : List (List UInt8) := ss.mergeSort fun x y => decide (x ≤ y)
def sortP (vs : List V) (H : Heap) (τ : Tape) : Option (V × Heap × Tape) :=
  match vs with
  | [.nils] => some (.tup [], H, τ)
  | [.sl id off len _ _ z] => bif Nat.beq z 1 && Nat.blt len 4611686018427387904 then
      match len with
      | 0 => some (.tup [], H, τ)
      | len => match H.loads id off len with
        | some cs => match strsOf cs with
          | some ss => match H.stores id off ((sorted ss).map V.str) with
            | some H' => some (.tup [], H', τ)
            | none => none
          | none => none
        | none => none
    else none
  | _ => none
theorem sortP_ev : PrimEv sortP := by
  intro vs H τ v H' τ' h
  simp only [sortP, Bool.cond_eq_ite] at h
  (repeat' split at h) <;> first
    | (cases h; done)
    | (simp only [Option.some.injEq, Prod.mk.injEq] at h; obtain ⟨_, rfl, _⟩ := h; first | exact Ev.refl _ | exact ev_stores (by assumption))
theorem primOk_sort {P : Program} {f : FuncId} (hp : plainCall P f = true)
    (h0 : ∀ (p : Option Addr) (cap : Nat) (w : World), Calls P f #[.slice p 0 cap] w fun e w' => e = .returned (.tuple #[]) ∧ w' = w)
    (h : ∀ (blk off cap : Nat) (ss : List (List UInt8)) (w : World), Holds encStr w blk off ss.toArray → blk < w.heap.size → ss.length < 4611686018427387904 →
      Calls P f #[.slice (some ⟨blk, off, none⟩) ss.length cap] w fun e w' => e = .returned (.tuple #[]) ∧ ∃ n os, w' = grow (putRow encStr (Go.Sort.ahead w n) blk off (ss.mergeSort fun x y => decide (x ≤ y)).toArray) os) (base : Base) (w0 : World) : PrimOk P base w0 f sortP := by
  refine ⟨sortP_ev, fun vs H ι w hM hG hok hn0 => ⟨hp, ?_⟩⟩
  have hn := hn0 (fun _ => 0)
  unfold sortP at hn
  split at hn
  · refine (h0 none 0 w).mono fun e w' ⟨he, hw⟩ => ?_
    subst hw
    exact ⟨.tup [], H, ι, [], by rw [he]; rfl, fun τ => rfl, hM, Ext.refl _ _, Evol.refl _, trivial⟩
  · rename_i id off len lo ex z
    cases hz : (Nat.beq z 1 && Nat.blt len 4611686018427387904) with
    | false => rw [hz, cond_false] at hn; exact absurd rfl hn
    | true =>
      rw [hz, cond_true] at hn
      cases len with
      | zero =>
        refine (h0 (some ⟨(ι id).1, (ι id).2 + off, none⟩) (lo + ex.getD 0) w).mono fun e w' ⟨he, hw⟩ => ?_
        subst hw
        exact ⟨.tup [], H, ι, [], by rw [he]; rfl, fun τ => by simp only [sortP, Tape.app, hz, cond_true], hM, Ext.refl _ _, Evol.refl _, trivial⟩
      | succ m =>
        simp only at hn
        split at hn
        · rename_i cs hcs
          split at hn
          · rename_i ss hss
            split at hn
            · rename_i H' hst
              obtain ⟨k1, k2, k3, k4⟩ := MRel.loads (P := P) hM hcs
              have hcs' := strsOf_spec _ _ hss
              have hlen : ss.length = m + 1 := by rw [← k2, hcs']; simp
              have hne : sorted ss ≠ [] := by
                intro e
                have := congrArg List.length e
                unfold sorted at this
                rw [List.length_mergeSort] at this
                rw [hlen] at this; simp at this
              have hsl : (sorted ss).length = ss.length := List.length_mergeSort _
              obtain ⟨p1, p2, p3, p4⟩ := hM.putRow hne hst
              have hH : Holds encStr w (ι id).1 ((ι id).2 + off) ss.toArray := by
                intro j hj
                have hj' : j < ss.length := by simpa using hj
                refine ⟨?_, p2 j (by omega)⟩
                have := k3 j (.str ss[j]) (by rw [hcs', List.getElem?_map, List.getElem?_eq_getElem hj']; rfl)
                rw [this]
                simp [cv, encStr, hj']
              have hlt : ss.length < 4611686018427387904 := by
                simp only [Bool.and_eq_true] at hz
                have := hz.2
                simp [Nat.blt] at this
                omega
              have hc := h (ι id).1 ((ι id).2 + off) (lo + ex.getD 0) ss w hH p1 hlt
              rw [hlen] at hc
              refine hc.mono fun e w' ⟨he, n, os, hw⟩ => ?_
              have hans : ∀ τ, sortP [.sl id off (m + 1) lo ex z] H τ = some (.tup [], H', τ) := fun τ => by
                simp only [sortP, hz, cond_true, hcs, hss, hst]
              refine ⟨.tup [], H', ι, [], by rw [he]; rfl, hans, ?_, Ext.refl _ _, p4, trivial⟩
              have hw2 : w' = grow (Go.Sort.ahead (putRow encStr w (ι id).1 ((ι id).2 + off) (sorted ss).toArray) n) os := hw
              rw [hw2]
              exact p3.keep (below_grown _ _ _)
            · exact absurd rfl hn
          · exact absurd rfl hn
        · exact absurd rfl hn
  · exact absurd rfl hn
def compL (ss : List (List UInt8)) : List (List UInt8) := Lib.compact ss
def compactP (vs : List V) (H : Heap) (τ : Tape) : Option (V × Heap × Tape) :=
  match vs with
  | [.nils] => some (.nils, H, τ)
  | [.sl id off len lo ex z] => bif Nat.beq z 1 && Nat.ble len 9223372036854775807 then
      match len with
      | 0 => some (.sl id off 0 lo ex z, H, τ)
      | len => match H.loads id off len with
        | some cs => match strsOf cs with
          | some ss => match H.stores id off ((compL ss ++ List.replicate (ss.length - (compL ss).length) []).map V.str) with
            | some H' => some (.sl id off (compL ss).length lo ex z, H', τ)
            | none => none
          | none => none
        | none => none
    else none
  | _ => none
theorem compL_le (ss : List (List UInt8)) : (compL ss).length ≤ ss.length := by
  unfold compL Lib.compact Lib.compactUpTo
  rw [List.length_map]
  exact Nat.le_trans (List.length_filter_le _ _) (by simp)
theorem compactP_ev : PrimEv compactP := by
  intro vs H τ v H' τ' h
  simp only [compactP, Bool.cond_eq_ite] at h
  (repeat' split at h) <;> first
    | (cases h; done)
    | (simp only [Option.some.injEq, Prod.mk.injEq] at h; obtain ⟨_, rfl, _⟩ := h; first | exact Ev.refl _ | exact ev_stores (by assumption))
theorem primOk_compact {P : Program} {f : FuncId} (hp : plainCall P f = true)
    (h0 : ∀ (a : Option Addr) (cap : Nat) (w : World), Calls P f #[.slice a 0 cap] w fun e w' => e = .returned (.slice a 0 cap) ∧ w' = w)
    (h : ∀ (blk off cap : Nat) (zs : List (List UInt8)) (w : World), Holds encStr w blk off zs.toArray → zs.length ≤ 9223372036854775807 → zs.length ≤ cap →
      Calls P f #[.slice (some ⟨blk, off, none⟩) zs.length cap] w fun e w' => e = .returned (.slice (some ⟨blk, off, none⟩) (Lib.compact zs).length cap) ∧ ∃ q, w' = putRow encStr (Go.Sort.ahead w q) blk off (Lib.compact zs ++ List.replicate (zs.length - (Lib.compact zs).length) []).toArray) (base : Base) (w0 : World) : PrimOk P base w0 f compactP := by
  refine ⟨compactP_ev, fun vs H ι w hM hG hok hn0 => ⟨hp, ?_⟩⟩
  have hn := hn0 (fun _ => 0)
  unfold compactP at hn
  split at hn
  · refine (h0 none 0 w).mono fun e w' ⟨he, hw⟩ => ?_
    subst hw
    exact ⟨.nils, H, ι, [], by rw [he]; rfl, fun τ => rfl, hM, Ext.refl _ _, Evol.refl _, trivial⟩
  · rename_i id off len lo ex z
    cases hz : (Nat.beq z 1 && Nat.ble len 9223372036854775807) with
    | false => rw [hz, cond_false] at hn; exact absurd rfl hn
    | true =>
      rw [hz, cond_true] at hn
      have hvok := hok.1
      cases len with
      | zero =>
        refine (h0 (some ⟨(ι id).1, (ι id).2 + off, none⟩) (lo + ex.getD 0) w).mono fun e w' ⟨he, hw⟩ => ?_
        subst hw
        exact ⟨.sl id off 0 lo ex z, H, ι, [], by rw [he]; rfl, fun τ => by simp only [compactP, Tape.app, hz, cond_true], hM, Ext.refl _ _, Evol.refl _, hvok⟩
      | succ m =>
        simp only at hn
        split at hn
        · rename_i cs hcs
          split at hn
          · rename_i ss hss
            split at hn
            · rename_i H' hst
              obtain ⟨k1, k2, k3, k4⟩ := MRel.loads (P := P) hM hcs
              have hcs' := strsOf_spec _ _ hss
              have hlen : ss.length = m + 1 := by rw [← k2, hcs']; simp
              have hcl := compL_le ss
              have hsl : (compL ss ++ List.replicate (ss.length - (compL ss).length) []).length = ss.length := by
                rw [List.length_append, List.length_replicate]; omega
              have hne : compL ss ++ List.replicate (ss.length - (compL ss).length) [] ≠ [] := by
                intro e
                have := congrArg List.length e
                rw [hsl, hlen] at this; simp at this
              obtain ⟨p1, p2, p3, p4⟩ := hM.putRow hne hst
              have hH : Holds encStr w (ι id).1 ((ι id).2 + off) ss.toArray := by
                intro j hj
                have hj' : j < ss.length := by simpa using hj
                refine ⟨?_, p2 j (by omega)⟩
                have := k3 j (.str ss[j]) (by rw [hcs', List.getElem?_map, List.getElem?_eq_getElem hj']; rfl)
                rw [this]
                simp [cv, encStr, hj']
              have hle : ss.length ≤ 9223372036854775807 := by
                simp only [Bool.and_eq_true] at hz
                have := hz.2
                simp at this
                omega
              have hcap : m + 1 ≤ lo + ex.getD 0 := hvok.2.1
              have hc := h (ι id).1 ((ι id).2 + off) (lo + ex.getD 0) ss w hH hle (by omega)
              rw [hlen] at hc
              refine hc.mono fun e w' ⟨he, q, hw⟩ => ?_
              have hans : ∀ τ, compactP [.sl id off (m + 1) lo ex z] H τ = some (.sl id off (compL ss).length lo ex z, H', τ) := fun τ => by
                simp only [compactP, hz, cond_true, hcs, hss, hst]
              refine ⟨.sl id off (compL ss).length lo ex z, H', ι, [], by rw [he]; rfl, hans, ?_, Ext.refl _ _, p4, ?_⟩
              · have hw2 : w' = grow (Go.Sort.ahead (putRow encStr w (ι id).1 ((ι id).2 + off) (compL ss ++ List.replicate (ss.length - (compL ss).length) []).toArray) q) #[] := by
                  rw [hw, hlen]; simp [compL]; rfl
                rw [hw2]
                exact p3.keep (below_grown _ _ _)
              · have e1 := p4.room id hvok.1
                refine ⟨Nat.lt_of_lt_of_le hvok.1 p4.size, by have := hvok.2.1; omega, fun hx => ?_⟩
                rw [e1]; exact hvok.2.2 hx
            · exact absurd rfl hn
          · exact absurd rfl hn
        · exact absurd rfl hn
  · exact absurd rfl hn
end Go.Am

namespace Go.Am
set_option linter.unusedSimpArgs false
set_option linter.unusedVariables false
def RoomZ (P : Nat → Prop) (H : Heap) (v : V) (z cap : Nat) (l : List V) : Prop :=
  (v = .nils ∧ cap = 0 ∧ l = []) ∨ ∃ id off len lo ex all room fam ver pl st fr, v = .sl id off len lo ex z ∧ cap = lo + ex.getD 0 ∧ H.blk.get id = some (.mem all room fam ver true pl st) ∧ H.fams.get fam = some (fr, ver) ∧ fr ≤ ver ∧ P id ∧ P fam ∧
    off + l.length ≤ all.length ∧ (all.drop off).take l.length = l ∧ (off + cap * z ≤ all.length ∨ off + cap * z ≤ room) ∧ l.length ≤ cap * z
theorem RoomZ.chg {P Q : Nat → Prop} {H H' : Heap} {v : V} {z cap : Nat} {l : List V} (h : RoomZ P H v z cap l) (hw : WF H) (hg : Chg Q H H') (hPQ : ∀ i, i < H.size → P i → ¬ Q i) : RoomZ P H' v z cap l := by
  rcases h with h | ⟨id, off, len, lo, ex, all, room, fam, ver, pl, st, fr, h1, h2, h3, h4, h5, h6, h7, h8, h9, h10, h11⟩
  · exact .inl h
  · have a := hw.blk _ _ h3
    have b := hw.fams _ _ h4
    exact .inr ⟨id, off, len, lo, ex, all, room, fam, ver, pl, st, fr, h1, h2, by rw [hg.blk id a (hPQ _ a h6)]; exact h3, by rw [hg.fams fam b (hPQ _ b h7)]; exact h4, h5, h6, h7, h8, h9, h10, h11⟩
theorem RoomZ.weaken {P Q : Nat → Prop} {H : Heap} {v : V} {z cap : Nat} {l : List V} (h : RoomZ P H v z cap l) (hw : WF H) (hPQ : ∀ i, i < H.size → P i → Q i) : RoomZ Q H v z cap l := by
  rcases h with h | ⟨id, off, len, lo, ex, all, room, fam, ver, pl, st, fr, h1, h2, h3, h4, h5, h6, h7, h8, h9, h10, h11⟩
  · exact .inl h
  · exact .inr ⟨id, off, len, lo, ex, all, room, fam, ver, pl, st, fr, h1, h2, h3, h4, h5, hPQ _ (hw.blk _ _ h3) h6, hPQ _ (hw.fams _ _ h4) h7, h8, h9, h10, h11⟩
theorem RoomZ.take {P : Nat → Prop} {H : Heap} {v : V} {z cap : Nat} {l : List V} (h : RoomZ P H v z cap l) (j : Nat) : RoomZ P H v z cap (l.take j) := by
  rcases h with ⟨h1, h2, h3⟩ | ⟨id, off, len, lo, ex, all, room, fam, ver, pl, st, fr, h1, h2, h3, h4, h5, h6, h7, h8, h9, h10, h11⟩
  · subst h3; exact .inl ⟨h1, h2, by simp⟩
  · refine .inr ⟨id, off, len, lo, ex, all, room, fam, ver, pl, st, fr, h1, h2, h3, h4, h5, h6, h7, ?_, ?_, h10, ?_⟩
    · rw [List.length_take]; omega
    · conv => rhs; rw [← h9]
      rw [List.take_take, List.length_take]
    · rw [List.length_take]; omega
theorem RoomZ.scal {P : Nat → Prop} {H : Heap} {v : V} {z cap : Nat} {l : List V} (h : RoomZ P H v z cap l) : v.cells = [v] ∧ v.scal = true := by
  rcases h with ⟨rfl, _⟩ | ⟨id, off, len, lo, ex, all, room, fam, ver, pl, st, fr, rfl, _⟩ <;> exact ⟨rfl, rfl⟩
end Go.Am

namespace Go.Am
set_option linter.unusedSimpArgs false
set_option linter.unusedVariables false
def TailP (P : Nat → Prop) (H : Heap) (v : V) (vs : List V) : Prop :=
  (v = .nils ∧ vs = []) ∨ ∃ id off e all room fam ver pl st fr, v = .sl id off vs.length vs.length (some e) 1 ∧ H.blk.get id = some (.mem all room fam ver true pl st) ∧ H.fams.get fam = some (fr, ver) ∧ fr ≤ ver ∧ P id ∧ P fam ∧ all.length = off + vs.length ∧ all.drop off = vs
theorem TailP.nil (P : Nat → Prop) (H : Heap) : TailP P H .nils [] := .inl ⟨rfl, rfl⟩
theorem TailP.chg {P Q : Nat → Prop} {H H' : Heap} {v : V} {vs : List V} (h : TailP P H v vs) (hw : WF H) (hg : Chg Q H H') (hPQ : ∀ i, i < H.size → P i → ¬ Q i) : TailP P H' v vs := by
  rcases h with h | ⟨id, off, e, all, room, fam, ver, pl, st, fr, h1, h2, h3, h4, h5, h6, h7⟩
  · exact .inl h
  · have a := hw.blk _ _ h2
    have b := hw.fams _ _ h3
    exact .inr ⟨id, off, e, all, room, fam, ver, pl, st, fr, h1, by rw [hg.blk id a (hPQ _ a h5)]; exact h2, by rw [hg.fams fam b (hPQ _ b h6)]; exact h3, h4, h5, h6, h7⟩
theorem TailP.weaken {P Q : Nat → Prop} {H : Heap} {v : V} {vs : List V} (h : TailP P H v vs) (hw : WF H) (hPQ : ∀ i, i < H.size → P i → Q i) : TailP Q H v vs := by
  rcases h with h | ⟨id, off, e, all, room, fam, ver, pl, st, fr, h1, h2, h3, h4, h5, h6, h7⟩
  · exact .inl h
  · exact .inr ⟨id, off, e, all, room, fam, ver, pl, st, fr, h1, h2, h3, h4, hPQ _ (hw.blk _ _ h2) h5, hPQ _ (hw.fams _ _ h3) h6, h7⟩
theorem TailP.cells {H : Heap} {P : Nat → Prop} {id off e m : Nat} {vs : List V} (h : TailP P H (.sl id off m m (some e) 1) vs) : ∃ all, H.cells? id = some all ∧ all.length = off + vs.length ∧ all.drop off = vs ∧ m = vs.length := by
  rcases h with ⟨h, _⟩ | ⟨id', off', e', all, room, fam, ver, pl, st, fr, h1, h2, h3, h4, h5, h6, h7, h8⟩
  · cases h
  · cases h1
    refine ⟨all, ?_, h7, h8, rfl⟩
    simp only [Heap.cells?, h2, h3]
    rw [show Nat.ble fr ver = true from Nat.ble_eq_true_of_le h4]
    rfl
theorem TailP.append {P : Nat → Prop} {H : Heap} {bytes : Nat} {v : V} {vs : List V} (h : TailP P H v vs) (hw : WF H) (x : V) (hs : x.scal = true)
    (h1 : (vs.length + 1) * bytes ≤ 140737488355328) (h2 : vs.length + 1 ≤ 140737488355328) (τ : Tape) :
    ∃ v' H', Am.append H 1 bytes v 1 [x] τ = some (v', H', τ.tail) ∧ TailP (fun i => (i < H.size ∧ P i) ∨ H.size ≤ i) H' v' (vs ++ [x]) ∧ Chg P H H' ∧ (∀ id cs, H.cells? id = some cs → H'.cells? id = some cs) := by
  have h0 := h
  rcases h with ⟨rfl, rfl⟩ | ⟨id, off, e, all, room, fam, ver, pl, st, fr, rfl, k2, k3, k4, k5, k6, k7, k8⟩
  · obtain ⟨v', H', r1, r2, r3, r4⟩ := (OwnP.nil P H 1).append (bytes := bytes) hw 1 [x] (by omega) rfl (by simp [hs]) (by simpa using h1) (by simp) τ
    refine ⟨v', H', r1, ?_, r3, r4⟩
    rcases r2 with ⟨_, h, _⟩ | ⟨id, e, room, fam, ver, pl, st, fr, rfl, q1, q2, q3, q4, q5, q6⟩
    · cases h
    · exact .inr ⟨id, 0, e, _, room, fam, ver, pl, st, fr, rfl, q1, q2, q3, q4, q5, by simp, rfl⟩
  · have hfam : fam < H.size := hw.fams _ _ k3
    have hid : id < H.size := hw.blk _ _ k2
    obtain ⟨all', hcells, _, _, _⟩ := TailP.cells h0
    have ea : all' = all := by
      simp only [Heap.cells?, k2, k3] at hcells
      rw [show Nat.ble fr ver = true from Nat.ble_eq_true_of_le k4] at hcells
      exact (Option.some.inj hcells).symm
    subst ea
    have hloads : H.loads id off (vs.length * 1) = some vs := by
      rw [loads_cells hcells (by omega), k8, Nat.mul_one, List.take_length]
    have e1 : Nat.ble ((vs.length + 1) * bytes) 140737488355328 = true := Nat.ble_eq_true_of_le h1
    have e2 : Nat.ble (vs.length + 1) 140737488355328 = true := Nat.ble_eq_true_of_le h2
    have e3 : Nat.ble (vs.length + 1) vs.length = false := by
      cases hb : Nat.ble (vs.length + 1) vs.length with
      | false => rfl
      | true => have := Nat.le_of_ble_eq_true hb; omega
    have e5 : Nat.beq ver ver = true := Nat.beq_refl ver
    have e6 : Nat.beq (off + vs.length * 1) all'.length = true := by rw [k7, Nat.mul_one]; exact Nat.beq_refl _
    have hall : ([x] : List V).all V.scal = true := by simp [hs]
    refine ⟨.sl H.size 0 (vs.length + 1) (vs.length + 1) (some (spare (vs.length + 1) (τ 0))) 1, H.version (vs ++ [x]) ((vs.length + 1 + spare (vs.length + 1) (τ 0)) * 1) fam fr ver pl, ?_, ?_, ⟨hw.version _ _ _ _ _ _ hfam, Nat.le_succ _, fun i hi hp => ?_, fun f hf hp => ?_⟩, ?_⟩
    · simp only [Am.append, Nat.beq_refl, cond_true, e3, cond_false, e1, e2, Bool.and_self, hloads, k2, k3, e6, hall]
    · exact .inr ⟨H.size, 0, spare (vs.length + 1) (τ 0), _, _, fam, ver + 1, pl, 0, fr, by simp, T.get_set_same _ _ _, T.get_set_same _ _ _, by omega, .inr (Nat.le_refl _), .inl ⟨hfam, k6⟩, by simp, rfl⟩
    · simp only [Heap.version, T.get_set]; rw [if_neg (by omega)]
    · simp only [Heap.version, T.get_set]; rw [if_neg (by intro he; subst he; exact hp k6)]
    · intro i c hc
      have hilt := hw.cells_lt hc
      unfold Heap.cells? at hc ⊢
      simp only [Heap.version, T.get_set]
      rw [if_neg (by omega)]
      split at hc
      · rename_i cs' room' fam' ver' wr' pl' st' hb
        by_cases he : fam = fam'
        · subst he
          rw [k3] at hc
          simpa using hc
        · rw [if_neg he]
          exact hc
      · cases hc
end Go.Am

namespace Go.Am
set_option linter.unusedSimpArgs false
set_option linter.unusedVariables false
structure ItZ where
  v : V
  cap : Nat
  n : Nat
  cs : List V
  w : V
  key : Nat
def ItZ.Ok (z : Nat) (lab : Nat → Nat) (H : Heap) (it : ItZ) : Prop :=
  RoomZ (fun i => lab i = 2 * it.key + 4) H it.v z it.cap it.cs ∧ it.cs.length = it.n * z ∧ pLen [it.v] = some (.int .i64 (it.n : Int)) ∧ it.cap < 9223372036854775808 ∧ OwnP (fun i => lab i = 2 * it.key + 5) H z it.w it.n it.cs
theorem ItZ.Ok.chg {z : Nat} {lab lab' : Nat → Nat} {Q : Nat → Prop} {H H' : Heap} {it : ItZ} (h : it.Ok z lab H) (hw : WF H) (hg : Chg Q H H') (hQ : ∀ i, i < H.size → Q i → lab i ≠ 2 * it.key + 4 ∧ lab i ≠ 2 * it.key + 5) (hl : ∀ i, i < H.size → lab' i = lab i) : it.Ok z lab' H' := by
  obtain ⟨a, b, c, d, e⟩ := h
  have tr : ∀ n, (n = 2 * it.key + 4 ∨ n = 2 * it.key + 5) → ∀ i, i < H.size → (i < H.size ∧ lab' i = n) → ¬ Q i := fun n hn i hi e q => by
    have := hQ i hi q
    have e2 := e.2
    rw [hl i hi] at e2
    rcases hn with hn | hn <;> omega
  have up : ∀ n i, i < H.size → lab i = n → (i < H.size ∧ lab' i = n) := fun n i hi e => ⟨hi, by rw [hl i hi]; exact e⟩
  exact ⟨((a.weaken hw (up _)).chg hw hg (tr _ (.inl rfl))).weaken hg.wf fun i _ h => h.2, b, c, d, ((e.weaken hw (up _)).chg hw hg (tr _ (.inr rfl))).weaken hg.wf fun i _ h => h.2⟩
def BookZ (z : Nat) (lab : Nat → Nat) (H : Heap) (K : Nat) (its : List ItZ) : Prop :=
  ∃ L W held, Bx H K [L, W, .int .i64 held, .bool false] ∧ lab K = 1 ∧ TailP (fun i => lab i = 2) H L (its.map ItZ.v) ∧ TailP (fun i => lab i = 3) H W (its.map ItZ.w) ∧ (its.map ItZ.key).Nodup ∧ ∀ it ∈ its, it.Ok z lab H
theorem BookZ.chg {z : Nat} {lab lab' : Nat → Nat} {Q : Nat → Prop} {H H' : Heap} {K : Nat} {its : List ItZ} (h : BookZ z lab H K its) (hw : WF H) (hg : Chg Q H H') (hQ : ∀ i, i < H.size → Q i → lab i = 0) (hl : ∀ i, i < H.size → lab' i = lab i) : BookZ z lab' H' K its := by
  obtain ⟨L, W, held, h1, h2, h3, h4, h5, h6⟩ := h
  have k1 := h1.lt hw
  have ne : ∀ n, 0 < n → ∀ i, i < H.size → lab i = n → ¬ Q i := fun n hn i hi e q => by have := hQ i hi q; omega
  have tr : ∀ n, 0 < n → ∀ i, i < H.size → (i < H.size ∧ lab' i = n) → ¬ Q i := fun n hn i hi e => ne n hn i hi (by rw [← hl i hi]; exact e.2)
  have up : ∀ n i, i < H.size → lab i = n → (i < H.size ∧ lab' i = n) := fun n i hi e => ⟨hi, by rw [hl i hi]; exact e⟩
  refine ⟨L, W, held, h1.chg hw hg (ne 1 (by omega) K k1 h2), by rw [hl K k1]; exact h2, ?_, ?_, h5, fun it hit => (h6 it hit).chg hw hg (fun i hi q => ?_) hl⟩
  · exact ((h3.weaken hw (up 2)).chg hw hg (tr 2 (by omega))).weaken hg.wf fun i _ h => h.2
  · exact ((h4.weaken hw (up 3)).chg hw hg (tr 3 (by omega))).weaken hg.wf fun i _ h => h.2
  · have := hQ i hi q; omega
end Go.Am

namespace Go.Am
set_option linter.unusedSimpArgs false
set_option linter.unusedVariables false
end Go.Am

namespace Go.Am
set_option linter.unusedSimpArgs false
set_option linter.unusedVariables false
abbrev Lab := Nat → Nat × Nat
def selL (b : Nat) (L : Lab) : Nat → Nat := fun i => if (L i).1 = b then (L i).2 else 0
def labN (L : Lab) (n b m : Nat) : Lab := fun i => if n ≤ i then (b, m) else L i
theorem labN_lt (L : Lab) {n i : Nat} (b m : Nat) (h : i < n) : labN L n b m i = L i := if_neg (by omega)
theorem selL_eq {b : Nat} {L L' : Lab} {i : Nat} (h : L' i = L i) : selL b L' i = selL b L i := by unfold selL; rw [h]
abbrev Of (L : Lab) (b : Nat) : Nat → Prop := fun i => (L i).1 = b ∧ (L i).2 ≠ 0
abbrev OfB (L : Lab) (b : Nat) : Nat → Prop := fun i => (L i).1 = b ∧ (L i).2 ≠ 0 ∧ (L i).2 ≤ 3
theorem BookZ.grL {z b : Nat} {L L' : Lab} {H H1 : Heap} {K : Nat} {its : List ItZ} (h : BookZ z (selL b L) H K its) (hw : WF H) (g : Gr H.size H H1) (hl : ∀ i, i < H.size → L' i = L i) : BookZ z (selL b L') H1 K its :=
  h.chg hw (g.chg (P := fun _ => False)) (fun _ _ q => q.elim) fun i hi => selL_eq (hl i hi)
def LstZ (L : Lab) (b key : Nat) (H : Heap) (v : V) (z cap n : Nat) (cs : List V) : Prop :=
  RoomZ (fun i => L i = (b, 2 * key + 4)) H v z cap cs ∧ cs.length = n * z ∧ pLen [v] = some (.int .i64 (n : Int)) ∧ cap < 9223372036854775808
theorem LstZ.chg {L L' : Lab} {b key : Nat} {Q : Nat → Prop} {H H1 : Heap} {v : V} {z cap n : Nat} {cs : List V} (h : LstZ L b key H v z cap n cs) (hw : WF H) (g : Chg Q H H1) (hQ : ∀ i, i < H.size → L i = (b, 2 * key + 4) → ¬ Q i) (hl : ∀ i, i < H.size → L' i = L i) : LstZ L' b key H1 v z cap n cs := by
  obtain ⟨a, c⟩ := h
  refine ⟨?_, c⟩
  have := (a.weaken (Q := fun i => i < H.size ∧ L' i = (b, 2 * key + 4)) hw fun i hi e => ⟨hi, by rw [hl i hi]; exact e⟩).chg hw g fun i hi e => hQ i hi (by rw [← hl i hi]; exact e.2)
  exact this.weaken g.wf fun i _ e => e.2
theorem LstZ.grL {L L' : Lab} {b key : Nat} {H H1 : Heap} {v : V} {z cap n : Nat} {cs : List V} (h : LstZ L b key H v z cap n cs) (hw : WF H) (g : Gr H.size H H1) (hl : ∀ i, i < H.size → L' i = L i) : LstZ L' b key H1 v z cap n cs :=
  h.chg hw (g.chg (P := fun _ => False)) (fun _ _ _ => not_false) hl
theorem LstZ.mono {L : Lab} {b key : Nat} {H H1 : Heap} {v : V} {z cap n : Nat} {cs : List V} (h : LstZ L b key H v z cap n cs) (hw : WF H) (b' m : Nat) (g : Gr H.size H H1) : LstZ (labN L H.size b' m) b key H1 v z cap n cs := h.grL hw g fun i hi => labN_lt L _ _ hi
theorem BookZ.mono {z b : Nat} {L : Lab} {H H1 : Heap} {K : Nat} {its : List ItZ} (h : BookZ z (selL b L) H K its) (hw : WF H) (b' m : Nat) (g : Gr H.size H H1) : BookZ z (selL b (labN L H.size b' m)) H1 K its := h.grL hw g fun i hi => labN_lt L _ _ hi
theorem OfB.of {L : Lab} {b : Nat} {H H1 : Heap} (h : Chg (OfB L b) H H1) : Chg (Of L b) H H1 := h.weaken fun i _ q => ⟨q.1, q.2.1⟩
end Go.Am

namespace Go.Am
section
variable (P : Program) (f : FuncId) (fn : Func) (s : ChangeSpec) (c : OpenClaim)
def jA : Bool := c.wf (OpenSpec.ofChange s) && laidOutB P && mapsRowed P &&
  fn.params.all (P.readableRec ·) && namedTie P c.named s.vars &&
  (c.stops == []) && (P.stops == []) && (c.knobs == []) && (P.stopKnobs == [])
def jB : Bool := c.inPlace == P.inPlace f
def jC : Bool := c.unfollowed == P.unfollowed f
def jD : Bool := c.recurses == P.recurses f
def jE : Bool := c.named == P.varsNamed f
def jF : Bool := (c.maps == (fn.params.toList ++ s.plain.varTypes P).any (P.mapsRec ·)) && (c.ifaces == (fn.params.toList ++ s.plain.varTypes P).any (P.ifacesRec ·)) && (c.mapsOut == P.mapsAmong fn.resultTypes.toList) &&
  (c.loops == (fn.params.toList ++ s.plain.varTypes P).any (P.loopsFrom ·)) && (c.wideKeys == (fn.params.toList ++ s.plain.varTypes P ++ fn.resultTypes.toList).any (P.wideKeysFrom ·)) &&
  s.vars.all (P.varReadable ·) && fn.resultTypes.all (fun t => P.readableRec t && decide (t < P.types.size)) && (c.ifacesOut == fn.resultTypes.toList.any (P.ifacesRec ·)) && (c.loopsOut == fn.resultTypes.toList.any (P.loopsFrom ·)) && (c.plainKeys == P.plainKeys) && c.shortTexts.isNone
def jG : Bool := P.stopsHeard
def jH : Bool := P.mayEnter
def jI : Bool := (c.lifted == P.liftsFinal) && (P.make == some c.make) && (c.kinds == (if c.domain.isEmpty then [] else fn.params.toList.map fun t => match P.underlying t with | some (.int k) => some k | _ => none)) && (c.pinned == c.pinnedBy) &&
  (c.veiled == (fn.params.toList ++ s.plain.varTypes P ++ fn.resultTypes.toList).any (P.veiledRec ·)) && c.veiledFits P fn.params.toList (fn.params.toList ++ s.plain.varTypes P ++ fn.resultTypes.toList)
end
theorem joined_of {P : Program} {f : FuncId} {fn : Func} {s : ChangeSpec} {c : OpenClaim} (hA : jA P fn s c = true) (hB : jB P f c = true) (hC : jC P f c = true) (hD : jD P f c = true) (hE : jE P f c = true) (hF : jF P fn s c = true) (hG : jG P = true) (hH : jH P = true) (hI : jI P fn s c = true) : joinedFacts P f fn s c = true := by
  simp only [jA, jB, jC, jD, jE, jF, jG, jH, jI, Bool.and_eq_true, and_assoc] at hA hB hC hD hE hF hG hH hI
  simp only [joinedFacts, Bool.and_eq_true, and_assoc]
  exact ⟨hA.1, hA.2.1, hA.2.2.1, hA.2.2.2.1, hA.2.2.2.2.1, hA.2.2.2.2.2.1, hA.2.2.2.2.2.2.1, hA.2.2.2.2.2.2.2.1, hA.2.2.2.2.2.2.2.2, hB, hC, hD, hE, hF.1, hF.2.1, hF.2.2.1, hF.2.2.2.1, hF.2.2.2.2.1, hF.2.2.2.2.2.1, hF.2.2.2.2.2.2.1, hF.2.2.2.2.2.2.2.1, hF.2.2.2.2.2.2.2.2.1, hF.2.2.2.2.2.2.2.2.2.1, hF.2.2.2.2.2.2.2.2.2.2, hG, hH, hI.1, hI.2.1, hI.2.2.1, hI.2.2.2.1, hI.2.2.2.2.1, hI.2.2.2.2.2⟩
end Go.Am

