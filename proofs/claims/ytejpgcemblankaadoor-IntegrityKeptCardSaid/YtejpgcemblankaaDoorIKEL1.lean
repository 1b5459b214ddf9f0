/- The abstract machine, printed functions of the program, and what they are shown to be. -/
import Derived.Test.YtejpgcemblankaaDoorIKEL0
import Derived.Test.YtejpgcemblankaaDoorIKESh0
import Derived.Test.YtejpgcemblankaaDoorIKEM4
import Derived.KernelRfl
import Derived.Test.YtejpgcemblankaaDoorIKEM5
set_option linter.unusedSimpArgs false
set_option linter.unusedVariables false
set_option linter.unusedSectionVars false
set_option maxRecDepth 100000
namespace Go.Am.X
theorem LsH.lst {H : Heap} {B : Nat} {v : V} {hs : List Hd} (h : LsH H B v hs) (hn : hs ≠ []) : FreshL B H 2 hs.length (hcells hs) v := Got.lst h.1.apd.got (fun e => hn (List.eq_nil_of_length_eq_zero e))
theorem RdH.nils {H : Heap} {hs : List Hd} (h : RdH H .nils hs) : hs = [] := by
 rcases h.1 with ⟨_, h0, _⟩ | ⟨_, _, _, _, _, e, _⟩
 ·exact List.eq_nil_of_length_eq_zero h0
 ·cases e
end Go.Am.X

namespace Go.Am.X
def partV (x : UInt8) (s : Bs) : V := match cutB x s with | some (a, b) => .tup [.str a, .str b, .bool true] | none => .tup [.str s, .str [], .bool false]
theorem partV_vok (x : UInt8) (s : Bs) (H : Heap) : VOk H (partV x s) := by
 unfold partV; split <;> exact ⟨trivial, trivial, trivial, trivial⟩
def blankN (n : Nat) : Bool := (((decide (n = 9) || decide (n = 10)) || decide (n = 12)) || decide (n = 13)) || decide (n = 32)
theorem strs_inj {a b : List Bs} (h : a.map V.str = b.map V.str) : a = b := by
 have := congrArg (List.map fun | V.str s => s | _ => []) h
 simpa [List.map_map, Function.comp_def] using this
end Go.Am.X

namespace Go.Am.X
def RdS (H : Heap) (v : V) (ss : List Bs) : Prop := Rd H 1 v ss.length (ss.map V.str) ∧ Src H v
theorem RdS.uniq {H : Heap} {v : V} {a b : List Bs} (h : RdS H v a) (k : RdS H v b) : a = b := strs_inj (h.1.uniq k.1).2
theorem RdS.gr {H H' : Heap} {B : Nat} {v : V} {ss : List Bs} (h : RdS H v ss) (hg : Gr B H H') (hw : WF H) (hB : H.size ≤ B) : RdS H' v ss := ⟨h.1.gr hg hw hB, h.2.gr hg hw hB⟩
theorem strs_vok (H : Heap) (ss : List Bs) : VsOk H (ss.map V.str) := by
 induction ss with
 | nil => trivial
 | cons h l ih => exact ⟨trivial, ih⟩
def LsS (H : Heap) (B : Nat) (v : V) (ss : List Bs) : Prop := Own H B 1 v ss.length (ss.map V.str) ∧ (ss = [] → v = .nils)
theorem LsS.nil (H : Heap) (B : Nat) : LsS H B .nils [] := ⟨Own.nil _ _ _, fun _ => rfl⟩
theorem LsS.gr {H H' : Heap} {B C : Nat} {v : V} {ss : List Bs} (h : LsS H B v ss) (hg : Gr C H H') (hw : WF H) (hC : H.size ≤ C) : LsS H' B v ss := ⟨h.1.gr hg hw hC, h.2⟩
theorem LsS.weaken {H : Heap} {B C : Nat} {v : V} {ss : List Bs} (h : LsS H C v ss) (hBC : B ≤ C) : LsS H B v ss := by
 refine ⟨?_, h.2⟩
 rcases h.1 with h | ⟨id, e, room, fam, ver, pl, st, fr, h1, h2, h3, h4, h5, h6, h7⟩
 ·exact .inl h
 ·exact .inr ⟨id, e, room, fam, ver, pl, st, fr, h1, h2, h3, h4, Nat.le_trans hBC h5, Nat.le_trans hBC h6, h7⟩
theorem LsS.got {H : Heap} {B : Nat} {v : V} {ss : List Bs} (h : LsS H B v ss) : Got H B 1 v ss.length (ss.map V.str) := h.1.apd.got
theorem LsS.met {H H' : Heap} {v : V} {ss : List Bs} {mk : V → V} (h : LsS H' H.size v ss) (hmk : MkOk mk) (hnil : VOk H (mk .nils)) : (lstO 1 ss.length (ss.map V.str) mk).Met H (mk v) H' :=
 Got.met h.got (fun h0 => h.2 (List.eq_nil_of_length_eq_zero h0)) hmk (strs_vok _ _) hnil
theorem Small.pre {a b : List Hd} (h : Small (a ++ b)) : Small a := ⟨by have := h.len; simp at this; omega, fun x hx => h.all x (by simp [hx])⟩
end Go.Am.X

namespace Go.Am.X
end Go.Am.X

namespace Go.Am.X
abbrev CutPre : List V → Prop | [.str s, .str [_]] => s.length < 9223372036854775807 | _ => False
abbrev CutG : List V → V | [.str s, .str [x]] => partV x s | _ => .tup []
abbrev CutR := RV CutPre CutG
theorem p_strings_Cut : ∀ base w0, PrimOk PG base w0 f_strings_Cut (outP CutR) := by
 refine primOk_E 4 _ ?_
 rintro vs H o hw hvs ⟨hp, rfl⟩ τ
 unfold CutPre at hp; split at hp
 ·rename_i s x
  exact ⟨_, H, τ, d_strings_Cut nb 4 (by omega) x s hp H τ retK, Gr.refl hw, rfl, partV_vok x s H⟩
 ·exact hp.elim
abbrev RCutOk (c : CallK) : Prop := ∀ (s : Bs) (x : UInt8), s.length < 9223372036854775807 → ∀ H τ q, c f_strings_Cut [.str s, .str [x]] H τ q = q (partV x s) H τ
theorem k_strings_Cut {c : CallK} (h : IsP c f_strings_Cut CutR) : RCutOk c := fun s x hs H τ q => RV_call h (vs := [.str s, .str [x]]) hs H τ q
theorem cutB_len (x : UInt8) : ∀ (s a b : Bs), cutB x s = some (a, b) → a.length + b.length + 1 = s.length := by
 intro s a b h
 have := ((cutB_spec x s).2 a b h).1
 rw [this]; simp; omega
abbrev NLowOk (c : CallK) : Prop := ∀ (s : Bs), s.length ≤ 140737488355328 → ∀ H τ q, c f_infra_Lower [.str s] H τ q = q (.str (lower s)) H τ
theorem k_infra_Lower {c : CallK} (h : IsP c f_infra_Lower LowR) : NLowOk c := fun s hs H τ q => callS h s hs H τ q
end Go.Am.X

namespace Go.Am.X
theorem idx_has (x : UInt8) (l : Bs) : decide (Int.ofNat 0 ≤ idxB x.toNat l 0) = l.contains x := by
 by_cases h : l.contains x = true
 ·rw [h]; exact decide_eq_true (idxB_some _ _ _ ⟨x, List.contains_iff_mem.1 h, rfl⟩)
 ·have h' : l.contains x = false := by cases e : l.contains x; rfl; exact absurd e h
  rw [h', idxB_none _ _ _ (fun y hy e => h (List.contains_iff_mem.2 (by rw [← UInt8.toNat_inj.1 e]; exact hy)))]; rfl
theorem k_idx {c : CallK} (h : ∀ vs H τ q, c f_stringslite_IndexByte vs H τ q = effK (idxP vs H τ) q) (s : Bs) (x : UInt8) (H : Heap) (τ : Tape) (q : KV) : c f_stringslite_IndexByte [.str s, .int .u8 (x.toNat : Int)] H τ q = q (.int .i64 (idxB x.toNat s 0)) H τ := by
 have e4 : x.toNat % 256 = x.toNat := Nat.mod_eq_of_lt (u8_lt x)
 rw [h]
 show effK (idxP [.str s, .int .u8 (.ofNat x.toNat)] H τ) q = _
 simp only [idxP, e4, effK_n]
end Go.Am.X

namespace Go.Am.X
def OwnN (H : Heap) (B z : Nat) (v : V) (n : Nat) (cs : List V) : Prop := Own H B z v n cs ∧ (n = 0 → v = .nils)
theorem OwnN.nil (H : Heap) (B z : Nat) : OwnN H B z .nils 0 [] := ⟨Own.nil _ _ _, fun _ => rfl⟩
abbrev It9 := Nat × Bs × Bs
def it9 (x : It9) : List V := [.int .i64 (x.1 : Int), .str x.2.1, .str x.2.2]
def it9C : List It9 → List V
 | [] => []
 | x :: l => it9 x ++ it9C l
theorem it9C_append (a b : List It9) : it9C (a ++ b) = it9C a ++ it9C b := by induction a with
 | nil => rfl
 | cons x a ih => simp [it9C, ih]
theorem it9C_length (a : List It9) : (it9C a).length = a.length * 3 := by induction a with
 | nil => rfl
 | cons x a ih => simp [it9C, it9, ih]; omega
theorem it9C_at (pre : List It9) (x : It9) (l : List It9) : ((it9C (pre ++ x :: l)).drop (pre.length * 3)).take 3 = it9 x := by
 rw [it9C_append, List.drop_left' (it9C_length pre)]; rfl
theorem str_eqd (a b : Bs) : strBin .eql a b = some (.bool (decide (a = b))) := (str_eql a b).trans (by congr 2; rw [Bool.eq_iff_iff]; simp)
def sha (a b c : UInt8) : Bs := [115, 104, 97, a, b, c]
def bitsB (n : Bs) : Nat := if lower n = sha 50 53 54 then 256 else if lower n = sha 51 56 52 then 384 else if lower n = sha 53 49 50 then 512 else 0
theorem s_integrity_bits_ret (c : CallK) (N : Nat) (hL : NLowOk c) (s : Bs) (hs : s.length ≤ 140737488355328) (H : Heap) (τ : Tape) (q : KV) : s_integrity_bits c N (.str s) H τ q = q (.int .i64 (bitsB s : Nat)) H τ := by
 have e1 : strBin .eql (lower s) (bs [115, 104, 97, 50, 53, 54]) = some (.bool (decide (lower s = sha 50 53 54))) := str_eqd _ _
 have e2 : strBin .eql (lower s) (bs [115, 104, 97, 51, 56, 52]) = some (.bool (decide (lower s = sha 51 56 52))) := str_eqd _ _
 have e3 : strBin .eql (lower s) (bs [115, 104, 97, 53, 49, 50]) = some (.bool (decide (lower s = sha 53 49 50))) := str_eqd _ _
 unfold bitsB
 by_cases h1 : lower s = sha 50 53 54
 ·simp only [s_integrity_bits, hL s hs, bin_str, e1, decide_eq_true h1, someK_n, condK_tn, if_pos h1]; rfl
 ·by_cases h2 : lower s = sha 51 56 52
  ·simp only [s_integrity_bits, hL s hs, bin_str, e1, e2, decide_eq_false h1, decide_eq_true h2, someK_n, condK_tn, condK_fn, if_neg h1, if_pos h2]; rfl
  ·by_cases h3 : lower s = sha 53 49 50
   ·simp only [s_integrity_bits, hL s hs, bin_str, e1, e2, e3, decide_eq_false h1, decide_eq_false h2, decide_eq_true h3, someK_n, condK_tn, condK_fn, if_neg h1, if_neg h2, if_pos h3]; rfl
   ·simp only [s_integrity_bits, hL s hs, bin_str, e1, e2, e3, decide_eq_false h1, decide_eq_false h2, decide_eq_false h3, someK_n, condK_fn, if_neg h1, if_neg h2, if_neg h3]; rfl
def cut1 (x : UInt8) (s : Bs) : Bs × Bs × Bool := match cutB x s with | some (a, b) => (a, b, true) | none => (s, [], false)
theorem partV_cut1 (x : UInt8) (s : Bs) : partV x s = .tup [.str (cut1 x s).1, .str (cut1 x s).2.1, .bool (cut1 x s).2.2] := by unfold partV cut1; cases cutB x s <;> rfl
theorem cut1_len (x : UInt8) (s : Bs) : (cut1 x s).1.length ≤ s.length := by
 unfold cut1
 cases h : cutB x s with
 | none => exact Nat.le_refl _
 | some p => obtain ⟨a, b⟩ := p; have := cutB_len x s a b h; simp only; omega
def itemB (w : Bs) : Option It9 := if (cut1 45 (cut1 63 w).1).2.2 = true ∧ 0 < bitsB (cut1 45 (cut1 63 w).1).1 then some (bitsB (cut1 45 (cut1 63 w).1).1, (cut1 45 (cut1 63 w).1).2.1, (cut1 63 w).2.1) else none
abbrev BitsOk (c : CallK) (f : Nat) : Prop := ∀ (s : Bs), s.length ≤ 140737488355328 → ∀ H τ q, c f [.str s] H τ q = q (.int .i64 (bitsB s : Nat)) H τ
theorem l_parse (c : CallK) (N : Nat) (hC : RCutOk c) (hB : BitsOk c f_integrity_bits) (wd : List Bs) (hwd : wd.length ≤ 100000000001) (hsz : ∀ w ∈ wd, w.length ≤ 140737488355328) (v14 : V) (B : Nat) :
  ∀ (l pre : List Bs) (acc : List It9) (v3 : V) (M : Nat) (H : Heap) (τ : Tape), wd = pre ++ l → l.length < M → WF H → B ≤ H.size → (∀ H', Gr B H H' → Rd H' 1 v14 wd.length (wd.map V.str)) → OwnN H B 3 v3 acc.length (it9C acc) → acc.length ≤ pre.length →
  ∃ v3' H' τ', OwnN H' B 3 v3' (acc ++ l.filterMap itemB).length (it9C (acc ++ l.filterMap itemB)) ∧ Gr B H H' ∧
   ∀ (fr : T V) k, fr.get 3 = some v3 → fr.get 14 = some v14 → fr.get 15 = some (.int .i64 (wd.length : Int)) → fr.get 16 = some (.int .i64 (pre.length : Int)) →
    loopK (s_integrity_Parse_l1 c N) M ⟨fr, H⟩ τ k = k (.exit 0) ⟨(T.set .leaf 3 v3'), H'⟩ τ' := by
 intro l
 induction l with
 | nil =>
  intro pre acc v3 M H τ he hM hw hBs hr ho hal
  obtain ⟨M, rfl⟩ : ∃ j, M = j + 1 := ⟨M - 1, by omega⟩
  have e1 : decide ((pre.length : Int) < (wd.length : Int)) = false := decide_eq_false (by rw [he]; simp)
  refine ⟨v3, H, τ, by simpa using ho, Gr.refl hw, fun fr k f3 f14 f15 f16 => ?_⟩
  rw [loopK_succ]
  simp only [s_integrity_Parse_l1, getK_mk f3, getK_mk f14, getK_mk f15, getK_mk f16, bin_lss, e1, condK_fn]
  rfl
 | cons w l ih =>
  intro pre acc v3 M H τ he hM hw hBs hr ho hal
  obtain ⟨M, rfl⟩ : ∃ j, M = j + 1 := ⟨M - 1, by omega⟩
  have hlt : pre.length < wd.length := by rw [he]; simp
  have e1 : decide ((pre.length : Int) < (wd.length : Int)) = true := decide_eq_true (by omega)
  have hwi : (wd.map V.str)[pre.length]? = some (.str w) := by rw [he]; simp
  obtain ⟨p, p1, p2⟩ := (hr H (Gr.refl hw)).elem1 hwi
  have hwl := hsz w (by rw [he]; simp)
  have k1 := fun H τ q => hC w 63 (by omega) H τ q
  rw [partV_cut1] at k1
  have hl1 := cut1_len 63 w
  have k2 := fun H τ q => hC (cut1 63 w).1 45 (by omega) H τ q
  rw [partV_cut1] at k2
  have hl2 := cut1_len 45 (cut1 63 w).1
  have k3 := fun H τ q => hB (cut1 45 (cut1 63 w).1).1 (by omega) H τ q
  have x0 : ∀ a b d : V, pExtract 0 [.tup [a, b, d]] = some a := fun _ _ _ => rfl
  have x1 : ∀ a b d : V, pExtract 1 [.tup [a, b, d]] = some b := fun _ _ _ => rfl
  have x2 : ∀ a b d : V, pExtract 2 [.tup [a, b, d]] = some d := fun _ _ _ => rfl
  have e6 : wr .i64 ((pre.length : Int) + Int.ofNat 1) = ((pre ++ [w]).length : Int) := by rw [adI (by omega)]; simp
  have b63 : bs [63] = [63] := rfl
  have b45 : bs [45] = [45] := rfl
  by_cases hit : (cut1 45 (cut1 63 w).1).2.2 = true ∧ 0 < bitsB (cut1 45 (cut1 63 w).1).1
  ·have hib : itemB w = some (bitsB (cut1 45 (cut1 63 w).1).1, (cut1 45 (cut1 63 w).1).2.1, (cut1 63 w).2.1) := if_pos hit
   have hgt : decide (Int.ofNat 0 < ((bitsB (cut1 45 (cut1 63 w).1).1 : Nat) : Int)) = true := decide_eq_true (by have := hit.2; simp; omega)
   generalize hx : (bitsB (cut1 45 (cut1 63 w).1).1, (cut1 45 (cut1 63 w).1).2.1, (cut1 63 w).2.1) = x at hib
   have bb : pBuild [(.int .i64 (.ofNat 0)), (.str []), (.str [])] [(0, 1), (1, 1), (2, 1)] [.int .i64 ((bitsB (cut1 45 (cut1 63 w).1).1 : Nat) : Int), .str (cut1 45 (cut1 63 w).1).2.1, .str (cut1 63 w).2.1] = some (.agg (it9 x)) := by rw [← hx]; rfl
   have b0 : eBuildSlice 1 3 [(.int .i64 (.ofNat 0)), (.str []), (.str [])] [(0, 3)] [.agg (it9 x)] H τ = some (.sl H.size 0 1 1 none 3, H.new (it9 x) 3 false, τ) := rfl
   obtain ⟨v', H1, τ1, r1, r2, r3⟩ := ho.1.putN (bytes := 40) hw hBs (it9 x) rfl rfl (by omega) (by omega) τ false
   have hcs : it9C acc ++ it9 x = it9C (acc ++ [x]) := by rw [it9C_append]; simp [it9C]
   rw [hcs] at r2
   obtain ⟨v3', H', τ', s1, s2, s3⟩ := ih (pre ++ [w]) (acc ++ [x]) v' M H1 τ1 (by rw [he]; simp) (by simp at hM; omega) r3.wf (Nat.le_trans hBs r3.size) (fun H2 hg => hr H2 (r3.trans hg (Nat.le_refl _))) ⟨by simpa using r2, fun h => by simp at h⟩ (by simp; omega)
   have hfm : acc ++ (w :: l).filterMap itemB = (acc ++ [x]) ++ l.filterMap itemB := by rw [List.filterMap_cons, hib]; simp
   refine ⟨v3', H', τ', by rw [hfm]; exact s1, r3.trans s2 (Nat.le_refl _), fun fr k f3 f14 f15 f16 => ?_⟩
   rw [loopK_succ]
   simp only [s_integrity_Parse_l1, getK_mk f3, getK_mk f14, getK_mk f15, getK_mk f16, bin_lss, e1, condK_tn, p1, p2, someK_n, b63, b45, k1, k2, k3, x0, x1, x2, hit.1, gK_do, retK, effK_n, bin_gtr, hgt, pick_mk, cond_true, bb, b0, r1, s_integrity_Parse_j2, getK_set, ↓reduceIte, Nat.reduceEqDiff, bin_add, e6]
   exact s3 _ _ (by simp [T.get_set]) (by simp [T.get_set]) (by simp [T.get_set]) (by simp [T.get_set])
  ·have hib : itemB w = none := if_neg hit
   obtain ⟨v3', H', τ', s1, s2, s3⟩ := ih (pre ++ [w]) acc v3 M H τ (by rw [he]; simp) (by simp at hM; omega) hw hBs hr ho (by simp; omega)
   have hfm : acc ++ (w :: l).filterMap itemB = acc ++ l.filterMap itemB := by rw [List.filterMap_cons, hib]
   refine ⟨v3', H', τ', by rw [hfm]; exact s1, s2, fun fr k f3 f14 f15 f16 => ?_⟩
   rw [loopK_succ]
   cases hb : (cut1 45 (cut1 63 w).1).2.2 with
   | false =>
    simp only [s_integrity_Parse_l1, getK_mk f3, getK_mk f14, getK_mk f15, getK_mk f16, bin_lss, e1, condK_tn, p1, p2, someK_n, b63, b45, k1, k2, k3, x0, x1, x2, hb, gK_skip, gK_none, pick_mk, cond_false, condK_fn, s_integrity_Parse_j2, getK_set, ↓reduceIte, Nat.reduceEqDiff, bin_add, e6]
    exact s3 _ _ (by simp [T.get_set]) (by simp [T.get_set]) (by simp [T.get_set]) (by simp [T.get_set])
   | true =>
    have hgt : decide (Int.ofNat 0 < ((bitsB (cut1 45 (cut1 63 w).1).1 : Nat) : Int)) = false := decide_eq_false (by have : ¬ 0 < bitsB (cut1 45 (cut1 63 w).1).1 := fun h => hit ⟨hb, h⟩; simp; omega)
    simp only [s_integrity_Parse_l1, getK_mk f3, getK_mk f14, getK_mk f15, getK_mk f16, bin_lss, e1, condK_tn, p1, p2, someK_n, b63, b45, k1, k2, k3, x0, x1, x2, hb, gK_do, retK, effK_n, bin_gtr, hgt, pick_mk, cond_true, condK_fn, s_integrity_Parse_j2, getK_set, ↓reduceIte, Nat.reduceEqDiff, bin_add, e6]
    exact s3 _ _ (by simp [T.get_set]) (by simp [T.get_set]) (by simp [T.get_set]) (by simp [T.get_set])
def blankS : Bs := [9, 10, 12, 13, 32]
def wordsB (s : Bs) : List Bs := fieldsF blankS.contains [] s
def parseB (s : Bs) : List It9 := (wordsB s).filterMap itemB
abbrev FldOk (c : CallK) : Prop := ∀ (s : Bs), s.length ≤ 100000000000 → ∀ H, WF H → ∀ τ, ∃ v' H' τ', Gr H.size H H' ∧ Rd H' 1 v' (wordsB s).length ((wordsB s).map V.str) ∧ ∀ q, c f_strings_FieldsFunc [.str s, .func f_integrity_Parse_1 [] []] H τ q = q v' H' τ'
theorem fieldsF_size {p : UInt8 → Bool} : ∀ (s cur : Bs), ∀ w ∈ fieldsF p cur s, w.length ≤ cur.length + s.length := by
 intro s
 induction s with
 | nil =>
  intro cur w hw
  rw [fieldsF] at hw
  split at hw
  ·simp at hw
  ·simp at hw; subst hw; simp
 | cons x s ih =>
  intro cur w hw
  rw [fieldsF] at hw
  split at hw
  ·split at hw
   ·have := ih [] w hw; simp at this ⊢; omega
   ·rcases List.mem_cons.1 hw with rfl | hw
    ·simp
    ·have := ih [] w hw; simp at this ⊢; omega
  ·have := ih (cur ++ [x]) w hw; simp at this ⊢; omega
theorem s_integrity_Parse_ret (c : CallK) {N : Nat} (hN : 9223372036854775807 ≤ N) (hF : FldOk c) (hC : RCutOk c) (hB : BitsOk c f_integrity_bits) (s : Bs) (hs : s.length ≤ 100000000000) (H : Heap) (hw : WF H) (τ : Tape) :
  ∃ v H' τ', OwnN H' H.size 3 v (parseB s).length (it9C (parseB s)) ∧ Gr H.size H H' ∧ ∀ q, s_integrity_Parse c N (.str s) H τ q = q v H' τ' := by
 obtain ⟨v0, H1, τ1, g1, r1, k1⟩ := hF s hs H hw τ
 have hfl : (wordsB s).length ≤ s.length + 1 := fieldsF_len s []
 obtain ⟨v3, H', τ', s1, s2, s3⟩ := l_parse c N hC hB (wordsB s) (by omega) (fun w hw => by have := fieldsF_size s [] w hw; simp at this; omega) v0 H1.size (wordsB s) [] [] .nils N H1 τ1 rfl (by omega) g1.wf (Nat.le_refl _) (fun H' hg => r1.gr hg g1.wf (Nat.le_refl _)) (OwnN.nil _ _ _) (Nat.le_refl _)
 refine ⟨v3, H', τ', ?_, g1.trans s2 g1.size, fun q => ?_⟩
 ·have : OwnN H' H1.size 3 v3 (parseB s).length (it9C (parseB s)) := by simpa [parseB] using s1
  exact ⟨this.1.weaken0 g1.size, this.2⟩
 ·simp only [s_integrity_Parse, k1, r1.pLen, someK_n]
  rw [s3 _ _ (by simp [T.get_set]) (by simp [T.get_set]) (by simp [T.get_set]) (by simp [T.get_set])]
  simp only [blockK, Nat.beq_refl, cond_true, seqK, s_integrity_Parse_j0, getK_set, ↓reduceIte]
end Go.Am.X

namespace Go.Am.X
def TestP (c : CallK) (fv : V) (f : It9 → Bool) (B : Nat) (H0 : Heap) (l : List It9) : Prop := ∀ x ∈ l, ∀ H, Gr B H0 H → ∀ τ, ∃ H' τ', Gr H.size H H' ∧ ∀ q, opK c .callv [fv, .agg (it9 x)] H τ q = q (.bool (f x)) H' τ'
theorem l_chosen (c : CallK) (N : Nat) (f : It9 → Bool) (fv : V) (its : List It9) (hil : its.length ≤ 200000000000) (H0 : Heap) (hw0 : WF H0) (v8 : V) (hr : Rd H0 3 v8 its.length (it9C its)) (hf : TestP c fv f H0.size H0 its) :
  ∀ (l pre acc : List It9) (v5 : V) (M : Nat) (H : Heap) (τ : Tape), its = pre ++ l → l.length < M → Gr H0.size H0 H → OwnN H H0.size 3 v5 acc.length (it9C acc) → acc.length ≤ pre.length →
  ∃ v5' H' τ', OwnN H' H0.size 3 v5' (acc ++ l.filter f).length (it9C (acc ++ l.filter f)) ∧ Gr H0.size H H' ∧
   ∀ (fr : T V) k, fr.get 1 = some fv → fr.get 5 = some v5 → fr.get 8 = some v8 → fr.get 9 = some (.int .i64 (its.length : Int)) → fr.get 10 = some (.int .i64 (pre.length : Int)) →
    loopK (s_integrity_chosen_l1 c N) M ⟨fr, H⟩ τ k = k (.exit 0) ⟨(T.set .leaf 5 v5'), H'⟩ τ' := by
 intro l
 induction l with
 | nil =>
  intro pre acc v5 M H τ he hM hg ho hal
  obtain ⟨M, rfl⟩ : ∃ j, M = j + 1 := ⟨M - 1, by omega⟩
  have e1 : decide ((pre.length : Int) < (its.length : Int)) = false := decide_eq_false (by rw [he]; simp)
  refine ⟨v5, H, τ, by simpa using ho, Gr.refl hg.wf, fun fr k f1 f5 f8 f9 f10 => ?_⟩
  rw [loopK_succ]
  simp only [s_integrity_chosen_l1, getK_mk f1, getK_mk f5, getK_mk f8, getK_mk f9, getK_mk f10, bin_lss, e1, condK_fn]
  rfl
 | cons x l ih =>
  intro pre acc v5 M H τ he hM hg ho hal
  obtain ⟨M, rfl⟩ : ∃ j, M = j + 1 := ⟨M - 1, by omega⟩
  have hw := hg.wf
  have hlt : pre.length < its.length := by rw [he]; simp
  have e1 : decide ((pre.length : Int) < (its.length : Int)) = true := decide_eq_true (by omega)
  have hrH := hr.gr hg hw0 (Nat.le_refl _)
  obtain ⟨id, o, p1, p2⟩ := hrH.at (by omega) hlt
  obtain ⟨q1, _⟩ := p2 H _ hrH
  rw [he, it9C_at] at q1
  obtain ⟨H1, H2, a1, a2, a3, a4, a5⟩ := boxN hw 3 [(.int .i64 (.ofNat 0)), (.str []), (.str [])] (it9 x) rfl rfl (by omega) rfl τ
  have l2 : lLoadN 3 [.ptr H.size 0] H2 = some (.agg (it9 x)) := load_cells a3.cells (by simp [it9])
  have hg2 : Gr H0.size H0 H2 := hg.trans a4 hg.size
  obtain ⟨H3, τ3, g3, k3⟩ := hf x (by rw [he]; simp) H2 hg2 τ
  have g23 : Gr H.size H H3 := a4.trans g3 (Nat.le_of_lt a5)
  have a3' := a3.gr g3 a5
  have l3 : lLoadN 3 [.ptr H.size 0] H3 = some (.agg (it9 x)) := load_cells a3'.cells (by simp [it9])
  have ho3 : OwnN _ _ _ _ _ _ := ⟨ho.1.gr g23 hw (Nat.le_refl _), ho.2⟩
  have e6 : wr .i64 ((pre.length : Int) + Int.ofNat 1) = ((pre ++ [x]).length : Int) := by rw [adI (by omega)]; simp
  have hB3 : H0.size ≤ H3.size := Nat.le_trans hg.size g23.size
  cases hfx : f x with
  | true =>
   rw [hfx] at k3
   have b0 : eBuildSlice 1 3 [(.int .i64 (.ofNat 0)), (.str []), (.str [])] [(0, 3)] [.agg (it9 x)] H3 τ3 = some (.sl H3.size 0 1 1 none 3, H3.new (it9 x) 3 false, τ3) := rfl
   obtain ⟨v', H4, τ4, r1, r2, r3⟩ := ho3.1.putN (bytes := 40) g3.wf hB3 (it9 x) rfl rfl (by omega) (by omega) τ3 false
   have hcs : it9C acc ++ it9 x = it9C (acc ++ [x]) := by rw [it9C_append]; simp [it9C]
   rw [hcs] at r2
   have g04 : Gr H0.size H H4 := (g23.weaken hg.size).trans r3 (Nat.le_refl _)
   obtain ⟨v5', H', τ', s1, s2, s3⟩ := ih (pre ++ [x]) (acc ++ [x]) v' M H4 τ4 (by rw [he]; simp) (by simp at hM; omega) (hg.trans g04 (Nat.le_refl _)) ⟨by simpa using r2, fun h => by simp at h⟩ (by simp; omega)
   have hfm : acc ++ (x :: l).filter f = (acc ++ [x]) ++ l.filter f := by rw [List.filter_cons, hfx]; simp
   refine ⟨v5', H', τ', by rw [hfm]; exact s1, g04.trans s2 (Nat.le_refl _), fun fr k f1 f5 f8 f9 f10 => ?_⟩
   rw [loopK_succ]
   simp only [s_integrity_chosen_l1, getK_mk f1, getK_mk f5, getK_mk f8, getK_mk f9, getK_mk f10, bin_lss, e1, condK_tn, p1, q1, someK_n, a1, a2, effK_n, l2, k3, l3, b0, r1, s_integrity_chosen_j2, getK_set, ↓reduceIte, Nat.reduceEqDiff, bin_add, e6]
   exact s3 _ _ (by simp [T.get_set]) (by simp [T.get_set]) (by simp [T.get_set]) (by simp [T.get_set]) (by simp [T.get_set])
  | false =>
   rw [hfx] at k3
   have g04 : Gr H0.size H H3 := g23.weaken hg.size
   obtain ⟨v5', H', τ', s1, s2, s3⟩ := ih (pre ++ [x]) acc v5 M H3 τ3 (by rw [he]; simp) (by simp at hM; omega) (hg.trans g04 (Nat.le_refl _)) ho3 (by simp; omega)
   have hfm : acc ++ (x :: l).filter f = acc ++ l.filter f := by rw [List.filter_cons, hfx]; rfl
   refine ⟨v5', H', τ', by rw [hfm]; exact s1, g04.trans s2 (Nat.le_refl _), fun fr k f1 f5 f8 f9 f10 => ?_⟩
   rw [loopK_succ]
   simp only [s_integrity_chosen_l1, getK_mk f1, getK_mk f5, getK_mk f8, getK_mk f9, getK_mk f10, bin_lss, e1, condK_tn, p1, q1, someK_n, a1, a2, effK_n, l2, k3, condK_fn, s_integrity_chosen_j2, getK_set, ↓reduceIte, Nat.reduceEqDiff, bin_add, e6]
   exact s3 _ _ (by simp [T.get_set]) (by simp [T.get_set]) (by simp [T.get_set]) (by simp [T.get_set]) (by simp [T.get_set])
theorem s_integrity_chosen_ret (c : CallK) {N : Nat} (hN : 9223372036854775807 ≤ N) (f : It9 → Bool) (fv : V) (its : List It9) (hil : its.length ≤ 200000000000) (H : Heap) (hw : WF H) (v : V) (hr : Rd H 3 v its.length (it9C its)) (hf : TestP c fv f H.size H its) (τ : Tape) :
  ∃ v' H' τ', OwnN H' H.size 3 v' (its.filter f).length (it9C (its.filter f)) ∧ Gr H.size H H' ∧ ∀ q, s_integrity_chosen c N v fv H τ q = q v' H' τ' := by
 obtain ⟨v', H', τ', s1, s2, s3⟩ := l_chosen c N f fv its hil H hw v hr hf its [] [] .nils N H τ rfl (by omega) (Gr.refl hw) (OwnN.nil _ _ _) (Nat.le_refl _)
 refine ⟨v', H', τ', by simpa using s1, s2, fun q => ?_⟩
 simp only [s_integrity_chosen, hr.pLen, someK_n]
 rw [s3 _ _ (by simp [T.get_set]) (by simp [T.get_set]) (by simp [T.get_set]) (by simp [T.get_set]) (by simp [T.get_set])]
 simp only [blockK, Nat.beq_refl, cond_true, seqK, s_integrity_chosen_j0, getK_set, ↓reduceIte]
abbrev ChosenOk (c c' : CallK) : Prop := ∀ (f : It9 → Bool) (fv : V) (its : List It9), its.length ≤ 200000000000 → ∀ (H : Heap), WF H → ∀ v, Rd H 3 v its.length (it9C its) → TestP c' fv f H.size H its → ∀ τ,
 ∃ v' H' τ', OwnN H' H.size 3 v' (its.filter f).length (it9C (its.filter f)) ∧ Gr H.size H H' ∧ ∀ q, c f_integrity_chosen [v, fv] H τ q = q v' H' τ'
theorem s_integrity_Strongest_1_ret (c : CallK) (N : Nat) (x : It9) (m most : Nat) (H : Heap) (hw : WF H) (hm : H.cells? m = some [.int .i64 (most : Int)]) (τ : Tape) :
  ∃ H', Gr H.size H H' ∧ ∀ q, s_integrity_Strongest_1 c N (.agg (it9 x)) (.ptr m 0) H τ q = q (.bool (decide (x.1 = most))) H' τ := by
 have g := Gr.new hw (it9 x) 3 true
 have cc := cells_new H (it9 x) 3 true
 have b0 : eBox [.agg (it9 x)] H τ = some (.ptr H.size 0, H.new (it9 x) 3 true, τ) := rfl
 refine ⟨_, g, fun q => ?_⟩
 have l0 : lLoad1 [.ptr H.size 0] (H.new (it9 x) 3 true) = some (.int .i64 (x.1 : Int)) := load_cell cc rfl
 have l1 : lLoad1 [.ptr m 0] (H.new (it9 x) 3 true) = some (.int .i64 (most : Int)) := load_cell (g.cells hw (Nat.le_refl _) hm) rfl
 have e : (((x.1 : Nat) : Int) == (most : Int)) = decide (x.1 = most) := by
  rw [Bool.eq_iff_iff]; simp only [beq_iff_eq, decide_eq_true_eq]; omega
 simp only [s_integrity_Strongest_1, b0, effK_n, pFieldAddr, Nat.zero_add, Nat.add_zero, someK_n, l0, l1, bin_eql, e]
def mostB (l : List It9) : Nat := l.foldl (fun m x => max m x.1) 0
def strongB (l : List It9) : List It9 := l.filter fun x => decide (x.1 = mostB l)
theorem mostB_snoc (l : List It9) (x : It9) : mostB (l ++ [x]) = max (mostB l) x.1 := by unfold mostB; rw [List.foldl_append]; rfl
theorem l_strongest (c : CallK) (N : Nat) (its : List It9) (hil : its.length ≤ 200000000000) (H0 : Heap) (hw0 : WF H0) (v0 v6 : V) (hr : Rd H0 3 v6 its.length (it9C its)) (m : Nat) (hm : H0.size ≤ m) :
  ∀ (l pre : List It9) (M : Nat) (H : Heap) (τ : Tape), its = pre ++ l → l.length < M → Gr H0.size H0 H → Bx H m [.int .i64 (mostB pre : Int)] →
  ∃ H', Bx H' m [.int .i64 (mostB its : Int)] ∧ Gr H0.size H H' ∧
   ∀ (fr : T V) k, fr.get 0 = some v0 → fr.get 3 = some (.ptr m 0) → fr.get 6 = some v6 → fr.get 7 = some (.int .i64 (its.length : Int)) → fr.get 8 = some (.int .i64 (pre.length : Int)) →
    loopK (s_integrity_Strongest_l1 c N) M ⟨fr, H⟩ τ k = k (.exit 0) ⟨(T.set (T.set .leaf 0 v0) 3 (.ptr m 0)), H'⟩ τ := by
 intro l
 induction l with
 | nil =>
  intro pre M H τ he hM hg hb
  obtain ⟨M, rfl⟩ : ∃ j, M = j + 1 := ⟨M - 1, by omega⟩
  rw [List.append_nil] at he
  have e1 : decide ((pre.length : Int) < (its.length : Int)) = false := decide_eq_false (by rw [he]; omega)
  refine ⟨H, by rw [he]; exact hb, Gr.refl hg.wf, fun fr k f0 f3 f6 f7 f8 => ?_⟩
  rw [loopK_succ]
  simp only [s_integrity_Strongest_l1, getK_mk f0, getK_mk f3, getK_mk f6, getK_mk f7, getK_mk f8, bin_lss, e1, condK_fn]
  rfl
 | cons x l ih =>
  intro pre M H τ he hM hg hb
  obtain ⟨M, rfl⟩ : ∃ j, M = j + 1 := ⟨M - 1, by omega⟩
  have hw := hg.wf
  have hlt : pre.length < its.length := by rw [he]; simp
  have e1 : decide ((pre.length : Int) < (its.length : Int)) = true := decide_eq_true (by omega)
  have hrH := hr.gr hg hw0 (Nat.le_refl _)
  obtain ⟨id, o, p1, p2⟩ := hrH.at (by omega) hlt
  obtain ⟨q1, _⟩ := p2 H _ hrH
  rw [he, it9C_at] at q1
  have hmlt := hb.lt hw
  obtain ⟨H1, H2, a1, a2, a3, a4, a5⟩ := boxN hw 3 [(.int .i64 (.ofNat 0)), (.str []), (.str [])] (it9 x) rfl rfl (by omega) rfl τ
  have hb2 := hb.gr a4 hmlt
  have l2 : lLoad1 [.ptr H.size 0] H2 = some (.int .i64 (x.1 : Int)) := load_cell a3.cells rfl
  have l3 : lLoad1 [.ptr m 0] H2 = some (.int .i64 (mostB pre : Int)) := load_cell hb2.cells rfl
  obtain ⟨H3, s1, s2, s3⟩ := hb2.eStore a4.wf 0 (.int .i64 (x.1 : Int)) 1 rfl (by simp) (by omega) rfl τ
  have s2' : Bx H3 m [.int .i64 (x.1 : Int)] := s2
  have e6 : wr .i64 ((pre.length : Int) + Int.ofNat 1) = ((pre ++ [x]).length : Int) := by rw [adI (by omega)]; simp
  have g02 : Gr H0.size H H2 := a4.weaken hg.size
  have g03 : Gr H0.size H H3 := g02.trans (s3.gr hm) (Nat.le_refl _)
  by_cases h0 : pre.length = 0
  ·have hp : pre = [] := List.length_eq_zero_iff.1 h0
   subst hp
   have e2 : (((([] : List It9).length : Nat) : Int) == Int.ofNat 0) = true := rfl
   have hmx : mostB ([] ++ [x]) = x.1 := by rw [mostB_snoc]; show max 0 x.1 = x.1; omega
   obtain ⟨H', r1, r2, r3⟩ := ih ([] ++ [x]) M H3 τ (by rw [he]; simp) (by simp at hM; omega) (hg.trans g03 (Nat.le_refl _)) (by rw [hmx]; exact s2')
   refine ⟨H', r1, g03.trans r2 (Nat.le_refl _), fun fr k f0 f3 f6 f7 f8 => ?_⟩
   rw [loopK_succ]
   simp only [s_integrity_Strongest_l1, getK_mk f0, getK_mk f3, getK_mk f6, getK_mk f7, getK_mk f8, bin_lss, e1, condK_tn, p1, q1, someK_n, a1, a2, effK_n, bin_eql, e2, gK_skip', gK_none, pick_mk, cond_true, pFieldAddr, Nat.zero_add, Nat.add_zero, l2, s1, s_integrity_Strongest_j2, getK_set, ↓reduceIte, Nat.reduceEqDiff, bin_add, e6]
   exact r3 _ _ (by simp [T.get_set]) (by simp [T.get_set]) (by simp [T.get_set]) (by simp [T.get_set]) (by simp [T.get_set])
  ·have e2 : (((pre.length : Nat) : Int) == Int.ofNat 0) = false := beq_eq_false_iff_ne.2 (fun h => h0 (by have : Int.ofNat 0 = 0 := rfl; omega))
   by_cases hgt : mostB pre < x.1
   ·have e3 : decide ((mostB pre : Int) < (x.1 : Int)) = true := decide_eq_true (by omega)
    have hmx : mostB (pre ++ [x]) = x.1 := by rw [mostB_snoc]; omega
    obtain ⟨H', r1, r2, r3⟩ := ih (pre ++ [x]) M H3 τ (by rw [he]; simp) (by simp at hM; omega) (hg.trans g03 (Nat.le_refl _)) (by rw [hmx]; exact s2')
    refine ⟨H', r1, g03.trans r2 (Nat.le_refl _), fun fr k f0 f3 f6 f7 f8 => ?_⟩
    rw [loopK_succ]
    simp only [s_integrity_Strongest_l1, getK_mk f0, getK_mk f3, getK_mk f6, getK_mk f7, getK_mk f8, bin_lss, e1, condK_tn, p1, q1, someK_n, a1, a2, effK_n, bin_eql, e2, gK_do', retK, bin_gtr, l3, e3, pick_mk, cond_false, pFieldAddr, Nat.zero_add, Nat.add_zero, l2, s1, s_integrity_Strongest_j2, getK_set, ↓reduceIte, Nat.reduceEqDiff, bin_add, e6]
    exact r3 _ _ (by simp [T.get_set]) (by simp [T.get_set]) (by simp [T.get_set]) (by simp [T.get_set]) (by simp [T.get_set])
   ·have e3 : decide ((mostB pre : Int) < (x.1 : Int)) = false := decide_eq_false (by omega)
    have hmx : mostB (pre ++ [x]) = mostB pre := by rw [mostB_snoc]; omega
    obtain ⟨H', r1, r2, r3⟩ := ih (pre ++ [x]) M H2 τ (by rw [he]; simp) (by simp at hM; omega) (hg.trans g02 (Nat.le_refl _)) (by rw [hmx]; exact hb2)
    refine ⟨H', r1, g02.trans r2 (Nat.le_refl _), fun fr k f0 f3 f6 f7 f8 => ?_⟩
    rw [loopK_succ]
    simp only [s_integrity_Strongest_l1, getK_mk f0, getK_mk f3, getK_mk f6, getK_mk f7, getK_mk f8, bin_lss, e1, condK_tn, p1, q1, someK_n, a1, a2, effK_n, bin_eql, e2, gK_do', retK, bin_gtr, l3, e3, pick_mk, cond_false, pFieldAddr, Nat.zero_add, Nat.add_zero, l2, condK_fn, s_integrity_Strongest_j2, getK_set, ↓reduceIte, Nat.reduceEqDiff, bin_add, e6]
    exact r3 _ _ (by simp [T.get_set]) (by simp [T.get_set]) (by simp [T.get_set]) (by simp [T.get_set]) (by simp [T.get_set])
theorem s_integrity_Strongest_ret (c c' : CallK) {N : Nat} (hN : 9223372036854775807 ≤ N) (hC : ChosenOk c c') (hT : ∀ (x : It9) (m most : Nat) (H : Heap), WF H → H.cells? m = some [.int .i64 (most : Int)] → ∀ τ, ∃ H', Gr H.size H H' ∧ ∀ q, c' f_integrity_Strongest_1 [.agg (it9 x), .ptr m 0] H τ q = q (.bool (decide (x.1 = most))) H' τ)
  (its : List It9) (hil : its.length ≤ 200000000000) (H : Heap) (hw : WF H) (v : V) (hr : Rd H 3 v its.length (it9C its)) (τ : Tape) :
  ∃ v' H' τ', OwnN H' H.size 3 v' (strongB its).length (it9C (strongB its)) ∧ Gr H.size H H' ∧ ∀ q, s_integrity_Strongest c N v H τ q = q v' H' τ' := by
 obtain ⟨H1, H2, a1, a2, a3, a4, a5⟩ := boxN hw 1 [(.int .i64 (.ofNat 0))] [.int .i64 (0 : Int)] rfl rfl (by omega) rfl τ
 have a2' : eStore 1 [.ptr H.size 0, .int .i64 (.ofNat 0)] H1 τ = some (.tup [], H2, τ) := a2
 obtain ⟨H3, r1, r2, r3⟩ := l_strongest c N its hil H hw v v hr H.size (Nat.le_refl _) its [] N H2 τ rfl (by omega) a4 a3
 have g3 : Gr H.size H H3 := a4.trans r2 (Nat.le_refl _)
 have h3 : H.size < H3.size := r1.lt g3.wf
 obtain ⟨v', H', τ', s1, s2, s3⟩ := hC (fun x => decide (x.1 = mostB its)) (.func f_integrity_Strongest_1 [] [.ptr H.size 0]) its hil H3 g3.wf v (hr.gr g3 hw (Nat.le_refl _)) (fun x _ H4 g4 τ4 => by
  obtain ⟨H5, g5, k5⟩ := hT x H.size (mostB its) H4 g4.wf (r1.gr g4 h3).cells τ4
  exact ⟨H5, τ4, g5, fun q => k5 q⟩) τ
 refine ⟨v', H', τ', ⟨s1.1.weaken0 (Nat.le_of_lt h3), s1.2⟩, g3.trans s2 g3.size, fun q => ?_⟩
 simp only [s_integrity_Strongest, a1, a2', effK_n, hr.pLen, someK_n]
 rw [r3 _ _ (by simp [T.get_set]) (by simp [T.get_set]) (by simp [T.get_set]) (by simp [T.get_set]) (by simp [T.get_set])]
 simp only [blockK, Nat.beq_refl, cond_true, seqK, s_integrity_Strongest_j0, getK_set, ↓reduceIte, Nat.reduceEqDiff, someK_n, List.take_zero, List.drop_zero, s3]
end Go.Am.X

namespace Go.Am.X
end Go.Am.X

namespace Go.Am.X
theorem blankN_S (x : UInt8) : blankN x.toNat = blankS.contains x := by
 unfold blankN blankS
 simp only [List.contains_cons, List.contains_nil, Bool.or_false, u8beq]
 have e : ∀ n : Nat, n < 256 → decide (x.toNat = n) = decide (x.toNat = (UInt8.ofNat n).toNat) := fun n hn => by rw [UInt8.toNat_ofNat']; congr 2; omega
 rw [e 9 (by omega), e 10 (by omega), e 12 (by omega), e 13 (by omega), e 32 (by omega)]
 simp only [Bool.or_assoc]
 rfl
end Go.Am.X

namespace Go.Am.X
theorem it9C_at0 (pre : List It9) (x : It9) (l : List It9) : (it9C (pre ++ x :: l))[pre.length * 3 + 0]? = some (.int .i64 (x.1 : Int)) := by
 rw [it9C_append, List.getElem?_append_right (by rw [it9C_length]; omega), it9C_length, Nat.add_sub_cancel_left]; rfl
theorem it9C_at1 (pre : List It9) (x : It9) (l : List It9) : (it9C (pre ++ x :: l))[pre.length * 3 + 1]? = some (.str x.2.1) := by
 rw [it9C_append, List.getElem?_append_right (by rw [it9C_length]; omega), it9C_length, Nat.add_sub_cancel_left]; rfl
theorem it9C_at2 (pre : List It9) (x : It9) (l : List It9) : (it9C (pre ++ x :: l))[pre.length * 3 + 2]? = some (.str x.2.2) := by
 rw [it9C_append, List.getElem?_append_right (by rw [it9C_length]; omega), it9C_length, Nat.add_sub_cancel_left]; rfl
theorem it9_read {H : Heap} {v : V} (pre : List It9) (x : It9) (l : List It9) (hr : Rd H 3 v (pre ++ x :: l).length (it9C (pre ++ x :: l))) :
  ∃ id o, pSlIdx 3 [v, .int .i64 (pre.length : Int)] = some (.ptr id o) ∧ lLoadN 3 [.ptr id o] H = some (.agg (it9 x)) ∧ lLoad1 [.ptr id o] H = some (.int .i64 (x.1 : Int)) ∧ lLoad1 [.ptr id (o + 1)] H = some (.str x.2.1) ∧ lLoad1 [.ptr id (o + 2)] H = some (.str x.2.2) := by
 obtain ⟨id, o, k1, k2⟩ := hr.at (by omega) (i := pre.length) (by simp)
 obtain ⟨q1, q2⟩ := k2 H _ hr
 rw [it9C_at] at q1
 exact ⟨id, o, k1, q1, q2 0 _ (by omega) (it9C_at0 _ _ _), q2 1 _ (by omega) (it9C_at1 _ _ _), q2 2 _ (by omega) (it9C_at2 _ _ _)⟩
end Go.Am.X

namespace Go.Am.X
def shrT (k : IntKind) (x n : Nat) : Nat := x / 2 ^ min n k.bits
end Go.Am.X

namespace Go.Am.X
end Go.Am.X

namespace Go.Am.X
end Go.Am.X

namespace Go.Am.X
end Go.Am.X

namespace Go.Am.X
end Go.Am.X

namespace Go.Am.X
end Go.Am.X

namespace Go.Am.X
end Go.Am.X

namespace Go.Am.X
end Go.Am.X

namespace Go.Am.X
end Go.Am.X

namespace Go.Am.X
end Go.Am.X

namespace Go.Am.X
end Go.Am.X

namespace Go.Am.X
end Go.Am.X

namespace Go.Am.X
end Go.Am.X

namespace Go.Am.X
end Go.Am.X

namespace Go.Am.X
end Go.Am.X

namespace Go.Am.X
end Go.Am.X

namespace Go.Am.X
end Go.Am.X

namespace Go.Am.X
end Go.Am.X

namespace Go.Am.X
end Go.Am.X

namespace Go.Am.X
theorem Own.weaken {H : Heap} {B C z : Nat} {v : V} {n : Nat} {cs : List V} (h : Own H C z v n cs) (hBC : B ≤ C) : Own H B z v n cs := by
 rcases h with h | ⟨id, e, room, fam, ver, pl, st, fr, h1, h2, h3, h4, h5, h6, h7⟩
 ·exact .inl h
 ·exact .inr ⟨id, e, room, fam, ver, pl, st, fr, h1, h2, h3, h4, by omega, by omega, h7⟩
end Go.Am.X

namespace Go.Am.X
end Go.Am.X

namespace Go.Am.X
end Go.Am.X

namespace Go.Am.X
end Go.Am.X

namespace Go.Am.X
end Go.Am.X

namespace Go.Am.X
end Go.Am.X

namespace Go.Am.X
end Go.Am.X

namespace Go.Am.X
def constR (bits k : Nat) : Nat := if bits = 32 then shrT .u64 k 32 else k
end Go.Am.X

namespace Go.Am.X
end Go.Am.X

namespace Go.Am.X
end Go.Am.X

namespace Go.Am.X
def hR (K : List Nat) (wb fr : Nat) : Nat → Nat → List Nat → List Nat
 | 0, _, h => h
 | n + 1, i, h => hR K wb fr n (i + 1) (h.set i (constR wb (K.getD (80 + (fr + i)) 0)))
end Go.Am.X

namespace Go.Am.X
end Go.Am.X

namespace Go.Am.X
end Go.Am.X

namespace Go.Am.X
end Go.Am.X

namespace Go.Am.X
end Go.Am.X

namespace Go.Am.X
end Go.Am.X

namespace Go.Am.X
end Go.Am.X

namespace Go.Am.X
end Go.Am.X

namespace Go.Am.X
end Go.Am.X

namespace Go.Am.X
end Go.Am.X

namespace Go.Am.X
end Go.Am.X

namespace Go.Am.X
end Go.Am.X

namespace Go.Am.X
end Go.Am.X

namespace Go.Am.X
theorem tabsG_plain : plainL tabsG = true := by kernel_rfl
end Go.Am.X

namespace Go.Am.X
end Go.Am.X

namespace Go.Am.X
end Go.Am.X

namespace Go.Am.X
end Go.Am.X

namespace Go.Am.X
theorem Rd.src {H : Heap} {v : V} {n : Nat} {cs : List V} (h : Rd H 1 v n cs) (hn : 0 < n) : Src H v := by
 rcases h with ⟨_, h0, _⟩ | ⟨id, off, lo, ex, all, rfl, h1, _, _⟩
 ·omega
 ·exact ⟨all, h1⟩
end Go.Am.X

namespace Go.Am.X
end Go.Am.X

namespace Go.Am.X
theorem someN9 : ∃ N : Nat, 9223372036854775808 < N := ⟨9223372036854775809, by decide⟩
theorem it9C_inj : ∀ {a b : List It9}, it9C a = it9C b → a = b := by
 intro a
 induction a with
 | nil => intro b h; cases b with
  | nil => rfl
  | cons y b => simp [it9C, it9] at h
 | cons x a ih => intro b h; cases b with
  | nil => simp [it9C, it9] at h
  | cons y b =>
   simp only [it9C, it9, List.cons_append, List.nil_append, List.cons.injEq, V.int.injEq, V.str.injEq, true_and] at h
   obtain ⟨h1, h2, h3, h4⟩ := h
   rw [ih h4]
   obtain ⟨x1, x2, x3⟩ := x
   obtain ⟨y1, y2, y3⟩ := y
   simp only at h1 h2 h3
   subst h2; subst h3
   rw [show x1 = y1 by omega]
theorem it9C_vok (H : Heap) (l : List It9) : VsOk H (it9C l) := by
 induction l with
 | nil => trivial
 | cons h l ih => exact ⟨trivial, trivial, trivial, ih⟩
def RO (M : Nat) (g : Bs → Out) (vs : List V) (_ : Heap) (o : Out) : Prop := ∃ s, vs = [.str s] ∧ s.length ≤ M ∧ o = g s
theorem RO_fun (M : Nat) (g : Bs → Out) : Fun1 (RO M g) := by
 rintro vs H o o' ⟨s, rfl, _, rfl⟩ ⟨s', e, _, rfl⟩
 cases e; rfl
def RI (g : List It9 → Out) (vs : List V) (H : Heap) (o : Out) : Prop := ∃ v l, vs = [v] ∧ Rd H 3 v l.length (it9C l) ∧ l.length ≤ 100000000000 ∧ o = g l
theorem RI_fun (g : List It9 → Out) : Fun1 (RI g) := by
 rintro vs H o o' ⟨v, l, rfl, h1, _, rfl⟩ ⟨v', l', e, h2, _, rfl⟩
 cases e
 rw [it9C_inj (h1.uniq h2).2]
def itO (l : List It9) : Out := lstO 3 l.length (it9C l) fun v => v
theorem OwnN.met {H H' : Heap} {v : V} {l : List It9} (h : OwnN H' H.size 3 v l.length (it9C l)) : (itO l).Met H v H' := by
 unfold itO lstO
 by_cases hn : l.length = 0
 ·rw [if_pos hn, h.2 hn]; exact ⟨rfl, trivial⟩
 ·rw [if_neg hn]
  refine ⟨mkOk_id, it9C_vok _ _, v, rfl, h.1.freshL fun e => ?_⟩
  rcases h.1 with ⟨_, h0, _⟩ | ⟨_, _, _, _, _, _, _, _, e', _⟩
  ·exact hn h0
  ·rw [e] at e'; cases e'
abbrev ParR := RO 1000000000 fun s => itO (parseB s)
abbrev StrR := RI fun l => itO (strongB l)
theorem s_Parse_1_rune (c : CallK) (N : Nat) {c1 c2 : CallK} (N1 N2 : Nat) (hI : ∀ (r : Nat) (H : Heap), WF H → ∀ τ, ∃ H', Gr H.size H H' ∧ ∀ q, c2 f_strings_IndexRune [.str blankS, .int .i32 (r : Int)] H τ q = q (.int .i64 (if r < 128 then idxB r blankS 0 else -1)) H' τ)
  (h2 : ∀ a b H τ q, c1 f_strings_ContainsRune [a, b] H τ q = s_strings_ContainsRune c2 N2 a b H τ q) (h1 : ∀ a H τ q, c f_integrity_Parse_1 [a] H τ q = s_integrity_Parse_1 c1 N1 a H τ q) : RuneP c (.func f_integrity_Parse_1 [] []) blankS.contains := by
 intro r H τ hw
 obtain ⟨H', g, k⟩ := hI r H hw τ
 refine ⟨H', g, fun q => ?_⟩
 show c f_integrity_Parse_1 [.int .i32 (r : Int)] H τ q = _
 have hb : bs [9, 10, 12, 13, 32] = blankS := rfl
 have e : decide (Int.ofNat 0 ≤ (if r < 128 then idxB r blankS 0 else -1)) = rp blankS.contains r := by
  unfold rp
  by_cases h : r < 128
  ·rw [if_pos h, if_pos h]
   have := idx_has (UInt8.ofNat r) blankS
   rw [UInt8.toNat_ofNat', Nat.mod_eq_of_lt (by omega)] at this
   exact this
  ·rw [if_neg h, if_neg h]; decide
 rw [h1]
 simp only [s_integrity_Parse_1, hb, h2, s_strings_ContainsRune, k, bin_geq, e]
noncomputable abbrev rw_Parse : List Row := [Row.fn f_integrity_Parse fn_integrity_Parse e_integrity_Parse, Row.fn f_strings_FieldsFunc fn_strings_FieldsFunc e_strings_FieldsFunc, Row.fn f_integrity_Parse_1 fn_integrity_Parse_1 e_integrity_Parse_1, Row.fn f_strings_ContainsRune fn_strings_ContainsRune e_strings_ContainsRune, Row.fn f_strings_IndexRune fn_strings_IndexRune e_strings_IndexRune, Row.fn f_utf8_ValidRune fn_utf8_ValidRune e_utf8_ValidRune, Row.fn f_strings_IndexByte fn_strings_IndexByte e_strings_IndexByte, Row.prim f_stringslite_IndexByte idxP, Row.prim f_strings_Cut (outP CutR), Row.fn f_integrity_bits fn_integrity_bits e_integrity_bits, Row.prim f_infra_Lower (outP LowR)]
theorem p_integrity_Parse : ∀ base w0, PrimOk PG base w0 f_integrity_Parse (outP ParR) := by
 obtain ⟨N, hN⟩ := someN9
 refine primOk_out mixed_ok (l := rw_Parse) (.fn ok_integrity_Parse e_integrity_Parse_ok (.fn ok_strings_FieldsFunc e_strings_FieldsFunc_ok (.fn ok_integrity_Parse_1 e_integrity_Parse_1_ok (.fn ok_strings_ContainsRune e_strings_ContainsRune_ok (.fn ok_strings_IndexRune e_strings_IndexRune_ok (.fn ok_utf8_ValidRune e_utf8_ValidRune_ok (.fn ok_strings_IndexByte e_strings_IndexByte_ok (.prim idxP_ok (.prim p_strings_Cut (.fn ok_integrity_bits e_integrity_bits_ok (.prim p_infra_Lower (.nil _)))))))))))) N 7 _ ?_
 rintro vs H o hw hvs ⟨s, rfl, hs, rfl⟩ τ
 have hI : Idx70 (CR rw_Parse N 2) := fun s x H τ q => s_strings_IndexByte_ret (CR rw_Parse N 1) N (k_idx fun _ _ _ _ => rfl) s x H τ q
 have hR : RuneP (CR rw_Parse N 5) (.func f_integrity_Parse_1 [] []) blankS.contains := s_Parse_1_rune (CR rw_Parse N 5) N (c1 := CR rw_Parse N 4) (c2 := CR rw_Parse N 3) N N (fun r H hw τ => s_strings_IndexRune_ret (CR rw_Parse N 2) N (by omega) hI (fun n H τ => s_utf8_ValidRune_ret (CR rw_Parse N 1) N n H τ) blankS (by decide) (by decide) r H hw τ) (fun _ _ _ _ _ => rfl) (fun _ _ _ _ => rfl)
 have hF : FldOk (CR rw_Parse N 6) := fun s hs H hw τ => s_strings_FieldsFunc_ret (CR rw_Parse N 5) (by omega) blankS.contains (.func f_integrity_Parse_1 [] []) hR (fun x hx => by
  cases h : blankS.contains x with
  | false => rfl
  | true =>
   rw [← blankN_S] at h
   unfold blankN at h
   simp only [Bool.or_eq_true, decide_eq_true_eq] at h
   omega) s hs H hw τ
 have hL : NLowOk (CR rw_Parse N 5) := k_infra_Lower fun _ _ _ _ => rfl
 have hB : BitsOk (CR rw_Parse N 6) f_integrity_bits := fun s hs H τ q => s_integrity_bits_ret (CR rw_Parse N 5) N hL s hs H τ q
 obtain ⟨v, H', τ', r1, r2, r3⟩ := s_integrity_Parse_ret (CR rw_Parse N 6) (N := N) (by omega) hF (k_strings_Cut fun _ _ _ _ => rfl) hB s (by omega) H hw τ
 exact ⟨v, H', τ', r3 retK, r2, r1.met⟩
noncomputable abbrev rw_Strongest : List Row := [Row.fn f_integrity_Strongest fn_integrity_Strongest e_integrity_Strongest, Row.fn f_integrity_chosen fn_integrity_chosen e_integrity_chosen, Row.fn f_integrity_Strongest_1 fn_integrity_Strongest_1 e_integrity_Strongest_1]
theorem p_integrity_Strongest : ∀ base w0, PrimOk PG base w0 f_integrity_Strongest (outP StrR) := by
 obtain ⟨N, hN⟩ := someN9
 refine primOk_out mixed_ok (l := rw_Strongest) (.fn ok_integrity_Strongest e_integrity_Strongest_ok (.fn ok_integrity_chosen e_integrity_chosen_ok (.fn ok_integrity_Strongest_1 e_integrity_Strongest_1_ok (.nil _)))) N 3 _ ?_
 rintro vs H o hw hvs ⟨v, l, rfl, hr, hl, rfl⟩ τ
 have hC : ChosenOk (CR rw_Strongest N 2) (CR rw_Strongest N 1) := fun f fv its hil H hw v hr hf τ => s_integrity_chosen_ret (CR rw_Strongest N 1) (N := N) (by omega) f fv its hil H hw v hr (fun x hx H' g τ => hf x hx H' g τ) τ
 obtain ⟨v', H', τ', r1, r2, r3⟩ := s_integrity_Strongest_ret (CR rw_Strongest N 2) (CR rw_Strongest N 1) (N := N) (by omega) hC (fun x m most H hw hm τ => s_integrity_Strongest_1_ret (CR rw_Strongest N 0) N x m most H hw hm τ) l (by omega) H hw v hr τ
 exact ⟨v', H', τ', r3 retK, r2, r1.met⟩
end Go.Am.X

namespace Go.Am.X
end Go.Am.X

namespace Go.Am.X
end Go.Am.X

namespace Go.Am.X
end Go.Am.X

