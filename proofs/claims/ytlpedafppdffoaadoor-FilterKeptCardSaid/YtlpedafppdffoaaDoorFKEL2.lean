/- The abstract machine, printed functions of the program, and what they are shown to be. -/
import Derived.Test.YtlpedafppdffoaaDoorFKEL1
import Derived.Test.YtlpedafppdffoaaDoorFKEM4
import Derived.Test.YtlpedafppdffoaaDoorFKEM5
set_option linter.unusedSimpArgs false
set_option linter.unusedVariables false
set_option linter.unusedSectionVars false
set_option maxRecDepth 100000
namespace Go.Am.X
theorem someN : ∃ N : Nat, 9223372036854775807 < N := ⟨9223372036854775808, by decide⟩
theorem primRV {N : Nat} {l : List Row} (hl : RowsOk PG l) (d f : Nat) {Pre : List V → Prop} {g : List V → V} (hv : ∀ vs H, Pre vs → VOk H (g vs)) (h : ∀ vs, Pre vs → ∀ H, WF H → ∀ τ, ∃ H' τ', Gr H.size H H' ∧ ∀ q, CR l N d f vs H τ q = q (g vs) H' τ') : ∀ base w0, PrimOk PG base w0 f (outP (RV Pre g)) := by
 refine primOk_out mixed_ok hl N d f ?_
 rintro vs H o hw hvs ⟨hp, rfl⟩ τ
 obtain ⟨H', τ', g1, k1⟩ := h vs hp H hw τ
 exact ⟨_, H', τ', k1 retK, g1, rfl, hv vs H hp⟩
abbrev IsP (c : CallK) (f : Nat) (R : List V → Heap → Out → Prop) : Prop := ∀ vs H τ q, c f vs H τ q = effK (outP R vs H τ) q
abbrev TokR := RS 9223372036854775806 fun s => .bool (tokT s)
end Go.Am.X

namespace Go.Am.X
end Go.Am.X

namespace Go.Am.X
def LsH (H : Heap) (B : Nat) (v : V) (hs : List Hd) : Prop := Own H B 2 v hs.length (hcells hs) ∧ (hs = [] → v = .nils)
theorem LsH.nil (H : Heap) (B : Nat) : LsH H B .nils [] := ⟨Own.nil _ _ _, fun _ => rfl⟩
theorem LsH.gr {H H' : Heap} {B C : Nat} {v : V} {hs : List Hd} (h : LsH H B v hs) (hg : Gr C H H') (hw : WF H) (hC : H.size ≤ C) : LsH H' B v hs := ⟨h.1.gr hg hw hC, h.2⟩
theorem LsH.rdH {H : Heap} {B : Nat} {v : V} {hs : List Hd} (h : LsH H B v hs) : RdH H v hs := ⟨h.1.rd, h.1.src⟩
theorem LsH.weaken {H : Heap} {B C : Nat} {v : V} {hs : List Hd} (h : LsH H C v hs) (hBC : B ≤ C) : LsH H B v hs := by
 refine ⟨?_, h.2⟩
 rcases h.1 with h | ⟨id, e, room, fam, ver, pl, st, fr, h1, h2, h3, h4, h5, h6, h7⟩
 ·exact .inl h
 ·exact .inr ⟨id, e, room, fam, ver, pl, st, fr, h1, h2, h3, h4, Nat.le_trans hBC h5, Nat.le_trans hBC h6, h7⟩
theorem LsH.put {H : Heap} {B : Nat} {v : V} {hs : List Hd} (h : LsH H B v hs) (hw : WF H) (hB : B ≤ H.size) (x : Hd) (hn : hs.length ≤ 1000000) (τ : Tape) :
  ∃ w H1 v' H' τ', eBuildSlice 1 2 [(.str []), (.str [])] [(0, 2)] [hv x] H τ = some (w, H1, τ) ∧ eAppend 2 32 [v, w] H1 τ = some (v', H', τ') ∧ LsH H' B v' (hs ++ [x]) ∧ Gr B H H' ∧ (∀ id cs, H.cells? id = some cs → H'.cells? id = some cs) ∧ (∀ id cs, H.cells? id = some cs → H1.cells? id = some cs) := by
 obtain ⟨w, H1, v', H', τ', r1, r2, r3, r4, r5, r6⟩ := put2 h.1.apd hw hB x hn τ
 have e : H1 = H.new [.str x.1, .str x.2] (1 * 2) false := by
  have : eBuildSlice 1 2 [(.str []), (.str [])] [(0, 2)] [.agg [.str x.1, .str x.2]] H τ = some (.sl H.size 0 1 1 none 2, H.new [.str x.1, .str x.2] (1 * 2) false, τ) := rfl
  rw [this] at r1
  simp only [Option.some.injEq, Prod.mk.injEq] at r1
  exact r1.2.1.symm
 refine ⟨w, H1, v', H', τ', r1, r2, ⟨?_, fun h => by simp at h⟩, r4, r5, fun id cs hc => ?_⟩
 ·have := r3.own (by omega)
  simpa using this
 ·rw [e]; exact (Gr.new hw _ _ _).cells hw (Nat.le_refl _) hc
theorem LsH.met {H H' : Heap} {v : V} {hs : List Hd} {mk : V → V} (h : LsH H' H.size v hs) (hmk : MkOk mk) (hnil : VOk H (mk .nils)) : (lstO 2 hs.length (hcells hs) mk).Met H (mk v) H' := by
 refine Got.met (h.1.apd.got) (fun h0 => h.2 (List.eq_nil_of_length_eq_zero h0)) hmk (hcells_vok _ _) hnil
end Go.Am.X

namespace Go.Am.X
theorem primRH {N : Nat} {l : List Row} (hl : RowsOk PG l) (d f : Nat) {Pre : List Hd → List V → Prop} {g : Bool → List Hd → List V → Out} (h : ∀ hs args, Pre hs args → ∀ lv H, WF H → RdH H lv hs → ∀ τ, ∃ v H' τ', Gr H.size H H' ∧ (g (isNil lv) hs args).Met H v H' ∧ ∀ q, CR l N d f (lv :: args) H τ q = q v H' τ') : ∀ base w0, PrimOk PG base w0 f (outP (RH Pre g)) := by
 refine primOk_out mixed_ok hl N d f ?_
 rintro vs H o hw hvs ⟨lv, args, hs, rfl, hr, hp, rfl⟩ τ
 obtain ⟨v, H', τ', g1, hm, k1⟩ := h hs args hp lv H hw hr τ
 exact ⟨_, H', τ', k1 retK, g1, hm⟩
theorem RdH.nils {H : Heap} {hs : List Hd} (h : RdH H .nils hs) : hs = [] := by
 rcases h.1 with ⟨_, h0, _⟩ | ⟨_, _, _, _, _, e, _⟩
 ·exact List.eq_nil_of_length_eq_zero h0
 ·cases e
abbrev FewHPre (hs : List Hd) : List V → Prop | [.int .i64 (.ofNat nn), .int .i64 (.ofNat mm)] => hs.length ≤ 9223372036854775807 ∧ 1 ≤ nn ∧ nn ≤ 1000 | _ => False
abbrev FewHG (_ : Bool) (hs : List Hd) : List V → Out | [.int .i64 (.ofNat nn), .int .i64 (.ofNat mm)] => lstO 2 (fewH nn mm hs).length (hcells (fewH nn mm hs)) (fun v => v) | _ => .val (.tup [])
theorem s_keep_Few_ret (c : CallK) (N : Nat) (s : Bs) (m : Nat) (H : Heap) (τ : Tape) (q : KV) : s_keep_Few c N (.str s) (.int .i64 (m : Int)) H τ q = q (.str (s.take m)) H τ := s14_eval c N s m H τ q
abbrev rw_FewH : List Row := [Row.fn f_keep_FewHeaders fn_keep_FewHeaders e_keep_FewHeaders, Row.fn f_keep_Few fn_keep_Few e_keep_Few]
theorem p_keep_FewHeaders : ∀ base w0, PrimOk PG base w0 f_keep_FewHeaders (outP (RH FewHPre FewHG)) := by
 obtain ⟨N, hN⟩ := someN
 refine primRH (N := N) (l := rw_FewH) (.fn ok_keep_FewHeaders e_keep_FewHeaders_ok (.fn ok_keep_Few e_keep_Few_ok (.nil _))) 2 _ (fun hs args hp lv H hw hr τ => ?_)
 unfold FewHPre at hp; split at hp
 ·rename_i nn mm
  obtain ⟨v', H', τ', h1, h2, h3, h4⟩ := s_keep_FewHeaders_ret (CR rw_FewH N 1) N hN (fun s m H τ q => s_keep_Few_ret (CR rw_FewH N 0) N s m H τ q) hs hp.1 nn mm hp.2.2 lv H hw hr.1 τ
  refine ⟨v', H', τ', h1, ?_, h4⟩
  refine Got.met h2.apd.got (fun h0 => h3 ?_) mkOk_id (hcells_vok _ _) trivial
  have : (hs.take nn).length = 0 := by unfold fewH at h0; rw [List.length_map] at h0; exact h0
  rw [List.length_take] at this
  exact List.eq_nil_of_length_eq_zero (by omega)
 ·exact hp.elim
theorem k_keep_FewHeaders {c : CallK} (h : IsP c f_keep_FewHeaders (RH FewHPre FewHG)) {hs : List Hd} (hl : hs.length ≤ 9223372036854775807) (nn mm : Nat) (h1 : 1 ≤ nn) (hn : nn ≤ 1000) {lv : V} {H : Heap} (hw : WF H) (hr : RdH H lv hs) (τ : Tape) :
  ∃ v' H' τ', Own H' H.size 2 v' (fewH nn mm hs).length (hcells (fewH nn mm hs)) ∧ Gr H.size H H' ∧ ∀ q, c f_keep_FewHeaders [lv, .int .i64 (.ofNat nn), .int .i64 (.ofNat mm)] H τ q = q v' H' τ' := by
 obtain ⟨v', H', τ', h1, h2, h3⟩ := RH_lstO (v := lv) (l := [.int .i64 (.ofNat nn), .int .i64 (.ofNat mm)]) h hr ⟨hl, h1, hn⟩ rfl hw (by rw [hcells_length]) τ
 exact ⟨v', H', τ', h1, h2, h3⟩
end Go.Am.X

namespace Go.Am.X
end Go.Am.X

namespace Go.Am.X
def RdS (H : Heap) (v : V) (ss : List Bs) : Prop := Rd H 1 v ss.length (ss.map V.str) ∧ Src H v
theorem RdS.gr {H H' : Heap} {B : Nat} {v : V} {ss : List Bs} (h : RdS H v ss) (hg : Gr B H H') (hw : WF H) (hB : H.size ≤ B) : RdS H' v ss := ⟨h.1.gr hg hw hB, h.2.gr hg hw hB⟩
theorem strs_vok (H : Heap) (ss : List Bs) : VsOk H (ss.map V.str) := by
 induction ss with
 | nil => trivial
 | cons h l ih => exact ⟨trivial, ih⟩
def LsS (H : Heap) (B : Nat) (v : V) (ss : List Bs) : Prop := Own H B 1 v ss.length (ss.map V.str) ∧ (ss = [] → v = .nils)
theorem LsS.nil (H : Heap) (B : Nat) : LsS H B .nils [] := ⟨Own.nil _ _ _, fun _ => rfl⟩
theorem LsS.gr {H H' : Heap} {B C : Nat} {v : V} {ss : List Bs} (h : LsS H B v ss) (hg : Gr C H H') (hw : WF H) (hC : H.size ≤ C) : LsS H' B v ss := ⟨h.1.gr hg hw hC, h.2⟩
theorem LsS.weaken {H : Heap} {B C : Nat} {v : V} {ss : List Bs} (h : LsS H C v ss) (hBC : B ≤ C) : LsS H B v ss := by
 refine ⟨?_, h.2⟩
 rcases h.1 with h | ⟨id, e, room, fam, ver, pl, st, fr, h1, h2, h3, h4, h5, h6, h7⟩
 ·exact .inl h
 ·exact .inr ⟨id, e, room, fam, ver, pl, st, fr, h1, h2, h3, h4, Nat.le_trans hBC h5, Nat.le_trans hBC h6, h7⟩
theorem LsS.put {H : Heap} {B : Nat} {v : V} {ss : List Bs} (h : LsS H B v ss) (hw : WF H) (hB : B ≤ H.size) (x : Bs) (hn : ss.length ≤ 4294967296) (τ : Tape) :
  ∃ w H1 v' H' τ', eBuildSlice 1 1 [(.str [])] [(0, 1)] [.str x] H τ = some (w, H1, τ) ∧ eAppend 1 16 [v, w] H1 τ = some (v', H', τ') ∧ LsS H' B v' (ss ++ [x]) ∧ Gr B H H' := by
 obtain ⟨w, H1, v', H', r1, r2, r3, r4, _⟩ := h.1.push (bytes := 16) hw hB (.str x) (.str []) rfl rfl (by omega) (by omega) τ
 refine ⟨w, H1, v', H', τ.tail, r1, r2, ⟨by simpa using r3, fun h => by simp at h⟩, r4⟩
theorem LsS.got {H : Heap} {B : Nat} {v : V} {ss : List Bs} (h : LsS H B v ss) : Got H B 1 v ss.length (ss.map V.str) := h.1.apd.got
theorem LsS.met {H H' : Heap} {v : V} {ss : List Bs} {mk : V → V} (h : LsS H' H.size v ss) (hmk : MkOk mk) (hnil : VOk H (mk .nils)) : (lstO 1 ss.length (ss.map V.str) mk).Met H (mk v) H' :=
 Got.met h.got (fun h0 => h.2 (List.eq_nil_of_length_eq_zero h0)) hmk (strs_vok _ _) hnil
theorem Small.pre {a b : List Hd} (h : Small (a ++ b)) : Small a := ⟨by have := h.len; simp at this; omega, fun x hx => h.all x (by simp [hx])⟩
theorem splitF_len : ∀ (n : Nat) (s : Bs), s.length ≤ n → ∀ (q : Bool) (cur : Bs), (splitF q cur s).1.length ≤ s.length := by
 intro n
 induction n with
 | zero =>
  intro s hn q cur
  obtain rfl := List.eq_nil_of_length_eq_zero (by omega : s.length = 0)
  simp [splitF]
 | succ n ih =>
  intro s hn q cur
  cases s with
  | nil => simp [splitF]
  | cons x r =>
   have hr : r.length ≤ n := by simp at hn; omega
   by_cases c34 : x = 34
   ·rw [splitF_quote q cur r c34]; have := ih r hr (!q) (cur ++ [x]); simp; omega
   ·cases q with
    | true =>
     by_cases c92 : x = 92
     ·cases r with
      | nil => rw [splitF_end cur c34 c92]; simp
      | cons y r' => rw [splitF_esc cur y r' c34 c92]; have := ih r' (by simp at hr; omega) true (cur ++ [x, y]); simp; omega
     ·rw [splitF_in cur r c34 c92]; have := ih r hr true (cur ++ [x]); simp; omega
    | false =>
     by_cases c44 : x = 44
     ·rw [splitF_comma cur r c34 c44]; have := ih r hr false []; simp; omega
     ·rw [splitF_out cur r c34 c44]; have := ih r hr false (cur ++ [x]); simp; omega
theorem piecesB_len (s : Bs) : (piecesB s).length ≤ s.length + 1 := by
 unfold piecesB
 have := splitF_len s.length s (Nat.le_refl _) false []
 simp; omega
abbrev SplitG (_ : Bool) (hs : List Hd) : List V → Out | [.str name] => lstO 1 (splitT name hs).length ((splitT name hs).map V.str) (fun v => .tup [v, .bool (decide (0 < (sel name hs).length))]) | _ => .val (.tup [])
theorem p_headers_Split : ∀ base w0, PrimOk PG base w0 f_headers_Split (outP (RH GetPre SplitG)) := by
 refine primOk_E 6 _ ?_
 rintro vs H o hw hvs ⟨v, l, hs, rfl, ⟨h1, h2⟩, hp, rfl⟩ τ
 unfold GetPre at hp
 split at hp
 ·rename_i name
  by_cases h0 : 0 < (sel name hs).length
  ·obtain ⟨v', H', τ', k1, _, k2, k3⟩ := d_headers_Split nb 6 (by omega) name hp.2 hp.1 v H hw h1 τ
   refine ⟨_, H', τ', k3 retK, k2, ?_⟩
   have eT : splitT name hs = piecesB (getT name hs) := if_pos h0
   exact LsS.met ⟨k1, fun h => by rw [eT] at h; simp [piecesB] at h⟩ (mkOk_bool _) ⟨trivial, trivial, trivial⟩
  ·have e0 : decide (0 < (sel name hs).length) = false := decide_eq_false h0
   have eT : splitT name hs = [] := if_neg h0
   obtain ⟨H', τ', g, k⟩ := d20' nb 5 (by omega) name hp.2 hp.1 v H hw h1 τ
   refine ⟨.tup [.nils, .bool false], H', τ', ?_, g, ?_⟩
   ·show s_headers_Split (C NB 5) NB v (.str name) H τ retK = _
    simp only [s_headers_Split, k, getK_set, ↓reduceIte, Nat.reduceEqDiff, someK_n, effK_n, retK, gK_do, gK_do', gK_skip, gK_skip', gK_none, pick_mk, cond_true, cond_false, condK_tn, condK_fn, bin_eql, bin_neq, bin_lss, bin_leq, bin_gtr, bin_geq, un_not, Bool.not_true, Bool.not_false, bin_str, lenS_mk, nle_l, nle_r, nle_n, nlt_l, nlt_r, nlt_n, neq_r, neq_n, nne_r, nne_n, ext0, ext1, ext30, ext31, ext32, bin_add, bin_sub, decide_true, decide_false, e0]
   ·show (lstO 1 (splitT name hs).length ((splitT name hs).map V.str) (fun v => V.tup [v, .bool (decide (0 < (sel name hs).length))])).Met H _ H'
    rw [eT, e0]; exact ⟨rfl, trivial, trivial, trivial⟩
 ·exact hp.elim
theorem k_Split {c : CallK} {f : Nat} (h : IsP c f (RH GetPre SplitG)) {hs : List Hd} (hS : Small hs) {name : Bs} (hm : name.length ≤ 140737488355328) {lv : V} {H : Heap} (hw : WF H) (hr : RdH H lv hs) (τ : Tape) :
  ∃ v' H' τ', Own H' H.size 1 v' (splitT name hs).length ((splitT name hs).map V.str) ∧ Gr H.size H H' ∧ ∀ q, c f [lv, .str name] H τ q = q (.tup [v', .bool (decide (0 < (sel name hs).length))]) H' τ' :=
 RH_lstO (l := [.str name]) h hr ⟨hS, hm⟩ rfl hw (by simp) τ
end Go.Am.X

namespace Go.Am.X
abbrev ltB (x y : Bs) : Prop := lessB x y = true
theorem lessB_cons (a b : UInt8) (x y : Bs) : lessB (a :: x) (b :: y) = (decide (a.toNat < b.toNat) || (decide (a.toNat = b.toNat) && lessB x y)) := by
 rw [lessB]
 have h1 : Nat.blt a.toNat b.toNat = decide (a.toNat < b.toNat) := by
  by_cases h : a.toNat < b.toNat
  ·rw [decide_eq_true h]; simp [Nat.blt]; omega
  ·rw [decide_eq_false h]; cases hb : Nat.blt a.toNat b.toNat with
   | false => rfl
   | true => exact absurd (Nat.le_of_ble_eq_true hb) h
 have h2 : Nat.beq a.toNat b.toNat = decide (a.toNat = b.toNat) := by
  by_cases h : a.toNat = b.toNat
  ·rw [decide_eq_true h, h]; exact Nat.beq_refl _
  ·rw [decide_eq_false h]; cases hb : Nat.beq a.toNat b.toNat with
   | false => rfl
   | true => exact absurd (Nat.eq_of_beq_eq_true hb) h
 rw [h1, h2]
theorem ltB_irrefl : ∀ (x : Bs), lessB x x = false := by
 intro x
 induction x with
 | nil => rfl
 | cons a x ih => rw [lessB_cons, ih]; simp
theorem ltB_no {x : Bs} (h : ltB x x) : False := by rw [ltB, ltB_irrefl] at h; cases h
theorem ltB_trans : ∀ (x y z : Bs), ltB x y → ltB y z → ltB x z := by
 intro x
 induction x with
 | nil =>
  intro y z h1 h2
  cases y with
  | nil => exact h2
  | cons b y => cases z with
   | nil => cases h2
   | cons c z => rfl
 | cons a x ih =>
  intro y z h1 h2
  cases y with
  | nil => cases h1
  | cons b y => cases z with
   | nil => cases h2
   | cons c z =>
    unfold ltB at *
    rw [lessB_cons, Bool.or_eq_true, Bool.and_eq_true, decide_eq_true_iff, decide_eq_true_iff] at h1 h2 ⊢
    rcases h1 with h1 | ⟨h1, h1'⟩ <;> rcases h2 with h2 | ⟨h2, h2'⟩
    ·exact .inl (by omega)
    ·exact .inl (by omega)
    ·exact .inl (by omega)
    ·exact .inr ⟨by omega, ih y z h1' h2'⟩
theorem ltB_tri : ∀ (x y : Bs), ltB x y ∨ x = y ∨ ltB y x := by
 intro x
 induction x with
 | nil => intro y; cases y with
  | nil => exact .inr (.inl rfl)
  | cons b y => exact .inl rfl
 | cons a x ih =>
  intro y
  cases y with
  | nil => exact .inr (.inr rfl)
  | cons b y =>
   unfold ltB
   rw [lessB_cons, lessB_cons, Bool.or_eq_true, Bool.and_eq_true, decide_eq_true_iff, decide_eq_true_iff, Bool.or_eq_true, Bool.and_eq_true, decide_eq_true_iff, decide_eq_true_iff]
   rcases Nat.lt_trichotomy a.toNat b.toNat with h | h | h
   ·exact .inl (.inl h)
   ·rcases ih y with k | k | k
    ·exact .inl (.inr ⟨h, k⟩)
    ·exact .inr (.inl (by rw [UInt8.toNat_inj.1 h, k]))
    ·exact .inr (.inr (.inr ⟨h.symm, k⟩))
   ·exact .inr (.inr (.inl h))
theorem lt_iff (x y : Bs) : x < y ↔ ltB x y := by
 induction x generalizing y with
 | nil => cases y with
  | nil => exact ⟨fun h => (by cases h), fun h => (by cases h)⟩
  | cons b y => exact ⟨fun _ => rfl, fun _ => List.Lex.nil⟩
 | cons a x ih =>
  cases y with
  | nil => exact ⟨fun h => (by cases h), fun h => (by cases h)⟩
  | cons b y =>
   unfold ltB
   rw [lessB_cons, Bool.or_eq_true, Bool.and_eq_true, decide_eq_true_iff, decide_eq_true_iff, List.cons_lt_cons_iff, ih y, UInt8.lt_iff_toNat_lt, UInt8.toNat_inj]
abbrev SrtB (l : List Bs) : Prop := l.Pairwise ltB
theorem srt_uniq : ∀ (a b : List Bs), SrtB a → SrtB b → (∀ x, x ∈ a ↔ x ∈ b) → a = b := by
 intro a
 induction a with
 | nil => intro b _ _ h; cases b with
  | nil => rfl
  | cons y b => exact absurd ((h y).2 (by simp)) (by simp)
 | cons x a ih =>
  intro b ha hb h
  cases b with
  | nil => exact absurd ((h x).1 (by simp)) (by simp)
  | cons y b =>
   rw [SrtB, List.pairwise_cons] at ha hb
   have hxy : x = y := by
    rcases List.mem_cons.1 ((h x).1 (by simp)) with e | e
    ·exact e
    ·rcases List.mem_cons.1 ((h y).2 (by simp)) with e' | e'
     ·exact e'.symm
     ·have h1 := hb.1 x e
      have h2 := ha.1 y e'
      exact (ltB_no (ltB_trans _ _ _ h1 h2)).elim
   subst hxy
   congr 1
   refine ih b ha.2 hb.2 fun z => ⟨fun hz => ?_, fun hz => ?_⟩
   ·rcases List.mem_cons.1 ((h z).1 (by simp [hz])) with e | e
    ·subst e; exact (ltB_no (ha.1 z hz)).elim
    ·exact e
   ·rcases List.mem_cons.1 ((h z).2 (by simp [hz])) with e | e
    ·subst e; exact (ltB_no (hb.1 z hz)).elim
    ·exact e
def insB (x : Bs) : List Bs → List Bs
 | [] => [x]
 | y :: l => bif lessB y x then y :: insB x l else bif y == x then y :: l else x :: y :: l
theorem insB_mem (x : Bs) : ∀ (l : List Bs) (z : Bs), z ∈ insB x l ↔ z = x ∨ z ∈ l := by
 intro l
 induction l with
 | nil => intro z; simp [insB]
 | cons y l ih =>
  intro z
  rw [insB]
  cases lessB y x with
  | true => rw [cond_true, List.mem_cons, ih z, List.mem_cons]; constructor <;> (intro h; rcases h with h | h | h <;> simp [h])
  | false =>
   rw [cond_false]
   cases h : (y == x) with
   | true => rw [cond_true, ← beq_iff_eq.1 h]; simp
   | false => rw [cond_false]; simp
theorem insB_srt (x : Bs) : ∀ (l : List Bs), SrtB l → SrtB (insB x l) := by
 intro l
 induction l with
 | nil => intro _; simp [insB]
 | cons y l ih =>
  intro h
  rw [SrtB, List.pairwise_cons] at h
  rw [insB]
  cases h1 : lessB y x with
  | true =>
   rw [cond_true, SrtB, List.pairwise_cons]
   refine ⟨fun z hz => ?_, ih h.2⟩
   rcases (insB_mem x l z).1 hz with e | e
   ·rw [e]; exact h1
   ·exact h.1 z e
  | false =>
   rw [cond_false]
   cases h2 : (y == x) with
   | true => rw [cond_true, SrtB, List.pairwise_cons]; exact h
   | false =>
    rw [cond_false, SrtB, List.pairwise_cons]
    have hxy : ltB x y := by
     rcases ltB_tri x y with k | k | k
     ·exact k
     ·exact absurd k.symm (beq_eq_false_iff_ne.1 h2)
     ·have k' : lessB y x = true := k
      rw [h1] at k'; cases k'
    refine ⟨fun z hz => ?_, by rw [List.pairwise_cons]; exact h⟩
    rcases List.mem_cons.1 hz with e | e
    ·rw [e]; exact hxy
    ·exact ltB_trans _ _ _ hxy (h.1 z e)
theorem insB_len (x : Bs) : ∀ (l : List Bs), (insB x l).length ≤ l.length + 1 := by
 intro l
 induction l with
 | nil => simp [insB]
 | cons y l ih =>
  rw [insB]
  cases lessB y x with
  | true => rw [cond_true]; simp; omega
  | false => rw [cond_false]; cases (y == x) <;> simp
def srtT (ss : List Bs) : List Bs := ss.foldl (fun acc x => insB x acc) []
theorem srtT_ok (ss : List Bs) : SrtB (srtT ss) ∧ (∀ z, z ∈ srtT ss ↔ z ∈ ss) ∧ (srtT ss).length ≤ ss.length := by
 have key : ∀ (ss acc : List Bs), SrtB acc → SrtB (ss.foldl (fun acc x => insB x acc) acc) ∧ (∀ z, z ∈ ss.foldl (fun acc x => insB x acc) acc ↔ z ∈ acc ∨ z ∈ ss) ∧ (ss.foldl (fun acc x => insB x acc) acc).length ≤ acc.length + ss.length := by
  intro ss
  induction ss with
  | nil => intro acc h; exact ⟨h, fun z => by simp, by simp⟩
  | cons x ss ih =>
   intro acc h
   obtain ⟨a, b, c⟩ := ih (insB x acc) (insB_srt x acc h)
   have := insB_len x acc
   refine ⟨a, fun z => ?_, by simp only [List.foldl_cons, List.length_cons]; omega⟩
   rw [List.foldl_cons, b z, insB_mem, List.mem_cons]
   constructor
   ·rintro ((h | h) | h) <;> simp [h]
   ·rintro (h | h | h) <;> simp [h]
 obtain ⟨a, b, c⟩ := key ss [] (by simp)
 exact ⟨a, fun z => (b z).trans (by simp), by unfold srtT; simpa using c⟩
theorem le_of_ltB (x y : Bs) : x ≤ y ↔ ¬ ltB y x := by
 rw [← List.not_lt, lt_iff]
theorem sorted_ok (ss : List Bs) : (sorted ss).Pairwise (fun a b => ¬ ltB b a) ∧ (∀ z, z ∈ sorted ss ↔ z ∈ ss) ∧ (sorted ss).length = ss.length := by
 refine ⟨?_, fun z => by rw [sorted_eq]; exact List.mem_mergeSort, by rw [sorted_eq]; exact List.length_mergeSort _⟩
 have := List.pairwise_mergeSort (le := fun x y : Bs => decide (x ≤ y)) (fun a b c h1 h2 => by
  simp only [decide_eq_true_eq, le_of_ltB] at *
  rcases ltB_tri a b with k | k | k
  ·rcases ltB_tri b c with j | j | j
   ·intro e; have := ltB_trans _ _ _ (ltB_trans _ _ _ k j) e; exact ltB_no this
   ·rw [← j]; exact h1
   ·exact absurd j h2
  ·rw [k]; exact h2
  ·exact absurd k h1) (fun a b => by
  simp only [Bool.or_eq_true, decide_eq_true_eq, le_of_ltB]
  rcases ltB_tri a b with k | k | k
  ·left; intro e; have := ltB_trans _ _ _ k e; exact ltB_no this
  ·left; rw [k, ltB, ltB_irrefl]; simp
  ·right; intro e; have := ltB_trans _ _ _ k e; exact ltB_no this) ss
 rw [sorted_eq]
 exact this.imp fun h => (le_of_ltB _ _).1 (of_decide_eq_true h)
end Go.Am.X

namespace Go.Am.X
theorem Own.stores {H : Heap} {B z id n e : Nat} {cs : List V} (h : Own H B z (.sl id 0 n n (some e) z) n cs) (hw : WF H) (off : Nat) (vs : List V) (hl : off + vs.length ≤ cs.length) (hs : vs.all V.scal = true) :
  ∃ H', H.stores id off vs = some H' ∧ Own H' B z (.sl id 0 n n (some e) z) n (cs.take off ++ vs ++ cs.drop (off + vs.length)) ∧ Gr B H H' := by
 rcases h with ⟨h, _⟩ | ⟨id', e', room, fam, ver, pl, st, fr, q, h1, h2, h3, h4, h5, h7⟩
 ·cases h
 ·cases q
  cases vs with
  | nil => exact ⟨H, rfl, by simpa using .inr ⟨id, e, room, fam, ver, pl, st, fr, rfl, h1, h2, h3, h4, h5, h7⟩, Gr.refl hw⟩
  | cons v vs =>
   have hroom : H.room? id = room := by simp only [Heap.room?, h1]
   have hov := over_in off room (v :: vs) cs hl
   refine ⟨{ size := H.size, blk := H.blk.set id (.mem (cs.take off ++ (v :: vs) ++ cs.drop (off + (v :: vs).length)) room fam ver true pl (st + 1)), fams := H.fams.set fam (ver, ver) }, ?_, ?_, ?_⟩
   ·simp only [Heap.stores, hs, cond_true, Heap.write, h1, h2, hroom, hov]
    rw [show Nat.beq ver ver = true from Nat.beq_refl ver, show Nat.ble fr ver = true from Nat.ble_eq_true_of_le h3]
    rfl
   ·refine .inr ⟨id, e, room, fam, ver, pl, st + 1, ver, rfl, T.get_set_same _ _ _, T.get_set_same _ _ _, Nat.le_refl _, h4, h5, ?_⟩
    rw [← h7]
    simp only [List.length_append, List.length_take, List.length_drop]
    omega
   ·have hid := hw.blk _ _ h1
    have hfam := hw.fams _ _ h2
    refine ⟨⟨?_, ?_, ?_⟩, Nat.le_refl _, fun i hi => ?_, fun f hf => ?_⟩
    ·intro i b hb
     simp only [T.get_set] at hb ⊢
     split at hb
     ·omega
     ·exact hw.blk _ _ hb
    ·intro f x hf
     simp only [T.get_set] at hf ⊢
     split at hf
     ·omega
     ·exact hw.fams _ _ hf
    ·intro i c r f v' w p s hb
     simp only [T.get_set] at hb ⊢
     split at hb
     ·cases hb; exact hfam
     ·exact hw.fam _ _ _ _ _ _ _ _ hb
    ·simp only [T.get_set]; rw [if_neg (by omega)]
    ·simp only [T.get_set]; rw [if_neg (by omega)]
end Go.Am.X

namespace Go.Am.X
theorem lower_len (s : Bs) : (lower s).length = s.length := by simp [lower]
end Go.Am.X

namespace Go.Am.X
def addK (k : Bs) (ks : List Bs) : List Bs := if k ∈ ks then ks else ks ++ [k]
def addAll (l : List Bs) : List Bs := l.foldl (fun a k => addK k a) []
theorem addAll_snoc (l : List Bs) (x : Bs) : addAll (l ++ [x]) = addK x (addAll l) := by unfold addAll; rw [List.foldl_append]; rfl
theorem addK_mem {k : Bs} {ks : List Bs} {x : Bs} : x ∈ addK k ks ↔ x ∈ ks ∨ x = k := by
 unfold addK
 split
 ·rename_i h
  constructor
  ·exact .inl
  ·rintro (h1 | rfl)
   ·exact h1
   ·exact h
 ·simp
theorem addK_nodup {k : Bs} {ks : List Bs} (h : ks.Nodup) : (addK k ks).Nodup := by
 unfold addK
 split
 ·exact h
 ·rename_i hk
  exact List.nodup_append.2 ⟨h, by simp, fun a ha b hb e => by simp at hb; subst hb; subst e; exact hk ha⟩
theorem addK_len (k : Bs) (ks : List Bs) : (addK k ks).length ≤ ks.length + 1 := by unfold addK; split <;> simp
theorem addAll_ok (l : List Bs) : (addAll l).Nodup ∧ (∀ x, x ∈ addAll l ↔ x ∈ l) ∧ (addAll l).length ≤ l.length := by
 have key : ∀ (l a : List Bs), a.Nodup → (l.foldl (fun a k => addK k a) a).Nodup ∧ (∀ x, x ∈ l.foldl (fun a k => addK k a) a ↔ x ∈ a ∨ x ∈ l) ∧ (l.foldl (fun a k => addK k a) a).length ≤ a.length + l.length := by
  intro l
  induction l with
  | nil => intro a h; exact ⟨h, fun x => by simp, by simp⟩
  | cons y l ih =>
   intro a h
   obtain ⟨h1, h2, h3⟩ := ih (addK y a) (addK_nodup h)
   refine ⟨h1, fun x => ?_, ?_⟩
   ·rw [List.foldl_cons, h2, addK_mem, List.mem_cons]
    constructor
    ·rintro ((h | h) | h)
     ·exact .inl h
     ·exact .inr (.inl h)
     ·exact .inr (.inr h)
    ·rintro (h | h | h)
     ·exact .inl (.inl h)
     ·exact .inl (.inr h)
     ·exact .inr h
   ·have := addK_len y a
    rw [List.foldl_cons, List.length_cons]
    omega
 obtain ⟨h1, h2, h3⟩ := key l [] List.nodup_nil
 exact ⟨h1, fun x => by rw [addAll, h2]; simp, by simpa [addAll] using h3⟩
def Mk (H : Heap) (m : Nat) (ks : List Bs) : Prop := ∃ ms c, H.blk.get m = some (.mapb ms (some c)) ∧ keysE ms = ks ∧ ∀ p ∈ ms, ∃ x : Int, p.2.1 = .int .i64 x
theorem Mk.gr {H H' : Heap} {m C : Nat} {ks : List Bs} (h : Mk H m ks) (hg : Gr C H H') (hm : m < C) : Mk H' m ks := by
 obtain ⟨ms, c, h1, h2⟩ := h
 exact ⟨ms, c, by rw [hg.blk m hm]; exact h1, h2⟩
theorem Mk.only {H H' : Heap} {m i : Nat} {ks : List Bs} (h : Mk H m ks) (hg : Only i H H') (hm : m ≠ i) : Mk H' m ks := by
 obtain ⟨ms, c, h1, h2⟩ := h
 exact ⟨ms, c, by rw [hg.blk m hm]; exact h1, h2⟩
theorem Mk.lt {H : Heap} {m : Nat} {ks : List Bs} (h : Mk H m ks) (hw : WF H) : m < H.size := by
 obtain ⟨ms, c, h1, _⟩ := h
 exact hw.blk _ _ h1
theorem mk_new {H : Heap} (hw : WF H) (τ : Tape) : ∃ H', eMkMap [] H τ = some (.map H.size, H', τ) ∧ Mk H' H.size [] ∧ Gr H.size H H' ∧ H'.size = H.size + 1 := by
 refine ⟨{ size := H.size + 1, blk := H.blk.set H.size (.mapb [] (some 0)), fams := H.fams }, rfl, ⟨[], 0, T.get_set_same _ _ _, rfl, fun p hp => by cases hp⟩, ⟨?_, Nat.le_succ _, fun id hid => T.get_set_ne _ _ (by omega), fun f _ => rfl⟩, rfl⟩
 refine ⟨fun id b hb => ?_, fun f x hx => Nat.lt_succ_of_lt (hw.fams _ _ hx), fun id cs room fam ver wr pl st hb => ?_⟩
 ·by_cases e : H.size = id
  ·subst e; exact Nat.lt_succ_self _
  ·simp only [T.get_set_ne _ _ e] at hb; exact Nat.lt_succ_of_lt (hw.blk _ _ hb)
 ·by_cases e : H.size = id
  ·subst e; simp only [T.get_set_same] at hb; cases hb
  ·simp only [T.get_set_ne _ _ e] at hb; exact Nat.lt_succ_of_lt (hw.fam _ _ _ _ _ _ _ _ hb)
theorem findS_key {k : Bs} : ∀ {ms : List (Bs × V × Nat)}, (findS k ms = none ↔ k ∉ keysE ms) ∧ ∀ v, findS k ms = some v → ∃ p ∈ ms, p.2 = v := by
 intro ms
 induction ms with
 | nil => exact ⟨by simp [findS, keysE], fun v h => by cases h⟩
 | cons p r ih =>
  obtain ⟨k', u⟩ := p
  cases hb : eqB k k' with
  | true =>
   have hk : k = k' := by rw [eqB_eq] at hb; simpa using hb
   subst hk
   refine ⟨by simp [findS, hb, keysE], fun v h => ?_⟩
   simp only [findS, hb, cond_true, Option.some.injEq] at h
   exact ⟨_, List.mem_cons_self, h⟩
  | false =>
   have hk : k ≠ k' := fun e => by subst e; rw [eqB_eq] at hb; simp at hb
   refine ⟨?_, fun v h => ?_⟩
   ·simp only [findS, hb, cond_false, ih.1, keysE, List.map_cons, List.mem_cons, not_or]
    exact ⟨fun h => ⟨hk, h⟩, fun h => h.2⟩
   ·simp only [findS, hb, cond_false] at h
    obtain ⟨p, hp, e⟩ := ih.2 v h
    exact ⟨p, List.mem_cons_of_mem _ hp, e⟩
theorem mlook_K {H : Heap} {m : Nat} {ks : List Bs} (h : Mk H m ks) (k : Bs) : ∃ x : Int, lLook (.int .i64 (.ofNat 0)) false [.map m, .str k] H = some (.int .i64 x) := by
 obtain ⟨ms, c, h1, h2, h3⟩ := h
 cases hf : findS k ms with
 | none => exact ⟨0, by simp only [lLook, h1, hf]; rfl⟩
 | some v =>
  obtain ⟨p, hp, e⟩ := findS_key.2 v hf
  obtain ⟨x, hx⟩ := h3 p hp
  refine ⟨x, ?_⟩
  simp only [lLook, h1, hf, lookV]
  rw [← e, hx]
theorem keysE_put (k : Bs) (v : V) (c : Nat) : ∀ (ms : List (Bs × V × Nat)), keysE (putS k v c ms) = addK k (keysE ms) := by
 intro ms
 induction ms with
 | nil => simp [putS, keysE, addK]
 | cons p r ih =>
  obtain ⟨k', u, b⟩ := p
  cases hb : eqB k k' with
  | true =>
   have hk : k = k' := by rw [eqB_eq] at hb; simpa using hb
   subst hk
   simp [putS, hb, keysE, addK]
  | false =>
   have hk : k ≠ k' := fun e => by subst e; rw [eqB_eq] at hb; simp at hb
   have e1 : keysE (putS k v c ((k', u, b) :: r)) = k' :: keysE (putS k v c r) := by simp only [putS, hb, cond_false]; rfl
   have e2 : keysE ((k', u, b) :: r) = k' :: keysE r := rfl
   rw [e1, ih, e2]
   unfold addK
   by_cases hm : k ∈ keysE r
   ·rw [if_pos hm, if_pos (List.mem_cons_of_mem _ hm)]
   ·rw [if_neg hm, if_neg (by simp only [List.mem_cons, not_or]; exact ⟨hk, hm⟩)]
    rfl
theorem putS_mem' {k : Bs} {v : V} {c : Nat} : ∀ {es : List (Bs × V × Nat)} {p : Bs × V × Nat}, p ∈ putS k v c es → p.2.1 = v ∨ p ∈ es := by
 intro es
 induction es with
 | nil => intro p h; simp [putS] at h; exact .inl (by rw [h])
 | cons q es ih =>
  intro p h
  obtain ⟨k', u, b'⟩ := q
  cases hb : eqB k k' with
  | true =>
   simp only [putS, hb, cond_true, List.mem_cons] at h
   rcases h with rfl | h
   ·exact .inl rfl
   ·exact .inr (by simp [h])
  | false =>
   simp only [putS, hb, cond_false, List.mem_cons] at h
   rcases h with rfl | h
   ·exact .inr (by simp)
   ·rcases ih h with h | h
    ·exact .inl h
    ·exact .inr (by simp [h])
theorem only_map {H : Heap} {m : Nat} {es es' : List (Bs × V × Nat)} {c c' : Option Nat} (h : H.blk.get m = some (.mapb es c)) (hw : WF H) : Only m H { size := H.size, blk := H.blk.set m (.mapb es' c'), fams := H.fams } := by
 refine ⟨⟨?_, hw.fams, ?_⟩, rfl, fun id hid => T.get_set_ne _ _ (Ne.symm hid), fun _ _ => rfl⟩
 ·intro id b hb
  by_cases e : m = id
  ·subst e; exact hw.blk _ _ h
  ·simp only [T.get_set_ne _ _ e] at hb; exact hw.blk _ _ hb
 ·intro id cs room fam ver wr pl st hb
  by_cases e : m = id
  ·subst e; simp only [T.get_set_same] at hb; cases hb
  ·simp only [T.get_set_ne _ _ e] at hb; exact hw.fam _ _ _ _ _ _ _ _ hb
theorem mput_K {H : Heap} {m : Nat} {ks : List Bs} (h : Mk H m ks) (hw : WF H) (k : Bs) (x : Int) (τ : Tape) : ∃ H', eMput [.map m, .str k, .int .i64 x] H τ = some (.tup [], H', τ) ∧ Mk H' m (addK k ks) ∧ Only m H H' := by
 obtain ⟨ms, c, h1, h2, h3⟩ := h
 refine ⟨_, by simp only [eMput, h1, forceN_eq]; rfl, ⟨_, _, T.get_set_same _ _ _, by rw [keysE_put, h2], fun p hp => ?_⟩, only_map h1 hw⟩
 rcases putS_mem' hp with e | hp
 ·exact ⟨x, e⟩
 ·exact h3 p hp
theorem sorted_set {ks L : List Bs} (hn : ks.Nodup) (hm : ∀ x, x ∈ ks ↔ x ∈ L) : sorted ks = srtT L := by
 obtain ⟨h1, h2, _⟩ := srtT_ok L
 obtain ⟨h3, h4, _⟩ := srtT_ok ks
 have e1 : srtT ks = srtT L := srt_uniq _ _ h3 h1 fun x => by rw [h4, h2, hm]
 have hp : (sorted ks).Perm ks := by rw [sorted_eq]; exact List.mergeSort_perm ks _
 obtain ⟨s1, s2, _⟩ := sorted_ok ks
 have hnd : (sorted ks).Nodup := hp.nodup_iff.2 hn
 refine srt_uniq _ _ ?_ h1 fun x => by rw [h2, ← hm]; exact hp.mem_iff
 exact (s1.and hnd).imp fun {a b} h => by
  rcases ltB_tri a b with k | k | k
  ·exact k
  ·exact absurd k h.2
  ·exact absurd k h.1
theorem names_K {H : Heap} {m : Nat} {es : List (Bs × V × Nat)} {clk : Option Nat} (hw : WF H) (h : H.blk.get m = some (.mapb es clk)) {L : List Bs} (hn : (keysE es).Nodup) (hm : ∀ x, x ∈ keysE es ↔ x ∈ L) (hl : (keysE es).length ≤ 1000000) (hk : ∀ x ∈ L, x.length ≤ 1000000) (τ : Tape) :
  ∃ v H' τ', namesP [.map m] H τ = some (v, H', τ') ∧ LsS H' H.size v (srtT L) ∧ Gr H.size H H' := by
 have hok : okKeys es = true := by
  simp only [okKeys, Bool.and_eq_true, List.all_eq_true]
  refine ⟨Nat.ble_eq_true_of_le (by have : es.length = (keysE es).length := (by simp [keysE]); omega), fun p hp => Nat.ble_eq_true_of_le ?_⟩
  have := hk p.1 ((hm _).1 (List.mem_map.2 ⟨p, hp, rfl⟩))
  omega
 have hs := sorted_set hn hm
 cases es with
 | nil =>
  have e0 : srtT L = [] := by rw [← hs]; rfl
  refine ⟨.nils, H, τ, by simp only [namesP, h, hok, cond_true], by rw [e0]; exact LsS.nil _ _, Gr.refl hw⟩
 | cons p r =>
  have hlen : (srtT L).length = r.length + 1 := by
   rw [← hs, sorted_eq, List.length_mergeSort]; simp [keysE]
  refine ⟨_, _, τ.tail, by simp only [namesP, h, hok, cond_true]; rfl, ⟨?_, fun e => by rw [e] at hlen; simp at hlen⟩, Gr.new hw _ _ _⟩
  rw [hs, hlen]
  refine .inr ⟨H.size, _, _, H.size, 0, false, 0, 0, rfl, T.get_set_same _ _ _, T.get_set_same _ _ _, Nat.le_refl _, Nat.le_refl _, Nat.le_refl _, by rw [List.length_map, hlen]; omega⟩
end Go.Am.X

namespace Go.Am.X
end Go.Am.X

namespace Go.Am.X
abbrev NLowOk (c : CallK) : Prop := ∀ (s : Bs), s.length ≤ 140737488355328 → ∀ H τ q, c f_infra_Lower [.str s] H τ q = q (.str (lower s)) H τ
theorem k_infra_Lower {c : CallK} (h : IsP c f_infra_Lower LowR) : NLowOk c := fun s hs H τ q => callS h s hs H τ q
end Go.Am.X

namespace Go.Am.X
theorem k_idx {c : CallK} (h : ∀ vs H τ q, c f_stringslite_IndexByte vs H τ q = effK (idxP vs H τ) q) (s : Bs) (x : UInt8) (H : Heap) (τ : Tape) (q : KV) : c f_stringslite_IndexByte [.str s, .int .u8 (x.toNat : Int)] H τ q = q (.int .i64 (idxB x.toNat s 0)) H τ := by
 have e4 : x.toNat % 256 = x.toNat := Nat.mod_eq_of_lt (u8_lt x)
 rw [h]
 show effK (idxP [.str s, .int .u8 (.ofNat x.toNat)] H τ) q = _
 simp only [idxP, e4, effK_n]
end Go.Am.X

namespace Go.Am.X
abbrev NamP (c : CallK) : Prop := ∀ vs H τ q, c f_cors_names vs H τ q = effK (namesP vs H τ) q
end Go.Am.X

namespace Go.Am.X
structure Two (B : Nat) (H : Heap) (u v : V) (a b : List Bs) (P Q : Nat → Prop) : Prop where
 wf : WF H
 le : B ≤ H.size
 u : OwnP P H 1 u a.length (a.map V.str)
 v : OwnP Q H 1 v b.length (b.map V.str)
 p : ∀ x, P x → B ≤ x ∧ x < H.size
 q : ∀ x, Q x → B ≤ x ∧ x < H.size
 d : ∀ x, P x → Q x → False
theorem Two.symm {B : Nat} {H : Heap} {u v : V} {a b : List Bs} {P Q : Nat → Prop} (h : Two B H u v a b P Q) : Two B H v u b a Q P := ⟨h.wf, h.le, h.v, h.u, h.q, h.p, fun x h1 h2 => h.d x h2 h1⟩
theorem Two.gr {B : Nat} {H H' : Heap} {u v : V} {a b : List Bs} {P Q : Nat → Prop} (h : Two B H u v a b P Q) (g : Gr H.size H H') : Two B H' u v a b P Q :=
 ⟨g.wf, Nat.le_trans h.le g.size, h.u.chg h.wf (g.chg (P := fun _ => False)) fun _ _ _ => not_false, h.v.chg h.wf (g.chg (P := fun _ => False)) fun _ _ _ => not_false, fun x hx => by have := h.p x hx; have := g.size; omega, fun x hx => by have := h.q x hx; have := g.size; omega, h.d⟩
theorem Two.put {B : Nat} {H : Heap} {u v : V} {a b : List Bs} {P Q : Nat → Prop} (h : Two B H u v a b P Q) (x : Bs) (ha : a.length ≤ 100000) (τ : Tape) :
  ∃ w H1 u' H' P', eBuildSlice 1 1 [(.str [])] [(0, 1)] [.str x] H τ = some (w, H1, τ) ∧ eAppend 1 16 [u, w] H1 τ = some (u', H', τ.tail) ∧ Two B H' u' v (a ++ [x]) b P' Q ∧ Gr B H H' := by
 obtain ⟨w, H1, u', H', r1, r2, r3, r4, _, g3, r5⟩ := h.u.push (bytes := 16) h.wf (.str x) (.str []) rfl rfl (by omega) (by omega) τ
 have z4 := r4.size
 refine ⟨w, H1, u', H', fun i => ((i < H.size ∧ P i) ∨ H.size ≤ i) ∧ i < H'.size, r1, r2, ⟨r4.wf, Nat.le_trans h.le z4, ?_, h.v.chg h.wf r4 fun i _ hq hp => h.d i hp hq, fun i hi => ?_, fun i hi => by have := h.q i hi; omega, fun i hi hq => ?_⟩, r4.gr h.le fun i hi hp => by have := h.p i hp; omega⟩
 ·have r3' := r3.weaken (Q := fun i => ((i < H.size ∧ P i) ∨ H.size ≤ i) ∧ i < H'.size) r4.wf fun i hi hu => ⟨hu, hi⟩
  simpa using r3'
 ·obtain ⟨hi | hi, hl⟩ := hi
  ·have := h.p i hi.2; omega
  ·have := h.le; omega
 ·obtain ⟨hi | hi, _⟩ := hi
  ·exact h.d i hi.2 hq
  ·have := h.q i hq; omega
end Go.Am.X

namespace Go.Am.X
end Go.Am.X

namespace Go.Am.X
theorem splitF_mem : ∀ (n : Nat) (s : Bs), s.length ≤ n → ∀ (q : Bool) (cur : Bs), (∀ p ∈ (splitF q cur s).1, p.length ≤ cur.length + s.length) ∧ (splitF q cur s).2.length ≤ cur.length + s.length := by
 intro n
 induction n with
 | zero =>
  intro s hn q cur
  obtain rfl := List.eq_nil_of_length_eq_zero (by omega : s.length = 0)
  simp [splitF]
 | succ n ih =>
  intro s hn q cur
  cases s with
  | nil => simp [splitF]
  | cons x r =>
   have hr : r.length ≤ n := by simp at hn; omega
   have up : ∀ (q' : Bool) (cur' r' : Bs), r'.length ≤ n → cur'.length + r'.length ≤ cur.length + (x :: r).length → splitF q cur (x :: r) = splitF q' cur' r' → (∀ p ∈ (splitF q cur (x :: r)).1, p.length ≤ cur.length + (x :: r).length) ∧ (splitF q cur (x :: r)).2.length ≤ cur.length + (x :: r).length := by
    intro q' cur' r' h1 h2 h3
    rw [h3]
    obtain ⟨a, b⟩ := ih r' h1 q' cur'
    exact ⟨fun p hp => by have := a p hp; omega, by omega⟩
   by_cases c34 : x = 34
   ·exact up (!q) (cur ++ [x]) r hr (by simp; omega) (splitF_quote q cur r c34)
   ·cases q with
    | true =>
     by_cases c92 : x = 92
     ·cases r with
      | nil => rw [splitF_end cur c34 c92]; simp
      | cons y r' => exact up true (cur ++ [x, y]) r' (by simp at hr; omega) (by simp; omega) (splitF_esc cur y r' c34 c92)
     ·exact up true (cur ++ [x]) r hr (by simp; omega) (splitF_in cur r c34 c92)
    | false =>
     by_cases c44 : x = 44
     ·rw [splitF_comma cur r c34 c44]
      obtain ⟨a, b⟩ := ih r hr false []
      refine ⟨fun p hp => ?_, by simp at b ⊢; omega⟩
      rcases List.mem_cons.1 hp with e | e
      ·rw [e]; omega
      ·have := a p e; simp at this ⊢; omega
     ·exact up false (cur ++ [x]) r hr (by simp; omega) (splitF_out cur r c34 c44)
theorem piece_len {s p : Bs} (h : p ∈ piecesB s) : p.length ≤ s.length := by
 unfold piecesB at h
 obtain ⟨y, hy, rfl⟩ := List.mem_map.1 h
 obtain ⟨a, b⟩ := splitF_mem s.length s (Nat.le_refl _) false []
 have := trimB_length tight y
 rcases List.mem_append.1 hy with e | e
 ·have := a y e; simp at this; omega
 ·rw [List.mem_singleton] at e; subst e; simp at b; omega
end Go.Am.X

namespace Go.Am.X
end Go.Am.X

namespace Go.Am.X
end Go.Am.X

namespace Go.Am.X
theorem l_slices_Index_string (c : CallK) (N : Nat) (lv : V) (ss : List Bs) (x : Bs) (hl : ss.length < 1000000000) (H : Heap) (hr : Rd H 1 lv ss.length (ss.map V.str)) : ∀ (l pre : List Bs) (τ : Tape) (m : Nat), ss = pre ++ l → l.length < m →
  ∃ j : Nat, ∀ (fr : T V) k, fr.get 0 = some lv → fr.get 1 = some (.str x) → fr.get 7 = some (.int .i64 (ss.length : Int)) → fr.get 8 = some (.int .i64 (pre.length : Int)) →
   loopK (s_slices_Index_string_l1 c N) m ⟨fr, H⟩ τ k = bif l.contains x then k .ret ⟨(T.set .leaf 4 (.int .i64 (j : Int))), H⟩ τ else k (.exit 0) ⟨.leaf, H⟩ τ := by
 intro l
 induction l with
 | nil =>
  intro pre τ m he hm
  obtain ⟨m, rfl⟩ : ∃ j, m = j + 1 := ⟨m - 1, by omega⟩
  have e1 : decide (pre.length < ss.length) = false := decide_eq_false (by rw [he]; simp)
  refine ⟨0, fun fr k f0 f1 f7 f8 => ?_⟩
  rw [loopK_succ]
  simp only [s_slices_Index_string_l1, getK_mk f0, getK_mk f1, getK_mk f7, getK_mk f8, getK_set, ↓reduceIte, Nat.reduceEqDiff, someK_n, effK_n, retK, gK_do, gK_do', gK_skip, gK_skip', gK_none, pick_mk, cond_true, cond_false, condK_tn, condK_fn, bin_eql, bin_neq, bin_lss, bin_leq, bin_gtr, bin_geq, un_not, Bool.not_true, Bool.not_false, bin_str, lenS_mk, nle_l, nle_r, nle_n, nlt_l, nlt_r, nlt_n, neq_r, neq_n, nne_r, nne_n, ext0, ext1, ext30, ext31, ext32, bin_add, bin_sub, decide_true, decide_false, e1]
  rfl
 | cons y l ih =>
  intro pre τ m he hm
  obtain ⟨m, rfl⟩ : ∃ j, m = j + 1 := ⟨m - 1, by omega⟩
  have hlt : pre.length < ss.length := by rw [he]; simp
  have e1 : decide (pre.length < ss.length) = true := decide_eq_true hlt
  have e3 : wr .i64 ((pre.length : Int) + Int.ofNat 1) = ((pre ++ [y]).length : Int) := by rw [adI (by omega)]; simp
  obtain ⟨p, p1, p2⟩ := hr.elem1 (i := pre.length) (x := .str y) (by rw [he]; simp)
  have ec : (y :: l).contains x = ((x == y) || l.contains x) := List.contains_cons
  rw [ec]
  cases hb : (x == y) with
  | true =>
   refine ⟨pre.length, fun fr k f0 f1 f7 f8 => ?_⟩
   rw [loopK_succ]
   simp only [s_slices_Index_string_l1, getK_mk f0, getK_mk f1, getK_mk f7, getK_mk f8, getK_set, ↓reduceIte, Nat.reduceEqDiff, someK_n, effK_n, retK, gK_do, gK_do', gK_skip, gK_skip', gK_none, pick_mk, cond_true, cond_false, condK_tn, condK_fn, bin_eql, bin_neq, bin_lss, bin_leq, bin_gtr, bin_geq, un_not, Bool.not_true, Bool.not_false, bin_str, lenS_mk, nle_l, nle_r, nle_n, nlt_l, nlt_r, nlt_n, neq_r, neq_n, nne_r, nne_n, ext0, ext1, ext30, ext31, ext32, bin_add, bin_sub, decide_true, decide_false, e1, p1, p2, str_eql, hb, Bool.true_or]
   rfl
  | false =>
   obtain ⟨j, i1⟩ := ih (pre ++ [y]) τ m (by rw [he]; simp) (by simp at hm; omega)
   refine ⟨j, fun fr k f0 f1 f7 f8 => ?_⟩
   rw [loopK_succ]
   simp only [s_slices_Index_string_l1, getK_mk f0, getK_mk f1, getK_mk f7, getK_mk f8, getK_set, ↓reduceIte, Nat.reduceEqDiff, someK_n, effK_n, retK, gK_do, gK_do', gK_skip, gK_skip', gK_none, pick_mk, cond_true, cond_false, condK_tn, condK_fn, bin_eql, bin_neq, bin_lss, bin_leq, bin_gtr, bin_geq, un_not, Bool.not_true, Bool.not_false, bin_str, lenS_mk, nle_l, nle_r, nle_n, nlt_l, nlt_r, nlt_n, neq_r, neq_n, nne_r, nne_n, ext0, ext1, ext30, ext31, ext32, bin_add, bin_sub, decide_true, decide_false, e1, p1, p2, str_eql, hb, Bool.false_or, e3]
   exact i1 _ k (by simp [T.get_set]) (by simp [T.get_set]) (by simp [T.get_set]) (by simp [T.get_set])
theorem s_slices_Index_string_ret (c : CallK) {N : Nat} (hN : 9223372036854775807 < N) (lv : V) (ss : List Bs) (x : Bs) (hl : ss.length < 1000000000) (H : Heap) (hr : Rd H 1 lv ss.length (ss.map V.str)) (τ : Tape) :
  ∃ n : Int, decide (0 ≤ n) = ss.contains x ∧ ∀ q, s_slices_Index_string c N lv (.str x) H τ q = q (.int .i64 n) H τ := by
 obtain ⟨j, i1⟩ := l_slices_Index_string c N lv ss x hl H hr ss [] τ N rfl (by omega)
 have pl := hr.pLen
 cases hb : ss.contains x with
 | true =>
  rw [hb] at i1
  refine ⟨j, decide_eq_true (by omega), fun q => ?_⟩
  simp only [s_slices_Index_string, pl, someK_n]
  rw [i1 _ _ (by simp [T.get_set]) (by simp [T.get_set]) (by simp [T.get_set]) (by simp [T.get_set])]
  simp only [cond_true, blockK, seqK, endK]
  rfl
 | false =>
  rw [hb] at i1
  refine ⟨-1, rfl, fun q => ?_⟩
  simp only [s_slices_Index_string, pl, someK_n]
  rw [i1 _ _ (by simp [T.get_set]) (by simp [T.get_set]) (by simp [T.get_set]) (by simp [T.get_set])]
  simp only [cond_false, blockK, Nat.beq_refl, cond_true, seqK, s_slices_Index_string_j0]
  rfl
theorem s_slices_Contains_string_ret (c : CallK) (N : Nat) (lv : V) (ss : List Bs) (x : Bs) (H : Heap) (τ : Tape) (h : ∃ n : Int, decide (0 ≤ n) = ss.contains x ∧ ∀ q, c f_slices_Index_string [lv, .str x] H τ q = q (.int .i64 n) H τ) (q : KV) :
  s_slices_Contains_string c N lv (.str x) H τ q = q (.bool (ss.contains x)) H τ := by
 obtain ⟨n, h1, h2⟩ := h
 have z0 : decide (Int.ofNat 0 ≤ n) = decide (0 ≤ n) := rfl
 simp only [s_slices_Contains_string, h2, bin_geq, z0, h1]
end Go.Am.X

