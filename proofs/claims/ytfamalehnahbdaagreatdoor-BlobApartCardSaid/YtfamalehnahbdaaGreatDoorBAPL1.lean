/- The abstract machine, printed functions of the program, and what they are shown to be. -/
import Derived.Test.YtfamalehnahbdaaGreatDoorBAPL0
import Derived.Test.YtfamalehnahbdaaGreatDoorBAPM4
import Derived.Test.YtfamalehnahbdaaGreatDoorBAPOk
import Derived.Test.YtfamalehnahbdaaGreatDoorBAPM5
set_option linter.unusedSimpArgs false
set_option linter.unusedVariables false
set_option linter.unusedSectionVars false
set_option maxRecDepth 100000
namespace Go.Am.X
theorem Apd.weaken {H : Heap} {B C z : Nat} {v : V} {n : Nat} {cs : List V} (h : Apd H C z v n cs) (hBC : B ≤ C) : Apd H B z v n cs := by
 rcases h with (h | ⟨id, e, room, fam, ver, pl, st, fr, h1, h2, h3, h4, h5, h6, h7⟩) | ⟨h1, h2, id, h3, h4⟩
 ·exact .inl (.inl h)
 ·exact .inl (.inr ⟨id, e, room, fam, ver, pl, st, fr, h1, h2, h3, h4, Nat.le_trans hBC h5, Nat.le_trans hBC h6, h7⟩)
 ·exact .inr ⟨h1, h2, id, h3, h4.weaken hBC⟩
end Go.Am.X

namespace Go.Am.X
section
variable {N : Nat} (hN : 9223372036854775807 < N)
include hN
theorem d_strings_shouldUseASCIISet (d : Nat) (hd : 1 ≤ d) (n : Int) (H : Heap) (τ : Tape) (q : KV) : C N d f_strings_shouldUseASCIISet [.int .i64 n] H τ q = q (.bool (decide (8 < n))) H τ := by
 obtain ⟨d, rfl⟩ : ∃ e, d = e + 1 := ⟨d - 1, by omega⟩
 exact s_strings_shouldUseASCIISet_ret (C N d) N n H τ q
theorem d_utf8_ValidRune (d : Nat) (hd : 1 ≤ d) (n : Int) (H : Heap) (τ : Tape) : ∃ b, ∀ q, C N d f_utf8_ValidRune [.int .i32 n] H τ q = q (.bool b) H τ := by
 obtain ⟨d, rfl⟩ : ∃ e, d = e + 1 := ⟨d - 1, by omega⟩
 exact s_utf8_ValidRune_ret (C N d) N n H τ
theorem d_stringslite_IndexByte (d : Nat) (hd : 1 ≤ d) (s : Bs) (x : UInt8) (H : Heap) (τ : Tape) (q : KV) : C N d f_stringslite_IndexByte [.str s, .int .u8 (x.toNat : Int)] H τ q = q (.int .i64 (idxB x.toNat s 0)) H τ := by
 obtain ⟨d, rfl⟩ : ∃ e, d = e + 1 := ⟨d - 1, by omega⟩
 have e4 : x.toNat % 256 = x.toNat := Nat.mod_eq_of_lt (u8_lt x)
 show effK (idxP [.str s, .int .u8 (.ofNat x.toNat)] H τ) q = _
 simp only [idxP, e4, effK_n]
theorem d_strings_IndexByte (d : Nat) (hd : 2 ≤ d) : Idx70 (C N d) := by
 intro s x H τ q
 obtain ⟨d, rfl⟩ : ∃ e, d = e + 1 := ⟨d - 1, by omega⟩
 exact s_strings_IndexByte_ret (C N d) N (fun s x H τ q => d_stringslite_IndexByte hN d (by omega) s x H τ q) s x H τ q
theorem d_strings_IndexRune (d : Nat) (hd : 3 ≤ d) (cut : Bs) (ha : ∀ x ∈ cut, x.toNat < 128) (hl : cut.length < 1000) : Rune92 (C N d) cut := by
 intro r H hw τ
 obtain ⟨d, rfl⟩ : ∃ e, d = e + 1 := ⟨d - 1, by omega⟩
 obtain ⟨H', g, k⟩ := s_strings_IndexRune_ret (C N d) N (by omega) (d_strings_IndexByte hN d (by omega)) (fun n H τ => d_utf8_ValidRune hN d (by omega) n H τ) cut ha hl r H hw τ
 exact ⟨H', g, k⟩
theorem d60' (d : Nat) (hd : 1 ≤ d) (cut : Bs) (ha : ∀ x ∈ cut, x.toNat < 128) (h3 : cut.length < 9223372036854775807) (H : Heap) (hw : WF H) (τ : Tape) :
  ∃ H', Gr H.size H H' ∧ ∀ q, C N d f_strings_makeASCIISet [.str cut] H τ q = q (.tup [.agg (mark (repl 256 [.bool false]) cut), .bool true]) H' τ := by
 obtain ⟨d, rfl⟩ : ∃ e, d = e + 1 := ⟨d - 1, by omega⟩
 obtain ⟨H', g, k⟩ := s_strings_makeASCIISet_ret (C N d) N (Nat.le_of_lt hN) cut ha h3 H hw τ retK
 exact ⟨H', g, fun q => (C_nat N (d + 1)).mk (f := f_strings_makeASCIISet) (vs := [.str cut]) k q⟩
theorem d_strings_ContainsAny (d : Nat) (hd : 5 ≤ d) (cut s : Bs) (ha : ∀ x ∈ cut, x.toNat < 128) (h2 : 2 ≤ cut.length) (hl : cut.length < 1000) (hs : s.length < 9223372036854775807) (H : Heap) (hw : WF H) (τ : Tape) :
  ∃ H', Gr H.size H H' ∧ ∀ q, C N d f_strings_ContainsAny [.str s, .str cut] H τ q = q (.bool (s.any cut.contains)) H' τ := by
 obtain ⟨d, rfl⟩ : ∃ e, d = e + 1 + 1 := ⟨d - 2, by omega⟩
 obtain ⟨H', g, k⟩ := s_strings_IndexAny_ret (C N d) N (Nat.le_of_lt hN) cut s ha h2 hs (d_strings_IndexRune hN d (by omega) cut ha hl) (fun n H τ q => d_strings_shouldUseASCIISet hN d (by omega) n H τ q) (fun H hw τ => d60' hN d (by omega) cut ha (by omega) H hw τ)
  (fun id H hc x τ q => by
   obtain ⟨d, rfl⟩ : ∃ e, d = e + 1 := ⟨d - 1, by omega⟩
   exact d_asciiSet_contains hN d cut hc x τ q) H hw τ
 exact ⟨H', g, fun q => s_strings_ContainsAny_ret (C N (d + 1)) N cut s H H' τ k q⟩
theorem d35' (d : Nat) (hd : 3 ≤ d) (cut : Bs) (h2 : 2 ≤ cut.length) (h3 : cut.length < 9223372036854775807) (ha : ∀ x ∈ cut, x.toNat < 128) (s : Bs) (hs : s.length < 9223372036854775807) (H : Heap) (hw : WF H) (τ : Tape) :
  ∃ H', Gr H.size H H' ∧ ∀ q, C N d f_strings_Trim [.str s, .str cut] H τ q = q (.str (trimB cut.contains s)) H' τ := by
 obtain ⟨H', g, k⟩ := d_strings_Trim hN d hd cut h2 h3 ha s hs H hw τ retK
 exact ⟨H', g, fun q => (C_nat N d).mk k q⟩
theorem d_headers_Value (d : Nat) (hd : 6 ≤ d) (s : Bs) (hs : s.length < 9223372036854775807) (H : Heap) (hw : WF H) (τ : Tape) : ∃ H', Gr H.size H H' ∧ ∀ q, C N d f_headers_Value [.str s] H τ q = q (valV s) H' τ := by
 obtain ⟨d, rfl⟩ : ∃ e, d = e + 1 := ⟨d - 1, by omega⟩
 obtain ⟨H1, g1, k1⟩ := d35' hN d (by omega) [9, 10, 13, 32] (by decide) (by decide) (by decide) s hs H hw τ
 obtain ⟨H2, g2, k2⟩ := d_strings_ContainsAny hN d (by omega) [0, 10, 13] (valT s) (by decide) (by decide) (by decide) (by have := trimB_length ([9, 10, 13, 32] : Bs).contains s; unfold valT; omega) H1 g1.wf τ
 exact ⟨H2, g1.trans g2 g1.size, fun q => s_headers_Value_ret (C N d) N s H H1 H2 τ τ τ k1 k2 q⟩
end
end Go.Am.X

namespace Go.Am.X
abbrev NB : Nat := 9223372036854775808
theorem nb : 9223372036854775807 < NB := by decide
theorem tab_all (f : Nat) (d : Def) (h : tabF.get f = some d) (base : Base) (w0 : World) : DefOk PG base w0 f d := defs_ok (all_ok base w0) f d h
theorem primOk_E (d f : Nat) {R : List V → Heap → Out → Prop}
  (hR : ∀ vs H o, WF H → VsOk H vs → R vs H o → ∀ τ, ∃ v H' τ', C NB d f vs H τ retK = some (v, H', τ') ∧ Gr H.size H H' ∧ o.Met H v H') : ∀ base w0, PrimOk PG base w0 f (outP R) :=
 primOk_tab mixed_ok (tab_ok NB) tab_all d f hR
def strP (M : Nat) : List V → Prop | [.str s] => s.length ≤ M | _ => False
def strG (g : Bs → V) : List V → V | [.str s] => g s | _ => .tup []
abbrev RS (M : Nat) (g : Bs → V) := RV (strP M) (strG g)
theorem primS (d f M : Nat) (g : Bs → V) (hv : ∀ s H, VOk H (g s)) (h : ∀ s : Bs, s.length ≤ M → ∀ H, WF H → ∀ τ, ∃ H' τ', Gr H.size H H' ∧ ∀ q, C NB d f [.str s] H τ q = q (g s) H' τ') : ∀ base w0, PrimOk PG base w0 f (outP (RS M g)) := by
 refine primOk_E d f ?_
 rintro vs H o hw hvs ⟨hp, rfl⟩ τ
 unfold strP at hp
 split at hp
 ·rename_i s
  obtain ⟨H', τ', g1, k1⟩ := h s hp H hw τ
  exact ⟨_, H', τ', k1 retK, g1, rfl, hv s H⟩
 ·exact hp.elim
theorem callS {c : CallK} {f M : Nat} {g : Bs → V} (hc : ∀ vs H τ q, c f vs H τ q = effK (outP (RS M g) vs H τ) q) (s : Bs) (hs : s.length ≤ M) (H : Heap) (τ : Tape) (q : KV) : c f [.str s] H τ q = q (g s) H τ := RV_call hc (vs := [.str s]) hs H τ q
end Go.Am.X

namespace Go.Am.X
end Go.Am.X

namespace Go.Am.X
def RdH (H : Heap) (v : V) (hs : List Hd) : Prop := Rd H 2 v hs.length (hcells hs) ∧ Src H v
theorem RdH.gr {H H' : Heap} {B : Nat} {v : V} {hs : List Hd} (h : RdH H v hs) (hg : Gr B H H') (hw : WF H) (hB : H.size ≤ B) : RdH H' v hs := ⟨h.1.gr hg hw hB, h.2.gr hg hw hB⟩
abbrev ValueR := RS 9223372036854775806 valV
theorem valV_vok (s : Bs) (H : Heap) : VOk H (valV s) := by
 unfold valV; cases valO s <;> exact ⟨trivial, trivial, trivial⟩
theorem p_headers_Value : ∀ base w0, PrimOk PG base w0 f_headers_Value (outP ValueR) := primS 6 _ _ _ valV_vok fun s hs H hw τ => by
 obtain ⟨H', g, k⟩ := d_headers_Value nb 6 (by omega) s (by omega) H hw τ
 exact ⟨H', τ, g, k⟩
end Go.Am.X

namespace Go.Am.X
end Go.Am.X

namespace Go.Am.X
end Go.Am.X

namespace Go.Am.X
theorem someN : ∃ N : Nat, 9223372036854775807 < N := ⟨9223372036854775808, by decide⟩
theorem primRV {N : Nat} {l : List Row} (hl : RowsOk PG l) (d f : Nat) {Pre : List V → Prop} {g : List V → V} (hv : ∀ vs H, Pre vs → VOk H (g vs)) (h : ∀ vs, Pre vs → ∀ H, WF H → ∀ τ, ∃ H' τ', Gr H.size H H' ∧ ∀ q, CR l N d f vs H τ q = q (g vs) H' τ') : ∀ base w0, PrimOk PG base w0 f (outP (RV Pre g)) := by
 refine primOk_out mixed_ok hl N d f ?_
 rintro vs H o hw hvs ⟨hp, rfl⟩ τ
 obtain ⟨H', τ', g1, k1⟩ := h vs hp H hw τ
 exact ⟨_, H', τ', k1 retK, g1, rfl, hv vs H hp⟩
abbrev IsP (c : CallK) (f : Nat) (R : List V → Heap → Out → Prop) : Prop := ∀ vs H τ q, c f vs H τ q = effK (outP R vs H τ) q
end Go.Am.X

namespace Go.Am.X
end Go.Am.X

namespace Go.Am.X
def LsH (H : Heap) (B : Nat) (v : V) (hs : List Hd) : Prop := Own H B 2 v hs.length (hcells hs) ∧ (hs = [] → v = .nils)
theorem LsH.nil (H : Heap) (B : Nat) : LsH H B .nils [] := ⟨Own.nil _ _ _, fun _ => rfl⟩
theorem LsH.gr {H H' : Heap} {B C : Nat} {v : V} {hs : List Hd} (h : LsH H B v hs) (hg : Gr C H H') (hw : WF H) (hC : H.size ≤ C) : LsH H' B v hs := ⟨h.1.gr hg hw hC, h.2⟩
theorem LsH.weaken {H : Heap} {B C : Nat} {v : V} {hs : List Hd} (h : LsH H C v hs) (hBC : B ≤ C) : LsH H B v hs := by
 refine ⟨?_, h.2⟩
 rcases h.1 with h | ⟨id, e, room, fam, ver, pl, st, fr, h1, h2, h3, h4, h5, h6, h7⟩
 ·exact .inl h
 ·exact .inr ⟨id, e, room, fam, ver, pl, st, fr, h1, h2, h3, h4, Nat.le_trans hBC h5, Nat.le_trans hBC h6, h7⟩
theorem LsH.put {H : Heap} {B : Nat} {v : V} {hs : List Hd} (h : LsH H B v hs) (hw : WF H) (hB : B ≤ H.size) (x : Hd) (hn : hs.length ≤ 1000000) (τ : Tape) :
  ∃ w H1 v' H' τ', eBuildSlice 1 2 [(.str []), (.str [])] [(0, 2)] [hv x] H τ = some (w, H1, τ) ∧ eAppend 2 32 [v, w] H1 τ = some (v', H', τ') ∧ LsH H' B v' (hs ++ [x]) ∧ Gr B H H' ∧ (∀ id cs, H.cells? id = some cs → H'.cells? id = some cs) ∧ (∀ id cs, H.cells? id = some cs → H1.cells? id = some cs) := by
 obtain ⟨w, H1, v', H', τ', r1, r2, r3, r4, r5, r6⟩ := put2 h.1.apd hw hB x hn τ
 have e : H1 = H.new [.str x.1, .str x.2] (1 * 2) false := by
  have : eBuildSlice 1 2 [(.str []), (.str [])] [(0, 2)] [.agg [.str x.1, .str x.2]] H τ = some (.sl H.size 0 1 1 none 2, H.new [.str x.1, .str x.2] (1 * 2) false, τ) := rfl
  rw [this] at r1
  simp only [Option.some.injEq, Prod.mk.injEq] at r1
  exact r1.2.1.symm
 refine ⟨w, H1, v', H', τ', r1, r2, ⟨?_, fun h => by simp at h⟩, r4, r5, fun id cs hc => ?_⟩
 ·have := r3.own (by omega)
  simpa using this
 ·rw [e]; exact (Gr.new hw _ _ _).cells hw (Nat.le_refl _) hc
end Go.Am.X

namespace Go.Am.X
theorem RdH.nils {H : Heap} {hs : List Hd} (h : RdH H .nils hs) : hs = [] := by
 rcases h.1 with ⟨_, h0, _⟩ | ⟨_, _, _, _, _, e, _⟩
 ·exact List.eq_nil_of_length_eq_zero h0
 ·cases e
end Go.Am.X

namespace Go.Am.X
def partV (x : UInt8) (s : Bs) : V := match cutB x s with | some (a, b) => .tup [.str a, .str b, .bool true] | none => .tup [.str s, .str [], .bool false]
theorem partV_vok (x : UInt8) (s : Bs) (H : Heap) : VOk H (partV x s) := by
 unfold partV; split <;> exact ⟨trivial, trivial, trivial, trivial⟩
def begB (s p : Bs) : Bool := p.isPrefixOf s
theorem isPrefixOf_take : ∀ (s p : Bs), p.isPrefixOf s = (decide (p.length ≤ s.length) && (s.take p.length == p)) := by
 intro s p
 induction p generalizing s with
 | nil => simp
 | cons y p ih =>
  cases s with
  | nil => rfl
  | cons x s =>
   rw [List.isPrefixOf, ih s]
   simp only [List.length_cons, List.take_succ_cons]
   have e1 : decide (p.length + 1 ≤ s.length + 1) = decide (p.length ≤ s.length) := by simp
   have e2 : (x :: List.take p.length s == y :: p) = (x == y && (List.take p.length s == p)) := rfl
   have e3 : (y == x) = (x == y) := BEq.comm
   rw [e1, e2, e3]
   cases (x == y) <;> cases decide (p.length ≤ s.length) <;> simp
abbrev intV (s : Bs) : V := .tup [.int .i64 (intB s).1, .bool (intB s).2]
abbrev IntR := RS 9223372036854775806 intV
end Go.Am.X

namespace Go.Am.X
def RdS (H : Heap) (v : V) (ss : List Bs) : Prop := Rd H 1 v ss.length (ss.map V.str) ∧ Src H v
theorem RdS.gr {H H' : Heap} {B : Nat} {v : V} {ss : List Bs} (h : RdS H v ss) (hg : Gr B H H') (hw : WF H) (hB : H.size ≤ B) : RdS H' v ss := ⟨h.1.gr hg hw hB, h.2.gr hg hw hB⟩
def LsS (H : Heap) (B : Nat) (v : V) (ss : List Bs) : Prop := Own H B 1 v ss.length (ss.map V.str) ∧ (ss = [] → v = .nils)
theorem LsS.nil (H : Heap) (B : Nat) : LsS H B .nils [] := ⟨Own.nil _ _ _, fun _ => rfl⟩
theorem LsS.gr {H H' : Heap} {B C : Nat} {v : V} {ss : List Bs} (h : LsS H B v ss) (hg : Gr C H H') (hw : WF H) (hC : H.size ≤ C) : LsS H' B v ss := ⟨h.1.gr hg hw hC, h.2⟩
theorem LsS.weaken {H : Heap} {B C : Nat} {v : V} {ss : List Bs} (h : LsS H C v ss) (hBC : B ≤ C) : LsS H B v ss := by
 refine ⟨?_, h.2⟩
 rcases h.1 with h | ⟨id, e, room, fam, ver, pl, st, fr, h1, h2, h3, h4, h5, h6, h7⟩
 ·exact .inl h
 ·exact .inr ⟨id, e, room, fam, ver, pl, st, fr, h1, h2, h3, h4, Nat.le_trans hBC h5, Nat.le_trans hBC h6, h7⟩
theorem LsS.put {H : Heap} {B : Nat} {v : V} {ss : List Bs} (h : LsS H B v ss) (hw : WF H) (hB : B ≤ H.size) (x : Bs) (hn : ss.length ≤ 4294967296) (τ : Tape) :
  ∃ w H1 v' H' τ', eBuildSlice 1 1 [(.str [])] [(0, 1)] [.str x] H τ = some (w, H1, τ) ∧ eAppend 1 16 [v, w] H1 τ = some (v', H', τ') ∧ LsS H' B v' (ss ++ [x]) ∧ Gr B H H' := by
 obtain ⟨w, H1, v', H', r1, r2, r3, r4, _⟩ := h.1.push (bytes := 16) hw hB (.str x) (.str []) rfl rfl (by omega) (by omega) τ
 refine ⟨w, H1, v', H', τ.tail, r1, r2, ⟨by simpa using r3, fun h => by simp at h⟩, r4⟩
theorem Small.pre {a b : List Hd} (h : Small (a ++ b)) : Small a := ⟨by have := h.len; simp at this; omega, fun x hx => h.all x (by simp [hx])⟩
end Go.Am.X

namespace Go.Am.X
def digF : Nat → Nat → Bs → Bs
 | 0, _, acc => acc
 | f + 1, n, acc => bif Nat.blt 0 n || acc.isEmpty then digF f (n / 10) (UInt8.ofNat (48 + n % 10) :: acc) else acc
def dig (n : Nat) : Bs := digF 8 n []
def Dgs (s : Bs) : Prop := ∀ x ∈ s, 48 ≤ x.toNat ∧ x.toNat ≤ 57
theorem dgt (r : Nat) (h : r < 10) : (UInt8.ofNat (48 + r)).toNat = 48 + r := by
 rw [UInt8.toNat_ofNat']; omega
theorem digF_ok : ∀ (f n : Nat) (acc : Bs), Dgs acc → (acc ≠ [] ∨ 0 < f) → Dgs (digF f n acc) ∧ digF f n acc ≠ [] ∧ (digF f n acc).length ≤ acc.length + f := by
 intro f
 induction f with
 | zero => intro n acc h1 h2; exact ⟨h1, by rcases h2 with h | h; exact h; omega, by simp [digF]⟩
 | succ f ih =>
  intro n acc h1 h2
  rw [digF]
  cases hb : (Nat.blt 0 n || acc.isEmpty) with
  | true =>
   rw [cond_true]
   have hr := dgt (n % 10) (Nat.mod_lt _ (by omega))
   obtain ⟨a, b, c⟩ := ih (n / 10) (UInt8.ofNat (48 + n % 10) :: acc) (fun x hx => by
    rcases List.mem_cons.1 hx with rfl | hx
    ·rw [hr]; omega
    ·exact h1 x hx) (.inl (by simp))
   exact ⟨a, b, by simp only [List.length_cons] at c; omega⟩
  | false =>
   rw [cond_false]
   exact ⟨h1, fun e => by rw [e] at hb; simp at hb, by omega⟩
theorem intStep_dig (n : Nat) (hn : n < 4611686018427387904) : intStep ((n / 10 : Nat) : Int) (((48 + n % 10 : Nat) : Int) - 48) = (n : Int) := by
 have e : (((48 + n % 10 : Nat) : Int) - 48) = ((n % 10 : Nat) : Int) := by omega
 have e2 : (mostI - ((n % 10 : Nat) : Int)).tdiv 10 = ((9223372036854775807 - n % 10) / 10 : Nat) := by
  have : mostI - ((n % 10 : Nat) : Int) = ((9223372036854775807 - n % 10 : Nat) : Int) := by unfold mostI; omega
  rw [this]; rfl
 rw [e]
 unfold intStep
 rw [e2, if_neg (by omega)]
 omega
theorem intL_dig : ∀ (f n : Nat) (acc : Bs), n < 10 ^ f → n < 4611686018427387904 → intL (digF f n acc) 0 = intL acc (n : Int) := by
 intro f
 induction f with
 | zero =>
  intro n acc h _; have : n = 0 := by simpa using h
  subst this; rfl
 | succ f ih =>
  intro n acc h hb
  rw [digF]
  cases hbb : (Nat.blt 0 n || acc.isEmpty) with
  | true =>
   have h' : n < 10 ^ f * 10 := h
   have h1 : n / 10 < 10 ^ f := Nat.div_lt_of_lt_mul (by rw [Nat.mul_comm]; exact h')
   have h2 : n / 10 < 4611686018427387904 := Nat.lt_of_le_of_lt (Nat.div_le_self _ _) hb
   rw [cond_true, ih (n / 10) _ h1 h2]
   have hr := dgt (n % 10) (Nat.mod_lt _ (by omega))
   rw [intL, if_pos (by rw [hr]; omega), hr, intStep_dig n hb]
  | false =>
   rw [cond_false]
   have h0 : Nat.blt 0 n = false := by cases h : Nat.blt 0 n with | true => rw [h] at hbb; simp at hbb | false => rfl
   have : n = 0 := by
    cases n with
    | zero => rfl
    | succ n => cases h0
   subst this; rfl
theorem intB_dig (n : Nat) (hn : n < 100000000) : intB (dig n) = ((n : Int), true) := by
 have h := intL_dig 8 n [] (by omega) (by omega)
 obtain ⟨_, h2, _⟩ := digF_ok 8 n [] (fun x hx => by simp at hx) (.inr (by omega))
 have hl : 0 < (digF 8 n []).length := List.length_pos_iff.2 h2
 unfold intB dig
 rw [h]
 simp only [intL, decide_eq_true hl]
def toldB (s : Bs) : Int × Bool := if s = [] then (-1, true) else intB s
theorem dig_slice : ∀ r, r < 10 → pStrSlice true true [.str (bs [48, 49, 50, 51, 52, 53, 54, 55, 56, 57]), .int .i64 ((r : Nat) : Int), .int .i64 ((r + 1 : Nat) : Int)] = some (.str [UInt8.ofNat (48 + r)]) := by
 intro r hr
 rw [strSlice_lohi (by omega) (by simp [bs]; omega)]
 match r, hr with
 | 0, _ | 1, _ | 2, _ | 3, _ | 4, _ | 5, _ | 6, _ | 7, _ | 8, _ | 9, _ => rfl
theorem dig_ok (n : Nat) : Dgs (dig n) ∧ dig n ≠ [] ∧ (dig n).length ≤ 8 := by
 have := digF_ok 8 n [] (fun x hx => by simp at hx) (.inr (by omega))
 exact ⟨this.1, this.2.1, by simpa [dig] using this.2.2⟩
def bytesEq : Bs := [98, 121, 116, 101, 115, 61]
end Go.Am.X

namespace Go.Am.X
theorem s_stringslite_HasPrefix_ret (c : CallK) (N : Nat) (s p : Bs) (H : Heap) (τ : Tape) (q : KV) : s_stringslite_HasPrefix c N (.str s) (.str p) H τ q = q (.bool (begB s p)) H τ := by
 unfold begB
 rw [isPrefixOf_take]
 by_cases h : p.length ≤ s.length
 ·have e1 : decide (p.length ≤ s.length) = true := decide_eq_true h
  have s1 : pStrSlice false true [.str s, .int .i64 (p.length : Int)] = some (.str (s.take p.length)) := strSlice_hi h
  simp only [s_stringslite_HasPrefix, getK_set, ↓reduceIte, Nat.reduceEqDiff, someK_n, effK_n, retK, gK_do, gK_do', gK_skip, gK_skip', gK_none, pick_mk, cond_true, cond_false, condK_tn, condK_fn, bin_eql, bin_neq, bin_lss, bin_leq, bin_gtr, bin_geq, un_not, Bool.not_true, Bool.not_false, bin_str, lenS_mk, nle_l, nle_r, nle_n, nlt_l, nlt_r, nlt_n, neq_r, neq_n, nne_r, nne_n, ext0, ext1, ext30, ext31, ext32, bin_add, bin_sub, decide_true, decide_false, e1, s1, str_eql, Bool.true_and]
 ·have e1 : decide (p.length ≤ s.length) = false := decide_eq_false h
  simp only [s_stringslite_HasPrefix, getK_set, ↓reduceIte, Nat.reduceEqDiff, someK_n, effK_n, retK, gK_do, gK_do', gK_skip, gK_skip', gK_none, pick_mk, cond_true, cond_false, condK_tn, condK_fn, bin_eql, bin_neq, bin_lss, bin_leq, bin_gtr, bin_geq, un_not, Bool.not_true, Bool.not_false, bin_str, lenS_mk, nle_l, nle_r, nle_n, nlt_l, nlt_r, nlt_n, neq_r, neq_n, nne_r, nne_n, ext0, ext1, ext30, ext31, ext32, bin_add, bin_sub, decide_true, decide_false, e1, Bool.false_and]
abbrev BegOk (c : CallK) (f : Nat) : Prop := ∀ (s p : Bs) (H : Heap) (τ : Tape) (q : KV), c f [.str s, .str p] H τ q = q (.bool (begB s p)) H τ
def cutpV (s p : Bs) : V := bif begB s p then .tup [.str (s.drop p.length), .bool true] else .tup [.str s, .bool false]
theorem begB_len {s p : Bs} (h : begB s p = true) : p.length ≤ s.length := by
 unfold begB at h; rw [isPrefixOf_take, Bool.and_eq_true] at h; exact of_decide_eq_true h.1
theorem s_stringslite_CutPrefix_ret (c : CallK) (N : Nat) (h : BegOk c f_stringslite_HasPrefix) (s p : Bs) (H : Heap) (τ : Tape) (q : KV) : s_stringslite_CutPrefix c N (.str s) (.str p) H τ q = q (cutpV s p) H τ := by
 unfold cutpV
 cases hb : begB s p with
 | true =>
  have e2 : pStrSlice true false [.str s, .int .i64 (p.length : Int)] = some (.str (s.drop p.length)) := strSlice_lo (begB_len hb)
  simp only [s_stringslite_CutPrefix, h s p, hb, getK_set, ↓reduceIte, Nat.reduceEqDiff, someK_n, effK_n, retK, gK_do, gK_do', gK_skip, gK_skip', gK_none, pick_mk, cond_true, cond_false, condK_tn, condK_fn, bin_eql, bin_neq, bin_lss, bin_leq, bin_gtr, bin_geq, un_not, Bool.not_true, Bool.not_false, bin_str, lenS_mk, nle_l, nle_r, nle_n, nlt_l, nlt_r, nlt_n, neq_r, neq_n, nne_r, nne_n, ext0, ext1, ext30, ext31, ext32, bin_add, bin_sub, decide_true, decide_false, e2]
 | false => simp only [s_stringslite_CutPrefix, h s p, hb, getK_set, ↓reduceIte, Nat.reduceEqDiff, someK_n, effK_n, retK, gK_do, gK_do', gK_skip, gK_skip', gK_none, pick_mk, cond_true, cond_false, condK_tn, condK_fn, bin_eql, bin_neq, bin_lss, bin_leq, bin_gtr, bin_geq, un_not, Bool.not_true, Bool.not_false, bin_str, lenS_mk, nle_l, nle_r, nle_n, nlt_l, nlt_r, nlt_n, neq_r, neq_n, nne_r, nne_n, ext0, ext1, ext30, ext31, ext32, bin_add, bin_sub, decide_true, decide_false]
abbrev CutpOk (c : CallK) (f : Nat) : Prop := ∀ (s p : Bs) (H : Heap) (τ : Tape) (q : KV), c f [.str s, .str p] H τ q = q (cutpV s p) H τ
theorem s_strings_CutPrefix_ret (c : CallK) (N : Nat) (h : CutpOk c f_stringslite_CutPrefix) (s p : Bs) (H : Heap) (τ : Tape) (q : KV) : s_strings_CutPrefix c N (.str s) (.str p) H τ q = q (cutpV s p) H τ := by
 simp only [s_strings_CutPrefix, h s p]
 unfold cutpV
 cases begB s p <;> simp only [getK_set, ↓reduceIte, Nat.reduceEqDiff, someK_n, effK_n, retK, gK_do, gK_do', gK_skip, gK_skip', gK_none, pick_mk, cond_true, cond_false, condK_tn, condK_fn, bin_eql, bin_neq, bin_lss, bin_leq, bin_gtr, bin_geq, un_not, Bool.not_true, Bool.not_false, bin_str, lenS_mk, nle_l, nle_r, nle_n, nlt_l, nlt_r, nlt_n, neq_r, neq_n, nne_r, nne_n, ext0, ext1, ext30, ext31, ext32, bin_add, bin_sub, decide_true, decide_false]
abbrev CutPre : List V → Prop | [.str s, .str [_]] => s.length < 9223372036854775807 | _ => False
abbrev CutG : List V → V | [.str s, .str [x]] => partV x s | _ => .tup []
abbrev CutR := RV CutPre CutG
theorem p_strings_Cut : ∀ base w0, PrimOk PG base w0 f_strings_Cut (outP CutR) := by
 refine primOk_E 4 _ ?_
 rintro vs H o hw hvs ⟨hp, rfl⟩ τ
 unfold CutPre at hp; split at hp
 ·rename_i s x
  exact ⟨_, H, τ, d_strings_Cut nb 4 (by omega) x s hp H τ retK, Gr.refl hw, rfl, partV_vok x s H⟩
 ·exact hp.elim
abbrev RCutOk (c : CallK) : Prop := ∀ (s : Bs) (x : UInt8), s.length < 9223372036854775807 → ∀ H τ q, c f_strings_Cut [.str s, .str [x]] H τ q = q (partV x s) H τ
theorem k_strings_Cut {c : CallK} (h : IsP c f_strings_Cut CutR) : RCutOk c := fun s x hs H τ q => RV_call h (vs := [.str s, .str [x]]) hs H τ q
theorem p_infra_Int : ∀ base w0, PrimOk PG base w0 f_infra_Int (outP IntR) := primS 1 _ _ _ (fun _ _ => ⟨trivial, trivial, trivial⟩) fun s hs H hw τ => ⟨H, τ, Gr.refl hw, fun q => d_infra_Int nb 1 (by omega) s (by omega) H τ q⟩
abbrev NIntOk (c : CallK) : Prop := ∀ (s : Bs), s.length ≤ 9223372036854775806 → ∀ H τ q, c f_infra_Int [.str s] H τ q = q (intV s) H τ
theorem k_infra_Int {c : CallK} (h : IsP c f_infra_Int IntR) : NIntOk c := fun s hs H τ q => callS h s hs H τ q
def rngAB (a b : Int × Bool) : Int × Int × Bool :=
 bif (a.2 && b.2) && (!(decide (a.1 < 0) && decide (b.1 < 0)) && !(decide (0 ≤ a.1) && (decide (0 ≤ b.1) && decide (b.1 < a.1)))) then (a.1, b.1, true) else (0, 0, false)
def rng (s : Bs) : Int × Int × Bool := bif begB s bytesEq then (match cutB 45 (s.drop 6) with | some (a, b) => rngAB (toldB a) (toldB b) | none => (0, 0, false)) else (0, 0, false)
abbrev rngV (s : Bs) : V := .tup [.int .i64 (rng s).1, .int .i64 (rng s).2.1, .bool (rng s).2.2]
abbrev ToldOk (c : CallK) : Prop := ∀ (s : Bs), s.length ≤ 9223372036854775806 → ∀ H τ q, c f_headers_told [.str s] H τ q = q (.tup [.int .i64 (toldB s).1, .bool (toldB s).2]) H τ
theorem s_headers_told_gen (c : CallK) (N : Nat) (h : NIntOk c) (s : Bs) (hs : s.length ≤ 9223372036854775806) (H : Heap) (τ : Tape) (q : KV) : s_headers_told c N (.str s) H τ q = q (.tup [.int .i64 (toldB s).1, .bool (toldB s).2]) H τ := by
 unfold toldB
 by_cases e : s = []
 ·subst e
  have e : (([] : Bs) == []) = true := rfl
  simp only [s_headers_told, getK_set, ↓reduceIte, Nat.reduceEqDiff, someK_n, effK_n, retK, gK_do, gK_do', gK_skip, gK_skip', gK_none, pick_mk, cond_true, cond_false, condK_tn, condK_fn, bin_eql, bin_neq, bin_lss, bin_leq, bin_gtr, bin_geq, un_not, Bool.not_true, Bool.not_false, bin_str, lenS_mk, nle_l, nle_r, nle_n, nlt_l, nlt_r, nlt_n, neq_r, neq_n, nne_r, nne_n, ext0, ext1, ext30, ext31, ext32, bin_add, bin_sub, decide_true, decide_false, str_eql, e, if_true]
  rfl
 ·have e' : (s == ([] : Bs)) = false := beq_eq_false_iff_ne.2 e
  simp only [s_headers_told, getK_set, ↓reduceIte, Nat.reduceEqDiff, someK_n, effK_n, retK, gK_do, gK_do', gK_skip, gK_skip', gK_none, pick_mk, cond_true, cond_false, condK_tn, condK_fn, bin_eql, bin_neq, bin_lss, bin_leq, bin_gtr, bin_geq, un_not, Bool.not_true, Bool.not_false, bin_str, lenS_mk, nle_l, nle_r, nle_n, nlt_l, nlt_r, nlt_n, neq_r, neq_n, nne_r, nne_n, ext0, ext1, ext30, ext31, ext32, bin_add, bin_sub, decide_true, decide_false, str_eql, e', if_neg e, h s hs]
theorem cutB_len (x : UInt8) : ∀ (s a b : Bs), cutB x s = some (a, b) → a.length + b.length + 1 = s.length := by
 intro s a b h
 have := ((cutB_spec x s).2 a b h).1
 rw [this]; simp; omega
set_option maxHeartbeats 2000000 in
theorem s_headers_Range_gen (c : CallK) (N : Nat) (hP : CutpOk c f_strings_CutPrefix) (hC : RCutOk c) (hT : ToldOk c) (s : Bs) (hs : s.length ≤ 9223372036854775806) (H : Heap) (τ : Tape) (q : KV) : s_headers_Range c N (.str s) H τ q = q (rngV s) H τ := by
 have k1 := fun H τ q => hP s bytesEq H τ q
 have eb : bs [98, 121, 116, 101, 115, 61] = bytesEq := rfl
 have e45 : bs [45] = [45] := rfl
 have fin : ∀ (a b : Int × Bool) (q : KV), s_headers_Range c N (.str s) H τ q = s_headers_Range c N (.str s) H τ q := fun _ _ _ => rfl
 unfold rngV rng
 unfold cutpV at k1
 cases hb : begB s bytesEq with
 | false =>
  rw [hb] at k1
  have k2 := hC s 45 (by omega)
  unfold partV at k2
  cases hc : cutB 45 s with
  | none =>
   rw [hc] at k2
   simp only [s_headers_Range, eb, e45, k1, cond_false, getK_set, ↓reduceIte, Nat.reduceEqDiff, someK_n, effK_n, retK, gK_do, gK_do', gK_skip, gK_skip', gK_none, pick_mk, cond_true, cond_false, condK_tn, condK_fn, bin_eql, bin_neq, bin_lss, bin_leq, bin_gtr, bin_geq, un_not, Bool.not_true, Bool.not_false, bin_str, lenS_mk, nle_l, nle_r, nle_n, nlt_l, nlt_r, nlt_n, neq_r, neq_n, nne_r, nne_n, ext0, ext1, ext30, ext31, ext32, bin_add, bin_sub, decide_true, decide_false, k2, hT s hs, hT [] (by simp)]
   rfl
  | some ab =>
   obtain ⟨a, b⟩ := ab
   have hl := cutB_len 45 s a b hc
   rw [hc] at k2
   simp only [s_headers_Range, eb, e45, k1, cond_false, getK_set, ↓reduceIte, Nat.reduceEqDiff, someK_n, effK_n, retK, gK_do, gK_do', gK_skip, gK_skip', gK_none, pick_mk, cond_true, cond_false, condK_tn, condK_fn, bin_eql, bin_neq, bin_lss, bin_leq, bin_gtr, bin_geq, un_not, Bool.not_true, Bool.not_false, bin_str, lenS_mk, nle_l, nle_r, nle_n, nlt_l, nlt_r, nlt_n, neq_r, neq_n, nne_r, nne_n, ext0, ext1, ext30, ext31, ext32, bin_add, bin_sub, decide_true, decide_false, k2, hT a (by omega), hT b (by omega)]
   rfl
 | true =>
  rw [hb] at k1
  have hd : (s.drop 6).length ≤ s.length := by rw [List.length_drop]; omega
  have k2 := hC (s.drop 6) 45 (by omega)
  have e6 : s.drop bytesEq.length = s.drop 6 := rfl
  unfold partV at k2
  cases hc : cutB 45 (s.drop 6) with
  | none =>
   rw [hc] at k2
   simp only [s_headers_Range, eb, e45, k1, cond_true, getK_set, ↓reduceIte, Nat.reduceEqDiff, someK_n, effK_n, retK, gK_do, gK_do', gK_skip, gK_skip', gK_none, pick_mk, cond_true, cond_false, condK_tn, condK_fn, bin_eql, bin_neq, bin_lss, bin_leq, bin_gtr, bin_geq, un_not, Bool.not_true, Bool.not_false, bin_str, lenS_mk, nle_l, nle_r, nle_n, nlt_l, nlt_r, nlt_n, neq_r, neq_n, nne_r, nne_n, ext0, ext1, ext30, ext31, ext32, bin_add, bin_sub, decide_true, decide_false, e6, k2, hT (s.drop 6) (by omega), hT [] (by simp)]
   rfl
  | some ab =>
   obtain ⟨a, b⟩ := ab
   have hl := cutB_len 45 _ a b hc
   rw [hc] at k2
   have kA := hT a (by omega)
   have kB := hT b (by omega)
   simp only [cond_true]
   generalize toldB a = ta at kA ⊢
   generalize toldB b = tb at kB ⊢
   obtain ⟨fa, ba⟩ := ta
   obtain ⟨fb, bb⟩ := tb
   simp only at kA kB
   unfold rngAB
   have z1 : decide (fa < Int.ofNat 0) = decide (fa < 0) := rfl
   have z2 : decide (fb < Int.ofNat 0) = decide (fb < 0) := rfl
   have z3 : decide (Int.ofNat 0 ≤ fa) = decide (0 ≤ fa) := rfl
   have z4 : decide (Int.ofNat 0 ≤ fb) = decide (0 ≤ fb) := rfl
   have z5 : ∀ (q : V → Ans), binK .gtr (.int .i64 fa) (.int .i64 fb) q = q (.bool (decide (fb < fa))) := fun q => bin_gtr _ _ _ _
   have d3 : decide (0 ≤ fa) = !decide (fa < 0) := by by_cases h : fa < 0 <;> simp [h] <;> omega
   have d4 : decide (0 ≤ fb) = !decide (fb < 0) := by by_cases h : fb < 0 <;> simp [h] <;> omega
   rw [d3] at z3
   rw [d4] at z4
   rw [d3, d4]
   simp only [s_headers_Range, eb, e45, k1, cond_true, getK_set, ↓reduceIte, Nat.reduceEqDiff, someK_n, effK_n, retK, gK_do, gK_do', gK_skip, gK_skip', gK_none, pick_mk, cond_true, cond_false, condK_tn, condK_fn, bin_eql, bin_neq, bin_lss, bin_leq, bin_gtr, bin_geq, un_not, Bool.not_true, Bool.not_false, bin_str, lenS_mk, nle_l, nle_r, nle_n, nlt_l, nlt_r, nlt_n, neq_r, neq_n, nne_r, nne_n, ext0, ext1, ext30, ext31, ext32, bin_add, bin_sub, decide_true, decide_false, e6, k2, kA, kB]
   cases ba <;> cases bb <;> simp only [getK_set, ↓reduceIte, Nat.reduceEqDiff, someK_n, effK_n, retK, gK_do, gK_do', gK_skip, gK_skip', gK_none, pick_mk, cond_true, cond_false, condK_tn, condK_fn, bin_eql, bin_neq, bin_lss, bin_leq, bin_gtr, bin_geq, un_not, Bool.not_true, Bool.not_false, bin_str, lenS_mk, nle_l, nle_r, nle_n, nlt_l, nlt_r, nlt_n, neq_r, neq_n, nne_r, nne_n, ext0, ext1, ext30, ext31, ext32, bin_add, bin_sub, decide_true, decide_false] <;> cases d1 : decide (fa < 0) <;> cases d2 : decide (fb < 0) <;> cases d5 : decide (fb < fa) <;>
    (simp only [getK_set, ↓reduceIte, Nat.reduceEqDiff, someK_n, effK_n, retK, gK_do, gK_do', gK_skip, gK_skip', gK_none, pick_mk, cond_true, cond_false, condK_tn, condK_fn, bin_eql, bin_neq, bin_lss, bin_leq, bin_gtr, bin_geq, un_not, Bool.not_true, Bool.not_false, bin_str, lenS_mk, nle_l, nle_r, nle_n, nlt_l, nlt_r, nlt_n, neq_r, neq_n, nne_r, nne_n, ext0, ext1, ext30, ext31, ext32, bin_add, bin_sub, decide_true, decide_false, z1, z2, z3, z4, z5, d1, d2, d5]; rfl)
abbrev RngR := RS 9223372036854775806 rngV
theorem rngV_vok (s : Bs) (H : Heap) : VOk H (rngV s) := ⟨trivial, trivial, trivial, trivial⟩
noncomputable abbrev rw_HRange : List Row := [Row.fn f_headers_Range fn_headers_Range e_headers_Range, Row.fn f_strings_CutPrefix fn_strings_CutPrefix e_strings_CutPrefix, Row.fn f_stringslite_CutPrefix fn_stringslite_CutPrefix e_stringslite_CutPrefix, Row.fn f_stringslite_HasPrefix fn_stringslite_HasPrefix e_stringslite_HasPrefix, Row.fn f_headers_told fn_headers_told e_headers_told, Row.prim f_strings_Cut (outP CutR), Row.prim f_infra_Int (outP IntR)]
theorem p_headers_Range : ∀ base w0, PrimOk PG base w0 f_headers_Range (outP RngR) := by
 obtain ⟨N, hN⟩ := someN
 refine primRV (N := N) (l := rw_HRange) (.fn ok_headers_Range e_headers_Range_ok (.fn ok_strings_CutPrefix e_strings_CutPrefix_ok (.fn ok_stringslite_CutPrefix e_stringslite_CutPrefix_ok (.fn ok_stringslite_HasPrefix e_stringslite_HasPrefix_ok (.fn ok_headers_told e_headers_told_ok (.prim p_strings_Cut (.prim p_infra_Int (.nil _)))))))) 4 _ (fun vs H h => ?_) (fun vs h H hw τ => ?_)
 ·unfold strP at h; split at h
  ·exact rngV_vok _ _
  ·exact h.elim
 ·unfold strP at h; split at h
  ·exact ⟨H, τ, Gr.refl hw, fun q => s_headers_Range_gen (CR rw_HRange N 3) N (fun s p H τ q => s_strings_CutPrefix_ret (CR rw_HRange N 2) N (fun s p H τ q => s_stringslite_CutPrefix_ret (CR rw_HRange N 1) N (fun s p H τ q => s_stringslite_HasPrefix_ret (CR rw_HRange N 0) N s p H τ q) s p H τ q) s p H τ q) (k_strings_Cut fun _ _ _ _ => rfl) (fun s hs H τ q => s_headers_told_gen (CR rw_HRange N 2) N (k_infra_Int fun _ _ _ _ => rfl) s hs H τ q) _ h H τ q⟩
  ·exact h.elim
abbrev RngOk (c : CallK) (f : Nat) : Prop := ∀ (s : Bs), s.length ≤ 9223372036854775806 → ∀ H τ q, c f [.str s] H τ q = q (rngV s) H τ
theorem k_Range {c : CallK} {f : Nat} (h : IsP c f RngR) : RngOk c f := fun s hs H τ q => callS h s hs H τ q
end Go.Am.X

namespace Go.Am.X
def pow10V : List V := [.int .u64 1, .int .u64 10, .int .u64 100, .int .u64 1000, .int .u64 10000, .int .u64 100000, .int .u64 1000000, .int .u64 10000000, .int .u64 100000000, .int .u64 1000000000, .int .u64 10000000000, .int .u64 100000000000, .int .u64 1000000000000, .int .u64 10000000000000, .int .u64 100000000000000, .int .u64 1000000000000000, .int .u64 10000000000000000, .int .u64 100000000000000000, .int .u64 1000000000000000000, .int .u64 10000000000000000000]
def tabs : List (Option (List V)) := List.replicate 1 none ++ some pow10V :: List.replicate (6 - 1 - 1) none
theorem tabs_plain : plainL tabs = true := by kernel_rfl
theorem tabs_len : tabs.length = 6 := by kernel_rfl
theorem tabs_at {j : Nat} {cs : List V} (h : tabs[j]? = some (some cs)) : j = 1 ∧ cs = pow10V := by
 unfold tabs at h
 rw [List.getElem?_append] at h
 split at h
 ·rw [List.getElem?_replicate] at h; split at h <;> simp at h
 ·rename_i hj
  rw [List.length_replicate] at h hj
  cases hk : j - 1 with
  | zero => rw [hk] at h; simp at h; exact ⟨by omega, h.symm⟩
  | succ k => rw [hk] at h; rw [List.getElem?_cons_succ, List.getElem?_replicate] at h; split at h <;> simp at h
def FmtPre : List V → Prop
 | [.int .i64 n, .int .i64 b] => 0 ≤ n ∧ n < 400 ∧ b = 10
 | _ => False
abbrev FmtG : List V → V
 | [.int .i64 n, _] => .str (dig n.toNat)
 | _ => .tup []
theorem fmt_run0 : (fun τ => allA (List.range 50) fun n => callK (tabOf tabEk 100000) 40 f_strconv_FormatInt [.int .i64 (Int.ofNat (0 + n)), .int .i64 (.ofNat 10)] (start tabs) τ (isK (.str (dig (0 + n))))) = fun _ => doneA := by kernel_rfl
theorem fmt_run1 : (fun τ => allA (List.range 50) fun n => callK (tabOf tabEk 100000) 40 f_strconv_FormatInt [.int .i64 (Int.ofNat (50 + n)), .int .i64 (.ofNat 10)] (start tabs) τ (isK (.str (dig (50 + n))))) = fun _ => doneA := by kernel_rfl
theorem fmt_run2 : (fun τ => allA (List.range 50) fun n => callK (tabOf tabEk 100000) 40 f_strconv_FormatInt [.int .i64 (Int.ofNat (100 + n)), .int .i64 (.ofNat 10)] (start tabs) τ (isK (.str (dig (100 + n))))) = fun _ => doneA := by kernel_rfl
theorem fmt_run3 : (fun τ => allA (List.range 50) fun n => callK (tabOf tabEk 100000) 40 f_strconv_FormatInt [.int .i64 (Int.ofNat (150 + n)), .int .i64 (.ofNat 10)] (start tabs) τ (isK (.str (dig (150 + n))))) = fun _ => doneA := by kernel_rfl
theorem fmt_run4 : (fun τ => allA (List.range 50) fun n => callK (tabOf tabEk 100000) 40 f_strconv_FormatInt [.int .i64 (Int.ofNat (200 + n)), .int .i64 (.ofNat 10)] (start tabs) τ (isK (.str (dig (200 + n))))) = fun _ => doneA := by kernel_rfl
theorem fmt_run5 : (fun τ => allA (List.range 50) fun n => callK (tabOf tabEk 100000) 40 f_strconv_FormatInt [.int .i64 (Int.ofNat (250 + n)), .int .i64 (.ofNat 10)] (start tabs) τ (isK (.str (dig (250 + n))))) = fun _ => doneA := by kernel_rfl
theorem fmt_run6 : (fun τ => allA (List.range 50) fun n => callK (tabOf tabEk 100000) 40 f_strconv_FormatInt [.int .i64 (Int.ofNat (300 + n)), .int .i64 (.ofNat 10)] (start tabs) τ (isK (.str (dig (300 + n))))) = fun _ => doneA := by kernel_rfl
theorem fmt_run7 : (fun τ => allA (List.range 50) fun n => callK (tabOf tabEk 100000) 40 f_strconv_FormatInt [.int .i64 (Int.ofNat (350 + n)), .int .i64 (.ofNat 10)] (start tabs) τ (isK (.str (dig (350 + n))))) = fun _ => doneA := by kernel_rfl
theorem fmt_run {k : Nat} (hk : k < 400) (τ : Tape) : ∃ r, callK (tabOf tabEk 100000) 40 f_strconv_FormatInt [.int .i64 (Int.ofNat k), .int .i64 (.ofNat 10)] (start tabs) τ (isK (.str (dig k))) = some r := by
 have step : ∀ (a : Nat), ((fun τ => allA (List.range 50) fun n => callK (tabOf tabEk 100000) 40 f_strconv_FormatInt [.int .i64 (Int.ofNat (a + n)), .int .i64 (.ofNat 10)] (start tabs) τ (isK (.str (dig (a + n))))) = fun _ => doneA) → a ≤ k → k < a + 50 →
   ∃ r, callK (tabOf tabEk 100000) 40 f_strconv_FormatInt [.int .i64 (Int.ofNat k), .int .i64 (.ofNat 10)] (start tabs) τ (isK (.str (dig k))) = some r := by
  intro a h h1 h2
  have := allA_run h (x := k - a) (List.mem_range.2 (by omega)) τ
  rwa [show a + (k - a) = k by omega] at this
 by_cases h0 : k < 50
 ·exact step 0 fmt_run0 (by omega) (by omega)
 by_cases h1 : k < 100
 ·exact step 50 fmt_run1 (by omega) (by omega)
 by_cases h2 : k < 150
 ·exact step 100 fmt_run2 (by omega) (by omega)
 by_cases h3 : k < 200
 ·exact step 150 fmt_run3 (by omega) (by omega)
 by_cases h4 : k < 250
 ·exact step 200 fmt_run4 (by omega) (by omega)
 by_cases h5 : k < 300
 ·exact step 250 fmt_run5 (by omega) (by omega)
 by_cases h6 : k < 350
 ·exact step 300 fmt_run6 (by omega) (by omega)
 exact step 350 fmt_run7 (by omega) (by omega)
theorem p_fmt : ∀ base w0, PrimOk PG base w0 f_strconv_FormatInt (outP (RG tabs FmtPre FmtG)) := by
 refine primOk_constG mixed_ok allk_ok (tabk_ok 100000) (by kernel_rfl) (N := 100000) (d := 40) tabs (by rw [tabs_len]; kernel_rfl) tabs_plain ?_
 intro vs hp
 unfold FmtPre at hp
 split at hp
 ·rename_i n b
  obtain ⟨h1, h2, rfl⟩ := hp
  obtain ⟨k, rfl⟩ := Int.eq_ofNat_of_zero_le h1
  exact ⟨rfl, fun τ => fmt_run (k := k) (by omega) τ⟩
 ·exact hp.elim
def ItoPre : List V → Prop
 | [.int .i64 n] => 0 ≤ n ∧ n < 100
 | _ => False
abbrev ItoG : List V → V
 | [.int .i64 n] => .str (dig n.toNat)
 | _ => .tup []
theorem ito_run : (fun τ => allA (List.range 100) fun n => callK (tabOf tabEk 100000) 40 f_strconv_Itoa [.int .i64 (Int.ofNat n)] (start (List.replicate 6 none)) τ (isK (.str (dig n)))) = fun _ => doneA := by kernel_rfl
theorem p_itoa : ∀ base w0, PrimOk PG base w0 f_strconv_Itoa (outP (RV ItoPre ItoG)) := by
 refine primOk_const mixed_ok allk_ok (tabk_ok 100000) (by kernel_rfl) (N := 100000) (d := 40) 6 (Nat.le_of_eq (by kernel_rfl)) ?_
 intro vs hp
 unfold ItoPre at hp
 split at hp
 ·rename_i n
  obtain ⟨h1, h2⟩ := hp
  obtain ⟨k, rfl⟩ := Int.eq_ofNat_of_zero_le h1
  exact ⟨rfl, fun τ => allA_run ito_run (x := k) (List.mem_range.2 (by omega)) τ⟩
 ·exact hp.elim
def a1 : Bs := [104, 116, 116, 112, 115, 58, 47, 47, 97]
def a2 : Bs := [104, 116, 116, 112, 58, 47, 47, 98, 58, 53]
def a3 : Bs := [100, 97, 116, 97, 58, 120]
def org (s : Bs) : V := bif eqB s a1 then .agg [.str [104, 116, 116, 112, 115], .str [97], .int .i64 443, .bool false] else bif eqB s a2 then .agg [.str [104, 116, 116, 112], .str [98], .int .i64 5, .bool false] else .agg [.str [], .str [], .int .i64 0, .bool true]
def orgT (s : Bs) : Bs := bif eqB s a1 then a1 else bif eqB s a2 then a2 else [110, 117, 108, 108]
def Adr (s : Bs) : Prop := s = a1 ∨ s = a2 ∨ s = a3
def OfPre : List V → Prop
 | [.str s] => Adr s
 | _ => False
abbrev OfG : List V → V
 | [.str s] => org s
 | _ => .tup []
theorem of_run : (fun τ => allA [a1, a2, a3] fun s => callK (tabOf tabEk 100000) 40 f_law21_of [.str s] (start (List.replicate 6 none)) τ (isK (org s))) = fun _ => doneA := by kernel_rfl
theorem p_law21_of : ∀ base w0, PrimOk PG base w0 f_law21_of (outP (RV OfPre OfG)) := by
 refine primOk_const mixed_ok allk_ok (tabk_ok 100000) (by kernel_rfl) (N := 100000) (d := 40) 6 (Nat.le_of_eq (by kernel_rfl)) ?_
 intro vs hp
 unfold OfPre at hp
 split at hp
 ·rename_i s
  exact ⟨rfl, fun τ => allA_run of_run (x := s) (by rcases hp with rfl | rfl | rfl <;> simp) τ⟩
 ·exact hp.elim
def TxtPre : List V → Prop
 | [o] => ∃ s, Adr s ∧ o = org s
 | _ => False
def unorg : V → Bs
 | .agg [.str s, .str h, .int _ p, .bool b] => bif b then [110, 117, 108, 108] else bif eqB h [97] then a1 else a2
 | _ => []
abbrev TxtG : List V → V
 | [o] => .str (unorg o)
 | _ => .tup []
theorem txt_run : (fun τ => allA [a1, a2, a3] fun s => callK (tabOf tabEk 100000) 40 f_origin_Text [org s] (start (List.replicate 6 none)) τ (isK (.str (unorg (org s))))) = fun _ => doneA := by kernel_rfl
theorem unorg_org {s : Bs} (h : Adr s) : unorg (org s) = orgT s := by rcases h with rfl | rfl | rfl <;> decide
theorem flat_org (s : Bs) : flat (org s) = true := by
 unfold org
 cases eqB s a1 <;> cases eqB s a2 <;> rfl
theorem p_origin_Text : ∀ base w0, PrimOk PG base w0 f_origin_Text (outP (RV TxtPre TxtG)) := by
 refine primOk_const mixed_ok allk_ok (tabk_ok 100000) (by kernel_rfl) (N := 100000) (d := 40) 6 (Nat.le_of_eq (by kernel_rfl)) ?_
 intro vs hp
 unfold TxtPre at hp
 split at hp
 ·rename_i o
  obtain ⟨s, hs, rfl⟩ := hp
  exact ⟨by simp [flat_org], fun τ => allA_run txt_run (x := s) (by rcases hs with rfl | rfl | rfl <;> simp) τ⟩
 ·exact hp.elim
end Go.Am.X

namespace Go.Am.X
abbrev CloneOk (c : CallK) : Prop := ∀ {v n cs H}, WF H → Rd H 1 v n cs → Src H v → n ≤ 140737488355328 → ∀ τ, ∃ v' H' τ', BodP (fun i => H.size ≤ i) H' v' n cs ∧ Gr H.size H H' ∧ ∀ q, c f_slices_Clone_byte [v] H τ q = q v' H' τ'
theorem s_slices_Clone_byte_ret (c : CallK) (N : Nat) {v : V} {n : Nat} {cs : List V} {H : Heap} (hw : WF H) (hr : Rd H 1 v n cs) (hs : Src H v) (hn : n ≤ 140737488355328) (τ : Tape) :
  ∃ v' H' τ', BodP (fun i => H.size ≤ i) H' v' n cs ∧ Gr H.size H H' ∧ ∀ q, s_slices_Clone_byte c N v H τ q = q v' H' τ' := by
 by_cases hv : v = .nils
 ·subst hv
  have h0 : n = 0 ∧ cs = [] := by
   rcases hr with ⟨_, h1, h2⟩ | ⟨_, _, _, _, _, h, _⟩
   ·exact ⟨h1, h2⟩
   ·cases h
  obtain ⟨rfl, rfl⟩ := h0
  refine ⟨.nils, H, τ, BodP.nil _ _, Gr.refl hw, fun q => ?_⟩
  have e : pEq false .slice [.nils, .nils] = some (.bool true) := rfl
  simp only [s_slices_Clone_byte, e, getK_set, ↓reduceIte, Nat.reduceEqDiff, someK_n, effK_n, retK, gK_do, gK_do', gK_skip, gK_skip', gK_none, pick_mk, cond_true, cond_false, condK_tn, condK_fn, bin_eql, bin_neq, bin_lss, bin_leq, bin_gtr, bin_geq, un_not, Bool.not_true, Bool.not_false, bin_str, lenS_mk, nle_l, nle_r, nle_n, nlt_l, nlt_r, nlt_n, neq_r, neq_n, nne_r, nne_n, ext0, ext1, ext30, ext31, ext32, bin_add, bin_sub, decide_true, decide_false]
 ·have e : pEq false .slice [v, .nils] = some (.bool false) := by
   rcases hr with ⟨rfl | ⟨id, off, lo, ex, rfl⟩, _, _⟩ | ⟨id, off, lo, ex, all, rfl, _⟩
   ·exact absurd rfl hv
   ·rfl
   ·rfl
  obtain ⟨v', H', τ', r1, r2, r3⟩ := clone1 hw hr hs hn τ
  have eb : eBuildSlice 0 1 [] [] [] H τ = some (.sl H.size 0 0 0 none 1, H.new [] 0 false, τ) := rfl
  exact ⟨v', H', τ', r2, r3, fun q => by simp only [s_slices_Clone_byte, e, getK_set, ↓reduceIte, Nat.reduceEqDiff, someK_n, effK_n, retK, gK_do, gK_do', gK_skip, gK_skip', gK_none, pick_mk, cond_true, cond_false, condK_tn, condK_fn, bin_eql, bin_neq, bin_lss, bin_leq, bin_gtr, bin_geq, un_not, Bool.not_true, Bool.not_false, bin_str, lenS_mk, nle_l, nle_r, nle_n, nlt_l, nlt_r, nlt_n, neq_r, neq_n, nne_r, nne_n, ext0, ext1, ext30, ext31, ext32, bin_add, bin_sub, decide_true, decide_false, eb, r1]⟩
abbrev NumOk (c : CallK) : Prop := ∀ (n : Nat), n < 400 → ∀ H, inH H 0 tabs = true → ∀ τ q, c f_blob_number [.int .i64 (n : Int)] H τ q = q (.str (dig n)) H τ
theorem s_blob_number_ret (c : CallK) (N : Nat) (hF : IsP c f_strconv_FormatInt (RG tabs FmtPre FmtG)) (n : Nat) (hn : n < 400) (H : Heap) (ht : inH H 0 tabs = true) (τ : Tape) (q : KV) : s_blob_number c N (.int .i64 (n : Int)) H τ q = q (.str (dig n)) H τ := by
 have k := fun q => outK_val hF (RG_fun _ _ _) (vs := [.int .i64 (n : Int), .int .i64 (.ofNat 10)]) (H := H) (v := .str (dig n)) ⟨⟨by omega, by omega, rfl⟩, ht, rfl⟩ τ q
 simp only [s_blob_number, k]
theorem dig_len (n : Nat) : (dig n).length ≤ 8 := by
 have := (digF_ok 8 n [] (fun x hx => by simp at hx) (.inr (by omega))).2.2
 simpa [dig] using this
def clN : Bs := [99, 111, 110, 116, 101, 110, 116, 45, 108, 101, 110, 103, 116, 104]
def ctN : Bs := [99, 111, 110, 116, 101, 110, 116, 45, 116, 121, 112, 101]
def crN : Bs := [99, 111, 110, 116, 101, 110, 116, 45, 114, 97, 110, 103, 101]
theorem nk_ptr (i o : Nat) : pNilck [.ptr i o] = some (.ptr i o) := rfl
theorem fa_ptr (i o k : Nat) : pFieldAddr k [.ptr i o] = some (.ptr i (o + k)) := rfl
theorem sub_nat {a b : Nat} (h : a ≤ b) (hb : b < 9223372036854775808) : wr .i64 ((b : Int) - (a : Int)) = ((b - a : Nat) : Int) := by rw [wr_id (by omega) (by omega)]; omega
theorem same1_self {v : V} (h : (∃ b, v = .bool b) ∨ (∃ k n, v = .int k n) ∨ (∃ s, v = .str s) ∨ v = .nils ∨ (∃ i o n l e z, v = .sl i o n l e z) ∨ (∃ i o, v = .ptr i o) ∨ (∃ i, v = .map i)) : same v v = true := by
 rcases h with ⟨b, rfl⟩ | ⟨k, n, rfl⟩ | ⟨s, rfl⟩ | rfl | ⟨i, o, n, l, e, z, rfl⟩ | ⟨i, o, rfl⟩ | ⟨i, rfl⟩
 all_goals first
  | (simp [same, same1, same0]; done)
  | (cases e <;> simp [same, same1, same0])
theorem bx_pair {H : Heap} {id : Nat} {a b : V} (h : Bx H id [a, b]) : lLoad1 [.ptr id 0] H = some a ∧ lLoad1 [.ptr id 1] H = some b := ⟨load_cell h.cells rfl, load_cell h.cells rfl⟩
theorem res_c {fr : T V} {H : Heap} {a n : Nat} {p u : V} (h : fr.get a = some p) (hl : lLoadN n [p] H = some u) : results ⟨fr, H⟩ [.cell a (some n)] = some u := by
 have e : evalL (.load (some n)) [p] H = some u := hl
 simp only [results, resAll, resOf, h, e]
theorem res_ct {fr : T V} {H : Heap} {a n b : Nat} {p u w : V} (h : fr.get a = some p) (hl : lLoadN n [p] H = some u) (hb : fr.get b = some w) : results ⟨fr, H⟩ [.cell a (some n), .t b] = some (.tup [u, w]) := by
 have e : evalL (.load (some n)) [p] H = some u := hl
 simp only [results, resAll, resOf, h, e, hb]
abbrev ReplyOk (c : CallK) : Prop := ∀ (st : Int) (kind : Bs) {bv : V} {n : Nat} {cs : List V} {a b : Nat} {H : Heap}, WF H → Rd H 1 bv n cs → Src H bv → Roomy bv → a ≤ b → b ≤ n → n < 400 → inH H 0 tabs = true → 6 ≤ H.size → ∀ τ,
  ∃ i bv' H' τ', Bx H' i (hcells [(clN, dig (b - a)), (ctN, kind)]) ∧ H.size ≤ i ∧ BodP (fun i => H.size ≤ i) H' bv' (b - a) ((cs.take b).drop a) ∧ Gr H.size H H' ∧ ∀ q, c f_blob_reply [.int .i64 st, .agg [.str kind, bv], .int .i64 (a : Int), .int .i64 (b : Int)] H τ q = q (.agg [.int .i64 st, .sl i 0 2 2 none 2, bv']) H' τ'
theorem s_blob_reply_ret (c : CallK) (N : Nat) (hNum : NumOk c) (hC : CloneOk c) (st : Int) (kind : Bs) {bv : V} {n : Nat} {cs : List V} {a b : Nat} {H : Heap} (hw : WF H) (hr : Rd H 1 bv n cs) (hs : Src H bv) (hro : Roomy bv) (hab : a ≤ b) (hbn : b ≤ n) (hn : n < 400) (ht : inH H 0 tabs = true) (hg : 6 ≤ H.size) (τ : Tape) :
  ∃ i bv' H' τ', Bx H' i (hcells [(clN, dig (b - a)), (ctN, kind)]) ∧ H.size ≤ i ∧ BodP (fun i => H.size ≤ i) H' bv' (b - a) ((cs.take b).drop a) ∧ Gr H.size H H' ∧ ∀ q, s_blob_reply c N (.int .i64 st) (.agg [.str kind, bv]) (.int .i64 (a : Int)) (.int .i64 (b : Int)) H τ q = q (.agg [.int .i64 st, .sl i 0 2 2 none 2, bv']) H' τ' := by
 have hsl : bv.cells = [bv] := by
  rcases hr with ⟨rfl | ⟨id, off, lo, ex, rfl⟩, _, _⟩ | ⟨id, off, lo, ex, all, rfl, _⟩ <;> rfl
 have hsame : same bv bv = true := by
  apply same1_self
  rcases hr with ⟨rfl | ⟨id, off, lo, ex, rfl⟩, _, _⟩ | ⟨id, off, lo, ex, all, rfl, _⟩
  ·exact .inr (.inr (.inr (.inl rfl)))
  ·exact .inr (.inr (.inr (.inr (.inl ⟨_, _, _, _, _, _, rfl⟩))))
  ·exact .inr (.inr (.inr (.inr (.inl ⟨_, _, _, _, _, _, rfl⟩))))
 have e0 : eBox [.agg [.str kind, bv]] H τ = some (.ptr H.size 0, H.new [.str kind, bv] 2 true, τ) := rfl
 generalize hH1 : H.new [.str kind, bv] 2 true = H1 at e0
 have g1 : Gr H.size H H1 := hH1 ▸ Gr.new hw _ _ _
 have x1 : Bx H1 H.size [.str kind, bv] := hH1 ▸ Bx.new H _ _ _ (by simp)
 have z1 : H1.size = H.size + 1 := hH1 ▸ rfl
 have e1 : eAlloc [(.int .i64 (.ofNat 0)), .nils, .nils] [] H1 τ = some (.ptr H1.size 0, H1.new [(.int .i64 (.ofNat 0)), .nils, .nils] 3 true, τ) := rfl
 generalize hH4 : H1.new [(.int .i64 (.ofNat 0)), .nils, .nils] 3 true = H4 at e1
 have g4 : Gr H1.size H1 H4 := hH4 ▸ Gr.new g1.wf _ _ _
 have x4 : Bx H4 H1.size [(.int .i64 (.ofNat 0)), .nils, .nils] := hH4 ▸ Bx.new H1 _ _ _ (by simp)
 have z4 : H4.size = H.size + 2 := hH4 ▸ (by show H1.size + 1 = _; omega)
 have g04 : Gr H.size H H4 := g1.trans g4 g1.size
 have y4 : Bx H4 H.size [.str kind, bv] := x1.gr g4 (by omega)
 have ht4 : inH H4 0 tabs = true := inH_gr ht tabs_plain g04 hw (Nat.le_refl _)
 have k1 := fun τ q => hNum (b - a) (by omega) H4 ht4 τ q
 have esub : wr .i64 ((b : Int) - (a : Int)) = ((b - a : Nat) : Int) := sub_nat hab (by omega)
 obtain ⟨pv, p1, p2, p3, p4⟩ := (hr.gr g04 hw (Nat.le_refl _)).cut (hs.gr g04 hw (Nat.le_refl _)) hro hab hbn
 simp only [Nat.mul_one] at p4
 obtain ⟨bv', H5, τ5, c1, c2, c3⟩ := hC g04.wf p4 p3 (by omega) τ
 have y5 : Bx H5 H.size [.str kind, bv] := y4.gr c2 (by omega)
 have x5 : Bx H5 H1.size [(.int .i64 (.ofNat 0)), .nils, .nils] := x4.gr c2 (by omega)
 have e6 : eBuildSlice 2 2 [(.str []), (.str []), (.str []), (.str [])] [(0, 2), (2, 2)] [.agg [.str clN, .str (dig (b - a))], .agg [.str ctN, .str kind]] H5 τ5 = some (.sl H5.size 0 2 2 none 2, H5.new (hcells [(clN, dig (b - a)), (ctN, kind)]) 4 false, τ5) := rfl
 generalize hH6 : H5.new (hcells [(clN, dig (b - a)), (ctN, kind)]) 4 false = H6 at e6
 have g6 : Gr H5.size H5 H6 := hH6 ▸ Gr.new c2.wf _ _ _
 have x6 : Bx H6 H5.size (hcells [(clN, dig (b - a)), (ctN, kind)]) := hH6 ▸ Bx.new H5 _ _ _ (by simp [hcells])
 have y6 : Bx H6 H.size [.str kind, bv] := y5.gr g6 (by have := c2.size; omega)
 have w6 : Bx H6 H1.size [(.int .i64 (.ofNat 0)), .nils, .nils] := x5.gr g6 (by have := c2.size; omega)
 have b6 : BodP (fun i => H4.size ≤ i) H6 bv' (b - a) ((cs.take b).drop a) := c1.chg c2.wf g6.chg (P := fun i => H4.size ≤ i) (Q := fun _ => False) (fun _ _ _ h => h)
 have hb := c1.scal
 obtain ⟨H7, s1, s2, s3⟩ := w6.eStore g6.wf 0 (.agg [.int .i64 st, .sl H5.size 0 2 2 none 2, bv']) 3 rfl (by simp) (by omega) (by show (true && (true && (bv'.scal && true))) = true; rw [hb.2]; rfl) τ5
 have y7 : Bx H7 H.size [.str kind, bv] := y6.only s3 (by omega)
 have x7 : Bx H7 H5.size (hcells [(clN, dig (b - a)), (ctN, kind)]) := x6.only s3 (by have := c2.size; omega)
 have s2' : Bx H7 H1.size [.int .i64 st, .sl H5.size 0 2 2 none 2, bv'] := s2
 have hc : chkLoads [H4, H4, H5, H6, H7] (((.load none), [.ptr H.size (0 + 1)], 0, 2) :: (((.load none), [.ptr H.size (0 + 0)], 0, 2) :: [])) = true := by
  simp [chkLoads, evalL, lLoad, bx_pair y4, bx_pair y5, chk1, hsame]
  simp [same, same1, same0]
 have er : lLoadN 3 [.ptr H1.size 0] H7 = some (.agg [.int .i64 st, .sl H5.size 0 2 2 none 2, bv']) := by
  have := load_cells (off := 0) (n := 3) s2'.cells (by simp)
  simpa using this
 refine ⟨H5.size, bv', H7, τ5, x7, by have := c2.size; omega, ?_, ?_, fun q => ?_⟩
 ·exact ((b6.chg g6.wf (s3.chg (P := fun i => i = H1.size) rfl) (fun i _ h => by omega)).weaken s3.wf (fun i _ h => by omega))
 ·exact ((g04.trans c2 g04.size).trans g6 (by have := c2.size; omega)).trans (s3.gr (B := H.size) (by omega)) (Nat.le_refl _)
 ·simp only [s_blob_reply, e0, effK_n, e1, bin_sub, esub, k1, fa_ptr, Nat.zero_add, (bx_pair y4).1, (bx_pair y4).2, someK_n]
  simp only [p1, someK_n, c3]
  have pb1 : pBuild [.str [], .str []] [(0, 1), (1, 1)] [.str (bs [99, 111, 110, 116, 101, 110, 116, 45, 108, 101, 110, 103, 116, 104]), .str (dig (b - a))] = some (.agg [.str clN, .str (dig (b - a))]) := rfl
  have pb2 : pBuild [.str [], .str []] [(0, 1), (1, 1)] [.str (bs [99, 111, 110, 116, 101, 110, 116, 45, 116, 121, 112, 101]), .str kind] = some (.agg [.str ctN, .str kind]) := rfl
  have pb3 : pBuild [.int .i64 (Int.ofNat 0), .nils, .nils] [(0, 1), (1, 1), (2, 1)] [.int .i64 st, .sl H5.size 0 2 2 none 2, bv'] = some (.agg [.int .i64 st, .sl H5.size 0 2 2 none 2, bv']) := by
   rcases c1 with ⟨rfl, _⟩ | ⟨id, lo, ex, room, fam, ver, pl, st', fr, rfl, _⟩ <;> rfl
  have er2 : results ⟨T.set .leaf 8 (.ptr H1.size 0), H7⟩ [.cell 8 (some 3)] = some (.agg [.int .i64 st, .sl H5.size 0 2 2 none 2, bv']) := by
   exact res_c (by simp [T.get_set]) er
  simp only [pb1, pb2, someK_n, e6, effK_n, pb3, s1]
  rw [show chkLoads [H4, H4, H5, H6, H7] [(LOp.load none, [V.ptr H.size 1], 0, 2), (LOp.load none, [V.ptr H.size 0], 0, 2)] = true from hc]
  simp only [cond_true, er2, someK_n]
end Go.Am.X

