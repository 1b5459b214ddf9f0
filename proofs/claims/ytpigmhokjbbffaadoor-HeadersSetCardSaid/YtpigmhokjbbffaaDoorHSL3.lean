/- The abstract machine, printed functions of the program, and what they are shown to be. -/
import Derived.Test.YtpigmhokjbbffaaDoorHSL2
import Derived.Test.YtpigmhokjbbffaaDoorHSM3
namespace Go.Am.X
set_option linter.unusedSimpArgs false
set_option linter.unusedVariables false
set_option linter.unusedSectionVars false
set_option maxRecDepth 100000
def RdH (H : Heap) (v : V) (hs : List Hd) : Prop := Rd H 2 v hs.length (hcells hs) ∧ Src H v
theorem hcells_inj : ∀ {a b : List Hd}, hcells a = hcells b → a = b := by
  intro a
  induction a with
  | nil => intro b h; cases b with
    | nil => rfl
    | cons y b => rw [hcells_cons] at h; cases h
  | cons x a ih => intro b h; cases b with
    | nil => rw [hcells_cons] at h; cases h
    | cons y b =>
      rw [hcells_cons, hcells_cons] at h
      simp only [List.cons.injEq, V.str.injEq] at h
      obtain ⟨h1, h2, h3⟩ := h
      rw [ih h3]
      obtain ⟨x1, x2⟩ := x
      obtain ⟨y1, y2⟩ := y
      simp only at h1 h2
      subst h1; subst h2; rfl
theorem RdH.uniq {H : Heap} {v : V} {a b : List Hd} (h : RdH H v a) (k : RdH H v b) : a = b := hcells_inj (h.1.uniq k.1).2
theorem RdH.gr {H H' : Heap} {B : Nat} {v : V} {hs : List Hd} (h : RdH H v hs) (hg : Gr B H H') (hw : WF H) (hB : H.size ≤ B) : RdH H' v hs := ⟨h.1.gr hg hw hB, h.2.gr hg hw hB⟩
def isNil : V → Bool | .nils => true | _ => false
/-- a function of a list of headers and of values -/
def RH (Pre : List Hd → List V → Prop) (g : Bool → List Hd → List V → Out) (vs : List V) (H : Heap) (o : Out) : Prop := ∃ v l hs, vs = v :: l ∧ RdH H v hs ∧ Pre hs l ∧ o = g (isNil v) hs l
theorem RH_fun (Pre : List Hd → List V → Prop) (g : Bool → List Hd → List V → Out) : Fun1 (RH Pre g) := by
  rintro vs H o o' ⟨v, l, hs, rfl, h1, _, rfl⟩ ⟨v', l', hs', e, h2, _, rfl⟩
  cases e
  rw [h1.uniq h2]
theorem RH_val {c : CallK} {f : Nat} {Pre : List Hd → List V → Prop} {g : Bool → List Hd → List V → Out} (hc : ∀ vs H τ q, c f vs H τ q = effK (outP (RH Pre g) vs H τ) q) {v : V} {l : List V} {hs : List Hd} {H : Heap} {u : V} (h : RdH H v hs) (hp : Pre hs l) (hg : g (isNil v) hs l = .val u) (τ : Tape) (q : KV) :
    c f (v :: l) H τ q = q u H τ := outK_val hc (RH_fun _ _) ⟨v, l, hs, rfl, h, hp, hg.symm⟩ τ q
theorem RH_lst {c : CallK} {f : Nat} {Pre : List Hd → List V → Prop} {g : Bool → List Hd → List V → Out} (hc : ∀ vs H τ q, c f vs H τ q = effK (outP (RH Pre g) vs H τ) q) {v : V} {l : List V} {hs : List Hd} {H : Heap} {z n : Nat} {cs : List V} {mk : V → V} (h : RdH H v hs) (hp : Pre hs l) (hg : g (isNil v) hs l = .lst z n cs mk) (hw : WF H) (hlen : cs.length = n * z) (τ : Tape) :
    ∃ lv H' τ', Own H' H.size z lv n cs ∧ lv ≠ .nils ∧ Gr H.size H H' ∧ ∀ q, c f (v :: l) H τ q = q (mk lv) H' τ' := outK_lst hc (RH_fun _ _) ⟨v, l, hs, rfl, h, hp, hg.symm⟩ hw hlen τ
/-- a list, nil where it has nothing -/
def lstO (z n : Nat) (cs : List V) (mk : V → V) : Out := if n = 0 then .val (mk .nils) else .lst z n cs mk
theorem RH_lstO {c : CallK} {f : Nat} {Pre : List Hd → List V → Prop} {g : Bool → List Hd → List V → Out} (hc : ∀ vs H τ q, c f vs H τ q = effK (outP (RH Pre g) vs H τ) q) {v : V} {l : List V} {hs : List Hd} {H : Heap} {z n : Nat} {cs : List V} {mk : V → V} (h : RdH H v hs) (hp : Pre hs l) (hg : g (isNil v) hs l = lstO z n cs mk) (hw : WF H) (hlen : cs.length = n * z) (τ : Tape) :
    ∃ lv H' τ', Own H' H.size z lv n cs ∧ Gr H.size H H' ∧ ∀ q, c f (v :: l) H τ q = q (mk lv) H' τ' := outK_list hc (RH_fun _ _) ⟨v, l, hs, rfl, h, hp, hg.symm⟩ hw hlen τ
theorem Own.rdH {H : Heap} {B : Nat} {v : V} {hs : List Hd} (h : Own H B 2 v hs.length (hcells hs)) : RdH H v hs := ⟨h.rd, h.src⟩
theorem hcells_vok (H : Heap) (hs : List Hd) : VsOk H (hcells hs) := by
  induction hs with
  | nil => trivial
  | cons h l ih => rw [hcells_cons]; exact ⟨trivial, trivial, ih⟩
theorem Got.met {H H' : Heap} {z n : Nat} {v : V} {cs : List V} {mk : V → V} (h : Got H' H.size z v n cs) (h0 : n = 0 → v = .nils) (hmk : MkOk mk) (hcs : VsOk H cs) (hnil : VOk H (mk .nils)) : (lstO z n cs mk).Met H (mk v) H' := by
  unfold lstO
  by_cases hn : n = 0
  · rw [if_pos hn, h0 hn]; exact ⟨rfl, hnil⟩
  · rw [if_neg hn]
    rcases h with ⟨_, h, _⟩ | h
    · exact absurd h hn
    · exact ⟨hmk, hcs, v, rfl, h⟩

abbrev GetPre (hs : List Hd) : List V → Prop | [.str name] => Small hs ∧ name.length ≤ 140737488355328 | _ => False
abbrev GetG (_ : Bool) (hs : List Hd) : List V → Out | [.str name] => .val (.tup [.str (getT name hs), .bool (decide (0 < (sel name hs).length))]) | _ => .val (.tup [])
theorem p_headers_Get : ∀ base w0, PrimOk PG base w0 f_headers_Get (outP (RH GetPre GetG)) := by
  refine primOk_E 5 _ ?_
  rintro vs H o hw hvs ⟨v, l, hs, rfl, ⟨h1, h2⟩, hp, rfl⟩ τ
  unfold GetPre at hp
  split at hp
  · rename_i name
    obtain ⟨H', τ', g, k⟩ := d20' nb 5 (by omega) name hp.2 hp.1 v H hw h1 τ
    exact ⟨_, H', τ', k retK, g, rfl, trivial, trivial, trivial⟩
  · exact hp.elim
abbrev ValueR := RS 9223372036854775806 valV
theorem valV_vok (s : Bs) (H : Heap) : VOk H (valV s) := by
  unfold valV; cases valO s <;> exact ⟨trivial, trivial, trivial⟩
theorem p_headers_Value : ∀ base w0, PrimOk PG base w0 f_headers_Value (outP ValueR) := primS 6 _ _ _ valV_vok fun s hs H hw τ => by
  obtain ⟨H', g, k⟩ := d_headers_Value nb 6 (by omega) s (by omega) H hw τ
  exact ⟨H', τ, g, k⟩
abbrev SetPre (hs : List Hd) : List V → Prop | [.str n, .str v] => hs.length < 1000000 ∧ (∀ h ∈ hs, h.1.length ≤ 140737488355328) ∧ n.length ≤ 140737488355328 ∧ v.length < 9223372036854775807 | _ => False
abbrev SetG (_ : Bool) (hs : List Hd) : List V → Out
  | [.str n, .str v] => if setE n v hs = 0 then .lst 2 (setT n v hs).length (hcells (setT n v hs)) (fun lv => .tup [lv, .int .i64 0]) else .val (.tup [.nils, .int .i64 (setE n v hs)])
  | _ => .val (.tup [])
theorem setF_pos (name v : Bs) : ∀ (l : List Hd) (i j : Nat), i ≤ j → j < i + l.length → setF name v j l i ≠ [] := by
  intro l
  induction l with
  | nil => intro i j h1 h2; simp at h2; omega
  | cons h l ih =>
    intro i j h1 h2
    rw [setF]
    by_cases e : i = j
    · rw [if_pos e]; simp
    · rw [if_neg e]
      have := ih (i + 1) j (by omega) (by simp at h2; omega)
      cases named name h with
      | true => rw [cond_true]; exact this
      | false => rw [cond_false]; simp
theorem setT_ne (n v : Bs) (hs : List Hd) : setT n v hs ≠ [] := by
  unfold setT
  split
  · simp
  · rename_i h
    rcases findI_spec n hs 0 with ⟨h1, _⟩ | ⟨a, x, r, h1, _, _, h2⟩
    · rw [h1] at h; exact absurd (by decide) h
    · rw [h2]
      refine setF_pos _ _ _ _ _ (Nat.zero_le _) ?_
      rw [h1]; simp
theorem Got.lst {H : Heap} {B z : Nat} {v : V} {n : Nat} {cs : List V} (h : Got H B z v n cs) (hn : n ≠ 0) : FreshL B H z n cs v := by
  rcases h with ⟨_, h, _⟩ | h
  · exact absurd h hn
  · exact h
theorem p_headers_Set : ∀ base w0, PrimOk PG base w0 f_headers_Set (outP (RH SetPre SetG)) := by
  refine primOk_E 9 _ ?_
  rintro vs H o hw hvs ⟨lv, l, hs, rfl, ⟨h1, h2⟩, hp, rfl⟩ τ
  unfold SetPre at hp
  split at hp
  · rename_i n v
    obtain ⟨r, H', τ', g, k1, k2, k3⟩ := d_headers_Set nb 9 (by omega) hs hp.1 hp.2.1 n v hp.2.2.1 hp.2.2.2 lv H hw h1 h2 τ
    refine ⟨_, H', τ', k3 retK, g, ?_⟩
    unfold SetG
    by_cases he : setE n v hs = 0
    · simp only [he, if_true]
      have hne : (setT n v hs).length ≠ 0 := fun h => setT_ne n v hs (List.eq_nil_of_length_eq_zero h)
      exact ⟨mkOk_int _ _, hcells_vok _ _, r, rfl, Got.lst (k1 he).got hne⟩
    · simp only [if_neg he]
      rw [k2 he]
      exact ⟨rfl, trivial, trivial, trivial⟩
  · exact hp.elim
abbrev DropPre (hs : List Hd) : List V → Prop | [.str n] => hs.length ≤ 1000000 ∧ (∀ h ∈ hs, h.1.length ≤ 140737488355328) ∧ n.length ≤ 140737488355328 | _ => False
abbrev DropG (b : Bool) (hs : List Hd) : List V → Out | [.str n] => if b = true then .val .nils else .lst 2 (dropT n hs).length (hcells (dropT n hs)) (fun v => v) | _ => .val (.tup [])
theorem isNil_iff (v : V) : isNil v = true ↔ v = .nils := by cases v <;> simp [isNil]
theorem p_headers_Drop : ∀ base w0, PrimOk PG base w0 f_headers_Drop (outP (RH DropPre DropG)) := by
  refine primOk_E 8 _ ?_
  rintro vs H o hw hvs ⟨lv, l, hs, rfl, ⟨h1, h2⟩, hp, rfl⟩ τ
  unfold DropPre at hp
  split at hp
  · rename_i n
    obtain ⟨w, H', τ', k1, k2, g, k3⟩ := d_headers_Drop nb 8 (by omega) n hp.2.2 hs hp.1 hp.2.1 lv H hw h1 h2 τ
    refine ⟨_, H', τ', k3 retK, g, ?_⟩
    unfold DropG
    by_cases he : isNil lv = true
    · simp only [he, if_true]
      exact ⟨k2.2 ((isNil_iff _).1 he), trivial⟩
    · simp only [if_neg he]
      rcases k1 with ⟨hn, _⟩ | hf
      · exact absurd ((isNil_iff _).2 (k2.1 hn)) he
      · exact ⟨mkOk_id, hcells_vok _ _, w, rfl, hf⟩
  · exact hp.elim
end Go.Am.X


namespace Go.Am.X
set_option linter.unusedSimpArgs false
set_option linter.unusedVariables false
set_option linter.unusedSectionVars false
set_option maxRecDepth 100000
end Go.Am.X


namespace Go.Am.X
set_option linter.unusedSimpArgs false
set_option linter.unusedVariables false
set_option linter.unusedSectionVars false
set_option maxRecDepth 100000
theorem lowB_up {x : UInt8} (h1 : 65 ≤ x.toNat) (h2 : x.toNat ≤ 90) : ((x.toNat + 32 : Nat) : Int) = ((lowB x).toNat : Int) := by
  have : lowB x = UInt8.ofNat (x.toNat + 32) := by unfold lowB; rw [if_pos ⟨h1, h2⟩]
  rw [this]; simp; omega
theorem l_ref1_Lower (c : CallK) (N : Nat) {B id e m : Nat} (l : Bs) :
    ∀ (pre : Bs) (n : Nat) (fr : T V) (H : Heap) (τ : Tape), WF H → Blk H B id (bv (lower pre ++ l)) → (pre ++ l).length = m → m < 9223372036854775807 → l.length < n →
    fr.get 3 = some (.sl id 0 m m (some e) 1) → fr.get 4 = some (.int .i64 (pre.length : Int)) →
    ∃ H', Blk H' B id (bv (lower (pre ++ l))) ∧ Gr B H H' ∧ ∀ k, loopK (s_ref1_Lower_l1 c N) n ⟨fr, H⟩ τ k = k (.exit 0) ⟨T.set .leaf 3 (.sl id 0 m m (some e) 1), H'⟩ τ := by
  induction l with
  | nil =>
    intro pre n fr H τ hw hB hm hmb hn h3 h4
    obtain ⟨n, rfl⟩ : ∃ j, n = j + 1 := ⟨n - 1, by simp at hn; omega⟩
    refine ⟨H, by simpa using hB, Gr.refl hw, fun k => ?_⟩
    have e1 : decide (pre.length < m) = false := decide_eq_false (by simp at hm; omega)
    have pl : pLen [.sl id 0 m m (some e) 1] = some (.int .i64 (m : Int)) := rfl
    rw [loopK_succ]
    simp only [s_ref1_Lower_l1, getK_mk h3, getK_mk h4, pl, getK_set, ↓reduceIte, Nat.reduceEqDiff, someK_n, effK_n, retK, gK_do, gK_do', gK_skip, gK_skip', gK_none, pick_mk, cond_true, cond_false, condK_tn, condK_fn, bin_eql, bin_neq, bin_lss, bin_leq, bin_gtr, bin_geq, un_not, Bool.not_true, Bool.not_false, bin_str, lenS_mk, nle_l, nle_r, nle_n, nlt_l, nlt_r, nlt_n, neq_r, neq_n, nne_r, nne_n, ext0, ext1, ext30, ext31, ext32, bin_add, bin_sub, decide_true, decide_false, e1]
    rfl
  | cons x l ih =>
    intro pre n fr H τ hw hB hm hmb hn h3 h4
    obtain ⟨n, rfl⟩ : ∃ j, n = j + 1 := ⟨n - 1, by simp at hn; omega⟩
    have hlt : pre.length < m := by simp at hm; omega
    have e1 : decide (pre.length < m) = true := decide_eq_true hlt
    have pl : pLen [.sl id 0 m m (some e) 1] = some (.int .i64 (m : Int)) := rfl
    have e2 : pSlIdx 1 [.sl id 0 m m (some e) 1, .int .i64 (pre.length : Int)] = some (.ptr id pre.length) := by
      have : Nat.blt pre.length m = true := by simp [Nat.blt]; omega
      simp [pSlIdx, natOf_nat, this]
    have e3 : lLoad1 [.ptr id pre.length] H = some (.int .u8 (x.toNat : Int)) := by
      refine load_cell hB.cells ?_
      have : pre.length = (bv (lower pre)).length := by simp [bv, lower]
      simp [bv, lower]
    have hcells : (bv (lower pre ++ x :: l)).take pre.length ++ (V.int .u8 ((lowB x).toNat : Int)).cells ++ (bv (lower pre ++ x :: l)).drop (pre.length + 1) = bv (lower (pre ++ [x]) ++ l) := by
      have hl : pre.length = (lower pre).length := by simp [lower]
      simp only [bv, List.map_append, List.map_cons]
      rw [List.take_append_of_le_length (by simp [lower]), List.take_of_length_le (by simp [lower]), List.drop_append]
      simp [lower, V.cells]
    have e5 : wr .i64 ((pre.length : Int) + Int.ofNat 1) = ((pre ++ [x]).length : Int) := by rw [adI (by omega)]; simp
    by_cases hx : 65 ≤ x.toNat ∧ x.toNat ≤ 90
    · obtain ⟨H1, k1, k2, k3, k4⟩ := hB.eStore hw pre.length (.int .u8 ((lowB x).toNat : Int)) 1 rfl (by simp [bv, lower]) rfl τ
      rw [hcells] at k2
      have d1 : decide (65 ≤ x.toNat) = true := decide_eq_true hx.1
      have d2 : decide (x.toNat ≤ 90) = true := decide_eq_true hx.2
      have e6 : wr .u8 ((x.toNat : Int) + Int.ofNat 32) = ((lowB x).toNat : Int) := by
        rw [show ((x.toNat : Int) + Int.ofNat 32) = ((x.toNat + 32 : Nat) : Int) by simp, wr_u8, Nat.mod_eq_of_lt (by omega), lowB_up hx.1 hx.2]
      obtain ⟨H', m1, m2, m3⟩ := ih (pre ++ [x]) n (T.set (T.set (T.set (T.set (T.set .leaf 3 (.sl id 0 m m (some e) 1)) 4 (.int .i64 (pre.length : Int))) 11 (.int .i64 (pre.length : Int))) 12 (.int .i64 ((pre ++ [x]).length : Int))) 4 (.int .i64 ((pre ++ [x]).length : Int))) H1 τ k3.wf k2 (by simpa using hm) hmb (by simp at hn; omega) (by simp [T.get_set]) (by simp [T.get_set])
      refine ⟨H', by simpa using m1, k3.trans m2 (Nat.le_refl _), fun k => ?_⟩
      rw [loopK_succ]
      simp only [s_ref1_Lower_l1, getK_mk h3, getK_mk h4, pl, getK_set, ↓reduceIte, Nat.reduceEqDiff, someK_n, effK_n, retK, gK_do, gK_do', gK_skip, gK_skip', gK_none, pick_mk, cond_true, cond_false, condK_tn, condK_fn, bin_eql, bin_neq, bin_lss, bin_leq, bin_gtr, bin_geq, un_not, Bool.not_true, Bool.not_false, bin_str, lenS_mk, nle_l, nle_r, nle_n, nlt_l, nlt_r, nlt_n, neq_r, neq_n, nne_r, nne_n, ext0, ext1, ext30, ext31, ext32, bin_add, bin_sub, decide_true, decide_false, e1, e2, e3, d1, d2, e6, k1, s_ref1_Lower_j2, e5, seqK]
      exact m3 k
    · have hlx : lowB x = x := by unfold lowB; rw [if_neg hx]
      rw [hlx] at hcells
      have hB2 : Blk H B id (bv (lower (pre ++ [x]) ++ l)) := by
        have : bv (lower (pre ++ [x]) ++ l) = bv (lower pre ++ x :: l) := by simp [lower, hlx]
        rw [this]; exact hB
      obtain ⟨H', m1, m2, m3⟩ := ih (pre ++ [x]) n (T.set (T.set (T.set (T.set (T.set .leaf 3 (.sl id 0 m m (some e) 1)) 4 (.int .i64 (pre.length : Int))) 11 (.int .i64 (pre.length : Int))) 12 (.int .i64 ((pre ++ [x]).length : Int))) 4 (.int .i64 ((pre ++ [x]).length : Int))) H τ hw hB2 (by simpa using hm) hmb (by simp at hn; omega) (by simp [T.get_set]) (by simp [T.get_set])
      refine ⟨H', by simpa using m1, m2, fun k => ?_⟩
      rw [loopK_succ]
      cases d1 : decide (65 ≤ x.toNat) with
      | true =>
        have d2 : decide (x.toNat ≤ 90) = false := decide_eq_false fun h => hx ⟨of_decide_eq_true d1, h⟩
        simp only [s_ref1_Lower_l1, getK_mk h3, getK_mk h4, pl, getK_set, ↓reduceIte, Nat.reduceEqDiff, someK_n, effK_n, retK, gK_do, gK_do', gK_skip, gK_skip', gK_none, pick_mk, cond_true, cond_false, condK_tn, condK_fn, bin_eql, bin_neq, bin_lss, bin_leq, bin_gtr, bin_geq, un_not, Bool.not_true, Bool.not_false, bin_str, lenS_mk, nle_l, nle_r, nle_n, nlt_l, nlt_r, nlt_n, neq_r, neq_n, nne_r, nne_n, ext0, ext1, ext30, ext31, ext32, bin_add, bin_sub, decide_true, decide_false, e1, e2, e3, d1, d2, s_ref1_Lower_j2, e5, seqK]
        exact m3 k
      | false =>
        simp only [s_ref1_Lower_l1, getK_mk h3, getK_mk h4, pl, getK_set, ↓reduceIte, Nat.reduceEqDiff, someK_n, effK_n, retK, gK_do, gK_do', gK_skip, gK_skip', gK_none, pick_mk, cond_true, cond_false, condK_tn, condK_fn, bin_eql, bin_neq, bin_lss, bin_leq, bin_gtr, bin_geq, un_not, Bool.not_true, Bool.not_false, bin_str, lenS_mk, nle_l, nle_r, nle_n, nlt_l, nlt_r, nlt_n, neq_r, neq_n, nne_r, nne_n, ext0, ext1, ext30, ext31, ext32, bin_add, bin_sub, decide_true, decide_false, e1, e2, e3, d1, s_ref1_Lower_j2, e5, seqK]
        exact m3 k
theorem s_ref1_Lower_ret (c : CallK) {N : Nat} (hN : 9223372036854775807 < N) (s : Bs) (hs : s.length ≤ 140737488355328) (H : Heap) (hw : WF H) (τ : Tape) :
    ∃ H' τ', Gr H.size H H' ∧ ∀ q, s_ref1_Lower c N (.str s) H τ q = q (.str (lower s)) H' τ' := by
  have hB := Blk.new H (bv s) ((s.length + spare s.length (τ 0)) * 1) false (by rw [bv_length]; omega)
  have hG := Gr.new hw (bv s) ((s.length + spare s.length (τ 0)) * 1) false
  obtain ⟨H', m1, m2, m3⟩ := l_ref1_Lower c N (e := spare s.length (τ 0)) (m := s.length) s [] N (T.set (T.set .leaf 3 (.sl H.size 0 s.length s.length (some (spare s.length (τ 0))) 1)) 4 (.int .i64 0)) _ τ.tail hG.wf (by simpa [lower] using hB) (by simp) (by omega) (by omega) (by simp [T.get_set]) (by simp [T.get_set])
  refine ⟨H', τ.tail, hG.trans m2 (Nat.le_refl _), fun q => ?_⟩
  have e1 : eStrBytes [.str s] H τ = some (.sl H.size 0 s.length s.length (some (spare s.length (τ 0))) 1, H.new (bv s) ((s.length + spare s.length (τ 0)) * 1) false, τ.tail) := by
    simp only [eStrBytes, Nat.ble_eq_true_of_le hs, cond_true, fresh]
    rfl
  have e3 : lBytesStr [.sl H.size 0 s.length s.length (some (spare s.length (τ 0))) 1] H' = some (.str (lower s)) := by
    have hl : (bv (lower ([] ++ s))).length = s.length := by simp [bv, lower]
    simp only [lBytesStr, loads_cells m1.cells (show 0 + s.length ≤ _ by rw [hl]; omega), List.drop_zero]
    rw [List.take_of_length_le (by rw [hl]; omega)]
    simp [bytesOf_bv]
  simp only [s_ref1_Lower, e1, effK_n]
  rw [show (V.int IntKind.i64 (Int.ofNat 0)) = .int .i64 0 from rfl, m3]
  simp only [blockK, Nat.beq_refl, cond_true, seqK, s_ref1_Lower_j0, getK_set, ↓reduceIte, Nat.reduceEqDiff, someK_n, effK_n, retK, gK_do, gK_do', gK_skip, gK_skip', gK_none, pick_mk, cond_true, cond_false, condK_tn, condK_fn, bin_eql, bin_neq, bin_lss, bin_leq, bin_gtr, bin_geq, un_not, Bool.not_true, Bool.not_false, bin_str, lenS_mk, nle_l, nle_r, nle_n, nlt_l, nlt_r, nlt_n, neq_r, neq_n, nne_r, nne_n, ext0, ext1, ext30, ext31, ext32, bin_add, bin_sub, decide_true, decide_false, e3]
end Go.Am.X


namespace Go.Am.X
set_option linter.unusedSimpArgs false
set_option linter.unusedVariables false
set_option linter.unusedSectionVars false
set_option maxRecDepth 100000
theorem someN : ∃ N : Nat, 9223372036854775807 < N := ⟨9223372036854775808, by decide⟩
/-- a function of values, out of a list of rows -/
theorem primRV {N : Nat} {l : List Row} (hl : RowsOk PG l) (d f : Nat) {Pre : List V → Prop} {g : List V → V} (hv : ∀ vs H, Pre vs → VOk H (g vs)) (h : ∀ vs, Pre vs → ∀ H, WF H → ∀ τ, ∃ H' τ', Gr H.size H H' ∧ ∀ q, CR l N d f vs H τ q = q (g vs) H' τ') : ∀ base w0, PrimOk PG base w0 f (outP (RV Pre g)) := by
  refine primOk_out mixed_ok hl N d f ?_
  rintro vs H o hw hvs ⟨hp, rfl⟩ τ
  obtain ⟨H', τ', g1, k1⟩ := h vs hp H hw τ
  exact ⟨_, H', τ', k1 retK, g1, rfl, hv vs H hp⟩
theorem p_ref1_Lower : ∀ base w0, PrimOk PG base w0 f_ref1_Lower (outP LowR) := by
  obtain ⟨N, hN⟩ := someN
  refine primRV (N := N) (l := [Row.fn f_ref1_Lower fn_ref1_Lower e_ref1_Lower]) (.fn ok_ref1_Lower e_ref1_Lower_ok (.nil _)) 1 _ (fun vs H h => ?_) (fun vs h H hw τ => ?_)
  · unfold strP at h; split at h
    · trivial
    · exact h.elim
  · unfold strP at h; split at h
    · exact s_ref1_Lower_ret (CR [Row.fn f_ref1_Lower fn_ref1_Lower e_ref1_Lower] N 0) hN _ h H hw τ
    · exact h.elim
/-- a function that is known so -/
abbrev IsP (c : CallK) (f : Nat) (R : List V → Heap → Out → Prop) : Prop := ∀ vs H τ q, c f vs H τ q = effK (outP R vs H τ) q
abbrev RLowOk (c : CallK) : Prop := ∀ (s : Bs), s.length ≤ 140737488355328 → ∀ H τ q, c f_ref1_Lower [.str s] H τ q = q (.str (lower s)) H τ
theorem k_ref1_Lower {c : CallK} (h : IsP c f_ref1_Lower LowR) : RLowOk c := fun s hs H τ q => callS h s hs H τ q
end Go.Am.X


namespace Go.Am.X
set_option linter.unusedSimpArgs false
set_option linter.unusedVariables false
set_option linter.unusedSectionVars false
set_option maxRecDepth 100000
theorem s_ref5_Named_ret (c : CallK) (N : Nat) (hL : RLowOk c) (h : Hd) (name : Bs) (hh : h.1.length ≤ 140737488355328) (hm : name.length ≤ 140737488355328) (H : Heap) (hw : WF H) (τ : Tape) :
    ∃ H' τ', Gr H.size H H' ∧ ∀ q, s_ref5_Named c N (hv h) (.str name) H τ q = q (.bool (named name h)) H' τ' := by
  have a1 : eBox [hv h] H τ = some (.ptr H.size 0, H.new [.str h.1, .str h.2] 2 true, τ) := rfl
  have l1 : lLoad1 [.ptr H.size 0] (H.new [.str h.1, .str h.2] 2 true) = some (.str h.1) := load_cell (cells_new H _ 2 true) rfl
  have pf : pFieldAddr 0 [.ptr H.size 0] = some (.ptr H.size 0) := rfl
  refine ⟨_, τ, Gr.new hw [.str h.1, .str h.2] 2 true, fun q => ?_⟩
  simp only [s_ref5_Named, a1, effK_n, pf, someK_n, l1, hL _ hh, hL _ hm, bin_str, str_eql]
  rfl
abbrev NamedPre : List V → Prop | [.agg [.str a, .str _], .str n] => a.length ≤ 140737488355328 ∧ n.length ≤ 140737488355328 | _ => False
abbrev NamedG : List V → V | [.agg [.str a, .str b], .str n] => .bool (named n (a, b)) | _ => .tup []
noncomputable abbrev rw_Named : List Row := [Row.fn f_ref5_Named fn_ref5_Named e_ref5_Named, Row.prim f_ref1_Lower (outP LowR)]
theorem p_ref5_Named : ∀ base w0, PrimOk PG base w0 f_ref5_Named (outP (RV NamedPre NamedG)) := by
  obtain ⟨N, hN⟩ := someN
  refine primRV (N := N) (l := rw_Named) (.fn ok_ref5_Named e_ref5_Named_ok (.prim p_ref1_Lower (.nil _))) 2 _ (fun vs H h => ?_) (fun vs h H hw τ => ?_)
  · unfold NamedPre at h; split at h
    · trivial
    · exact h.elim
  · unfold NamedPre at h; split at h
    · rename_i a b n
      exact s_ref5_Named_ret (CR rw_Named N 1) N (k_ref1_Lower fun _ _ _ _ => rfl) (a, b) n h.1 h.2 H hw τ
    · exact h.elim
abbrev RNamedR := RV NamedPre NamedG
abbrev RNamedOk (c : CallK) : Prop := ∀ (h : Hd) (n : Bs), h.1.length ≤ 140737488355328 → n.length ≤ 140737488355328 → ∀ H τ q, c f_ref5_Named [hv h, .str n] H τ q = q (.bool (named n h)) H τ
theorem k_ref5_Named {c : CallK} (h : IsP c f_ref5_Named RNamedR) : RNamedOk c := fun x n hx hn H τ q => RV_call h (vs := [hv x, .str n]) ⟨hx, hn⟩ H τ q
end Go.Am.X


namespace Go.Am.X
set_option linter.unusedSimpArgs false
set_option linter.unusedVariables false
set_option linter.unusedSectionVars false
set_option maxRecDepth 100000
/-- a list of a run's own, nil where it has nothing -/
def LsH (H : Heap) (B : Nat) (v : V) (hs : List Hd) : Prop := Own H B 2 v hs.length (hcells hs) ∧ (hs = [] → v = .nils)
theorem LsH.nil (H : Heap) (B : Nat) : LsH H B .nils [] := ⟨Own.nil _ _ _, fun _ => rfl⟩
theorem LsH.gr {H H' : Heap} {B C : Nat} {v : V} {hs : List Hd} (h : LsH H B v hs) (hg : Gr C H H') (hw : WF H) (hC : H.size ≤ C) : LsH H' B v hs := ⟨h.1.gr hg hw hC, h.2⟩
theorem LsH.rdH {H : Heap} {B : Nat} {v : V} {hs : List Hd} (h : LsH H B v hs) : RdH H v hs := ⟨h.1.rd, h.1.src⟩
theorem LsH.met {H H' : Heap} {v : V} {hs : List Hd} {mk : V → V} (h : LsH H' H.size v hs) (hmk : MkOk mk) (hnil : VOk H (mk .nils)) : (lstO 2 hs.length (hcells hs) mk).Met H (mk v) H' := by
  refine Got.met (h.1.apd.got) (fun h0 => h.2 (List.eq_nil_of_length_eq_zero h0)) hmk (hcells_vok _ _) hnil
def setL (name v : Bs) : Bool → List Hd → List Hd
  | _, [] => []
  | d, h :: l => bif named name h then (bif d then setL name v d l else (h.1, v) :: setL name v true l) else h :: setL name v d l
theorem setL_true (name v : Bs) : ∀ l, setL name v true l = dropT name l := by
  intro l
  induction l with
  | nil => rfl
  | cons h l ih =>
    unfold dropT at ih ⊢
    rw [setL, List.filter_cons, ih]
    cases named name h <;> rfl
theorem setL_app (name v : Bs) : ∀ (a l : List Hd) (d : Bool), (∀ h ∈ a, named name h = false) → setL name v d (a ++ l) = a ++ setL name v d l := by
  intro a
  induction a with
  | nil => intro l d _; rfl
  | cons h a ih => intro l d hh; rw [List.cons_append, setL, hh h (by simp), cond_false, ih l d (fun x hx => hh x (by simp [hx])), List.cons_append]
theorem setF_after (name v : Bs) (j : Nat) : ∀ (l : List Hd) (i : Nat), j < i → setF name v j l i = dropT name l := by
  intro l
  induction l with
  | nil => intro i _; rfl
  | cons h l ih =>
    intro i hi
    rw [setF, if_neg (by omega), ih (i + 1) (by omega)]
    unfold dropT
    rw [List.filter_cons]
    cases named name h <;> rfl
theorem setF_app (name v : Bs) (j : Nat) : ∀ (a l : List Hd) (i : Nat), i + a.length = j → (∀ h ∈ a, named name h = false) → setF name v j (a ++ l) i = a ++ setF name v j l j := by
  intro a
  induction a with
  | nil => intro l i hi _; simp at hi; subst hi; rfl
  | cons h a ih =>
    intro l i hi hh
    simp at hi
    rw [List.cons_append, setF, if_neg (by omega), hh h (by simp), cond_false, ih l (i + 1) (by omega) (fun x hx => hh x (by simp [hx])), List.cons_append]
theorem set_eq (n v : Bs) (hs : List Hd) : (findI n hs 0 < 0 ∧ (∀ h ∈ hs, named n h = false)) ∨ (¬ findI n hs 0 < 0 ∧ (∃ h ∈ hs, named n h = true) ∧ setF n v (findI n hs 0).toNat hs 0 = setL n v false hs) := by
  rcases findI_spec n hs 0 with ⟨h1, h2⟩ | ⟨a, h, r, h1, h2, h3, h4⟩
  · left; rw [h1]; exact ⟨by decide, h2⟩
  · right
    rw [h4, Nat.zero_add]
    refine ⟨by omega, ⟨h, by rw [h1]; simp, h3⟩, ?_⟩
    rw [show ((a.length : Nat) : Int).toNat = a.length from rfl, h1, setF_app n v a.length a (h :: r) 0 (by omega) h2, setL_app n v a (h :: r) false h2, setF, if_pos rfl, setF_after n v a.length r (a.length + 1) (by omega), setL, h3, cond_true, cond_false, setL_true]
theorem setL_len (name v : Bs) : ∀ (l : List Hd) (d : Bool), (setL name v d l).length ≤ l.length := by
  intro l
  induction l with
  | nil => intro d; exact Nat.le_refl _
  | cons h l ih =>
    intro d
    have h1 := ih d
    have h2 := ih true
    rw [setL]
    cases named name h <;> cases d <;> simp <;> omega
theorem setE_may {n v : Bs} {hs : List Hd} (h : mayE n v ≠ 0) : setE n v hs = mayE n v := by
  unfold setE addE
  rw [if_neg h]
  split <;> rfl
end Go.Am.X


namespace Go.Am.X
set_option linter.unusedSimpArgs false
set_option linter.unusedVariables false
set_option linter.unusedSectionVars false
set_option maxRecDepth 100000
theorem primRH {N : Nat} {l : List Row} (hl : RowsOk PG l) (d f : Nat) {Pre : List Hd → List V → Prop} {g : Bool → List Hd → List V → Out} (h : ∀ hs args, Pre hs args → ∀ lv H, WF H → RdH H lv hs → ∀ τ, ∃ v H' τ', Gr H.size H H' ∧ (g (isNil lv) hs args).Met H v H' ∧ ∀ q, CR l N d f (lv :: args) H τ q = q v H' τ') : ∀ base w0, PrimOk PG base w0 f (outP (RH Pre g)) := by
  refine primOk_out mixed_ok hl N d f ?_
  rintro vs H o hw hvs ⟨lv, args, hs, rfl, hr, hp, rfl⟩ τ
  obtain ⟨v, H', τ', g1, hm, k1⟩ := h hs args hp lv H hw hr τ
  exact ⟨_, H', τ', k1 retK, g1, hm⟩
/-- both Set -/
theorem k_Set {c : CallK} {f : Nat} {Pre : List Hd → List V → Prop} (h : IsP c f (RH Pre SetG)) {hs : List Hd} {n v : Bs} (hp : Pre hs [.str n, .str v]) {lv : V} {H : Heap} (hw : WF H) (hr : RdH H lv hs) (τ : Tape) :
    ∃ r H' τ', Gr H.size H H' ∧ (setE n v hs = 0 → LsH H' H.size r (setT n v hs)) ∧ (setE n v hs ≠ 0 → r = .nils) ∧ ∀ q, c f [lv, .str n, .str v] H τ q = q (.tup [r, .int .i64 (setE n v hs)]) H' τ' := by
  by_cases he : setE n v hs = 0
  · obtain ⟨r, H', τ', h1, h2, h3, h4⟩ := RH_lst (v := lv) (l := [.str n, .str v]) h hr hp (if_pos he) hw (by rw [hcells_length]) τ
    refine ⟨r, H', τ', h3, fun _ => ⟨h1, fun e => absurd e (setT_ne n v hs)⟩, fun h => absurd he h, fun q => ?_⟩
    rw [h4, he]
  · have h4 := fun q => RH_val (v := lv) (l := [.str n, .str v]) h hr hp (if_neg he) τ q
    exact ⟨.nils, H, τ, Gr.refl hw, fun h => absurd h he, fun _ => rfl, h4⟩
theorem RdH.nils {H : Heap} {hs : List Hd} (h : RdH H .nils hs) : hs = [] := by
  rcases h.1 with ⟨_, h0, _⟩ | ⟨_, _, _, _, _, e, _⟩
  · exact List.eq_nil_of_length_eq_zero h0
  · cases e
theorem RdH.mkNil (H : Heap) : RdH H .nils [] := ⟨.inl ⟨.inl rfl, rfl, rfl⟩, trivial⟩
theorem k_headers_Drop {c : CallK} (h : IsP c f_headers_Drop (RH DropPre DropG)) {hs : List Hd} {n : Bs} (hp : DropPre hs [.str n]) {lv : V} {H : Heap} (hw : WF H) (hr : RdH H lv hs) (τ : Tape) :
    ∃ v' H' τ', RdH H' v' (dropT n hs) ∧ Gr H.size H H' ∧ ∀ q, c f_headers_Drop [lv, .str n] H τ q = q v' H' τ' := by
  by_cases hn : isNil lv = true
  · have e : lv = .nils := (isNil_iff _).1 hn
    subst e
    have e2 := hr.nils
    subst e2
    have h4 := fun q => RH_val (v := .nils) (l := [.str n]) h hr hp (u := .nils) (by rfl) τ q
    exact ⟨.nils, H, τ, RdH.mkNil H, Gr.refl hw, h4⟩
  · obtain ⟨v', H', τ', h1, _, h2, h3⟩ := RH_lst (v := lv) (l := [.str n]) h hr hp (z := 2) (n := (dropT n hs).length) (cs := hcells (dropT n hs)) (mk := fun v => v) (if_neg hn) hw (by rw [hcells_length]) τ
    exact ⟨v', H', τ', Own.rdH h1, h2, h3⟩
theorem eq_hd (x : Hd) : pEq true (.flat [.str, .str]) [hv x, hv x] = some (.bool false) := by
  simp [pEq, hv, eqV, eqFlat, eqS, eqB_eq]
theorem l_book_Same_Header (c : CallK) (N : Nat) (a b : V) (hs : List Hd) (hl : hs.length ≤ 1000000) (H : Heap) (ha : RdH H a hs) (hb : RdH H b hs) :
    ∀ (l pre : List Hd) (fr : T V) (τ : Tape) (m : Nat), hs = pre ++ l → l.length < m → fr.get 0 = some a → fr.get 1 = some b → fr.get 5 = some (.int .i64 (pre.length : Int)) →
    ∀ k, loopK (s_book_Same_Header_l1 c N) m ⟨fr, H⟩ τ k = k (.exit 0) ⟨.leaf, H⟩ τ := by
  intro l
  induction l with
  | nil =>
    intro pre fr τ m he hm f0 f1 f5 k
    obtain ⟨m, rfl⟩ : ∃ j, m = j + 1 := ⟨m - 1, by omega⟩
    have e1 : decide (pre.length < hs.length) = false := decide_eq_false (by rw [he]; simp)
    rw [loopK_succ]
    simp only [s_book_Same_Header_l1, getK_mk f0, getK_mk f1, getK_mk f5, ha.1.pLen, getK_set, ↓reduceIte, Nat.reduceEqDiff, someK_n, effK_n, retK, gK_do, gK_do', gK_skip, gK_skip', gK_none, pick_mk, cond_true, cond_false, condK_tn, condK_fn, bin_eql, bin_neq, bin_lss, bin_leq, bin_gtr, bin_geq, un_not, Bool.not_true, Bool.not_false, bin_str, lenS_mk, nle_l, nle_r, nle_n, nlt_l, nlt_r, nlt_n, neq_r, neq_n, nne_r, nne_n, ext0, ext1, ext30, ext31, ext32, bin_add, bin_sub, decide_true, decide_false, e1]
    rfl
  | cons x l ih =>
    intro pre fr τ m he hm f0 f1 f5 k
    obtain ⟨m, rfl⟩ : ∃ j, m = j + 1 := ⟨m - 1, by omega⟩
    have hlt : pre.length < hs.length := by rw [he]; simp
    have e1 : decide (pre.length < hs.length) = true := decide_eq_true hlt
    have e3 : wr .i64 ((pre.length : Int) + Int.ofNat 1) = ((pre ++ [x]).length : Int) := by rw [adI (by omega)]; simp
    obtain ⟨id, o, p1, p2⟩ := hd_at (v := a) pre x l (H := H) (by rw [← he]; exact ha.1)
    have q1 := (p2 H (by rw [← he]; exact ha.1)).1
    obtain ⟨id', o', p3, p4⟩ := hd_at (v := b) pre x l (H := H) (by rw [← he]; exact hb.1)
    have q3 := (p4 H (by rw [← he]; exact hb.1)).1
    rw [loopK_succ]
    simp only [s_book_Same_Header_l1, getK_mk f0, getK_mk f1, getK_mk f5, ha.1.pLen, getK_set, ↓reduceIte, Nat.reduceEqDiff, someK_n, effK_n, retK, gK_do, gK_do', gK_skip, gK_skip', gK_none, pick_mk, cond_true, cond_false, condK_tn, condK_fn, bin_eql, bin_neq, bin_lss, bin_leq, bin_gtr, bin_geq, un_not, Bool.not_true, Bool.not_false, bin_str, lenS_mk, nle_l, nle_r, nle_n, nlt_l, nlt_r, nlt_n, neq_r, neq_n, nne_r, nne_n, ext0, ext1, ext30, ext31, ext32, bin_add, bin_sub, decide_true, decide_false, e1, p1, q1, p3, q3, eq_hd, e3]
    exact ih (pre ++ [x]) _ τ m (by rw [he]; simp) (by simp at hm; omega) (by simp [T.get_set]) (by simp [T.get_set]) (by simp [T.get_set]) k
theorem s_book_Same_Header_ret (c : CallK) {N : Nat} (hN : 9223372036854775807 < N) (a b : V) (hs : List Hd) (hl : hs.length ≤ 1000000) (H : Heap) (ha : RdH H a hs) (hb : RdH H b hs) (τ : Tape) (q : KV) : s_book_Same_Header c N a b H τ q = q (.bool true) H τ := by
  have e1 : ((hs.length : Int) != (hs.length : Int)) = false := by simp
  simp only [s_book_Same_Header, ha.1.pLen, hb.1.pLen, someK_n, bin_neq, e1, condK_fn]
  rw [l_book_Same_Header c N a b hs hl H ha hb hs [] _ τ N rfl (by omega) (by simp [T.get_set]) (by simp [T.get_set]) (by simp [T.get_set])]
  simp only [blockK, Nat.beq_refl, cond_true, seqK, s_book_Same_Header_j0]
def SameR (vs : List V) (H : Heap) (o : Out) : Prop := ∃ a b hs, vs = [a, b] ∧ RdH H a hs ∧ RdH H b hs ∧ hs.length ≤ 1000000 ∧ o = .val (.bool true)
theorem SameR_fun : Fun1 SameR := by
  rintro vs H o o' ⟨_, _, _, _, _, _, _, rfl⟩ ⟨_, _, _, _, _, _, _, rfl⟩; rfl
theorem p_book_Same_Header : ∀ base w0, PrimOk PG base w0 f_book_Same_Header (outP SameR) := by
  obtain ⟨N, hN⟩ := someN
  refine primOk_out mixed_ok (l := [Row.fn f_book_Same_Header fn_book_Same_Header e_book_Same_Header]) (.fn ok_book_Same_Header e_book_Same_Header_ok (.nil _)) N 1 _ ?_
  rintro vs H o hw hvs ⟨a, b, hs, rfl, ha, hb, hl, rfl⟩ τ
  exact ⟨_, H, τ, s_book_Same_Header_ret (CR [Row.fn f_book_Same_Header fn_book_Same_Header e_book_Same_Header] N 0) hN a b hs hl H ha hb τ retK, Gr.refl hw, rfl, trivial⟩
theorem k_book_Same_Header {c : CallK} (h : IsP c f_book_Same_Header SameR) {a b : V} {hs : List Hd} (hl : hs.length ≤ 1000000) {H : Heap} (ha : RdH H a hs) (hb : RdH H b hs) (τ : Tape) (q : KV) : c f_book_Same_Header [a, b] H τ q = q (.bool true) H τ :=
  outK_val h SameR_fun ⟨a, b, hs, rfl, ha, hb, hl, rfl⟩ τ q
abbrev FewHPre (hs : List Hd) : List V → Prop | [.int .i64 (.ofNat nn), .int .i64 (.ofNat mm)] => hs.length ≤ 9223372036854775807 ∧ 1 ≤ nn ∧ nn ≤ 1000 | _ => False
abbrev FewHG (_ : Bool) (hs : List Hd) : List V → Out | [.int .i64 (.ofNat nn), .int .i64 (.ofNat mm)] => lstO 2 (fewH nn mm hs).length (hcells (fewH nn mm hs)) (fun v => v) | _ => .val (.tup [])
theorem s_keep_Few_ret (c : CallK) (N : Nat) (s : Bs) (m : Nat) (H : Heap) (τ : Tape) (q : KV) : s_keep_Few c N (.str s) (.int .i64 (m : Int)) H τ q = q (.str (s.take m)) H τ := s14_eval c N s m H τ q
abbrev rw_FewH : List Row := [Row.fn f_keep_FewHeaders fn_keep_FewHeaders e_keep_FewHeaders, Row.fn f_keep_Few fn_keep_Few e_keep_Few]
theorem p_keep_FewHeaders : ∀ base w0, PrimOk PG base w0 f_keep_FewHeaders (outP (RH FewHPre FewHG)) := by
  obtain ⟨N, hN⟩ := someN
  refine primRH (N := N) (l := rw_FewH) (.fn ok_keep_FewHeaders e_keep_FewHeaders_ok (.fn ok_keep_Few e_keep_Few_ok (.nil _))) 2 _ (fun hs args hp lv H hw hr τ => ?_)
  unfold FewHPre at hp; split at hp
  · rename_i nn mm
    obtain ⟨v', H', τ', h1, h2, h3, h4⟩ := s_keep_FewHeaders_ret (CR rw_FewH N 1) N hN (fun s m H τ q => s_keep_Few_ret (CR rw_FewH N 0) N s m H τ q) hs hp.1 nn mm hp.2.2 lv H hw hr.1 τ
    refine ⟨v', H', τ', h1, ?_, h4⟩
    refine Got.met h2.apd.got (fun h0 => h3 ?_) mkOk_id (hcells_vok _ _) trivial
    have : (hs.take nn).length = 0 := by unfold fewH at h0; rw [List.length_map] at h0; exact h0
    rw [List.length_take] at this
    exact List.eq_nil_of_length_eq_zero (by omega)
  · exact hp.elim
theorem k_keep_FewHeaders {c : CallK} (h : IsP c f_keep_FewHeaders (RH FewHPre FewHG)) {hs : List Hd} (hl : hs.length ≤ 9223372036854775807) (nn mm : Nat) (h1 : 1 ≤ nn) (hn : nn ≤ 1000) {lv : V} {H : Heap} (hw : WF H) (hr : RdH H lv hs) (τ : Tape) :
    ∃ v' H' τ', Own H' H.size 2 v' (fewH nn mm hs).length (hcells (fewH nn mm hs)) ∧ Gr H.size H H' ∧ ∀ q, c f_keep_FewHeaders [lv, .int .i64 (.ofNat nn), .int .i64 (.ofNat mm)] H τ q = q v' H' τ' := by
  obtain ⟨v', H', τ', h1, h2, h3⟩ := RH_lstO (v := lv) (l := [.int .i64 (.ofNat nn), .int .i64 (.ofNat mm)]) h hr ⟨hl, h1, hn⟩ rfl hw (by rw [hcells_length]) τ
  exact ⟨v', H', τ', h1, h2, h3⟩
abbrev HPre : List V → Prop | [.str _, .str _] => True | _ => False
abbrev HG : List V → V | [.str a, .str b] => hv (a, b) | _ => .tup []
theorem p_law5_h : ∀ base w0, PrimOk PG base w0 f_law5_h (outP (RV HPre HG)) := by
  obtain ⟨N, hN⟩ := someN
  refine primRV (N := N) (l := [Row.fn f_law5_h fn_law5_h e_law5_h]) (.fn ok_law5_h e_law5_h_ok (.nil _)) 1 _ (fun vs H h => ?_) (fun vs h H hw τ => ?_)
  · unfold HPre at h; split at h
    · exact ⟨trivial, trivial, trivial⟩
    · exact h.elim
  · unfold HPre at h; split at h
    · obtain ⟨H', h1, h2⟩ := s_law5_h_ret (CR [Row.fn f_law5_h fn_law5_h e_law5_h] N 0) N _ _ H hw τ
      exact ⟨H', τ, h1, h2⟩
    · exact h.elim
theorem k_law5_h {c : CallK} (h : IsP c f_law5_h (RV HPre HG)) (a b : Bs) (H : Heap) (τ : Tape) (q : KV) : c f_law5_h [.str a, .str b] H τ q = q (hv (a, b)) H τ := RV_call h (vs := [.str a, .str b]) trivial H τ q
end Go.Am.X


namespace Go.Am.X
set_option linter.unusedSimpArgs false
set_option linter.unusedVariables false
set_option linter.unusedSectionVars false
set_option maxRecDepth 100000
theorem named_same {n : Bs} {h : Hd} (e : lower h.1 = lower n) : named n h = true := by unfold named; simp [e]
theorem sel_eq (n : Bs) (hs : List Hd) : sel n hs = (hs.filter (named n)).map (·.2) := rfl
theorem sel_setL (n v : Bs) : ∀ (hs : List Hd), (∃ h ∈ hs, named n h = true) → sel n (setL n v false hs) = [v] := by
  intro hs
  induction hs with
  | nil => rintro ⟨h, hh, _⟩; simp at hh
  | cons x l ih =>
    rintro ⟨h, hh, hn⟩
    cases hx : named n x with
    | true =>
      rw [setL, hx, cond_true, cond_false, setL_true, sel_eq, List.filter_cons]
      have e1 : named n (x.1, v) = true := hx
      rw [e1]
      have : (dropT n l).filter (named n) = [] := by
        unfold dropT; rw [List.filter_filter]
        rw [List.filter_eq_nil_iff]; intro y _; cases named n y <;> simp
      simp [this]
    | false =>
      rw [setL, hx, cond_false, sel_eq, List.filter_cons, hx]
      have := ih (by
        rcases List.mem_cons.1 hh with rfl | hh
        · rw [hx] at hn; cases hn
        · exact ⟨h, hh, hn⟩)
      rw [sel_eq] at this
      simpa using this
theorem sel_none (n : Bs) (hs : List Hd) (h : ∀ x ∈ hs, named n x = false) : sel n hs = [] := by
  rw [sel_eq, List.map_eq_nil_iff, List.filter_eq_nil_iff]; intro x hx; rw [h x hx]; exact Bool.false_ne_true
theorem sel_setT (n v : Bs) (hs : List Hd) : sel n (setT n v hs) = [valT v] := by
  unfold setT
  rcases set_eq n (valT v) hs with ⟨h1, h2⟩ | ⟨h1, h2, h3⟩
  · rw [if_pos h1, sel_eq, List.filter_append, List.map_append]
    have := sel_none n hs h2
    rw [sel_eq] at this
    rw [this]
    have e : named n (n, valT v) = true := named_same rfl
    simp [e]
  · rw [if_neg h1, h3, sel_setL n (valT v) hs h2]
theorem sel_other (n o : Bs) (h : lower n ≠ lower o) (x : Hd) (hx : named n x = true) : named o x = false := by
  unfold named at hx ⊢
  have := eq_of_beq hx
  rw [this]; simpa using h
theorem sel_setL_other (n o v : Bs) (h : lower n ≠ lower o) : ∀ (hs : List Hd) (d : Bool), sel o (setL n v d hs) = sel o hs := by
  intro hs
  induction hs with
  | nil => intro d; rfl
  | cons x l ih =>
    intro d
    cases hx : named n x with
    | true =>
      have e : named o x = false := sel_other n o h x hx
      cases d with
      | true => rw [setL, hx, cond_true, cond_true, ih, sel_eq, sel_eq, List.filter_cons, e]; rfl
      | false =>
        rw [setL, hx, cond_true, cond_false, sel_eq, sel_eq, List.filter_cons, List.filter_cons, e]
        have e2 : named o (x.1, v) = false := e
        rw [e2]
        have := ih true
        rw [sel_eq, sel_eq] at this
        simpa using this
    | false =>
      rw [setL, hx, cond_false, sel_eq, sel_eq, List.filter_cons, List.filter_cons]
      have := ih d
      rw [sel_eq, sel_eq] at this
      cases named o x <;> simp [this]
theorem sel_setT_other (n o v : Bs) (h : lower n ≠ lower o) (hs : List Hd) : sel o (setT n v hs) = sel o hs := by
  unfold setT
  rcases set_eq n (valT v) hs with ⟨h1, h2⟩ | ⟨h1, h2, h3⟩
  · have e : named o (n, valT v) = false := sel_other n o h _ (named_same rfl)
    rw [if_pos h1, sel_eq, sel_eq, List.filter_append, List.filter_cons, e]; simp
  · rw [if_neg h1, h3, sel_setL_other n o _ h]
theorem drop_setL (n v : Bs) : ∀ (hs : List Hd) (d : Bool), dropT n (setL n v d hs) = dropT n hs := by
  intro hs
  induction hs with
  | nil => intro d; rfl
  | cons x l ih =>
    intro d
    cases hx : named n x with
    | true =>
      have e2 : dropT n (x :: l) = dropT n l := by unfold dropT; rw [List.filter_cons, hx]; rfl
      cases d with
      | true => rw [setL, hx, cond_true, cond_true, ih, e2]
      | false =>
        rw [setL, hx, cond_true, cond_false, e2]
        have e3 : named n (x.1, v) = true := hx
        unfold dropT
        rw [List.filter_cons, e3]
        have := ih true
        unfold dropT at this
        simpa using this
    | false =>
      rw [setL, hx, cond_false]
      unfold dropT
      rw [List.filter_cons, List.filter_cons, hx]
      have := ih d
      unfold dropT at this
      simp [this]
theorem drop_setT (n v : Bs) (hs : List Hd) : dropT n (setT n v hs) = dropT n hs := by
  unfold setT
  rcases set_eq n (valT v) hs with ⟨h1, h2⟩ | ⟨h1, h2, h3⟩
  · rw [if_pos h1]; unfold dropT; rw [List.filter_append, List.filter_cons]
    have e : named n (n, valT v) = true := named_same rfl
    rw [e]; simp
  · rw [if_neg h1, h3, drop_setL]
theorem sel_drop (n : Bs) (hs : List Hd) : sel n (dropT n hs) = [] := by
  refine sel_none n _ fun x hx => ?_
  unfold dropT at hx
  have := (List.mem_filter.1 hx).2
  simpa using this
theorem small_fewH (nn mm : Nat) (hn : nn ≤ 900) (hm : mm ≤ 1000) (hs : List Hd) : (fewH nn mm hs).length ≤ 900 ∧ ∀ h ∈ fewH nn mm hs, h.1.length ≤ 1000 ∧ h.2.length ≤ 1000 := by
  refine ⟨by unfold fewH; rw [List.length_map, List.length_take]; omega, fun h hh => ?_⟩
  unfold fewH at hh
  obtain ⟨x, _, rfl⟩ := List.mem_map.1 hh
  unfold fewh
  simp only [List.length_take]
  omega
theorem setL_mem (n v : Bs) : ∀ (hs : List Hd) (d : Bool) (y : Hd), y ∈ setL n v d hs → y ∈ hs ∨ ∃ x ∈ hs, y = (x.1, v) := by
  intro hs
  induction hs with
  | nil => intro d y hy; simp [setL] at hy
  | cons x l ih =>
    intro d y hy
    have lift : (y ∈ l ∨ ∃ x ∈ l, y = (x.1, v)) → (y ∈ x :: l ∨ ∃ z ∈ x :: l, y = (z.1, v)) := by
      rintro (h | ⟨z, h1, h2⟩)
      · exact .inl (List.mem_cons_of_mem _ h)
      · exact .inr ⟨z, List.mem_cons_of_mem _ h1, h2⟩
    rw [setL] at hy
    cases hx : named n x with
    | true =>
      rw [hx, cond_true] at hy
      cases d with
      | true => rw [cond_true] at hy; exact lift (ih true y hy)
      | false =>
        rw [cond_false] at hy
        rcases List.mem_cons.1 hy with rfl | hy
        · exact .inr ⟨x, by simp, rfl⟩
        · exact lift (ih true y hy)
    | false =>
      rw [hx, cond_false] at hy
      rcases List.mem_cons.1 hy with rfl | hy
      · exact .inl (by simp)
      · exact lift (ih d y hy)
theorem setE_zero {n v : Bs} {hs : List Hd} (h : setE n v hs = 0) : mayE n v = 0 := by
  by_cases h0 : mayE n v = 0
  · exact h0
  · rw [setE_may h0] at h; exact absurd h h0
theorem mayE_zero {n v : Bs} (h : mayE n v = 0) : valO v = true ∧ n.length ≤ 4096 ∧ (valT v).length ≤ 4096 := by
  unfold mayE at h
  cases ho : (valO v && tokT n) with
  | false => rw [ho, cond_false] at h; exact absurd h (by decide)
  | true =>
    rw [ho, cond_true] at h
    by_cases hx : 4096 < n.length ∨ 4096 < (valT v).length
    · rw [if_pos hx] at h; exact absurd h (by decide)
    · simp only [Bool.and_eq_true] at ho
      exact ⟨ho.1, by omega, by omega⟩
theorem small_setT (n v : Bs) (hs : List Hd) (h0 : setE n v hs = 0) (h1 : hs.length ≤ 900) (h2 : ∀ h ∈ hs, h.1.length ≤ 1000 ∧ h.2.length ≤ 1000) : Small (setT n v hs) := by
  obtain ⟨_, e1, e2⟩ := mayE_zero (setE_zero h0)
  unfold setT
  rcases set_eq n (valT v) hs with ⟨k1, k2⟩ | ⟨k1, k2, k3⟩
  · rw [if_pos k1]
    refine ⟨by simp; omega, fun h hh => ?_⟩
    rcases List.mem_append.1 hh with hh | hh
    · have := h2 h hh; omega
    · simp only [List.mem_singleton] at hh; subst hh; simp only; omega
  · rw [if_neg k1, k3]
    refine ⟨by have := setL_len n (valT v) hs false; omega, fun h hh => ?_⟩
    rcases setL_mem _ _ _ _ _ hh with hh | ⟨x, hx, rfl⟩
    · have := h2 h hh; omega
    · have := h2 x hx; simp only; omega
theorem small_drop (n : Bs) {hs : List Hd} (h : Small hs) : Small (dropT n hs) :=
  ⟨Nat.le_trans (List.length_filter_le _ _) h.len, fun x hx => h.all x (List.mem_filter.1 hx).1⟩
theorem s_law5_HeadersSet_ret (c : CallK) (N : Nat) (hFew : IsP c f_keep_FewHeaders (RH FewHPre FewHG)) (hSet : IsP c f_headers_Set (RH SetPre SetG)) (hGet : IsP c f_headers_Get (RH GetPre GetG)) (hVal : IsP c f_headers_Value ValueR) (hDrop : IsP c f_headers_Drop (RH DropPre DropG))
    (hSame : IsP c f_book_Same_Header SameR) (hH : IsP c f_law5_h (RV HPre HG)) (hNm : IsP c f_ref5_Named RNamedR) (hKn : ∀ H τ q, c f_law5_known [] H τ q = q (.bool true) H τ)
    (hs : List Hd) (hl : hs.length ≤ 9223372036854775807) (n v o : Bs) (hn : n.length ≤ 140737488355328) (hv' : v.length ≤ 9223372036854775806) (ho : o.length ≤ 140737488355328) (lv : V) (H : Heap) (hw : WF H) (hr : RdH H lv hs) (τ : Tape) :
    ∃ H' τ', Gr H.size H H' ∧ ∀ q, s_law5_HeadersSet c N lv (.str n) (.str v) (.str o) H τ q = q (.bool true) H' τ' := by
  obtain ⟨v0, H1, τ1, o1, g1, k1⟩ := k_keep_FewHeaders hFew hl 20 100 (by omega) (by omega) hw hr τ
  obtain ⟨sm1, sm2⟩ := small_fewH 20 100 (by omega) (by omega) hs
  generalize fewH 20 100 hs = l at o1 sm1 sm2
  have smL : Small l := ⟨by omega, fun h hh => by have := sm2 h hh; omega⟩
  have r1 : RdH H1 v0 l := Own.rdH o1
  obtain ⟨r, H2, τ2, g2, s1, s2, k2⟩ := k_Set (n := n) (v := v) hSet ⟨by omega, fun h hh => by have := sm2 h hh; omega, hn, by omega⟩ g1.wf r1 τ1
  have g12 : Gr H.size H H2 := g1.trans g2 g1.size
  by_cases he : setE n v l = 0
  · obtain ⟨m1, _⟩ := mayE_zero (setE_zero he)
    have smT := small_setT n v l he (by omega) sm2
    have r2 : RdH H2 r (setT n v l) := (s1 he).rdH
    have e1 : ((0 : Int) != Int.ofNat 0) = false := rfl
    rw [he] at k2
    have kg := fun H (hr : RdH H r (setT n v l)) τ q => RH_val (v := r) (l := [.str n]) hGet hr ⟨smT, hn⟩ rfl τ q
    have kv := fun H τ q => callS hVal v (by omega) H τ q
    have ev : valV v = .tup [.str (valT v), .bool true] := by unfold valV; rw [m1]; rfl
    have eg : getT n (setT n v l) = valT v := by unfold getT; rw [sel_setT]; simp [joinB, joinT]
    have el : decide (0 < (sel n (setT n v l)).length) = true := by rw [sel_setT]; rfl
    obtain ⟨w3, H3, τ3, r3, g3, k3⟩ := k_headers_Drop (n := n) hDrop ⟨by have := smT.len; omega, fun h hh => by have := (smT.all h hh).1; omega, hn⟩ g2.wf r2 τ2
    have r13 : RdH H3 v0 l := (r1.gr g2 g1.wf (Nat.le_refl _)).gr g3 g2.wf (Nat.le_refl _)
    have kg3 := fun τ q => RH_val (v := w3) (l := [.str n]) hGet r3 ⟨small_drop n smT, hn⟩ rfl τ q
    have el3 : decide (0 < (sel n (dropT n (setT n v l))).length) = false := by rw [sel_drop]; rfl
    obtain ⟨w4, H4, τ4, r4, g4, k4⟩ := k_headers_Drop (n := n) hDrop ⟨by omega, fun h hh => by have := sm2 h hh; omega, hn⟩ g3.wf r13 τ3
    have r34 : RdH H4 w3 (dropT n l) := by rw [← drop_setT n v l]; exact r3.gr g4 g3.wf (Nat.le_refl _)
    have ks := fun τ q => k_book_Same_Header hSame (by have := (small_drop n smL).len; omega) r34 r4 τ q
    have kh := fun H τ q => k_law5_h hH n [] H τ q
    have kn := fun H τ q => k_ref5_Named hNm (n, []) o hn ho H τ q
    have nm : named o (n, []) = (lower n == lower o) := rfl
    have r24 : RdH H4 r (setT n v l) := (r2.gr g3 g2.wf (Nat.le_refl _)).gr g4 g3.wf (Nat.le_refl _)
    have r14 : RdH H4 v0 l := r13.gr g4 g3.wf (Nat.le_refl _)
    have ka := fun τ q => RH_val (v := v0) (l := [.str o]) hGet r14 ⟨smL, ho⟩ rfl τ q
    have kb := fun τ q => RH_val (v := r) (l := [.str o]) hGet r24 ⟨smT, ho⟩ rfl τ q
    have en : strBin .neq (valT v) (valT v) = some (.bool false) := by rw [str_neq]; simp
    refine ⟨H4, τ4, (g12.trans g3 g12.size).trans g4 (Nat.le_trans g12.size g3.size), fun q => ?_⟩
    simp only [s_law5_HeadersSet, k1, k2, getK_set, ↓reduceIte, Nat.reduceEqDiff, someK_n, effK_n, retK, gK_do, gK_do', gK_skip, gK_skip', gK_none, pick_mk, cond_true, cond_false, condK_tn, condK_fn, bin_eql, bin_neq, bin_lss, bin_leq, bin_gtr, bin_geq, un_not, Bool.not_true, Bool.not_false, bin_str, lenS_mk, nle_l, nle_r, nle_n, nlt_l, nlt_r, nlt_n, neq_r, neq_n, nne_r, nne_n, ext0, ext1, ext30, ext31, ext32, bin_add, bin_sub, decide_true, decide_false, e1, kg _ r2, kv, ev, eg, el, en, k3, kg3, el3, k4, ks, kh, kn, nm]
    cases hno : (lower n == lower o) with
    | true => simp only [getK_set, ↓reduceIte, Nat.reduceEqDiff, someK_n, effK_n, retK, gK_do, gK_do', gK_skip, gK_skip', gK_none, pick_mk, cond_true, cond_false, condK_tn, condK_fn, bin_eql, bin_neq, bin_lss, bin_leq, bin_gtr, bin_geq, un_not, Bool.not_true, Bool.not_false, bin_str, lenS_mk, nle_l, nle_r, nle_n, nlt_l, nlt_r, nlt_n, neq_r, neq_n, nne_r, nne_n, ext0, ext1, ext30, ext31, ext32, bin_add, bin_sub, decide_true, decide_false, hKn]
    | false =>
      have hne : lower n ≠ lower o := by simpa using hno
      have ee : getT o (setT n v l) = getT o l := by unfold getT; rw [sel_setT_other n o v hne]
      have es : sel o (setT n v l) = sel o l := sel_setT_other n o v hne l
      have eq1 : strBin .eql (getT o l) (getT o l) = some (.bool true) := by rw [str_eql]; simp
      have eq2 : ∀ b : Bool, pEq false .bool [.bool b, .bool b] = some (.bool true) := by intro b; cases b <;> rfl
      simp only [getK_set, ↓reduceIte, Nat.reduceEqDiff, someK_n, effK_n, retK, gK_do, gK_do', gK_skip, gK_skip', gK_none, pick_mk, cond_true, cond_false, condK_tn, condK_fn, bin_eql, bin_neq, bin_lss, bin_leq, bin_gtr, bin_geq, un_not, Bool.not_true, Bool.not_false, bin_str, lenS_mk, nle_l, nle_r, nle_n, nlt_l, nlt_r, nlt_n, neq_r, neq_n, nne_r, nne_n, ext0, ext1, ext30, ext31, ext32, bin_add, bin_sub, decide_true, decide_false, ka, kb, ee, es, eq1, eq2, hKn]
  · have e1 : (setE n v l != Int.ofNat 0) = true := by rw [bne_iff_ne]; exact he
    have er := s2 he
    subst er
    have pl : pLen [.nils] = some (.int .i64 ((0 : Nat) : Int)) := rfl
    have e2 : decide (0 = 0) = true := rfl
    refine ⟨H2, τ2, g12, fun q => ?_⟩
    simp only [s_law5_HeadersSet, k1, k2, getK_set, ↓reduceIte, Nat.reduceEqDiff, someK_n, effK_n, retK, gK_do, gK_do', gK_skip, gK_skip', gK_none, pick_mk, cond_true, cond_false, condK_tn, condK_fn, bin_eql, bin_neq, bin_lss, bin_leq, bin_gtr, bin_geq, un_not, Bool.not_true, Bool.not_false, bin_str, lenS_mk, nle_l, nle_r, nle_n, nlt_l, nlt_r, nlt_n, neq_r, neq_n, nne_r, nne_n, ext0, ext1, ext30, ext31, ext32, bin_add, bin_sub, decide_true, decide_false, e1, pl, e2, hKn]
theorem closedP_call {c : CallK} {f : Nat} (h : ∀ vs H τ q, c f vs H τ q = effK (closedP vs H τ) q) (H : Heap) (τ : Tape) (q : KV) : c f [] H τ q = q (.bool true) H τ := by rw [h]; rfl
def HeadersSetR (vs : List V) (H : Heap) (o : Out) : Prop := (∃ lv hs n v ot, vs = [lv, .str n, .str v, .str ot] ∧ RdH H lv hs ∧ hs.length ≤ 9223372036854775807 ∧ n.length ≤ 140737488355328 ∧ v.length ≤ 9223372036854775806 ∧ ot.length ≤ 140737488355328) ∧ o = .val (.bool true)
noncomputable abbrev rw_HeadersSet : List Row := [Row.fn f_law5_HeadersSet fn_law5_HeadersSet e_law5_HeadersSet, Row.prim f_keep_FewHeaders (outP (RH FewHPre FewHG)), Row.prim f_headers_Set (outP (RH SetPre SetG)), Row.prim f_headers_Get (outP (RH GetPre GetG)), Row.prim f_headers_Value (outP ValueR), Row.prim f_headers_Drop (outP (RH DropPre DropG)), Row.prim f_book_Same_Header (outP SameR), Row.prim f_law5_h (outP (RV HPre HG)), Row.prim f_ref5_Named (outP RNamedR), Row.prim f_law5_known closedP]
theorem headersSet_ok : ∀ base w0, PrimOk PG base w0 f_law5_HeadersSet (outP HeadersSetR) := by
  obtain ⟨N, hN⟩ := someN
  refine primOk_out mixed_ok (l := rw_HeadersSet) (.fn ok_law5_HeadersSet e_law5_HeadersSet_ok (.prim p_keep_FewHeaders (.prim p_headers_Set (.prim p_headers_Get (.prim p_headers_Value (.prim p_headers_Drop (.prim p_book_Same_Header (.prim p_law5_h (.prim p_ref5_Named (.prim closed_law5_known_ok (.nil _)))))))))) ) N 2 _ ?_
  rintro vs H o hw hvs ⟨⟨lv, hs, n, v, ot, rfl, hr, h1, h2, h3, h4⟩, rfl⟩ τ
  obtain ⟨H', τ', g, k⟩ := s_law5_HeadersSet_ret (CR rw_HeadersSet N 1) N (fun _ _ _ _ => rfl) (fun _ _ _ _ => rfl) (fun _ _ _ _ => rfl) (fun _ _ _ _ => rfl) (fun _ _ _ _ => rfl) (fun _ _ _ _ => rfl) (fun _ _ _ _ => rfl) (fun _ _ _ _ => rfl) (closedP_call fun _ _ _ _ => rfl) hs h1 n v ot h2 h3 h4 lv H hw hr τ
  exact ⟨_, H', τ', k retK, g, rfl, trivial⟩
theorem headersSet_fun : Fun1 HeadersSetR := fun vs H o o' k k' => k.2.trans k'.2.symm
theorem headersSet_in {lv : V} {H : Heap} {hs : List Hd} (hr : RdH H lv hs) {n v ot : Bs} (h1 : hs.length ≤ 9223372036854775807) (h2 : n.length ≤ 140737488355328) (h3 : v.length ≤ 9223372036854775806) (h4 : ot.length ≤ 140737488355328) (τ : Tape) : outP HeadersSetR [lv, .str n, .str v, .str ot] H τ = some (.bool true, H, τ) :=
  outP_mk (headersSet_fun) ⟨⟨lv, hs, n, v, ot, rfl, hr, h1, h2, h3, h4⟩, rfl⟩ τ
end Go.Am.X


