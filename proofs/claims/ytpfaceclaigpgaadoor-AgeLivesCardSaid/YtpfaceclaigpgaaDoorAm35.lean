/-
  THE ABSTRACT MACHINE 'Am', thirty-fifth part: what comes next may be taken off.
-/
import Derived.Test.YtpfaceclaigpgaaDoorAm34
namespace Go.Am

def CallNat (c : CallK) : Prop := ∀ f vs H τ q, c f vs H τ q = effK (c f vs H τ retK) q
theorem CallNat.mk {c : CallK} (hn : CallNat c) {f : Nat} {vs : List V} {H H' : Heap} {τ τ' : Tape} {v : V} (h : c f vs H τ retK = retK v H' τ') (q : KV) : c f vs H τ q = q v H' τ' := by
  rw [hn, h]; rfl

def bindA (o : Ans) (q : KV) : Ans := effK o q
theorem effK_effK (o : Ans) (q q' : KV) : effK (effK o q) q' = effK o fun v H τ => effK (q v H τ) q' := by
  cases o with
  | none => rfl
  | some x => rfl
theorem someK_effK (o : Option V) (c : V → Ans) (q : KV) : effK (someK o c) q = someK o fun v => effK (c v) q := by
  cases o <;> rfl

theorem gK_nat (g : V) (w : Bool) (body : KV → Ans) (H : Heap) (τ : Tape) (k q : KV) : effK (gK g w body H τ k) q = gK g w body H τ fun v H τ => effK (k v H τ) q := by
  unfold gK
  split
  · rename_i b
    cases b <;> cases w <;> first | exact effK_effK _ _ _ | rfl
  · rfl
  · rfl

section
variable {c : CallK} (hn : CallNat c)
include hn

theorem opK_nat (o : AOp) (vs : List V) (H : Heap) (τ : Tape) (k q : KV) : effK (opK c o vs H τ k) q = opK c o vs H τ fun v H τ => effK (k v H τ) q := by
  cases o with
  | p o => simp only [opK, pK_eq, someK_effK]
  | l o => simp only [opK, someK_effK]
  | e o => simp only [opK, effK_effK]
  | call f => simp only [opK]; rw [hn f vs H τ k, effK_effK, ← hn f vs H τ]
  | callv =>
    simp only [opK]
    split
    · rename_i f first cap vs'
      rw [hn f _ H τ k, effK_effK, ← hn f _ H τ]
    · rfl

omit hn in
theorem argsK_nat (fr : T V) (args : List O) (k : List V → Ans) (q : KV) : effK (argsK fr args k) q = argsK fr args fun vs => effK (k vs) q := by
  unfold argsK
  split <;> rfl

theorem insK_nat (i : Ins) (st : St) (τ : Tape) (k : St → Tape → Ans) (q : KV) : effK (insK c i st τ k) q = insK c i st τ fun st τ => effK (k st τ) q := by
  unfold insK
  split
  · simp only [argsK_nat, opK_nat hn]
  · split
    · exact gK_nat _ _ _ _ _ _ _
    · rfl

theorem regK_nat : ∀ (is : List Ins) (st : St) (τ : Tape) (k : St → Tape → Ans) (q : KV), effK (regK c is st τ k) q = regK c is st τ fun st τ => effK (k st τ) q := by
  intro is
  induction is with
  | nil => intro st τ k q; rfl
  | cons i is ih => intro st τ k q; simp only [regK, insK_nat hn, ih]

theorem drawK_nat : ∀ (is : List Ins) (st : St) (τ : Tape) (hs : List Heap) (ls : List LNote) (k : St → Tape → List Heap → List LNote → Ans) (q : KV), effK (drawK c is st τ hs ls k) q = drawK c is st τ hs ls fun st τ hs ls => effK (k st τ hs ls) q := by
  intro is
  induction is with
  | nil => intro st τ hs ls k q; rfl
  | cons i is ih => intro st τ hs ls k q; simp only [drawK, insK_nat hn, ih]

omit hn in
theorem keepK_nat : ∀ (l : List Nat) (fr acc : T V) (k : T V → Ans) (q : KV), effK (keepK l fr acc k) q = keepK l fr acc fun fr => effK (k fr) q := by
  intro l
  induction l with
  | nil => intro fr acc k q; rfl
  | cons i l ih =>
    intro fr acc k q
    simp only [keepK, getK]
    split
    · exact ih _ _ _ _
    · rfl

def KC.eff (k : KC) (q : KV) : KC := fun ex st τ => effK (k ex st τ) q
omit hn in
theorem seqK_eff (rest : St → Tape → Ans) (k : KC) (q : KV) : KC.eff (seqK rest k) q = seqK (fun st τ => effK (rest st τ) q) (KC.eff k q) := by
  funext ex st τ
  cases ex <;> rfl
omit hn in
theorem blockK_eff (id : Nat) (k : KC) (q : KV) : KC.eff (blockK id k) q = blockK id (KC.eff k q) := by
  funext ex st τ
  cases ex with
  | exit id' => simp only [KC.eff, blockK]; cases Nat.beq id' id <;> rfl
  | _ => rfl
omit hn in
theorem endK_eff (rs : List R) (k q : KV) : KC.eff (endK rs k) q = endK rs fun v H τ => effK (k v H τ) q := by
  funext ex st τ
  cases ex <;> simp only [KC.eff, endK, someK_effK] <;> rfl

theorem execK_nat (N : Nat) : ∀ (x : C) (st : St) (τ : Tape) (k : KC) (q : KV), effK (execK c N x st τ k) q = execK c N x st τ (KC.eff k q) := by
  intro x
  induction x with
  | skip => intro st τ k q; rfl
  | reg ops => intro st τ k q; simp only [execK, regK_nat hn]; rfl
  | draw ops =>
    intro st τ k q
    simp only [execK, drawK_nat hn]
    congr 1
    funext st' τ' hs ls
    cases chkLoads hs.reverse ls <;> rfl
  | seq a b iha ihb =>
    intro st τ k q
    simp only [execK, iha, seqK_eff]
    congr 2
    funext st τ
    exact ihb st τ k q
  | cond v a b iha ihb =>
    intro st τ k q
    simp only [execK]
    split
    · simp only [condK]
      split
      · exact iha _ _ _ _
      · exact ihb _ _ _ _
      · rfl
    · rfl
  | block id x ih => intro st τ k q; simp only [execK, ih, blockK_eff]
  | loop x ih =>
    intro st τ k q
    simp only [execK]
    have : ∀ n (st : St) (τ : Tape) (k : KC), effK (loopK (execK c N x) n st τ k) q = loopK (execK c N x) n st τ (KC.eff k q) := by
      intro n
      induction n with
      | zero => intro st τ k; rfl
      | succ n ihn =>
        intro st τ k
        simp only [loopK, ih, seqK_eff]
        congr 2
        funext st τ
        exact ihn st τ k
    exact this N st τ k
  | exit id => intro st τ k q; rfl
  | ret => intro st τ k q; rfl
  | scope x ih => intro st τ k q; exact ih st τ k q
  | keep l x ih => intro st τ k q; simp only [execK, keepK_nat, ih]
  | bad => intro st τ k q; rfl

theorem funK_nat (N : Nat) (fn : Fun) (vs : List V) (H : Heap) (τ : Tape) (k q : KV) : effK (funK c N fn vs H τ k) q = funK c N fn vs H τ fun v H τ => effK (k v H τ) q := by
  unfold funK
  cases Nat.beq vs.length fn.nparams with
  | false => rfl
  | true => simp only [cond_true, execK_nat hn, endK_eff]
end

/-- a printed function, whatever comes next -/
def EntNat (e : Ent) : Prop := ∀ c, CallNat c → ∀ N vs H τ q, e c N vs H τ q = effK (e c N vs H τ retK) q
theorem effK_retK_eta (v : V) (H : Heap) (τ : Tape) (q : KV) : effK (retK v H τ) q = q v H τ := rfl
theorem funK_ent {c : CallK} (hn : CallNat c) (N : Nat) (fn : Fun) (vs : List V) (H : Heap) (τ : Tape) (q : KV) : funK c N fn vs H τ q = effK (funK c N fn vs H τ retK) q := by
  rw [funK_nat hn]; rfl
theorem PrimEnt_nat (p : List V → Heap → Tape → Option (V × Heap × Tape)) : EntNat (PrimEnt p) := by
  intro c _ N vs H τ q
  simp only [PrimEnt, effK_effK]
  rfl
theorem callK_nat {E : T Ent} (N : Nat) (h : ∀ f e, E.get f = some e → EntNat e) : ∀ d, CallNat (callK (tabOf E N) d) := by
  intro d
  induction d with
  | zero => intro f vs H τ q; rfl
  | succ d ih =>
    intro f vs H τ q
    simp only [callK, tabOf]
    split
    · rename_i e he
      exact h f e he _ ih N vs H τ q
    · rfl
end Go.Am
