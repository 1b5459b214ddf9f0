/-
  THE ABSTRACT MACHINE 'Am', twenty-seventh part: the same machine with what comes next handed in ('K'): made to be printed function by function, and to be reckoned by the kernel.
-/
import Derived.Test.YtpfaceclaigpgaaDoorAm2
namespace Go.Am

abbrev Ans := Option (V × Heap × Tape)
/-- what comes behind a value -/
abbrev KV := V → Heap → Tape → Ans
abbrev KC := Ex → St → Tape → Ans
abbrev CallK := Nat → List V → Heap → Tape → KV → Ans

def retK : KV := fun v H τ => some (v, H, τ)

/-! ### Operations -/
def intK (b : BinOp) (k : IntKind) (x y : Int) (c : V → Ans) : Ans :=
  match b with
  | .add => mkI k (wr k (x + y)) c
  | .sub => mkI k (wr k (x - y)) c
  | .mul => mkI k (wr k (x * y)) c
  | .quo => match y with
    | .ofNat 0 => none
    | _ => mkI k (wr k (x.tdiv y)) c
  | .rem => match y with
    | .ofNat 0 => none
    | _ => mkI k (x.tmod y) c
  | .eql => c (.bool (x == y))
  | .neq => c (.bool (x != y))
  | .lss => c (.bool (decide (x < y)))
  | .leq => c (.bool (decide (x ≤ y)))
  | .gtr => c (.bool (decide (y < x)))
  | .geq => c (.bool (decide (y ≤ x)))
  | b => match bitsOp b k x y with
    | some n => mkI k n c
    | none => none

def shiftK (b : BinOp) (k : IntKind) (x y : Int) (c : V → Ans) : Ans :=
  match y with
  | .negSucc _ => none
  | .ofNat m =>
    forceN (min m k.bits) fun n =>
    match b with
    | .shl => mkI k (wr k (x * (Nat.pow 2 n : Nat))) c
    | .shr => mkI k (x.fdiv (Nat.pow 2 n : Nat)) c
    | _ => none

def someK (o : Option V) (c : V → Ans) : Ans :=
  match o with
  | some v => c v
  | none => none

def binIntK (b : BinOp) (k : IntKind) (x : Int) (k' : IntKind) (y : Int) (c : V → Ans) : Ans :=
  match b with
  | .shl => shiftK .shl k x y c
  | .shr => shiftK .shr k x y c
  | b => if k = k' then intK b k x y c else none

def binK (b : BinOp) (x y : V) (c : V → Ans) : Ans :=
  match x with
  | .int k x => match y with
    | .int k' y => binIntK b k x k' y c
    | _ => none
  | .str x => match y with
    | .str y => someK (strBin b x y) c
    | _ => none
  | _ => none

def toIntK (k : IntKind) (x : V) (c : V → Ans) : Ans :=
  match x with
  | .int _ n => mkI k (wr k n) c
  | _ => none

def unK (u : UnOp) (x : V) (c : V → Ans) : Ans :=
  match u with
  | .neg => match x with
    | .int k n => mkI k (wr k (0 - n)) c
    | _ => none
  | u => someK (unOp u x) c

def pK (o : POp) (vs : List V) (c : V → Ans) : Ans :=
  match o with
  | .bin b => match vs with
    | [x, y] => binK b x y c
    | _ => none
  | .toInt k => match vs with
    | [x] => toIntK k x c
    | _ => none
  | .un u => match vs with
    | [x] => unK u x c
    | _ => none
  | .mv => match vs with
    | [x] => c x
    | _ => none
  | o => someK (evalP o vs) c

def effK (o : Ans) (c : KV) : Ans :=
  match o with
  | some (v, H, τ) => c v H τ
  | none => none

def opK (call : CallK) (o : AOp) (vs : List V) (H : Heap) (τ : Tape) (c : KV) : Ans :=
  match o with
  | .p o => pK o vs fun v => c v H τ
  | .l o => someK (evalL o vs H) fun v => c v H τ
  | .e o => effK (evalE o vs H τ) c
  | .call f => call f vs H τ c
  | .callv => match vs with
    | .func f first cap :: vs => call f (first ++ vs ++ cap) H τ c
    | _ => none

/-- a guarded operation: its value, or none -/
def gK (g : V) (w : Bool) (body : KV → Ans) (H : Heap) (τ : Tape) (c : KV) : Ans :=
  match g with
  | .bool b => bif b == w then effK (body retK) c else c (.tup []) H τ
  | .tup [] => c (.tup []) H τ
  | _ => none

def wantsV (g : V) (w : Bool) : Option Bool :=
  match g with
  | .bool b => some (b == w)
  | .tup [] => some false
  | _ => none

def argsK (fr : T V) (args : List O) (c : List V → Ans) : Ans :=
  match evOs fr args with
  | some vs => c vs
  | none => none

def insK (call : CallK) (i : Ins) (st : St) (τ : Tape) (c : St → Tape → Ans) : Ans :=
  match i.guard with
  | none => argsK st.fr i.args fun vs => opK call i.op vs st.hp τ fun v H τ => c ⟨put st.fr i.dst v, H⟩ τ
  | some (t, w) => match st.fr.get t with
    | some g => gK g w (fun c => argsK st.fr i.args fun vs => opK call i.op vs st.hp τ c) st.hp τ fun v H τ => c ⟨put st.fr i.dst v, H⟩ τ
    | none => none

def regK (call : CallK) : List Ins → St → Tape → (St → Tape → Ans) → Ans
  | [], st, τ, c => c st τ
  | i :: is, st, τ, c => insK call i st τ fun st τ => regK call is st τ c

def drawK (call : CallK) : List Ins → St → Tape → List Heap → List LNote → (St → Tape → List Heap → List LNote → Ans) → Ans
  | [], st, τ, hs, ls, c => c st τ hs ls
  | i :: is, st, τ, hs, ls, c => insK call i st τ fun st' τ => drawK call is st' τ (bif i.op.eff then st'.hp :: hs else hs)
      (match i.rng with | none => ls | some _ => match wants st.fr i.guard with | some true => noted i st ls | _ => ls) c

def seqK (rest : St → Tape → Ans) (k : KC) : KC := fun ex st τ =>
  match ex with
  | .normal => rest st τ
  | .exit id => k (.exit id) st τ
  | .ret => k .ret st τ

def blockK (id : Nat) (k : KC) : KC := fun ex st τ =>
  match ex with
  | .normal => k .normal st τ
  | .exit id' => bif Nat.beq id' id then k .normal st τ else k (.exit id') st τ
  | .ret => k .ret st τ

def loopK (body : St → Tape → KC → Ans) : Nat → St → Tape → KC → Ans
  | 0, _, _, _ => none
  | n + 1, st, τ, k => body st τ (seqK (fun st τ => loopK body n st τ k) k)

def getK (fr : T V) (i : Nat) (c : V → Ans) : Ans :=
  match fr.get i with
  | some v => c v
  | none => none

def keepK : List Nat → T V → T V → (T V → Ans) → Ans
  | [], _, acc, c => c acc
  | i :: l, fr, acc, c => getK fr i fun v => keepK l fr (acc.set i v) c

def condK (x : V) (a b : Ans) : Ans :=
  match x with
  | .bool true => a
  | .bool false => b
  | _ => none

def execK (call : CallK) (N : Nat) : C → St → Tape → KC → Ans
  | .skip, st, τ, k => k .normal st τ
  | .reg ops, st, τ, k => regK call ops st τ fun st τ => k .normal st τ
  | .draw ops, st, τ, k => drawK call ops st τ [st.hp] [] fun st τ hs ls => bif chkLoads hs.reverse ls then k .normal st τ else none
  | .seq a b, st, τ, k => execK call N a st τ (seqK (fun st τ => execK call N b st τ k) k)
  | .cond x a b, st, τ, k => match evO st.fr x with
    | some x => condK x (execK call N a st τ k) (execK call N b st τ k)
    | none => none
  | .block id c, st, τ, k => execK call N c st τ (blockK id k)
  | .loop c, st, τ, k => loopK (execK call N c) N st τ k
  | .exit id, st, τ, k => k (.exit id) st τ
  | .ret, st, τ, k => k .ret st τ
  | .scope c, st, τ, k => execK call N c st τ k
  | .keep l c, st, τ, k => keepK l st.fr .leaf fun fr => execK call N c ⟨fr, st.hp⟩ τ k
  | .bad, _, _, _ => none

/-- the end of a function -/
def endK (rs : List R) (c : KV) : KC := fun ex st τ =>
  match ex with
  | .exit _ => none
  | .normal => someK (results st rs) fun v => c v st.hp τ
  | .ret => someK (results st rs) fun v => c v st.hp τ

def funK (call : CallK) (N : Nat) (fn : Fun) (vs : List V) (H : Heap) (τ : Tape) (c : KV) : Ans :=
  bif Nat.beq vs.length fn.nparams then execK call N fn.body ⟨frameOf vs 0 .leaf, H⟩ τ (endK fn.res c) else none

/-- the functions, as they are printed -/
def callK (tab : Nat → CallK → List V → Heap → Tape → KV → Ans) : Nat → CallK
  | 0 => fun _ _ _ _ _ => none
  | d + 1 => fun f vs H τ c => tab f (callK tab d) vs H τ c

/-! ### The machine answers so, too -/
theorem mkI_eq {α : Type} (k : IntKind) (n : Int) (c : V → α) : mkI k n c = c (.int k n) := forceI_eq n _

theorem intK_eq (b : BinOp) (k : IntKind) (x y : Int) (c : V → Ans) : intK b k x y c = someK (intBin b k x y) c := by
  cases b <;> simp only [intK, intBin, mkI_eq, someK] <;> (try split) <;> (try rfl) <;> simp_all

theorem shiftK_eq (b : BinOp) (k : IntKind) (x y : Int) (c : V → Ans) : shiftK b k x y c = someK (shiftOp b k x y) c := by
  cases y with
  | negSucc m => rfl
  | ofNat m => simp only [shiftK, shiftOp, forceN_eq]; cases b <;> simp [mkI_eq, someK]

theorem binIntK_eq (b : BinOp) (k : IntKind) (x : Int) (k' : IntKind) (y : Int) (c : V → Ans) : binIntK b k x k' y c = someK (binInt b k x k' y) c := by
  cases b <;> simp only [binIntK, binInt, shiftK_eq] <;> (try (split <;> simp [intK_eq, someK]))

theorem binK_eq (b : BinOp) (x y : V) (c : V → Ans) : binK b x y c = someK (pBin b [x, y]) c := by
  cases x <;> cases y <;> simp [binK, pBin, binIntK_eq] <;> rfl

theorem toIntK_eq (k : IntKind) (x : V) (c : V → Ans) : toIntK k x c = someK (pToInt k [x]) c := by
  cases x <;> simp [toIntK, pToInt, mkI_eq, someK]

theorem unK_eq (u : UnOp) (x : V) (c : V → Ans) : unK u x c = someK (pUn u [x]) c := by
  cases u <;> cases x <;> simp [unK, pUn, unOp, mkI_eq, someK]

theorem pK_eq (o : POp) (vs : List V) (c : V → Ans) : pK o vs c = someK (evalP o vs) c := by
  cases o with
  | bin b =>
    match vs with
    | [] => rfl
    | [_] => simp [pK, evalP, pBin, someK]
    | [x, y] => exact binK_eq b x y c
    | x :: y :: z :: l => cases x <;> cases y <;> rfl
  | toInt k =>
    match vs with
    | [] => rfl
    | [x] => exact toIntK_eq k x c
    | x :: y :: l => cases x <;> rfl
  | un u =>
    match vs with
    | [] => rfl
    | [x] => exact unK_eq u x c
    | x :: y :: l => rfl
  | mv =>
    match vs with
    | [] => rfl
    | [x] => rfl
    | x :: y :: l => rfl
  | _ => rfl

theorem someK_some {o : Option V} {c : V → Ans} {r : V × Heap × Tape} (h : someK o c = some r) : ∃ v, o = some v ∧ c v = some r := by
  cases o with
  | none => cases h
  | some v => exact ⟨v, rfl, h⟩
theorem effK_some {o : Ans} {c : KV} {r : V × Heap × Tape} (h : effK o c = some r) : ∃ v H τ, o = some (v, H, τ) ∧ c v H τ = some r := by
  cases o with
  | none => cases h
  | some x => obtain ⟨v, H, τ⟩ := x; exact ⟨v, H, τ, rfl, h⟩

/-- what 'K' answers, the machine comes to -/
def Le (cK : CallK) (c : ACall) : Prop := ∀ f vs H τ k r, cK f vs H τ k = some r → ∃ v H' τ', c f vs H τ = some (v, H', τ') ∧ k v H' τ' = some r

section
variable {cK : CallK} {call : ACall} (hle : Le cK call)

include hle
theorem opK_le {o : AOp} {vs : List V} {H : Heap} {τ : Tape} {k : KV} {r : V × Heap × Tape} (h : opK cK o vs H τ k = some r) : ∃ v H' τ', evalOp call o vs H τ = some (v, H', τ') ∧ k v H' τ' = some r := by
  cases o with
  | p o =>
    simp only [opK, pK_eq] at h
    obtain ⟨v, h1, h2⟩ := someK_some h
    exact ⟨v, H, τ, by simp [evalOp, h1], h2⟩
  | l o =>
    simp only [opK] at h
    obtain ⟨v, h1, h2⟩ := someK_some h
    exact ⟨v, H, τ, by simp [evalOp, h1], h2⟩
  | e o =>
    simp only [opK] at h
    obtain ⟨v, H', τ', h1, h2⟩ := effK_some h
    exact ⟨v, H', τ', by simp [evalOp, h1], h2⟩
  | call f => exact hle _ _ _ _ _ _ h
  | callv =>
    simp only [opK] at h
    split at h
    · exact hle _ _ _ _ _ _ h
    · cases h

omit hle in
theorem argsK_some {fr : T V} {args : List O} {c : List V → Ans} {r : V × Heap × Tape} (h : argsK fr args c = some r) : ∃ vs, evOs fr args = some vs ∧ c vs = some r := by
  unfold argsK at h
  split at h
  · rename_i vs e; exact ⟨vs, e, h⟩
  · cases h

theorem insK_le {i : Ins} {st : St} {τ : Tape} {k : St → Tape → Ans} {r : V × Heap × Tape} (h : insK cK i st τ k = some r) : ∃ st' τ', runIns call i st τ = some (st', τ') ∧ k st' τ' = some r := by
  unfold insK at h
  split at h
  · rename_i hg
    obtain ⟨vs, h1, h2⟩ := argsK_some h
    obtain ⟨v, H', τ', h3, h4⟩ := opK_le hle h2
    exact ⟨_, τ', by simp only [runIns, hg, wants, h1, h3], h4⟩
  · rename_i t w hg
    split at h
    · rename_i g ht
      unfold gK at h
      split at h
      · rename_i b
        cases hb : b == w with
        | true =>
          rw [hb, cond_true] at h
          obtain ⟨v, H', τ', h1, h2⟩ := effK_some h
          obtain ⟨vs, h3, h4⟩ := argsK_some h1
          obtain ⟨v', H2, τ2, h5, h6⟩ := opK_le hle h4
          cases h6
          exact ⟨_, τ', by simp only [runIns, hg, wants, ht, hb, h3, h5], h2⟩
        | false =>
          rw [hb, cond_false] at h
          exact ⟨_, τ, by simp only [runIns, hg, wants, ht, hb], h⟩
      · exact ⟨_, τ, by simp only [runIns, hg, wants, ht], h⟩
      · cases h
    · cases h

theorem regK_le : ∀ {is : List Ins} {st : St} {τ : Tape} {k : St → Tape → Ans} {r : V × Heap × Tape}, regK cK is st τ k = some r → ∃ st' τ', runReg call is st τ = some (st', τ') ∧ k st' τ' = some r := by
  intro is
  induction is with
  | nil => intro st τ k r h; exact ⟨st, τ, rfl, h⟩
  | cons i is ih =>
    intro st τ k r h
    obtain ⟨st1, τ1, h1, h2⟩ := insK_le hle h
    obtain ⟨st2, τ2, h3, h4⟩ := ih h2
    exact ⟨st2, τ2, by simp only [runReg, h1, h3], h4⟩

theorem drawK_le : ∀ {is : List Ins} {st : St} {τ : Tape} {hs : List Heap} {ls : List LNote} {k : St → Tape → List Heap → List LNote → Ans} {r : V × Heap × Tape}, drawK cK is st τ hs ls k = some r →
    ∃ st' τ' hs' ls', runDraw call is st τ hs ls = some (st', τ', hs', ls') ∧ k st' τ' hs' ls' = some r := by
  intro is
  induction is with
  | nil => intro st τ hs ls k r h; exact ⟨st, τ, hs, ls, rfl, h⟩
  | cons i is ih =>
    intro st τ hs ls k r h
    obtain ⟨st1, τ1, h1, h2⟩ := insK_le hle h
    have e : (match i.rng with | none => ls | some _ => match wants st.fr i.guard with | some true => noted i st ls | _ => ls) = (match wants st.fr i.guard with | some true => noted i st ls | _ => ls) := by
      cases hr : i.rng with
      | none => simp only [noted, hr]; split <;> rfl
      | some x => rfl
    rw [e] at h2
    obtain ⟨st2, τ2, hs2, ls2, h3, h4⟩ := ih h2
    exact ⟨st2, τ2, hs2, ls2, by simp only [runDraw, h1]; exact h3, h4⟩

omit hle in
theorem keepK_le : ∀ {l : List Nat} {fr acc : T V} {c : T V → Ans} {r : V × Heap × Tape}, keepK l fr acc c = some r → c (keepT l fr acc) = some r := by
  intro l
  induction l with
  | nil => intro fr acc c r h; exact h
  | cons i l ih =>
    intro fr acc c r h
    simp only [keepK, getK] at h
    split at h
    · rename_i v hv
      simp only [keepT, hv]
      exact ih h
    · cases h

theorem execK_le (N : Nat) : ∀ (c : C) {st : St} {τ : Tape} {k : KC} {r : V × Heap × Tape}, execK cK N c st τ k = some r → ∃ ex st' τ', exec call N c st τ = some (ex, st', τ') ∧ k ex st' τ' = some r := by
  intro c
  induction c with
  | skip => intro st τ k r h; exact ⟨_, _, _, rfl, h⟩
  | reg ops =>
    intro st τ k r h
    obtain ⟨st', τ', h1, h2⟩ := regK_le hle h
    exact ⟨_, _, _, by simp only [exec, h1], h2⟩
  | draw ops =>
    intro st τ k r h
    obtain ⟨st', τ', hs, ls, h1, h2⟩ := drawK_le hle h
    cases hc : chkLoads hs.reverse ls with
    | true =>
      rw [hc, cond_true] at h2
      exact ⟨_, _, _, by simp only [exec, h1, hc, cond_true], h2⟩
    | false => rw [hc, cond_false] at h2; cases h2
  | seq a b iha ihb =>
    intro st τ k r h
    obtain ⟨ex, st1, τ1, h1, h2⟩ := iha h
    cases ex with
    | normal =>
      obtain ⟨ex2, st2, τ2, h3, h4⟩ := ihb h2
      exact ⟨ex2, st2, τ2, by simp only [exec, h1, h3], h4⟩
    | exit id => exact ⟨_, _, _, by simp only [exec, h1], h2⟩
    | ret => exact ⟨_, _, _, by simp only [exec, h1], h2⟩
  | cond x a b iha ihb =>
    intro st τ k r h
    simp only [execK] at h
    split at h
    · rename_i v hv
      unfold condK at h
      split at h
      · obtain ⟨ex, st1, τ1, h1, h2⟩ := iha h
        exact ⟨ex, st1, τ1, by simp only [exec, hv, h1], h2⟩
      · obtain ⟨ex, st1, τ1, h1, h2⟩ := ihb h
        exact ⟨ex, st1, τ1, by simp only [exec, hv, h1], h2⟩
      · cases h
    · cases h
  | block id c ih =>
    intro st τ k r h
    obtain ⟨ex, st1, τ1, h1, h2⟩ := ih h
    cases ex with
    | normal => exact ⟨_, _, _, by simp only [exec, h1], h2⟩
    | exit id' =>
      simp only [blockK] at h2
      cases hb : Nat.beq id' id with
      | true => rw [hb, cond_true] at h2; exact ⟨_, _, _, by simp only [exec, h1, hb, cond_true], h2⟩
      | false => rw [hb, cond_false] at h2; exact ⟨_, _, _, by simp only [exec, h1, hb, cond_false], h2⟩
    | ret => exact ⟨_, _, _, by simp only [exec, h1], h2⟩
  | loop c ih =>
    intro st τ k r h
    simp only [execK] at h
    have : ∀ n {st : St} {τ : Tape} {k : KC}, loopK (execK cK N c) n st τ k = some r → ∃ ex st' τ', loopF (exec call N c) n st τ = some (ex, st', τ') ∧ k ex st' τ' = some r := by
      intro n
      induction n with
      | zero => intro st τ k h; cases h
      | succ n ihn =>
        intro st τ k h
        obtain ⟨ex, st1, τ1, h1, h2⟩ := ih h
        cases ex with
        | normal =>
          obtain ⟨ex2, st2, τ2, h3, h4⟩ := ihn h2
          exact ⟨ex2, st2, τ2, by simp only [loopF, h1, h3], h4⟩
        | exit id => exact ⟨_, _, _, by simp only [loopF, h1], h2⟩
        | ret => exact ⟨_, _, _, by simp only [loopF, h1], h2⟩
    exact this N h
  | exit id => intro st τ k r h; exact ⟨_, _, _, rfl, h⟩
  | ret => intro st τ k r h; exact ⟨_, _, _, rfl, h⟩
  | scope c ih => intro st τ k r h; exact ih h
  | keep l c ih =>
    intro st τ k r h
    have := keepK_le h
    obtain ⟨ex, st1, τ1, h1, h2⟩ := ih this
    exact ⟨ex, st1, τ1, h1, h2⟩
  | bad => intro st τ k r h; cases h

theorem funK_le {N : Nat} {fn : Fun} {vs : List V} {H : Heap} {τ : Tape} {k : KV} {r : V × Heap × Tape} (h : funK cK N fn vs H τ k = some r) : ∃ v H' τ', callDef call N (some (.fn fn)) vs H τ = some (v, H', τ') ∧ k v H' τ' = some r := by
  unfold funK at h
  cases hb : Nat.beq vs.length fn.nparams with
  | false => rw [hb, cond_false] at h; cases h
  | true =>
    rw [hb, cond_true] at h
    obtain ⟨ex, st1, τ1, h1, h2⟩ := execK_le hle N _ h
    cases ex with
    | exit id => cases h2
    | normal =>
      obtain ⟨v, h3, h4⟩ := someK_some h2
      exact ⟨v, st1.hp, τ1, by simp only [callDef, hb, cond_true, h1, h3], h4⟩
    | ret =>
      obtain ⟨v, h3, h4⟩ := someK_some h2
      exact ⟨v, st1.hp, τ1, by simp only [callDef, hb, cond_true, h1, h3], h4⟩
end

/-- a printed function is one of the program's, or one that is known by what it answers -/
def TabOk (prog : Nat → Option Def) (N : Nat) (tab : Nat → CallK → List V → Heap → Tape → KV → Ans) : Prop :=
  ∀ f cK vs H τ k r, tab f cK vs H τ k = some r → (∃ fn, prog f = some (.fn fn) ∧ funK cK N fn vs H τ k = some r) ∨ (∃ p, prog f = some (.prim p) ∧ effK (p vs H τ) k = some r)

theorem callK_le {prog : Nat → Option Def} {N : Nat} {tab : Nat → CallK → List V → Heap → Tape → KV → Ans} (ht : TabOk prog N tab) : ∀ d, Le (callK tab d) (call prog N d) := by
  intro d
  induction d with
  | zero => intro f vs H τ k r h; cases h
  | succ d ih =>
    intro f vs H τ k r h
    rcases ht f _ vs H τ k r h with ⟨fn, h1, h2⟩ | ⟨p, h1, h2⟩
    · obtain ⟨v, H', τ', h3, h4⟩ := funK_le ih h2
      exact ⟨v, H', τ', by simp only [call, h1]; exact h3, h4⟩
    · obtain ⟨v, H', τ', h3, h4⟩ := effK_some h2
      exact ⟨v, H', τ', by simp only [call, h1, callDef]; exact h3, h4⟩
end Go.Am
