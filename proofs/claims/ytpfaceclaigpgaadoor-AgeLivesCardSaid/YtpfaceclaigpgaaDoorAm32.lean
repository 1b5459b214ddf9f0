/-
  THE ABSTRACT MACHINE 'Am', thirty-second part: closed functions as functions that are known by what they answer; the steps of printed functions, in words of values.
-/
import Derived.Test.YtpfaceclaigpgaaDoorAm30
import Derived.Test.YtpfaceclaigpgaaDoorAm31
namespace Go.Am
open Go.RowKit (Below)

def closedP (vs : List V) (H : Heap) (τ : Tape) : Option (V × Heap × Tape) :=
  match vs with
  | [] => some (.bool true, H, τ)
  | _ => none

theorem primOk_closed {P : Program} (hm : P.follows .mixedOrders = true) {F : T Def} (hF : ∀ base w0, T.All (fun f d => DefOk P base w0 f d) F (fun k => k)) {E : T Ent} {N d f : Nat} (ht : TabOk F.get N (tabOf E N)) (hp : plainCall P f = true)
    (n : Nat) (hn : P.globals.size ≤ n) (h : (fun τ => callK (tabOf E N) d f [] (start (List.replicate n none)) τ trueK) = fun _ => doneA) (base : Nat) (w0 : World) : PrimOk P base w0 f closedP := by
  intro vs H ι w hM hG hok hn0
  refine ⟨hp, ?_⟩
  cases vs with
  | cons a l => exact absurd rfl (hn0 (fun _ => 0))
  | nil =>
    refine (call_true hm (W := w) (defs_ok (hF w.heap.size w)) N d f [] (List.replicate n none) (fun id => (id, 0)) (fun id cs hid => ?_) (fun g _ => rfl) (by simpa using hn) trivial (run_true ht h)).mono fun e w' ⟨he, hb⟩ => ?_
    · rw [List.getElem?_replicate] at hid
      split at hid <;> cases hid
    · exact ⟨.bool true, H, ι, [], by rw [he]; rfl, fun τ => rfl, hM.keep hb, Ext.refl _ _, Evol.refl _, trivial⟩

theorem run_all {E : T Ent} {F : T Def} {N d f : Nat} {vs : List V} {H : Heap} (ht : TabOk F.get N (tabOf E N)) (h : ∀ τ, callK (tabOf E N) d f vs H τ trueK = doneA) : ∀ τ, isTrue (call F.get N d f vs H τ) = true :=
  run_true ht (funext h)

/-! ### Steps -/
theorem someK_mk (v : V) (c : V → Ans) : someK (some v) c = c v := rfl
theorem effK_mk (v : V) (H : Heap) (τ : Tape) (c : KV) : effK (some (v, H, τ)) c = c v H τ := rfl
theorem condK_bool (b : Bool) (x y : Ans) : condK (.bool b) x y = bif b then x else y := by cases b <;> rfl
theorem condK_t (x y : Ans) : condK (.bool true) x y = x := rfl
theorem condK_f (x y : Ans) : condK (.bool false) x y = y := rfl
theorem effK_retK (o : Ans) : effK o retK = o := by cases o <;> rfl
theorem gK_skip (body : KV → Ans) (H : Heap) (τ : Tape) (c : KV) : gK (.bool false) true body H τ c = c (.tup []) H τ := rfl
theorem gK_skip' (body : KV → Ans) (H : Heap) (τ : Tape) (c : KV) : gK (.bool true) false body H τ c = c (.tup []) H τ := rfl
theorem gK_do (body : KV → Ans) (H : Heap) (τ : Tape) (c : KV) : gK (.bool true) true body H τ c = effK (body retK) c := rfl
theorem gK_do' (body : KV → Ans) (H : Heap) (τ : Tape) (c : KV) : gK (.bool false) false body H τ c = effK (body retK) c := rfl
theorem gK_none (w : Bool) (body : KV → Ans) (H : Heap) (τ : Tape) (c : KV) : gK (.tup []) w body H τ c = c (.tup []) H τ := rfl
theorem getK_mk {fr : T V} {i : Nat} {v : V} (h : fr.get i = some v) (c : V → Ans) : getK fr i c = c v := by simp [getK, h]
theorem retK_mk (v : V) (H : Heap) (τ : Tape) : retK v H τ = some (v, H, τ) := rfl

theorem wr_id {n : Int} (h : -9223372036854775808 ≤ n) (h' : n ≤ 9223372036854775807) : wr .i64 n = n := by
  rw [wr_eq]
  simp only [IntKind.wrap, IntKind.signed, IntKind.bits]
  simp only [Bool.true_and]
  split <;> simp_all <;> omega
theorem bin_add (k : IntKind) (x y : Int) (c : V → Ans) : binK .add (.int k x) (.int k y) c = c (.int k (wr k (x + y))) := by simp [binK, binIntK, intK, mkI_eq]
theorem bin_sub (k : IntKind) (x y : Int) (c : V → Ans) : binK .sub (.int k x) (.int k y) c = c (.int k (wr k (x - y))) := by simp [binK, binIntK, intK, mkI_eq]
theorem bin_mul (k : IntKind) (x y : Int) (c : V → Ans) : binK .mul (.int k x) (.int k y) c = c (.int k (wr k (x * y))) := by simp [binK, binIntK, intK, mkI_eq]
theorem bin_eql (k : IntKind) (x y : Int) (c : V → Ans) : binK .eql (.int k x) (.int k y) c = c (.bool (x == y)) := by simp [binK, binIntK, intK]
theorem bin_neq (k : IntKind) (x y : Int) (c : V → Ans) : binK .neq (.int k x) (.int k y) c = c (.bool (x != y)) := by simp [binK, binIntK, intK]
theorem bin_lss (k : IntKind) (x y : Int) (c : V → Ans) : binK .lss (.int k x) (.int k y) c = c (.bool (decide (x < y))) := by simp [binK, binIntK, intK]
theorem bin_leq (k : IntKind) (x y : Int) (c : V → Ans) : binK .leq (.int k x) (.int k y) c = c (.bool (decide (x ≤ y))) := by simp [binK, binIntK, intK]
theorem bin_gtr (k : IntKind) (x y : Int) (c : V → Ans) : binK .gtr (.int k x) (.int k y) c = c (.bool (decide (y < x))) := by simp [binK, binIntK, intK]
theorem bin_geq (k : IntKind) (x y : Int) (c : V → Ans) : binK .geq (.int k x) (.int k y) c = c (.bool (decide (y ≤ x))) := by simp [binK, binIntK, intK]
theorem bin_quo (k : IntKind) (x : Int) (y : Int) (hy : y ≠ 0) (c : V → Ans) : binK .quo (.int k x) (.int k y) c = c (.int k (wr k (x.tdiv y))) := by
  simp only [binK, binIntK, intK, mkI_eq, if_true]
  split
  · exact absurd rfl hy
  · rfl
theorem bin_rem (k : IntKind) (x : Int) (y : Int) (hy : y ≠ 0) (c : V → Ans) : binK .rem (.int k x) (.int k y) c = c (.int k (x.tmod y)) := by
  simp only [binK, binIntK, intK, mkI_eq, if_true]
  split
  · exact absurd rfl hy
  · rfl
theorem bin_str (b : BinOp) (x y : List UInt8) (c : V → Ans) : binK b (.str x) (.str y) c = someK (strBin b x y) c := rfl
theorem str_add {x y : List UInt8} (h : x.length + y.length ≤ 4611686018427387904) : strBin .add x y = some (.str (x ++ y)) := by
  simp only [strBin]
  rw [Nat.ble_eq_true_of_le h]
  rfl
theorem str_eql (x y : List UInt8) : strBin .eql x y = some (.bool (x == y)) := by simp [strBin, eqB_eq]
theorem str_neq (x y : List UInt8) : strBin .neq x y = some (.bool (x != y)) := by simp [strBin, eqB_eq, bne]
theorem un_not (b : Bool) (c : V → Ans) : unK .not (.bool b) c = c (.bool (!b)) := by simp [unK, unOp, someK]
theorem toInt_mk (k k' : IntKind) (n : Int) (c : V → Ans) : toIntK k (.int k' n) c = c (.int k (wr k n)) := by simp [toIntK, mkI_eq]
theorem pick_mk (b : Bool) (x y : V) : pPick [.bool b, x, y] = some (bif b then x else y) := by cases b <;> rfl
theorem lenS_mk (s : List UInt8) : pLenS [.str s] = some (.int .i64 (s.length : Int)) := rfl
theorem natOf_nat (n : Nat) : natOf (n : Int) = some n := by simp [natOf, forceN_eq]
theorem strIndex_mk {s : List UInt8} {i : Nat} {c : UInt8} (h : s[i]? = some c) : pStrIndex [.str s, .int .i64 (i : Int)] = some (.int .u8 (c.toNat : Int)) := by
  simp [pStrIndex, natOf_nat, h]

theorem loopK_succ (body : St → Tape → KC → Ans) (n : Nat) (st : St) (τ : Tape) (k : KC) : loopK body (n + 1) st τ k = body st τ (seqK (fun st τ => loopK body n st τ k) k) := rfl
end Go.Am
