/-
  THE ABSTRACT MACHINE 'Am', twenty-ninth part: a run that the kernel reckons.
-/
import Derived.KernelRfl
import Derived.Test.YtpfaceclaigpgaaDoorAm26
import Derived.Test.YtpfaceclaigpgaaDoorAm28
namespace Go.Am
def doneA : Ans := some (.bool true, ⟨0, .leaf, .leaf⟩, fun _ => 0)

theorem run_true {E : T Ent} {F : T Def} {N d f : Nat} {vs : List V} {H : Heap} (ht : TabOk F.get N (tabOf E N))
    (h : (fun τ => callK (tabOf E N) d f vs H τ trueK) = fun _ => doneA) : ∀ τ, isTrue (call F.get N d f vs H τ) = true := by
  intro τ
  have h1 : callK (tabOf E N) d f vs H τ trueK = doneA := congrFun h τ
  obtain ⟨v, H', τ', h2, h3⟩ := callK_le ht d f vs H τ trueK _ h1
  obtain rfl := trueK_some h3
  rw [h2]
  rfl

/-- a function of the model's, and its code as it is printed -/
theorem fnOk {P : Program} {f : FuncId} {fn : Fun} (g : Func) (code : Code) (hg : P.funcs[f]? = some g) (hb : g.body = some code) (hp : plainCall P f = true) (ht : fn.body.strip = trCode P g.ntmps code) (hr : fn.res = g.results.toList.map (trRes P)) (hk : g.results.toList.all (resOk P) = true) : FnOk P f fn :=
  ⟨g, code, hg, hb, hp, tr_of_strip _ _ ht, hr, hk⟩

theorem defs_ok {P : Program} {base : Nat} {w0 : World} {F : T Def} (h : T.All (fun f d => DefOk P base w0 f d) F (fun k => k)) : ∀ f d, F.get f = some d → DefOk P base w0 f d := fun _ _ hg => T.All_get h hg
end Go.Am
