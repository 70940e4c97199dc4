/- The seat's program follows mixed orders; which of its functions have bodies. -/
import Derived.Test.YtedebapgmfnflaaRows
import Derived.Test.YtedebapgmfnflaaG6
namespace Go.Proofs.Ytedebapgmfnflaa
open Go

theorem mixedG : Try.prog.follows .mixedOrders = true := by kernel_rfl

/-- A call enters the function. -/
def entersB (P : Program) (f : FuncId) : Bool :=
  match P.funcs[f]? with
  | some fn => fn.body.isSome && fn.name != "runtime.NumGoroutine"
  | none => false

theorem fnW_of {P : Program} {f : FuncId} {args : Array Value} {w : World} {K : VPost} (he : entersB P f = true) (h : Calls P f args w (retK K)) : fnW P f args w K := by
  unfold entersB at he
  unfold fnW callFunc
  cases hf : P.funcs[f]? with
  | none => simp [hf] at he
  | some fn =>
    simp only [hf, Bool.and_eq_true, bne_iff_ne, ne_eq] at he
    obtain ⟨h1, h2⟩ := he
    have h3 : fn.body.isNone = false := by cases hb : fn.body <;> simp [hb] at h1 ⊢
    simp only [Sem.run_bind, Go.program, Sem.run, Result.andThen_ok, hf, beq_iff_eq, h2, if_false, h3, Bool.false_eq_true, Sem.run_pure]
    exact h
end Go.Proofs.Ytedebapgmfnflaa
