import Derived.Test.YtflnhihdbhjlnaaXOrd1
section
/-! From a contract to 'Calls'. -/
set_option linter.unusedVariables false
set_option linter.unusedSimpArgs false
namespace Go.Dn
open Go
attribute [local semireducible] wCall wNext callW
theorem calls_of {P : Program} {f : FuncId} {fn : Func} {args : List Value} {w : World} {R : Value → World → Prop} (hf : P.funcs[f]? = some fn) (hname : (fn.name == "runtime.NumGoroutine") = false) (hb : fn.body.isNone = false) (h : wCall P f args w R) :
    Calls P f ⟨args⟩ w fun e w' => ∃ v, e = .returned v ∧ R v w' := by
  unfold wCall wNext callFunc at h
  simp only [program, Sem.run_bind, Sem.run, Result.andThen_ok, hf, hname, hb, Bool.false_eq_true, if_false] at h
  unfold callW at h
  refine Calls.mono h fun e w' he => ?_
  cases e <;> first | exact ⟨_, rfl, he⟩ | exact he.elim
end Go.Dn
end
