import Derived.Test.YtflnhihdbhjlnaaRows
import Derived.JoinedOf
import Derived.KernelRfl
/-! Closed facts of the program. -/
set_option linter.unusedVariables false
set_option linter.unusedSimpArgs false
namespace Go.Dn
open Go Go.Proofs
theorem Fx.laid : laidOutB Try.prog = true := by kernel_rfl
theorem Fx.stops : (Try.prog.stops == []) = true := by kernel_rfl
theorem Fx.stopKnobs : (Try.prog.stopKnobs == []) = true := by kernel_rfl
theorem Fx.own : ownKnob Try.prog.godebug = none := by kernel_rfl
end Go.Dn
