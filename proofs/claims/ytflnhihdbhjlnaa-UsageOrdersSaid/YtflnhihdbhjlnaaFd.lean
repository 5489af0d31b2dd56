import Derived.Test.YtflnhihdbhjlnaaRows
import Derived.JoinedOf
import Derived.KernelRfl
/-! Closed facts of the program. -/
set_option linter.unusedVariables false
set_option linter.unusedSimpArgs false
namespace Go.Dn
open Go Go.Proofs
theorem Fx.lifts : (Go.Proofs.Ytflnhihdbhjlnaa.Rows.usagePartsRow.lifted == Try.prog.liftsFinal) = true := by kernel_rfl
end Go.Dn
