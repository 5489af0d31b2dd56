import Derived.Test.YtflnhihdbhjlnaaRows
import Derived.JoinedOf
import Derived.KernelRfl
/-! Closed facts of the program. -/
set_option linter.unusedVariables false
set_option linter.unusedSimpArgs false
namespace Go.Dn
open Go Go.Proofs
theorem Fx.rowed : mapsRowed Try.prog = true := by kernel_rfl
theorem Fx.heard : Try.prog.stopsHeard = true := by kernel_rfl
theorem Fx.keys : (Go.Proofs.Ytflnhihdbhjlnaa.Rows.usagePartsRow.plainKeys == Try.prog.plainKeys) = true := by kernel_rfl
end Go.Dn
