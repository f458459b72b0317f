/- StmtNil: its plain function says true of every number. No condition. -/
import Derived.Test.YtogfofcocidmkaaEvPl
import Derived.KernelRfl
set_option linter.unusedVariables false
namespace Go.Proofs.Ytogfofcocidmkaa.stmtNil
open Go.RowKit
theorem pure_holds (a0 : Int) (h : (Lit.int .i64 a0).wf = true) : Ev.s11 a0 = some true := by kernel_rfl
end Go.Proofs.Ytogfofcocidmkaa.stmtNil
