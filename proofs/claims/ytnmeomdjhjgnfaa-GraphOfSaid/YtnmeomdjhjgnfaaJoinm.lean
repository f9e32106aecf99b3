/- One closed fact of the whole program. -/
import Derived.Test.YtnmeomdjhjgnfaaRows
import Derived.Test.YtnmeomdjhjgnfaaChecked
import Derived.JoinedOf
set_option linter.unusedSimpArgs false
set_option linter.unusedVariables false
namespace Go.Proofs.Ytnmeomdjhjgnfaa
set_option maxRecDepth 100000 in
theorem J_mayEnter : Try.checked.prog.mayEnter = true := by kernel_rfl
end Go.Proofs.Ytnmeomdjhjgnfaa
