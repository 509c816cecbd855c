/- Limits in seats that do not reach names. No statement of the seat is proved here. -/
import Derived.Test.YtdkknknebehkgaaEngW
import Derived.Test.YtdkknknebehkgaaProg
namespace Go.Proofs.Ytdkknknebehkgaa
set_option linter.unusedVariables false
set_option linter.unusedSimpArgs false
open Go Go.RowKit
theorem mixed : Try.prog.follows .mixedOrders = true := by kernel_rfl
theorem flat_Limits : flatT Try.prog 9 33 = some [0, 0] := by kernel_rfl
end Go.Proofs.Ytdkknknebehkgaa
