/- Closed facts of the row NotifyDepth, part 1. -/
import Derived.Test.YtlkojkjeklblkaaGreatFactsP
set_option linter.unusedSimpArgs false
set_option linter.unusedVariables false
namespace Go.Proofs.YtlkojkjeklblkaaGreat.notifyDepth
open Go
theorem fact0 : Fact0 Tryz.prog 5 Tryz.f5 Rows.notifyDepthSpec Rows.notifyDepthRow = true := by kernel_rfl
theorem fact3 : Fact3 Tryz.prog 5 Tryz.f5 Rows.notifyDepthSpec Rows.notifyDepthRow = true := by kernel_rfl
theorem fact4 : Fact4 Tryz.prog 5 Tryz.f5 Rows.notifyDepthSpec Rows.notifyDepthRow = true := by kernel_rfl
theorem fact5 : Fact5 Tryz.prog 5 Tryz.f5 Rows.notifyDepthSpec Rows.notifyDepthRow = true := by kernel_rfl
theorem fact7 : Fact7 Tryz.prog 5 Tryz.f5 Rows.notifyDepthSpec Rows.notifyDepthRow = true := by kernel_rfl
theorem fact9 : Fact9 Tryz.prog 5 Tryz.f5 Rows.notifyDepthSpec Rows.notifyDepthRow = true := by kernel_rfl
end Go.Proofs.YtlkojkjeklblkaaGreat.notifyDepth
