/- Closed facts of the row NotifyPairs, part 1. -/
import Derived.Test.YtlkojkjeklblkaaGreatFactsP
set_option linter.unusedSimpArgs false
set_option linter.unusedVariables false
namespace Go.Proofs.YtlkojkjeklblkaaGreat.notifyPairs
open Go
theorem fact0 : Fact0 Tryz.prog 4 Tryz.f4 Rows.notifyPairsSpec Rows.notifyPairsRow = true := by kernel_rfl
theorem fact3 : Fact3 Tryz.prog 4 Tryz.f4 Rows.notifyPairsSpec Rows.notifyPairsRow = true := by kernel_rfl
theorem fact4 : Fact4 Tryz.prog 4 Tryz.f4 Rows.notifyPairsSpec Rows.notifyPairsRow = true := by kernel_rfl
theorem fact5 : Fact5 Tryz.prog 4 Tryz.f4 Rows.notifyPairsSpec Rows.notifyPairsRow = true := by kernel_rfl
theorem fact7 : Fact7 Tryz.prog 4 Tryz.f4 Rows.notifyPairsSpec Rows.notifyPairsRow = true := by kernel_rfl
theorem fact9 : Fact9 Tryz.prog 4 Tryz.f4 Rows.notifyPairsSpec Rows.notifyPairsRow = true := by kernel_rfl
end Go.Proofs.YtlkojkjeklblkaaGreat.notifyPairs
