/- Closed facts of the row NotifyPairs, part 4. -/
import Derived.Test.YtlkojkjeklblkaaGreatFactsP
set_option linter.unusedSimpArgs false
set_option linter.unusedVariables false
namespace Go.Proofs.YtlkojkjeklblkaaGreat.notifyPairs
open Go
theorem fact23 : Fact23 Tryz.prog 4 Tryz.f4 Rows.notifyPairsSpec Rows.notifyPairsRow = true := by kernel_rfl
theorem fact26 : Fact26 Tryz.prog 4 Tryz.f4 Rows.notifyPairsSpec Rows.notifyPairsRow = true := by kernel_rfl
theorem fact27 : Fact27 Tryz.prog 4 Tryz.f4 Rows.notifyPairsSpec Rows.notifyPairsRow = true := by kernel_rfl
theorem fact28 : Fact28 Tryz.prog 4 Tryz.f4 Rows.notifyPairsSpec Rows.notifyPairsRow = true := by kernel_rfl
theorem fact29 : Fact29 Tryz.prog 4 Tryz.f4 Rows.notifyPairsSpec Rows.notifyPairsRow = true := by kernel_rfl
theorem fact30 : Fact30 Tryz.prog 4 Tryz.f4 Rows.notifyPairsSpec Rows.notifyPairsRow = true := by kernel_rfl
theorem fact31 : Fact31 Tryz.prog 4 Tryz.f4 Rows.notifyPairsSpec Rows.notifyPairsRow = true := by kernel_rfl
end Go.Proofs.YtlkojkjeklblkaaGreat.notifyPairs
