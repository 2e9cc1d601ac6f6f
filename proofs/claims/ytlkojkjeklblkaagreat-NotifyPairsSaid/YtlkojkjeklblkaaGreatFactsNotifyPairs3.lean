/- Closed facts of the row NotifyPairs, part 3. -/
import Derived.Test.YtlkojkjeklblkaaGreatFactsP
set_option linter.unusedSimpArgs false
set_option linter.unusedVariables false
namespace Go.Proofs.YtlkojkjeklblkaaGreat.notifyPairs
open Go
theorem fact17 : Fact17 Tryz.prog 4 Tryz.f4 Rows.notifyPairsSpec Rows.notifyPairsRow = true := by kernel_rfl
theorem fact18 : Fact18 Tryz.prog 4 Tryz.f4 Rows.notifyPairsSpec Rows.notifyPairsRow = true := by kernel_rfl
theorem fact19 : Fact19 Tryz.prog 4 Tryz.f4 Rows.notifyPairsSpec Rows.notifyPairsRow = true := by kernel_rfl
theorem fact20 : Fact20 Tryz.prog 4 Tryz.f4 Rows.notifyPairsSpec Rows.notifyPairsRow = true := by kernel_rfl
theorem fact21 : Fact21 Tryz.prog 4 Tryz.f4 Rows.notifyPairsSpec Rows.notifyPairsRow = true := by kernel_rfl
theorem fact22 : Fact22 Tryz.prog 4 Tryz.f4 Rows.notifyPairsSpec Rows.notifyPairsRow = true := by kernel_rfl
end Go.Proofs.YtlkojkjeklblkaaGreat.notifyPairs
