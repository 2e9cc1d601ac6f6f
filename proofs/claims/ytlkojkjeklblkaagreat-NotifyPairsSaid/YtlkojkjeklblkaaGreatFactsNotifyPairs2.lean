/- Closed facts of the row NotifyPairs, part 2. -/
import Derived.Test.YtlkojkjeklblkaaGreatFactsP
set_option linter.unusedSimpArgs false
set_option linter.unusedVariables false
namespace Go.Proofs.YtlkojkjeklblkaaGreat.notifyPairs
open Go
theorem fact10 : Fact10 Tryz.prog 4 Tryz.f4 Rows.notifyPairsSpec Rows.notifyPairsRow = true := by kernel_rfl
theorem fact11 : Fact11 Tryz.prog 4 Tryz.f4 Rows.notifyPairsSpec Rows.notifyPairsRow = true := by kernel_rfl
theorem fact12 : Fact12 Tryz.prog 4 Tryz.f4 Rows.notifyPairsSpec Rows.notifyPairsRow = true := by kernel_rfl
theorem fact13 : Fact13 Tryz.prog 4 Tryz.f4 Rows.notifyPairsSpec Rows.notifyPairsRow = true := by kernel_rfl
theorem fact14 : Fact14 Tryz.prog 4 Tryz.f4 Rows.notifyPairsSpec Rows.notifyPairsRow = true := by kernel_rfl
theorem fact15 : Fact15 Tryz.prog 4 Tryz.f4 Rows.notifyPairsSpec Rows.notifyPairsRow = true := by kernel_rfl
theorem fact16 : Fact16 Tryz.prog 4 Tryz.f4 Rows.notifyPairsSpec Rows.notifyPairsRow = true := by kernel_rfl
end Go.Proofs.YtlkojkjeklblkaaGreat.notifyPairs
