/- Closed facts of the row FileCuts, part 3. -/
import Derived.Test.YtaopiefbejajkaaFactsP
set_option linter.unusedSimpArgs false
set_option linter.unusedVariables false
namespace Go.Proofs.Ytaopiefbejajkaa.fileCuts
open Go
theorem fact17 : Fact17 Try.prog 11 Try.f11 Rows.fileCutsSpec Rows.fileCutsRow = true := by kernel_rfl
theorem fact18 : Fact18 Try.prog 11 Try.f11 Rows.fileCutsSpec Rows.fileCutsRow = true := by kernel_rfl
theorem fact19 : Fact19 Try.prog 11 Try.f11 Rows.fileCutsSpec Rows.fileCutsRow = true := by kernel_rfl
theorem fact20 : Fact20 Try.prog 11 Try.f11 Rows.fileCutsSpec Rows.fileCutsRow = true := by kernel_rfl
theorem fact21 : Fact21 Try.prog 11 Try.f11 Rows.fileCutsSpec Rows.fileCutsRow = true := by kernel_rfl
theorem fact22 : Fact22 Try.prog 11 Try.f11 Rows.fileCutsSpec Rows.fileCutsRow = true := by kernel_rfl
end Go.Proofs.Ytaopiefbejajkaa.fileCuts
