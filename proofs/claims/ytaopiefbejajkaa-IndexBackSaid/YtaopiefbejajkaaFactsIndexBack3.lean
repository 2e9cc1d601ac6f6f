/- Closed facts of the row IndexBack, part 3. -/
import Derived.Test.YtaopiefbejajkaaFactsP
set_option linter.unusedSimpArgs false
set_option linter.unusedVariables false
namespace Go.Proofs.Ytaopiefbejajkaa.indexBack
open Go
theorem fact17 : Fact17 Try.prog 6 Try.f6 Rows.indexBackSpec Rows.indexBackRow = true := by kernel_rfl
theorem fact18 : Fact18 Try.prog 6 Try.f6 Rows.indexBackSpec Rows.indexBackRow = true := by kernel_rfl
theorem fact19 : Fact19 Try.prog 6 Try.f6 Rows.indexBackSpec Rows.indexBackRow = true := by kernel_rfl
theorem fact20 : Fact20 Try.prog 6 Try.f6 Rows.indexBackSpec Rows.indexBackRow = true := by kernel_rfl
theorem fact21 : Fact21 Try.prog 6 Try.f6 Rows.indexBackSpec Rows.indexBackRow = true := by kernel_rfl
theorem fact22 : Fact22 Try.prog 6 Try.f6 Rows.indexBackSpec Rows.indexBackRow = true := by kernel_rfl
end Go.Proofs.Ytaopiefbejajkaa.indexBack
