/- Closed facts of the row WalReset, part 3. -/
import Derived.Test.YtkiindgcbpkddaaFactsP
set_option linter.unusedSimpArgs false
set_option linter.unusedVariables false
namespace Go.Proofs.Ytkiindgcbpkddaa.walReset
open Go
theorem fact17 : Fact17 Try.prog 11 Try.f11 Rows.walResetSpec Rows.walResetRow = true := by kernel_rfl
theorem fact18 : Fact18 Try.prog 11 Try.f11 Rows.walResetSpec Rows.walResetRow = true := by kernel_rfl
theorem fact19 : Fact19 Try.prog 11 Try.f11 Rows.walResetSpec Rows.walResetRow = true := by kernel_rfl
theorem fact20 : Fact20 Try.prog 11 Try.f11 Rows.walResetSpec Rows.walResetRow = true := by kernel_rfl
theorem fact21 : Fact21 Try.prog 11 Try.f11 Rows.walResetSpec Rows.walResetRow = true := by kernel_rfl
theorem fact22 : Fact22 Try.prog 11 Try.f11 Rows.walResetSpec Rows.walResetRow = true := by kernel_rfl
end Go.Proofs.Ytkiindgcbpkddaa.walReset
