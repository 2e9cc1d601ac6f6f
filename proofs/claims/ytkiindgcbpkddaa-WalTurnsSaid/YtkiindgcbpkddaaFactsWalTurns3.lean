/- Closed facts of the row WalTurns, part 3. -/
import Derived.Test.YtkiindgcbpkddaaFactsP
set_option linter.unusedSimpArgs false
set_option linter.unusedVariables false
namespace Go.Proofs.Ytkiindgcbpkddaa.walTurns
open Go
theorem fact17 : Fact17 Try.prog 9 Try.f9 Rows.walTurnsSpec Rows.walTurnsRow = true := by kernel_rfl
theorem fact18 : Fact18 Try.prog 9 Try.f9 Rows.walTurnsSpec Rows.walTurnsRow = true := by kernel_rfl
theorem fact19 : Fact19 Try.prog 9 Try.f9 Rows.walTurnsSpec Rows.walTurnsRow = true := by kernel_rfl
theorem fact20 : Fact20 Try.prog 9 Try.f9 Rows.walTurnsSpec Rows.walTurnsRow = true := by kernel_rfl
theorem fact21 : Fact21 Try.prog 9 Try.f9 Rows.walTurnsSpec Rows.walTurnsRow = true := by kernel_rfl
theorem fact22 : Fact22 Try.prog 9 Try.f9 Rows.walTurnsSpec Rows.walTurnsRow = true := by kernel_rfl
end Go.Proofs.Ytkiindgcbpkddaa.walTurns
