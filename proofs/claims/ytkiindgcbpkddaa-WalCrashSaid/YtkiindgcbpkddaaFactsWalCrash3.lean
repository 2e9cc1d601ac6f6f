/- Closed facts of the row WalCrash, part 3. -/
import Derived.Test.YtkiindgcbpkddaaFactsP
set_option linter.unusedSimpArgs false
set_option linter.unusedVariables false
namespace Go.Proofs.Ytkiindgcbpkddaa.walCrash
open Go
theorem fact17 : Fact17 Try.prog 12 Try.f12 Rows.walCrashSpec Rows.walCrashRow = true := by kernel_rfl
theorem fact18 : Fact18 Try.prog 12 Try.f12 Rows.walCrashSpec Rows.walCrashRow = true := by kernel_rfl
theorem fact19 : Fact19 Try.prog 12 Try.f12 Rows.walCrashSpec Rows.walCrashRow = true := by kernel_rfl
theorem fact20 : Fact20 Try.prog 12 Try.f12 Rows.walCrashSpec Rows.walCrashRow = true := by kernel_rfl
theorem fact21 : Fact21 Try.prog 12 Try.f12 Rows.walCrashSpec Rows.walCrashRow = true := by kernel_rfl
theorem fact22 : Fact22 Try.prog 12 Try.f12 Rows.walCrashSpec Rows.walCrashRow = true := by kernel_rfl
end Go.Proofs.Ytkiindgcbpkddaa.walCrash
