/- Closed facts of the row WalCrash, part 4. -/
import Derived.Test.YtkiindgcbpkddaaFactsP
set_option linter.unusedSimpArgs false
set_option linter.unusedVariables false
namespace Go.Proofs.Ytkiindgcbpkddaa.walCrash
open Go
theorem fact23 : Fact23 Try.prog 12 Try.f12 Rows.walCrashSpec Rows.walCrashRow = true := by kernel_rfl
theorem fact26 : Fact26 Try.prog 12 Try.f12 Rows.walCrashSpec Rows.walCrashRow = true := by kernel_rfl
theorem fact27 : Fact27 Try.prog 12 Try.f12 Rows.walCrashSpec Rows.walCrashRow = true := by kernel_rfl
theorem fact28 : Fact28 Try.prog 12 Try.f12 Rows.walCrashSpec Rows.walCrashRow = true := by kernel_rfl
theorem fact29 : Fact29 Try.prog 12 Try.f12 Rows.walCrashSpec Rows.walCrashRow = true := by kernel_rfl
theorem fact30 : Fact30 Try.prog 12 Try.f12 Rows.walCrashSpec Rows.walCrashRow = true := by kernel_rfl
theorem fact31 : Fact31 Try.prog 12 Try.f12 Rows.walCrashSpec Rows.walCrashRow = true := by kernel_rfl
end Go.Proofs.Ytkiindgcbpkddaa.walCrash
