/- Closed facts of the row WalCrash, part 2. -/
import Derived.Test.YtkiindgcbpkddaaFactsP
set_option linter.unusedSimpArgs false
set_option linter.unusedVariables false
namespace Go.Proofs.Ytkiindgcbpkddaa.walCrash
open Go
theorem fact10 : Fact10 Try.prog 12 Try.f12 Rows.walCrashSpec Rows.walCrashRow = true := by kernel_rfl
theorem fact11 : Fact11 Try.prog 12 Try.f12 Rows.walCrashSpec Rows.walCrashRow = true := by kernel_rfl
theorem fact12 : Fact12 Try.prog 12 Try.f12 Rows.walCrashSpec Rows.walCrashRow = true := by kernel_rfl
theorem fact13 : Fact13 Try.prog 12 Try.f12 Rows.walCrashSpec Rows.walCrashRow = true := by kernel_rfl
theorem fact14 : Fact14 Try.prog 12 Try.f12 Rows.walCrashSpec Rows.walCrashRow = true := by kernel_rfl
theorem fact15 : Fact15 Try.prog 12 Try.f12 Rows.walCrashSpec Rows.walCrashRow = true := by kernel_rfl
theorem fact16 : Fact16 Try.prog 12 Try.f12 Rows.walCrashSpec Rows.walCrashRow = true := by kernel_rfl
end Go.Proofs.Ytkiindgcbpkddaa.walCrash
