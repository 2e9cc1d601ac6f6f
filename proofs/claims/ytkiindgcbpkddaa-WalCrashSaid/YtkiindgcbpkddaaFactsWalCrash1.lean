/- Closed facts of the row WalCrash, part 1. -/
import Derived.Test.YtkiindgcbpkddaaFactsP
set_option linter.unusedSimpArgs false
set_option linter.unusedVariables false
namespace Go.Proofs.Ytkiindgcbpkddaa.walCrash
open Go
theorem fact0 : Fact0 Try.prog 12 Try.f12 Rows.walCrashSpec Rows.walCrashRow = true := by kernel_rfl
theorem fact3 : Fact3 Try.prog 12 Try.f12 Rows.walCrashSpec Rows.walCrashRow = true := by kernel_rfl
theorem fact4 : Fact4 Try.prog 12 Try.f12 Rows.walCrashSpec Rows.walCrashRow = true := by kernel_rfl
theorem fact5 : Fact5 Try.prog 12 Try.f12 Rows.walCrashSpec Rows.walCrashRow = true := by kernel_rfl
theorem fact7 : Fact7 Try.prog 12 Try.f12 Rows.walCrashSpec Rows.walCrashRow = true := by kernel_rfl
theorem fact9 : Fact9 Try.prog 12 Try.f12 Rows.walCrashSpec Rows.walCrashRow = true := by kernel_rfl
end Go.Proofs.Ytkiindgcbpkddaa.walCrash
