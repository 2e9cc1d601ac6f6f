/- The closed facts of the row TxLimits. -/
import Derived.Test.YtpkbohhecmdonaaFactsP
namespace Go.Proofs.Ytpkbohhecmdonaa.txLimits
open Go
theorem fact0 : Fact0 Try.prog 6 Try.f6 Rows.txLimitsSpec Rows.txLimitsRow = true := by kernel_rfl
theorem fact3 : Fact3 Try.prog 6 Try.f6 Rows.txLimitsSpec Rows.txLimitsRow = true := by kernel_rfl
theorem fact4 : Fact4 Try.prog 6 Try.f6 Rows.txLimitsSpec Rows.txLimitsRow = true := by kernel_rfl
theorem fact5 : Fact5 Try.prog 6 Try.f6 Rows.txLimitsSpec Rows.txLimitsRow = true := by kernel_rfl
theorem fact7 : Fact7 Try.prog 6 Try.f6 Rows.txLimitsSpec Rows.txLimitsRow = true := by kernel_rfl
theorem fact9 : Fact9 Try.prog 6 Try.f6 Rows.txLimitsSpec Rows.txLimitsRow = true := by kernel_rfl
theorem fact10 : Fact10 Try.prog 6 Try.f6 Rows.txLimitsSpec Rows.txLimitsRow = true := by kernel_rfl
theorem fact11 : Fact11 Try.prog 6 Try.f6 Rows.txLimitsSpec Rows.txLimitsRow = true := by kernel_rfl
theorem fact12 : Fact12 Try.prog 6 Try.f6 Rows.txLimitsSpec Rows.txLimitsRow = true := by kernel_rfl
theorem fact13 : Fact13 Try.prog 6 Try.f6 Rows.txLimitsSpec Rows.txLimitsRow = true := by kernel_rfl
theorem fact14 : Fact14 Try.prog 6 Try.f6 Rows.txLimitsSpec Rows.txLimitsRow = true := by kernel_rfl
theorem fact15 : Fact15 Try.prog 6 Try.f6 Rows.txLimitsSpec Rows.txLimitsRow = true := by kernel_rfl
theorem fact16 : Fact16 Try.prog 6 Try.f6 Rows.txLimitsSpec Rows.txLimitsRow = true := by kernel_rfl
theorem fact17 : Fact17 Try.prog 6 Try.f6 Rows.txLimitsSpec Rows.txLimitsRow = true := by kernel_rfl
theorem fact18 : Fact18 Try.prog 6 Try.f6 Rows.txLimitsSpec Rows.txLimitsRow = true := by kernel_rfl
theorem fact19 : Fact19 Try.prog 6 Try.f6 Rows.txLimitsSpec Rows.txLimitsRow = true := by kernel_rfl
theorem fact20 : Fact20 Try.prog 6 Try.f6 Rows.txLimitsSpec Rows.txLimitsRow = true := by kernel_rfl
theorem fact21 : Fact21 Try.prog 6 Try.f6 Rows.txLimitsSpec Rows.txLimitsRow = true := by kernel_rfl
theorem fact22 : Fact22 Try.prog 6 Try.f6 Rows.txLimitsSpec Rows.txLimitsRow = true := by kernel_rfl
theorem fact23 : Fact23 Try.prog 6 Try.f6 Rows.txLimitsSpec Rows.txLimitsRow = true := by kernel_rfl
theorem fact26 : Fact26 Try.prog 6 Try.f6 Rows.txLimitsSpec Rows.txLimitsRow = true := by kernel_rfl
theorem fact27 : Fact27 Try.prog 6 Try.f6 Rows.txLimitsSpec Rows.txLimitsRow = true := by kernel_rfl
theorem fact28 : Fact28 Try.prog 6 Try.f6 Rows.txLimitsSpec Rows.txLimitsRow = true := by kernel_rfl
theorem fact29 : Fact29 Try.prog 6 Try.f6 Rows.txLimitsSpec Rows.txLimitsRow = true := by kernel_rfl
theorem fact30 : Fact30 Try.prog 6 Try.f6 Rows.txLimitsSpec Rows.txLimitsRow = true := by kernel_rfl
theorem fact31 : Fact31 Try.prog 6 Try.f6 Rows.txLimitsSpec Rows.txLimitsRow = true := by kernel_rfl
theorem joined : joinedFacts Try.prog 6 Try.f6 Rows.txLimitsSpec Rows.txLimitsRow = true :=
  joined_of _ _ _ _ _ fact0 factP1 factP2 fact3 fact4 fact5 factP6 fact7 factP8 fact9 fact10 fact11 fact12 fact13 fact14 fact15 fact16 fact17 fact18 fact19 fact20 fact21 fact22 fact23 factP24 factP25 fact26 fact27 fact28 fact29 fact30 fact31
end Go.Proofs.Ytpkbohhecmdonaa.txLimits
