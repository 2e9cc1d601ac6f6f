/- Who spends an output of it has another number. -/
import Derived.Test.YtaopiefbejajkaaIdxR
set_option linter.unusedSimpArgs false
set_option linter.unusedVariables false
namespace Go.Proofs.Ytaopiefbejajkaa
theorem un9 : ∀ n : Nat, n < 26 → idS (uL tl9 n 0) ≠ tl9 := by decide +kernel
theorem vn9 : ∀ n : Nat, n < 9 → idS (uL tl9 n 5) ≠ tl9 := by decide +kernel
theorem un10 : ∀ n : Nat, n < 26 → idS (uL tl10 n 0) ≠ tl10 := by decide +kernel
theorem vn10 : ∀ n : Nat, n < 10 → idS (uL tl10 n 5) ≠ tl10 := by decide +kernel
theorem un11 : ∀ n : Nat, n < 26 → idS (uL tl11 n 0) ≠ tl11 := by decide +kernel
theorem vn11 : ∀ n : Nat, n < 11 → idS (uL tl11 n 5) ≠ tl11 := by decide +kernel
theorem un12 : ∀ n : Nat, n < 26 → idS (uL tl12 n 0) ≠ tl12 := by decide +kernel
theorem vn12 : ∀ n : Nat, n < 12 → idS (uL tl12 n 5) ≠ tl12 := by decide +kernel
theorem un13 : ∀ n : Nat, n < 26 → idS (uL tl13 n 0) ≠ tl13 := by decide +kernel
theorem vn13 : ∀ n : Nat, n < 13 → idS (uL tl13 n 5) ≠ tl13 := by decide +kernel
theorem un14 : ∀ n : Nat, n < 26 → idS (uL tl14 n 0) ≠ tl14 := by decide +kernel
theorem vn14 : ∀ n : Nat, n < 14 → idS (uL tl14 n 5) ≠ tl14 := by decide +kernel
end Go.Proofs.Ytaopiefbejajkaa
