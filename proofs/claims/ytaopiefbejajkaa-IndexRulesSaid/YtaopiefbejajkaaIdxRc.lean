/- Who spends an output of it has another number. -/
import Derived.Test.YtaopiefbejajkaaIdxR
set_option linter.unusedSimpArgs false
set_option linter.unusedVariables false
namespace Go.Proofs.Ytaopiefbejajkaa
theorem un15 : ∀ n : Nat, n < 26 → idS (uL tl15 n 0) ≠ tl15 := by decide +kernel
theorem vn15 : ∀ n : Nat, n < 15 → idS (uL tl15 n 5) ≠ tl15 := by decide +kernel
theorem un16 : ∀ n : Nat, n < 26 → idS (uL tl16 n 0) ≠ tl16 := by decide +kernel
theorem vn16 : ∀ n : Nat, n < 16 → idS (uL tl16 n 5) ≠ tl16 := by decide +kernel
theorem un17 : ∀ n : Nat, n < 26 → idS (uL tl17 n 0) ≠ tl17 := by decide +kernel
theorem vn17 : ∀ n : Nat, n < 17 → idS (uL tl17 n 5) ≠ tl17 := by decide +kernel
theorem un18 : ∀ n : Nat, n < 26 → idS (uL tl18 n 0) ≠ tl18 := by decide +kernel
theorem vn18 : ∀ n : Nat, n < 18 → idS (uL tl18 n 5) ≠ tl18 := by decide +kernel
theorem un19 : ∀ n : Nat, n < 26 → idS (uL tl19 n 0) ≠ tl19 := by decide +kernel
theorem vn19 : ∀ n : Nat, n < 19 → idS (uL tl19 n 5) ≠ tl19 := by decide +kernel
theorem un20 : ∀ n : Nat, n < 26 → idS (uL tl20 n 0) ≠ tl20 := by decide +kernel
theorem vn20 : ∀ n : Nat, n < 20 → idS (uL tl20 n 5) ≠ tl20 := by decide +kernel
end Go.Proofs.Ytaopiefbejajkaa
