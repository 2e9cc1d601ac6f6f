/- Who spends an output of it has another number. -/
import Derived.Test.YtaopiefbejajkaaIdxR
set_option linter.unusedSimpArgs false
set_option linter.unusedVariables false
namespace Go.Proofs.Ytaopiefbejajkaa
theorem un0 : ∀ n : Nat, n < 26 → idS (uL tl0 n 0) ≠ tl0 := by decide +kernel
theorem vn0 : ∀ n : Nat, n < 0 → idS (uL tl0 n 5) ≠ tl0 := by decide +kernel
theorem un1 : ∀ n : Nat, n < 26 → idS (uL tl1 n 0) ≠ tl1 := by decide +kernel
theorem vn1 : ∀ n : Nat, n < 1 → idS (uL tl1 n 5) ≠ tl1 := by decide +kernel
theorem un2 : ∀ n : Nat, n < 26 → idS (uL tl2 n 0) ≠ tl2 := by decide +kernel
theorem vn2 : ∀ n : Nat, n < 2 → idS (uL tl2 n 5) ≠ tl2 := by decide +kernel
theorem un3 : ∀ n : Nat, n < 26 → idS (uL tl3 n 0) ≠ tl3 := by decide +kernel
theorem vn3 : ∀ n : Nat, n < 3 → idS (uL tl3 n 5) ≠ tl3 := by decide +kernel
theorem un4 : ∀ n : Nat, n < 26 → idS (uL tl4 n 0) ≠ tl4 := by decide +kernel
theorem vn4 : ∀ n : Nat, n < 4 → idS (uL tl4 n 5) ≠ tl4 := by decide +kernel
theorem un5 : ∀ n : Nat, n < 26 → idS (uL tl5 n 0) ≠ tl5 := by decide +kernel
theorem vn5 : ∀ n : Nat, n < 5 → idS (uL tl5 n 5) ≠ tl5 := by decide +kernel
theorem un6 : ∀ n : Nat, n < 26 → idS (uL tl6 n 0) ≠ tl6 := by decide +kernel
theorem vn6 : ∀ n : Nat, n < 6 → idS (uL tl6 n 5) ≠ tl6 := by decide +kernel
theorem un7 : ∀ n : Nat, n < 26 → idS (uL tl7 n 0) ≠ tl7 := by decide +kernel
theorem vn7 : ∀ n : Nat, n < 7 → idS (uL tl7 n 5) ≠ tl7 := by decide +kernel
theorem un8 : ∀ n : Nat, n < 26 → idS (uL tl8 n 0) ≠ tl8 := by decide +kernel
theorem vn8 : ∀ n : Nat, n < 8 → idS (uL tl8 n 5) ≠ tl8 := by decide +kernel
end Go.Proofs.Ytaopiefbejajkaa
