/- Package coraclelaw8: what is awake. -/
import Derived.Test.YtkiindgcbpkddaaWalK
import Derived.Lib.SlBytesConst
set_option linter.unusedSimpArgs false
set_option linter.unusedVariables false
namespace Go.Proofs.Ytkiindgcbpkddaa
open Go.RowKit Go.Sort
theorem reset_nolog (w : World) : Calls Try.prog 45 #[.pointer none, .slice none 0 0] w fun e w' => e = .returned (.int .i64 7) ∧ Below w.heap.size w w' := by
  have hd := fun W : World => dead_nolog W
  have h0 : Below w.heap.size w ((w.alloc (.cells #[.pointer none] 92)).alloc (.cells #[.slice none 0 0] 102)) := ((Below.refl _ w).alloc (Nat.le_refl _) _).alloc (by simp) _
  go_enter Try.func45, Try.ntmps45
  go_wp2_with fail
  go_loop [16] (fun v => v = .int .i64 0) (fun _ => 0)
  case atStart => rfl
  case round =>
    subst hrel
    go_wp2_with (go_at_call 49; refine (hd _).mono ?_; rintro e w1 ⟨rfl, rfl⟩)
    go_ret
    exact ⟨rfl, h0⟩
end Go.Proofs.Ytkiindgcbpkddaa
