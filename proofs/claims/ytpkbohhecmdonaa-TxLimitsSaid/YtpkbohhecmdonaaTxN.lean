/- The law TxLimits, at every input. -/
import Derived.Test.YtpkbohhecmdonaaTxK
set_option linter.unusedSimpArgs false
set_option linter.unusedVariables false
namespace Go.Proofs.Ytpkbohhecmdonaa
open Go.RowKit
set_option maxRecDepth 100000 in
set_option maxHeartbeats 4000000 in
theorem limits_out (ins outs seq place lock pre : Int) (h : ins < 0 ∨ 102 < ins ∨ outs < 0 ∨ 102 < outs ∨ pre < 0 ∨ 70 < pre) (w : World) :
    Calls Try.prog 6 #[.int .i64 ins, .int .i64 outs, .int .i64 seq, .int .i64 place, .int .i64 lock, .int .i64 pre] w fun e w' => e = .returned (.bool true) ∧ Below w.heap.size w w' := by
  by_cases g1 : ins < 0
  · go_enter Try.func6, Try.ntmps6
    go_wp2_with (go_at_call 32; refine (awake5 _).mono ?_; rintro e w8 ⟨rfl, hb8⟩)
    go_ret
    exact ⟨rfl, hb8⟩
  by_cases g2 : 102 < ins
  · go_enter Try.func6, Try.ntmps6
    go_wp2_with (go_at_call 32; refine (awake5 _).mono ?_; rintro e w8 ⟨rfl, hb8⟩)
    go_ret
    exact ⟨rfl, hb8⟩
  by_cases g3 : outs < 0
  · go_enter Try.func6, Try.ntmps6
    go_wp2_with (go_at_call 32; refine (awake5 _).mono ?_; rintro e w8 ⟨rfl, hb8⟩)
    go_ret
    exact ⟨rfl, hb8⟩
  by_cases g4 : 102 < outs
  · go_enter Try.func6, Try.ntmps6
    go_wp2_with (go_at_call 32; refine (awake5 _).mono ?_; rintro e w8 ⟨rfl, hb8⟩)
    go_ret
    exact ⟨rfl, hb8⟩
  by_cases g5 : pre < 0
  · go_enter Try.func6, Try.ntmps6
    go_wp2_with (go_at_call 32; refine (awake5 _).mono ?_; rintro e w8 ⟨rfl, hb8⟩)
    go_ret
    exact ⟨rfl, hb8⟩
  have g6 : 70 < pre := by omega
  go_enter Try.func6, Try.ntmps6
  go_wp2_with (go_at_call 32; refine (awake5 _).mono ?_; rintro e w8 ⟨rfl, hb8⟩)
  go_ret
  exact ⟨rfl, hb8⟩
theorem limits_any (ins outs seq place lock pre : Int) (w : World) :
    Calls Try.prog 6 #[.int .i64 ins, .int .i64 outs, .int .i64 seq, .int .i64 place, .int .i64 lock, .int .i64 pre] w fun e w' => e = .returned (.bool true) ∧ Below w.heap.size w w' := by
  by_cases h : ins < 0 ∨ 102 < ins ∨ outs < 0 ∨ 102 < outs ∨ pre < 0 ∨ 70 < pre
  · exact limits_out ins outs seq place lock pre h w
  · obtain ⟨i, rfl⟩ := Int.eq_ofNat_of_zero_le (show 0 ≤ ins by omega)
    obtain ⟨j, rfl⟩ := Int.eq_ofNat_of_zero_le (show 0 ≤ outs by omega)
    obtain ⟨p, rfl⟩ := Int.eq_ofNat_of_zero_le (show 0 ≤ pre by omega)
    exact limits_law i j seq place lock p (by omega) (by omega) (by omega) w
end Go.Proofs.Ytpkbohhecmdonaa
