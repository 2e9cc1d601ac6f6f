/- Contracts of packages script and witness: a script that may be, claims. -/
import Derived.Test.YtaopiefbejajkaaBookA
import Derived.Test.YtaopiefbejajkaaStore
import Derived.BigGuardPart
set_option linter.unusedSimpArgs false
set_option linter.unusedVariables false
namespace Go.Proofs.Ytaopiefbejajkaa
open Go.RowKit
/-- Is a number within limits? -/
def liesB (n lo hi : Int) : Bool := decide (lo ≤ n) && decide (n ≤ hi)
theorem liesB_true {n lo hi : Int} (h1 : lo ≤ n) (h2 : n ≤ hi) : liesB n lo hi = true := by simp [liesB, h1, h2]
theorem within_script (n lo hi : Int) (w : World) : Calls Try.prog 150 #[.int .i64 n, .int .i64 lo, .int .i64 hi] w fun e w' => e = .returned (.bool (liesB n lo hi)) ∧ w = w' := by
  by_cases h : lo ≤ n
  · go_enter Try.func150, Try.ntmps150
    go_wp2
    go_ret
    exact ⟨by simp [liesB, h], rfl⟩
  · have hd : decide (lo ≤ n) = false := by simpa using h
    go_enter Try.func150, Try.ntmps150
    go_wp2
    go_ret
    exact ⟨by simp [liesB, hd], rfl⟩
theorem within_resolve (n lo hi : Int) (w : World) : Calls Try.prog 63 #[.int .i64 n, .int .i64 lo, .int .i64 hi] w fun e w' => e = .returned (.bool (liesB n lo hi)) ∧ w = w' := by
  by_cases h : lo ≤ n
  · go_enter Try.func63, Try.ntmps63
    go_wp2
    go_ret
    exact ⟨by simp [liesB, h], rfl⟩
  · have hd : decide (lo ≤ n) = false := by simpa using h
    go_enter Try.func63, Try.ntmps63
    go_wp2
    go_ret
    exact ⟨by simp [liesB, hd], rfl⟩
/-- May a script be? -/
def validS (s : Script) : Bool := liesB s.key 0 1073741824 && (liesB s.other 0 1073741824 && (liesB s.rev 0 1073741824 && (liesB s.kind 1 6 && (liesB s.delay 0 65535 && liesB s.expiry 0 1000000))))
set_option maxRecDepth 100000 in
set_option maxHeartbeats 1000000 in
theorem valid_script (s : Script) (w : World) : Calls Try.prog 118 #[.agg s.arr] w fun e w' => e = .returned (.bool (validS s)) ∧ Below w.heap.size w w' := by
  have hb : Below w.heap.size w (w.alloc (.cells s.arr 34)) := (Below.refl _ _).alloc (Nat.le_refl _) _
  have HB := Lib.hid hb
  clear hb
  cases h1 : liesB s.key 0 1073741824
  case false =>
    have hv : Hid (validS s = false) := by unfold Hid validS; simp [h1]
    go_enter Try.func118, Try.ntmps118
    go_wp2_with (go_at_call 150; refine (within_script _ _ _ _).mono ?_; rintro e w' ⟨rfl, rfl⟩)
    go_ret
    exact ⟨by rw [hv.out]; rfl, HB.out⟩
  case true =>
    cases h2 : liesB s.other 0 1073741824
    case false =>
      have hv : Hid (validS s = false) := by unfold Hid validS; simp [h1, h2]
      go_enter Try.func118, Try.ntmps118
      go_wp2_with (go_at_call 150; refine (within_script _ _ _ _).mono ?_; rintro e w' ⟨rfl, rfl⟩)
      go_ret
      exact ⟨by rw [hv.out]; rfl, HB.out⟩
    case true =>
      cases h3 : liesB s.rev 0 1073741824
      case false =>
        have hv : Hid (validS s = false) := by unfold Hid validS; simp [h1, h2, h3]
        go_enter Try.func118, Try.ntmps118
        go_wp2_with (go_at_call 150; refine (within_script _ _ _ _).mono ?_; rintro e w' ⟨rfl, rfl⟩)
        go_ret
        exact ⟨by rw [hv.out]; rfl, HB.out⟩
      case true =>
        cases h4 : liesB s.kind 1 6
        case false =>
          have hv : Hid (validS s = false) := by unfold Hid validS; simp [h1, h2, h3, h4]
          go_enter Try.func118, Try.ntmps118
          go_wp2_with (go_at_call 150; refine (within_script _ _ _ _).mono ?_; rintro e w' ⟨rfl, rfl⟩)
          go_ret
          exact ⟨by rw [hv.out]; rfl, HB.out⟩
        case true =>
          cases h5 : liesB s.delay 0 65535
          case false =>
            have hv : Hid (validS s = false) := by unfold Hid validS; simp [h1, h2, h3, h4, h5]
            go_enter Try.func118, Try.ntmps118
            go_wp2_with (go_at_call 150; refine (within_script _ _ _ _).mono ?_; rintro e w' ⟨rfl, rfl⟩)
            go_ret
            exact ⟨by rw [hv.out]; rfl, HB.out⟩
          case true =>
            cases h6 : liesB s.expiry 0 1000000
            case false =>
              have hv : Hid (validS s = false) := by unfold Hid validS; simp [h1, h2, h3, h4, h5, h6]
              go_enter Try.func118, Try.ntmps118
              go_wp2_with (go_at_call 150; refine (within_script _ _ _ _).mono ?_; rintro e w' ⟨rfl, rfl⟩)
              go_ret
              exact ⟨by rw [hv.out]; rfl, HB.out⟩
            case true =>
              have hv : Hid (validS s = true) := by unfold Hid validS; simp [h1, h2, h3, h4, h5, h6]
              go_enter Try.func118, Try.ntmps118
              go_wp2_with (go_at_call 150; refine (within_script _ _ _ _).mono ?_; rintro e w' ⟨rfl, rfl⟩)
              go_ret
              exact ⟨by rw [hv.out]; rfl, HB.out⟩
/-- A claim by a key. -/
def sigC (k : Int) : Claim := { Claim.zero with wit := { kind := 1, key := k, pre := ByteArray.empty } }
theorem sig_wit (k : Int) (w : World) : Calls Try.prog 144 #[.int .i64 k] w fun e w' => e = .returned (.agg (sigC k).arr) ∧ Below w.heap.size w w' := by
  go_enter Try.func144, Try.ntmps144
  go_wp2_with fail
  exact bodyPost_ret (results_cell_row rfl _ _ w.heap.size 42 (sigC k).arr (0, 0) _ rfl (heap_alloc_new w _) Try.underlying42 rfl (by rw [size_Claim]; simp)) rfl ⟨rfl, (Below.refl _ _).alloc (Nat.le_refl _) _⟩
/-- How the node may spend by revoking. -/
def justiceS (s : Script) (k : Keys) : Bool := validS s && ((s.kind == 2 || (s.kind == 5 || s.kind == 6)) && s.rev == k.rev)
def revC (k : Int) : Claim := { Claim.zero with wit := { kind := 3, key := k, pre := ByteArray.empty } }
set_option maxRecDepth 100000 in
set_option maxHeartbeats 1000000 in
theorem justice_wit (s : Script) (k : Keys) (hs : justiceS s k = true) (w : World) : Calls Try.prog 108 #[.agg s.arr, .agg k.arr] w fun e w' => e = .returned (.tuple #[.agg (revC k.rev).arr, .int .i64 0]) ∧ Below w.heap.size w w' := by
  have hv : validS s = true := by unfold justiceS at hs; simp at hs; exact hs.1
  have hr : (s.rev != k.rev) = false := by unfold justiceS at hs; simp at hs; simp [hs.2.2]
  have hk : s.kind = 2 ∨ s.kind = 5 ∨ s.kind = 6 := by unfold justiceS at hs; simp at hs; omega
  obtain ⟨sk, s1, s2, s3, s4, s5, s6⟩ := s
  simp only at hr hk
  clear hs
  have hlt : w.heap.size + 1 + 1 < ((((w.alloc (.cells (Script.mk sk s1 s2 s3 s4 s5 s6).arr 34)).alloc (.cells k.arr 24)).alloc (.cells Claim.zero.arr 42))).heap.size := by simp
  have hbase : Below w.heap.size w ((((w.alloc (.cells (Script.mk sk s1 s2 s3 s4 s5 s6).arr 34)).alloc (.cells k.arr 24)).alloc (.cells Claim.zero.arr 42))) := (((Below.refl _ _).alloc (Nat.le_refl _) _).alloc (by simp) _).alloc (by simp; omega) _
  have hC0 : ((((w.alloc (.cells (Script.mk sk s1 s2 s3 s4 s5 s6).arr 34)).alloc (.cells k.arr 24)).alloc (.cells Claim.zero.arr 42))).heap[w.heap.size + 1 + 1]? = some (.cells Claim.zero.arr 42 (0, 0)) := by simpa using heap_alloc_new ((w.alloc (.cells (Script.mk sk s1 s2 s3 s4 s5 s6).arr 34)).alloc (.cells k.arr 24)) (.cells Claim.zero.arr 42)
  have HX := Lib.hid (And.intro hlt (And.intro hbase hC0))
  clear hlt hbase hC0
  rcases hk with rfl | rfl | rfl
  all_goals
    go_enter Try.func108, Try.ntmps108
    go_wp2_with (first | (go_at_call 118; refine (valid_script _ _).mono ?_; rintro e w1 ⟨rfl, hb1⟩; obtain ⟨hc1, hf1, hr1⟩ := bcell hb1; have hC1 := (hb1.block _ HX.out.1).trans HX.out.2.2) | (refine wpList_storeRow size_Claim _ _ rfl rfl _ (revC k.rev).arr _ rfl rfl (by simp) (one_Claim _) (by simp) hC1 ?_; intro w2 hr2 hu2))
    refine bodyPost_ret (results_cell_tmp rfl _ _ (w.heap.size + 1 + 1) 42 (revC k.rev).arr (0, 0) _ _ rfl rfl hr2 Try.underlying42 rfl (by rw [size_Claim]; simp)) rfl ⟨rfl, ?_⟩
    have hsz := HX.out.1
    have hs1 := hb1.size
    exact HX.out.2.1.trans ((hb1.mono HX.out.2.1.size).trans (hu2.below (by omega) (fun i e => by have e2 : i = w.heap.size + 1 + 1 := e; omega)))
end Go.Proofs.Ytaopiefbejajkaa
