/- The statement NotifyPairs: whatever the input, the law returns true, and the input reads as it did. No condition. -/
import Derived.Test.YtlkojkjeklblkaaGreatRows
import Derived.Test.YtlkojkjeklblkaaGreatRow1
import Derived.Test.YtlkojkjeklblkaaGreatFactsNotifyPairs
import Derived.Test.YtlkojkjeklblkaaGreatNfJ
import Derived.Test.YtlkojkjeklblkaaGreatNfX
import Derived.WalkKit
import Derived.ProofKit
import Derived.OpenShut
import Derived.ChangeMaps5
set_option linter.unusedSimpArgs false
set_option linter.unusedVariables false
namespace Go.Proofs.YtlkojkjeklblkaaGreat.notifyPairs
open Go.ChangeShapes Go.WideShapes Go.ChangeAt Go.RowKit Go.ChangeMaps

theorem own : ownKnob Tryz.prog.godebug = none := by kernel_rfl

theorem walk (s0 : Sl) (l0 : List (Ask × List Tx)) (w : World) (h0 : AsksAt w s0 l0) (g0 : ∀ x ∈ l0, askWf x) :
    Calls Tryz.prog 4 #[.slice s0.a s0.n s0.c] w fun e w' => e = .returned (.bool true) ∧ Below w.heap.size w w' := by
  exact notifyPairs_any s0 l0 w h0

set_option maxRecDepth 100000 in
theorem lifted (os : Os) (started : os.Started) (H : Type) (enc : TypeId × Value → H) :
    ReturnsInHanded {} Tryz.checked os 4 .any (Rows.notifyPairsSpec.pre6 enc Tryz.prog Tryz.f4 Rows.notifyPairsRow.domain false) (Rows.notifyPairsSpec.post enc Tryz.prog Tryz.f4 false true false false) := by
  refine returnsInHanded_of_change (C := Tryz.checked) own started (by kernel_rfl) Tryz.func4
    (ChangeSpec.witness6 (enc := enc) (C := Tryz.checked) false ⟨#[], #[.slice none 0 0], []⟩ 8 (by kernel_rfl) (by kernel_rfl) (by kernel_rfl) (by kernel_rfl)) ?_
  intro W base args ds gs before hval0 hW hcnd _
  have hval : ∀ (j : Nat) t v, Tryz.f4.params[j]? = some t → args[j]? = some v → Value.okWide Tryz.prog W .any base t v := hval0
  have hW' := hW
  obtain ⟨p, q, hA0, hV, rfl, hfz, hnd⟩ := hW
  have hlt := hW'.lt
  have hA : DataW.TrodAll enc Tryz.prog W 0 (fun _ => true) true Tryz.f4.params.toList args.toList ds p := hA0
  have hA1 : DataW.TrodAll enc Tryz.prog W 0 (fun _ => true) true Tryz.f4.params.toList args.toList ds (p ++ []) := by rw [List.append_nil]; exact hA
  rw [Tryz.params4] at hA hval
  obtain ⟨v0, vs0, d0, ds0, p0, q0, hargs, rfl, rfl, h0, r0⟩ := trodAll_cons hA
  obtain ⟨rfl, rfl, rfl⟩ := trodAll_nil r0
  obtain rfl : args = #[v0] := by cases args; simp_all
  obtain ⟨rfl, rfl⟩ := trodVars_none hV
  obtain ⟨s0, l0, rfl, h0', g0⟩ := open_asks (hval 0 22 v0 rfl rfl) h0
  clear hA0 hval0
  refine (walk s0 l0 W h0' g0).mono fun e W' ⟨he, hg⟩ => ?_
  subst he
  exact ⟨_, rfl, done_kept hW' (fun _ _ _ => (trodAll_cons_mk (shut_bool Tryz.underlying4 _) trodAll_mk0)) (fun sp hsp => trodAll_stays laid_out (ts := Tryz.f4.params.toList) (by kernel_rfl) hA1 (fun x hx => hg.same (hlt x (by simpa using hx))) (fun x hx => hsp x (by simpa using hx))) (fun _ => rfl)
    hg (ok_one (by kernel_rfl) rfl (okWide_bool_mk Tryz.underlying4 _))⟩

theorem over : Rows.notifyPairsRow.holds Tryz.pinned (OpenSpec.ofChange Rows.notifyPairsSpec) :=
  OpenClaim.holds_of_wide 4 Tryz.f4 rfl rfl rfl rfl rfl rfl rfl ⟨rfl, rfl, rfl, rfl, rfl⟩ rfl rfl rfl rfl rfl (by kernel_rfl) Tryz.func4 joined
    (of_decide_eq_true (by kernel_rfl)) (by unfold Func.isWrapper; first | (rw [if_pos (by decide +kernel)]; kernel_rfl) | (rw [if_neg (by decide +kernel)]; exact ⟨rfl, rfl⟩))
    (fun os started H enc _ => lifted os started H enc)

theorem proved : Rows.NotifyPairsSaid :=
  over
#print axioms proved
end Go.Proofs.YtlkojkjeklblkaaGreat.notifyPairs
