/- The statement WalTurns: whatever the input, the law returns true, and the input reads as it did. No condition. -/
import Derived.Test.YtkiindgcbpkddaaRows
import Derived.Test.YtkiindgcbpkddaaRow1
import Derived.Test.YtkiindgcbpkddaaFactsWalTurns
import Derived.Test.YtkiindgcbpkddaaWalB
import Derived.Test.YtkiindgcbpkddaaOpenW
import Derived.WalkKit
import Derived.ProofKit
import Derived.OpenShut
import Derived.ChangeMaps5
set_option linter.unusedSimpArgs false
set_option linter.unusedVariables false
namespace Go.Proofs.Ytkiindgcbpkddaa.walTurns
open Go.ChangeShapes Go.WideShapes Go.ChangeAt Go.RowKit Go.ChangeMaps

theorem own : ownKnob Try.prog.godebug = none := by kernel_rfl

theorem walk (s0 : Sl) (l0 : List Turn) (s1 : Sl) (l1 : List Turn) (w : World) (h0 : structsAt Turn.arr 3 w s0 l0) (g0 : ∀ x ∈ l0, x.wf) (h1 : structsAt Turn.arr 3 w s1 l1) (g1 : ∀ x ∈ l1, x.wf) :
    Calls Try.prog 9 #[.slice s0.a s0.n s0.c, .slice s1.a s1.n s1.c] w fun e w' => e = .returned (.bool true) ∧ Below w.heap.size w w' := by
  exact turns_any s0 l0 s1 l1 w h0 h1 g0 g1

set_option maxRecDepth 100000 in
theorem lifted (os : Os) (started : os.Started) (H : Type) (enc : TypeId × Value → H) :
    ReturnsInHanded {} Try.checked os 9 .any (Rows.walTurnsSpec.pre6 enc Try.prog Try.f9 Rows.walTurnsRow.domain false) (Rows.walTurnsSpec.post enc Try.prog Try.f9 false true false false) := by
  refine returnsInHanded_of_change (C := Try.checked) own started (by kernel_rfl) Try.func9
    (ChangeSpec.witness6 (enc := enc) (C := Try.checked) false ⟨#[], #[.slice none 0 0, .slice none 0 0], []⟩ 8 (by kernel_rfl) (by kernel_rfl) (by kernel_rfl) (by kernel_rfl)) ?_
  intro W base args ds gs before hval0 hW hcnd _
  have hval : ∀ (j : Nat) t v, Try.f9.params[j]? = some t → args[j]? = some v → Value.okWide Try.prog W .any base t v := hval0
  have hW' := hW
  obtain ⟨p, q, hA0, hV, rfl, hfz, hnd⟩ := hW
  have hlt := hW'.lt
  have hA : DataW.TrodAll enc Try.prog W 0 (fun _ => true) true Try.f9.params.toList args.toList ds p := hA0
  have hA1 : DataW.TrodAll enc Try.prog W 0 (fun _ => true) true Try.f9.params.toList args.toList ds (p ++ []) := by rw [List.append_nil]; exact hA
  rw [Try.params9] at hA hval
  obtain ⟨v0, vs0, d0, ds0, p0, q0, hargs, rfl, rfl, h0, r0⟩ := trodAll_cons hA
  obtain ⟨v1, vs1, d1, ds1, p1, q1, rfl, rfl, rfl, h1, r1⟩ := trodAll_cons r0
  obtain ⟨rfl, rfl, rfl⟩ := trodAll_nil r1
  obtain rfl : args = #[v0, v1] := by cases args; simp_all
  obtain ⟨rfl, rfl⟩ := trodVars_none hV
  obtain ⟨s0, l0, rfl, h0', g0⟩ := open_turns (hval 0 89 v0 rfl rfl) h0
  obtain ⟨s1, l1, rfl, h1', g1⟩ := open_turns (hval 1 89 v1 rfl rfl) h1
  clear hA0 hval0
  refine (walk s0 l0 s1 l1 W h0' g0 h1' g1).mono fun e W' ⟨he, hg⟩ => ?_
  subst he
  exact ⟨_, rfl, done_kept hW' (fun _ _ _ => (trodAll_cons_mk (shut_bool Try.underlying4 _) trodAll_mk0)) (fun sp hsp => trodAll_stays laid_out (ts := Try.f9.params.toList) (by kernel_rfl) hA1 (fun x hx => hg.same (hlt x (by simpa using hx))) (fun x hx => hsp x (by simpa using hx))) (fun _ => rfl)
    hg (ok_one (by kernel_rfl) rfl (okWide_bool_mk Try.underlying4 _))⟩

theorem over : Rows.walTurnsRow.holds Try.pinned (OpenSpec.ofChange Rows.walTurnsSpec) :=
  OpenClaim.holds_of_wide 9 Try.f9 rfl rfl rfl rfl rfl rfl rfl ⟨rfl, rfl, rfl, rfl, rfl⟩ rfl rfl rfl rfl rfl (by kernel_rfl) Try.func9 joined
    (of_decide_eq_true (by kernel_rfl)) (by unfold Func.isWrapper; first | (rw [if_pos (by decide +kernel)]; kernel_rfl) | (rw [if_neg (by decide +kernel)]; exact ⟨rfl, rfl⟩))
    (fun os started H enc _ => lifted os started H enc)

theorem proved : Rows.WalTurnsSaid :=
  over
#print axioms proved
end Go.Proofs.Ytkiindgcbpkddaa.walTurns
