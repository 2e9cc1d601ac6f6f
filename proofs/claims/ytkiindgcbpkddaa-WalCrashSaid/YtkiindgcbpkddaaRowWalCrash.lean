/- The statement WalCrash: whatever the input, the law returns true, and the input reads as it did. No condition. -/
import Derived.Test.YtkiindgcbpkddaaRows
import Derived.Test.YtkiindgcbpkddaaRow1
import Derived.Test.YtkiindgcbpkddaaFactsWalCrash
import Derived.Test.YtkiindgcbpkddaaOpenW
import Derived.Test.YtkiindgcbpkddaaWalCr
import Derived.WalkKit
import Derived.ProofKit
import Derived.OpenShut
import Derived.ChangeMaps5
set_option linter.unusedSimpArgs false
set_option linter.unusedVariables false
namespace Go.Proofs.Ytkiindgcbpkddaa.walCrash
open Go.ChangeShapes Go.WideShapes Go.ChangeAt Go.RowKit Go.ChangeMaps

theorem own : ownKnob Try.prog.godebug = none := by kernel_rfl

theorem walk (s0 : Sl) (l0 : List Turn) (a1 : Int) (s2 : Sl) (l2 : List Int) (a3 : Int) (s4 : Sl) (l4 : List Int) (w : World) (h0 : structsAt Turn.arr 3 w s0 l0) (g0 : ∀ x ∈ l0, x.wf) (w1 : (Lit.int .i64 a1).wf = true) (h2 : isInts w s2 l2) (g2 : ∀ x ∈ l2, i64 x) (w3 : (Lit.int .i64 a3).wf = true) (h4 : isInts w s4 l4) (g4 : ∀ x ∈ l4, i64 x) :
    Calls Try.prog 12 #[.slice s0.a s0.n s0.c, .int .i64 a1, .slice s2.a s2.n s2.c, .int .i64 a3, .slice s4.a s4.n s4.c] w fun e w' => e = .returned (.bool true) ∧ Below w.heap.size w w' := by
  exact crash_any s0 l0 a1 s2 l2 a3 s4 l4 w h0 g0 (lit_i w1) h2 g2 (lit_i w3) h4 g4

set_option maxRecDepth 100000 in
theorem lifted (os : Os) (started : os.Started) (H : Type) (enc : TypeId × Value → H) :
    ReturnsInHanded {} Try.checked os 12 .any (Rows.walCrashSpec.pre6 enc Try.prog Try.f12 Rows.walCrashRow.domain false) (Rows.walCrashSpec.post enc Try.prog Try.f12 false true false false) := by
  refine returnsInHanded_of_change (C := Try.checked) own started (by kernel_rfl) Try.func12
    (ChangeSpec.witness6 (enc := enc) (C := Try.checked) false ⟨#[], #[.slice none 0 0, .int .i64 0, .slice none 0 0, .int .i64 0, .slice none 0 0], []⟩ 8 (by kernel_rfl) (by kernel_rfl) (by kernel_rfl) (by kernel_rfl)) ?_
  intro W base args ds gs before hval0 hW hcnd _
  have hval : ∀ (j : Nat) t v, Try.f12.params[j]? = some t → args[j]? = some v → Value.okWide Try.prog W .any base t v := hval0
  have hW' := hW
  obtain ⟨p, q, hA0, hV, rfl, hfz, hnd⟩ := hW
  have hlt := hW'.lt
  have hA : DataW.TrodAll enc Try.prog W 0 (fun _ => true) true Try.f12.params.toList args.toList ds p := hA0
  have hA1 : DataW.TrodAll enc Try.prog W 0 (fun _ => true) true Try.f12.params.toList args.toList ds (p ++ []) := by rw [List.append_nil]; exact hA
  rw [Try.params12] at hA hval
  obtain ⟨v0, vs0, d0, ds0, p0, q0, hargs, rfl, rfl, h0, r0⟩ := trodAll_cons hA
  obtain ⟨v1, vs1, d1, ds1, p1, q1, rfl, rfl, rfl, h1, r1⟩ := trodAll_cons r0
  obtain ⟨v2, vs2, d2, ds2, p2, q2, rfl, rfl, rfl, h2, r2⟩ := trodAll_cons r1
  obtain ⟨v3, vs3, d3, ds3, p3, q3, rfl, rfl, rfl, h3, r3⟩ := trodAll_cons r2
  obtain ⟨v4, vs4, d4, ds4, p4, q4, rfl, rfl, rfl, h4, r4⟩ := trodAll_cons r3
  obtain ⟨rfl, rfl, rfl⟩ := trodAll_nil r4
  obtain rfl : args = #[v0, v1, v2, v3, v4] := by cases args; simp_all
  obtain ⟨rfl, rfl⟩ := trodVars_none hV
  obtain ⟨s0, l0, rfl, h0', g0⟩ := open_turns (hval 0 89 v0 rfl rfl) h0
  obtain ⟨a1, rfl, rfl, rfl, w1⟩ := open_int Try.underlying3 (hval 1 3 v1 rfl rfl) h1
  obtain ⟨s2, l2, rfl, h2', g2⟩ := open_intsl (hval 2 53 v2 rfl rfl) h2
  obtain ⟨a3, rfl, rfl, rfl, w3⟩ := open_int Try.underlying3 (hval 3 3 v3 rfl rfl) h3
  obtain ⟨s4, l4, rfl, h4', g4⟩ := open_intsl (hval 4 53 v4 rfl rfl) h4
  clear hA0 hval0
  refine (walk s0 l0 a1 s2 l2 a3 s4 l4 W h0' g0 w1 h2' g2 w3 h4' g4).mono fun e W' ⟨he, hg⟩ => ?_
  subst he
  exact ⟨_, rfl, done_kept hW' (fun _ _ _ => (trodAll_cons_mk (shut_bool Try.underlying4 _) trodAll_mk0)) (fun sp hsp => trodAll_stays laid_out (ts := Try.f12.params.toList) (by kernel_rfl) hA1 (fun x hx => hg.same (hlt x (by simpa using hx))) (fun x hx => hsp x (by simpa using hx))) (fun _ => rfl)
    hg (ok_one (by kernel_rfl) rfl (okWide_bool_mk Try.underlying4 _))⟩

theorem over : Rows.walCrashRow.holds Try.pinned (OpenSpec.ofChange Rows.walCrashSpec) :=
  OpenClaim.holds_of_wide 12 Try.f12 rfl rfl rfl rfl rfl rfl rfl ⟨rfl, rfl, rfl, rfl, rfl⟩ rfl rfl rfl rfl rfl (by kernel_rfl) Try.func12 joined
    (of_decide_eq_true (by kernel_rfl)) (by unfold Func.isWrapper; first | (rw [if_pos (by decide +kernel)]; kernel_rfl) | (rw [if_neg (by decide +kernel)]; exact ⟨rfl, rfl⟩))
    (fun os started H enc _ => lifted os started H enc)

theorem proved : Rows.WalCrashSaid :=
  over
#print axioms proved
end Go.Proofs.Ytkiindgcbpkddaa.walCrash
