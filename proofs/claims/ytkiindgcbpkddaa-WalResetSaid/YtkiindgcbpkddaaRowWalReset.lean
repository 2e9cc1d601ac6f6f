/- The statement WalReset: whatever the input, the law returns true, and the input reads as it did. No condition. -/
import Derived.Test.YtkiindgcbpkddaaRows
import Derived.Test.YtkiindgcbpkddaaRow1
import Derived.Test.YtkiindgcbpkddaaFactsWalReset
import Derived.Test.YtkiindgcbpkddaaWalV
import Derived.Test.YtkiindgcbpkddaaOpenW
import Derived.WalkKit
import Derived.ProofKit
import Derived.OpenShut
import Derived.ChangeMaps5
set_option linter.unusedSimpArgs false
set_option linter.unusedVariables false
namespace Go.Proofs.Ytkiindgcbpkddaa.walReset
open Go.ChangeShapes Go.WideShapes Go.ChangeAt Go.RowKit Go.ChangeMaps

theorem own : ownKnob Try.prog.godebug = none := by kernel_rfl

theorem walk (s0 : Sl) (l0 : List (List UInt8)) (s1 : Sl) (l1 : List (List UInt8)) (s2 : Sl) (l2 : List Int) (w : World) (h0 : bytesLs w s0 l0) (h1 : bytesLs w s1 l1) (h2 : isInts w s2 l2) (g2 : ∀ x ∈ l2, i64 x) :
    Calls Try.prog 11 #[.slice s0.a s0.n s0.c, .slice s1.a s1.n s1.c, .slice s2.a s2.n s2.c] w fun e w' => e = .returned (.bool true) ∧ Below w.heap.size w w' := by
  exact (h0.elim (fun vs hh0 => h1.elim (fun vs1 hh1 => reset_any s0 vs l0 s1 vs1 l1 s2 l2 w hh0 hh1 h2 g2)))

set_option maxRecDepth 100000 in
theorem lifted (os : Os) (started : os.Started) (H : Type) (enc : TypeId × Value → H) :
    ReturnsInHanded {} Try.checked os 11 .any (Rows.walResetSpec.pre6 enc Try.prog Try.f11 Rows.walResetRow.domain false) (Rows.walResetSpec.post enc Try.prog Try.f11 false true false false) := by
  refine returnsInHanded_of_change (C := Try.checked) own started (by kernel_rfl) Try.func11
    (ChangeSpec.witness6 (enc := enc) (C := Try.checked) false ⟨#[], #[.slice none 0 0, .slice none 0 0, .slice none 0 0], []⟩ 8 (by kernel_rfl) (by kernel_rfl) (by kernel_rfl) (by kernel_rfl)) ?_
  intro W base args ds gs before hval0 hW hcnd _
  have hval : ∀ (j : Nat) t v, Try.f11.params[j]? = some t → args[j]? = some v → Value.okWide Try.prog W .any base t v := hval0
  have hW' := hW
  obtain ⟨p, q, hA0, hV, rfl, hfz, hnd⟩ := hW
  have hlt := hW'.lt
  have hA : DataW.TrodAll enc Try.prog W 0 (fun _ => true) true Try.f11.params.toList args.toList ds p := hA0
  have hA1 : DataW.TrodAll enc Try.prog W 0 (fun _ => true) true Try.f11.params.toList args.toList ds (p ++ []) := by rw [List.append_nil]; exact hA
  rw [Try.params11] at hA hval
  obtain ⟨v0, vs0, d0, ds0, p0, q0, hargs, rfl, rfl, h0, r0⟩ := trodAll_cons hA
  obtain ⟨v1, vs1, d1, ds1, p1, q1, rfl, rfl, rfl, h1, r1⟩ := trodAll_cons r0
  obtain ⟨v2, vs2, d2, ds2, p2, q2, rfl, rfl, rfl, h2, r2⟩ := trodAll_cons r1
  obtain ⟨rfl, rfl, rfl⟩ := trodAll_nil r2
  obtain rfl : args = #[v0, v1, v2] := by cases args; simp_all
  obtain ⟨rfl, rfl⟩ := trodVars_none hV
  obtain ⟨s0, l0, rfl, h0'⟩ := open_bytesl (hval 0 95 v0 rfl rfl) h0
  obtain ⟨s1, l1, rfl, h1'⟩ := open_bytesl (hval 1 95 v1 rfl rfl) h1
  obtain ⟨s2, l2, rfl, h2', g2⟩ := open_intsl (hval 2 53 v2 rfl rfl) h2
  clear hA0 hval0
  refine (walk s0 l0 s1 l1 s2 l2 W h0' h1' h2' g2).mono fun e W' ⟨he, hg⟩ => ?_
  subst he
  exact ⟨_, rfl, done_kept hW' (fun _ _ _ => (trodAll_cons_mk (shut_bool Try.underlying4 _) trodAll_mk0)) (fun sp hsp => trodAll_stays laid_out (ts := Try.f11.params.toList) (by kernel_rfl) hA1 (fun x hx => hg.same (hlt x (by simpa using hx))) (fun x hx => hsp x (by simpa using hx))) (fun _ => rfl)
    hg (ok_one (by kernel_rfl) rfl (okWide_bool_mk Try.underlying4 _))⟩

theorem over : Rows.walResetRow.holds Try.pinned (OpenSpec.ofChange Rows.walResetSpec) :=
  OpenClaim.holds_of_wide 11 Try.f11 rfl rfl rfl rfl rfl rfl rfl ⟨rfl, rfl, rfl, rfl, rfl⟩ rfl rfl rfl rfl rfl (by kernel_rfl) Try.func11 joined
    (of_decide_eq_true (by kernel_rfl)) (by unfold Func.isWrapper; first | (rw [if_pos (by decide +kernel)]; kernel_rfl) | (rw [if_neg (by decide +kernel)]; exact ⟨rfl, rfl⟩))
    (fun os started H enc _ => lifted os started H enc)

theorem proved : Rows.WalResetSaid :=
  over
#print axioms proved
end Go.Proofs.Ytkiindgcbpkddaa.walReset
