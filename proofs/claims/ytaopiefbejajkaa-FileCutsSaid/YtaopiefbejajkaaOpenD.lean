/- Deeds, opened. -/
import Derived.Test.YtaopiefbejajkaaRow1
set_option linter.unusedSimpArgs false
set_option linter.unusedVariables false
namespace Go.Proofs.Ytaopiefbejajkaa
open Go.ChangeShapes Go.WideShapes Go.RowKit Go.Deep
theorem list4 {α : Type} {l : List α} (h : l.length = 4) : ∃ a b c d, l = [a, b, c, d] := by
  match l, h with
  | [a, b, c, d], _ => exact ⟨a, b, c, d, rfl⟩
section
variable {H : Type} {enc : TypeId × Value → H} {w : World} {base : Nat} {spare : Nat → Bool} {held : Bool}
theorem wf_i64 {n : Int} (h : (Lit.int .i64 n).wf = true) : i64 n := by
  simp [Lit.wf, IntKind.min, IntKind.max, IntKind.bits, IntKind.signed] at h
  exact h
set_option maxRecDepth 100000 in
theorem open_deed : ∀ fuel cs (x : DataW H × List MemPlace), DataW.trod enc Try.prog w base spare held fuel 107 cs = some x → ∃ d : Deed, cs = d.arr.toList ∧ d.wf := by
  intro fuel cs x h
  obtain ⟨xs, n, _, _, hl, hxl, hf⟩ := DataW.trod_struct Try.underlying107 h
  have hC : Try.prog.cellsOf 107 = 4 := by kernel_rfl
  have c3 : Try.prog.cellsOf 3 = 1 := by kernel_rfl
  have c9 : Try.prog.cellsOf 9 = 1 := by kernel_rfl
  rw [hC] at hl
  have hxl4 : xs.length = 4 := hxl
  obtain ⟨v0, v1, v2, v3, rfl⟩ := list4 hl
  have h0 : DataW.trod enc Try.prog w base spare held n 3 (([v0, v1, v2, v3].drop 0).take (Try.prog.cellsOf 3)) = xs[0]? := hf 0 _ rfl
  have h1 : DataW.trod enc Try.prog w base spare held n 9 (([v0, v1, v2, v3].drop 1).take (Try.prog.cellsOf 9)) = xs[1]? := hf 1 _ rfl
  have h2 : DataW.trod enc Try.prog w base spare held n 9 (([v0, v1, v2, v3].drop 2).take (Try.prog.cellsOf 9)) = xs[2]? := hf 2 _ rfl
  have h3 : DataW.trod enc Try.prog w base spare held n 3 (([v0, v1, v2, v3].drop 3).take (Try.prog.cellsOf 3)) = xs[3]? := hf 3 _ rfl
  rw [List.getElem?_eq_getElem (by omega)] at h0 h1 h2 h3
  rw [c3] at h0 h3
  rw [c9] at h1 h2
  simp only [List.drop, List.take] at h0 h1 h2 h3
  obtain ⟨k0, e0, _, w0⟩ := DataW.trod_int Try.underlying3 h0
  obtain ⟨s1, e1, _, w1⟩ := DataW.trod_string Try.underlying9 h1
  obtain ⟨s2, e2, _, w2⟩ := DataW.trod_string Try.underlying9 h2
  obtain ⟨k3, e3, _, w3⟩ := DataW.trod_int Try.underlying3 h3
  cases e0; cases e1; cases e2; cases e3
  exact ⟨⟨k0, s1, s2, k3⟩, rfl, wf_i64 w0, w1, w2, wf_i64 w3⟩
set_option maxRecDepth 100000 in
theorem open_deeds {r : Reach} {b0 : Nat} {v : Value} {d : DataW H} {p : List MemPlace} (hv : Value.okWide Try.prog w r b0 103 v) (h : DataW.Trod enc Try.prog w base spare held 103 v d p) :
    ∃ (s : Sl) (l : List Deed), v = .slice s.a s.n s.c ∧ structsAt Deed.arr 4 w s l ∧ ∀ x ∈ l, x.wf := by
  obtain ⟨a, n, c, rfl⟩ := okWide_slice Try.underlying103 hv
  obtain ⟨fuel, hf⟩ := h
  obtain ⟨s, l, e, hs, hl⟩ := open_rows (enc := enc) (P := Try.prog) Deed.arr 4 Deed.wf Try.underlying103 (by kernel_rfl) (by omega) open_deed hf
  simp [Value.cells] at e
  exact ⟨s, l, by rw [e.1, e.2.1, e.2.2], hs, hl⟩
end
end Go.Proofs.Ytaopiefbejajkaa
