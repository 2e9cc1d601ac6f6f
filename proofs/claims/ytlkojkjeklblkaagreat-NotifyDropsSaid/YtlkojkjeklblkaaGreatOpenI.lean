/- Numbers behind a slice, opened. -/
import Derived.Test.YtlkojkjeklblkaaGreatRow1
set_option linter.unusedSimpArgs false
set_option linter.unusedVariables false
namespace Go.Proofs.YtlkojkjeklblkaaGreat
open Go.ChangeShapes Go.WideShapes Go.RowKit Go.Deep
theorem lit_i {n : Int} (h : (Lit.int .i64 n).wf = true) : i64 n := by
  simp [Lit.wf, IntKind.min, IntKind.max, IntKind.bits, IntKind.signed] at h
  exact h
/-- Numbers behind a slice. -/
def isInts (w : World) (s : Sl) (l : List Int) : Prop := s.n = l.length ∧ s.n ≤ s.c ∧ (l ≠ [] → ∃ b off, s.a = some ⟨b, off, none⟩ ∧ b < w.heap.size ∧ ∀ k (h : k < l.length), w.cell? ⟨b, off + k, none⟩ = some (.int .i64 l[k]))
section
variable {H : Type} {enc : TypeId × Value → H} {w : World} {base : Nat} {spare : Nat → Bool} {held : Bool}
def intA (n : Int) : Array Value := #[.int .i64 n]
theorem one_row {α : Type} {A : α → Array Value} {f : α → Value} (hA : ∀ x, A x = #[f x]) {s : Sl} {l : List α} (h : structsAt A 1 w s l) : s.n = l.length ∧ s.n ≤ s.c ∧ (l ≠ [] → ∃ b off, s.a = some ⟨b, off, none⟩ ∧ b < w.heap.size ∧ ∀ k (h : k < l.length), w.cell? ⟨b, off + k, none⟩ = some (f l[k])) := by
  refine ⟨h.1, h.2.1, fun hne => ?_⟩
  obtain ⟨b, off, e, hb, hr⟩ := h.2.2.2 hne
  refine ⟨b, off, e, hb, fun k hk => ?_⟩
  have h1 := row?_cellAt (hr k hk) 0 (by decide)
  rw [Nat.mul_one, Nat.add_zero, hA] at h1
  simpa using h1
set_option maxRecDepth 100000 in
theorem open_intsl {r : Reach} {b0 : Nat} {v : Value} {d : DataW H} {p : List MemPlace} (hv : Value.okWide Tryz.prog w r b0 75 v) (h : DataW.Trod enc Tryz.prog w base spare held 75 v d p) :
    ∃ (s : Sl) (l : List Int), v = .slice s.a s.n s.c ∧ isInts w s l ∧ ∀ x ∈ l, i64 x := by
  obtain ⟨a, n, c, rfl⟩ := okWide_slice Tryz.underlying75 hv
  obtain ⟨fuel, hf⟩ := h
  obtain ⟨s, l, e, hs, hl⟩ := open_rows (enc := enc) (P := Tryz.prog) intA 1 i64 Tryz.underlying75 (by kernel_rfl) (by omega) (fun fuel cs x h => by
    obtain ⟨k0, e0, _, w0⟩ := DataW.trod_int Tryz.underlying3 h
    exact ⟨k0, e0, lit_i w0⟩) hf
  simp [Value.cells] at e
  exact ⟨s, l, by rw [e.1, e.2.1, e.2.2], one_row (fun _ => rfl) hs, hl⟩
end
end Go.Proofs.YtlkojkjeklblkaaGreat
