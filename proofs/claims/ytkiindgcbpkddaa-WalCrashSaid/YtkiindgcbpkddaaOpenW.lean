/- Turns, numbers, and bytes, opened. -/
import Derived.Test.YtkiindgcbpkddaaRow1
import Derived.Test.YtkiindgcbpkddaaWalE
set_option linter.unusedSimpArgs false
set_option linter.unusedVariables false
namespace Go.Proofs.Ytkiindgcbpkddaa
open Go.ChangeShapes Go.WideShapes Go.RowKit Go.Deep
theorem triple {α : Type} {l : List α} (h : l.length = 3) : ∃ a b c, l = [a, b, c] := by
  match l, h with
  | [a, b, c], _ => exact ⟨a, b, c, rfl⟩
theorem opened {α β : Type} {R : α → β → Prop} : ∀ (l : List α), (∀ x ∈ l, ∃ y, R x y) → ∃ m : List β, l.length = m.length ∧ ∀ k (h : k < l.length) (h2 : k < m.length), R l[k] m[k]
  | [], _ => ⟨[], rfl, fun k h => absurd h (by simp)⟩
  | x :: l, h => by
    obtain ⟨y, hy⟩ := h x List.mem_cons_self
    obtain ⟨m, h1, h2⟩ := opened l (fun z hz => h z (List.mem_cons_of_mem _ hz))
    refine ⟨y :: m, by simp [h1], fun k hk hk2 => ?_⟩
    cases k with
    | zero => exact hy
    | succ k => exact h2 k (by simpa using hk) (by simpa using hk2)
theorem lit_i {n : Int} (h : (Lit.int .i64 n).wf = true) : i64 n := by
  simp [Lit.wf, IntKind.min, IntKind.max, IntKind.bits, IntKind.signed] at h
  exact h
theorem lit_b {n : Int} (h : (Lit.int .u8 n).wf = true) : 0 ≤ n ∧ n ≤ 255 := by
  simp [Lit.wf, IntKind.min, IntKind.max, IntKind.bits, IntKind.signed] at h
  exact h
/-- Numbers behind a slice. -/
def isInts (w : World) (s : Sl) (l : List Int) : Prop := s.n = l.length ∧ s.n ≤ s.c ∧ (l ≠ [] → ∃ b off, s.a = some ⟨b, off, none⟩ ∧ b < w.heap.size ∧ ∀ k (h : k < l.length), w.cell? ⟨b, off + k, none⟩ = some (.int .i64 l[k]))
/-- Bytes behind slices behind a slice. -/
def bytesLs (w : World) (s : Sl) (l : List (List UInt8)) : Prop := ∃ vs, listsZ w (fun _ => True) s vs l
section
variable {H : Type} {enc : TypeId × Value → H} {w : World} {base : Nat} {spare : Nat → Bool} {held : Bool}
set_option maxRecDepth 100000 in
theorem open_turn : ∀ fuel cs (x : DataW H × List MemPlace), DataW.trod enc Try.prog w base spare held fuel 98 cs = some x → ∃ d : Turn, cs = d.arr.toList ∧ d.wf := by
  intro fuel cs x h
  obtain ⟨xs, n, _, _, hl, hxl, hf⟩ := DataW.trod_struct Try.underlying98 h
  have hC : Try.prog.cellsOf 98 = 3 := by kernel_rfl
  have c3 : Try.prog.cellsOf 3 = 1 := by kernel_rfl
  rw [hC] at hl
  have hxl3 : xs.length = 3 := hxl
  obtain ⟨v0, v1, v2, rfl⟩ := triple hl
  have h0 : DataW.trod enc Try.prog w base spare held n 3 (([v0, v1, v2].drop 0).take (Try.prog.cellsOf 3)) = xs[0]? := hf 0 _ rfl
  have h1 : DataW.trod enc Try.prog w base spare held n 3 (([v0, v1, v2].drop 1).take (Try.prog.cellsOf 3)) = xs[1]? := hf 1 _ rfl
  have h2 : DataW.trod enc Try.prog w base spare held n 3 (([v0, v1, v2].drop 2).take (Try.prog.cellsOf 3)) = xs[2]? := hf 2 _ rfl
  rw [List.getElem?_eq_getElem (by omega)] at h0 h1 h2
  rw [c3] at h0 h1 h2
  simp only [List.drop, List.take] at h0 h1 h2
  obtain ⟨k0, e0, _, w0⟩ := DataW.trod_int Try.underlying3 h0
  obtain ⟨k1, e1, _, w1⟩ := DataW.trod_int Try.underlying3 h1
  obtain ⟨k2, e2, _, w2⟩ := DataW.trod_int Try.underlying3 h2
  cases e0; cases e1; cases e2
  exact ⟨⟨k0, k1, k2⟩, rfl, lit_i w0, lit_i w1, lit_i w2⟩
set_option maxRecDepth 100000 in
theorem open_turns {r : Reach} {b0 : Nat} {v : Value} {d : DataW H} {p : List MemPlace} (hv : Value.okWide Try.prog w r b0 89 v) (h : DataW.Trod enc Try.prog w base spare held 89 v d p) :
    ∃ (s : Sl) (l : List Turn), v = .slice s.a s.n s.c ∧ structsAt Turn.arr 3 w s l ∧ ∀ x ∈ l, x.wf := by
  obtain ⟨a, n, c, rfl⟩ := okWide_slice Try.underlying89 hv
  obtain ⟨fuel, hf⟩ := h
  obtain ⟨s, l, e, hs, hl⟩ := open_rows (enc := enc) (P := Try.prog) Turn.arr 3 Turn.wf Try.underlying89 (by kernel_rfl) (by omega) open_turn hf
  simp [Value.cells] at e
  exact ⟨s, l, by rw [e.1, e.2.1, e.2.2], hs, hl⟩
def intA (n : Int) : Array Value := #[.int .i64 n]
def byteA (n : UInt8) : Array Value := #[byteV n]
def slB (s : Sl) : Array Value := #[.slice s.a s.n s.c]
theorem one_row {α : Type} {A : α → Array Value} {f : α → Value} (hA : ∀ x, A x = #[f x]) {s : Sl} {l : List α} (h : structsAt A 1 w s l) : s.n = l.length ∧ s.n ≤ s.c ∧ (l ≠ [] → ∃ b off, s.a = some ⟨b, off, none⟩ ∧ b < w.heap.size ∧ ∀ k (h : k < l.length), w.cell? ⟨b, off + k, none⟩ = some (f l[k])) := by
  refine ⟨h.1, h.2.1, fun hne => ?_⟩
  obtain ⟨b, off, e, hb, hr⟩ := h.2.2.2 hne
  refine ⟨b, off, e, hb, fun k hk => ?_⟩
  have h1 := row?_cellAt (hr k hk) 0 (by decide)
  rw [Nat.mul_one, Nat.add_zero, hA] at h1
  simpa using h1
set_option maxRecDepth 100000 in
theorem open_intsl {r : Reach} {b0 : Nat} {v : Value} {d : DataW H} {p : List MemPlace} (hv : Value.okWide Try.prog w r b0 53 v) (h : DataW.Trod enc Try.prog w base spare held 53 v d p) :
    ∃ (s : Sl) (l : List Int), v = .slice s.a s.n s.c ∧ isInts w s l ∧ ∀ x ∈ l, i64 x := by
  obtain ⟨a, n, c, rfl⟩ := okWide_slice Try.underlying53 hv
  obtain ⟨fuel, hf⟩ := h
  obtain ⟨s, l, e, hs, hl⟩ := open_rows (enc := enc) (P := Try.prog) intA 1 i64 Try.underlying53 (by kernel_rfl) (by omega) (fun fuel cs x h => by
    obtain ⟨k0, e0, _, w0⟩ := DataW.trod_int Try.underlying3 h
    exact ⟨k0, e0, lit_i w0⟩) hf
  simp [Value.cells] at e
  exact ⟨s, l, by rw [e.1, e.2.1, e.2.2], one_row (fun _ => rfl) hs, hl⟩
theorem open_bytes : ∀ fuel cs (x : DataW H × List MemPlace), DataW.trod enc Try.prog w base spare held fuel 102 cs = some x → ∃ s : Sl, cs = (slB s).toList ∧ ∃ l, bytesZ w (fun _ => True) s l := by
  intro fuel cs x h
  obtain ⟨s, l, e, hs, hl⟩ := open_rows (enc := enc) (P := Try.prog) byteA 1 (fun _ => True) Try.underlying102 (by kernel_rfl) (by omega) (fun fuel cs x h => by
    obtain ⟨k0, e0, _, w0⟩ := DataW.trod_int Try.underlying5 h
    have hk := lit_b w0
    obtain ⟨m, rfl⟩ := Int.eq_ofNat_of_zero_le hk.1
    refine ⟨UInt8.ofNat m, ?_, trivial⟩
    rw [e0]
    show [Value.int .u8 (m : Nat)] = [byteV (UInt8.ofNat m)]
    rw [byteV_ofNat, Nat.mod_eq_of_lt (by omega)]) h
  obtain ⟨h1, h2, h3⟩ := one_row (f := byteV) (fun _ => rfl) hs
  exact ⟨s, e, l, h1, h2, fun hne => by
    obtain ⟨b, off, a, b', c⟩ := h3 hne
    exact ⟨b, off, a, trivial, b', c⟩⟩
set_option maxRecDepth 100000 in
theorem open_bytesl {r : Reach} {b0 : Nat} {v : Value} {d : DataW H} {p : List MemPlace} (hv : Value.okWide Try.prog w r b0 95 v) (h : DataW.Trod enc Try.prog w base spare held 95 v d p) :
    ∃ (s : Sl) (l : List (List UInt8)), v = .slice s.a s.n s.c ∧ bytesLs w s l := by
  obtain ⟨a, n, c, rfl⟩ := okWide_slice Try.underlying95 hv
  obtain ⟨fuel, hf⟩ := h
  obtain ⟨s, ss, e, m, g⟩ := open_rows (enc := enc) (P := Try.prog) slB 1 (fun s => ∃ l, bytesZ w (fun _ => True) s l) Try.underlying95 (by kernel_rfl) (by omega) open_bytes hf
  simp [Value.cells] at e
  obtain ⟨l, h1, h2⟩ := opened (R := fun s (l : List UInt8) => bytesZ w (fun _ => True) s l) ss g
  obtain ⟨k1, k2, k3⟩ := one_row (f := fun s : Sl => Value.slice s.a s.n s.c) (fun _ => rfl) m
  refine ⟨s, l, by rw [e.1, e.2.1, e.2.2], ss, by omega, k2, h1, fun hne => ?_, fun k hk hk2 => h2 k hk2 hk⟩
  obtain ⟨b, off, a, b', c⟩ := k3 (fun e => hne (List.eq_nil_of_length_eq_zero (by rw [← h1, e]; rfl)))
  exact ⟨b, off, a, trivial, b', c⟩
end
end Go.Proofs.Ytkiindgcbpkddaa
