/- Asks, opened. -/
import Derived.Test.YtlkojkjeklblkaaGreatOpenT
set_option linter.unusedSimpArgs false
set_option linter.unusedVariables false
namespace Go.Proofs.YtlkojkjeklblkaaGreat
open Go.ChangeShapes Go.WideShapes Go.RowKit Go.Deep
section
variable {H : Type} {enc : TypeId × Value → H} {w : World} {base : Nat} {spare : Nat → Bool} {held : Bool}
set_option maxRecDepth 100000 in
theorem open_dreg : ∀ fuel cs (x : DataW H × List MemPlace), DataW.trod enc Tryz.prog w base spare held fuel 42 cs = some x → ∃ d : DReg, cs = d.arr.toList ∧ d.wf := by
  intro fuel cs x h
  obtain ⟨xs, n, _, _, hl, hxl, hf⟩ := DataW.trod_struct Tryz.underlying42 h
  have hC : Tryz.prog.cellsOf 42 = 68 := by kernel_rfl
  have c0 : Tryz.prog.cellsOf 38 = 32 := by kernel_rfl
  have c1 : Tryz.prog.cellsOf 3 = 1 := by kernel_rfl
  have c2 : Tryz.prog.cellsOf 40 = 33 := by kernel_rfl
  rw [hC] at hl
  have hxl2 : xs.length = 5 := hxl
  have h0 : DataW.trod enc Tryz.prog w base spare held n 3 ((cs.drop 0).take (Tryz.prog.cellsOf 3)) = xs[0]? := hf 0 _ rfl
  have h1 : DataW.trod enc Tryz.prog w base spare held n 38 ((cs.drop 1).take (Tryz.prog.cellsOf 38)) = xs[1]? := hf 1 _ rfl
  have h2 : DataW.trod enc Tryz.prog w base spare held n 3 ((cs.drop 33).take (Tryz.prog.cellsOf 3)) = xs[2]? := hf 2 _ rfl
  have h3 : DataW.trod enc Tryz.prog w base spare held n 40 ((cs.drop 34).take (Tryz.prog.cellsOf 40)) = xs[3]? := hf 3 _ rfl
  have h4 : DataW.trod enc Tryz.prog w base spare held n 3 ((cs.drop 67).take (Tryz.prog.cellsOf 3)) = xs[4]? := hf 4 _ rfl
  rw [List.getElem?_eq_getElem (by omega)] at h0 h1 h2 h3 h4
  rw [c1] at h0 h2 h4
  rw [c0] at h1
  rw [c2] at h3
  obtain ⟨k0, e0, _, w0⟩ := DataW.trod_int Tryz.underlying3 h0
  obtain ⟨d1, e1⟩ := open_hash _ _ _ h1
  obtain ⟨k2, e2, _, w2⟩ := DataW.trod_int Tryz.underlying3 h2
  obtain ⟨d3, e3, w3⟩ := open_point _ _ _ h3
  obtain ⟨k4, e4, _, w4⟩ := DataW.trod_int Tryz.underlying3 h4
  refine ⟨⟨k0, d1, k2, d3, k4⟩, ?_, lit_i64 w0, lit_i64 w2, w3, lit_i64 w4⟩
  have e4' : cs.drop 67 = [.int .i64 k4] := by rw [← e4, List.take_of_length_le (by simp; omega)]
  have hh : cs = cs.drop 0 := rfl
  rw [hh, drop_cut cs 0 1, e0, drop_cut cs (0 + 1) 32, e1, drop_cut cs (0 + 1 + 32) 1, e2, drop_cut cs (0 + 1 + 32 + 1) 33, e3, e4']
  simp [DReg.arr]
set_option maxRecDepth 100000 in
theorem open_ask : ∀ fuel cs (x : DataW H × List MemPlace), DataW.trod enc Tryz.prog w base spare held fuel 45 cs = some x → ∃ d : Ask, cs = d.arr.toList ∧ d.kind = d.kind ∧ i64 d.kind ∧ d.r.wf ∧ i64 d.n ∧ ∃ vs l, txsIn w (fun _ => True) d.txs vs l ∧ ∀ t ∈ l, t.wf := by
  intro fuel cs x h
  obtain ⟨xs, n, _, _, hl, hxl, hf⟩ := DataW.trod_struct Tryz.underlying45 h
  have hC : Tryz.prog.cellsOf 45 = 71 := by kernel_rfl
  have c0 : Tryz.prog.cellsOf 42 = 68 := by kernel_rfl
  have c1 : Tryz.prog.cellsOf 3 = 1 := by kernel_rfl
  have c2 : Tryz.prog.cellsOf 43 = 1 := by kernel_rfl
  rw [hC] at hl
  have hxl2 : xs.length = 4 := hxl
  have h0 : DataW.trod enc Tryz.prog w base spare held n 3 ((cs.drop 0).take (Tryz.prog.cellsOf 3)) = xs[0]? := hf 0 _ rfl
  have h1 : DataW.trod enc Tryz.prog w base spare held n 42 ((cs.drop 1).take (Tryz.prog.cellsOf 42)) = xs[1]? := hf 1 _ rfl
  have h2 : DataW.trod enc Tryz.prog w base spare held n 3 ((cs.drop 69).take (Tryz.prog.cellsOf 3)) = xs[2]? := hf 2 _ rfl
  have h3 : DataW.trod enc Tryz.prog w base spare held n 43 ((cs.drop 70).take (Tryz.prog.cellsOf 43)) = xs[3]? := hf 3 _ rfl
  rw [List.getElem?_eq_getElem (by omega)] at h0 h1 h2 h3
  rw [c1] at h0 h2
  rw [c0] at h1
  rw [c2] at h3
  obtain ⟨k0, e0, _, w0⟩ := DataW.trod_int Tryz.underlying3 h0
  obtain ⟨d1, e1, w1⟩ := open_dreg _ _ _ h1
  obtain ⟨k2, e2, _, w2⟩ := DataW.trod_int Tryz.underlying3 h2
  obtain ⟨s3, e3, vs, l, ht, hw⟩ := open_txs _ _ _ h3
  refine ⟨⟨k0, d1, k2, s3⟩, ?_, rfl, lit_i64 w0, w1, lit_i64 w2, vs, l, ht, hw⟩
  have e3' : cs.drop 70 = (slA s3).toList := by rw [← e3, List.take_of_length_le (by simp; omega)]
  have hh : cs = cs.drop 0 := rfl
  rw [hh, drop_cut cs 0 1, e0, drop_cut cs (0 + 1) 68, e1, drop_cut cs (0 + 1 + 68) 1, e2, e3']
  simp [Ask.arr, slA]
/-- Asks behind a slice: their structs, and the transactions of each. -/
structure AsksAt (w : World) (s : Sl) (L : List (Ask × List Tx)) : Prop where
  rows : slIn w (fun _ => True) s 71 Ask.arr (L.map (·.1))
  txs : ∀ x ∈ L, ∃ vs, txsIn w (fun _ => True) x.1.txs vs x.2
def askWf (x : Ask × List Tx) : Prop := i64 x.1.kind ∧ x.1.r.wf ∧ i64 x.1.n ∧ ∀ t ∈ x.2, t.wf
theorem choose_pairs {α β : Type} {R : α → β → Prop} : ∀ (l : List α), (∀ x ∈ l, ∃ y, R x y) → ∃ m : List (α × β), m.map (·.1) = l ∧ ∀ x ∈ m, R x.1 x.2
  | [], _ => ⟨[], rfl, fun x h => by cases h⟩
  | x :: l, h => by
    obtain ⟨y, hy⟩ := h x List.mem_cons_self
    obtain ⟨m, h1, h2⟩ := choose_pairs l (fun z hz => h z (List.mem_cons_of_mem _ hz))
    refine ⟨(x, y) :: m, by simp [h1], fun z hz => ?_⟩
    rcases List.mem_cons.1 hz with rfl | hz
    · exact hy
    · exact h2 z hz
set_option maxRecDepth 100000 in
theorem open_asks {r : Reach} {b0 : Nat} {v : Value} {d : DataW H} {p : List MemPlace} (hv : Value.okWide Tryz.prog w r b0 22 v) (h : DataW.Trod enc Tryz.prog w base spare held 22 v d p) :
    ∃ (s : Sl) (L : List (Ask × List Tx)), v = .slice s.a s.n s.c ∧ AsksAt w s L ∧ ∀ x ∈ L, askWf x := by
  obtain ⟨a, n, c, rfl⟩ := okWide_slice Tryz.underlying22 hv
  obtain ⟨fuel, hf⟩ := h
  obtain ⟨s, ss, e, m, g⟩ := open_rows (enc := enc) (P := Tryz.prog) Ask.arr 71 (fun d => d.kind = d.kind ∧ i64 d.kind ∧ d.r.wf ∧ i64 d.n ∧ ∃ vs l, txsIn w (fun _ => True) d.txs vs l ∧ ∀ t ∈ l, t.wf) Tryz.underlying22 (by kernel_rfl) (by omega) open_ask hf
  simp [Value.cells] at e
  obtain ⟨L, h1, h2⟩ := choose_pairs (R := fun (d : Ask) (l : List Tx) => (i64 d.kind ∧ d.r.wf ∧ i64 d.n) ∧ ∃ vs, txsIn w (fun _ => True) d.txs vs l ∧ ∀ t ∈ l, t.wf) ss (fun x hx => by obtain ⟨_, a, b, c, vs, l, h, h'⟩ := g x hx; exact ⟨l, ⟨a, b, c⟩, vs, h, h'⟩)
  refine ⟨s, L, by rw [e.1, e.2.1, e.2.2], ⟨by rw [h1]; exact slIn_structs m, fun x hx => ?_⟩, fun x hx => ?_⟩
  · obtain ⟨_, vs, a, _⟩ := h2 x hx; exact ⟨vs, a⟩
  · obtain ⟨⟨a, b, c⟩, vs, _, h⟩ := h2 x hx; exact ⟨a, b, c, h⟩
end
end Go.Proofs.YtlkojkjeklblkaaGreat
