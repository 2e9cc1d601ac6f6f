/- Transactions, opened: hashes, places, witnesses, inputs, scripts, outputs; slices of transactions, and slices of those. -/
import Derived.Test.YtlkojkjeklblkaaGreatRow1
import Derived.Test.YtlkojkjeklblkaaGreatIdxJ
set_option linter.unusedSimpArgs false
set_option linter.unusedVariables false
namespace Go.Proofs.YtlkojkjeklblkaaGreat
open Go.ChangeShapes Go.WideShapes Go.RowKit Go.Deep
theorem cut2 {α : Type} (cs : List α) (a b : Nat) (h : cs.length = a + b) : cs = (cs.drop 0).take a ++ (cs.drop a).take b := by
  rw [List.drop_zero, List.take_of_length_le (l := cs.drop a) (by simp; omega), List.take_append_drop]
theorem cut3 {α : Type} (cs : List α) (a b c : Nat) (h : cs.length = a + b + c) : cs = (cs.drop 0).take a ++ ((cs.drop a).take b ++ (cs.drop (a + b)).take c) := by
  have h1 := cut2 cs a (b + c) (by omega)
  have h2 : (cs.drop a).take (b + c) = (cs.drop a).take b ++ (cs.drop (a + b)).take c := by
    rw [List.take_add, List.drop_drop]
  rw [← h2]; exact h1
section
variable {H : Type} {enc : TypeId × Value → H} {w : World} {base : Nat} {spare : Nat → Bool} {held : Bool}
theorem lit_i64 {n : Int} (h : (Lit.int .i64 n).wf = true) : i64 n := by
  simp [Lit.wf, IntKind.min, IntKind.max, IntKind.bits, IntKind.signed] at h
  exact h
theorem lit_u8 {n : Int} (h : (Lit.int .u8 n).wf = true) : 0 ≤ n ∧ n ≤ 255 := by
  simp [Lit.wf, IntKind.min, IntKind.max, IntKind.bits, IntKind.signed] at h
  exact h
set_option maxRecDepth 100000 in
theorem open_hash : ∀ fuel cs (x : DataW H × List MemPlace), DataW.trod enc Tryz.prog w base spare held fuel 38 cs = some x → ∃ h : Hash, cs = h.arr.toList := by
  intro fuel cs x h
  obtain ⟨xs, m, _, _, hl, hxl, hf⟩ := DataW.trod_array Tryz.underlying38 h
  have hC : Tryz.prog.cellsOf 38 = 32 := by kernel_rfl
  have c1 : Tryz.prog.cellsOf 5 = 1 := by kernel_rfl
  rw [hC] at hl
  have hb : ∀ i (hi : i < cs.length), ∃ b : UInt8, cs[i] = byteV b := by
    intro i hi
    have h1 := hf i (by omega)
    rw [c1, Nat.mul_one, List.getElem?_eq_getElem (by omega)] at h1
    obtain ⟨k, e, _, hw⟩ := DataW.trod_int Tryz.underlying5 h1
    obtain ⟨h0, h255⟩ := lit_u8 hw
    have e2 : cs[i] = .int .u8 k := by
      have := congrArg (fun l => l[0]?) e
      simp only [List.getElem?_take, List.getElem?_drop, Nat.add_zero, List.getElem?_cons_zero] at this
      rw [if_pos (by omega), List.getElem?_eq_getElem hi] at this
      injection this
    refine ⟨UInt8.ofNat k.toNat, ?_⟩
    rw [e2, byteV_ofNat, Nat.mod_eq_of_lt (by omega), Int.toNat_of_nonneg h0]
  have hm : ∀ k, k ≤ cs.length → ∃ l : List UInt8, l.length = k ∧ cs.take k = l.map byteV := by
    intro k
    induction k with
    | zero => intro _; exact ⟨[], rfl, rfl⟩
    | succ k ih =>
      intro hk
      obtain ⟨l, h1, h2⟩ := ih (by omega)
      obtain ⟨b, hb⟩ := hb k (by omega)
      exact ⟨l ++ [b], by simp [h1], by rw [List.take_succ_eq_append_getElem (by omega), h2, hb]; simp⟩
  obtain ⟨l, h1, h2⟩ := hm cs.length (Nat.le_refl _)
  rw [List.take_length] at h2
  exact ⟨⟨l, h1.trans hl⟩, h2.trans (by simp [Hash.arr])⟩
set_option maxRecDepth 100000 in
theorem open_point : ∀ fuel cs (x : DataW H × List MemPlace), DataW.trod enc Tryz.prog w base spare held fuel 40 cs = some x → ∃ d : Outpoint, cs = d.arr.toList ∧ d.wf := by
  intro fuel cs x h
  obtain ⟨xs, n, _, _, hl, hxl, hf⟩ := DataW.trod_struct Tryz.underlying40 h
  have hC : Tryz.prog.cellsOf 40 = 33 := by kernel_rfl
  have c0 : Tryz.prog.cellsOf 38 = 32 := by kernel_rfl
  have c1 : Tryz.prog.cellsOf 3 = 1 := by kernel_rfl
  rw [hC] at hl
  have hxl2 : xs.length = 2 := hxl
  have h0 : DataW.trod enc Tryz.prog w base spare held n 38 ((cs.drop 0).take (Tryz.prog.cellsOf 38)) = xs[0]? := hf 0 _ rfl
  have h1 : DataW.trod enc Tryz.prog w base spare held n 3 ((cs.drop 32).take (Tryz.prog.cellsOf 3)) = xs[1]? := hf 1 _ rfl
  rw [List.getElem?_eq_getElem (by omega)] at h0 h1
  rw [c0] at h0
  rw [c1] at h1
  obtain ⟨d0, e0⟩ := open_hash _ _ _ h0
  obtain ⟨k1, e1, _, w1⟩ := DataW.trod_int Tryz.underlying3 h1
  refine ⟨⟨d0, k1⟩, ?_, lit_i64 w1⟩
  rw [cut2 cs 32 1 hl, e0, e1]
  simp [Outpoint.arr]
set_option maxRecDepth 100000 in
theorem open_wit : ∀ fuel cs (x : DataW H × List MemPlace), DataW.trod enc Tryz.prog w base spare held fuel 66 cs = some x → ∃ d : Witness, cs = d.arr.toList ∧ d.wf := by
  intro fuel cs x h
  obtain ⟨xs, n, _, _, hl, hxl, hf⟩ := DataW.trod_struct Tryz.underlying66 h
  have hC : Tryz.prog.cellsOf 66 = 3 := by kernel_rfl
  have c1 : Tryz.prog.cellsOf 3 = 1 := by kernel_rfl
  have c2 : Tryz.prog.cellsOf 9 = 1 := by kernel_rfl
  rw [hC] at hl
  have hxl3 : xs.length = 3 := hxl
  have h0 : DataW.trod enc Tryz.prog w base spare held n 3 ((cs.drop 0).take (Tryz.prog.cellsOf 3)) = xs[0]? := hf 0 _ rfl
  have h1 : DataW.trod enc Tryz.prog w base spare held n 3 ((cs.drop 1).take (Tryz.prog.cellsOf 3)) = xs[1]? := hf 1 _ rfl
  have h2 : DataW.trod enc Tryz.prog w base spare held n 9 ((cs.drop 2).take (Tryz.prog.cellsOf 9)) = xs[2]? := hf 2 _ rfl
  rw [List.getElem?_eq_getElem (by omega)] at h0 h1 h2
  rw [c1] at h0 h1
  rw [c2] at h2
  obtain ⟨k0, e0, _, w0⟩ := DataW.trod_int Tryz.underlying3 h0
  obtain ⟨k1, e1, _, w1⟩ := DataW.trod_int Tryz.underlying3 h1
  obtain ⟨s2, e2, _, w2⟩ := DataW.trod_string Tryz.underlying9 h2
  refine ⟨⟨k0, k1, s2⟩, ?_, lit_i64 w0, lit_i64 w1, w2⟩
  rw [cut3 cs 1 1 1 hl, e0, e1, e2]
  simp [Witness.arr]
set_option maxRecDepth 100000 in
theorem open_in : ∀ fuel cs (x : DataW H × List MemPlace), DataW.trod enc Tryz.prog w base spare held fuel 68 cs = some x → ∃ d : In, cs = d.arr.toList ∧ d.wf := by
  intro fuel cs x h
  obtain ⟨xs, n, _, _, hl, hxl, hf⟩ := DataW.trod_struct Tryz.underlying68 h
  have hC : Tryz.prog.cellsOf 68 = 37 := by kernel_rfl
  have c0 : Tryz.prog.cellsOf 40 = 33 := by kernel_rfl
  have c1 : Tryz.prog.cellsOf 3 = 1 := by kernel_rfl
  have c2 : Tryz.prog.cellsOf 66 = 3 := by kernel_rfl
  rw [hC] at hl
  have hxl3 : xs.length = 3 := hxl
  have h0 : DataW.trod enc Tryz.prog w base spare held n 40 ((cs.drop 0).take (Tryz.prog.cellsOf 40)) = xs[0]? := hf 0 _ rfl
  have h1 : DataW.trod enc Tryz.prog w base spare held n 3 ((cs.drop 33).take (Tryz.prog.cellsOf 3)) = xs[1]? := hf 1 _ rfl
  have h2 : DataW.trod enc Tryz.prog w base spare held n 66 ((cs.drop 34).take (Tryz.prog.cellsOf 66)) = xs[2]? := hf 2 _ rfl
  rw [List.getElem?_eq_getElem (by omega)] at h0 h1 h2
  rw [c0] at h0
  rw [c1] at h1
  rw [c2] at h2
  obtain ⟨d0, e0, w0⟩ := open_point _ _ _ h0
  obtain ⟨k1, e1, _, w1⟩ := DataW.trod_int Tryz.underlying3 h1
  obtain ⟨d2, e2, w2⟩ := open_wit _ _ _ h2
  refine ⟨⟨d0, k1, d2⟩, ?_, w0, lit_i64 w1, w2⟩
  rw [cut3 cs 33 1 3 hl, e0, e1, e2]
  simp [In.arr]
theorem drop_cut {α : Type} (cs : List α) (a b : Nat) : cs.drop a = (cs.drop a).take b ++ cs.drop (a + b) := by
  rw [← List.drop_drop]; exact (List.take_append_drop b (cs.drop a)).symm
set_option maxRecDepth 100000 in
theorem open_script : ∀ fuel cs (x : DataW H × List MemPlace), DataW.trod enc Tryz.prog w base spare held fuel 194 cs = some x → ∃ d : Script, cs = d.arr.toList ∧ d.wf := by
  intro fuel cs x h
  obtain ⟨xs, n, _, _, hl, hxl, hf⟩ := DataW.trod_struct Tryz.underlying194 h
  have hC : Tryz.prog.cellsOf 194 = 38 := by kernel_rfl
  have c1 : Tryz.prog.cellsOf 3 = 1 := by kernel_rfl
  have c6 : Tryz.prog.cellsOf 38 = 32 := by kernel_rfl
  rw [hC] at hl
  have hxl7 : xs.length = 7 := hxl
  have h0 : DataW.trod enc Tryz.prog w base spare held n 3 ((cs.drop 0).take (Tryz.prog.cellsOf 3)) = xs[0]? := hf 0 _ rfl
  have h1 : DataW.trod enc Tryz.prog w base spare held n 3 ((cs.drop 1).take (Tryz.prog.cellsOf 3)) = xs[1]? := hf 1 _ rfl
  have h2 : DataW.trod enc Tryz.prog w base spare held n 3 ((cs.drop 2).take (Tryz.prog.cellsOf 3)) = xs[2]? := hf 2 _ rfl
  have h3 : DataW.trod enc Tryz.prog w base spare held n 3 ((cs.drop 3).take (Tryz.prog.cellsOf 3)) = xs[3]? := hf 3 _ rfl
  have h4 : DataW.trod enc Tryz.prog w base spare held n 3 ((cs.drop 4).take (Tryz.prog.cellsOf 3)) = xs[4]? := hf 4 _ rfl
  have h5 : DataW.trod enc Tryz.prog w base spare held n 3 ((cs.drop 5).take (Tryz.prog.cellsOf 3)) = xs[5]? := hf 5 _ rfl
  have h6 : DataW.trod enc Tryz.prog w base spare held n 38 ((cs.drop 6).take (Tryz.prog.cellsOf 38)) = xs[6]? := hf 6 _ rfl
  rw [List.getElem?_eq_getElem (by omega)] at h0 h1 h2 h3 h4 h5 h6
  rw [c1] at h0 h1 h2 h3 h4 h5
  rw [c6] at h6
  obtain ⟨k0, e0, _, w0⟩ := DataW.trod_int Tryz.underlying3 h0
  obtain ⟨k1, e1, _, w1⟩ := DataW.trod_int Tryz.underlying3 h1
  obtain ⟨k2, e2, _, w2⟩ := DataW.trod_int Tryz.underlying3 h2
  obtain ⟨k3, e3, _, w3⟩ := DataW.trod_int Tryz.underlying3 h3
  obtain ⟨k4, e4, _, w4⟩ := DataW.trod_int Tryz.underlying3 h4
  obtain ⟨k5, e5, _, w5⟩ := DataW.trod_int Tryz.underlying3 h5
  obtain ⟨d6, e6⟩ := open_hash _ _ _ h6
  refine ⟨⟨k0, k1, k2, k3, k4, k5, d6⟩, ?_, lit_i64 w0, lit_i64 w1, lit_i64 w2, lit_i64 w3, lit_i64 w4, lit_i64 w5⟩
  have e6' : cs.drop 6 = d6.arr.toList := by rw [← e6, List.take_of_length_le (by simp; omega)]
  have hh : cs = cs.drop 0 := rfl
  rw [hh, drop_cut cs 0 1, e0, drop_cut cs (0 + 1) 1, e1, drop_cut cs (0 + 1 + 1) 1, e2, drop_cut cs (0 + 1 + 1 + 1) 1, e3, drop_cut cs (0 + 1 + 1 + 1 + 1) 1, e4, drop_cut cs (0 + 1 + 1 + 1 + 1 + 1) 1, e5, e6']
  rfl
set_option maxRecDepth 100000 in
theorem open_out : ∀ fuel cs (x : DataW H × List MemPlace), DataW.trod enc Tryz.prog w base spare held fuel 196 cs = some x → ∃ d : Out, cs = d.arr.toList ∧ d.wf := by
  intro fuel cs x h
  obtain ⟨xs, n, _, _, hl, hxl, hf⟩ := DataW.trod_struct Tryz.underlying196 h
  have hC : Tryz.prog.cellsOf 196 = 39 := by kernel_rfl
  have c0 : Tryz.prog.cellsOf 3 = 1 := by kernel_rfl
  have c1 : Tryz.prog.cellsOf 194 = 38 := by kernel_rfl
  rw [hC] at hl
  have hxl2 : xs.length = 2 := hxl
  have h0 : DataW.trod enc Tryz.prog w base spare held n 3 ((cs.drop 0).take (Tryz.prog.cellsOf 3)) = xs[0]? := hf 0 _ rfl
  have h1 : DataW.trod enc Tryz.prog w base spare held n 194 ((cs.drop 1).take (Tryz.prog.cellsOf 194)) = xs[1]? := hf 1 _ rfl
  rw [List.getElem?_eq_getElem (by omega)] at h0 h1
  rw [c0] at h0
  rw [c1] at h1
  obtain ⟨k0, e0, _, w0⟩ := DataW.trod_int Tryz.underlying3 h0
  obtain ⟨d1, e1, w1⟩ := open_script _ _ _ h1
  refine ⟨⟨k0, d1⟩, ?_, lit_i64 w0, w1⟩
  rw [cut2 cs 1 38 hl, e0, e1]
  simp [Out.arr]
theorem slIn_structs {α : Type} {A : α → Array Value} {n : Nat} {s : Sl} {l : List α} (h : structsAt A n w s l) : slIn w (fun _ => True) s n A l := by
  refine ⟨h.1, h.2.1, h.2.2.1, fun hne => ?_⟩
  obtain ⟨b, off, e, hb, hr⟩ := h.2.2.2 hne
  exact ⟨b, off, e, trivial, hb, hr⟩
def Tx.wf (t : Tx) : Prop := (∀ x ∈ t.ins, x.wf) ∧ (∀ x ∈ t.outs, x.wf) ∧ i64 t.lock
set_option maxRecDepth 100000 in
theorem open_txv : ∀ fuel cs (x : DataW H × List MemPlace), DataW.trod enc Tryz.prog w base spare held fuel 72 cs = some x → ∃ v : TxV, cs = v.arr.toList ∧ ∃ t : Tx, txIn w (fun _ => True) v t ∧ t.wf := by
  intro fuel cs x h
  obtain ⟨xs, n, _, _, hl, hxl, hf⟩ := DataW.trod_struct Tryz.underlying72 h
  have hC : Tryz.prog.cellsOf 72 = 3 := by kernel_rfl
  have c0 : Tryz.prog.cellsOf 69 = 1 := by kernel_rfl
  have c1 : Tryz.prog.cellsOf 70 = 1 := by kernel_rfl
  have c2 : Tryz.prog.cellsOf 3 = 1 := by kernel_rfl
  rw [hC] at hl
  have hxl3 : xs.length = 3 := hxl
  have h0 : DataW.trod enc Tryz.prog w base spare held n 69 ((cs.drop 0).take (Tryz.prog.cellsOf 69)) = xs[0]? := hf 0 _ rfl
  have h1 : DataW.trod enc Tryz.prog w base spare held n 70 ((cs.drop 1).take (Tryz.prog.cellsOf 70)) = xs[1]? := hf 1 _ rfl
  have h2 : DataW.trod enc Tryz.prog w base spare held n 3 ((cs.drop 2).take (Tryz.prog.cellsOf 3)) = xs[2]? := hf 2 _ rfl
  rw [List.getElem?_eq_getElem (by omega)] at h0 h1 h2
  rw [c0] at h0
  rw [c1] at h1
  rw [c2] at h2
  obtain ⟨s0, l0, e0, m0, g0⟩ := open_rows (enc := enc) (P := Tryz.prog) In.arr 37 In.wf Tryz.underlying69 (by kernel_rfl) (by omega) open_in h0
  obtain ⟨s1, l1, e1, m1, g1⟩ := open_rows (enc := enc) (P := Tryz.prog) Out.arr 39 Out.wf Tryz.underlying70 (by kernel_rfl) (by omega) open_out h1
  obtain ⟨k2, e2, _, w2⟩ := DataW.trod_int Tryz.underlying3 h2
  refine ⟨⟨s0, s1, k2⟩, ?_, ⟨l0, l1, k2⟩, ⟨slIn_structs m0, slIn_structs m1, rfl⟩, g0, g1, lit_i64 w2⟩
  rw [cut3 cs 1 1 1 hl, e0, e1, e2]
  rfl
/-- A list of things chosen for each of a list. -/
theorem choose_list {α β : Type} {R : α → β → Prop} : ∀ (l : List α), (∀ x ∈ l, ∃ y, R x y) → ∃ m : List β, l.length = m.length ∧ ∀ k (h : k < l.length) (h2 : k < m.length), R l[k] m[k]
  | [], _ => ⟨[], rfl, fun k h => absurd h (by simp)⟩
  | x :: l, h => by
    obtain ⟨y, hy⟩ := h x List.mem_cons_self
    obtain ⟨m, h1, h2⟩ := choose_list l (fun z hz => h z (List.mem_cons_of_mem _ hz))
    refine ⟨y :: m, by simp [h1], fun k hk hk2 => ?_⟩
    cases k with
    | zero => exact hy
    | succ k => exact h2 k (by simpa using hk) (by simpa using hk2)
def slA (s : Sl) : Array Value := #[.slice s.a s.n s.c]
theorem open_txs : ∀ fuel cs (x : DataW H × List MemPlace), DataW.trod enc Tryz.prog w base spare held fuel 43 cs = some x → ∃ s : Sl, cs = (slA s).toList ∧ ∃ vs l, txsIn w (fun _ => True) s vs l ∧ ∀ t ∈ l, t.wf := by
  intro fuel cs x h
  obtain ⟨s, vs, e, m, g⟩ := open_rows (enc := enc) (P := Tryz.prog) TxV.arr 3 (fun v => ∃ t : Tx, txIn w (fun _ => True) v t ∧ t.wf) Tryz.underlying43 (by kernel_rfl) (by omega) open_txv h
  obtain ⟨l, h1, h2⟩ := choose_list vs g
  refine ⟨s, e, vs, l, ⟨slIn_structs m, h1, fun k hk hk2 => (h2 k hk hk2).1⟩, fun t ht => ?_⟩
  obtain ⟨k, hk, rfl⟩ := List.mem_iff_getElem.1 ht
  exact (h2 k (by omega) hk).2
/-- Blocks of transactions behind a slice. -/
def txLLs (w : World) (s : Sl) (l : List (List Tx)) : Prop :=
  ∃ ss : List Sl, slIn w (fun _ => True) s 1 slA ss ∧ ss.length = l.length ∧ ∀ k (h : k < ss.length) (h2 : k < l.length), ∃ vs, txsIn w (fun _ => True) ss[k] vs l[k]
set_option maxRecDepth 100000 in
theorem open_txll {r : Reach} {b0 : Nat} {v : Value} {d : DataW H} {p : List MemPlace} (hv : Value.okWide Tryz.prog w r b0 30 v) (h : DataW.Trod enc Tryz.prog w base spare held 30 v d p) :
    ∃ (s : Sl) (l : List (List Tx)), v = .slice s.a s.n s.c ∧ txLLs w s l ∧ ∀ x ∈ l, ∀ y ∈ x, y.wf := by
  obtain ⟨a, n, c, rfl⟩ := okWide_slice Tryz.underlying30 hv
  obtain ⟨fuel, hf⟩ := h
  obtain ⟨s, ss, e, m, g⟩ := open_rows (enc := enc) (P := Tryz.prog) slA 1 (fun s => ∃ vs l, txsIn w (fun _ => True) s vs l ∧ ∀ t ∈ l, t.wf) Tryz.underlying30 (by kernel_rfl) (by omega) open_txs hf
  simp [Value.cells] at e
  obtain ⟨l, h1, h2⟩ := choose_list (R := fun s (l : List Tx) => ∃ vs, txsIn w (fun _ => True) s vs l ∧ ∀ t ∈ l, t.wf) ss (fun x hx => by obtain ⟨vs, l, h⟩ := g x hx; exact ⟨l, vs, h⟩)
  refine ⟨s, l, by rw [e.1, e.2.1, e.2.2], ⟨ss, slIn_structs m, h1, fun k hk hk2 => ?_⟩, fun t ht => ?_⟩
  · obtain ⟨vs, h3, _⟩ := h2 k hk hk2
    exact ⟨vs, h3⟩
  · obtain ⟨k, hk, rfl⟩ := List.mem_iff_getElem.1 ht
    obtain ⟨vs, _, h4⟩ := h2 k (by omega) hk
    exact h4
set_option maxRecDepth 100000 in
theorem open_tx {r : Reach} {b0 : Nat} {v : Value} {d : DataW H} {p : List MemPlace} (hv : Value.okWide Tryz.prog w r b0 72 v) (h : DataW.Trod enc Tryz.prog w base spare held 72 v d p) :
    ∃ (s : TxV) (t : Tx), v = .agg s.arr ∧ txIn w (fun _ => True) s t ∧ t.wf := by
  obtain ⟨a, rfl, _⟩ := okWide_struct Tryz.underlying72 hv
  obtain ⟨fuel, hf⟩ := h
  obtain ⟨s, e, t, h1, h2⟩ := open_txv _ _ _ hf
  exact ⟨s, t, by simp only [Value.cells] at e; rw [Array.toList_inj.1 e], h1, h2⟩
end
end Go.Proofs.YtlkojkjeklblkaaGreat
