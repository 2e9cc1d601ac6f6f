/- Package coraclelaw8: records behind a turn; a turn at a log. -/
import Derived.Test.YtkiindgcbpkddaaWalX
set_option linter.unusedSimpArgs false
set_option linter.unusedVariables false
namespace Go.Proofs.Ytkiindgcbpkddaa
open Go.RowKit
theorem step_ex {P : Program} {w : World} {ops : Array Oper} {o : Oper} {a : Act} {K : Act → World → Prop} {Q : Exit → Act → World → Prop} {E : Prop} (hgd : o.guard = none) (s x : Operand) (t tx : TypeId)
    (ho : o.op = .call { callee := .builtin .append, args := #[s, x], argTypes := #[t, tx] }) (v u : Value) (hs : a.eval s = v) (hx : a.eval x = u) {R : Sl → World → Prop} (hr : ∃ (s' : Sl) (w' : World), (Builtin.append_ #[t, tx] o.type #[v, u]).run P w = .ok (.slice s'.a s'.n s'.c) w' ∧ R s' w')
    (hK : ∀ (s' : Sl) (w' : World), R s' w' → K (a.put o.dst (.slice s'.a s'.n s'.c)) w') : if Region.wanted o (yielded ops a.tmps) = true then Oper.wp P o a w K Q else E := by
  obtain ⟨s', w', h1, h2⟩ := hr
  exact step_run hgd s x t tx ho v u hs hx h1 (hK s' w' h2)
/-- The records behind a turn. -/
def thenS (l : List (List UInt8)) (t : Turn) : List (List UInt8) :=
  if t.kind = 1 then l ++ [saidS t.n t.m] else if t.kind = 2 then (List.range (roundS t.n 5).toNat).map (fun i => saidS (i : Nat) (wrap64 (t.m + (i : Nat)))) else l
/-- Slices put behind an empty row of one's own. -/
theorem copy_lists {w0 X : World} {Y : Nat → Prop} {s : Sl} {vs : List Sl} {l : List (List UInt8)} {g : Nat} (hX : Below w0.heap.size w0 X) (hg : X.heap[g]? = some (.cells #[] 102 (0, 0))) (hg0 : w0.heap.size ≤ g) (hl : listsZ w0 Y s vs l) (hn : l.length ≤ 100000000) :
    ∃ (s' : Sl) (X' : World), (Builtin.append_ #[95, 95] 95 #[.slice (some ⟨g, 0, none⟩) 0 0, .slice s.a s.n s.c]).run Try.prog X = .ok (.slice s'.a s'.n s'.c) X' ∧ (X'.ownsRow w0.heap.size 102 1 s'.v l.length (vs.map Sl.v) ∧ s'.n = l.length ∧ Below w0.heap.size w0 X' ∧ Upd X X' (fun k => k = g)) := by
  obtain ⟨i0, hi0, hz0, hz1, hz2⟩ := info_sl8
  have hown : X.ownsRow w0.heap.size 102 1 (.slice (some ⟨g, 0, none⟩) 0 0) 0 [] := ⟨by simp, .inr ⟨g, 0, #[], rfl, hg0, hg, Nat.le_refl _, by simp [maxLen], by simp, by simp⟩⟩
  have hlen := hl.len
  by_cases hne : l = []
  · subst hne
    have hvs : vs = [] := List.eq_nil_of_length_eq_zero (by simpa using hlen)
    subst hvs
    have hs0 : s.n = 0 := hl.n
    refine ⟨⟨some ⟨g, 0, none⟩, 0, 0⟩, X, ?_, hown, rfl, hX, Upd.refl _ _⟩
    obtain ⟨sa, sn, sc⟩ := s
    simp only at hs0
    subst hs0
    cases sa <;> simp [Builtin.append_, run_underlying Try.underlying95, sizeOf, typeInfo, hi0, Builtin.lenOf, Builtin.firstCells, storeCells, loadCells, loadCellsFrom, hz1]
  · obtain ⟨b, off, ha, _, hb, hc⟩ := hl.cells hne
    obtain ⟨sa, sn, sc⟩ := s
    simp only at ha
    subst ha
    have hsn : sn = l.length := hl.n
    subst hsn
    obtain ⟨v', w', hr, h2, h3, h4, h5⟩ := run_append_own_at (P := Try.prog) X w0.heap.size 95 95 102 i0 (.slice none 0 0) 1 24 Try.underlying95 hi0 hz0 hz1 hz2 (by rfl) (by decide) _ 0 [] hown ⟨b, off, none⟩ l.length sc (vs.map Sl.v) (by simp [hlen]) (by
      intro j u hu
      have hj : j < vs.length := by have := (List.getElem?_eq_some_iff.1 hu).1; simpa using this
      have e : (⟨b, off, none⟩ : Addr).add j = ⟨b, off + j, none⟩ := by unfold Addr.add; split <;> simp_all
      rw [e, (hX.cell (p := ⟨b, off + j, none⟩) hb), hc j hj]
      simpa [Sl.v, hj] using hu) (by intro u hu; simp at hu; obtain ⟨x, _, rfl⟩ := hu; rfl) (by unfold maxLen; omega) (by omega) hX.size
    obtain ⟨a', c', rfl, _, _⟩ := ownsRow_slice h2
    refine ⟨⟨a', 0 + l.length, c'⟩, w', hr, by simpa [Sl.v] using h2, by simp, hX.trans ((Upd.grown h3).below hX.size (fun k hk => ?_)), (Upd.grown h3).mono (fun k _ hk => ?_)⟩
    · simp [Value.ownBlock] at hk; omega
    · simp [Value.ownBlock] at hk; omega
theorem bl_alloc {w X : World} (h : Below w.heap.size w X) (o : Obj) : Below w.heap.size w (X.alloc o) := h.alloc h.size o
theorem bl_drew {w X : World} (h : Below w.heap.size w X) : Below w.heap.size w X.drew := h.drew
theorem below_then {w X z : World} (h : Below w.heap.size w X) (hz : Below X.heap.size X z) : Below w.heap.size w z := h.trans (hz.mono h.size)
theorem cb_new {X : World} {o : Obj} {b : Nat} (h : b = X.heap.size) : (X.alloc o).heap[b]? = some o := by rw [h]; exact heap_alloc_new X o
theorem cb_alloc {X : World} {o c : Obj} {b : Nat} (h : X.heap[b]? = some c) : (X.alloc o).heap[b]? = some c := (heap_alloc_old X o b (Array.getElem?_eq_some_iff.1 h).1).trans h
theorem cb_drew {X : World} {c : Obj} {b : Nat} (h : X.heap[b]? = some c) : X.drew.heap[b]? = some c := h
theorem cb_below {X z : World} {c : Obj} {b : Nat} (hz : Below X.heap.size X z) (h : X.heap[b]? = some c) : z.heap[b]? = some c := (hz.block b (Array.getElem?_eq_some_iff.1 h).1).trans h
theorem cb_upd {X z : World} {c : Obj} {b g : Nat} (hz : Upd X z (fun k => k = g)) (h : X.heap[b]? = some c) (hne : b ≠ g) : z.heap[b]? = some c := (hz.block b (Array.getElem?_eq_some_iff.1 h).1 hne).trans h
theorem cb_ne {X : World} {c d : Obj} {b g : Nat} (h : X.heap[b]? = some c) (k : X.heap[g]? = some d) (hcd : c ≠ d) : b ≠ g := by
  rintro rfl
  rw [h] at k
  exact hcd (Option.some.inj k)
theorem own20 {w X : World} {n b19 bx : Nat} {xs : List Value} {v : Value} {x : Sl} {cx : Array Value} {fr : Nat × Nat} (hX : Below w.heap.size w X) (h : X.ownsRow w.heap.size 102 1 v n xs) (hb : X.heap[b19]? = some (.cells #[.slice x.a x.n x.c] 102 (0, 0))) (hx : X.heap[bx]? = some (.cells cx 5 fr)) (hn : n ≤ 100000000) :
    ∃ (s' : Sl) (X' : World), (Builtin.append_ #[95, 95] 95 #[v, .slice (some ⟨b19, 0, none⟩) 1 1]).run Try.prog X = .ok (.slice s'.a s'.n s'.c) X' ∧ (X'.ownsRow w.heap.size 102 1 s'.v (n + 1) (xs ++ [x.v]) ∧ s'.n = n + 1 ∧ Below w.heap.size w X' ∧ X'.heap[bx]? = some (.cells cx 5 fr)) := by
  obtain ⟨s', X', hr, ho, hn', hu, hnw⟩ := own_sl1 (c := 1) h hb hX.size (by omega)
  refine ⟨s', X', hr _, ho, hn', hX.trans (hu.below hX.size (fun k hk => (h.lt k hk).1)), ?_⟩
  refine (hu.block bx (Array.getElem?_eq_some_iff.1 hx).1 (fun e => ?_)).trans hx
  rcases h.2 with ⟨hv, _⟩ | ⟨g, cap, cur, hv, _, hh, _⟩
  · rw [hv] at e; cases e
  · rw [hv] at e
    simp [Value.ownBlock] at e
    subst e
    rw [hx] at hh
    injection hh with hh
    injection hh with e1 e2 e3
    exact absurd e2 (by decide)
/-- A list of one's own reads as its parts do. -/
theorem lists_own {w X : World} {Y : Nat → Prop} {s s' : Sl} {vs : List Sl} {l : List (List UInt8)} {x : Sl} {b : List UInt8} (hl : listsZ w Y s vs l) (hX : Below w.heap.size w X) (ho : X.ownsRow w.heap.size 102 1 s'.v (l.length + 1) (vs.map Sl.v ++ [x.v])) (hn : s'.n = l.length + 1) (hx : bytesZ X (fun k => w.heap.size ≤ k) x b) :
    listsZ X (fun k => Y k ∨ w.heap.size ≤ k) s' (vs ++ [x]) (l ++ [b]) := by
  have hlen := hl.len
  rcases ho.2 with ⟨_, e⟩ | ⟨g, cap, cur, e, hg, hh, hc, hm, hs, ht⟩
  · omega
  · obtain ⟨sa, sn, sc⟩ := s'
    unfold Sl.v at e
    injection e with e1 e2 e3
    simp only at e1 e2 e3
    refine ⟨by simpa using hn, by show sn ≤ sc; omega, by simp [hlen], fun _ => ⟨g, 0, e1, .inr hg, (cells_known hh).2.2, fun k hk => ?_⟩, fun k h1 h2 => ?_⟩
    · rw [(cells_known hh).1, Nat.zero_add]
      have h2 : (cur.toList.take ((l.length + 1) * 1))[k]? = (vs.map Sl.v ++ [x.v])[k]? := by rw [ht]
      rw [List.getElem?_take, if_pos (by simp at hk; omega)] at h2
      have h3 : (vs.map Sl.v ++ [x.v]) = (vs ++ [x]).map Sl.v := by simp
      rw [h3, List.getElem?_map, List.getElem?_eq_getElem hk] at h2
      simpa [Sl.v] using h2
    · by_cases hlt : k < l.length
      · rw [List.getElem_append_left (by omega), List.getElem_append_left hlt]
        exact ((hl.el k hlt (by omega)).keep hX).zone (fun _ _ hz => .inl hz)
      · have hk : k = l.length := by simp at h1; omega
        subst hk
        rw [List.getElem_append_right (by omega), List.getElem_append_right (by omega)]
        simp only [hlen, Nat.sub_self, List.getElem_cons_zero]
        exact hx.zone (fun _ _ hz => .inr hz)
def ThenPost (w : World) (Y : Nat → Prop) (l : List (List UInt8)) (t : Turn) (e : Ending) (w' : World) : Prop :=
  ∃ (s' : Sl) (vs' : List Sl), e = .returned (.slice s'.a s'.n s'.c) ∧ listsZ w' (fun k => Y k ∨ w.heap.size ≤ k) s' vs' (thenS l t) ∧ Below w.heap.size w w'
set_option maxRecDepth 100000 in
set_option maxHeartbeats 4000000 in
theorem then_one {w : World} {Y : Nat → Prop} (s : Sl) (vs : List Sl) (l : List (List UInt8)) (t : Turn) (h : listsZ w Y s vs l) (hn : l.length ≤ 1000000) (hw : t.wf) (hk : t.kind = 1) :
    Calls Try.prog 41 #[.slice s.a s.n s.c, .agg t.arr] w (ThenPost w Y l t) := by
  obtain ⟨kind, n, m⟩ := t
  simp only at hk
  subst hk
  obtain ⟨_, _, hm⟩ := hw
  simp only at hm
  have hS : Hid (thenS l ⟨1, n, m⟩ = l ++ [saidS n m]) := rfl
  obtain ⟨V, hV⟩ : ∃ V, V = w.alloc (.cells (Turn.mk 1 n m).arr 98) := ⟨_, rfl⟩
  have hbV : Below w.heap.size w V := hV ▸ (Below.refl _ _).alloc (Nat.le_refl _) _
  have hkV : V.heap[w.heap.size]? = some (.cells (Turn.mk 1 n m).arr 98 (0, 0)) := hV ▸ heap_alloc_new w _
  have c0 : V.cell? ⟨w.heap.size, 0, none⟩ = some (.int .i64 1) := ((cells_known hkV).1 0).trans (Turn.arr_0 _)
  have c1 : V.cell? ⟨w.heap.size, 1, none⟩ = some (.int .i64 n) := ((cells_known hkV).1 1).trans (Turn.arr_1 _)
  have c2 : V.cell? ⟨w.heap.size, 2, none⟩ = some (.int .i64 m) := ((cells_known hkV).1 2).trans (Turn.arr_2 _)
  have hwV : w.heap.size < V.heap.size := (cells_known hkV).2.2
  have HH := Lib.hid h
  have hsaid := fun X : World => said_8 n m hm X
  have HSAID := Lib.hid hsaid
  clear h hkV hsaid
  go_enter Try.func41, Try.ntmps41
  go_wp2_with fail
  try rw [← hV]
  clear hV
  go_upto_region 3 with fail
  have hV0 : Below V.heap.size V V := Below.refl _ _
  have hlV := HH.out.keep hbV
  have keepS : ∀ X, Below V.heap.size V X → X.cell? ⟨w.heap.size, 1, none⟩ = some (.int .i64 n) ∧ X.cell? ⟨w.heap.size, 2, none⟩ = some (.int .i64 m) := fun X hX => ⟨(hX.cell (p := ⟨w.heap.size, 1, none⟩) hwV).trans c1, (hX.cell (p := ⟨w.heap.size, 2, none⟩) hwV).trans c2⟩
  have KS := Lib.hid keepS
  have HLV := Lib.hid hlV
  have HBV := Lib.hid hbV
  clear keepS hlV c0 c1 c2 hbV
  go_region_held3 (fun X : World => X.cell? ⟨w.heap.size, 1, none⟩ = some (.int .i64 n) ∧ X.cell? ⟨w.heap.size, 2, none⟩ = some (.int .i64 m)) (exact KS.out _ (by (repeat (first | assumption | apply bl_alloc | apply bl_drew)))) (first | (go_at_call 95; refine (HSAID.out _).mono ?_; rintro e z ⟨⟨xa, xn, xc⟩, rfl, hty, hbz⟩; have hVz : Below V.heap.size V z := (below_then (by (repeat (first | assumption | apply bl_alloc | apply bl_drew))) hbz); obtain ⟨hx1, hx2, bx, cx, fx, hx5, hx3, hbx, hx4⟩ := hty; simp only at hx1 hx5; subst hx1 hx5; have HX4 := Lib.hid hx4; clear hx4) | (apply step_ex (s := Operand.tmp 11) (x := Operand.tmp 12) (v := Value.slice (some ⟨V.heap.size, 0, none⟩) 0 0) (u := Value.slice s.a s.n s.c); rfl; rfl; rfl; rfl; exact copy_lists (w0 := V) (by (repeat (first | assumption | apply bl_alloc | apply bl_drew))) (by (repeat (first | assumption | (refine cb_new ?_; simp; done) | apply cb_alloc | apply cb_drew))) (Below.size (B := V.heap.size) (by (repeat (first | assumption | apply bl_alloc | apply bl_drew)))) HLV.out (by omega); rintro ⟨sa, sn, sc⟩ z1 ⟨k1, k2, k3, k4⟩; simp only at k2; subst k2) | (apply step_ex (s := Operand.tmp 11) (x := Operand.tmp 12) (v := Value.slice (some ⟨V.heap.size, 0, none⟩) 0 0) (u := Value.slice s.a s.n s.c); rfl; rfl; rfl; rfl; exact copy_lists (w0 := V) (by (repeat (first | assumption | apply bl_alloc | apply bl_drew))) (by (repeat (first | assumption | (refine cb_new ?_; simp; done) | apply cb_alloc | apply cb_drew | (refine cb_below hbz ?_)))) (Below.size (B := V.heap.size) (by (repeat (first | assumption | apply bl_alloc | apply bl_drew)))) HLV.out (by omega); rintro ⟨sa, sn, sc⟩ z1 ⟨k1, k2, k3, k4⟩; simp only at k2; subst k2) | (apply step_ex (s := Operand.tmp 11) (x := Operand.tmp 12) (v := Value.slice (some ⟨z.heap.size, 0, none⟩) 0 0) (u := Value.slice s.a s.n s.c); rfl; rfl; rfl; rfl; exact copy_lists (w0 := V) (by (repeat (first | assumption | apply bl_alloc | apply bl_drew))) (by (repeat (first | assumption | (refine cb_new ?_; simp; done) | apply cb_alloc | apply cb_drew | (refine cb_below hbz ?_)))) (Below.size (B := V.heap.size) (by (repeat (first | assumption | apply bl_alloc | apply bl_drew)))) HLV.out (by omega); rintro ⟨sa, sn, sc⟩ z1 ⟨k1, k2, k3, k4⟩; simp only at k2; subst k2) | (apply step_ex (s := Operand.tmp 11) (x := Operand.tmp 12) (v := Value.slice (some ⟨z.heap.size + 1, 0, none⟩) 0 0) (u := Value.slice s.a s.n s.c); rfl; rfl; rfl; rfl; exact copy_lists (w0 := V) (by (repeat (first | assumption | apply bl_alloc | apply bl_drew))) (by (repeat (first | assumption | (refine cb_new ?_; simp; done) | apply cb_alloc | apply cb_drew | (refine cb_below hbz ?_)))) (Below.size (B := V.heap.size) (by (repeat (first | assumption | apply bl_alloc | apply bl_drew)))) HLV.out (by omega); rintro ⟨sa, sn, sc⟩ z1 ⟨k1, k2, k3, k4⟩; simp only at k2; subst k2) | (apply step_ex (s := Operand.tmp 13) (x := Operand.tmp 19) (v := Value.slice sa l.length sc) (u := Value.slice (some ⟨z.heap.size, 0, none⟩) 1 1); rfl; rfl; rfl; rfl; exact own20 (w := V) (bx := bx) (cx := cx) (fr := fx) (n := l.length) (xs := vs.map Sl.v) (x := ⟨some ⟨bx, 0, none⟩, (saidS n m).length, xc⟩) (by (repeat (first | assumption | apply bl_alloc | apply bl_drew))) (by (repeat (first | assumption | apply World.ownsRow.alloc | (refine ownsRow_below ?_ hbz)))) (by (repeat (first | assumption | (refine cb_new ?_; simp; done) | apply cb_alloc | apply cb_drew | (refine cb_below hbz ?_) | (refine cb_upd k4 ?_ (cb_ne (by (repeat (first | assumption | (refine cb_new ?_; simp; done) | apply cb_alloc | apply cb_drew | (refine cb_below hbz ?_)))) (by (repeat (first | assumption | (refine cb_new ?_; simp; done) | apply cb_alloc | apply cb_drew | (refine cb_below hbz ?_)))) (by intro hcd; cases hcd)))))) (by (repeat (first | assumption | (refine cb_new ?_; simp; done) | apply cb_alloc | apply cb_drew | (refine cb_below hbz ?_) | (refine cb_upd k4 ?_ (cb_ne (by (repeat (first | assumption | (refine cb_new ?_; simp; done) | apply cb_alloc | apply cb_drew | (refine cb_below hbz ?_)))) (by (repeat (first | assumption | (refine cb_new ?_; simp; done) | apply cb_alloc | apply cb_drew | (refine cb_below hbz ?_)))) (by intro hcd; cases hcd)))))) (by omega); rintro ⟨ta, tn, tc⟩ z2 ⟨m1, m2, m3, m4⟩; have M1 := Lib.hid m1; have M2 := Lib.hid m2; clear m1 m2) | (apply step_ex (s := Operand.tmp 13) (x := Operand.tmp 19) (v := Value.slice sa l.length sc) (u := Value.slice (some ⟨z.heap.size + 1, 0, none⟩) 1 1); rfl; rfl; rfl; rfl; exact own20 (w := V) (bx := bx) (cx := cx) (fr := fx) (n := l.length) (xs := vs.map Sl.v) (x := ⟨some ⟨bx, 0, none⟩, (saidS n m).length, xc⟩) (by (repeat (first | assumption | apply bl_alloc | apply bl_drew))) (by (repeat (first | assumption | apply World.ownsRow.alloc | (refine ownsRow_below ?_ hbz)))) (by (repeat (first | assumption | (refine cb_new ?_; simp; done) | apply cb_alloc | apply cb_drew | (refine cb_below hbz ?_) | (refine cb_upd k4 ?_ (cb_ne (by (repeat (first | assumption | (refine cb_new ?_; simp; done) | apply cb_alloc | apply cb_drew | (refine cb_below hbz ?_)))) (by (repeat (first | assumption | (refine cb_new ?_; simp; done) | apply cb_alloc | apply cb_drew | (refine cb_below hbz ?_)))) (by intro hcd; cases hcd)))))) (by (repeat (first | assumption | (refine cb_new ?_; simp; done) | apply cb_alloc | apply cb_drew | (refine cb_below hbz ?_) | (refine cb_upd k4 ?_ (cb_ne (by (repeat (first | assumption | (refine cb_new ?_; simp; done) | apply cb_alloc | apply cb_drew | (refine cb_below hbz ?_)))) (by (repeat (first | assumption | (refine cb_new ?_; simp; done) | apply cb_alloc | apply cb_drew | (refine cb_below hbz ?_)))) (by intro hcd; cases hcd)))))) (by omega); rintro ⟨ta, tn, tc⟩ z2 ⟨m1, m2, m3, m4⟩; have M1 := Lib.hid m1; have M2 := Lib.hid m2; clear m1 m2) | (apply step_ex (s := Operand.tmp 13) (x := Operand.tmp 19) (v := Value.slice sa l.length sc) (u := Value.slice (some ⟨z1.heap.size, 0, none⟩) 1 1); rfl; rfl; rfl; rfl; exact own20 (w := V) (bx := bx) (cx := cx) (fr := fx) (n := l.length) (xs := vs.map Sl.v) (x := ⟨some ⟨bx, 0, none⟩, (saidS n m).length, xc⟩) (by (repeat (first | assumption | apply bl_alloc | apply bl_drew))) (by (repeat (first | assumption | apply World.ownsRow.alloc | (refine ownsRow_below ?_ hbz)))) (by (repeat (first | assumption | (refine cb_new ?_; simp; done) | apply cb_alloc | apply cb_drew | (refine cb_below hbz ?_) | (refine cb_upd k4 ?_ (cb_ne (by (repeat (first | assumption | (refine cb_new ?_; simp; done) | apply cb_alloc | apply cb_drew | (refine cb_below hbz ?_)))) (by (repeat (first | assumption | (refine cb_new ?_; simp; done) | apply cb_alloc | apply cb_drew | (refine cb_below hbz ?_)))) (by intro hcd; cases hcd)))))) (by (repeat (first | assumption | (refine cb_new ?_; simp; done) | apply cb_alloc | apply cb_drew | (refine cb_below hbz ?_) | (refine cb_upd k4 ?_ (cb_ne (by (repeat (first | assumption | (refine cb_new ?_; simp; done) | apply cb_alloc | apply cb_drew | (refine cb_below hbz ?_)))) (by (repeat (first | assumption | (refine cb_new ?_; simp; done) | apply cb_alloc | apply cb_drew | (refine cb_below hbz ?_)))) (by intro hcd; cases hcd)))))) (by omega); rintro ⟨ta, tn, tc⟩ z2 ⟨m1, m2, m3, m4⟩; have M1 := Lib.hid m1; have M2 := Lib.hid m2; clear m1 m2))
  go_wp2_with fail
  go_ret
  have hbx : bytesZ z2 (fun k => V.heap.size ≤ k) ⟨some ⟨bx, 0, none⟩, (saidS n m).length, xc⟩ (saidS n m) := typedB.z ⟨rfl, hx2, bx, cx, fx, rfl, (by first | exact hx3 | exact Nat.le_trans (Below.size (B := V.heap.size) (by (repeat (first | assumption | apply bl_alloc | apply bl_drew)))) hx3), m4, HX4.out⟩
  have hlz := lists_own (s' := ⟨ta, tn, tc⟩) HLV.out m3 M1.out M2.out hbx
  have hlz2 := hlz.zone (Y := fun k => Y k ∨ w.heap.size ≤ k) (fun k _ hz => hz.imp (fun h => h) (fun h => by omega))
  exact ⟨⟨ta, tn, tc⟩, _, rfl, by rw [hS.out]; exact hlz2, below_then HBV.out m3⟩
end Go.Proofs.Ytkiindgcbpkddaa
