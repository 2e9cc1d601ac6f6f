/- Package index: outputs, and who spent them. Package index: outputs, and whether they are unspent. -/
import Derived.Test.YtaopiefbejajkaaIdxJ
set_option linter.unusedSimpArgs false
set_option linter.unusedVariables false
namespace Go.Proofs.Ytaopiefbejajkaa
open Go.RowKit
attribute [local go_sem] Hash.ext_whole In.ext_tx Hash.size_arr
/-- A struct stored over a variable: as an equation. -/
theorem store_whole {P : Program} {t t' : TypeId} {n : Nat} (hi : (P.info? t).map (·.size) = some n) (w : World) (b : Nat) (cs old : Array Value) (hn : cs.size = n) (h1 : ∀ v ∈ cs.toList, v.oneCell' = true) (hold : old.size = n) (h : w.heap[b]? = some (.cells old t' (0, 0))) :
    ∃ w', (storeS t (.pointer (some ⟨b, 0, none⟩)) (.agg cs)).run P w = .ok () w' ∧ w'.heap[b]? = some (.cells cs t' (0, 0)) ∧ Upd w w' (fun k => k = b) := by
  have hrow := row_of_block h hold
  have hrun : (Instr.storeAt t (.pointer (some ⟨b, 0, none⟩)) (.agg cs)).run P w = .ok () (putRow w ⟨b, 0, none⟩ cs) := run_storeAt_row hi w b 0 cs hn h1 (by rw [hrow]; rfl) (fun j _ => (cells_known h).2.1 _)
  refine ⟨_, hrun, ?_, setCells_upd b _ 0 w⟩
  have hh := heap_setCells cs.toList 0 w _ h
  have e := putRow_eq 0 [] old.toList [] cs.toList rfl (by simp; omega)
  simp only [List.nil_append, List.append_nil, Array.toArray_toList] at e
  rw [e] at hh
  exact hh
/-- An output's, and its height. -/
def outM (M : Maps) (q : Outpoint) : Out × Int × Bool :=
  match M.txs q.tx with
  | some x => if 0 ≤ q.n ∧ q.n < (x.1.outs.length : Int) then (x.1.outs.getD q.n.toNat Out.zero, (x.2 : Nat), true) else (Out.zero, 0, false)
  | none => (Out.zero, 0, false)
/-- Who spent a place, and at which height. -/
def spM (M : Maps) (q : Outpoint) : Hash × Int × Bool :=
  match M.sp q with
  | some z => (z, (match M.txs z with | some x => ((x.2 : Nat) : Int) | none => 0), true)
  | none => (Hash.zero, (match M.txs Hash.zero with | some x => ((x.2 : Nat) : Int) | none => 0), false)
theorem results_cell2 {P : Program} {fn : Func} {p q q2 : Tmp} {ty : TypeId} (h : fn.results = #[.cell p ty, .tmp q, .tmp q2]) (tmps : Array Value) (w : World) (g : Nat) (t : TypeId) (cs : Array Value) (fr : Nat × Nat) (d : TypeDesc) (v v2 : Value)
    (hp : tmps.getD p undef = .pointer (some ⟨g, 0, none⟩)) (hq : tmps.getD q undef = v) (hq2 : tmps.getD q2 undef = v2) (hg : w.heap[g]? = some (.cells cs t fr))
    (hu : P.underlying ty = some d) (hd : (match d with | .struct _ | .array _ _ => true | _ => false) = true) (hi : (P.info? ty).map (·.size) = some cs.size) :
    (results fn tmps).run P w = .ok (.tuple #[.agg cs, v, v2]) w := by
  have hp' : tmps[p]?.getD undef = .pointer (some ⟨g, 0, none⟩) := by simpa using hp
  have hq' : tmps[q]?.getD undef = v := by simpa using hq
  have hq2' : tmps[q2]?.getD undef = v2 := by simpa using hq2
  simp [results, h, hp', hq', hq2', asAddr, run_loadVar_row w g t ty cs fr d hg hu hd hi]
set_option maxRecDepth 100000 in
set_option maxHeartbeats 4000000 in
theorem spender_ix (Z : Nat → Prop) (p : Nat) (r : IdxR) (M : Maps) (B : List (List Hash)) (q : Outpoint) (hq : i64 q.n) (w : World) (h : IdxAt w Z p r M B) :
    Calls Try.prog 35 #[.pointer (some ⟨p, 0, none⟩), .agg q.arr] w fun e w' => e = .returned (.tuple #[.agg (spM M q).1.arr, .int .i64 (spM M q).2.1, .bool (spM M q).2.2]) ∧ Below w.heap.size w w' := by
  obtain ⟨W, hW⟩ : ∃ W, W = (w.alloc (.cells q.arr 32)).alloc (.cells Hash.zero.arr 30) := ⟨_, rfl⟩
  have hbW : Below w.heap.size w W := hW ▸ ((Below.refl _ _).alloc (Nat.le_refl _) _).alloc (by simp) _
  have hz : W.heap.size = w.heap.size + 2 := by rw [hW]; simp
  have g1 : W.heap[w.heap.size]? = some (.cells q.arr 32 (0, 0)) := by rw [hW]; exact (heap_alloc_old _ _ (by simp)).trans (heap_alloc_new w _)
  have g2 : W.heap[w.heap.size + 1]? = some (.cells Hash.zero.arr 30 (0, 0)) := by rw [hW, show w.heap.size + 1 = (w.alloc (.cells q.arr 32)).heap.size by simp]; exact heap_alloc_new _ _
  have hI := ((h.zoned (Y := fun k => Z k ∧ k < w.heap.size) (fun k hk hz => ⟨hz, hk⟩)).keep hbW).keep (Below.refl W.heap.size W).drew
  have l1 := hI.lookSp q hq
  have c1 : W.drew.cell? ⟨p, 2, none⟩ = some (.map (some r.ms)) := hI.cell2
  have c2 : row? W.drew ⟨w.heap.size, 0, none⟩ 33 = some q.arr := row_of_block (w := W.drew) g1 (by simp)
  obtain ⟨y, hy⟩ : ∃ y, y = (M.sp q).getD Hash.zero := ⟨_, rfl⟩
  obtain ⟨bs, hbs⟩ : ∃ bs, bs = (M.sp q).isSome := ⟨_, rfl⟩
  rw [← hy, ← hbs] at l1
  obtain ⟨W2, hst, hW2, hu2⟩ := store_whole (P := Try.prog) (t := 30) size_Hash W.drew (w.heap.size + 1) y.arr Hash.zero.arr (by simp) (one_Hash _) (by simp) (show W.drew.heap[w.heap.size + 1]? = _ from g2)
  have HW2 := Lib.hid (And.intro hW2 hu2)
  have HI := Lib.hid hI
  have HG2 := Lib.hid g2
  have HY := Lib.hid (And.intro hy hbs)
  have HZ := Lib.hid hz
  have hpl : p < w.heap.size := h.lt (.inl rfl)
  clear hI g1 g2 hy hbs h hz hW2 hu2
  go_enter Try.func35, Try.ntmps35
  go_upto_region 3 with fail
  rw [← hW]
  clear hW
  go_cut [6] (fun v6 wx => v6 = .bool bs ∧ wx.heap[w.heap.size + 1]? = some (.cells y.arr 30 (0, 0)) ∧ Upd W wx (fun k => k = w.heap.size + 1))
  case first =>
    go_region_law (fail)
    all_goals
      go_wp2_with fail
      go_meet
      exact ⟨rfl, HW2.out.1, (Upd.of_below (Below.refl W.heap.size W).drew (fun k => k = w.heap.size + 1)).trans HW2.out.2 (fun _ _ h => h)⟩
  case rest =>
    obtain ⟨rfl, hgc, huc⟩ := hcut
    have hz := HZ.out
    have hIc : IdxAt wc.drew (fun k => Z k ∧ k < w.heap.size) p r M B := HI.out.kept (S := fun k => k = w.heap.size + 1) (w' := wc.drew) ⟨huc.os, huc.tape, huc.output, huc.size, huc.block⟩ (fun k hk _ e => by omega)
    obtain ⟨E, hE⟩ : ∃ E, E = entOf r.T M y := ⟨_, rfl⟩
    have l2 := (hIc.look y).2
    rw [← hE] at l2
    have d1 : wc.drew.cell? ⟨p, 1, none⟩ = some (.map (some r.mt)) := hIc.cell1
    have d2 : row? wc.drew ⟨w.heap.size + 1, 0, none⟩ 32 = some y.arr := row_of_block (w := wc.drew) hgc (by simp)
    obtain ⟨W4, hst4, hW4, hu4⟩ := store_whole (P := Try.prog) (t := 30) size_Hash wc.drew (w.heap.size + 1) y.arr y.arr (by simp) (one_Hash _) (by simp) (show wc.drew.heap[w.heap.size + 1]? = _ from hgc)
    have hI4 := hIc.kept hu4 (fun k hk _ e => by have e2 : k = w.heap.size + 1 := e; omega)
    have l3 := (hI4.look y).2
    rw [← hE] at l3
    have d3 : W4.cell? ⟨p, 1, none⟩ = some (.map (some r.mt)) := hI4.cell1
    have d4 : row? W4 ⟨w.heap.size + 1, 0, none⟩ 32 = some y.arr := row_of_block hW4 (by simp)
    have HW4 := Lib.hid (And.intro hW4 (huc.trans ((Upd.of_below (Below.refl wc.heap.size wc).drew (fun k => k = w.heap.size + 1)).trans hu4 (fun _ _ h => h)) (fun _ _ h => h)))
    have HE := Lib.hid hE
    clear c1 c2 l1 hst hIc hI4 hE hgc huc hW4 hu4 hz
    go_upto_region 4 with fail
    go_cut [5, 6] (fun v5 v6 wx => v5 = .int .i64 E.height ∧ v6 = .bool bs ∧ wx.heap[w.heap.size + 1]? = some (.cells y.arr 30 (0, 0)) ∧ Upd W wx (fun k => k = w.heap.size + 1))
    case first =>
      go_region_law (fail)
      all_goals
        go_wp2_with fail
        go_meet
        exact ⟨rfl, rfl, HW4.out.1, HW4.out.2⟩
    case rest =>
      obtain ⟨rfl, rfl, hgx, hux⟩ := hcut
      go_wp2_with fail
      refine bodyPost_ret (results_cell2 rfl _ _ (w.heap.size + 1) 30 y.arr (0, 0) _ (.int .i64 E.height) (.bool bs) rfl rfl rfl hgx Try.underlying30 rfl (by rw [size_Hash]; simp)) rfl ⟨?_, hbW.trans (hux.below hbW.size (fun k e => by have e2 : k = w.heap.size + 1 := e; omega))⟩
      have hy := HY.out.1
      have hb := HY.out.2
      have he := HE.out
      have hh : E.height = (match M.txs y with | some x => ((x.2 : Nat) : Int) | none => 0) := by
        rw [he]
        cases hx : M.txs y with
        | none => rw [entOf_none hx]; rfl
        | some x => rw [entOf_some hx]
      unfold spM
      cases hs : M.sp q with
      | none =>
        rw [hs] at hy hb
        have hy2 : y = Hash.zero := hy
        have hb2 : bs = false := hb
        rw [hh, hy2, hb2]
      | some z =>
        rw [hs] at hy hb
        have hy2 : y = z := hy
        have hb2 : bs = true := hb
        rw [hh, hy2, hb2]
end Go.Proofs.Ytaopiefbejajkaa
namespace Go.Proofs.Ytaopiefbejajkaa
open Go.RowKit
attribute [local go_sem] Hash.ext_whole In.ext_tx Hash.size_arr
theorem Outpoint.ext_tx (x : Outpoint) : x.arr.extract 0 32 = x.tx.arr := Outpoint.ext_0 x
set_option maxRecDepth 100000 in
set_option maxHeartbeats 4000000 in
theorem out_ix (Z : Nat → Prop) (p : Nat) (r : IdxR) (M : Maps) (B : List (List Hash)) (q : Outpoint) (hq : i64 q.n) (w : World) (h : IdxAt w Z p r M B) :
    Calls Try.prog 36 #[.pointer (some ⟨p, 0, none⟩), .agg q.arr] w fun e w' => e = .returned (.tuple #[.agg (outM M q).1.arr, .int .i64 (outM M q).2.1, .bool (outM M q).2.2]) ∧ Below w.heap.size w w' := by
  obtain ⟨W, hW⟩ : ∃ W, W = (w.alloc (.cells q.arr 32)).alloc (.cells Out.zero.arr 55) := ⟨_, rfl⟩
  have hbW : Below w.heap.size w W := hW ▸ ((Below.refl _ _).alloc (Nat.le_refl _) _).alloc (by simp) _
  have hz : W.heap.size = w.heap.size + 2 := by rw [hW]; simp
  have g1 : W.heap[w.heap.size]? = some (.cells q.arr 32 (0, 0)) := by rw [hW]; exact (heap_alloc_old _ _ (by simp)).trans (heap_alloc_new w _)
  have g2 : W.heap[w.heap.size + 1]? = some (.cells Out.zero.arr 55 (0, 0)) := by rw [hW, show w.heap.size + 1 = (w.alloc (.cells q.arr 32)).heap.size by simp]; exact heap_alloc_new _ _
  have hI := ((h.zoned (Y := fun k => Z k ∧ k < w.heap.size) (fun k hk hz => ⟨hz, hk⟩)).keep hbW).keep (Below.refl W.heap.size W).drew
  have hI2 := ((h.zoned (Y := fun k => Z k ∧ k < w.heap.size) (fun k hk hz => ⟨hz, hk⟩)).keep hbW).keep ((Below.refl W.heap.size W).alloc (Nat.le_refl _) (.cells EntryV.zero.arr 151)).drew
  obtain ⟨E, hE⟩ : ∃ E, E = entOf r.T M q.tx := ⟨_, rfl⟩
  obtain ⟨bs, hbs⟩ : ∃ bs, bs = (M.txs q.tx).isSome := ⟨_, rfl⟩
  have l1 := (hI.look q.tx).1
  have l2 := (hI2.look q.tx).1
  rw [← hE, ← hbs] at l1 l2
  have c1 : W.drew.cell? ⟨p, 1, none⟩ = some (.map (some r.mt)) := hI.cell1
  have c3 : W.cell? ⟨p, 1, none⟩ = some (.map (some r.mt)) := hI.cell1
  have c2 : row? W.drew ⟨w.heap.size, 0, none⟩ 32 = some q.tx.arr := by rw [row_part (w := W.drew) g1 0 32 (by simp)]; simp only [Nat.zero_add]; rw [Outpoint.ext_tx]
  have c4 : row? W ⟨w.heap.size, 0, none⟩ 32 = some q.tx.arr := c2
  have HI := Lib.hid hI
  have HG := Lib.hid (And.intro g1 g2)
  have HY := Lib.hid (And.intro hE hbs)
  have HZ := Lib.hid hz
  have hpl : p < W.heap.size := hI.lt (.inl rfl)
  have hwl : w.heap.size < W.heap.size := by omega
  clear hI hI2 g1 g2 hE hbs h hz
  go_enter Try.func36, Try.ntmps36
  go_upto_region 3 with fail
  rw [← hW]
  clear hW
  go_cut [6, 7] (fun v6 v7 wx => v6 = .bool bs ∧ v7 = .pointer (some ⟨W.heap.size, 0, none⟩) ∧ wx.heap[W.heap.size]? = some (.cells E.arr 151 (0, 0)) ∧ Below W.heap.size W wx)
  case first =>
    go_region_law (fail)
    all_goals
      go_wp2_with fail
      go_meet
      exact ⟨rfl, rfl, heap_alloc_new W _, ((Below.refl W.heap.size W).alloc (Nat.le_refl _) _).drew⟩
  case rest =>
    obtain ⟨rfl, rfl, hge, hbc⟩ := hcut
    have hz := HZ.out
    have hgq : wc.heap[w.heap.size]? = some (.cells q.arr 32 (0, 0)) := (hbc.block _ (by omega)).trans HG.out.1
    have hgo : wc.heap[w.heap.size + 1]? = some (.cells Out.zero.arr 55 (0, 0)) := (hbc.block _ (by omega)).trans HG.out.2
    have d1 : wc.cell? ⟨w.heap.size, 32, none⟩ = some (.int .i64 q.n) := by rw [(cells_known hgq).1]; exact Outpoint.arr_32 q
    have d2 : wc.cell? ⟨W.heap.size, 1, none⟩ = some (.slice E.t.outs.a E.t.outs.n E.t.outs.c) := by rw [(cells_known hge).1]; exact EntryV.arr_1 E
    have d3 : row? wc ⟨w.heap.size + 1, 0, none⟩ 39 = some Out.zero.arr := row_of_block hgo (by simp)
    obtain ⟨W4, hst4, hW4, hu4⟩ := store_whole (P := Try.prog) (t := 55) size_Out wc (w.heap.size + 1) Out.zero.arr Out.zero.arr (by simp) (one_Out _) (by simp) hgo
    have hb4 := hbW.trans ((hbc.mono hbW.size).trans (hu4.below (Nat.le_trans hbW.size hbc.size) (fun k e => by have e2 : k = w.heap.size + 1 := e; omega)))
    have HW4 := Lib.hid (And.intro hW4 hb4)
    have HC := Lib.hid (And.intro hge (And.intro hbc (And.intro hgo hgq)))
    clear c1 c2 c3 c4 l1 l2 hW4 hu4 hb4 hge hbc hgo hgq hz
    by_cases hin : bs = true ∧ 0 ≤ q.n ∧ q.n < (E.t.outs.n : Int)
    · obtain ⟨rfl, hq0, hq1⟩ := hin
      obtain ⟨x, hx⟩ : ∃ x, M.txs q.tx = some x := Option.isSome_iff_exists.1 HY.out.2.symm
      have hEx : E = ⟨r.T q.tx, (x.2 : Nat)⟩ := by rw [HY.out.1, entOf_some hx]
      have hos : slIn W.drew (r.rest p (fun k => Z k ∧ k < w.heap.size)) E.t.outs 39 Out.arr x.1.outs := by rw [hEx]; exact (HI.out.ent _ _ hx).1.2.1
      have hon : E.t.outs.n = x.1.outs.length := hos.1
      obtain ⟨k, hk⟩ : ∃ k : Nat, q.n = (k : Int) := ⟨q.n.toNat, by omega⟩
      have hkl : k < x.1.outs.length := by omega
      obtain ⟨ob, off, ho, hrz, hobl, hor⟩ := hos.2.2.2 (by intro e; rw [e] at hkl; simp at hkl)
      have hr1 := hor k hkl
      obtain ⟨o, hoo⟩ : ∃ o, o = x.1.outs[k] := ⟨_, rfl⟩
      rw [← hoo] at hr1
      have hfin : Hid (outM M q = (o, E.height, true)) := by
        unfold Hid outM
        rw [hx]
        simp only
        rw [if_pos ⟨hq0, by rw [← hon]; exact hq1⟩, hEx, hoo, hk]
        simp [List.getD, hkl]
      have hcap := hos.2.1
      obtain ⟨hge, hbc, hgo, hgq⟩ := HC.out
      obtain ⟨W5, hst5, hW5, hu5⟩ := store_whole (P := Try.prog) (t := 55) size_Out wc.drew (w.heap.size + 1) o.arr Out.zero.arr (by simp) (one_Out _) (by simp) (show wc.drew.heap[w.heap.size + 1]? = _ from hgo)
      have hWl : W.heap.size < wc.heap.size := (cells_known hge).2.2
      have hz := HZ.out
      have hobl2 : ob < W.heap.size := hobl
      have hobz : ob ≠ w.heap.size + 1 := by
        intro e
        have := hrz.1.2
        omega
      have hge5 : W5.heap[W.heap.size]? = some (.cells E.arr 151 (0, 0)) := (hu5.block _ hWl (by omega)).trans hge
      have hgq5 : W5.heap[w.heap.size]? = some (.cells q.arr 32 (0, 0)) := (hu5.block _ (show w.heap.size < wc.heap.size by omega) (by omega)).trans hgq
      have f1 : wc.drew.cell? ⟨w.heap.size, 32, none⟩ = some (.int .i64 k) := by rw [(cells_known (w := wc.drew) hgq).1]; rw [← hk]; exact Outpoint.arr_32 q
      have f2 : wc.drew.cell? ⟨W.heap.size, 1, none⟩ = some (.slice (some ⟨ob, off, none⟩) x.1.outs.length E.t.outs.c) := by rw [(cells_known (w := wc.drew) hge).1, ← ho, ← hon]; exact EntryV.arr_1 E
      have f3 : wc.drew.cell? ⟨W.heap.size, 3, none⟩ = some (.int .i64 E.height) := by rw [(cells_known (w := wc.drew) hge).1]; exact EntryV.arr_3 E
      have f4 : row? wc.drew ⟨ob, off + k * 39, none⟩ 39 = some o.arr := (row?_of_block (a := ⟨ob, off + k * 39, none⟩) (hbc.block ob hobl2) 39).trans hr1
      have f5 : W5.cell? ⟨w.heap.size, 32, none⟩ = some (.int .i64 k) := by rw [(cells_known hgq5).1]; rw [← hk]; exact Outpoint.arr_32 q
      have f6 : W5.cell? ⟨W.heap.size, 1, none⟩ = some (.slice (some ⟨ob, off, none⟩) x.1.outs.length E.t.outs.c) := by rw [(cells_known hge5).1, ← ho, ← hon]; exact EntryV.arr_1 E
      have f7 : W5.cell? ⟨W.heap.size, 3, none⟩ = some (.int .i64 E.height) := by rw [(cells_known hge5).1]; exact EntryV.arr_3 E
      have f8 : row? W5 ⟨ob, off + k * 39, none⟩ 39 = some o.arr := (row?_of_block (a := ⟨ob, off + k * 39, none⟩) (hu5.block ob (Nat.lt_of_lt_of_le hobl2 hbc.size) hobz) 39).trans f4
      have hb5 := hbW.trans ((hbc.mono hbW.size).trans (((Below.refl wc.heap.size wc).drew.mono (Nat.le_trans hbW.size hbc.size)).trans (hu5.below (Nat.le_trans hbW.size hbc.size) (fun k e => by have e2 : k = w.heap.size + 1 := e; omega))))
      have d1' : wc.cell? ⟨w.heap.size, 32, none⟩ = some (.int .i64 k) := f1
      have d2' : wc.cell? ⟨W.heap.size, 1, none⟩ = some (.slice (some ⟨ob, off, none⟩) x.1.outs.length E.t.outs.c) := f2
      have k0 : (0 : Int) ≤ (k : Int) := by omega
      have k1 : (k : Int) < (x.1.outs.length : Int) := by omega
      have k2 : decide ((k : Int) < 0) = false := decide_eq_false (by omega)
      have k3 : ¬ (x.1.outs.length ≤ k) := by omega
      have k4 : decide ((x.1.outs.length : Int) ≤ (k : Int)) = false := decide_eq_false (by omega)
      have HW5 := Lib.hid (And.intro hW5 hb5)
      clear hW5 hb5 hu5 hge5 hgq5 hge hbc hgo hgq d1 d2 hr1 hor hoo hEx hos hon hk hq0 hq1 ho hz hst4 d3 hx
      go_upto_region 6 with fail
      go_cut [5, 6] (fun v5 v6 wx => v5 = .int .i64 E.height ∧ v6 = .bool true ∧ wx.heap[w.heap.size + 1]? = some (.cells o.arr 55 (0, 0)) ∧ Below w.heap.size w wx)
      case first =>
        go_region_law (fail)
        all_goals
          go_wp2_with fail
          go_meet
          exact ⟨rfl, rfl, HW5.out.1, HW5.out.2⟩
      case rest =>
        obtain ⟨rfl, rfl, hgx, hbx⟩ := hcut
        go_wp2_with fail
        refine bodyPost_ret (results_cell2 rfl _ _ (w.heap.size + 1) 55 o.arr (0, 0) _ (.int .i64 E.height) (.bool true) rfl rfl rfl hgx Try.underlying55 rfl (by rw [size_Out]; simp)) rfl ⟨by rw [hfin.out], hbx⟩
    · have hfin : Hid (outM M q = (Out.zero, 0, false)) := by
        unfold Hid outM
        cases hx : M.txs q.tx with
        | none => rfl
        | some x =>
          have h1 : E = ⟨r.T q.tx, (x.2 : Nat)⟩ := by rw [HY.out.1, entOf_some hx]
          have h2 : E.t.outs.n = x.1.outs.length := by rw [h1]; exact (HI.out.ent _ _ hx).1.2.1.1
          have h3 : bs = true := by rw [HY.out.2, hx]; rfl
          simp only
          rw [if_neg]
          intro hc
          exact hin ⟨h3, hc.1, by rw [h2]; exact hc.2⟩
      have fin : ∀ W5 : World, W5 = W4 → Below w.heap.size w W5 := fun W5 e => e ▸ HW4.out.2
      cases bs with
      | false =>
        clear hin
        go_wp2_with fail
        refine bodyPost_ret (results_cell2 rfl _ _ (w.heap.size + 1) 55 Out.zero.arr (0, 0) _ (.int .i64 0) (.bool false) rfl rfl rfl HW4.out.1 Try.underlying55 rfl (by rw [size_Out]; simp)) rfl ⟨by rw [hfin.out], HW4.out.2⟩
      | true =>
        by_cases hq0 : q.n < 0
        · have e1 : decide (q.n < 0) = true := decide_eq_true hq0
          clear hin
          go_wp2_with fail
          refine bodyPost_ret (results_cell2 rfl _ _ (w.heap.size + 1) 55 Out.zero.arr (0, 0) _ (.int .i64 0) (.bool false) rfl rfl rfl HW4.out.1 Try.underlying55 rfl (by rw [size_Out]; simp)) rfl ⟨by rw [hfin.out], HW4.out.2⟩
        · have e1 : decide (q.n < 0) = false := decide_eq_false hq0
          have hq1 : (E.t.outs.n : Int) ≤ q.n := by
            by_cases h : q.n < (E.t.outs.n : Int)
            · exact absurd ⟨rfl, by omega, h⟩ hin
            · omega
          have e2 : decide ((E.t.outs.n : Int) ≤ q.n) = true := decide_eq_true hq1
          clear hin
          go_wp2_with fail
          refine bodyPost_ret (results_cell2 rfl _ _ (w.heap.size + 1) 55 Out.zero.arr (0, 0) _ (.int .i64 0) (.bool false) rfl rfl rfl HW4.out.1 Try.underlying55 rfl (by rw [size_Out]; simp)) rfl ⟨by rw [hfin.out], HW4.out.2⟩
def unspM (M : Maps) (q : Outpoint) : Bool := (outM M q).2.2 && !(spM M q).2.2
set_option maxRecDepth 100000 in
set_option maxHeartbeats 2000000 in
theorem unspent_ix (Z : Nat → Prop) (p : Nat) (r : IdxR) (M : Maps) (B : List (List Hash)) (q : Outpoint) (hq : i64 q.n) (w : World) (h : IdxAt w Z p r M B) :
    Calls Try.prog 37 #[.pointer (some ⟨p, 0, none⟩), .agg q.arr] w fun e w' => e = .returned (.bool (unspM M q)) ∧ Below w.heap.size w w' := by
  obtain ⟨W, hW⟩ : ∃ W, W = w.alloc (.cells q.arr 32) := ⟨_, rfl⟩
  have hbW : Below w.heap.size w W := hW ▸ (Below.refl _ _).alloc (Nat.le_refl _) _
  have g1 : W.heap[w.heap.size]? = some (.cells q.arr 32 (0, 0)) := by rw [hW]; exact heap_alloc_new w _
  have hI := h.keep hbW
  have hout := out_ix Z p r M B q hq W hI
  obtain ⟨o, ho⟩ : ∃ o, o = outM M q := ⟨_, rfl⟩
  obtain ⟨s, hs⟩ : ∃ s, s = spM M q := ⟨_, rfl⟩
  rw [← ho] at hout
  have c1 : row? W ⟨w.heap.size, 0, none⟩ 33 = some q.arr := row_of_block g1 (by simp)
  have hfin : Hid (unspM M q = (o.2.2 && !s.2.2)) := by unfold Hid unspM; rw [ho, hs]
  have HI := Lib.hid hI
  have HG := Lib.hid g1
  have HS := Lib.hid hs
  have hwl : w.heap.size < W.heap.size := (cells_known g1).2.2
  clear hI g1 ho hs h
  obtain ⟨o1, o2, o3⟩ := o
  obtain ⟨s1, s2, s3⟩ := s
  simp only at hout
  go_enter Try.func37, Try.ntmps37
  go_upto_region 1 with fail
  rw [← hW]
  clear hW
  go_wp2_with fail
  refine hout.mono ?_
  rintro e w1 ⟨rfl, hb1⟩
  obtain ⟨X, hX⟩ : ∃ X, X = w1.alloc (.cells o1.arr 55) := ⟨_, rfl⟩
  have hbX : Below W.heap.size W X := hX ▸ hb1.alloc hb1.size _
  have hspd := spender_ix Z p r M B q hq X (HI.out.keep hbX)
  rw [← HS.out] at hspd
  simp only at hspd
  have c2 : row? X ⟨w.heap.size, 0, none⟩ 33 = some q.arr := row_of_block ((hbX.block _ hwl).trans HG.out) (by simp)
  clear hout c1 hb1
  go_upto_region 2 with fail
  rw [← hX]
  clear hX
  go_wp2_with fail
  refine hspd.mono ?_
  rintro e w2 ⟨rfl, hb2⟩
  have hb3 := (hbW.trans (hbX.mono hbW.size)).trans ((hb2.alloc hb2.size (.cells s1.arr 30)).mono (Nat.le_trans hbW.size hbX.size))
  clear hspd c2 hb2
  cases o3 with
  | false =>
    go_wp2_with fail
    go_ret
    exact ⟨by rw [hfin.out]; rfl, hb3⟩
  | true =>
    go_wp2_with fail
    go_ret
    exact ⟨by rw [hfin.out]; rfl, hb3⟩
set_option maxRecDepth 100000 in
theorem out_nil (q : Outpoint) (w : World) : Calls Try.prog 36 #[.pointer none, .agg q.arr] w fun e w' => e = .returned (.tuple #[.agg Out.zero.arr, .int .i64 0, .bool false]) ∧ Below w.heap.size w w' := by
  obtain ⟨W, hW⟩ : ∃ W, W = (w.alloc (.cells q.arr 32)).alloc (.cells Out.zero.arr 55) := ⟨_, rfl⟩
  have hbW : Below w.heap.size w W := hW ▸ ((Below.refl _ _).alloc (Nat.le_refl _) _).alloc (by simp) _
  have g2 : W.heap[w.heap.size + 1]? = some (.cells Out.zero.arr 55 (0, 0)) := by rw [hW, show w.heap.size + 1 = (w.alloc (.cells q.arr 32)).heap.size by simp]; exact heap_alloc_new _ _
  obtain ⟨W4, hst4, hW4, hu4⟩ := store_whole (P := Try.prog) (t := 55) size_Out W (w.heap.size + 1) Out.zero.arr Out.zero.arr (by simp) (one_Out _) (by simp) g2
  have d3 : row? W ⟨w.heap.size + 1, 0, none⟩ 39 = some Out.zero.arr := row_of_block g2 (by simp)
  have HW4 := Lib.hid (And.intro hW4 (hbW.trans (hu4.below hbW.size (fun k e => by have e2 : k = w.heap.size + 1 := e; omega))))
  clear hW4 hu4 g2
  go_enter Try.func36, Try.ntmps36
  go_upto_region 2 with fail
  rw [← hW]
  clear hW
  go_wp2_with fail
  refine bodyPost_ret (results_cell2 rfl _ _ (w.heap.size + 1) 55 Out.zero.arr (0, 0) _ (.int .i64 0) (.bool false) rfl rfl rfl HW4.out.1 Try.underlying55 rfl (by rw [size_Out]; simp)) rfl ⟨rfl, HW4.out.2⟩
set_option maxRecDepth 100000 in
theorem spender_nil (q : Outpoint) (w : World) : Calls Try.prog 35 #[.pointer none, .agg q.arr] w fun e w' => e = .returned (.tuple #[.agg Hash.zero.arr, .int .i64 0, .bool false]) ∧ Below w.heap.size w w' := by
  obtain ⟨W, hW⟩ : ∃ W, W = (w.alloc (.cells q.arr 32)).alloc (.cells Hash.zero.arr 30) := ⟨_, rfl⟩
  have hbW : Below w.heap.size w W := hW ▸ ((Below.refl _ _).alloc (Nat.le_refl _) _).alloc (by simp) _
  have g2 : W.heap[w.heap.size + 1]? = some (.cells Hash.zero.arr 30 (0, 0)) := by rw [hW, show w.heap.size + 1 = (w.alloc (.cells q.arr 32)).heap.size by simp]; exact heap_alloc_new _ _
  obtain ⟨W4, hst4, hW4, hu4⟩ := store_whole (P := Try.prog) (t := 30) size_Hash W (w.heap.size + 1) Hash.zero.arr Hash.zero.arr (by simp) (one_Hash _) (by simp) g2
  have d3 : row? W ⟨w.heap.size + 1, 0, none⟩ 32 = some Hash.zero.arr := row_of_block g2 (by simp)
  have HW4 := Lib.hid (And.intro hW4 (hbW.trans (hu4.below hbW.size (fun k e => by have e2 : k = w.heap.size + 1 := e; omega))))
  clear hW4 hu4 g2
  go_enter Try.func35, Try.ntmps35
  go_upto_region 2 with fail
  rw [← hW]
  clear hW
  go_wp2_with fail
  refine bodyPost_ret (results_cell2 rfl _ _ (w.heap.size + 1) 30 Hash.zero.arr (0, 0) _ (.int .i64 0) (.bool false) rfl rfl rfl HW4.out.1 Try.underlying30 rfl (by rw [size_Hash]; simp)) rfl ⟨rfl, HW4.out.2⟩
set_option maxRecDepth 100000 in
theorem unspent_nil (q : Outpoint) (w : World) : Calls Try.prog 37 #[.pointer none, .agg q.arr] w fun e w' => e = .returned (.bool false) ∧ Below w.heap.size w w' := by
  obtain ⟨W, hW⟩ : ∃ W, W = w.alloc (.cells q.arr 32) := ⟨_, rfl⟩
  have hbW : Below w.heap.size w W := hW ▸ (Below.refl _ _).alloc (Nat.le_refl _) _
  have g1 : W.heap[w.heap.size]? = some (.cells q.arr 32 (0, 0)) := by rw [hW]; exact heap_alloc_new w _
  have hout := out_nil q W
  have c1 : row? W ⟨w.heap.size, 0, none⟩ 33 = some q.arr := row_of_block g1 (by simp)
  have HG := Lib.hid g1
  have hwl : w.heap.size < W.heap.size := (cells_known g1).2.2
  clear g1
  go_enter Try.func37, Try.ntmps37
  go_upto_region 1 with fail
  rw [← hW]
  clear hW
  go_wp2_with fail
  refine hout.mono ?_
  rintro e w1 ⟨rfl, hb1⟩
  obtain ⟨X, hX⟩ : ∃ X, X = w1.alloc (.cells Out.zero.arr 55) := ⟨_, rfl⟩
  have hbX : Below W.heap.size W X := hX ▸ hb1.alloc hb1.size _
  have hspd := spender_nil q X
  have c2 : row? X ⟨w.heap.size, 0, none⟩ 33 = some q.arr := row_of_block ((hbX.block _ hwl).trans HG.out) (by simp)
  clear hout c1 hb1
  go_upto_region 2 with fail
  rw [← hX]
  clear hX
  go_wp2_with fail
  refine hspd.mono ?_
  rintro e w2 ⟨rfl, hb2⟩
  have hb3 := (hbW.trans (hbX.mono hbW.size)).trans ((hb2.alloc hb2.size (.cells Hash.zero.arr 30)).mono (Nat.le_trans hbW.size hbX.size))
  clear hspd c2 hb2
  go_wp2_with fail
  go_ret
  exact ⟨rfl, hb3⟩
end Go.Proofs.Ytaopiefbejajkaa
