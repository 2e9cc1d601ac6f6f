/- Package index: outputs, and who spent them. Package index: outputs, and whether they are unspent. -/
import Derived.Test.YtlkojkjeklblkaaGreatIdxJ
set_option linter.unusedSimpArgs false
set_option linter.unusedVariables false
namespace Go.Proofs.YtlkojkjeklblkaaGreat
open Go.RowKit
attribute [local go_sem] Hash.ext_whole In.ext_tx Hash.size_arr
/-- A struct stored over a variable: as an equation. -/
theorem store_whole {P : Program} {t t' : TypeId} {n : Nat} (hi : (P.info? t).map (·.size) = some n) (w : World) (b : Nat) (cs old : Array Value) (hn : cs.size = n) (h1 : ∀ v ∈ cs.toList, v.oneCell' = true) (hold : old.size = n) (h : w.heap[b]? = some (.cells old t' (0, 0))) :
    ∃ w', (storeS t (.pointer (some ⟨b, 0, none⟩)) (.agg cs)).run P w = .ok () w' ∧ w'.heap[b]? = some (.cells cs t' (0, 0)) ∧ Upd w w' (fun k => k = b) := by
  have hrow := row_of_block h hold
  have hrun : (Instr.storeAt t (.pointer (some ⟨b, 0, none⟩)) (.agg cs)).run P w = .ok () (putRow w ⟨b, 0, none⟩ cs) := run_storeAt_row hi w b 0 cs hn h1 (by rw [hrow]; rfl) (fun j _ => (cells_known h).2.1 _)
  refine ⟨_, hrun, ?_, setCells_upd b _ 0 w⟩
  have hh := heap_setCells cs.toList 0 w _ h
  have e := putRow_eq 0 [] old.toList [] cs.toList rfl (by simp; omega)
  simp only [List.nil_append, List.append_nil, Array.toArray_toList] at e
  rw [e] at hh
  exact hh
/-- An output's, and its height. -/
def outM (M : Maps) (q : Outpoint) : Out × Int × Bool :=
  match M.txs q.tx with
  | some x => if 0 ≤ q.n ∧ q.n < (x.1.outs.length : Int) then (x.1.outs.getD q.n.toNat Out.zero, (x.2 : Nat), true) else (Out.zero, 0, false)
  | none => (Out.zero, 0, false)
/-- Who spent a place, and at which height. -/
def spM (M : Maps) (q : Outpoint) : Hash × Int × Bool :=
  match M.sp q with
  | some z => (z, (match M.txs z with | some x => ((x.2 : Nat) : Int) | none => 0), true)
  | none => (Hash.zero, (match M.txs Hash.zero with | some x => ((x.2 : Nat) : Int) | none => 0), false)
theorem results_cell2 {P : Program} {fn : Func} {p q q2 : Tmp} {ty : TypeId} (h : fn.results = #[.cell p ty, .tmp q, .tmp q2]) (tmps : Array Value) (w : World) (g : Nat) (t : TypeId) (cs : Array Value) (fr : Nat × Nat) (d : TypeDesc) (v v2 : Value)
    (hp : tmps.getD p undef = .pointer (some ⟨g, 0, none⟩)) (hq : tmps.getD q undef = v) (hq2 : tmps.getD q2 undef = v2) (hg : w.heap[g]? = some (.cells cs t fr))
    (hu : P.underlying ty = some d) (hd : (match d with | .struct _ | .array _ _ => true | _ => false) = true) (hi : (P.info? ty).map (·.size) = some cs.size) :
    (results fn tmps).run P w = .ok (.tuple #[.agg cs, v, v2]) w := by
  have hp' : tmps[p]?.getD undef = .pointer (some ⟨g, 0, none⟩) := by simpa using hp
  have hq' : tmps[q]?.getD undef = v := by simpa using hq
  have hq2' : tmps[q2]?.getD undef = v2 := by simpa using hq2
  simp [results, h, hp', hq', hq2', asAddr, run_loadVar_row w g t ty cs fr d hg hu hd hi]
set_option maxRecDepth 100000 in
set_option maxHeartbeats 4000000 in
theorem spender_ix (Z : Nat → Prop) (p : Nat) (r : IdxR) (M : Maps) (B : List (List Hash)) (q : Outpoint) (hq : i64 q.n) (w : World) (h : IdxAt w Z p r M B) :
    Calls Tryz.prog 146 #[.pointer (some ⟨p, 0, none⟩), .agg q.arr] w fun e w' => e = .returned (.tuple #[.agg (spM M q).1.arr, .int .i64 (spM M q).2.1, .bool (spM M q).2.2]) ∧ Below w.heap.size w w' := by
  obtain ⟨W, hW⟩ : ∃ W, W = (w.alloc (.cells q.arr 40)).alloc (.cells Hash.zero.arr 38) := ⟨_, rfl⟩
  have hbW : Below w.heap.size w W := hW ▸ ((Below.refl _ _).alloc (Nat.le_refl _) _).alloc (by simp) _
  have hz : W.heap.size = w.heap.size + 2 := by rw [hW]; simp
  have g1 : W.heap[w.heap.size]? = some (.cells q.arr 40 (0, 0)) := by rw [hW]; exact (heap_alloc_old _ _ (by simp)).trans (heap_alloc_new w _)
  have g2 : W.heap[w.heap.size + 1]? = some (.cells Hash.zero.arr 38 (0, 0)) := by rw [hW, show w.heap.size + 1 = (w.alloc (.cells q.arr 40)).heap.size by simp]; exact heap_alloc_new _ _
  have hI := ((h.zoned (Y := fun k => Z k ∧ k < w.heap.size) (fun k hk hz => ⟨hz, hk⟩)).keep hbW).keep (Below.refl W.heap.size W).drew
  have l1 := hI.lookSp q hq
  have c1 : W.drew.cell? ⟨p, 2, none⟩ = some (.map (some r.ms)) := hI.cell2
  have c2 : row? W.drew ⟨w.heap.size, 0, none⟩ 33 = some q.arr := row_of_block (w := W.drew) g1 (by simp)
  obtain ⟨y, hy⟩ : ∃ y, y = (M.sp q).getD Hash.zero := ⟨_, rfl⟩
  obtain ⟨bs, hbs⟩ : ∃ bs, bs = (M.sp q).isSome := ⟨_, rfl⟩
  rw [← hy, ← hbs] at l1
  obtain ⟨W2, hst, hW2, hu2⟩ := store_whole (P := Tryz.prog) (t := 38) size_Hash W.drew (w.heap.size + 1) y.arr Hash.zero.arr (by simp) (one_Hash _) (by simp) (show W.drew.heap[w.heap.size + 1]? = _ from g2)
  have HW2 := Lib.hid (And.intro hW2 hu2)
  have HI := Lib.hid hI
  have HG2 := Lib.hid g2
  have HY := Lib.hid (And.intro hy hbs)
  have HZ := Lib.hid hz
  have hpl : p < w.heap.size := h.lt (.inl rfl)
  clear hI g1 g2 hy hbs h hz hW2 hu2
  go_enter Tryz.func146, Tryz.ntmps146
  go_upto_region 3 with fail
  rw [← hW]
  clear hW
  go_cut [6] (fun v6 wx => v6 = .bool bs ∧ wx.heap[w.heap.size + 1]? = some (.cells y.arr 38 (0, 0)) ∧ Upd W wx (fun k => k = w.heap.size + 1))
  case first =>
    go_region_law (fail)
    all_goals
      go_wp2_with fail
      go_meet
      exact ⟨rfl, HW2.out.1, (Upd.of_below (Below.refl W.heap.size W).drew (fun k => k = w.heap.size + 1)).trans HW2.out.2 (fun _ _ h => h)⟩
  case rest =>
    obtain ⟨rfl, hgc, huc⟩ := hcut
    have hz := HZ.out
    have hIc : IdxAt wc.drew (fun k => Z k ∧ k < w.heap.size) p r M B := HI.out.kept (S := fun k => k = w.heap.size + 1) (w' := wc.drew) ⟨huc.os, huc.tape, huc.output, huc.size, huc.block⟩ (fun k hk _ e => by omega)
    obtain ⟨E, hE⟩ : ∃ E, E = entOf r.T M y := ⟨_, rfl⟩
    have l2 := (hIc.look y).2
    rw [← hE] at l2
    have d1 : wc.drew.cell? ⟨p, 1, none⟩ = some (.map (some r.mt)) := hIc.cell1
    have d2 : row? wc.drew ⟨w.heap.size + 1, 0, none⟩ 32 = some y.arr := row_of_block (w := wc.drew) hgc (by simp)
    obtain ⟨W4, hst4, hW4, hu4⟩ := store_whole (P := Tryz.prog) (t := 38) size_Hash wc.drew (w.heap.size + 1) y.arr y.arr (by simp) (one_Hash _) (by simp) (show wc.drew.heap[w.heap.size + 1]? = _ from hgc)
    have hI4 := hIc.kept hu4 (fun k hk _ e => by have e2 : k = w.heap.size + 1 := e; omega)
    have l3 := (hI4.look y).2
    rw [← hE] at l3
    have d3 : W4.cell? ⟨p, 1, none⟩ = some (.map (some r.mt)) := hI4.cell1
    have d4 : row? W4 ⟨w.heap.size + 1, 0, none⟩ 32 = some y.arr := row_of_block hW4 (by simp)
    have HW4 := Lib.hid (And.intro hW4 (huc.trans ((Upd.of_below (Below.refl wc.heap.size wc).drew (fun k => k = w.heap.size + 1)).trans hu4 (fun _ _ h => h)) (fun _ _ h => h)))
    have HE := Lib.hid hE
    clear c1 c2 l1 hst hIc hI4 hE hgc huc hW4 hu4 hz
    go_upto_region 4 with fail
    go_cut [5, 6] (fun v5 v6 wx => v5 = .int .i64 E.height ∧ v6 = .bool bs ∧ wx.heap[w.heap.size + 1]? = some (.cells y.arr 38 (0, 0)) ∧ Upd W wx (fun k => k = w.heap.size + 1))
    case first =>
      go_region_law (fail)
      all_goals
        go_wp2_with fail
        go_meet
        exact ⟨rfl, rfl, HW4.out.1, HW4.out.2⟩
    case rest =>
      obtain ⟨rfl, rfl, hgx, hux⟩ := hcut
      go_wp2_with fail
      refine bodyPost_ret (results_cell2 rfl _ _ (w.heap.size + 1) 38 y.arr (0, 0) _ (.int .i64 E.height) (.bool bs) rfl rfl rfl hgx Tryz.underlying38 rfl (by rw [size_Hash]; simp)) rfl ⟨?_, hbW.trans (hux.below hbW.size (fun k e => by have e2 : k = w.heap.size + 1 := e; omega))⟩
      have hy := HY.out.1
      have hb := HY.out.2
      have he := HE.out
      have hh : E.height = (match M.txs y with | some x => ((x.2 : Nat) : Int) | none => 0) := by
        rw [he]
        cases hx : M.txs y with
        | none => rw [entOf_none hx]; rfl
        | some x => rw [entOf_some hx]
      unfold spM
      cases hs : M.sp q with
      | none =>
        rw [hs] at hy hb
        have hy2 : y = Hash.zero := hy
        have hb2 : bs = false := hb
        rw [hh, hy2, hb2]
      | some z =>
        rw [hs] at hy hb
        have hy2 : y = z := hy
        have hb2 : bs = true := hb
        rw [hh, hy2, hb2]
end Go.Proofs.YtlkojkjeklblkaaGreat
namespace Go.Proofs.YtlkojkjeklblkaaGreat
open Go.RowKit
attribute [local go_sem] Hash.ext_whole In.ext_tx Hash.size_arr
theorem Outpoint.ext_tx (x : Outpoint) : x.arr.extract 0 32 = x.tx.arr := Outpoint.ext_0 x
def unspM (M : Maps) (q : Outpoint) : Bool := (outM M q).2.2 && !(spM M q).2.2
set_option maxRecDepth 100000 in
theorem spender_nil (q : Outpoint) (w : World) : Calls Tryz.prog 146 #[.pointer none, .agg q.arr] w fun e w' => e = .returned (.tuple #[.agg Hash.zero.arr, .int .i64 0, .bool false]) ∧ Below w.heap.size w w' := by
  obtain ⟨W, hW⟩ : ∃ W, W = (w.alloc (.cells q.arr 40)).alloc (.cells Hash.zero.arr 38) := ⟨_, rfl⟩
  have hbW : Below w.heap.size w W := hW ▸ ((Below.refl _ _).alloc (Nat.le_refl _) _).alloc (by simp) _
  have g2 : W.heap[w.heap.size + 1]? = some (.cells Hash.zero.arr 38 (0, 0)) := by rw [hW, show w.heap.size + 1 = (w.alloc (.cells q.arr 40)).heap.size by simp]; exact heap_alloc_new _ _
  obtain ⟨W4, hst4, hW4, hu4⟩ := store_whole (P := Tryz.prog) (t := 38) size_Hash W (w.heap.size + 1) Hash.zero.arr Hash.zero.arr (by simp) (one_Hash _) (by simp) g2
  have d3 : row? W ⟨w.heap.size + 1, 0, none⟩ 32 = some Hash.zero.arr := row_of_block g2 (by simp)
  have HW4 := Lib.hid (And.intro hW4 (hbW.trans (hu4.below hbW.size (fun k e => by have e2 : k = w.heap.size + 1 := e; omega))))
  clear hW4 hu4 g2
  go_enter Tryz.func146, Tryz.ntmps146
  go_upto_region 2 with fail
  rw [← hW]
  clear hW
  go_wp2_with fail
  refine bodyPost_ret (results_cell2 rfl _ _ (w.heap.size + 1) 38 Hash.zero.arr (0, 0) _ (.int .i64 0) (.bool false) rfl rfl rfl HW4.out.1 Tryz.underlying38 rfl (by rw [size_Hash]; simp)) rfl ⟨rfl, HW4.out.2⟩
end Go.Proofs.YtlkojkjeklblkaaGreat
