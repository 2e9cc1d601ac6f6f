/- Package index: a transaction by its number, and its height. Package notify, in plain words: who is told what. -/
import Derived.Test.YtlkojkjeklblkaaGreatIdxL
set_option linter.unusedSimpArgs false
set_option linter.unusedVariables false
namespace Go.Proofs.YtlkojkjeklblkaaGreat
open Go.RowKit
attribute [local go_sem] Hash.ext_whole In.ext_tx Hash.size_arr
/-- A transaction's height; whether it is there. -/
def txM (M : Maps) (z : Hash) : Int × Bool := match M.txs z with | some x => (((x.2 : Nat) : Int), true) | none => (0, false)
def txT (M : Maps) (z : Hash) : Tx := match M.txs z with | some x => x.1 | none => tz
set_option maxRecDepth 100000 in
set_option maxHeartbeats 4000000 in
theorem tx_ix (Z : Nat → Prop) (p : Nat) (r : IdxR) (M : Maps) (B : List (List Hash)) (z : Hash) (w : World) (h : IdxAt w Z p r M B) :
    Calls Tryz.prog 145 #[.pointer (some ⟨p, 0, none⟩), .agg z.arr] w fun e w' => ∃ v : TxV, e = .returned (.tuple #[.agg v.arr, .int .i64 (txM M z).1, .bool (txM M z).2]) ∧ txIn w' (fun k => w.heap.size ≤ k) v (txT M z) ∧ Below w.heap.size w w' := by
  obtain ⟨W, hW⟩ : ∃ W, W = (w.alloc (.cells z.arr 38)).alloc (.cells TxV.zero.arr 72) := ⟨_, rfl⟩
  have hbW : Below w.heap.size w W := hW ▸ ((Below.refl _ _).alloc (Nat.le_refl _) _).alloc (by simp) _
  have hz : W.heap.size = w.heap.size + 2 := by rw [hW]; simp
  have g1 : W.heap[w.heap.size]? = some (.cells z.arr 38 (0, 0)) := by rw [hW]; exact (heap_alloc_old _ _ (by simp)).trans (heap_alloc_new w _)
  have g2 : W.heap[w.heap.size + 1]? = some (.cells TxV.zero.arr 72 (0, 0)) := by rw [hW, show w.heap.size + 1 = (w.alloc (.cells z.arr 38)).heap.size by simp]; exact heap_alloc_new _ _
  have hI := ((h.zoned (Y := fun k => Z k ∧ k < w.heap.size) (fun k hk hz => ⟨hz, hk⟩)).keep hbW).keep (Below.refl W.heap.size W).drew
  have hI2 := ((h.zoned (Y := fun k => Z k ∧ k < w.heap.size) (fun k hk hz => ⟨hz, hk⟩)).keep hbW).keep ((Below.refl W.heap.size W).alloc (Nat.le_refl _) (.cells EntryV.zero.arr 188)).drew
  obtain ⟨E, hE⟩ : ∃ E, E = entOf r.T M z := ⟨_, rfl⟩
  obtain ⟨bs, hbs⟩ : ∃ bs, bs = (M.txs z).isSome := ⟨_, rfl⟩
  have l1 := (hI.look z).1
  have l2 := (hI2.look z).1
  rw [← hE, ← hbs] at l1 l2
  have c1 : W.drew.cell? ⟨p, 1, none⟩ = some (.map (some r.mt)) := hI.cell1
  have c3 : W.cell? ⟨p, 1, none⟩ = some (.map (some r.mt)) := hI.cell1
  have c2 : row? W.drew ⟨w.heap.size, 0, none⟩ 32 = some z.arr := row_of_block (w := W.drew) g1 (by simp)
  have c4 : row? W ⟨w.heap.size, 0, none⟩ 32 = some z.arr := c2
  have hEx : E.height = (txM M z).1 ∧ bs = (txM M z).2 := by
    rw [hE, hbs]; unfold txM
    cases hx : M.txs z with
    | none => rw [entOf_none hx]; exact ⟨rfl, rfl⟩
    | some x => rw [entOf_some hx]; exact ⟨rfl, rfl⟩
  have hT : isTx W E.t (txT M z) W.heap.size ∧ (txT M z).ins.length ≤ 1000000 ∧ (txT M z).outs.length ≤ 1000000 := by
    rw [hE]; unfold txT
    cases hx : M.txs z with
    | none => rw [entOf_none hx]; exact ⟨isTx_zero _ _, by decide, by decide⟩
    | some x =>
      rw [entOf_some hx]
      have ho := checkS_ok (hI.ent z x hx).2
      exact ⟨(show txIn W _ _ _ from (hI.ent z x hx).1).isTx, Nat.le_trans ho.1 (by decide), Nat.le_trans ho.2.1 (by decide)⟩
  have HT := Lib.hid hT
  have HG := Lib.hid (And.intro g1 g2)
  have HX := Lib.hid hEx
  have HZ := Lib.hid hz
  have hpl : p < W.heap.size := hI.lt (.inl rfl)
  have hwl : w.heap.size < W.heap.size := by omega
  clear hI hI2 g1 g2 hE hbs h hz hEx hT
  go_enter Tryz.func145, Tryz.ntmps145
  go_upto_region 3 with fail
  rw [← hW]
  clear hW
  go_cut [6, 7] (fun v6 v7 wx => v6 = .bool bs ∧ v7 = .pointer (some ⟨W.heap.size, 0, none⟩) ∧ wx.heap[W.heap.size]? = some (.cells E.arr 188 (0, 0)) ∧ Below W.heap.size W wx)
  case first =>
    go_region_law (fail)
    all_goals
      go_wp2_with fail
      go_meet
      exact ⟨rfl, rfl, heap_alloc_new W _, ((Below.refl W.heap.size W).alloc (Nat.le_refl _) _).drew⟩
  case rest =>
    obtain ⟨rfl, rfl, hge, hbc⟩ := hcut
    have hz := HZ.out
    have hgo : wc.heap[w.heap.size + 1]? = some (.cells TxV.zero.arr 72 (0, 0)) := (hbc.block _ (by omega)).trans HG.out.2
    have hWl : W.heap.size < wc.heap.size := (cells_known hge).2.2
    have r1 : row? wc.drew ⟨W.heap.size, 0, none⟩ 3 = some E.t.arr := by rw [row_part (w := wc.drew) hge 0 3 (by simp)]; simp only [Nat.zero_add]; rw [EntryV.ext_0]
    have c1 : wc.drew.cell? ⟨W.heap.size, 3, none⟩ = some (.int .i64 E.height) := by rw [(cells_known (w := wc.drew) hge).1]; exact EntryV.arr_3 E
    have hown := own_tx E.t (txT M z) wc.drew ((HT.out.1.below (hbc.drew)).mono hbc.size) HT.out.2.1 HT.out.2.2
    have HGE := Lib.hid hge
    have HGO := Lib.hid hgo
    have HB := Lib.hid (hbW.trans (hbc.mono hbW.size))
    have hw1 : w.heap.size + 1 < wc.heap.size := by omega
    have hw3 : w.heap.size + 1 < W.heap.size := by omega
    clear c1 c2 c3 c4 l1 l2 hge hgo hbc hz
    have c1 : wc.drew.cell? ⟨W.heap.size, 3, none⟩ = some (.int .i64 E.height) := by rw [(cells_known (w := wc.drew) HGE.out).1]; exact EntryV.arr_3 E
    go_upto_region 4 with fail
    go_region_law (first | (go_simp; go_at_call 100; refine hown.mono ?_; rintro e wA ⟨u, rfl, huA, hbA⟩; have hA1 : wA.cell? ⟨W.heap.size, 3, none⟩ = some (.int .i64 E.height) := (hbA.cell (p := ⟨W.heap.size, 3, none⟩) hWl).trans c1; obtain ⟨W5, hst5, hW5, hu5⟩ := store_whole (P := Tryz.prog) (t := 72) size_TxV wA (w.heap.size + 1) u.arr TxV.zero.arr (by simp) (one_TxV _) (by simp) ((hbA.block (w.heap.size + 1) hw1).trans HGO.out); have hA5 : W5.cell? ⟨W.heap.size, 3, none⟩ = some (.int .i64 E.height) := (hu5.cell (Nat.lt_of_lt_of_le hWl hbA.size) (fun e => by have h2 : W.heap.size = w.heap.size + 1 := e; omega) 3).trans hA1))
    all_goals
      go_wp2_with fail
      refine bodyPost_ret (results_cell2 rfl _ _ (w.heap.size + 1) 72 u.arr (0, 0) _ (.int .i64 E.height) (.bool bs) rfl rfl rfl hW5 Tryz.underlying72 rfl (by rw [size_TxV]; simp)) rfl ⟨u, by rw [HX.out.1, HX.out.2], (huA.upd hu5 (fun k hk _ e => by have h1 : wc.heap.size ≤ k := hk; have h2 : k = w.heap.size + 1 := e; omega)).zone (fun k _ hk => by have h1 : wc.heap.size ≤ k := hk; omega), ?_⟩
      exact HB.out.trans (((Below.refl w.heap.size wc).drew.trans ((hbA.mono HB.out.size).trans (hu5.below (Nat.le_trans HB.out.size hbA.size) (fun k e => by have h2 : k = w.heap.size + 1 := e; omega)))))
end Go.Proofs.YtlkojkjeklblkaaGreat
namespace Go.Proofs.YtlkojkjeklblkaaGreat
/-- A registration, its number, and what stands. -/
structure NRow where
  id : Int
  r : Reg
  st : Option Note
structure HubM where
  most : Int
  last : Int
  rows : List NRow
  L : List (List Tx)
def plainR (r : Reg) : Reg :=
  if r.kind = 1 then ⟨1, r.tx, r.depth, Outpoint.zero, 0⟩
  else if r.kind = 2 then ⟨2, Hash.zero, 0, r.point, 0⟩
  else if r.kind = 3 then ⟨3, Hash.zero, 0, Outpoint.zero, r.height⟩
  else ⟨r.kind, Hash.zero, 0, Outpoint.zero, 0⟩
def mayR (r : Reg) : Bool :=
  if r.kind = 1 then decide (1 ≤ r.depth) && decide (r.depth ≤ 1000)
  else if r.kind = 2 then decide (0 ≤ r.point.n) && decide (r.point.n < 100)
  else if r.kind = 3 then decide (0 ≤ r.height) && decide (r.height ≤ 1000000)
  else false
/-- What is due of a registration. -/
def dueR (L : List (List Tx)) (id : Int) (r : Reg) : Option Note :=
  if r.kind = 1 then
    match (mapsOf L).txs r.tx with
    | some x => if r.depth ≤ (L.length : Int) - (x.2 : Nat) + 1 then some ⟨id, false, 1, (x.2 : Nat), r.tx⟩ else none
    | none => none
  else if r.kind = 2 then
    if (spM (mapsOf L) r.point).2.2 then some ⟨id, false, 2, (spM (mapsOf L) r.point).2.1, (spM (mapsOf L) r.point).1⟩ else none
  else if r.kind = 3 then
    if r.height ≤ (L.length : Int) then some ⟨id, false, 3, r.height, Hash.zero⟩ else none
  else none
/-- What is told, where something changes. -/
def outR (st now : Option Note) : List Note := if st = now then [] else (st.map (fun n => { n with back := true })).toList ++ now.toList
namespace HubM
variable (M : HubM)
def due (x : NRow) : Option Note := dueR M.L x.id x.r
def regF (i : Int) : Option Reg := (M.rows.find? (fun x => x.id == i)).map (·.r)
def stF (i : Int) : Option Note := (M.rows.find? (fun x => x.id == i)).bind (·.st)
def ids : List Int := M.rows.map (·.id)
/-- What stands of one is brought up to date. -/
def one (i : Int) : HubM := { M with rows := M.rows.map fun x => if x.id = i then { x with st := M.due x } else x }
def settled : HubM := { M with rows := M.rows.map fun x => { x with st := M.due x } }
def told : List Note := M.rows.flatMap fun x => outR x.st (M.due x)
def drop (i : Int) : HubM := { M with rows := M.rows.filter (fun x => x.id != i) }
def stand : List Note := M.rows.filterMap (·.st)
def push (r : Reg) : HubM := { M with last := M.last + 1, rows := M.rows ++ [⟨M.last + 1, plainR r, none⟩] }
/-- A registration's error, number, notes, and what is there then. -/
def regE (r : Reg) : Int := if mayR r = false then 1 else if M.most ≤ (M.rows.length : Int) then 4 else 0
def regN (r : Reg) : Int := if M.regE r = 0 then M.last + 1 else 0
def regO (r : Reg) : List Note := if M.regE r = 0 then outR none (dueR M.L (M.last + 1) (plainR r)) else []
def regM (r : Reg) : HubM := if M.regE r = 0 then (M.push r).one (M.last + 1) else M
/-- What was taken in and let go, each once, in order. -/
structure Ok : Prop where
  sorted : M.ids.Pairwise (· < ·)
  low : ∀ x ∈ M.rows, 1 ≤ x.id ∧ x.id ≤ M.last
  last : 0 ≤ M.last
  mine : ∀ x ∈ M.rows, ∀ n, x.st = some n → n.id = x.id ∧ n.back = false
  may : ∀ x ∈ M.rows, mayR x.r = true ∧ i64 x.r.point.n
  good : goodL M.L
end HubM
section
variable {M : HubM}
theorem HubM.one_ids (i : Int) : (M.one i).ids = M.ids := by
  unfold HubM.one HubM.ids
  simp only [List.map_map]
  refine List.map_congr_left (fun x _ => ?_)
  simp only [Function.comp]
  split <;> rfl
theorem HubM.settled_ids : M.settled.ids = M.ids := by
  unfold HubM.settled HubM.ids
  simp only [List.map_map]
  rfl
theorem dueR_id {L : List (List Tx)} {i : Int} {r : Reg} {n : Note} (h : dueR L i r = some n) : n.id = i ∧ n.back = false := by
  unfold dueR at h
  split at h
  · split at h
    · split at h
      · cases h; exact ⟨rfl, rfl⟩
      · cases h
    · cases h
  · split at h
    · split at h
      · cases h; exact ⟨rfl, rfl⟩
      · cases h
    · split at h
      · split at h
        · cases h; exact ⟨rfl, rfl⟩
        · cases h
      · cases h
theorem find_mem {x : NRow} {i : Int} (h : M.rows.find? (fun x => x.id == i) = some x) : x ∈ M.rows ∧ x.id = i := ⟨List.mem_of_find?_eq_some h, by simpa using List.find?_some h⟩
theorem find_of (hs : M.ids.Pairwise (· < ·)) {x : NRow} (hx : x ∈ M.rows) : M.rows.find? (fun y => y.id == x.id) = some x := by
  unfold HubM.ids at hs
  revert hs hx
  induction M.rows with
  | nil => intro _ hx; cases hx
  | cons y l ih =>
    intro hs hx
    simp only [List.map_cons, List.pairwise_cons] at hs
    rcases List.mem_cons.1 hx with rfl | hx
    · simp
    · have hlt := hs.1 x.id (List.mem_map.2 ⟨x, hx, rfl⟩)
      rw [List.find?_cons_of_neg (by simp; omega)]
      exact ih hs.2 hx
theorem find_none {i : Int} (h : i ∉ M.ids) : M.rows.find? (fun y => y.id == i) = none := by
  rw [List.find?_eq_none]
  intro x hx
  simp only [beq_iff_eq]
  intro e
  exact h (List.mem_map.2 ⟨x, hx, e⟩)
theorem HubM.Ok.regF (h : M.Ok) {x : NRow} (hx : x ∈ M.rows) : M.regF x.id = some x.r := by unfold HubM.regF; rw [find_of h.sorted hx]; rfl
theorem HubM.Ok.stF (h : M.Ok) {x : NRow} (hx : x ∈ M.rows) : M.stF x.id = x.st := by unfold HubM.stF; rw [find_of h.sorted hx]; rfl
theorem regF_none {i : Int} (h : i ∉ M.ids) : M.regF i = none := by unfold HubM.regF; rw [find_none h]; rfl
theorem stF_none {i : Int} (h : i ∉ M.ids) : M.stF i = none := by unfold HubM.stF; rw [find_none h]; rfl
theorem regF_some {i : Int} : (M.regF i).isSome = true ↔ i ∈ M.ids := by
  constructor
  · intro h
    by_cases hi : i ∈ M.ids
    · exact hi
    · rw [regF_none hi] at h; cases h
  · intro h
    obtain ⟨x, hx, rfl⟩ := List.mem_map.1 h
    unfold HubM.regF
    rw [Option.isSome_map]
    rw [List.find?_isSome]
    exact ⟨x, hx, by simp⟩
/-- One row's, brought up to date. -/
theorem one_find (i j : Int) : (M.one i).rows.find? (fun y => y.id == j) = (M.rows.find? (fun y => y.id == j)).map (fun x => if x.id = i then { x with st := M.due x } else x) := by
  unfold HubM.one
  simp only
  induction M.rows with
  | nil => rfl
  | cons y l ih =>
    have e : (if y.id = i then { y with st := M.due y } else y).id = y.id := by split <;> rfl
    by_cases hy : y.id = j
    · rw [List.map_cons, List.find?_cons_of_pos (by rw [e]; simp [hy]), List.find?_cons_of_pos (by simp [hy])]; rfl
    · rw [List.map_cons, List.find?_cons_of_neg (by rw [e]; simp [hy]), List.find?_cons_of_neg (by simp [hy]), ih]
theorem one_regF (i : Int) : (M.one i).regF = M.regF := by
  funext j
  unfold HubM.regF
  rw [one_find]
  cases M.rows.find? (fun y => y.id == j) with
  | none => rfl
  | some x => simp only [Option.map_some]; split <;> rfl
theorem one_stF (h : M.Ok) {x : NRow} (hx : x ∈ M.rows) : (M.one x.id).stF = updF M.stF x.id (M.due x) := by
  funext j
  unfold updF
  by_cases hj : j = x.id
  · subst hj
    rw [if_pos rfl]
    unfold HubM.stF
    rw [one_find, find_of h.sorted hx]
    simp
  · rw [if_neg hj]
    unfold HubM.stF
    rw [one_find]
    cases hf : M.rows.find? (fun y => y.id == j) with
    | none => rfl
    | some y =>
      have := (find_mem hf).2
      simp only [Option.map_some, Option.bind_some]
      rw [if_neg (by omega)]
theorem one_len (i : Int) : (M.one i).rows.length = M.rows.length := by simp [HubM.one]
theorem one_L (i : Int) : (M.one i).L = M.L := rfl
theorem HubM.Ok.one (h : M.Ok) (i : Int) : (M.one i).Ok := by
  refine ⟨by rw [HubM.one_ids]; exact h.sorted, ?_, h.last, ?_, ?_, h.good⟩
  · intro x hx
    obtain ⟨y, hy, rfl⟩ := List.mem_map.1 hx
    have := h.low y hy
    split <;> exact this
  · intro x hx n hn
    obtain ⟨y, hy, rfl⟩ := List.mem_map.1 hx
    split at hn
    · rename_i e; rw [if_pos e]; exact dueR_id hn
    · rename_i e; rw [if_neg e]; exact h.mine y hy n hn
  · intro x hx
    obtain ⟨y, hy, rfl⟩ := List.mem_map.1 hx
    have := h.may y hy
    split <;> exact this
/-- All brought up to date, one after the other, is as all at once. -/
theorem one_of_mem {x : NRow} {i : Int} (hx : x ∈ (M.one i).rows) : ∃ y ∈ M.rows, x.id = y.id ∧ x.r = y.r ∧ x.st = if y.id = i then M.due y else y.st := by
  obtain ⟨y, hy, rfl⟩ := List.mem_map.1 hx
  refine ⟨y, hy, ?_⟩
  split <;> exact ⟨rfl, rfl, rfl⟩
def HubM.upto (M : HubM) (k : Nat) : HubM := { M with rows := (M.rows.take k).map (fun x => { x with st := M.due x }) ++ M.rows.drop k }
theorem upto_zero : M.upto 0 = M := by unfold HubM.upto; simp
theorem upto_all : M.upto M.rows.length = M.settled := by unfold HubM.upto HubM.settled; simp
theorem upto_len (k : Nat) : (M.upto k).rows.length = M.rows.length := by unfold HubM.upto; simp; omega
theorem upto_ids (k : Nat) : (M.upto k).ids = M.ids := by
  unfold HubM.upto HubM.ids
  simp only [List.map_append, List.map_map]
  have : ((fun x : NRow => x.id) ∘ fun x => { x with st := M.due x }) = fun x : NRow => x.id := rfl
  rw [this, ← List.map_append, List.take_append_drop]
theorem upto_get {k : Nat} (h : k < M.rows.length) : (M.upto k).rows[k]'(by rw [upto_len]; exact h) = M.rows[k] := by
  refine Option.some.inj ?_
  rw [← List.getElem?_eq_getElem]
  show ((M.rows.take k).map (fun x => { x with st := M.due x }) ++ M.rows.drop k)[k]? = _
  rw [List.getElem?_append_right (by simp; omega)]
  simp only [List.length_map, List.length_take, List.getElem?_drop]
  rw [show k + (k - min k M.rows.length) = k by omega, List.getElem?_eq_getElem h]
theorem upto_succ (hs : M.ids.Pairwise (· < ·)) {k : Nat} (h : k < M.rows.length) : (M.upto k).one M.rows[k].id = M.upto (k + 1) := by
  have hne : ∀ (a b : Nat) (ha : a < M.rows.length) (hb : b < M.rows.length), a ≠ b → M.rows[a].id ≠ M.rows[b].id := by
    intro a b ha hb hab
    have hl : ∀ (a b : Nat) (ha : a < M.rows.length) (hb : b < M.rows.length), a < b → M.rows[a].id < M.rows[b].id := by
      intro a b ha hb hab
      have := List.pairwise_iff_getElem.1 hs a b (by simpa [HubM.ids] using ha) (by simpa [HubM.ids] using hb) hab
      simpa [HubM.ids] using this
    rcases Nat.lt_or_gt_of_ne hab with h1 | h1
    · have := hl a b ha hb h1; omega
    · have := hl b a hb ha h1; omega
  have e : ((M.upto k).one M.rows[k].id).rows = (M.upto (k + 1)).rows := by
    refine List.ext_getElem? (fun j => ?_)
    by_cases hj : j < M.rows.length
    case neg => rw [List.getElem?_eq_none (by rw [one_len, upto_len]; omega), List.getElem?_eq_none (by rw [upto_len]; omega)]
    have hu : ∀ m, (M.upto m).rows[j]? = some (if j < m then { M.rows[j] with st := M.due M.rows[j] } else M.rows[j]) := by
      intro m
      show ((M.rows.take m).map (fun x => { x with st := M.due x }) ++ M.rows.drop m)[j]? = _
      by_cases hjm : j < m
      · rw [if_pos hjm, List.getElem?_append_left (by simp; omega)]
        simp [hjm, hj]
      · rw [if_neg hjm, List.getElem?_append_right (by simp; omega)]
        simp only [List.length_map, List.length_take, List.getElem?_drop]
        rw [show m + (j - min m M.rows.length) = j by omega, List.getElem?_eq_getElem hj]
    rw [hu (k + 1)]
    show ((M.upto k).rows.map (fun x => if x.id = M.rows[k].id then { x with st := (M.upto k).due x } else x))[j]? = _
    rw [List.getElem?_map, hu k, Option.map_some]
    refine congrArg some ?_
    by_cases hjk : j = k
    · subst hjk
      rw [if_neg (show ¬ j < j by omega), if_pos (show j < j + 1 by omega), if_pos rfl]
      rfl
    · have hd := hne j k hj h hjk
      by_cases hlt : j < k
      · rw [if_pos hlt, if_pos (show j < k + 1 by omega)]
        exact if_neg hd
      · rw [if_neg hlt, if_neg (show ¬ j < k + 1 by omega)]
        exact if_neg hd
  have : (M.upto k).one M.rows[k].id = { M with rows := ((M.upto k).one M.rows[k].id).rows } := rfl
  rw [this, e]
  rfl
theorem HubM.Ok.upto (h : M.Ok) (k : Nat) : (M.upto k).Ok := by
  refine ⟨by rw [upto_ids]; exact h.sorted, ?_, h.last, ?_, ?_, h.good⟩
  · intro x hx
    rcases List.mem_append.1 hx with hx | hx
    · obtain ⟨y, hy, rfl⟩ := List.mem_map.1 hx
      exact h.low y (List.mem_of_mem_take hy)
    · exact h.low x (List.mem_of_mem_drop hx)
  · intro x hx n hn
    rcases List.mem_append.1 hx with hx | hx
    · obtain ⟨y, hy, rfl⟩ := List.mem_map.1 hx
      exact dueR_id hn
    · exact h.mine x (List.mem_of_mem_drop hx) n hn
  · intro x hx
    rcases List.mem_append.1 hx with hx | hx
    · obtain ⟨y, hy, rfl⟩ := List.mem_map.1 hx
      exact h.may y (List.mem_of_mem_take hy)
    · exact h.may x (List.mem_of_mem_drop hx)
def HubM.toldUpto (M : HubM) (k : Nat) : List Note := (M.rows.take k).flatMap fun x => outR x.st (M.due x)
theorem toldUpto_succ {k : Nat} (h : k < M.rows.length) : M.toldUpto (k + 1) = M.toldUpto k ++ outR M.rows[k].st (M.due M.rows[k]) := by
  unfold HubM.toldUpto
  rw [List.take_succ_eq_append_getElem h, List.flatMap_append]
  simp
theorem toldUpto_all : M.toldUpto M.rows.length = M.told := by unfold HubM.toldUpto HubM.told; simp
theorem may_plain {r : Reg} (h : mayR r = true) : mayR (plainR r) = true := by
  unfold plainR
  split
  · rename_i hk; unfold mayR at h ⊢; rw [if_pos hk] at h; simpa using h
  · split
    · rename_i h1 hk; unfold mayR at h ⊢; rw [if_neg h1, if_pos hk] at h; simpa using h
    · split
      · rename_i h1 h2 hk; unfold mayR at h ⊢; rw [if_neg h1, if_neg h2, if_pos hk] at h; simpa using h
      · rename_i h1 h2 h3; unfold mayR at h; rw [if_neg h1, if_neg h2, if_neg h3] at h; cases h
theorem point_plain {r : Reg} (h : mayR r = true) : i64 (plainR r).point.n := by
  unfold plainR
  split
  · show i64 0; unfold i64; omega
  · split
    · rename_i h1 hk
      unfold mayR at h
      rw [if_neg h1, if_pos hk] at h
      simp only [Bool.and_eq_true, decide_eq_true_eq] at h
      show i64 r.point.n
      unfold i64; omega
    · split <;> (show i64 0; unfold i64; omega)
theorem HubM.Ok.push (h : M.Ok) {r : Reg} (hr : mayR r = true) : (M.push r).Ok := by
  refine ⟨?_, ?_, by show 0 ≤ M.last + 1; have := h.last; omega, ?_, ?_, h.good⟩
  · unfold HubM.ids HubM.push
    simp only [List.map_append, List.map_cons, List.map_nil]
    rw [List.pairwise_append]
    refine ⟨h.sorted, by simp, ?_⟩
    intro a ha b hb
    obtain ⟨x, hx, rfl⟩ := List.mem_map.1 ha
    have := (h.low x hx).2
    rw [List.mem_singleton.1 hb]
    omega
  · intro x hx
    have hl := h.last
    rcases List.mem_append.1 hx with hx | hx
    · have := h.low x hx
      show 1 ≤ x.id ∧ x.id ≤ M.last + 1
      omega
    · rw [List.mem_singleton.1 hx]
      show 1 ≤ M.last + 1 ∧ M.last + 1 ≤ M.last + 1
      omega
  · intro x hx n hn
    rcases List.mem_append.1 hx with hx | hx
    · exact h.mine x hx n hn
    · rw [List.mem_singleton.1 hx] at hn; cases hn
  · intro x hx
    rcases List.mem_append.1 hx with hx | hx
    · exact h.may x hx
    · rw [List.mem_singleton.1 hx]; exact ⟨may_plain hr, point_plain hr⟩
theorem regE_zero {r : Reg} : M.regE r = 0 ↔ mayR r = true ∧ (M.rows.length : Int) < M.most := by
  unfold HubM.regE
  cases mayR r
  · simp
  · simp
theorem HubM.Ok.regM (h : M.Ok) (r : Reg) : (M.regM r).Ok := by
  unfold HubM.regM
  split
  · rename_i he; exact (h.push (regE_zero.1 he).1).one _
  · exact h
theorem HubM.Ok.fresh (h : M.Ok) : M.last + 1 ∉ M.ids := by
  intro hm
  obtain ⟨x, hx, e⟩ := List.mem_map.1 hm
  have := (h.low x hx).2
  omega
theorem push_regF (h : M.Ok) (r : Reg) : (M.push r).regF = updF M.regF (M.last + 1) (some (plainR r)) := by
  funext j
  unfold updF HubM.regF HubM.push
  simp only
  rw [List.find?_append]
  by_cases hj : j = M.last + 1
  · subst hj
    rw [find_none h.fresh, if_pos rfl]
    simp
  · rw [if_neg hj]
    cases M.rows.find? (fun y => y.id == j) with
    | none => simp; omega
    | some x => simp
theorem push_stF (h : M.Ok) (r : Reg) : (M.push r).stF = M.stF := by
  funext j
  unfold HubM.stF HubM.push
  simp only
  rw [List.find?_append]
  cases M.rows.find? (fun y => y.id == j) with
  | none =>
    by_cases hj : j = M.last + 1
    · simp [List.find?_cons, hj]
    · have : (M.last + 1 == j) = false := by simp; omega
      simp [List.find?_cons, this]
  | some x => simp
theorem HubM.Ok.settled (h : M.Ok) : M.settled.Ok := by rw [← upto_all]; exact h.upto _
theorem HubM.Ok.drop (h : M.Ok) (i : Int) : (M.drop i).Ok := by
  have hsub : (M.drop i).rows.Sublist M.rows := List.filter_sublist
  refine ⟨?_, fun x hx => h.low x (hsub.subset hx), h.last, fun x hx => h.mine x (hsub.subset hx), fun x hx => h.may x (hsub.subset hx), h.good⟩
  exact List.Pairwise.sublist (show (M.drop i).ids.Sublist M.ids from hsub.map (fun x : NRow => x.id)) h.sorted
theorem drop_find (i j : Int) : (M.drop i).rows.find? (fun y => y.id == j) = if j = i then none else M.rows.find? (fun y => y.id == j) := by
  unfold HubM.drop
  simp only
  induction M.rows with
  | nil => simp
  | cons y l ih =>
    rw [List.filter_cons]
    by_cases hy : y.id = i
    · rw [if_neg (by simp [hy]), ih]
      by_cases hj : j = i
      · rw [if_pos hj, if_pos hj]
      · rw [if_neg hj, if_neg hj, List.find?_cons_of_neg (by simp; omega)]
    · rw [if_pos (by simp [hy])]
      by_cases hyj : y.id = j
      · rw [List.find?_cons_of_pos (by simp [hyj]), if_neg (by omega), List.find?_cons_of_pos (by simp [hyj])]
      · rw [List.find?_cons_of_neg (by simp [hyj]), ih, List.find?_cons_of_neg (by simp [hyj])]
theorem drop_regF (i : Int) : (M.drop i).regF = updF M.regF i none := by
  funext j
  unfold updF HubM.regF
  rw [drop_find]
  split <;> rfl
theorem drop_stF (i : Int) : (M.drop i).stF = updF M.stF i none := by
  funext j
  unfold updF HubM.stF
  rw [drop_find]
  split <;> rfl
theorem drop_len (h : M.Ok) {i : Int} (hi : i ∈ M.ids) : (M.drop i).rows.length + 1 = M.rows.length := by
  obtain ⟨x, hx, hxi⟩ := List.mem_map.1 hi
  have key : ∀ l : List NRow, x ∈ l → (l.map (·.id)).Pairwise (· < ·) → (l.filter (fun z => z.id != x.id)).length + 1 = l.length := by
    intro l
    induction l with
    | nil => intro hx; cases hx
    | cons y l ih =>
      intro hx hs
      simp only [List.map_cons, List.pairwise_cons] at hs
      rw [List.filter_cons]
      rcases List.mem_cons.1 hx with rfl | hx
      · rw [if_neg (by simp)]
        rw [List.filter_eq_self.2]
        · simp
        · intro z hz
          have := hs.1 z.id (List.mem_map.2 ⟨z, hz, rfl⟩)
          simp; omega
      · have := hs.1 x.id (List.mem_map.2 ⟨x, hx, rfl⟩)
        rw [if_pos (by simp; omega)]
        simp only [List.length_cons]
        have := ih hx hs.2
        omega
  have := key M.rows hx h.sorted
  rw [hxi] at this
  exact this
end
end Go.Proofs.YtlkojkjeklblkaaGreat
