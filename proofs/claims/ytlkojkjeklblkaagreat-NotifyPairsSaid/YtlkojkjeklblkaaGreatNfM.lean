/- Package notify's laws, in plain words: blocks of nothing, and one of one transaction. Package coraclelaw12: what the document fixes. -/
import Derived.Test.YtlkojkjeklblkaaGreatNfK
import Derived.Test.YtlkojkjeklblkaaGreatIdxM
set_option linter.unusedSimpArgs false
set_option linter.unusedVariables false
namespace Go.Proofs.YtlkojkjeklblkaaGreat
theorem nil_con (L : List (List Tx)) : conE L [] = 0 ∧ conL L [] = L ++ [[]] := by
  have h : conE L [] = 0 := conE_zero.2 ⟨by decide, rfl⟩
  exact ⟨h, by unfold conL; rw [if_pos h]⟩
theorem maps_nil (L : List (List Tx)) : mapsOf (L ++ [[]]) = mapsOf L := by rw [mapsOf_snoc]; rfl
/-- So many blocks of nothing. -/
def nils (a : Nat) : List (List Tx) := List.replicate a []
theorem nils_succ (a : Nat) : nils (a + 1) = nils a ++ [[]] := by unfold nils; exact List.replicate_succ'
theorem nils_len (a : Nat) : (nils a).length = a := by simp [nils]
theorem maps_nils (L : List (List Tx)) : ∀ a, mapsOf (L ++ nils a) = mapsOf L
  | 0 => by simp [nils]
  | a + 1 => by rw [nils_succ, ← List.append_assoc, maps_nil, maps_nils L a]
theorem maps_nils0 (a : Nat) : mapsOf (nils a) = Maps.zero := by have := maps_nils [] a; simpa [mapsOf_nil] using this
/-- One transaction with so many blocks below it, and above it. -/
def LT (a b : Nat) (t : Tx) : List (List Tx) := nils a ++ [[t]] ++ nils b
theorem LT_len (a b : Nat) (t : Tx) : (LT a b t).length = a + 1 + b := by simp [LT, nils]; omega
theorem LT_maps (a b : Nat) (t : Tx) : mapsOf (LT a b t) = addTx (a + 1) Maps.zero t := by
  unfold LT
  rw [maps_nils, mapsOf_snoc, maps_nils0, nils_len]
  rfl
theorem LT_zero (a : Nat) (t : Tx) : LT a 0 t = nils a ++ [[t]] := by simp [LT, nils]
theorem LT_succ (a b : Nat) (t : Tx) : LT a (b + 1) t = LT a b t ++ [[]] := by unfold LT; rw [nils_succ]; simp
theorem LT_pop (a b : Nat) (t : Tx) : (LT a (b + 1) t).dropLast = LT a b t := by rw [LT_succ, List.dropLast_concat]
theorem LT_pop0 (a : Nat) (t : Tx) : (LT a 0 t).dropLast = nils a := by rw [LT_zero, List.dropLast_concat]
theorem nils_pop (a : Nat) : (nils (a + 1)).dropLast = nils a := by rw [nils_succ, List.dropLast_concat]
theorem con_LT (a : Nat) {t : Tx} (ht : txsS [t] = 0) : conE (nils a) [t] = 0 ∧ conL (nils a) [t] = LT a 0 t := by
  have h : conE (nils a) [t] = 0 := conE_zero.2 ⟨ht, by rw [may_one, maps_nils0]; simp [mayS, mayIn, Maps.zero]⟩
  exact ⟨h, by unfold conL; rw [if_pos h, LT_zero]⟩
theorem due_nils (a : Nat) (i : Int) {r : Reg} (h : r.kind ≠ 3) : dueR (nils a) i r = none := by
  unfold dueR
  rw [maps_nils0, if_neg h]
  split
  · rfl
  · split <;> rfl
theorem due_high (L : List (List Tx)) (i : Int) (n : Int) : dueR L i ⟨3, Hash.zero, 0, Outpoint.zero, n⟩ = if n ≤ (L.length : Int) then some ⟨i, false, 3, n, Hash.zero⟩ else none := by
  unfold dueR
  rw [if_neg (by show ¬ (3 : Int) = 1; decide), if_neg (by show ¬ (3 : Int) = 2; decide), if_pos rfl]
theorem due_tx (a b : Nat) (t : Tx) (i d : Int) : dueR (LT a b t) i ⟨1, idS t, d, Outpoint.zero, 0⟩ = if d ≤ (b : Int) + 1 then some ⟨i, false, 1, ((a + 1 : Nat) : Int), idS t⟩ else none := by
  unfold dueR
  rw [if_pos rfl, LT_maps, LT_len]
  simp only [addTx, updF_same]
  have e : (((a + 1 + b : Nat) : Int) - ((a + 1 : Nat) : Int) + 1) = (b : Int) + 1 := by omega
  rw [e]
theorem due_spent (a b : Nat) (t : Tx) (i : Int) {p : Outpoint} (hp : p ∈ t.ins.map (·.prev)) : dueR (LT a b t) i ⟨2, Hash.zero, 0, p, 0⟩ = some ⟨i, false, 2, ((a + 1 : Nat) : Int), idS t⟩ := by
  unfold dueR
  rw [if_neg (by show ¬ (2 : Int) = 1; decide), if_pos rfl, LT_maps]
  have hs : (addTx (a + 1) Maps.zero t).sp p = some (idS t) := by simp only [addTx, putIns_eq]; rw [if_pos hp]
  unfold spM
  simp only [hs]
  simp only [addTx, updF_same]
  rfl
end Go.Proofs.YtlkojkjeklblkaaGreat
namespace Go.Proofs.YtlkojkjeklblkaaGreat
open Go.RowKit Go.MapKept
def t12 : Tx := { ins := [⟨⟨Hash.zero, 0⟩, 0, ⟨1, 0, ByteArray.empty⟩⟩], outs := [], lock := 0 }
theorem c_t12 : checkS t12 = 0 := by decide +kernel
theorem id_t12 : idS t12 ≠ Hash.zero := by decide +kernel
theorem txs_t12 : txsS [t12] = 0 := txs_one c_t12 (by simp [t12]) (fun i hi => by
  have e : i = ⟨⟨Hash.zero, 0⟩, 0, ⟨1, 0, ByteArray.empty⟩⟩ := by simpa [t12] using hi
  subst e
  exact fun h => id_t12 h.symm)
def x12 : Reg := ⟨1, idS t12, 1, Outpoint.zero, 0⟩
def y12 : Reg := ⟨3, Hash.zero, 0, Outpoint.zero, 0⟩
def n12 : Note := ⟨1, false, 1, 1, idS t12⟩
def A12 : HubM := ⟨1, 1, [⟨1, x12, none⟩], []⟩
def B12 : HubM := ⟨1, 1, [⟨1, x12, some n12⟩], [[t12]]⟩
theorem due_a : dueR [] 1 x12 = none := due_nils 0 1 (by decide)
theorem due_b : dueR [[t12]] 1 x12 = some n12 := by
  have := due_tx 0 0 t12 1 1
  rw [show LT 0 0 t12 = [[t12]] by rfl] at this
  exact this
theorem reg_a : (HubM.new 1).regE x12 = 0 ∧ (HubM.new 1).regN x12 = 1 ∧ (HubM.new 1).regO x12 = [] ∧ (HubM.new 1).regM x12 = A12 := by
  have he : (HubM.new 1).regE x12 = 0 := regE_zero.2 ⟨by decide, by decide⟩
  refine ⟨he, ?_, ?_, ?_⟩
  · unfold HubM.regN; rw [if_pos he]; rfl
  · unfold HubM.regO; rw [if_pos he]; show outR none (dueR [] 1 x12) = []; rw [due_a]; rfl
  · unfold HubM.regM; rw [if_pos he]
    show ({ most := 1, last := 1, rows := [if (1 : Int) = 1 then { id := 1, r := x12, st := dueR [] 1 x12 } else _], L := [] } : HubM) = _
    rw [if_pos rfl, due_a]; rfl
theorem reg_b : A12.regE y12 = 4 ∧ A12.regM y12 = A12 := by
  have he : A12.regE y12 = 4 := by decide
  exact ⟨he, by unfold HubM.regM; rw [he]; rfl⟩
theorem con_a : conE A12.L [t12] = 0 ∧ A12.conM [t12] = B12 ∧ A12.conO [t12] = [n12] := by
  have hc := con_LT 0 txs_t12
  have h0 : conE A12.L [t12] = 0 := hc.1
  have hl : conL A12.L [t12] = [[t12]] := hc.2
  refine ⟨h0, ?_, ?_⟩
  · unfold HubM.conM; rw [if_pos h0, hl]
    show ({ most := 1, last := 1, rows := [{ id := 1, r := x12, st := dueR [[t12]] 1 x12 }], L := [[t12]] } : HubM) = _
    rw [due_b]; rfl
  · unfold HubM.conO; rw [if_pos h0, hl]
    show outR none (dueR [[t12]] 1 x12) ++ [] = _
    rw [due_b]; rfl
theorem dis_b : ¬ B12.L = [] ∧ B12.disM = A12 ∧ B12.disO = [{ n12 with back := true }] := by
  have h0 : ¬ B12.L = [] := by simp [B12]
  refine ⟨h0, ?_, ?_⟩
  · unfold HubM.disM; rw [if_neg h0]
    show ({ most := 1, last := 1, rows := [{ id := 1, r := x12, st := dueR [] 1 x12 }], L := [] } : HubM) = _
    rw [due_a]; rfl
  · unfold HubM.disO; rw [if_neg h0]
    show outR (some n12) (dueR [] 1 x12) ++ [] = _
    rw [due_a]; rfl
theorem Keep0.tx {own own' : Nat → Nat} {w w' : World} {v : TxV} {t : Tx} (k : Keep0 own own' w w') (h : txIn w (fun k => own k = 0) v t) : txIn w' (fun k => own' k = 0) v t :=
  ((h.zone (Y := fun g => own g = 0 ∧ g < w.heap.size) (fun g hg hz => ⟨hz, hg⟩)).upd k.upd (fun g hz _ hn => hn hz.1)).zone (fun g _ hz => (k.same g hz.2).trans hz.1)
theorem Keep0.block {own own' : Nat → Nat} {w w' : World} {b : Nat} {o : Obj} (k : Keep0 own own' w w') (h0 : own b = 0) (h : w.heap[b]? = some o) : w'.heap[b]? = some o ∧ own' b = 0 :=
  ⟨(k.upd.block b (Array.getElem?_eq_some_iff.1 h).1 (fun e => e h0)).trans h, (k.same b (Array.getElem?_eq_some_iff.1 h).1).trans h0⟩
theorem reg_b2 : A12.regN y12 = 0 := by unfold HubM.regN; rw [reg_b.1]; rfl
set_option maxRecDepth 100000 in
set_option maxHeartbeats 4000000 in
theorem awake12 (w : World) : Calls Tryz.prog 14 #[] w fun e w' => e = .returned (.bool true) ∧ Below w.heap.size w w' := by
  have hnew := Nub.new 1 (by decide) w
  go_enter Tryz.func14, Tryz.ntmps14
  go_wp2_with fail
  refine hnew.mono ?_
  rintro e w1 ⟨q, own, rfl, hN⟩
  have hbad := new_bad 0 (by decide) w1
  clear hnew
  go_wp2_with fail
  refine hbad.mono ?_
  rintro e w1 ⟨rfl, rfl⟩
  clear hbad
  go_upto_region 6 with fail
  obtain ⟨v, hv⟩ : ∃ v : TxV, v = ⟨⟨some ⟨w1.heap.size, 0, none⟩, 1, 1⟩, TxV.zero.outs, TxV.zero.lock⟩ := ⟨_, rfl⟩
  obtain ⟨W, hW⟩ : ∃ W, W = (w1.alloc (.cells (In.mk In.zero.prev In.zero.seq ⟨1, Witness.zero.key, Witness.zero.pre⟩).arr 68)).alloc (.cells v.arr 72) := ⟨_, rfl⟩
  rw [← hv, ← hW]
  have hbW : Below w1.heap.size w1 W := hW ▸ ((Below.refl w1.heap.size w1).alloc (Nat.le_refl _) _).alloc (by simp) _
  have hz : W.heap.size = w1.heap.size + 2 := by rw [hW]; simp
  have k0 : W.heap[w1.heap.size]? = some (.cells (In.mk In.zero.prev In.zero.seq ⟨1, Witness.zero.key, Witness.zero.pre⟩).arr 68 (0, 0)) := by
    rw [hW]; exact (heap_alloc_old _ _ (by simp)).trans (heap_alloc_new w1 _)
  have k1 : W.heap[w1.heap.size + 1]? = some (.cells v.arr 72 (0, 0)) := by rw [hW]; exact heap_second _ _ _ _
  have htW : txIn W (fun k => w1.heap.size ≤ k) v t12 := by
    rw [hv]; exact ⟨slIn_one k0 (by simp) (Nat.le_refl _), slIn_nil _ _ _ _, rfl⟩
  have r1 : row? W ⟨w1.heap.size + 1, 0, none⟩ 3 = some v.arr := row_of_block k1 (by simp)
  have hid := id_ref v t12 W htW.isTx
  have hN1 := hN.retag.keep hbW
  have HN1 := Lib.hid hN1
  have HT := Lib.hid (htW.zone (Y := fun k => setO own w1.heap.size 0 k = 0) (fun k _ hk => setO_new hk))
  have K1 := Lib.hid k1
  have HID := Lib.hid hid
  have h1l : w1.heap.size + 1 < W.heap.size := by omega
  have Z1 : setO own w1.heap.size 0 (w1.heap.size + 1) = 0 := setO_new (by omega)
  have HZ1 := Lib.hid Z1
  clear hv hW hbW hz k0 k1 htW hid hN1 hN Z1
  go_wp2_with fail
  refine HID.out.mono ?_
  rintro e W2 ⟨rfl, hb2⟩
  have hreg := (HN1.out.keep hb2).register (by decide) x12
  rw [reg_a.1, reg_a.2.1, reg_a.2.2.1, reg_a.2.2.2] at hreg
  have HREG := Lib.hid hreg
  have HT2 := Lib.hid (HT.out.upd (Upd.of_below hb2 (fun _ => False)) (fun _ _ _ h => h))
  have K2 := Lib.hid ((hb2.block _ h1l).trans K1.out)
  clear hreg hb2
  go_wp2_with fail
  refine HREG.out.mono ?_
  rintro e W3 ⟨⟨sa, sn, sc⟩, own3, rfl, hnt, hN3, hK3⟩
  have hsn : sn = 0 := hnt.1
  subst hsn
  obtain ⟨k3, z3⟩ := hK3.block HZ1.out K2.out
  have HT3 := Lib.hid (hK3.tx HT2.out)
  have hreg2 := hN3.register (by decide) y12
  rw [reg_b.1, reg_b2, reg_b.2] at hreg2
  have HREG2 := Lib.hid hreg2
  have K3 := Lib.hid (And.intro k3 z3)
  clear hnt hN3 hK3 k3 z3 hreg2
  go_wp2_with fail
  refine HREG2.out.mono ?_
  rintro e W4 ⟨⟨ta, tn, tc⟩, own4, rfl, hnt, hN4, hK4⟩
  obtain ⟨k4, z4⟩ := hK4.block K3.out.2 K3.out.1
  have HT4 := Lib.hid (hK4.tx HT3.out)
  have r4 : row? W4 ⟨w1.heap.size + 1, 0, none⟩ 3 = some v.arr := row_of_block k4 (by simp)
  obtain ⟨W5, hW5⟩ : ∃ W5, W5 = W4.alloc (.cells v.arr 72) := ⟨_, rfl⟩
  have hb5 : Below W4.heap.size W4 W5 := hW5 ▸ (Below.refl _ _).alloc (Nat.le_refl _) _
  have g5 : W5.heap[W4.heap.size]? = some (.cells v.arr 72 (0, 0)) := hW5 ▸ heap_alloc_new W4 _
  have ht5 : txIn W5 (fun k => setO own4 W4.heap.size 0 k = 0) v t12 := (Keep0.below (own := own4) hb5).tx HT4.out
  have hN5 := hN4.retag.keep hb5
  have hcon := hN5.connect (by decide) ⟨some ⟨W4.heap.size, 0, none⟩, 1, 1⟩ [v] [t12] ⟨slIn_one g5 (by simp) (setO_new (Nat.le_refl _)), rfl, fun k h1 h2 => by
    have : k = 0 := by simpa using h1
    subst this
    exact ht5⟩ (by decide)
  rw [con_a.1, con_a.2.1, con_a.2.2] at hcon
  have HCON := Lib.hid hcon
  have HW5 := Lib.hid hW5
  clear hnt hN4 hK4 k4 z4 hb5 g5 ht5 hN5 hcon hW5
  go_wp2_with (rw [← HW5.out]; go_at_call 24; refine HCON.out.mono ?_; rintro e W6 ⟨⟨ua, un, uc⟩, own6, rfl, hnu, hN6, hK6⟩)
  have hdis := hN6.disconnect (by decide)
  rw [if_neg dis_b.1, dis_b.2.1, dis_b.2.2] at hdis
  have HDIS := Lib.hid hdis
  have HU := Lib.hid hnu
  clear hdis hN6 hnu
  go_wp2_with fail
  refine HDIS.out.mono ?_
  rintro e W7 ⟨⟨va, vn, vc⟩, own7, rfl, hnv, hN7, hK7⟩
  have hnu7 := hK7.notes HU.out
  have hun : un = 1 := HU.out.1
  have hvn : vn = 1 := hnv.1
  subst hun hvn
  have hst := hN7.standing (by decide)
  obtain ⟨ub, uo, hua, _, _, hur⟩ := hnu7.2.2.2 (by simp)
  obtain ⟨vb, vo, hva, _, _, hvr⟩ := hnv.2.2.2 (by simp)
  simp only at hua hva
  subst hua hva
  have ru := hur 0 (by simp)
  have rv := hvr 0 (by simp)
  simp only [Nat.zero_mul, Nat.add_zero, List.getElem_cons_zero] at ru rv
  have cu1 : W7.cell? ⟨ub, uo + 1, none⟩ = some (.bool false) := row?_cellAt ru 1 (by decide)
  have cu3 : W7.cell? ⟨ub, uo + 3, none⟩ = some (.int .i64 1) := row?_cellAt ru 3 (by decide)
  have cv1 : W7.cell? ⟨vb, vo + 1, none⟩ = some (.bool true) := row?_cellAt rv 1 (by decide)
  have HST := Lib.hid hst
  have HBW := Lib.hid hN7.below
  clear ru rv hur hvr hnv hnu7 hst hN7
  go_wp2_with fail
  refine HST.out.mono ?_
  rintro e W8 ⟨⟨xa, xn, xc⟩, rfl, hnx, hb8⟩
  have hxn : xn = 0 := hnx.1
  subst hxn
  have hin := index_none W8
  have HB8 := Lib.hid hb8
  clear hnx hb8
  go_wp2_with fail
  refine hin.mono ?_
  rintro e W9 ⟨rfl, rfl⟩
  have hdr := drop_none 1 W8
  clear hin
  go_wp2_with fail
  refine hdr.mono ?_
  rintro e W9 ⟨rfl, rfl⟩
  clear hdr
  go_wp2_with fail
  go_ret
  refine ⟨rfl, HBW.out.trans (HB8.out.mono HBW.out.size)⟩
end Go.Proofs.YtlkojkjeklblkaaGreat
