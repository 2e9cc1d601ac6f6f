/- Package block: may transactions stand in one block? Package block: errors of a block's transactions. Package index: what lies in memory; no index, its height; may a transaction come? Package index: may a transaction come? -/
import Derived.Test.YtlkojkjeklblkaaGreatIdxB
import Derived.Test.YtlkojkjeklblkaaGreatConv
import Derived.Test.YtlkojkjeklblkaaGreatTxC
set_option linter.unusedSimpArgs false
set_option linter.unusedVariables false
namespace Go.Proofs.YtlkojkjeklblkaaGreat
open Go.RowKit
theorem Hash.ext_whole (x : Hash) : x.arr.extract 0 32 = x.arr := by rw [show 32 = x.arr.size by simp]; exact Array.extract_size
theorem In.ext_tx (x : In) : x.arr.extract 0 32 = x.prev.tx.arr := by
  have : x.arr.extract 0 32 = (x.arr.extract 0 33).extract 0 32 := by rw [Array.extract_extract]; simp
  rw [this, In.ext_0, Outpoint.ext_0]
attribute [local go_sem] Hash.ext_whole In.ext_tx
/-- A slice's value that reads as transactions. -/
def txsAt (w : World) (s : Sl) (vs : List TxV) (l : List Tx) : Prop :=
  isSl w s 3 TxV.arr vs w.heap.size ∧ vs.length = l.length ∧ ∀ k (h : k < vs.length) (h2 : k < l.length), isTx w vs[k] l[k] w.heap.size
theorem txsAt.below {w w' : World} {s : Sl} {vs : List TxV} {l : List Tx} (h : txsAt w s vs l) (hb : Below w.heap.size w w') : txsAt w' s vs l :=
  ⟨(h.1.below hb).mono hb.size, h.2.1, fun k h1 h2 => ((h.2.2 k h1 h2).below hb).mono hb.size⟩
theorem row_part {w : World} {b : Nat} {cs : Array Value} {t : TypeId} {fr : Nat × Nat} (h : w.heap[b]? = some (.cells cs t fr)) (o m : Nat) (hm : o + m ≤ cs.size) : row? w ⟨b, o, none⟩ m = some (cs.extract o (o + m)) := by
  unfold row?
  simp only [h]
  rw [if_pos ⟨trivial, hm⟩]
theorem zero_intT : (Tryz.prog.info? 3).map (·.zero) = some (some (.int .i64 0)) := by kernel_rfl
theorem zero_bool : (Tryz.prog.info? 4).map (·.zero) = some (some (.bool false)) := by kernel_rfl
/-- Places, each counted once. -/
def onceV (pts : List Outpoint) (q : Pt) : Option Value := if q.1 ∈ pts then some (.int .i64 1) else none
theorem onceV_put {pts : List Outpoint} (q : Pt) : upd (onceV pts) q (some (.int .i64 1)) = onceV (pts ++ [q.1]) := by
  funext y
  unfold upd onceV
  by_cases h : y = q
  · subst h; simp
  · have h2 : y.1 ≠ q.1 := fun e => h (Subtype.ext e)
    simp [h, h2]
def posV (ids : List Hash) (z : Hash) : Option Value := (posS ids z).map fun k => .int .i64 (k : Nat)
theorem posV_put {ids : List Hash} {z : Hash} (h : z ∉ ids) : upd (posV ids) z (some (.int .i64 (ids.length : Nat))) = posV (ids ++ [z]) := by
  funext y
  unfold upd posV
  rw [posS_snoc h]
  unfold updF
  by_cases e : y = z <;> simp [e]
theorem prev_i64 {t : Tx} (h : checkS t = 0) {j : Nat} (hj : j < t.ins.length) : i64 t.ins[j].prev.n := by
  have := (checkS_ok h).2.2.2.1 _ (List.getElem_mem hj)
  obtain ⟨⟨h1, h2⟩, _⟩ := this
  unfold i64
  omega
theorem look_pos {w : World} {b n : Nat} {ids : List Hash} (h : mapAt w hashV b n (posV ids)) (z : Hash) :
    (Instr.lookup 284 (.map (some b)) (.agg z.arr) true).run Tryz.prog w = .ok (.tuple #[.int .i64 (((posS ids z).getD 0 : Nat) : Int), .bool (posS ids z).isSome]) w := by
  have := run_lookup hash_enc Tryz.underlying284 (zeroValue_run zero_intT w) h z true
  rw [show hashV z = .agg z.arr from rfl] at this
  rw [this]
  unfold look posV
  cases posS ids z <;> rfl
theorem look_once {w : World} {b n : Nat} {pts : List Outpoint} (h : mapAt w ptV b n (onceV pts)) (q : Outpoint) (hq : i64 q.n) :
    (Instr.lookup 285 (.map (some b)) (.agg q.arr) false).run Tryz.prog w = .ok (.int .i64 (if q ∈ pts then 1 else 0)) w := by
  have := run_lookup pt_enc Tryz.underlying285 (zeroValue_run zero_intT w) h ⟨q, hq⟩ false
  rw [show ptV ⟨q, hq⟩ = .agg q.arr from rfl] at this
  rw [this]
  unfold look onceV
  by_cases hm : q ∈ pts <;> simp [hm]
/-- One more at a place. -/
theorem incr_once {w : World} {b n : Nat} {pts : List Outpoint} (h : mapAt w ptV b n (onceV pts)) (q : Outpoint) (hq : i64 q.n) :
    ∃ W1 W2 s, (Instr.mapEntry 285 (.map (some b)) (.agg q.arr)).run Tryz.prog w = .ok (.tuple #[.int .i64 (if q ∈ pts then 1 else 0), .int .i64 s]) W1 ∧
      (Instr.lookup 285 (.map (some b)) (.agg q.arr) false).run Tryz.prog W1 = .ok (.int .i64 (if q ∈ pts then 1 else 0)) W1 ∧
      (Instr.entryStore 285 (.map (some b)) (.int .i64 s) (.int .i64 (if q ∈ pts then 2 else 1))).run Tryz.prog W1 = .ok () W2 ∧
      (Instr.lookup 285 (.map (some b)) (.agg q.arr) false).run Tryz.prog W2 = .ok (.int .i64 (if q ∈ pts then 2 else 1)) W2 ∧
      (q ∉ pts → ∃ n', mapAt W2 ptV b n' (onceV (pts ++ [q]))) ∧ Upd w W1 (fun k => k = b) ∧ Upd w W2 (fun k => k = b) := by
  obtain ⟨W1, s, hr1, hm1, hg1⟩ := run_mapEntry pt_enc Tryz.underlying285 (fun w => zeroValue_run zero_intT w) h ⟨q, hq⟩
  obtain ⟨W2, hr2, hm2, hg2⟩ := run_entryStore (P := Tryz.prog) (k := 40) (t := 285) pt_enc hm1 (.int .i64 (if q ∈ pts then 2 else 1))
  have hl1 := run_lookup pt_enc Tryz.underlying285 (zeroValue_run zero_intT W1) hm1.mapAt ⟨q, hq⟩ false
  have hl2 := run_lookup pt_enc Tryz.underlying285 (zeroValue_run zero_intT W2) hm2 ⟨q, hq⟩ false
  have hv : (onceV pts ⟨q, hq⟩).getD (.int .i64 0) = .int .i64 (if q ∈ pts then 1 else 0) := by
    unfold onceV
    by_cases hm : q ∈ pts <;> simp [hm]
  have hu1 : Upd w W1 (fun k => k = b) := (Upd.grown hg1).mono (fun k _ e => (Option.some.inj e).symm)
  have hu2 : Upd W1 W2 (fun k => k = b) := (Upd.grown hg2).mono (fun k _ e => (Option.some.inj e).symm)
  rw [hv] at hr1
  refine ⟨W1, W2, s, hr1, ?_, hr2, ?_, fun hno => ?_, hu1, hu1.trans hu2 (fun _ _ h => h)⟩
  · rw [show ptV ⟨q, hq⟩ = .agg q.arr from rfl] at hl1
    rw [hl1]
    unfold look
    rw [upd_same, hv]
    rfl
  · rw [show ptV ⟨q, hq⟩ = .agg q.arr from rfl] at hl2
    rw [hl2]
    unfold look
    rw [upd_same]
    rfl
  · have e : upd (upd (onceV pts) ⟨q, hq⟩ (some ((onceV pts ⟨q, hq⟩).getD (.int .i64 0)))) ⟨q, hq⟩ (some (.int .i64 (if q ∈ pts then 2 else 1))) = onceV (pts ++ [q]) := by
      rw [if_neg hno, ← onceV_put ⟨q, hq⟩]
      funext y
      unfold upd
      split <;> rfl
    rw [e] at hm2
    exact ⟨_, hm2⟩
theorem upd_below {w w' : World} {b : Nat} (h : Upd w w' (fun k => k = b)) {B : Nat} (hB : B ≤ b) (hw : B ≤ w.heap.size) : Below B w w' := h.below hw (fun k e => by have e2 : k = b := e; omega)
set_option maxRecDepth 100000 in
set_option maxHeartbeats 4000000 in
theorem apart_blk (s : Sl) (vs : List TxV) (l : List Tx) (w : World) (hs : txsAt w s vs l) (hl : l.length ≤ 100) (hc : ∀ t ∈ l, checkS t = 0) :
    Calls Tryz.prog 148 #[.slice s.a s.n s.c] w fun e w' => e = .returned (.bool (apartS l)) ∧ Below w.heap.size w w' := by
  have hmm := @run_makeMap Tryz.prog
  obtain ⟨sa, sn, sc⟩ := s
  obtain ⟨⟨hn, hcc, hr⟩, hvl, ht⟩ := hs
  simp only at hn hcc hr
  have hn2 : sn = l.length := hn.trans hvl
  subst hn2
  have HVL := Lib.hid hvl
  clear hvl hn
  obtain ⟨W, hW⟩ : ∃ W, W = (w.alloc (.map #[] 0)).alloc (.map #[] 0) := ⟨_, rfl⟩
  have hbW : Below w.heap.size w W := hW ▸ ((Below.refl _ _).alloc (Nat.le_refl _) _).alloc (by simp) _
  have hm1 : mapAt W hashV w.heap.size 0 (posV []) := hW ▸ (mapAt_made w hashV).of_block (heap_alloc_old (w.alloc (.map #[] 0)) _ (by simp))
  have hm2 : mapAt W ptV (w.heap.size + 1) 0 (onceV []) := by
    have := mapAt_made (w.alloc (.map #[] 0)) ptV
    rw [show (w.alloc (.map #[] 0)).heap.size = w.heap.size + 1 by simp, ← hW] at this
    exact this
  go_enter Tryz.func148, Tryz.ntmps148
  go_wp2_with fail
  rw [← hW]
  clear hW hmm
  go_loopw [22] (fun v wr => ∃ k n2 : Nat, k ≤ l.length ∧ v = .int .i64 k ∧ Hid (((l.take k).map idS).Nodup ∧ (pointsOf (l.take k)).Nodup) ∧ mapAt wr hashV w.heap.size k (posV ((l.take k).map idS)) ∧ mapAt wr ptV (w.heap.size + 1) n2 (onceV (pointsOf (l.take k))) ∧ Below w.heap.size w wr) (fun v _ => l.length - (intOf v).toNat)
  case atStart => exact ⟨0, 0, Nat.zero_le _, rfl, ⟨List.nodup_nil, List.nodup_nil⟩, hm1, hm2, hbW⟩
  case round =>
    clear hm1 hm2 hbW
    obtain ⟨k, n2, hk, rfl, hnd, hm1, hm2, hbr⟩ := hrel
    by_cases hlt : k < l.length
    · have hlv : k < vs.length := by rw [HVL.out]; exact hlt
      obtain ⟨b, off, e0, hb, hrk⟩ := (hr.below hbr).at hlv
      subst e0
      obtain ⟨v, hv⟩ : ∃ v, v = vs[k] := ⟨_, rfl⟩
      obtain ⟨t, htt⟩ : ∃ t, t = l[k] := ⟨_, rfl⟩
      have htx := ht k hlv hlt
      rw [← hv] at hrk htx
      rw [← htt] at htx
      have hct : checkS t = 0 := by rw [htt]; exact hc _ (List.getElem_mem hlt)
      have hb2 : Below w.heap.size w (wr.alloc (.cells v.arr 72)) := hbr.alloc hbr.size _
      have htx2 := (htx.below hb2).mono hb2.size
      have hid := id_tx v t (wr.alloc (.cells v.arr 72)) htx2
      obtain ⟨z, hz⟩ : ∃ z, z = idS t := ⟨_, rfl⟩
      rw [← hz] at hid
      have HZ := Lib.hid hz
      have HT := Lib.hid htt
      have HTX := Lib.hid htx
      have HM1 := Lib.hid hm1
      have HM2 := Lib.hid hm2
      have k0 : (0 : Int) ≤ (k : Int) := by omega
      have k1 : (k : Int) < (l.length : Int) := by omega
      have dlt : decide ((k : Int) < (l.length : Int)) = true := decide_eq_true k1
      clear hz htt htx htx2 hm1 hm2 hv
      go_wp2_with fail
      refine hid.mono ?_
      rintro e w1 ⟨rfl, hb1⟩
      clear hid
      have hX1 : Below wr.heap.size wr (w1.alloc (.cells z.arr 38)) := ((((Below.refl wr.heap.size wr).alloc (Nat.le_refl _) (.cells v.arr 72))).trans (hb1.mono (by simp))).alloc (by have := hb1.size; simp at this; omega) _
      have hbX : Below w.heap.size w (w1.alloc (.cells z.arr 38)) := hbr.trans (hX1.mono hbr.size)
      have hwz : w.heap.size < wr.heap.size := HM1.out.lt
      have hwz2 : w.heap.size + 1 < wr.heap.size := HM2.out.lt
      have hm1X := HM1.out.of_block (hX1.block _ hwz)
      have hm2X := HM2.out.of_block (hX1.block _ hwz2)
      have hlk := look_pos hm1X z
      have htw1 : w1.heap[wr.heap.size]? = some (.cells v.arr 72 (0, 0)) := (hb1.block _ (by simp)).trans (heap_alloc_new wr _)
      have htl1 : wr.heap.size < w1.heap.size := by have := hb1.size; simp at this; omega
      by_cases hin : z ∈ (l.take k).map idS
      · have hps : (posS ((l.take k).map idS) z).isSome = true := by unfold posS; rw [if_pos hin]; rfl
        have hfin : Hid (apartS l = false) := apartS_ids hlt (by rw [← HT.out, ← HZ.out]; exact hin)
        rw [hps] at hlk
        clear hin hps
        go_wp2_with fail
        go_ret
        exact ⟨by rw [hfin.out]; rfl, hbX⟩
      · have hps : posS ((l.take k).map idS) z = none := posS_none.2 hin
        rw [hps] at hlk
        simp only [Option.getD_none, Option.isSome_none] at hlk
        obtain ⟨⟨ia, il, ic⟩, os, lk⟩ := v
        have hil : il = t.ins.length := HTX.out.1.1
        subst hil
        have hlen : ((l.take k).map idS).length = k := by simp; omega
        have hil100 : t.ins.length ≤ 100 := (checkS_ok hct).1
        have hinH := Lib.hid hin
        have HX1 := Lib.hid (And.intro hX1 hbX)
        have HMX := Lib.hid (And.intro hm1X hm2X)
        have HTW := Lib.hid htw1
        clear hps hin hX1 hbX hm2X hm1X hb1 htw1
        go_wp2_with (refine wpList_mapStore hash_enc rfl (.tmp 36) (.tmp 37) (.tmp 38) rfl Tryz.underlying284 rfl HMX.out.1 z rfl (.int .i64 k) rfl ?_; intro w3 hm3 hg3; have hu3 : Upd (w1.alloc (.cells z.arr 38)) w3 (fun i => i = w.heap.size) := (Upd.grown hg3).mono (fun i _ e => (Option.some.inj e).symm); have ht3 : w3.heap[wr.heap.size]? = some (.cells (TxV.mk ⟨ia, t.ins.length, ic⟩ os lk).arr 72 (0, 0)) := (hu3.block _ (by simp; omega) (by omega)).trans ((heap_alloc_old w1 _ htl1).trans HTW.out); obtain ⟨kc3, _, _⟩ := cells_known ht3; have hc3 := kc3 0; simp only [TxV.arr_0] at hc3; clear kc3)
        have hpn : (posV ((l.take k).map idS) z).isSome = false := by unfold posV; rw [posS_none.2 hinH.out]; rfl
        have hpp := posV_put hinH.out
        rw [hlen] at hpp
        have hids : (l.take (k + 1)).map idS = (l.take k).map idS ++ [z] := by rw [List.take_succ_eq_append_getElem hlt, List.map_append, HZ.out, HT.out]; rfl
        have hpts : pointsOf (l.take (k + 1)) = pointsOf (l.take k) ++ t.ins.map (·.prev) := by rw [List.take_succ_eq_append_getElem hlt, pointsOf_snoc, HT.out]
        rw [hpn, hpp, ← hids] at hm3
        simp only [Bool.false_eq_true, if_false] at hm3
        have hndi : ((l.take (k + 1)).map idS).Nodup := by rw [hids]; exact List.nodup_append.2 ⟨hnd.out.1, by simp, fun a ha b hb e => hinH.out (by rw [List.mem_singleton.1 hb] at e; rw [← e]; exact ha)⟩
        have hm23 := HMX.out.2.of_block (hu3.block _ (by have := HMX.out.2.lt; omega) (by omega))
        have hb3 : Below w.heap.size w w3 := HX1.out.2.trans (upd_below hu3 (Nat.le_refl _) (HX1.out.2.size))
        have HF := Lib.hid (And.intro hndi (And.intro hids hpts))
        have hm3i := Lib.hid hm3
        have hm23i := Lib.hid hm23
        have hb3i := Lib.hid hb3
        clear hpn hpp hids hpts hndi hm3 hm23 hb3 hu3 ht3 hg3 hlk hbr hrk hb hb2 htl1 hwz hwz2
        go_loopw [42] (fun v wi => ∃ j n3 : Nat, j ≤ t.ins.length ∧ v = .int .i64 j ∧ Hid ((pointsOf (l.take k) ++ (t.ins.take j).map (·.prev)).Nodup) ∧ mapAt wi hashV w.heap.size (k + 1) (posV ((l.take (k + 1)).map idS)) ∧ mapAt wi ptV (w.heap.size + 1) n3 (onceV (pointsOf (l.take k) ++ (t.ins.take j).map (·.prev))) ∧ Below w.heap.size w wi) (fun v _ => t.ins.length - (intOf v).toNat)
        case atStart => exact ⟨0, n2, Nat.zero_le _, rfl, by unfold Hid; simpa using hnd.out.2, hm3i.out, by simpa using hm23i.out, hb3i.out⟩
        case round =>
          obtain ⟨j, n3, hj, rfl, hnd2, hm1, hm2, hbr⟩ := hrel
          by_cases hjl : j < t.ins.length
          · obtain ⟨b1, off1, e1, hb1, hrj⟩ := (HTX.out.1.2.2.below hbr).at hjl
            simp only at e1
            subst e1
            obtain ⟨x, hx⟩ : ∃ x, x = t.ins[j] := ⟨_, rfl⟩
            rw [← hx] at hrj
            have hq : i64 x.prev.n := by rw [hx]; exact prev_i64 hct hjl
            have hw1 : w.heap.size < wr.heap.size := hm1.lt
            have hw2 : w.heap.size + 1 < wr.heap.size := hm2.lt
            have hm1X : mapAt (wr.alloc (.cells x.arr 68)).drew hashV w.heap.size (k + 1) (posV ((l.take (k + 1)).map idS)) := hm1.of_block (heap_alloc_old wr _ hw1)
            have hm2X : mapAt (wr.alloc (.cells x.arr 68)).drew ptV (w.heap.size + 1) n3 (onceV (pointsOf (l.take k) ++ (t.ins.take j).map (·.prev))) := hm2.of_block (heap_alloc_old wr _ hw2)
            have hl0 := look_once hm2X x.prev hq
            obtain ⟨W1, W2, st, r1, r2, r3, r4, hm2n, u1, u2⟩ := incr_once hm2X x.prev hq
            have hbX : Below w.heap.size w (wr.alloc (.cells x.arr 68)).drew := (hbr.alloc hbr.size _).drew
            have hxX : (wr.alloc (.cells x.arr 68)).drew.heap[wr.heap.size]? = some (.cells x.arr 68 (0, 0)) := heap_alloc_new wr _
            have hx1 : W1.heap[wr.heap.size]? = some (.cells x.arr 68 (0, 0)) := (u1.block _ (by simp) (by omega)).trans hxX
            have hx2 : W2.heap[wr.heap.size]? = some (.cells x.arr 68 (0, 0)) := (u2.block _ (by simp) (by omega)).trans hxX
            have hr1 : row? W1 ⟨wr.heap.size, 0, none⟩ 33 = some x.prev.arr := by rw [row_part hx1 0 33 (by simp)]; simp
            have hr2 : row? W2 ⟨wr.heap.size, 0, none⟩ 33 = some x.prev.arr := by rw [row_part hx2 0 33 (by simp)]; simp
            have k0 : (0 : Int) ≤ (j : Int) := by omega
            have k1 : (j : Int) < (t.ins.length : Int) := by omega
            have djl : decide ((j : Int) < (t.ins.length : Int)) = true := decide_eq_true k1
            have HXJ := Lib.hid hx
            have hm1W : mapAt W2 hashV w.heap.size (k + 1) (posV ((l.take (k + 1)).map idS)) := hm1X.of_block (u2.block _ (by simp; omega) (by omega))
            have HW2 := Lib.hid (And.intro hm1W (hbX.trans (upd_below u2 (by omega) hbX.size)))
            by_cases hqin : x.prev ∈ pointsOf (l.take k) ++ (t.ins.take j).map (·.prev)
            · simp only [if_pos hqin] at hl0 r1 r2 r3 r4
              have hwrp : IntKind.i64.wrap 2 = 2 := by decide
              have hfin : Hid (apartS l = false) := apartS_points' hlt HT.out hjl HXJ.out hqin
              clear hx hq hm1 hm2 hm1X hm2X hm1W hqin hm2n
              go_wp2_with fail
              go_region_law (fail)
              all_goals
                go_wp2_with fail
                go_ret
                exact ⟨by rw [hfin.out]; rfl, HW2.out.2⟩
            · simp only [if_neg hqin] at hl0 r1 r2 r3 r4
              have hwrp : IntKind.i64.wrap 1 = 1 := by decide
              have hmn := hm2n hqin
              have htake : pointsOf (l.take k) ++ (t.ins.take (j + 1)).map (·.prev) = (pointsOf (l.take k) ++ (t.ins.take j).map (·.prev)) ++ [x.prev] := by rw [List.take_succ_eq_append_getElem hjl, List.map_append, ← List.append_assoc, ← HXJ.out]; rfl
              have hnd3 : (pointsOf (l.take k) ++ (t.ins.take (j + 1)).map (·.prev)).Nodup := by rw [htake]; exact List.nodup_append.2 ⟨hnd2.out, by simp, fun a ha b hb e => hqin (by rw [List.mem_singleton.1 hb] at e; rw [← e]; exact ha)⟩
              rw [← htake] at hmn
              have HMN := Lib.hid hmn
              have HND3 := Lib.hid hnd3
              clear hx hq hm1 hm2 hm1X hm2X hm1W hqin hm2n hmn hnd3 htake
              go_wp2_with fail
              go_region_law (fail)
              all_goals
                go_wp2_with fail
                go_roundw
                case rel =>
                  obtain ⟨n', hn'⟩ := HMN.out
                  exact ⟨j + 1, n', by omega, by go_num, HND3, HW2.out.1, hn', HW2.out.2⟩
                case measure => simp [intOf]; omega
          · have djl : decide ((j : Int) < (t.ins.length : Int)) = false := decide_eq_false (by omega)
            have hje : j = t.ins.length := by omega
            have HJE := Lib.hid hje
            have HMA := Lib.hid (And.intro hm1 (And.intro hm2 hbr))
            clear hje hm1 hm2 hbr
            go_wp2_with fail
            go_roundw
            case rel => exact ⟨k + 1, n3, by omega, by go_num, ⟨HF.out.1, by rw [HF.out.2.2]; have := hnd2.out; rw [HJE.out, List.take_length] at this; exact this⟩, HMA.out.1, by rw [HF.out.2.2]; have := HMA.out.2.1; rw [HJE.out, List.take_length] at this; exact this, HMA.out.2.2⟩
            case measure => simp [intOf]; omega
    · have dlt : decide ((k : Int) < (l.length : Int)) = false := decide_eq_false (by omega)
      have hke : k = l.length := by omega
      have HND := Lib.hid hnd
      have hmk : mapAt wr hashV w.heap.size l.length (posV (l.map idS)) := by have := hm1; rw [hke, List.take_length] at this; exact this
      have hnk : Hid ((l.map idS).Nodup ∧ (pointsOf l).Nodup) := by have := hnd.out; rw [hke, List.take_length] at this; exact this
      have HMK := Lib.hid hmk
      have HBR := Lib.hid hbr
      clear hke hm1 hm2 hmk hbr hnd
      go_wp2_with fail
      go_loopw [62] (fun v wr => ∃ i : Nat, i ≤ l.length ∧ v = .int .i64 i ∧ Hid (∀ k (hk : k < l.length), k < i → ∀ j (hj : j < l[k].ins.length), inOkAt (l.map idS) k l[k].ins[j] = true) ∧ mapAt wr hashV w.heap.size l.length (posV (l.map idS)) ∧ Below w.heap.size w wr) (fun v _ => l.length - (intOf v).toNat)
      case atStart => exact ⟨0, Nat.zero_le _, rfl, fun k _ h => absurd h (by omega), HMK.out, HBR.out⟩
      case round =>
        obtain ⟨i, hi, rfl, hok, hm1, hbr⟩ := hrel
        by_cases hlt2 : i < l.length
        · have hlv : i < vs.length := by rw [HVL.out]; exact hlt2
          obtain ⟨b, off, e0, hb, hrk⟩ := (hr.below hbr).at hlv
          subst e0
          obtain ⟨v, hv⟩ : ∃ v, v = vs[i] := ⟨_, rfl⟩
          obtain ⟨t, htt⟩ : ∃ t, t = l[i] := ⟨_, rfl⟩
          have htx := ht i hlv hlt2
          rw [← hv] at hrk htx
          rw [← htt] at htx
          have hb2 : Below w.heap.size w (wr.alloc (.cells v.arr 72)) := hbr.alloc hbr.size _
          obtain ⟨⟨ia, il, ic⟩, os, lk⟩ := v
          have hil : il = t.ins.length := htx.1.1
          subst hil
          have hil100 : t.ins.length ≤ 100 := (checkS_ok (by rw [htt]; exact hc _ (List.getElem_mem hlt2))).1
          have HT := Lib.hid htt
          have HTX := Lib.hid htx
          have HM1 := Lib.hid (hm1.of_block (heap_alloc_old wr (.cells (TxV.mk ⟨ia, t.ins.length, ic⟩ os lk).arr 72) hm1.lt))
          have HB2 := Lib.hid hb2
          have k0 : (0 : Int) ≤ (i : Int) := by omega
          have k1 : (i : Int) < (l.length : Int) := by omega
          have dlt2 : decide ((i : Int) < (l.length : Int)) = true := decide_eq_true k1
          clear htt htx hm1 hv hb2 hbr
          go_wp2_with fail
          go_loopw [70] (fun v wi => ∃ j : Nat, j ≤ t.ins.length ∧ v = .int .i64 j ∧ Hid (∀ m (hm : m < t.ins.length), m < j → inOkAt (l.map idS) i t.ins[m] = true) ∧ mapAt wi hashV w.heap.size l.length (posV (l.map idS)) ∧ Below w.heap.size w wi) (fun v _ => t.ins.length - (intOf v).toNat)
          case atStart => exact ⟨0, Nat.zero_le _, rfl, fun m _ h => absurd h (by omega), HM1.out, HB2.out⟩
          case round =>
            obtain ⟨j, hj, rfl, hok2, hm1, hbr⟩ := hrel
            by_cases hjl : j < t.ins.length
            · obtain ⟨b1, off1, e1, hb1, hrj⟩ := (HTX.out.1.2.2.below hbr).at hjl
              simp only at e1
              subst e1
              obtain ⟨x, hx⟩ : ∃ x, x = t.ins[j] := ⟨_, rfl⟩
              rw [← hx] at hrj
              have hmX : mapAt (wr.alloc (.cells x.arr 68)) hashV w.heap.size l.length (posV (l.map idS)) := hm1.of_block (heap_alloc_old wr _ hm1.lt)
              have hlk := look_pos hmX x.prev.tx
              have hbX : Below w.heap.size w (wr.alloc (.cells x.arr 68)) := hbr.alloc hbr.size _
              have k0 : (0 : Int) ≤ (j : Int) := by omega
              have k1 : (j : Int) < (t.ins.length : Int) := by omega
              have djl : decide ((j : Int) < (t.ins.length : Int)) = true := decide_eq_true k1
              have HX := Lib.hid hx
              have HMB := Lib.hid (And.intro hmX hbX)
              clear hx hm1 hmX hbX
              have hgo : inOkAt (l.map idS) i x = true → Hid (∀ m (hm : m < t.ins.length), m < j + 1 → inOkAt (l.map idS) i t.ins[m] = true) := by
                intro h m hm hmj
                by_cases e : m = j
                · subst e; rw [← HX.out]; exact h
                · exact hok2.out m hm (by omega)
              cases hp : posS (l.map idS) x.prev.tx with
              | none =>
                rw [hp] at hlk
                simp only [Option.getD_none, Option.isSome_none] at hlk
                have hg := hgo (by unfold inOkAt; rw [hp])
                clear hp hgo
                go_wp2_with fail
                exact ⟨⟨j + 1, by omega, by go_num, hg, HMB.out.1, HMB.out.2⟩, by simp [intOf]; omega⟩
              | some kk =>
                rw [hp] at hlk
                simp only [Option.getD_some, Option.isSome_some] at hlk
                by_cases hkk : kk < i
                · have hg := hgo (by unfold inOkAt; rw [hp]; exact decide_eq_true hkk)
                  have dkk : ¬ i ≤ kk := by omega
                  clear hp hgo hkk
                  go_wp2_with fail
                  exact ⟨⟨j + 1, by omega, by go_num, hg, HMB.out.1, HMB.out.2⟩, by simp [intOf]; omega⟩
                · have hfin : Hid (apartS l = false) := apartS_order' hlt2 HT.out hjl HX.out (by unfold inOkAt; rw [hp]; exact decide_eq_false hkk)
                  have dkk : i ≤ kk := by omega
                  clear hp hgo hkk
                  go_wp2_with fail
                  go_ret
                  exact ⟨by rw [hfin.out]; rfl, HMB.out.2⟩
            · have djl : decide ((j : Int) < (t.ins.length : Int)) = false := decide_eq_false (by omega)
              have HMA := Lib.hid (And.intro hm1 hbr)
              have hg : Hid (∀ k (hk : k < l.length), k < i + 1 → ∀ j (hj : j < l[k].ins.length), inOkAt (l.map idS) k l[k].ins[j] = true) := by
                intro k hk hki m hm
                by_cases e : k = i
                · subst e
                  have h2 := hok2.out
                  rw [HT.out] at h2
                  exact h2 m hm (by have := hjl; rw [HT.out] at this; omega)
                · exact hok.out k hk (by omega) m hm
              clear hm1 hbr
              go_wp2_with fail
              go_roundw
              case rel => exact ⟨i + 1, by omega, by go_num, hg, HMA.out.1, HMA.out.2⟩
              case measure => simp [intOf]; omega
        · have dlt2 : decide ((i : Int) < (l.length : Int)) = false := decide_eq_false (by omega)
          have hfin : Hid (apartS l = true) := apartS_true hnk.out.1 hnk.out.2 (fun k hk j hj => hok.out k hk (by omega) j hj)
          have HBR2 := Lib.hid hbr
          clear hm1 hbr
          go_wp2_with fail
          go_ret
          exact ⟨by rw [hfin.out]; rfl, HBR2.out⟩
end Go.Proofs.YtlkojkjeklblkaaGreat
namespace Go.Proofs.YtlkojkjeklblkaaGreat
open Go.RowKit
theorem firstErr_hit {l : List Tx} {k : Nat} (hk : k < l.length) (h0 : ∀ j (h : j < l.length), j < k → checkS l[j] = 0) (hne : checkS l[k] ≠ 0) : firstErr l = checkS l[k] := by
  have : l.find? (fun t => checkS t != 0) = some l[k] := by
    rw [List.find?_eq_some_iff_getElem]
    exact ⟨by simpa using hne, k, hk, rfl, fun j hj => by simp [h0 j (by omega) hj]⟩
  unfold firstErr
  rw [this]
theorem firstErr_none {l : List Tx} (h0 : ∀ j (h : j < l.length), checkS l[j] = 0) : firstErr l = 0 := by
  have : l.find? (fun t => checkS t != 0) = none := by
    rw [List.find?_eq_none]
    intro x hx
    obtain ⟨j, hj, rfl⟩ := List.mem_iff_getElem.1 hx
    simp [h0 j hj]
  unfold firstErr
  rw [this]
set_option maxRecDepth 100000 in
set_option maxHeartbeats 1000000 in
theorem txs_blk (s : Sl) (vs : List TxV) (l : List Tx) (w : World) (hs : txsAt w s vs l) (hl : l.length ≤ 1000000) :
    Calls Tryz.prog 97 #[.slice s.a s.n s.c] w fun e w' => e = .returned (.int .i64 (txsS l)) ∧ Below w.heap.size w w' := by
  have hs0 := hs
  obtain ⟨sa, sn, sc⟩ := s
  obtain ⟨⟨hn, hcc, hr⟩, hvl, ht⟩ := hs
  simp only at hn hcc hr
  have hn2 : sn = l.length := hn.trans hvl
  subst hn2
  have HVL := Lib.hid hvl
  have HS := Lib.hid hs0
  clear hvl hn hs0
  by_cases h100 : 100 < l.length
  · have d1 : decide ((100 : Int) < (l.length : Int)) = true := decide_eq_true (by omega)
    have hE : Hid (txsS l = 3) := by unfold Hid txsS; rw [if_pos h100]
    go_enter Tryz.func97, Tryz.ntmps97
    go_wp2_with fail
    go_ret
    exact ⟨by rw [hE.out]; rfl, Below.refl _ _⟩
  · have d1 : decide ((100 : Int) < (l.length : Int)) = false := decide_eq_false (by omega)
    go_enter Tryz.func97, Tryz.ntmps97
    go_wp2_with fail
    go_loopw [11] (fun v wr => ∃ k : Nat, k ≤ l.length ∧ v = .int .i64 k ∧ Hid (∀ j (h : j < l.length), j < k → checkS l[j] = 0) ∧ Below w.heap.size w wr) (fun v _ => l.length - (intOf v).toNat)
    case atStart => exact ⟨0, Nat.zero_le _, rfl, fun j _ h => absurd h (by omega), Below.refl _ _⟩
    case round =>
      obtain ⟨k, hk, rfl, hok, hbr⟩ := hrel
      by_cases hlt : k < l.length
      · have hlv : k < vs.length := by rw [HVL.out]; exact hlt
        obtain ⟨b, off, e0, hb, hrk⟩ := (hr.below hbr).at hlv
        subst e0
        obtain ⟨v, hv⟩ : ∃ v, v = vs[k] := ⟨_, rfl⟩
        obtain ⟨t, htt⟩ : ∃ t, t = l[k] := ⟨_, rfl⟩
        have htx := ht k hlv hlt
        rw [← hv] at hrk htx
        rw [← htt] at htx
        have hb2 : Below w.heap.size w (wr.alloc (.cells v.arr 72)) := hbr.alloc hbr.size _
        have hck := check_tx v t (wr.alloc (.cells v.arr 72)) ((htx.below hb2).mono hb2.size)
        obtain ⟨c, hc⟩ : ∃ c, c = checkS t := ⟨_, rfl⟩
        rw [← hc] at hck
        have k0 : (0 : Int) ≤ (k : Int) := by omega
        have k1 : (k : Int) < (l.length : Int) := by omega
        have dlt : decide ((k : Int) < (l.length : Int)) = true := decide_eq_true k1
        have HC := Lib.hid hc
        have HT := Lib.hid htt
        by_cases hc0 : c = 0
        · have d0 : (c != 0) = false := by simp [hc0]
          have hok2 : Hid (∀ j (h : j < l.length), j < k + 1 → checkS l[j] = 0) := fun j h hj => by
            by_cases e : j = k
            · subst e; rw [← HT.out, ← HC.out]; exact hc0
            · exact hok.out j h (by omega)
          clear hc htt htx hv hc0
          go_wp2_with fail
          refine hck.mono ?_
          rintro e w1 ⟨rfl, hb1⟩
          have hb3 : Below w.heap.size w w1 := hb2.trans (hb1.mono hb2.size)
          clear hck hb1 hb2
          go_wp2_with fail
          exact ⟨⟨k + 1, by omega, by go_num, hok2, hb3⟩, by simp [intOf]; omega⟩
        · have d0 : (c != 0) = true := by simpa using hc0
          have hE : Hid (txsS l = c) := by
            unfold Hid txsS
            have hf := firstErr_hit hlt hok.out (by rw [← HT.out, ← HC.out]; exact hc0)
            rw [if_neg (by omega), hf, ← HT.out, ← HC.out, if_pos hc0]
          clear hc htt htx hv hc0
          go_wp2_with fail
          refine hck.mono ?_
          rintro e w1 ⟨rfl, hb1⟩
          have hb3 : Below w.heap.size w w1 := hb2.trans (hb1.mono hb2.size)
          clear hck hb1 hb2
          go_wp2_with fail
          go_ret
          exact ⟨by rw [hE.out]; rfl, hb3⟩
      · have dlt : decide ((k : Int) < (l.length : Int)) = false := decide_eq_false (by omega)
        have hall : Hid (∀ t ∈ l, checkS t = 0) := fun t ht => by
          obtain ⟨j, hj, rfl⟩ := List.mem_iff_getElem.1 ht
          exact hok.out j hj (by omega)
        have hap := apart_blk ⟨sa, l.length, sc⟩ vs l wr (HS.out.below (hbr.mono (Nat.le_refl _))) (by omega) hall.out
        obtain ⟨c, hc⟩ : ∃ c, c = apartS l := ⟨_, rfl⟩
        have hE : Hid (txsS l = if c then 0 else 1) := by
          unfold Hid txsS
          rw [if_neg h100, firstErr_none (fun j h => hall.out _ (List.getElem_mem h)), if_neg (by simp), ← hc]
        rw [← hc] at hap
        clear hc
        go_wp2_with fail
        refine hap.mono ?_
        rintro e w1 ⟨rfl, hb1⟩
        have hb3 : Below w.heap.size w w1 := hbr.trans (hb1.mono hbr.size)
        clear hap hb1
        cases c with
        | true =>
          go_wp2_with fail
          go_ret
          exact ⟨by rw [hE.out]; rfl, hb3⟩
        | false =>
          go_wp2_with fail
          go_ret
          exact ⟨by rw [hE.out]; rfl, hb3⟩
end Go.Proofs.YtlkojkjeklblkaaGreat
namespace Go.Proofs.YtlkojkjeklblkaaGreat
open Go.RowKit
/-- Where an index's parts lie. -/
structure IdxR where
  mt : Nat
  ms : Nat
  nt : Nat
  ns : Nat
  bv : Sl
  ivs : List Sl
  T : Hash → TxV
/-- The blocks that an index writes. -/
def IdxR.foot (p : Nat) (r : IdxR) (k : Nat) : Prop := k = p ∨ k = r.mt ∨ k = r.ms ∨ r.bv.v.ownBlock = some k
def IdxR.rest (p : Nat) (r : IdxR) (Z : Nat → Prop) (k : Nat) : Prop := Z k ∧ ¬ r.foot p k
def entV (T : Hash → TxV) (M : Maps) (z : Hash) : Option Value := (M.txs z).map fun x => .agg (EntryV.mk (T z) (x.2 : Nat)).arr
def spV (M : Maps) (q : Pt) : Option Value := (M.sp q.1).map hashV
structure IdxAt (w : World) (Z : Nat → Prop) (p : Nat) (r : IdxR) (M : Maps) (B : List (List Hash)) : Prop where
  hd : w.heap[p]? = some (.cells (IndexV.mk r.bv (some r.mt) (some r.ms)).arr 130 (0, 0))
  txs : mapAt w hashV r.mt r.nt (entV r.T M)
  sp : mapAt w ptV r.ms r.ns (spV M)
  own : w.ownsRow 0 184 1 r.bv.v B.length (r.ivs.map Sl.v)
  bn : r.bv.n = B.length
  il : r.ivs.length = B.length
  ids : ∀ k (h : k < B.length) (h2 : k < r.ivs.length), slIn w (r.rest p Z) r.ivs[k] 32 Hash.arr B[k]
  ent : ∀ z x, M.txs z = some x → txIn w (r.rest p Z) (r.T z) x.1 ∧ checkS x.1 = 0
  zone : ∀ k, r.foot p k → Z k
  two : r.mt ≠ r.ms
section
variable {w w' : World} {Z Y : Nat → Prop} {p : Nat} {r : IdxR} {M : Maps} {B : List (List Hash)}
theorem IdxAt.lt (h : IdxAt w Z p r M B) {k : Nat} (hk : r.foot p k) : k < w.heap.size := by
  rcases hk with rfl | rfl | rfl | hk
  · exact (cells_known h.hd).2.2
  · exact h.txs.lt
  · exact h.sp.lt
  · exact (h.own.lt k hk).2
theorem IdxAt.kept {S : Nat → Prop} (h : IdxAt w Z p r M B) (hu : Upd w w' S) (hs : ∀ k, Z k → k < w.heap.size → ¬ S k) : IdxAt w' Z p r M B := by
  have hf : ∀ k, r.foot p k → w'.heap[k]? = w.heap[k]? := fun k hk => hu.block k (h.lt hk) (hs k (h.zone k hk) (h.lt hk))
  refine ⟨(hf p (.inl rfl)).trans h.hd, h.txs.of_block (hf _ (.inr (.inl rfl))), h.sp.of_block (hf _ (.inr (.inr (.inl rfl)))), ?_, h.bn, h.il, fun k h1 h2 => (h.ids k h1 h2).upd hu (fun j hj hl => hs j hj.1 hl), fun z x hx => ⟨((h.ent z x hx).1).upd hu (fun j hj hl => hs j hj.1 hl), (h.ent z x hx).2⟩, h.zone, h.two⟩
  exact ownsRow_upd h.own hu (fun k hk => hs k (h.zone k (.inr (.inr (.inr hk)))) (h.own.lt k hk).2)
theorem IdxAt.keep (h : IdxAt w Z p r M B) (hb : Below w.heap.size w w') : IdxAt w' Z p r M B := h.kept (S := fun _ => False) (Upd.of_below hb _) (fun _ _ _ hf => hf)
theorem IdxAt.zoned (h : IdxAt w Z p r M B) (hY : ∀ k, k < w.heap.size → Z k → Y k) : IdxAt w Y p r M B :=
  ⟨h.hd, h.txs, h.sp, h.own, h.bn, h.il, fun k h1 h2 => (h.ids k h1 h2).zone (fun j hj hz => ⟨hY j hj hz.1, hz.2⟩), fun z x hx => ⟨((h.ent z x hx).1).zone (fun j hj hz => ⟨hY j hj hz.1, hz.2⟩), (h.ent z x hx).2⟩, fun k hk => hY k (h.lt hk) (h.zone k hk), h.two⟩
theorem IdxAt.cell0 (h : IdxAt w Z p r M B) : w.cell? ⟨p, 0, none⟩ = some (.slice r.bv.a r.bv.n r.bv.c) := by rw [(cells_known h.hd).1]; exact IndexV.arr_0 _
theorem IdxAt.cell1 (h : IdxAt w Z p r M B) : w.cell? ⟨p, 1, none⟩ = some (.map (some r.mt)) := by rw [(cells_known h.hd).1]; exact IndexV.arr_1 _
theorem IdxAt.cell2 (h : IdxAt w Z p r M B) : w.cell? ⟨p, 2, none⟩ = some (.map (some r.ms)) := by rw [(cells_known h.hd).1]; exact IndexV.arr_2 _
/-- The entry at a number. -/
def entOf (T : Hash → TxV) (M : Maps) (z : Hash) : EntryV := match M.txs z with | some x => ⟨T z, (x.2 : Nat)⟩ | none => EntryV.zero
theorem IdxAt.look (h : IdxAt w Z p r M B) (z : Hash) : (Instr.lookup 127 (.map (some r.mt)) (.agg z.arr) true).run Tryz.prog w = .ok (.tuple #[.agg (entOf r.T M z).arr, .bool (M.txs z).isSome]) w ∧ (Instr.lookup 127 (.map (some r.mt)) (.agg z.arr) false).run Tryz.prog w = .ok (.agg (entOf r.T M z).arr) w := by
  have h1 := run_lookup hash_enc Tryz.underlying127 (zeroValue_run zero_EntryV w) h.txs z true
  have h2 := run_lookup hash_enc Tryz.underlying127 (zeroValue_run zero_EntryV w) h.txs z false
  rw [show hashV z = .agg z.arr from rfl] at h1 h2
  rw [h1, h2]
  unfold Go.Proofs.YtlkojkjeklblkaaGreat.look entV entOf
  cases M.txs z <;> exact ⟨rfl, rfl⟩
theorem IdxAt.lookSp (h : IdxAt w Z p r M B) (q : Outpoint) (hq : i64 q.n) : (Instr.lookup 128 (.map (some r.ms)) (.agg q.arr) true).run Tryz.prog w = .ok (.tuple #[.agg ((M.sp q).getD Hash.zero).arr, .bool (M.sp q).isSome]) w := by
  have h1 := run_lookup pt_enc Tryz.underlying128 (zeroValue_run zero_Hash w) h.sp ⟨q, hq⟩ true
  rw [show ptV ⟨q, hq⟩ = .agg q.arr from rfl] at h1
  rw [h1]
  unfold Go.Proofs.YtlkojkjeklblkaaGreat.look spV
  cases M.sp q <;> rfl
end
set_option maxRecDepth 100000 in
theorem new_ix (w : World) : Calls Tryz.prog 49 #[] w fun e w' => ∃ p r, e = .returned (.pointer (some ⟨p, 0, none⟩)) ∧ IdxAt w' (fun k => w.heap.size ≤ k) p r Maps.zero [] ∧ Below w.heap.size w w' := by
  have hmm := @run_makeMap Tryz.prog
  obtain ⟨W, hW⟩ : ∃ W, W = (w.alloc (.map #[] 0)).alloc (.map #[] 0) := ⟨_, rfl⟩
  have hbW : Below w.heap.size w W := hW ▸ ((Below.refl _ _).alloc (Nat.le_refl _) _).alloc (by simp) _
  have hm1 : mapAt W hashV w.heap.size 0 (fun _ => none) := hW ▸ (mapAt_made w hashV).of_block (heap_alloc_old (w.alloc (.map #[] 0)) _ (by simp))
  have hm2 : mapAt W ptV (w.heap.size + 1) 0 (fun _ => none) := by
    have := mapAt_made (w.alloc (.map #[] 0)) ptV
    rw [show (w.alloc (.map #[] 0)).heap.size = w.heap.size + 1 by simp, ← hW] at this
    exact this
  have hz : W.heap.size = w.heap.size + 2 := by rw [hW]; simp
  have HZ := Lib.hid hz
  clear hz
  go_enter Tryz.func49, Tryz.ntmps49
  go_wp2_with fail
  rw [← hW]
  go_ret
  have hX := heap_alloc_new W (.cells (IndexV.mk ⟨none, 0, 0⟩ (some w.heap.size) (some (w.heap.size + 1))).arr 130)
  have hz := HZ.out
  refine ⟨W.heap.size, ⟨w.heap.size, w.heap.size + 1, 0, 0, ⟨none, 0, 0⟩, [], fun _ => TxV.zero⟩, ?_, ⟨hX, hm1.of_block (heap_alloc_old W _ hm1.lt), hm2.of_block (heap_alloc_old W _ hm2.lt), World.ownsRow_nil _ _ _ _, rfl, rfl, fun k h => absurd h (by simp), fun z x h => (by cases h), ?_, by simp⟩, hbW.alloc hbW.size _⟩
  · simp [hz]
  · rintro k (rfl | rfl | rfl | hk)
    · exact hbW.size
    · exact Nat.le_refl _
    · exact Nat.le_succ _
    · simp [Sl.v, Value.ownBlock] at hk
theorem height_ix (Z : Nat → Prop) (p : Nat) (r : IdxR) (M : Maps) (B : List (List Hash)) (w : World) (h : IdxAt w Z p r M B) :
    Calls Tryz.prog 21 #[.pointer (some ⟨p, 0, none⟩)] w fun e w' => e = .returned (.int .i64 (B.length : Nat)) ∧ w = w' := by
  have c0 := h.cell0
  have hn := h.bn
  rw [hn] at c0
  clear h hn
  go_enter Tryz.func21, Tryz.ntmps21
  go_wp2_with fail
  go_ret
  exact ⟨rfl, rfl⟩
theorem none_ix (Z : Nat → Prop) (p : Nat) (r : IdxR) (M : Maps) (B : List (List Hash)) (w : World) (h : IdxAt w Z p r M B) :
    Calls Tryz.prog 96 #[.pointer (some ⟨p, 0, none⟩)] w fun e w' => e = .returned (.bool false) ∧ w = w' := by
  have c1 := h.cell1
  have hnil := run_eql_map_nil w (P := Tryz.prog) 127 _ _ (some r.mt) Tryz.underlying127
  clear h
  go_enter Tryz.func96, Tryz.ntmps96
  go_wp2_with fail
  go_ret
  exact ⟨rfl, rfl⟩
theorem none_nil (w : World) : Calls Tryz.prog 96 #[.pointer none] w fun e w' => e = .returned (.bool true) ∧ w = w' := by
  go_enter Tryz.func96, Tryz.ntmps96
  go_wp2_with fail
  go_ret
  exact ⟨rfl, rfl⟩
theorem height_nil (w : World) : Calls Tryz.prog 21 #[.pointer none] w fun e w' => e = .returned (.int .i64 0) ∧ w = w' := by
  go_enter Tryz.func21, Tryz.ntmps21
  go_wp2_with fail
  go_ret
  exact ⟨rfl, rfl⟩
end Go.Proofs.YtlkojkjeklblkaaGreat
namespace Go.Proofs.YtlkojkjeklblkaaGreat
open Go.RowKit
attribute [local go_sem] Hash.ext_whole In.ext_tx Hash.size_arr
theorem isTx.keep {w w' : World} {v : TxV} {t : Tx} (h : isTx w v t w.heap.size) (hb : Below w.heap.size w w') : isTx w' v t w'.heap.size := (h.below hb).mono hb.size
theorem entOf_some {T : Hash → TxV} {M : Maps} {z : Hash} {x : Tx × Nat} (h : M.txs z = some x) : entOf T M z = ⟨T z, (x.2 : Nat)⟩ := by unfold entOf; rw [h]
theorem entOf_none {T : Hash → TxV} {M : Maps} {z : Hash} (h : M.txs z = none) : entOf T M z = EntryV.zero := by unfold entOf; rw [h]
set_option maxRecDepth 100000 in
set_option maxHeartbeats 8000000 in
theorem may_ix (Z : Nat → Prop) (p : Nat) (r : IdxR) (M : Maps) (B : List (List Hash)) (v : TxV) (t : Tx) (w : World) (h : IdxAt w Z p r M B) (ht : isTx w v t w.heap.size) (hc : checkS t = 0) :
    Calls Tryz.prog 98 #[.pointer (some ⟨p, 0, none⟩), .agg v.arr] w fun e w' => e = .returned (.bool (mayS M t)) ∧ Below w.heap.size w w' := by
  obtain ⟨⟨ia, il, ic⟩, os, lk⟩ := v
  have hil : il = t.ins.length := ht.1.1
  subst hil
  have hil100 : t.ins.length ≤ 100 := (checkS_ok hc).1
  obtain ⟨v, hv⟩ : ∃ v, v = TxV.mk ⟨ia, t.ins.length, ic⟩ os lk := ⟨_, rfl⟩
  have hv0 : v.arr[0]? = some (.slice ia t.ins.length ic) := by rw [hv]; exact TxV.arr_0 _
  rw [← hv] at ht ⊢
  have hins : rowsAt w ia 37 In.arr t.ins w.heap.size := by have := ht.1.2.2; rw [hv] at this; exact this
  obtain ⟨W1, hW1⟩ : ∃ W1, W1 = w.alloc (.cells v.arr 72) := ⟨_, rfl⟩
  have hb1 : Below w.heap.size w W1 := hW1 ▸ (Below.refl _ _).alloc (Nat.le_refl _) _
  have h1 := h.keep hb1
  have ht1 := ht.keep hb1
  have hz1 : w.heap.size + 1 = W1.heap.size := by rw [hW1]; simp
  have hg1 : W1.heap[w.heap.size]? = some (.cells v.arr 72 (0, 0)) := hW1 ▸ heap_alloc_new w _
  have hid := id_tx v t W1.drew ht1
  obtain ⟨z, hz⟩ : ∃ z, z = idS t := ⟨_, rfl⟩
  rw [← hz] at hid
  have c1 : W1.drew.cell? ⟨p, 1, none⟩ = some (.map (some r.mt)) := h1.cell1
  have c2 : row? W1.drew ⟨w.heap.size, 0, none⟩ 3 = some v.arr := row_of_block hg1 (by simp)
  have c3 : W1.cell? ⟨p, 1, none⟩ = some (.map (some r.mt)) := h1.cell1
  have c4 : row? W1 ⟨w.heap.size, 0, none⟩ 3 = some v.arr := row_of_block hg1 (by simp)
  have H1 := Lib.hid h1
  have HT1 := Lib.hid ht1
  have HG1 := Lib.hid hg1
  have HZ := Lib.hid hz
  have HV0 := Lib.hid hv0
  have HIN := Lib.hid ((hins.below hb1).mono hb1.size)
  clear h1 ht1 hg1 h ht hz hv0 hins hv
  have hidB := id_tx v t (W1.alloc (.cells EntryV.zero.arr 188)).drew (HT1.out.keep ((Below.refl W1.heap.size W1).alloc (Nat.le_refl _) _).drew)
  rw [← HZ.out] at hidB
  have hlt1 : w.heap.size < W1.heap.size := by omega
  have hpl1 : p < W1.heap.size := H1.out.lt (.inl rfl)
  go_enter Tryz.func98, Tryz.ntmps98
  go_upto_region 1 with fail
  rw [← hW1]
  clear hW1
  go_cut [6] (fun v6 wx => v6 = .bool (M.txs z).isSome ∧ Below W1.heap.size W1 wx)
  case first =>
    go_region_law (first | (go_simp; go_at_call 99; refine hid.mono ?_; rintro e w2 ⟨rfl, hb2⟩; have hI2 := (H1.out.keep (Below.refl W1.heap.size W1).drew).keep hb2; have hc2 := hI2.cell1; have hp2 : p < w2.heap.size := hI2.lt (.inl rfl); have hlk := (hI2.look z).1; have HI2 := Lib.hid hI2; clear hI2; have hlk2 := ((HI2.out.keep ((Below.refl w2.heap.size w2).alloc (Nat.le_refl _) (.cells EntryV.zero.arr 188))).look z).1; have hbe := (((Below.refl W1.heap.size W1).drew.trans hb2).alloc hb2.size (.cells (entOf r.T M z).arr 188))) | (go_simp; go_at_call 99; refine hidB.mono ?_; rintro e w3 ⟨rfl, hb3⟩; have hI3 := (H1.out.keep ((Below.refl W1.heap.size W1).alloc (Nat.le_refl _) (.cells EntryV.zero.arr 188)).drew).keep hb3; have hc3 := hI3.cell1; have hlk := (hI3.look z).1; clear hI3; have hge : w3.heap[W1.heap.size]? = some (.cells EntryV.zero.arr 188 (0, 0)) := (hb3.block _ (by simp)).trans (heap_alloc_new W1 _); have hre : (row? w3 ⟨W1.heap.size, 0, none⟩ 4).isSome = true := by { rw [row_of_block hge (by simp)]; rfl }; have hfe : rowFree w3 ⟨W1.heap.size, 0, none⟩ 4 := fun j _ => (cells_known hge).2.1 _))
    all_goals
      go_wp2_with fail
      go_meet
      first
        | exact ⟨rfl, hbe⟩
        | exact ⟨rfl, (((Below.refl W1.heap.size W1).alloc (Nat.le_refl _) (.cells EntryV.zero.arr 188)).drew.trans (hb3.mono (by simp))).trans ((setCells_upd W1.heap.size _ 0 w3).below (by have := hb3.size; simp at this; omega) (fun k e => Nat.le_of_eq e.symm))⟩
  case rest =>
    obtain ⟨rfl, hbc⟩ := hcut
    clear c1 c2 c3 c4 hid hidB
    have hbwc : Below w.heap.size w wc := hb1.trans (hbc.mono hb1.size)
    obtain ⟨bz, hbz⟩ : ∃ bz, bz = (M.txs z).isSome := ⟨_, rfl⟩
    rw [← hbz]
    cases bz with
    | true =>
      have hfin : Hid (mayS M t = false) := by
        unfold Hid mayS
        rw [← HZ.out]
        cases hh : M.txs z with
        | none => rw [hh] at hbz; cases hbz
        | some x => rfl
      clear hbz
      go_wp2_with fail
      go_ret
      exact ⟨by rw [hfin.out]; rfl, hbwc⟩
    | false =>
      have hnone : Hid (M.txs (idS t) = none) := by
        unfold Hid
        rw [← HZ.out]
        cases hh : M.txs z with
        | none => rfl
        | some x => rw [hh] at hbz; cases hbz
      have c0 : wc.cell? ⟨w.heap.size, 0, none⟩ = some (.slice ia t.ins.length ic) := by
        have hgc : wc.heap[w.heap.size]? = some (.cells v.arr 72 (0, 0)) := (hbc.block _ hlt1).trans HG1.out
        rw [(cells_known hgc).1]; exact HV0.out
      clear hbz
      go_wp2_with fail
      go_loopw [27] (fun v wr => ∃ k : Nat, k ≤ t.ins.length ∧ v = .int .i64 k ∧ Hid (∀ j (h : j < t.ins.length), j < k → mayIn M t.ins[j] = true) ∧ Below W1.heap.size W1 wr) (fun v _ => t.ins.length - (intOf v).toNat)
      case atStart => exact ⟨0, Nat.zero_le _, rfl, fun j _ h => absurd h (by omega), hbc⟩
      case round =>
        clear hbc hbwc c0
        obtain ⟨k, hk, rfl, hok, hbr⟩ := hrel
        by_cases hlt : k < t.ins.length
        · obtain ⟨b, off, e0, hb, hrk⟩ := (HIN.out.below hbr).at hlt
          subst e0
          obtain ⟨x, hx⟩ : ∃ x, x = t.ins[k] := ⟨_, rfl⟩
          rw [← hx] at hrk
          have hq : i64 x.prev.n := by rw [hx]; exact prev_i64 hc hlt
          have HX := Lib.hid hx
          have k0 : (0 : Int) ≤ (k : Int) := by omega
          have k1 : (k : Int) < (t.ins.length : Int) := by omega
          have dlt : decide ((k : Int) < (t.ins.length : Int)) = true := decide_eq_true k1
          obtain ⟨Wx, hWx⟩ : ∃ Wx, Wx = wr.alloc (.cells x.arr 68) := ⟨_, rfl⟩
          have hbx : Below W1.heap.size W1 Wx := hWx ▸ hbr.alloc hbr.size _
          have hIx := H1.out.keep hbx
          have hgx : Wx.heap[wr.heap.size]? = some (.cells x.arr 68 (0, 0)) := hWx ▸ heap_alloc_new wr _
          have hxl : wr.heap.size < Wx.heap.size := by rw [hWx]; simp
          have hpx : p < Wx.heap.size := hIx.lt (.inl rfl)
          have d1 : Wx.cell? ⟨p, 2, none⟩ = some (.map (some r.ms)) := hIx.cell2
          have d2 : row? Wx ⟨wr.heap.size, 0, none⟩ 33 = some x.prev.arr := by rw [row_part hgx 0 33 (by simp)]; simp
          have d3 : Wx.drew.cell? ⟨p, 2, none⟩ = some (.map (some r.ms)) := hIx.cell2
          have d4 : row? Wx.drew ⟨wr.heap.size, 0, none⟩ 33 = some x.prev.arr := d2
          have l1 := (hIx.keep (Below.refl Wx.heap.size Wx).drew).lookSp x.prev hq
          have l2 := (hIx.keep ((Below.refl Wx.heap.size Wx).alloc (Nat.le_refl _) (.cells Hash.zero.arr 38)).drew).lookSp x.prev hq
          obtain ⟨y, hy⟩ : ∃ y, y = (M.sp x.prev).getD Hash.zero := ⟨_, rfl⟩
          obtain ⟨bs, hbs⟩ : ∃ bs, bs = (M.sp x.prev).isSome := ⟨_, rfl⟩
          rw [← hy, ← hbs] at l1 l2
          have HBS := Lib.hid hbs
          have HIX := Lib.hid hIx
          have HGX := Lib.hid hgx
          clear hx hIx hgx hy hbs
          go_upto_region 7 with fail
          rw [← hWx]
          clear hWx
          go_cut [10] (fun v10 wx => v10 = .bool bs ∧ Below Wx.heap.size Wx wx)
          case first =>
            go_region_law (fail)
            all_goals
              go_wp2_with fail
              go_meet
              exact ⟨rfl, ((Below.refl Wx.heap.size Wx).alloc (Nat.le_refl _) _).drew⟩
          case rest =>
            obtain ⟨rfl, hbd⟩ := hcut
            clear d1 d2 d3 d4 l1 l2 hbr hrk hb
            have hbe := hbx.trans (hbd.mono hbx.size)
            cases bs with
            | true =>
              have hfin : Hid (mayS M t = false) := by
                unfold Hid mayS
                rw [show t.ins.all (mayIn M) = false from by
                  rw [List.all_eq_false]
                  refine ⟨x, by rw [HX.out]; exact List.getElem_mem hlt, ?_⟩
                  unfold mayIn
                  have := HBS.out
                  cases hh : M.sp x.prev with
                  | none => rw [hh] at this; cases this
                  | some y => simp]
                simp
              have HBE := Lib.hid hbe
              clear hbe hbd
              go_wp2_with fail
              go_ret
              exact ⟨by rw [hfin.out]; rfl, hb1.trans (HBE.out.mono hb1.size)⟩
            | false =>
              obtain ⟨Wy, hWy⟩ : ∃ Wy, Wy = wc := ⟨_, rfl⟩
              rw [← hWy] at hbd hbe
              have hIy := HIX.out.keep hbd
              have hgy : Wy.heap[wr.heap.size]? = some (.cells x.arr 68 (0, 0)) := (hbd.block _ hxl).trans HGX.out
              have hyl : wr.heap.size < Wy.heap.size := Nat.lt_of_lt_of_le hxl hbd.size
              have hpy : p < Wy.heap.size := hIy.lt (.inl rfl)
              obtain ⟨E, hE⟩ : ∃ E, E = entOf r.T M x.prev.tx := ⟨_, rfl⟩
              obtain ⟨be, hbe2⟩ : ∃ be, be = (M.txs x.prev.tx).isSome := ⟨_, rfl⟩
              have d1 : Wy.cell? ⟨p, 1, none⟩ = some (.map (some r.mt)) := hIy.cell1
              have d2 : row? Wy ⟨wr.heap.size, 0, none⟩ 32 = some x.prev.tx.arr := by rw [row_part hgy 0 32 (by simp)]; simp only [Nat.zero_add]; rw [In.ext_tx]
              have d3 : Wy.drew.cell? ⟨p, 1, none⟩ = some (.map (some r.mt)) := d1
              have d4 : row? Wy.drew ⟨wr.heap.size, 0, none⟩ 32 = some x.prev.tx.arr := d2
              have l1 := ((hIy.keep (Below.refl Wy.heap.size Wy).drew).look x.prev.tx).1
              have l2 := ((hIy.keep ((Below.refl Wy.heap.size Wy).alloc (Nat.le_refl _) (.cells EntryV.zero.arr 188)).drew).look x.prev.tx).1
              rw [← hE, ← hbe2] at l1 l2
              have HE := Lib.hid (And.intro hE hbe2)
              have HBE := Lib.hid hbe
              have HIY := Lib.hid hIy
              have HGY := Lib.hid hgy
              clear hE hbe2 hIy hgy hbe hbd
              go_upto_region 10 with fail
              rw [← hWy]
              clear hWy
              go_cut [11, 12] (fun v11 v12 wx => v12 = .bool be ∧ v11 = .pointer (some ⟨Wy.heap.size, 0, none⟩) ∧ wx.cell? ⟨Wy.heap.size, 1, none⟩ = some (.slice E.t.outs.a E.t.outs.n E.t.outs.c) ∧ Below Wy.heap.size Wy wx)
              case first =>
                go_region_law (fail)
                all_goals
                  go_wp2_with fail
                  go_meet
                  exact ⟨rfl, rfl, (World.cell?_of_block (w := Wy.alloc (.cells E.arr 188)) rfl).trans (by rw [(cells_known (heap_alloc_new Wy (.cells E.arr 188))).1]; exact EntryV.arr_1 E), ((Below.refl Wy.heap.size Wy).alloc (Nat.le_refl _) _).drew⟩
              case rest =>
                obtain ⟨rfl, rfl, hce, hbf⟩ := hcut
                have hgz : wc.heap[wr.heap.size]? = some (.cells x.arr 68 (0, 0)) := (hbf.block _ hyl).trans HGY.out
                have c32 : wc.cell? ⟨wr.heap.size, 32, none⟩ = some (.int .i64 x.prev.n) := by rw [(cells_known hgz).1]; exact In.arr_32 x
                have hbz := HBE.out.trans (hbf.mono HBE.out.size)
                have HBZ := Lib.hid hbz
                clear d1 d2 d3 d4 l1 l2 hgz hbf hbz
                have hgo : mayIn M x = true → Hid (∀ j (h : j < t.ins.length), j < k + 1 → mayIn M t.ins[j] = true) := by
                  intro h j hj hjk
                  by_cases e : j = k
                  · subst e; rw [← HX.out]; exact h
                  · exact hok.out j hj (by omega)
                have hsp : Hid ((M.sp x.prev).isNone = true) := by
                  unfold Hid
                  have := HBS.out
                  cases hh : M.sp x.prev with
                  | none => rfl
                  | some y => rw [hh] at this; cases this
                cases hm : M.txs x.prev.tx with
                | none =>
                  have hbe0 : be = false := by rw [HE.out.2, hm]; rfl
                  subst hbe0
                  have hg := hgo (by unfold mayIn; rw [hsp.out, hm]; rfl)
                  clear hm hgo
                  go_wp2_with fail
                  exact ⟨⟨k + 1, by omega, by go_num, hg, HBZ.out⟩, by simp [intOf]; omega⟩
                | some u =>
                  have hbe0 : be = true := by rw [HE.out.2, hm]; rfl
                  subst hbe0
                  have hEn : E.t.outs.n = u.1.outs.length := by rw [HE.out.1, entOf_some hm]; exact (HIY.out.ent _ _ hm).1.2.1.1
                  rw [hEn] at hce
                  by_cases hge : (u.1.outs.length : Int) ≤ x.prev.n
                  · have hfin : Hid (mayS M t = false) := by
                      unfold Hid mayS
                      rw [show t.ins.all (mayIn M) = false from by
                        rw [List.all_eq_false]
                        refine ⟨x, by rw [HX.out]; exact List.getElem_mem hlt, ?_⟩
                        unfold mayIn
                        rw [hm]
                        simp
                        intro _
                        exact hge]
                      simp
                    have dge : decide ((u.1.outs.length : Int) ≤ x.prev.n) = true := decide_eq_true hge
                    clear hm hgo hEn
                    go_wp2_with fail
                    go_ret
                    exact ⟨by rw [hfin.out]; rfl, hb1.trans (HBZ.out.mono hb1.size)⟩
                  · have hg := hgo (by unfold mayIn; rw [hsp.out, hm]; simp; omega)
                    have dge : decide ((u.1.outs.length : Int) ≤ x.prev.n) = false := decide_eq_false hge
                    clear hm hgo hEn
                    go_wp2_with fail
                    exact ⟨⟨k + 1, by omega, by go_num, hg, HBZ.out⟩, by simp [intOf]; omega⟩
        · have dlt : decide ((k : Int) < (t.ins.length : Int)) = false := decide_eq_false (by omega)
          have hfin : Hid (mayS M t = true) := by
            unfold Hid mayS
            rw [hnone.out]
            simp only [Option.isNone_none, Bool.true_and, List.all_eq_true]
            intro x hx
            obtain ⟨j, hj, rfl⟩ := List.mem_iff_getElem.1 hx
            exact hok.out j hj (by omega)
          have HBR := Lib.hid hbr
          clear hbr
          go_wp2_with fail
          go_ret
          exact ⟨by rw [hfin.out]; rfl, hb1.trans (HBR.out.mono hb1.size)⟩
end Go.Proofs.YtlkojkjeklblkaaGreat
