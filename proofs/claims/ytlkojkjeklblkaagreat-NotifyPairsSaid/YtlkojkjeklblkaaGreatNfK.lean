/- Package notify: all registrations brought up to date; a hub made, its index; one dropped. Package notify: all registrations brought up to date; what stands. Package notify: a block comes, and goes; one is dropped. Package notify: a registration. Package notify: what stands. Package notify: a hub in a world of owners: each act. -/
import Derived.Test.YtlkojkjeklblkaaGreatNfE
set_option linter.unusedSimpArgs false
set_option linter.unusedVariables false
namespace Go.Proofs.YtlkojkjeklblkaaGreat
open Go.RowKit Go.MapKept
theorem index_none (w : World) : Calls Tryz.prog 20 #[.pointer none] w fun e w' => e = .returned (.pointer none) ∧ w = w' := by
  go_enter Tryz.func20, Tryz.ntmps20
  go_wp2_with fail
  go_ret
  exact ⟨rfl, rfl⟩
theorem drop_none (i : Int) (w : World) : Calls Tryz.prog 29 #[.pointer none, .int .i64 i] w fun e w' => e = .returned (.int .i64 5) ∧ w = w' := by
  go_enter Tryz.func29, Tryz.ntmps29
  go_wp2_with fail
  go_ret
  exact ⟨rfl, rfl⟩
section
variable {w w' : World} {Z : Nat → Prop} {q : Nat} {r : HubR} {M : HubM}
theorem index_nf (h : HubAt w Z q r M) : Calls Tryz.prog 20 #[.pointer (some ⟨q, 0, none⟩)] w fun e w' => e = .returned (.pointer (some ⟨r.px, 0, none⟩)) ∧ w = w' := by
  have c4 := h.cells.2.2.2.2
  clear h
  go_enter Tryz.func20, Tryz.ntmps20
  go_wp2_with fail
  go_ret
  exact ⟨rfl, rfl⟩
set_option maxRecDepth 100000 in
theorem new_bad (n : Int) (hn : n < 1 ∨ 1000 < n) (w : World) : Calls Tryz.prog 15 #[.int .i64 n] w fun e w' => e = .returned (.tuple #[.pointer none, .int .i64 1]) ∧ w = w' := by
  by_cases h1 : n < 1
  · have d1 : decide (n < 1) = true := decide_eq_true h1
    go_enter Tryz.func15, Tryz.ntmps15
    go_wp2_with fail
    go_ret2
    exact ⟨rfl, rfl⟩
  · have d1 : decide (n < 1) = false := decide_eq_false h1
    have d2 : decide (1000 < n) = true := decide_eq_true (by omega)
    go_enter Tryz.func15, Tryz.ntmps15
    go_wp2_with fail
    go_ret2
    exact ⟨rfl, rfl⟩
def HubM.new (n : Int) : HubM := ⟨n, 0, [], []⟩
theorem ok_new (n : Int) : (HubM.new n).Ok := ⟨List.Pairwise.nil, fun x h => absurd h (by simp [HubM.new]), Int.le_refl _, fun x h => absurd h (by simp [HubM.new]), fun x h => absurd h (by simp [HubM.new]), goodL_nil⟩
set_option maxRecDepth 100000 in
theorem new_nf (n : Int) (hn : 1 ≤ n ∧ n ≤ 1000) (w : World) : Calls Tryz.prog 15 #[.int .i64 n] w fun e w' => ∃ q r, e = .returned (.tuple #[.pointer (some ⟨q, 0, none⟩), .int .i64 0]) ∧ HubAt w' (fun k => w.heap.size ≤ k) q r (HubM.new n) ∧ Below w.heap.size w w' := by
  have d1 : decide (n < 1) = false := decide_eq_false (by omega)
  have d2 : decide (1000 < n) = false := decide_eq_false (by omega)
  have hmm := @run_makeMap Tryz.prog
  obtain ⟨W, hW⟩ : ∃ W, W = (w.alloc (.map #[] 0)).alloc (.map #[] 0) := ⟨_, rfl⟩
  have hbW : Below w.heap.size w W := hW ▸ ((Below.refl _ _).alloc (Nat.le_refl _) _).alloc (by simp) _
  have hm1 : mapAt W intV w.heap.size 0 (fun _ => none) := hW ▸ (mapAt_made w intV).of_block (heap_alloc_old (w.alloc (.map #[] 0)) _ (by simp))
  have hm2 : mapAt W intV (w.heap.size + 1) 0 (fun _ => none) := by
    have := mapAt_made (w.alloc (.map #[] 0)) intV
    rw [show (w.alloc (.map #[] 0)).heap.size = w.heap.size + 1 by simp, ← hW] at this
    exact this
  have hz : W.heap.size = w.heap.size + 2 := by rw [hW]; simp
  have hnew := new_ix W
  have HM := Lib.hid (And.intro hm1 hm2)
  have HZ := Lib.hid hz
  have HW := Lib.hid hW
  clear hz hm1 hm2 hW
  go_enter Tryz.func15, Tryz.ntmps15
  go_wp2_with (rw [← HW.out]; go_at_call 49; refine hnew.mono ?_; rintro e W2 ⟨p, ri, rfl, hI, hb2⟩)
  go_ret2
  have hz := HZ.out
  obtain ⟨V, hV⟩ : ∃ V, V = W2.alloc (.cells (HubV.mk n 0 (some w.heap.size) (some (w.heap.size + 1)) (some ⟨p, 0, none⟩)).arr 112) := ⟨_, rfl⟩
  have hbV : Below W2.heap.size W2 V := hV ▸ (Below.refl _ _).alloc (Nat.le_refl _) _
  have hbWV : Below W.heap.size W V := hb2.trans (hbV.mono hb2.size)
  have hb2s := hb2.size
  refine ⟨W2.heap.size, ⟨w.heap.size, w.heap.size + 1, 0, p, ri⟩, rfl, ⟨heap_alloc_new W2 _, ?_, ?_, ?_, ⟨?_, ?_, ?_⟩, ?_, ok_new n⟩, ?_⟩
  · exact HM.out.1.of_block ((heap_alloc_old W2 _ (by omega)).trans (hb2.block _ (by omega)))
  · exact HM.out.2.of_block ((heap_alloc_old W2 _ (by omega)).trans (hb2.block _ (by omega)))
  · exact ((hI.zoned (fun k hk hz2 => ⟨by have e : W.heap.size ≤ k := hz2; show w.heap.size ≤ k; omega, by omega, by have e : W.heap.size ≤ k := hz2; show k ≠ w.heap.size; omega, by have e : W.heap.size ≤ k := hz2; show k ≠ w.heap.size + 1; omega⟩)).keep ((Below.refl _ _).alloc (Nat.le_refl _) _))
  · show w.heap.size ≤ W2.heap.size; omega
  · exact Nat.le_refl _
  · show w.heap.size ≤ w.heap.size + 1; omega
  · show w.heap.size ≠ w.heap.size + 1; omega
  · exact hbW.trans ((hb2.mono hbW.size).trans ((Below.refl _ _).alloc (by omega) _))
end
end Go.Proofs.YtlkojkjeklblkaaGreat
namespace Go.Proofs.YtlkojkjeklblkaaGreat
open Go.RowKit Go.MapKept
theorem outR_len (a b : Option Note) : (outR a b).length ≤ 2 := by
  unfold outR
  split
  · simp
  · cases a <;> cases b <;> simp
section
variable {w w' : World} {Z : Nat → Prop} {q : Nat} {r : HubR} {M : HubM}
theorem told_len : ∀ k, (M.toldUpto k).length ≤ 2 * k := by
  intro k
  induction k with
  | zero => simp [HubM.toldUpto]
  | succ k ih =>
    by_cases h : k < M.rows.length
    · rw [toldUpto_succ h, List.length_append]
      have := outR_len M.rows[k].st (M.due M.rows[k])
      omega
    · have e : M.toldUpto (k + 1) = M.toldUpto k := by unfold HubM.toldUpto; rw [List.take_of_length_le (by omega), List.take_of_length_le (by omega)]
      rw [e]; omega
theorem ids_i64 (h : M.Ok) (hl : M.last ≤ 1000000) : ∀ i ∈ M.ids, i64 i := by
  intro i hi
  obtain ⟨x, hx, rfl⟩ := List.mem_map.1 hi
  have := h.low x hx
  unfold i64
  omega
def AllPost (w : World) (Z : Nat → Prop) (q : Nat) (r : HubR) (M : HubM) (e : Ending) (w' : World) : Prop :=
  ∃ (s : Sl) (n' : Nat), e = .returned (.slice s.a s.n s.c) ∧ s.n = M.told.length ∧ ownN w' w.heap.size s M.told ∧ HubAt w' Z q { r with ns := n' } M.settled ∧ Upd w w' (fun k => k = r.ms)
set_option maxRecDepth 100000 in
set_option maxHeartbeats 4000000 in
theorem all_nf (h : HubAt w Z q r M) (hL : M.L.length ≤ 1000000) (hR : M.rows.length ≤ 100000) (hl : M.last ≤ 1000000) :
    Calls Tryz.prog 60 #[.pointer (some ⟨q, 0, none⟩)] w (AllPost w Z q r M) := by
  have c2 := h.cells.2.2.1
  have hids := ids_i64 h.ok hl
  have hkey := keysR_lib (some r.mr) w
  have hsort := sortedR_lib h.regs (by omega) M.ids h.ok.sorted hids (fun i hi => by unfold HubM.regW; rw [Option.isSome_map]; exact regF_some)
  have hil : M.ids.length = M.rows.length := by simp [HubM.ids]
  have hzms : r.ms < w.heap.size := h.st.lt
  have HS := Lib.hid hsort
  have HIL := Lib.hid hil
  clear hsort hil
  have H := Lib.hid (h.zoned (Y := fun k => Z k ∧ k < w.heap.size) (fun k hk hz => ⟨hz, hk⟩))
  have HID := Lib.hid hids
  clear h hids
  go_enter Tryz.func60, Tryz.ntmps60
  go_wp2_with (go_at_call 102; refine hkey.mono ?_; rintro e w1 ⟨rfl, rfl⟩)
  refine HS.out.mono ?_
  rintro e W1 ⟨⟨sa, sn, sc⟩, rfl, hsn, hN, hcell, hb1⟩
  simp only at hsn hcell
  subst hsn
  clear hN
  go_wp2_with fail
  have HC := Lib.hid hcell
  have HB1 := Lib.hid hb1
  have hw1 := hb1.size
  have H1 := Lib.hid (H.out.keep hb1)
  clear hkey HS hcell hb1 c2
  go_loopw [2, 4, 12] (fun v2 _ v12 wr => ∃ (k n' : Nat) (sl : Sl), k ≤ M.ids.length ∧ v12 = .int .i64 k ∧ v2 = .slice sl.a sl.n sl.c ∧ sl.n = (M.toldUpto k).length ∧ ownN wr W1.heap.size sl (M.toldUpto k) ∧ HubAt wr (fun k => Z k ∧ k < w.heap.size) q { r with ns := n' } (M.upto k) ∧ Upd W1 wr (fun j => j = r.ms ∨ W1.heap.size ≤ j)) (fun _ _ v _ => M.ids.length - (intOf v).toNat)
  case atStart => exact ⟨0, r.ns, ⟨none, 0, 0⟩, Nat.zero_le _, rfl, rfl, rfl, World.ownsRow_nil _ _ _ _, by rw [upto_zero]; exact H1.out, Upd.refl _ _⟩
  case round =>
    obtain ⟨k, n', ⟨la, ln, lc⟩, hk, rfl, rfl, hln, hown, hub, hu⟩ := hrel
    simp only at hln
    subst hln
    by_cases hlt : k < M.ids.length
    · have dlt : decide ((k : Int) < (M.ids.length : Int)) = true := decide_eq_true (by omega)
      obtain ⟨g, rfl, hg1, hg2, hgc⟩ := HC.out k hlt
      have hkr : k < M.rows.length := by rw [← HIL.out]; exact hlt
      have hgw : wr.cell? ⟨g, k, none⟩ = some (.int .i64 M.ids[k]) := (hu.cell hg2 (by rintro (e | e) <;> omega) k).trans hgc
      have hku : k < (M.upto k).rows.length := by rw [upto_len]; exact hkr
      have hxe := upto_get hkr
      have hide : M.ids[k] = ((M.upto k).rows[k]'hku).id := by rw [hxe]; simp [HubM.ids]
      have htl := tells_nf hub hL ((M.upto k).rows[k]'hku) (List.getElem_mem _) (by rw [← hide]; exact HID.out _ (List.getElem_mem _))
      rw [← hide] at htl
      have j0 : (0 : Int) ≤ (k : Int) := by omega
      have j1 : (k : Int) < (M.ids.length : Int) := by omega
      have HO := Lib.hid hown
      have HU := Lib.hid hu
      have HXE := Lib.hid hxe
      have HIDE := Lib.hid hide
      clear hown hub hu hxe hide hgc
      go_wp2_with fail
      refine htl.mono ?_
      rintro e w2 ⟨⟨ta, tn, tc⟩, n2, rfl, htn, hto, hhub2, hu2⟩
      have hxe := HXE.out
      simp only [hxe] at htn hto hhub2
      rw [upto_succ H.out.ok.sorted hkr] at hhub2
      have hout : outR M.rows[k].st ((M.upto k).due M.rows[k]) = outR M.rows[k].st (M.due M.rows[k]) := rfl
      rw [hout] at htn hto
      have hms1 : r.ms < W1.heap.size := by omega
      have ho2 : w2.ownsRow W1.heap.size 63 36 (.slice la (M.toldUpto k).length lc) (M.toldUpto k).length (vsOf Note.arr (M.toldUpto k)) := ownsRow_upd HO.out hu2 (fun j hj e => by
        have := (HO.out.lt j hj).1
        have e2 : j = r.ms := e
        omega)
      have htl := told_len (M := M) k
      have hol := outR_len M.rows[k].st (M.due M.rows[k])
      have hw2 : W1.heap.size ≤ w2.heap.size := Nat.le_trans HU.out.size hu2.size
      obtain ⟨⟨ua, un, uc⟩, w3, hr3, hn3, ho3, hu3⟩ := own_notes2 ho2 hto hw2 (by omega)
      have hu3' : Upd w2 w3 (fun j => W1.heap.size ≤ j) := hu3.mono (fun j _ e => (ho2.lt j e).1)
      have hub3 := hhub2.kept hu3' (fun j hj _ e => by have := hj.2; have e2 : W1.heap.size ≤ j := e; omega)
      have hu13 : Upd W1 w3 (fun j => j = r.ms ∨ W1.heap.size ≤ j) := (HU.out.trans hu2 (fun j _ e => .inl e)).trans hu3' (fun j _ e => .inr e)
      rw [← toldUpto_succ hkr] at ho3
      have hlen : (M.toldUpto k).length + (outR M.rows[k].st (M.due M.rows[k])).length = (M.toldUpto (k + 1)).length := by rw [toldUpto_succ hkr, List.length_append]
      rw [hlen] at ho3
      simp only at hn3
      rw [hlen] at hn3
      have HR3 := Lib.hid (hr3 47)
      have F3 := Lib.hid (And.intro ho3 (And.intro hub3 hu13))
      have HN3 := Lib.hid hn3
      clear hxe htn hto hhub2 hout ho2 htl hol hr3 hn3 ho3 hu3 hu3' hub3 hu13 hlen hu2 hw2
      go_wp2_with (at_builtin; refine wpList_runN rfl _ _ _ _ rfl _ _ rfl rfl HR3.out ?_)
      go_roundw
      case rel => exact ⟨k + 1, n2, ⟨ua, un, uc⟩, by omega, by go_num, rfl, HN3.out, F3.out.1, F3.out.2.1, F3.out.2.2⟩
      case measure => simp [intOf]; omega
    · have hke : k = M.ids.length := by omega
      subst hke
      have dlt : decide ((M.ids.length : Int) < (M.ids.length : Int)) = false := decide_eq_false (by omega)
      rw [HIL.out] at hown hub
      have hO := hown
      rw [toldUpto_all] at hO
      rw [upto_all] at hub
      have HLL : Hid ((M.toldUpto M.ids.length).length = M.told.length) := by unfold Hid; rw [HIL.out, toldUpto_all]
      have F := Lib.hid (And.intro hO (And.intro hub hu))
      clear hown hub hu hO
      go_wp2_with fail
      go_ret
      refine ⟨⟨la, (M.toldUpto M.ids.length).length, lc⟩, n', rfl, HLL.out, ?_, F.out.2.1.zoned (fun j _ hj => hj.1), ?_⟩
      · unfold ownN
        have := F.out.1
        unfold ownN at this
        rw [show (⟨la, (M.toldUpto M.ids.length).length, lc⟩ : Sl).v = (⟨la, M.told.length, lc⟩ : Sl).v by rw [HLL.out]]
        exact World.ownsRow.mono this hw1
      · exact ⟨F.out.2.2.os.trans HB1.out.os, F.out.2.2.tape.trans HB1.out.tape, F.out.2.2.output.trans HB1.out.output, Nat.le_trans HB1.out.size F.out.2.2.size, fun j hj hs => (F.out.2.2.block j (Nat.lt_of_lt_of_le hj hw1) (fun e => e.elim (fun e => hs e) (fun e => by omega))).trans (HB1.out.block j hj)⟩
end
end Go.Proofs.YtlkojkjeklblkaaGreat
namespace Go.Proofs.YtlkojkjeklblkaaGreat
open Go.RowKit Go.MapKept
def HubM.onL (M : HubM) (L : List (List Tx)) : HubM := { M with L := L }
def HubM.conM (M : HubM) (l : List Tx) : HubM := if conE M.L l = 0 then (M.onL (conL M.L l)).settled else M
def HubM.conO (M : HubM) (l : List Tx) : List Note := if conE M.L l = 0 then (M.onL (conL M.L l)).told else []
def HubM.disM (M : HubM) : HubM := if M.L = [] then M else (M.onL M.L.dropLast).settled
def HubM.disO (M : HubM) : List Note := if M.L = [] then [] else (M.onL M.L.dropLast).told
theorem HubM.Ok.onL {M : HubM} (h : M.Ok) {L : List (List Tx)} (hL : goodL L) : (M.onL L).Ok := ⟨h.sorted, h.low, h.last, h.mine, h.may, hL⟩
section
variable {w w' : World} {Z Y : Nat → Prop} {q : Nat} {r : HubR} {M : HubM}
/-- The index has changed, and nothing else. -/
theorem HubAt.newIx (h : HubAt w Z q r M) {ir : IdxR} {L : List (List Tx)} (hg : goodL L) (hi : IdxAt w' (fun k => (Z k ∧ k ≠ q ∧ k ≠ r.mr ∧ k ≠ r.ms) ∨ w.heap.size ≤ k) r.px ir (mapsOf L) (L.map (fun b => b.map idS))) (hu : Upd w w' (r.ir.foot r.px)) : HubAt w' (fun k => Z k ∨ w.heap.size ≤ k) q { r with ir := ir } (M.onL L) := by
  have hf : ∀ k, (k = q ∨ k = r.mr ∨ k = r.ms) → ¬ r.ir.foot r.px k := fun k hk hf => by
    have := h.ix.zone k hf
    rcases hk with e | e | e
    · exact this.2.1 e
    · exact this.2.2.1 e
    · exact this.2.2.2 e
  refine ⟨(hu.block _ h.lt (hf _ (.inl rfl))).trans h.hd, h.regs.of_block (hu.block _ h.regs.lt (hf _ (.inr (.inl rfl)))), h.st.of_block (hu.block _ h.st.lt (hf _ (.inr (.inr rfl)))), ?_, ⟨.inl h.zone.1, .inl h.zone.2.1, .inl h.zone.2.2⟩, h.two, h.ok.onL hg⟩
  have h1 := h.lt
  have h2 := h.regs.lt
  have h3 := h.st.lt
  exact hi.zoned (fun k hk hz => hz.elim (fun e => ⟨.inl e.1, e.2⟩) (fun e => ⟨.inr e, by omega, by show k ≠ r.mr; omega, by show k ≠ r.ms; omega⟩))
def ConPost (w : World) (Z : Nat → Prop) (q : Nat) (M' : HubM) (O : List Note) (n : Int) (e : Ending) (w' : World) : Prop :=
  ∃ (s : Sl) (r' : HubR) (B : Nat), e = .returned (.tuple #[.slice s.a s.n s.c, .int .i64 n]) ∧ w.heap.size ≤ B ∧ B ≤ w'.heap.size ∧ s.n = O.length ∧ ownN w' B s O ∧ HubAt w' (fun k => Z k ∨ (w.heap.size ≤ k ∧ k < B)) q r' M' ∧ Upd w w' Z
set_option maxRecDepth 100000 in
set_option maxHeartbeats 2000000 in
theorem connect_nf (h : HubAt w Z q r M) (s : Sl) (vs : List TxV) (l : List Tx) (hs : txsIn w Y s vs l) (hY : ∀ k, Y k → k < w.heap.size → ¬ Z k) (hL : M.L.length < 1000000) (hl : l.length ≤ 1000000) (hR : M.rows.length ≤ 100000) (hla : M.last ≤ 1000000) :
    Calls Tryz.prog 24 #[.pointer (some ⟨q, 0, none⟩), .slice s.a s.n s.c] w (ConPost w Z q (M.conM l) (M.conO l) (conE M.L l)) := by
  have hix := index_nf h
  have hcon := con_ix _ Y r.px r.ir M.L s vs l w h.ix hs (fun k hk hlt hf => hY k hk hlt (h.ix.zone k hf).1) (by omega) hl
  have HIX := Lib.hid hix
  have HCON := Lib.hid hcon
  have H := Lib.hid h
  obtain ⟨E, hE⟩ : ∃ E, E = conE M.L l := ⟨_, rfl⟩
  rw [← hE] at hcon
  have HCON := Lib.hid hcon
  have HE := Lib.hid hE
  rw [← hE]
  clear hix hcon h hE hs
  go_enter Tryz.func24, Tryz.ntmps24
  go_wp2_with fail
  refine HIX.out.mono ?_
  rintro e w1 ⟨rfl, rfl⟩
  go_wp2_with fail
  refine HCON.out.mono ?_
  rintro e w1 ⟨r1, rfl, hI, hu⟩
  have h1 := H.out.newIx (H.out.ok.good.con l) hI hu
  have hu1 : Upd w w1 Z := hu.mono (fun k _ hf => (H.out.ix.zone k hf).1)
  by_cases h0 : E = 0
  · subst h0
    have h1 := h1.zoned (Y := fun k => Z k ∨ (w.heap.size ≤ k ∧ k < w1.heap.size)) (fun k hk hz => hz.imp id (fun e => ⟨e, hk⟩))
    have hlc : (conL M.L l).length ≤ 1000000 := by
      unfold conL
      split
      · simp only [List.length_append, List.length_cons, List.length_nil]; omega
      · omega
    have hall := all_nf h1 hlc hR hla
    have hmr : r.ms < w.heap.size := H.out.st.lt
    have HALL := Lib.hid hall
    have HU1 := Lib.hid hu1
    clear hall h1 hI hu hu1
    go_wp2_with fail
    refine HALL.out.mono ?_
    rintro e w2 ⟨⟨ta, tn, tc⟩, n2, rfl, htn, hto, hhub, hu2⟩
    have F := Lib.hid (And.intro htn (And.intro hto (And.intro hhub hu2)))
    clear htn hto hhub hu2
    go_wp2_with fail
    go_ret2
    refine ⟨⟨ta, tn, tc⟩, { r with ir := r1, ns := n2 }, w1.heap.size, rfl, HU1.out.size, F.out.2.2.2.size, ?_, ?_, ?_, HU1.out.trans F.out.2.2.2 (fun k _ e => by have e2 : k = r.ms := e; rw [e2]; exact H.out.zone.2.2)⟩
    · unfold HubM.conO; rw [if_pos HE.out.symm]; exact F.out.1
    · unfold HubM.conO; rw [if_pos HE.out.symm]; exact F.out.2.1
    · unfold HubM.conM; rw [if_pos HE.out.symm]
      exact F.out.2.2.1
  · have d0 : (E != 0) = true := by simp [h0]
    have d1 : decide (E = 0) = false := decide_eq_false h0
    have F := Lib.hid (And.intro h1 hu1)
    have hcl : Hid (conL M.L l = M.L) := by unfold Hid conL; rw [if_neg (by rw [← HE.out]; exact h0)]
    have hne : ¬ conE M.L l = 0 := by rw [← HE.out]; exact h0
    have HNE := Lib.hid hne
    clear h1 hI hu hu1 h0 hne
    go_wp2_with fail
    go_ret2
    refine ⟨⟨none, 0, 0⟩, { r with ir := r1 }, w1.heap.size, rfl, F.out.2.size, Nat.le_refl _, ?_, ?_, ?_, F.out.2⟩
    · unfold HubM.conO; rw [if_neg HNE.out]; rfl
    · unfold HubM.conO; rw [if_neg HNE.out]; exact World.ownsRow_nil _ _ _ _
    · unfold HubM.conM; rw [if_neg HNE.out]
      have := F.out.1
      rw [hcl.out] at this
      exact this.zoned (fun k hk hz => hz.imp id (fun hz => ⟨hz, hk⟩))
set_option maxRecDepth 100000 in
set_option maxHeartbeats 2000000 in
theorem disconnect_nf (h : HubAt w Z q r M) (hL : M.L.length ≤ 1000000) (hl : ∀ b ∈ M.L, b.length ≤ 1000000) (hR : M.rows.length ≤ 100000) (hla : M.last ≤ 1000000) :
    Calls Tryz.prog 25 #[.pointer (some ⟨q, 0, none⟩)] w (ConPost w Z q M.disM M.disO (if M.L = [] then 5 else 0)) := by
  have hix := index_nf h
  have hdis := dis_ix _ r.px r.ir M.L w h.ok.good h.ix hL hl
  have HIX := Lib.hid hix
  have H := Lib.hid h
  have HDIS := Lib.hid hdis
  clear hix hdis h
  by_cases h0 : M.L = []
  · have HD : Hid (M.disM = M ∧ M.disO = []) := by unfold Hid HubM.disM HubM.disO; rw [if_pos h0, if_pos h0]; exact ⟨rfl, rfl⟩
    have hd0 : Hid (Calls Tryz.prog 61 #[.pointer (some ⟨r.px, 0, none⟩)] w fun e w' => ∃ r', e = .returned (.int .i64 5) ∧ IdxAt w' (fun k => Z k ∧ k ≠ q ∧ k ≠ r.mr ∧ k ≠ r.ms) r.px r' (mapsOf M.L) (M.L.map (fun b => b.map idS)) ∧ Upd w w' (r.ir.foot r.px)) := by
      have := HDIS.out
      rw [if_pos h0, show M.L.dropLast = M.L by rw [h0]; rfl] at this
      exact this
    rw [if_pos h0]
    clear h0
    go_enter Tryz.func25, Tryz.ntmps25
    go_wp2_with fail
    refine HIX.out.mono ?_
    rintro e w1 ⟨rfl, rfl⟩
    go_wp2_with fail
    refine hd0.out.mono ?_
    rintro e w1 ⟨r1, rfl, hI, hu⟩
    have h1 := H.out.newIx H.out.ok.good (hI.zoned (Y := fun k => (Z k ∧ k ≠ q ∧ k ≠ r.mr ∧ k ≠ r.ms) ∨ w.heap.size ≤ k) (fun k _ hk => .inl hk)) hu
    have F := Lib.hid (And.intro h1 (hu.mono (T := Z) (fun k _ hf => (H.out.ix.zone k hf).1)))
    clear h1 hI hu
    go_wp2_with fail
    go_ret2
    refine ⟨⟨none, 0, 0⟩, { r with ir := r1 }, w1.heap.size, rfl, F.out.2.size, Nat.le_refl _, by rw [HD.out.2]; rfl, by rw [HD.out.2]; exact World.ownsRow_nil _ _ _ _, ?_, F.out.2⟩
    rw [HD.out.1]
    exact F.out.1.zoned (fun k hk hz => hz.imp id (fun hz => ⟨hz, hk⟩))
  · have HD : Hid (M.disM = (M.onL M.L.dropLast).settled ∧ M.disO = (M.onL M.L.dropLast).told) := by unfold Hid HubM.disM HubM.disO; rw [if_neg h0, if_neg h0]; exact ⟨rfl, rfl⟩
    have hd0 : Hid (Calls Tryz.prog 61 #[.pointer (some ⟨r.px, 0, none⟩)] w fun e w' => ∃ r', e = .returned (.int .i64 0) ∧ IdxAt w' (fun k => Z k ∧ k ≠ q ∧ k ≠ r.mr ∧ k ≠ r.ms) r.px r' (mapsOf M.L.dropLast) (M.L.dropLast.map (fun b => b.map idS)) ∧ Upd w w' (r.ir.foot r.px)) := by
      have := HDIS.out
      rw [if_neg h0] at this
      exact this
    have hgd : Hid (goodL M.L.dropLast) := by unfold Hid; rw [List.dropLast_eq_take]; exact H.out.ok.good.take _
    rw [if_neg h0]
    clear h0
    go_enter Tryz.func25, Tryz.ntmps25
    go_wp2_with fail
    refine HIX.out.mono ?_
    rintro e w1 ⟨rfl, rfl⟩
    go_wp2_with fail
    refine hd0.out.mono ?_
    rintro e w1 ⟨r1, rfl, hI, hu⟩
    have h1 := (H.out.newIx hgd.out (hI.zoned (Y := fun k => (Z k ∧ k ≠ q ∧ k ≠ r.mr ∧ k ≠ r.ms) ∨ w.heap.size ≤ k) (fun k _ hk => .inl hk)) hu).zoned (Y := fun k => Z k ∨ (w.heap.size ≤ k ∧ k < w1.heap.size)) (fun k hk hz => hz.imp id (fun e => ⟨e, hk⟩))
    have hall := all_nf h1 (by show M.L.dropLast.length ≤ 1000000; rw [List.length_dropLast]; omega) hR hla
    have HALL := Lib.hid hall
    have HU1 := Lib.hid (hu.mono (T := Z) (fun k _ hf => (H.out.ix.zone k hf).1))
    clear hall h1 hI hu
    go_wp2_with fail
    refine HALL.out.mono ?_
    rintro e w2 ⟨⟨ta, tn, tc⟩, n2, rfl, htn, hto, hhub, hu2⟩
    have F := Lib.hid (And.intro htn (And.intro hto (And.intro hhub hu2)))
    clear htn hto hhub hu2
    go_wp2_with fail
    go_ret2
    refine ⟨⟨ta, tn, tc⟩, { r with ir := r1, ns := n2 }, w1.heap.size, rfl, HU1.out.size, F.out.2.2.2.size, by rw [HD.out.2]; exact F.out.1, by rw [HD.out.2]; exact F.out.2.1, by rw [HD.out.1]; exact F.out.2.2.1, HU1.out.trans F.out.2.2.2 (fun k _ e => by have e2 : k = r.ms := e; rw [e2]; exact H.out.zone.2.2)⟩
theorem regW_drop (i : Int) (hi : i64 i) : upd M.regW ⟨i, hi⟩ none = (M.drop i).regW := by
  funext y
  unfold upd HubM.regW
  rw [drop_regF]
  unfold updF
  by_cases e : y = ⟨i, hi⟩
  · subst e; rw [if_pos rfl, if_pos rfl]; rfl
  · rw [if_neg e, if_neg (fun e2 => e (Subtype.ext e2))]
theorem stW_drop (i : Int) (hi : i64 i) : upd M.stW ⟨i, hi⟩ none = (M.drop i).stW := by
  funext y
  unfold upd HubM.stW
  rw [drop_stF]
  unfold updF
  by_cases e : y = ⟨i, hi⟩
  · subst e; rw [if_pos rfl, if_pos rfl]; rfl
  · rw [if_neg e, if_neg (fun e2 => e (Subtype.ext e2))]
set_option maxRecDepth 100000 in
set_option maxHeartbeats 2000000 in
theorem drop_nf (h : HubAt w Z q r M) (i : Int) (hi : i64 i) :
    Calls Tryz.prog 29 #[.pointer (some ⟨q, 0, none⟩), .int .i64 i] w fun e w' => ∃ r', e = .returned (.int .i64 (if i ∈ M.ids then 0 else 5)) ∧ HubAt w' Z q r' (M.drop i) ∧ Upd w w' Z := by
  have l1 := (h.lookR i hi).2
  have c2 := h.cells.2.2.1
  obtain ⟨W1, hW1⟩ : ∃ W1, W1 = w.alloc (.cells ((M.regF i).getD Reg.zero).arr 57) := ⟨_, rfl⟩
  have hb1 : Below w.heap.size w W1 := hW1 ▸ (Below.refl _ _).alloc (Nat.le_refl _) _
  have h1 := h.keep hb1
  have hlq := h.lt
  have HW1 := Lib.hid hW1
  have H1 := Lib.hid h1
  have B1 := Lib.hid hb1
  have HOK := Lib.hid h.ok
  by_cases hm : i ∈ M.ids
  · have hs : (M.regF i).isSome = true := regF_some.2 hm
    have e1 := h1.cells.2.2.1
    obtain ⟨W2, hd2, hm2, hg2⟩ := run_mapDrop (ty := 0) int_enc Tryz.underlying109 h1.regs ⟨i, hi⟩
    have hu2 : Upd W1 W2 (fun k => k = r.mr) := (Upd.grown hg2).mono (fun k _ e => (Option.some.inj e).symm)
    have hd2 : ∀ ty, (Builtin.delete_ #[109, 3] ty #[.map (some r.mr), .int .i64 i]).run Tryz.prog W1 = .ok (.tuple #[]) W2 := fun ty => hd2
    have hms2 := h1.st.of_block (hu2.block _ h1.st.lt (fun e => h1.two e.symm))
    obtain ⟨W3, n3, hd3, hm3, hu3⟩ := mapDrop_all int_enc Tryz.underlying110 hms2 ⟨i, hi⟩
    have hd3 : ∀ ty, (Builtin.delete_ #[110, 3] ty #[.map (some r.ms), .int .i64 i]).run Tryz.prog W2 = .ok (.tuple #[]) W3 := hd3
    have hqr : q ≠ r.mr := fun e => by
      obtain ⟨es, cl, hb, _⟩ := h1.regs
      rw [← e, h1.hd] at hb
      cases hb
    have hqm : q ≠ r.ms := fun e => by
      obtain ⟨es, cl, hb, _⟩ := h1.st
      rw [← e, h1.hd] at hb
      cases hb
    have hd2' : W2.heap[q]? = some (.cells (HubV.mk M.most M.last (some r.mr) (some r.ms) (some ⟨r.px, 0, none⟩)).arr 112 (0, 0)) := (hu2.block _ h1.lt hqr).trans h1.hd
    have e2 : W2.cell? ⟨q, 3, none⟩ = some (.map (some r.ms)) := ((cells_known hd2').1 3).trans (HubV.arr_3 _)
    have hd3' := (hu3.block _ (cells_known hd2').2.2 hqm).trans hd2'
    have hu13 : Upd W1 W3 (fun k => k = r.mr ∨ k = r.ms) := (hu2.mono (fun k _ e => .inl e)).trans hu3 (fun k _ e => .inr e)
    have hr3 : mapAt W3 intV r.mr (M.drop i).rows.length (M.drop i).regW := by
      have := hm2.of_block (hu3.block _ hm2.lt h1.two)
      rw [regW_drop i hi] at this
      have hsw : (M.regW ⟨i, hi⟩).isSome = true := by unfold HubM.regW; rw [Option.isSome_map]; exact hs
      rw [if_pos hsw] at this
      have hl := drop_len h1.ok hm
      rw [show M.rows.length - 1 = (M.drop i).rows.length by omega] at this
      exact this
    have h3 : HubAt W3 Z q { r with ns := n3 } (M.drop i) := by
      refine ⟨hd3', hr3, ?_, h1.ix.kept hu13 (fun k hk _ e => e.elim hk.2.2.1 hk.2.2.2), h1.zone, h1.two, h1.ok.drop i⟩
      rw [stW_drop i hi] at hm3
      exact hm3
    have F := Lib.hid (And.intro h3 ((Upd.of_below hb1 Z).trans hu13 (fun k _ e => e.elim (fun e => by rw [e]; exact h1.zone.2.1) (fun e => by rw [e]; exact h1.zone.2.2))))
    rw [hs] at l1
    rw [if_pos hm]
    clear h1 hb1 hm2 hg2 hu2 hms2 hm3 hu3 hd2' hd3' hu13 hr3 h3 hW1 h hm hs
    go_enter Tryz.func29, Tryz.ntmps29
    go_upto_region 4 with fail
    rw [← HW1.out]
    go_wp2_with fail
    go_ret
    exact ⟨_, rfl, F.out.1, F.out.2⟩
  · have hs : (M.regF i).isSome = false := by rw [regF_none hm]; rfl
    have hde : M.drop i = M := by
      unfold HubM.drop
      rw [List.filter_eq_self.2 (fun x hx => by simp; intro e; exact hm (List.mem_map.2 ⟨x, hx, e⟩))]
    rw [hs] at l1
    rw [if_neg hm, hde]
    clear h1 hb1 hW1 h hm hs
    go_enter Tryz.func29, Tryz.ntmps29
    go_upto_region 4 with fail
    rw [← HW1.out]
    go_wp2_with fail
    go_ret
    exact ⟨r, rfl, H1.out, Upd.of_below B1.out _⟩
end
end Go.Proofs.YtlkojkjeklblkaaGreat
namespace Go.Proofs.YtlkojkjeklblkaaGreat
open Go.RowKit Go.MapKept
section
variable {w w' : World} {Z Y : Nat → Prop} {q : Nat} {r : HubR} {M : HubM}
def RegPost (w : World) (Z : Nat → Prop) (q : Nat) (M : HubM) (x : Reg) (e : Ending) (w' : World) : Prop :=
  ∃ (s : Sl) (r' : HubR), e = .returned (.tuple #[.int .i64 (M.regN x), .slice s.a s.n s.c, .int .i64 (M.regE x)]) ∧ s.n = (M.regO x).length ∧ ownN w' w.heap.size s (M.regO x) ∧ HubAt w' Z q r' (M.regM x) ∧ Upd w w' Z
set_option maxRecDepth 100000 in
set_option maxHeartbeats 4000000 in
theorem register_nf (h : HubAt w Z q r M) (x : Reg) (hL : M.L.length ≤ 1000000) (hR : M.rows.length < 100000) (hla : M.last < 1000000) :
    Calls Tryz.prog 22 #[.pointer (some ⟨q, 0, none⟩), .agg x.arr] w (RegPost w Z q M x) := by
  obtain ⟨W1, hW1⟩ : ∃ W1, W1 = w.alloc (.cells x.arr 57) := ⟨_, rfl⟩
  have hb1 : Below w.heap.size w W1 := hW1 ▸ (Below.refl _ _).alloc (Nat.le_refl _) _
  have g1 : W1.heap[w.heap.size]? = some (.cells x.arr 57 (0, 0)) := hW1 ▸ heap_alloc_new w _
  have r1 : row? W1 ⟨w.heap.size, 0, none⟩ 68 = some x.arr := row_of_block g1 (by simp)
  have hmay := may_nf x W1
  obtain ⟨m, hm⟩ : ∃ m, m = mayR x := ⟨_, rfl⟩
  rw [← hm] at hmay
  have HW1 := Lib.hid hW1
  have B1 := Lib.hid hb1
  have H := Lib.hid h
  have HM := Lib.hid hm
  have G1 := Lib.hid g1
  have HMAY := Lib.hid hmay
  have hw1 : w.heap.size < W1.heap.size := (cells_known g1).2.2
  clear hW1 hb1 g1 hm hmay h
  cases m with
  | false =>
    have he : Hid (M.regE x = 1) := by unfold Hid HubM.regE; rw [if_pos HM.out.symm]
    go_enter Tryz.func22, Tryz.ntmps22
    go_upto_region 1 with fail
    rw [← HW1.out]
    go_wp2_with fail
    refine HMAY.out.mono ?_
    rintro e W2 ⟨rfl, hb2⟩
    have hb : Below w.heap.size w W2 := B1.out.trans (hb2.mono B1.out.size)
    have F := Lib.hid (And.intro (H.out.keep hb) (Upd.of_below hb Z))
    clear hb2 hb
    go_wp2_with fail
    go_ret3
    refine ⟨⟨none, 0, 0⟩, r, ?_, ?_, ?_, ?_, F.out.2⟩
    · unfold HubM.regN; rw [he.out]; rfl
    · unfold HubM.regO; rw [he.out]; rfl
    · unfold HubM.regO; rw [he.out]; exact World.ownsRow_nil _ _ _ _
    · unfold HubM.regM; rw [he.out]; exact F.out.1
  | true =>
    by_cases hfull : M.most ≤ (M.rows.length : Int)
    · have he : Hid (M.regE x = 4) := by unfold Hid HubM.regE; rw [← HM.out, if_neg (by decide), if_pos hfull]
      go_enter Tryz.func22, Tryz.ntmps22
      go_upto_region 1 with fail
      rw [← HW1.out]
      go_wp2_with fail
      refine HMAY.out.mono ?_
      rintro e W2 ⟨rfl, hb2⟩
      have hb : Below w.heap.size w W2 := B1.out.trans (hb2.mono B1.out.size)
      have h2 := H.out.keep hb
      obtain ⟨es, clock, hes, _, hn⟩ := h2.regs
      have hmes : W2.drew.heap[r.mr]? = some (.map es clock) := hes
      have c2 : W2.drew.cell? ⟨q, 2, none⟩ = some (.map (some r.mr)) := h2.cells.2.2.1
      have c0 : W2.drew.cell? ⟨q, 0, none⟩ = some (.int .i64 M.most) := h2.cells.1
      have dd : decide (M.most ≤ (M.rows.length : Int)) = true := decide_eq_true hfull
      have ht : ∀ ty, (Builtin.len_ #[109] ty #[.map (some r.mr)]).run Tryz.prog W2.drew = .ok (.int .i64 (M.rows.length : Int)) W2.drew := fun ty => by
        have := run_len_map (P := Tryz.prog) (w := W2.drew) 109 ty r.mr es clock (by rfl) hmes
        rw [hn] at this
        exact this
      have F := Lib.hid (And.intro (H.out.keep hb.drew) (Upd.of_below hb.drew Z))
      clear hb2 hb h2 hn hes hmes
      go_wp2_with fail
      go_region
      all_goals go_wp2_with fail
      all_goals go_ret3
      all_goals refine ⟨⟨none, 0, 0⟩, r, ?_, ?_, ?_, ?_, F.out.2⟩
      · unfold HubM.regN; rw [he.out]; rfl
      · unfold HubM.regO; rw [he.out]; rfl
      · unfold HubM.regO; rw [he.out]; exact World.ownsRow_nil _ _ _ _
      · unfold HubM.regM; rw [he.out]; exact F.out.1
    · have he : Hid (M.regE x = 0) := by unfold Hid HubM.regE; rw [← HM.out, if_neg (by decide), if_neg hfull]
      go_enter Tryz.func22, Tryz.ntmps22
      go_upto_region 1 with fail
      rw [← HW1.out]
      go_wp2_with fail
      refine HMAY.out.mono ?_
      rintro e W2 ⟨rfl, hb2⟩
      have hb : Below w.heap.size w W2 := B1.out.trans (hb2.mono B1.out.size)
      have h2 := (H.out.zoned (Y := fun k => Z k ∧ k < w.heap.size) (fun k hk hz => ⟨hz, hk⟩)).keep hb
      have g2 := (hb2.block _ hw1).trans G1.out
      obtain ⟨es, clock, hes, _, hn⟩ := h2.regs
      have hmes : W2.drew.heap[r.mr]? = some (.map es clock) := hes
      have c2 : W2.drew.cell? ⟨q, 2, none⟩ = some (.map (some r.mr)) := h2.cells.2.2.1
      have c0 : W2.drew.cell? ⟨q, 0, none⟩ = some (.int .i64 M.most) := h2.cells.1
      have dd : decide (M.most ≤ (M.rows.length : Int)) = false := decide_eq_false (by omega)
      have ht : ∀ ty, (Builtin.len_ #[109] ty #[.map (some r.mr)]).run Tryz.prog W2.drew = .ok (.int .i64 (M.rows.length : Int)) W2.drew := fun ty => by
        have := run_len_map (P := Tryz.prog) (w := W2.drew) 109 ty r.mr es clock (by rfl) hmes
        rw [hn] at this
        exact this
      have H2 := Lib.hid h2
      have B2 := Lib.hid hb
      have G2 := Lib.hid g2
      clear hb2 hb h2 hn hes g2 hfull hmes
      go_upto_region 3 with fail
      go_region
      clear dd c2 c0 ht
      obtain ⟨W3, hW3⟩ : ∃ W3, W3 = W2.drew := ⟨_, rfl⟩
      rw [← hW3]
      have h3 : HubAt W3 (fun k => Z k ∧ k < w.heap.size) q r M := hW3 ▸ H2.out.keep (Below.refl W2.heap.size W2).drew
      have b3 : Below w.heap.size w W3 := hW3 ▸ B2.out.drew
      have g3 : W3.heap[w.heap.size]? = some (.cells x.arr 57 (0, 0)) := hW3 ▸ G2.out
      have l3 := h3.cells.2.1
      have f3 : W3.frozen? ⟨q, 1, none⟩ = false := (cells_known h3.hd).2.1 1
      have hqw : q < w.heap.size := h3.zone.1.2
      have hlow := h3.ok.last
      have hwr : IntKind.i64.wrap (M.last + 1) = M.last + 1 := wrap_i64 (by omega) (by omega)
      have hi6 : i64 (M.last + 1) := by unfold i64; omega
      obtain ⟨W4, hW4⟩ : ∃ W4, W4 = W3.setCell ⟨q, 1, none⟩ (.int .i64 (M.last + 1)) := ⟨_, rfl⟩
      have hu4 : Upd W3 W4 (fun k => k = q) := hW4 ▸ Upd.setCell W3 ⟨q, 1, none⟩ _
      have hq4 : W4.heap[q]? = some (.cells (HubV.mk M.most (M.last + 1) (some r.mr) (some r.ms) (some ⟨r.px, 0, none⟩)).arr 112 (0, 0)) := by rw [hW4, heap_set h3.hd 1 _, HubV.set_1]
      have hqr : r.mr ≠ q := fun e => by
        obtain ⟨es, cl, hb, _⟩ := h3.regs
        rw [e, h3.hd] at hb
        cases hb
      have hqm : r.ms ≠ q := fun e => by
        obtain ⟨es, cl, hb, _⟩ := h3.st
        rw [e, h3.hd] at hb
        cases hb
      have hr4 := h3.regs.of_block (hu4.block _ h3.regs.lt hqr)
      have hs4 := h3.st.of_block (hu4.block _ h3.st.lt hqm)
      have hx4 := h3.ix.kept hu4 (fun k hk _ e => hk.2.1 e)
      have g4 := (hu4.block _ (cells_known g3).2.2 (fun e => by have e2 : w.heap.size = q := e; omega)).trans g3
      have hw4 : w.heap.size < W4.heap.size := (cells_known g4).2.2
      have hu04 : Upd w W4 (fun k => k = q) := (Upd.of_below b3 _).trans hu4 (fun _ _ h => h)
      have HW4 := Lib.hid hW4
      have A4 := Lib.hid (And.intro hq4 (And.intro hr4 (And.intro hs4 hx4)))
      have P4 := Lib.hid (And.intro h3.zone (And.intro h3.two h3.ok))
      have U4 := Lib.hid hu04
      have c2 : W4.drew.cell? ⟨q, 2, none⟩ = some (.map (some r.mr)) := ((cells_known (w := W4.drew) hq4).1 2).trans (HubV.arr_2 _)
      have c1 : W4.drew.cell? ⟨q, 1, none⟩ = some (.int .i64 (M.last + 1)) := ((cells_known (w := W4.drew) hq4).1 1).trans (HubV.arr_1 _)
      have r4 : row? W4.drew ⟨w.heap.size, 0, none⟩ 68 = some x.arr := row_of_block (w := W4.drew) g4 (by simp)
      have hq4l : q < W4.heap.size := (cells_known hq4).2.2
      have hpl := plain_nf x W4.drew
      clear hu4 hq4 hr4 hs4 hx4 g4 hu04 hW4 hW3 h3 b3 g3 hlow
      have mk : ∀ wA W5 : World, Below W4.drew.heap.size W4.drew wA → mapAt W5 intV r.mr (if (M.regW ⟨M.last + 1, hi6⟩).isSome then M.rows.length else M.rows.length + 1) (upd M.regW ⟨M.last + 1, hi6⟩ (some (.agg (plainR x).arr))) → wA.grownBy W5 (some r.mr) → HubAt W5 (fun k => Z k ∧ k < w.heap.size) q r (M.push x) ∧ Upd w W5 (fun k => k = q ∨ k = r.mr) := by
        intro wA W5 hbA hm hg
        have hu5 : Upd wA W5 (fun k => k = r.mr) := (Upd.grown hg).mono (fun k _ e => (Option.some.inj e).symm)
        have hu45 : Upd W4 W5 (fun k => k = r.mr) := (Upd.of_below ((Below.refl W4.heap.size W4).drew.trans hbA) _).trans hu5 (fun _ _ h => h)
        have hnone : M.regF (M.last + 1) = none := regF_none P4.out.2.2.fresh
        have hnw : (M.regW ⟨M.last + 1, hi6⟩).isSome = false := by unfold HubM.regW; rw [hnone]; rfl
        have hrw : upd M.regW ⟨M.last + 1, hi6⟩ (some (.agg (plainR x).arr)) = (M.push x).regW := by
          funext y
          unfold upd HubM.regW
          rw [push_regF P4.out.2.2]
          unfold updF
          by_cases e : y = ⟨M.last + 1, hi6⟩
          · subst e; rw [if_pos rfl, if_pos rfl]; rfl
          · rw [if_neg e, if_neg (fun e2 => e (Subtype.ext e2))]
        rw [hnw, hrw] at hm
        have hlp : (M.push x).rows.length = M.rows.length + 1 := by simp [HubM.push]
        refine ⟨⟨(hu45.block _ hq4l (fun e => hqr e.symm)).trans A4.out.1, by rw [hlp]; exact hm, ?_, A4.out.2.2.2.kept hu45 (fun k hk _ e => hk.2.2.1 e), P4.out.1, P4.out.2.1, P4.out.2.2.push HM.out.symm⟩, (U4.out.mono (fun k _ e => .inl e)).trans hu45 (fun k _ e => .inr e)⟩
        have := A4.out.2.2.1.of_block (hu45.block _ A4.out.2.2.1.lt (fun e => P4.out.2.1 e.symm))
        have e : (M.push x).stW = M.stW := by funext y; unfold HubM.stW; rw [push_stF P4.out.2.2]
        rw [e]
        exact this
      have MK := Lib.hid mk
      clear mk
      go_upto_region 6 with fail
      rw [← HW4.out]
      go_cut [] (fun wx => HubAt wx (fun k => Z k ∧ k < w.heap.size) q r (M.push x) ∧ Upd w wx (fun k => k = q ∨ k = r.mr))
      case first =>
        go_region_law (first | (go_simp; go_at_call 57; refine hpl.mono ?_; rintro e wA ⟨rfl, hbA⟩; have a2 : wA.cell? ⟨q, 2, none⟩ = some (.map (some r.mr)) := (hbA.cell (p := ⟨q, 2, none⟩) hq4l).trans c2; have a1 : wA.cell? ⟨q, 1, none⟩ = some (.int .i64 (M.last + 1)) := (hbA.cell (p := ⟨q, 1, none⟩) hq4l).trans c1; have hrA := (A4.out.2.1.of_block (hbA.block r.mr A4.out.2.1.lt)); obtain ⟨W5, hs5, hm5, hg5⟩ := run_mapStore int_enc Tryz.underlying109 hrA ⟨M.last + 1, hi6⟩ (.agg (plainR x).arr); have hs5 : (Instr.mapUpdate 109 (.map (some r.mr)) (.int .i64 (M.last + 1)) (.agg (plainR x).arr)).run Tryz.prog wA = .ok () W5 := hs5; have HM5 := Lib.hid (And.intro hm5 (And.intro hg5 hbA)); clear hm5 hg5 hbA hrA))
        all_goals go_wp2_with fail
        all_goals go_meet
        all_goals exact MK.out wA W5 HM5.out.2.2 HM5.out.1 HM5.out.2.1
      case rest =>
        obtain ⟨h5, hu5⟩ := hcut
        have h5d := h5.keep (Below.refl wc.heap.size wc).drew
        have htl := tells_nf h5d (show M.L.length ≤ 1000000 from hL) ⟨M.last + 1, plainR x, none⟩ (by simp [HubM.push]) hi6
        have k1 : wc.drew.cell? ⟨q, 1, none⟩ = some (.int .i64 (M.last + 1)) := h5d.cells.2.1
        have H5 := Lib.hid h5d
        have U5 := Lib.hid (hu5.trans (Upd.of_below (Below.refl wc.heap.size wc).drew (fun _ => False)) (fun _ _ h => h.elim))
        clear h5 hu5 h5d c2 c1 r4 hpl MK
        go_upto_region 7 with fail
        go_region_law (first | (go_simp; go_at_call 58; refine htl.mono ?_; rintro e w6 ⟨⟨ta, tn, tc⟩, n6, rfl, ht1, ht2, ht3, ht4⟩; have k6 : w6.cell? ⟨q, 1, none⟩ = some (.int .i64 (M.last + 1)) := ht3.cells.2.1; have F6 := Lib.hid (And.intro ht1 (And.intro ht2 (And.intro ht3 ht4))); clear ht1 ht2 ht3 ht4))
        all_goals go_wp2_with fail
        all_goals go_ret3
        all_goals
          refine ⟨⟨ta, tn, tc⟩, { r with ns := n6 }, ?_, ?_, ?_, ?_, ?_⟩
          · unfold HubM.regN; rw [he.out]; rfl
          · unfold HubM.regO; rw [he.out]; exact F6.out.1
          · unfold HubM.regO; rw [he.out]; exact World.ownsRow.mono F6.out.2.1 U5.out.size
          · unfold HubM.regM; rw [he.out]; exact F6.out.2.2.1.zoned (fun k _ hk => hk.1)
          · exact (U5.out.mono (T := Z) (fun k _ e => e.elim (fun e => by rw [e]; exact P4.out.1.1.1) (fun e => by rw [e]; exact P4.out.1.2.1.1))).trans F6.out.2.2.2 (fun k _ e => by have e2 : k = r.ms := e; rw [e2]; exact P4.out.1.2.2.1)
end
end Go.Proofs.YtlkojkjeklblkaaGreat
namespace Go.Proofs.YtlkojkjeklblkaaGreat
open Go.RowKit Go.MapKept
theorem nodup_le {α : Type} [DecidableEq α] : ∀ (a b : List α), a.Nodup → (∀ x ∈ a, x ∈ b) → a.length ≤ b.length
  | [], b, _, _ => Nat.zero_le _
  | x :: a, b, hn, hs => by
    have hx : x ∈ b := hs x (by simp)
    have h1 := nodup_le a (b.erase x) (List.nodup_cons.1 hn).2 (fun y hy => by
      have hne : y ≠ x := fun e => (List.nodup_cons.1 hn).1 (e ▸ hy)
      exact (List.mem_erase_of_ne hne).2 (hs y (by simp [hy])))
    rw [List.length_erase_of_mem hx] at h1
    have : 0 < b.length := List.length_pos_of_mem hx
    simp only [List.length_cons]
    omega
theorem mapAt_le {w : World} {b n : Nat} {f : Z64 → Option Value} (h : mapAt w intV b n f) (l : List Int) (hl : ∀ i (hi : i64 i), (f ⟨i, hi⟩).isSome = true → i ∈ l) : n ≤ l.length := by
  obtain ⟨es, clock, hb, M, rfl⟩ := h
  have h1 := nodup_le (es.toList.map (fun e => intOf e.key)) l ?_ ?_
  · simpa using h1
  · have hp := ((stamped_iff es clock).1 M.stamped).2.2
    refine List.Pairwise.map _ (fun a b hab => ?_) (List.Pairwise.and_mem.1 hp)
    obtain ⟨ha, hb, hne⟩ := hab
    intro e
    obtain ⟨x, hx⟩ := M.keys a ha
    obtain ⟨y, hy⟩ := M.keys b hb
    rw [hx, hy] at e
    exact hne (by rw [hx, hy]; have e2 : x.1 = y.1 := e; unfold intV; rw [e2])
  · intro i hi
    obtain ⟨e, he, rfl⟩ := List.mem_map.1 hi
    obtain ⟨x, hx⟩ := M.keys e he
    rw [hx]
    refine hl x.1 x.2 ?_
    have := (M.has x e.val).2 ⟨e, he, hx, rfl⟩
    show (f x).isSome = true
    rw [this]; rfl
section
variable {w w' : World} {Z : Nat → Prop} {q : Nat} {r : HubR} {M : HubM}
theorem stand_st (h : M.Ok) {n : Note} (hn : n ∈ M.stand) : M.stF n.id = some n := by
  obtain ⟨x, hx, hs⟩ := List.mem_filterMap.1 hn
  rw [(h.mine x hx n hs).1, h.stF hx, hs]
theorem stand_mem (h : M.Ok) (i : Int) : (M.stF i).isSome = true ↔ i ∈ M.stand.map (·.id) := by
  constructor
  · intro hs
    unfold HubM.stF at hs
    cases hf : M.rows.find? (fun x => x.id == i) with
    | none => rw [hf] at hs; cases hs
    | some x =>
      rw [hf] at hs
      obtain ⟨hx, hi⟩ := find_mem hf
      obtain ⟨n, hn⟩ := Option.isSome_iff_exists.1 hs
      have hn : x.st = some n := hn
      exact List.mem_map.2 ⟨n, List.mem_filterMap.2 ⟨x, hx, hn⟩, by rw [(h.mine x hx n hn).1, hi]⟩
  · intro hm
    obtain ⟨n, hn, rfl⟩ := List.mem_map.1 hm
    rw [stand_st h hn]; rfl
theorem stand_sorted (h : M.Ok) : (M.stand.map (·.id)).Pairwise (· < ·) := by
  rw [List.pairwise_map]
  unfold HubM.stand
  rw [List.pairwise_filterMap]
  have hs := h.sorted
  unfold HubM.ids at hs
  rw [List.pairwise_map] at hs
  refine hs.imp_of_mem (fun {a b} ha hb hab n hn m hm => ?_)
  rw [(h.mine a ha n hn).1, (h.mine b hb m hm).1]
  exact hab
theorem stand_len (h : M.Ok) : M.stand.length ≤ M.rows.length := by unfold HubM.stand; exact List.length_filterMap_le _ _
set_option maxRecDepth 100000 in
set_option maxHeartbeats 4000000 in
theorem standing_nf (h : HubAt w Z q r M) (hR : M.rows.length ≤ 100000) (hl : M.last ≤ 1000000) :
    Calls Tryz.prog 18 #[.pointer (some ⟨q, 0, none⟩)] w fun e w' => ∃ s : Sl, e = .returned (.slice s.a s.n s.c) ∧ s.n = M.stand.length ∧ ownN w' w.heap.size s M.stand ∧ Below w.heap.size w w' := by
  have c3 := h.cells.2.2.2.1
  have hids : ∀ i ∈ M.stand.map (·.id), i64 i := by
    intro i hi
    obtain ⟨n, hn, rfl⟩ := List.mem_map.1 hi
    obtain ⟨x, hx, hs⟩ := List.mem_filterMap.1 hn
    rw [(h.ok.mine x hx n hs).1]
    exact ids_i64 h.ok hl _ (List.mem_map.2 ⟨x, hx, rfl⟩)
  have hf : ∀ i (hi : i64 i), (M.stW ⟨i, hi⟩).isSome = true ↔ i ∈ M.stand.map (·.id) := fun i hi => by unfold HubM.stW; rw [Option.isSome_map]; exact stand_mem h.ok i
  have hns := mapAt_le h.st _ (fun i hi hs => (hf i hi).1 hs)
  rw [List.length_map] at hns
  have hsl := stand_len h.ok
  have hkey := keysN_lib (some r.ms) w
  have hsort := sortedN_lib h.st (by omega) _ (stand_sorted h.ok) hids hf
  have HS := Lib.hid hsort
  have HID := Lib.hid hids
  have H := Lib.hid h
  have HSL := Lib.hid hsl
  clear h hids hf hns hsort hsl
  go_enter Tryz.func18, Tryz.ntmps18
  go_wp2_with (go_at_call 55; refine hkey.mono ?_; rintro e w1 ⟨rfl, rfl⟩)
  refine HS.out.mono ?_
  rintro e W1 ⟨⟨sa, sn, sc⟩, rfl, hsn, hN, hcell, hb1⟩
  simp only at hsn hcell
  rw [List.length_map] at hsn
  subst hsn
  clear hN
  go_wp2_with fail
  have hcc : ∀ k (h : k < M.stand.length), ∃ g, sa = some ⟨g, 0, none⟩ ∧ w.heap.size < g ∧ g < W1.heap.size ∧ W1.cell? ⟨g, k, none⟩ = some (.int .i64 M.stand[k].id) := fun k hk => by
    obtain ⟨g, h1, h2, h3, h4⟩ := hcell k (by rw [List.length_map]; exact hk)
    rw [List.getElem_map] at h4
    exact ⟨g, h1, h2, h3, h4⟩
  have hb9 : M.stand.length ≤ 100000 := Nat.le_trans HSL.out hR
  have HC := Lib.hid hcc
  have HB1 := Lib.hid hb1
  clear hkey HS hcell hcc hb1 c3
  go_loopw [2, 4, 14] (fun v2 _ v14 wr => ∃ (k : Nat) (sl : Sl), k ≤ M.stand.length ∧ v14 = .int .i64 k ∧ v2 = .slice sl.a sl.n sl.c ∧ sl.n = k ∧ wr.ownsRow W1.heap.size 63 36 sl.v k (vsOf Note.arr (M.stand.take k)) ∧ Below W1.heap.size W1 wr) (fun _ _ v _ => M.stand.length - (intOf v).toNat)
  case atStart => exact ⟨0, ⟨none, 0, 0⟩, Nat.zero_le _, rfl, rfl, rfl, World.ownsRow_nil _ _ _ _, Below.refl _ _⟩
  case round =>
    obtain ⟨k, ⟨la, ln, lc⟩, hk, rfl, rfl, hln, hown, hbr⟩ := hrel
    simp only at hln
    subst hln
    by_cases hlt : ln < M.stand.length
    · have dlt : decide ((ln : Int) < (M.stand.length : Int)) = true := decide_eq_true (by omega)
      obtain ⟨g, rfl, hg1, hg2, hgc⟩ := HC.out ln hlt
      have hgw : wr.cell? ⟨g, ln, none⟩ = some (.int .i64 M.stand[ln].id) := (hbr.cell (p := ⟨g, ln, none⟩) hg2).trans hgc
      obtain ⟨n, hn⟩ : ∃ n, n = M.stand[ln] := ⟨_, rfl⟩
      rw [← hn] at hgw
      have hnm : n ∈ M.stand := by rw [hn]; exact List.getElem_mem _
      have hbw : Below w.heap.size w wr := HB1.out.trans (hbr.mono HB1.out.size)
      have hub := H.out.keep hbw
      have l1 := (hub.lookN n.id (HID.out _ (List.mem_map.2 ⟨n, hnm, rfl⟩))).1
      rw [stand_st H.out.ok hnm] at l1
      have c3 := hub.cells.2.2.2.1
      obtain ⟨W5, hW5⟩ : ∃ W5, W5 = wr.alloc (.cells n.arr 63) := ⟨_, rfl⟩
      have hb5 : Below wr.heap.size wr W5 := hW5 ▸ (Below.refl _ _).alloc (Nat.le_refl _) _
      have g5 : W5.heap[wr.heap.size]? = some (.cells n.arr 63 (0, 0)) := hW5 ▸ heap_alloc_new wr _
      obtain ⟨⟨ua, un, uc⟩, w3, hr3, hn3, ho3, hu3⟩ := own_note1 (c := 1) (ownsRow_below hown hb5) g5 (Nat.le_trans hbr.size hb5.size) (by have := HSL.out; omega)
      have hb3 : Below W1.heap.size W1 w3 := (hbr.trans (hb5.mono hbr.size)).trans (hu3.below (Nat.le_trans hbr.size hb5.size) (fun j e => (hown.lt j e).1))
      have htk : M.stand.take ln ++ [n] = M.stand.take (ln + 1) := by rw [hn, List.take_succ_eq_append_getElem hlt]
      rw [htk] at ho3
      simp only at hn3
      subst hn3
      have j0 : (0 : Int) ≤ (ln : Int) := by omega
      have j1 : (ln : Int) < (M.stand.length : Int) := by omega
      have HR3 := Lib.hid (hr3 47)
      have HW5 := Lib.hid hW5
      have F := Lib.hid (And.intro ho3 hb3)
      clear hgc hnm hbw hub hb5 g5 hr3 ho3 hu3 hb3 htk hown hbr hW5 hn
      go_wp2_with (at_builtin; rw [← HW5.out]; refine wpList_runN rfl _ _ _ _ rfl _ _ rfl rfl HR3.out ?_)
      go_roundw
      case rel => exact ⟨ln + 1, ⟨ua, ln + 1, uc⟩, by omega, by go_num, rfl, rfl, F.out.1, F.out.2⟩
      case measure => simp [intOf]; omega
    · have hke : ln = M.stand.length := by omega
      subst hke
      have dlt : decide ((M.stand.length : Int) < (M.stand.length : Int)) = false := decide_eq_false (by omega)
      rw [List.take_length] at hown
      have F := Lib.hid (And.intro hown hbr)
      clear hown hbr
      go_wp2_with fail
      go_ret
      exact ⟨⟨la, M.stand.length, lc⟩, rfl, rfl, World.ownsRow.mono F.out.1 HB1.out.size, HB1.out.trans (F.out.2.mono HB1.out.size)⟩
end
end Go.Proofs.YtlkojkjeklblkaaGreat
namespace Go.Proofs.YtlkojkjeklblkaaGreat
open Go.RowKit Go.MapKept
/-- A list of notes. -/
abbrev notesIn (w : World) (Z : Nat → Prop) (s : Sl) (l : List Note) : Prop := slIn w Z s 36 Note.arr l
theorem notesIn.of_own {w : World} {B : Nat} {s : Sl} {l : List Note} (h : ownN w B s l) (hn : s.n = l.length) : notesIn w (fun k => B ≤ k) s l := slIn_own (by decide) (fun x => by simp) h hn
theorem Keep0.notes {own own' : Nat → Nat} {w w' : World} {s : Sl} {l : List Note} (k : Keep0 own own' w w') (h : notesIn w (fun k => own k = 0) s l) : notesIn w' (fun k => own' k = 0) s l :=
  ((slIn.zone h (Y := fun g => own g = 0 ∧ g < w.heap.size) (fun g hg hz => ⟨hz, hg⟩)).upd k.upd (fun g hz _ hn => hn hz.1)).zone (fun g _ hz => (k.same g hz.2).trans hz.1)
structure Nub (W0 w : World) (own : Nat → Nat) (q : Nat) (M : HubM) (n : Nat) : Prop where
  hub : ∃ r, HubAt w (zn own 1) q r M
  last : M.last ≤ n
  rows : M.rows.length ≤ n
  high : M.L.length ≤ n
  txs : ∀ b ∈ M.L, b.length ≤ 1000000
  fresh : Fresh own W0.heap.size
  below : Below W0.heap.size W0 w
section
variable {W0 w w' : World} {own : Nat → Nat} {q : Nat} {M : HubM} {n : Nat}
theorem Nub.ok (h : Nub W0 w own q M n) : M.Ok := by obtain ⟨r, hr⟩ := h.hub; exact hr.ok
theorem Nub.mono (h : Nub W0 w own q M n) {m : Nat} (hm : n ≤ m) : Nub W0 w own q M m := ⟨h.hub, by have := h.last; omega, Nat.le_trans h.rows hm, Nat.le_trans h.high hm, h.txs, h.fresh, h.below⟩
theorem Nub.keep (h : Nub W0 w own q M n) (hb : Below w.heap.size w w') : Nub W0 w' own q M n := by
  obtain ⟨r, hr⟩ := h.hub
  exact ⟨⟨r, hr.keep hb⟩, h.last, h.rows, h.high, h.txs, h.fresh, h.below.trans (hb.mono h.below.size)⟩
theorem Nub.retag (h : Nub W0 w own q M n) : Nub W0 w (setO own w.heap.size 0) q M n := by
  obtain ⟨r, hr⟩ := h.hub
  exact ⟨⟨r, hr.zoned (fun k hk hz => (setO_old hk).trans hz)⟩, h.last, h.rows, h.high, h.txs, h.fresh.setO h.below.size 0, h.below⟩
theorem Nub.new (n : Int) (hn : 1 ≤ n ∧ n ≤ 1000) (w : World) : Calls Tryz.prog 15 #[.int .i64 n] w fun e w' => ∃ q own, e = .returned (.tuple #[.pointer (some ⟨q, 0, none⟩), .int .i64 0]) ∧ Nub w w' own q (HubM.new n) 0 := by
  refine (new_nf n hn w).mono ?_
  rintro e w' ⟨q, r, rfl, h, hb⟩
  exact ⟨q, setO (fun _ => 0) w.heap.size 1, rfl, ⟨r, h.zoned (fun k hk hz => setO_new hz)⟩, Int.le_refl _, Nat.le_refl _, Nat.le_refl _, fun b hb => by simp [HubM.new] at hb, fun k hk => setO_old hk, hb⟩
theorem Nub.register (h : Nub W0 w own q M n) (hn : n < 100000) (x : Reg) :
    Calls Tryz.prog 22 #[.pointer (some ⟨q, 0, none⟩), .agg x.arr] w fun e w' => ∃ (s : Sl) (own' : Nat → Nat), e = .returned (.tuple #[.int .i64 (M.regN x), .slice s.a s.n s.c, .int .i64 (M.regE x)]) ∧ notesIn w' (fun k => own' k = 0) s (M.regO x) ∧ Nub W0 w' own' q (M.regM x) (n + 1) ∧ Keep0 own own' w w' := by
  obtain ⟨r, hr⟩ := h.hub
  have h1 := h.last; have h2 := h.rows; have h3 := h.high
  refine (register_nf (hr.zoned (Y := fun k => own k = 1 ∧ k < w.heap.size) (fun k hk hz => ⟨hz, hk⟩)) x (by omega) (by omega) (by omega)).mono ?_
  rintro e w' ⟨s, r', rfl, hsn, ho, hr', hu⟩
  have hu' : Upd w w' (fun k => own k = 1) := hu.mono (fun k _ e => e.1)
  refine ⟨s, setO own w.heap.size 0, rfl, slIn.zone (notesIn.of_own ho hsn) (fun k _ hk => setO_new hk), ⟨⟨r', hr'.zoned (fun k _ hz => (setO_old hz.2).trans hz.1)⟩, ?_, ?_, ?_, ?_, h.fresh.setO h.below.size 0, h.below.trans (h.fresh.below hu' (by decide) h.below.size)⟩, ⟨fun g hg => setO_old hg, hu'.mono (fun k _ e => by rw [e]; decide)⟩⟩
  · unfold HubM.regM; split
    · show M.last + 1 ≤ ((n + 1 : Nat) : Int); omega
    · omega
  · unfold HubM.regM; split
    · rw [one_len]; simp [HubM.push]; omega
    · omega
  · unfold HubM.regM; split <;> (show M.L.length ≤ n + 1; omega)
  · unfold HubM.regM; split <;> exact h.txs
theorem Nub.drop (h : Nub W0 w own q M n) (i : Int) (hi : i64 i) :
    Calls Tryz.prog 29 #[.pointer (some ⟨q, 0, none⟩), .int .i64 i] w fun e w' => ∃ own', e = .returned (.int .i64 (if i ∈ M.ids then 0 else 5)) ∧ Nub W0 w' own' q (M.drop i) n ∧ Keep0 own own' w w' := by
  obtain ⟨r, hr⟩ := h.hub
  refine (drop_nf (hr.zoned (Y := fun k => own k = 1 ∧ k < w.heap.size) (fun k hk hz => ⟨hz, hk⟩)) i hi).mono ?_
  rintro e w' ⟨r', rfl, hr', hu⟩
  have hu' : Upd w w' (fun k => own k = 1) := hu.mono (fun k _ e => e.1)
  exact ⟨setO own w.heap.size 0, rfl, ⟨⟨r', hr'.zoned (fun k _ hz => (setO_old hz.2).trans hz.1)⟩, h.last, Nat.le_trans (List.length_filter_le _ _) h.rows, h.high, h.txs, h.fresh.setO h.below.size 0, h.below.trans (h.fresh.below hu' (by decide) h.below.size)⟩, ⟨fun g hg => setO_old hg, hu'.mono (fun k _ e => by rw [e]; decide)⟩⟩
def ConN (W0 w : World) (own : Nat → Nat) (q n : Nat) (M' : HubM) (O : List Note) (E : Int) (e : Ending) (w' : World) : Prop :=
  ∃ (s : Sl) (own' : Nat → Nat), e = .returned (.tuple #[.slice s.a s.n s.c, .int .i64 E]) ∧ notesIn w' (fun k => own' k = 0) s O ∧ Nub W0 w' own' q M' (n + 1) ∧ Keep0 own own' w w'
theorem con_post {M' : HubM} {O : List Note} {E : Int} (h : Nub W0 w own q M n) (hl : M'.last = M.last) (hr : M'.rows.length = M.rows.length) (hL : M'.L.length ≤ n + 1) (ht : ∀ b ∈ M'.L, b.length ≤ 1000000) {e : Ending} (hp : ConPost w (fun k => own k = 1 ∧ k < w.heap.size) q M' O E e w') : ConN W0 w own q n M' O E e w' := by
  obtain ⟨s, r', B, rfl, hB1, hB2, hsn, ho, hr', hu⟩ := hp
  have hu' : Upd w w' (fun k => own k = 1) := hu.mono (fun k _ e => e.1)
  obtain ⟨own', ho'⟩ : ∃ own' : Nat → Nat, own' = fun k => if k < w.heap.size then own k else if k < B then 1 else 0 := ⟨_, rfl⟩
  have o1 : ∀ k, k < w.heap.size → own' k = own k := fun k hk => by rw [ho']; exact if_pos hk
  have o2 : ∀ k, w.heap.size ≤ k → k < B → own' k = 1 := fun k hk hk2 => by rw [ho']; show (if k < w.heap.size then own k else if k < B then 1 else 0) = 1; rw [if_neg (by omega), if_pos hk2]
  have o3 : ∀ k, B ≤ k → own' k = 0 := fun k hk => by rw [ho']; show (if k < w.heap.size then own k else if k < B then 1 else 0) = 0; rw [if_neg (by omega), if_neg (by omega)]
  refine ⟨s, own', rfl, slIn.zone (notesIn.of_own ho hsn) (fun k _ hk => o3 k hk), ⟨⟨r', hr'.zoned (fun k _ hz => ?_)⟩, by rw [hl]; have := h.last; omega, by rw [hr]; have := h.rows; omega, hL, ht, fun k hk => (o1 k (Nat.lt_of_lt_of_le hk h.below.size)).trans (h.fresh k hk), h.below.trans (h.fresh.below hu' (by decide) h.below.size)⟩, ⟨fun g hg => o1 g hg, hu'.mono (fun k _ e => by rw [e]; decide)⟩⟩
  rcases hz with hz | hz
  · exact (o1 k hz.2).trans hz.1
  · exact o2 k hz.1 hz.2
theorem settled_len : M.settled.rows.length = M.rows.length := by simp [HubM.settled]
theorem Nub.connect (h : Nub W0 w own q M n) (hn : n < 100000) (s : Sl) (vs : List TxV) (l : List Tx) (hs : txsIn w (fun k => own k = 0) s vs l) (hl : l.length ≤ 1000000) :
    Calls Tryz.prog 24 #[.pointer (some ⟨q, 0, none⟩), .slice s.a s.n s.c] w (ConN W0 w own q n (M.conM l) (M.conO l) (conE M.L l)) := by
  obtain ⟨r, hr⟩ := h.hub
  have h1 := h.last; have h2 := h.rows; have h3 := h.high
  refine (connect_nf (hr.zoned (Y := fun k => own k = 1 ∧ k < w.heap.size) (fun k hk hz => ⟨hz, hk⟩)) s vs l hs (fun k hk _ hz => by rw [hz.1] at hk; cases hk) (by omega) hl (by omega) (by omega)).mono ?_
  intro e w' hp
  refine con_post h ?_ ?_ ?_ ?_ hp
  · unfold HubM.conM; split <;> rfl
  · unfold HubM.conM; split
    · rw [settled_len]; rfl
    · rfl
  · unfold HubM.conM; split
    · show (conL M.L l).length ≤ n + 1
      unfold conL; split
      · simp only [List.length_append, List.length_cons, List.length_nil]; omega
      · omega
    · omega
  · unfold HubM.conM; split
    · rename_i hc
      show ∀ b ∈ conL M.L l, b.length ≤ 1000000
      unfold conL; rw [if_pos hc]
      intro b hb
      rcases List.mem_append.1 hb with hb | hb
      · exact h.txs b hb
      · rw [List.mem_singleton.1 hb]; exact hl
    · exact h.txs
theorem Nub.disconnect (h : Nub W0 w own q M n) (hn : n < 100000) :
    Calls Tryz.prog 25 #[.pointer (some ⟨q, 0, none⟩)] w (ConN W0 w own q n M.disM M.disO (if M.L = [] then 5 else 0)) := by
  obtain ⟨r, hr⟩ := h.hub
  have h1 := h.last; have h2 := h.rows; have h3 := h.high
  refine (disconnect_nf (hr.zoned (Y := fun k => own k = 1 ∧ k < w.heap.size) (fun k hk hz => ⟨hz, hk⟩)) (by omega) h.txs (by omega) (by omega)).mono ?_
  intro e w' hp
  refine con_post h ?_ ?_ ?_ ?_ hp
  · unfold HubM.disM; split <;> rfl
  · unfold HubM.disM; split
    · rfl
    · rw [settled_len]; rfl
  · unfold HubM.disM; split
    · omega
    · show M.L.dropLast.length ≤ n + 1
      rw [List.length_dropLast]; omega
  · unfold HubM.disM; split
    · exact h.txs
    · exact fun b hb => h.txs b (List.dropLast_subset _ hb)
theorem Nub.standing (h : Nub W0 w own q M n) (hn : n < 100000) :
    Calls Tryz.prog 18 #[.pointer (some ⟨q, 0, none⟩)] w fun e w' => ∃ s : Sl, e = .returned (.slice s.a s.n s.c) ∧ notesIn w' (fun k => w.heap.size ≤ k) s M.stand ∧ Below w.heap.size w w' := by
  obtain ⟨r, hr⟩ := h.hub
  have h1 := h.last; have h2 := h.rows
  refine (standing_nf hr (by omega) (by omega)).mono ?_
  rintro e w' ⟨s, rfl, hsn, ho, hb⟩
  exact ⟨s, rfl, notesIn.of_own ho hsn, hb⟩
end
end Go.Proofs.YtlkojkjeklblkaaGreat
