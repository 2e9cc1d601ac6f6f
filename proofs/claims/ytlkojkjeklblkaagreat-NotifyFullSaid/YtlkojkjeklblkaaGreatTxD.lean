/- Contracts of package tx, continued: the input that spends an outpoint; whether a transaction may be. -/
import Derived.Test.YtlkojkjeklblkaaGreatTxC
import Derived.Deep.RegionWith
import Derived.Deep.RegionHeld3
set_option linter.unusedSimpArgs false
set_option linter.unusedVariables false
namespace Go.Proofs.YtlkojkjeklblkaaGreat
open Go.RowKit
def spendsAt (l : List In) (p : Outpoint) : Int := firstAt (fun x => decide (x.prev = p)) l
set_option maxHeartbeats 1000000 in
theorem spends_tx (v : TxV) (l : List In) (p : Outpoint) (w : World) (hv : isSl w v.ins 37 In.arr l w.heap.size) (hl : l.length ≤ 9223372036854775806) :
    Calls Tryz.prog 186 #[.agg v.arr, .agg p.arr] w fun e w' => e = .returned (.int .i64 (spendsAt l p)) ∧ Below w.heap.size w w' := by
  obtain ⟨hn, _hc, hr⟩ := hv
  obtain ⟨⟨ia, il, ic⟩, os, lk⟩ := v
  simp only at hn hr
  subst hn
  have hmf : ∀ (fn : Fn) (first cap : Array Value) (w : World), (Instr.makeFunc fn first cap).run Tryz.prog w = .ok (.func fn first cap) w := fun _ _ _ _ => rfl
  have hbase : Below w.heap.size w ((w.alloc (.cells (TxV.mk ⟨ia, l.length, ic⟩ os lk).arr 72)).alloc (.cells p.arr 40)) := ((Below.refl _ _).alloc (Nat.le_refl _) _).alloc (by simp) _
  go_enter Tryz.func186, Tryz.ntmps186
  go_wp2_with fail
  refine (index_ins ia ic l p (w.heap.size + 1) _ hl ((hr.below hbase).mono hbase.size) (by simp [go_sem]) (by simp)).mono ?_
  rintro e w1 ⟨rfl, hb1⟩
  go_wp2_with fail
  go_ret
  exact ⟨rfl, hbase.trans (hb1.mono hbase.size)⟩
/-- What outputs are worth. -/
def valsOf (l : List Out) : List Int := l.map (·.value)
theorem valsOf_length (l : List Out) : (valsOf l).length = l.length := by simp [valsOf]
theorem valsOf_succ {l : List Out} {k : Nat} (h : k < l.length) : intVs (valsOf (l.take (k + 1))) = intVs (valsOf (l.take k)) ++ [.int .i64 l[k].value] := by
  rw [← intVs_snoc, List.take_succ_eq_append_getElem h]; simp only [valsOf, List.map_append, List.map_cons, List.map_nil]
def inAt (l : List In) (k : Nat) : In := l.getD k In.zero
def inGood (l : List In) (k : Nat) : Bool := inOk (inAt l k) && decide (spendsAt (l.take k) (inAt l k).prev < 0)
def insOk (l : List In) : Bool := (List.range l.length).all (inGood l)
def checkS (t : Tx) : Int :=
  if 100 < t.ins.length ∨ 100 < t.outs.length then 3
  else if t.ins.length = 0 ∨ insOk t.ins = false ∨ t.outs.all (fun o => scriptOk o.script) = false ∨ wth t.lock 0 1000000 = false then 1
  else (totalS 0 (valsOf t.outs)).2
theorem insOk_false {l : List In} {k : Nat} (hk : k < l.length) (h : inGood l k = false) : insOk l = false := by
  unfold insOk
  rw [List.all_eq_false]
  exact ⟨k, by simpa using hk, by simp [h]⟩
theorem insOk_true {l : List In} (h : ∀ k, k < l.length → inGood l k = true) : insOk l = true := by
  unfold insOk
  rw [List.all_eq_true]
  intro k hk
  exact h k (by simpa using hk)
theorem inAt_eq {l : List In} {k : Nat} (hk : k < l.length) : inAt l k = l[k] := by simp [inAt, List.getD, hk]
theorem Tryz.info3 : (Tryz.prog.info? 3).map (fun i => (i.zero, i.size, i.bytes)) = some (some (.int .i64 0), 1, 8) := by kernel_rfl
set_option maxRecDepth 100000 in
set_option maxHeartbeats 4000000 in
theorem check_tx (v : TxV) (t : Tx) (w : World) (ht : isTx w v t w.heap.size) :
    Calls Tryz.prog 147 #[.agg v.arr] w fun e w' => e = .returned (.int .i64 (checkS t)) ∧ Below w.heap.size w w' := by
  obtain ⟨⟨hn1, hcc1, hr1⟩, ⟨hn2, hcc2, hr2⟩, hl⟩ := ht
  obtain ⟨⟨ia, il, ic⟩, ⟨oa, ol, oc⟩, lk⟩ := v
  simp only at hn1 hcc1 hr1 hn2 hcc2 hr2 hl
  subst hn1 hn2 hl
  have hbase : Below w.heap.size w (w.alloc (.cells (TxV.mk ⟨ia, t.ins.length, ic⟩ ⟨oa, t.outs.length, oc⟩ t.lock).arr 72)) := (Below.refl _ _).alloc (Nat.le_refl _) _
  obtain ⟨i0, hi0, hz0, hz1, hz2⟩ := info_parts Tryz.info3
  by_cases c1 : t.ins.length ≤ 100
  case neg =>
    have c1' : (100 : Int) < (t.ins.length : Int) := by omega
    go_enter Tryz.func147, Tryz.ntmps147
    go_wp2_with fail
    refine wp_scope_fwd 0 (by rfl) ?_
    go_wp2_with fail
    rw [jump_ret]
    go_ret
    exact ⟨ret_int (by unfold checkS; rw [if_pos (by omega)]), hbase⟩
  by_cases c2 : t.outs.length ≤ 100
  case neg =>
    have c2' : (100 : Int) < (t.outs.length : Int) := by omega
    go_enter Tryz.func147, Tryz.ntmps147
    go_wp2_with fail
    refine wp_scope_fwd 0 (by rfl) ?_
    go_wp2_with fail
    rw [jump_ret]
    go_ret
    exact ⟨ret_int (by unfold checkS; rw [if_pos (by omega)]), hbase⟩
  have e1 : decide ((100 : Int) < (t.ins.length : Int)) = false := by simp; omega
  have e2 : decide ((100 : Int) < (t.outs.length : Int)) = false := by simp; omega
  have hno3 : ¬ (100 < t.ins.length ∨ 100 < t.outs.length) := by omega
  by_cases c3 : t.ins.length < 1
  · have hS : Hid (checkS t = 1) := by unfold checkS Hid; rw [if_neg hno3, if_pos (by omega)]
    go_enter Tryz.func147, Tryz.ntmps147
    go_wp2_with fail
    refine wp_scope_fwd 0 (by rfl) ?_
    go_wp2_with fail
    go_step3
    refine ⟨rfl, ?_⟩
    show Code.wp _ _ _ _ _
    go_wp2_with fail
    rw [Exit.noGoto_ret]
    go_ret
    exact ⟨ret_int hS.out.symm, hbase⟩
  have e3 : ((t.ins.length : Int) == 0) = false := by rw [beq_eq_false_iff_ne]; omega
  go_enter Tryz.func147, Tryz.ntmps147
  go_wp2_with fail
  refine wp_scope_fwd 0 (by rfl) ?_
  go_wp2_with fail
  go_loopw [25] (fun i wr => ∃ k : Nat, k ≤ t.ins.length ∧ i = .int .i64 k ∧ Hid (∀ j, j < k → inGood t.ins j = true) ∧ Below w.heap.size w wr ∧ (∀ o, wr.cell? ⟨w.heap.size, o, none⟩ = (TxV.mk ⟨ia, t.ins.length, ic⟩ ⟨oa, t.outs.length, oc⟩ t.lock).arr[o]?) ∧ w.heap.size < wr.heap.size) (fun i _ => t.ins.length - (intOf i).toNat)
  case atStart => exact ⟨0, Nat.zero_le _, rfl, fun j h => by omega, hbase, fun o => by simp [go_sem], by simp⟩
  case round =>
    obtain ⟨k, hk, rfl, hgood, hbw, hcell, hz⟩ := hrel
    by_cases hlt : k < t.ins.length
    · obtain ⟨b0, off, rfl, hb0, hr⟩ := (hr1.below hbw).at hlt
      have hin := inAt_eq hlt
      have hkc' : k ≤ ic := by omega
      have hkc : (k : Int) ≤ (ic : Int) := by omega
      have hb3 : Below w.heap.size w (wr.alloc (.cells t.ins[k].arr 68)) := hbw.alloc (Nat.le_of_lt hz) _
      have hs1 : isSl (wr.alloc (.cells t.ins[k].arr 68)) ⟨some ⟨b0, off, none⟩, k, ic⟩ 37 In.arr (t.ins.take k) w.heap.size := ⟨by simp; omega, hkc', (hr1.below hb3).take k⟩
      by_cases d1 : inOk t.ins[k] = true
      · by_cases d2 : 0 ≤ spendsAt (t.ins.take k) t.ins[k].prev
        · have hbad : inGood t.ins k = false := by unfold inGood; rw [hin, decide_eq_false (by omega)]; simp
          clear hin
          have d2' : decide (0 ≤ spendsAt (t.ins.take k) t.ins[k].prev) = true := by simpa using d2
          have hS : Hid (checkS t = 1) := by unfold checkS Hid; rw [if_neg hno3, if_pos (by simp [insOk_false hlt hbad])]
          clear hbad
          go_wp2_with fail
          refine wp_region_below (by kernel_rfl) (by kernel_rfl) ?_
          repeat (go_big_quiet_step ((first | (go_at_call 185; exact Calls.regrown_of (in_tx _ _)) | (go_at_call 186; exact Calls.regrown_of (spends_tx _ (t.ins.take k) _ _ (hs1.regrown (by simp; omega) _ _) (by simp; omega))))))
          refine wpQuiet_nil ?_
          intro w2 hb_w2
          obtain ⟨hc_w2, hf_w2, hr_w2⟩ := bcell hb_w2
          go_wp2_with fail
          go_step3
          refine ⟨rfl, ?_⟩
          show Code.wp _ _ _ _ _
          go_wp2_with fail
          rw [Exit.noGoto_ret]
          go_ret
          exact ⟨ret_int hS.out.symm, hb3.trans (hb_w2.mono (by simp; omega))⟩
        · have hgk : Hid (inGood t.ins k = true) := by unfold Hid inGood; rw [hin, decide_eq_true (by omega), d1]; rfl
          clear hin
          have d2' : decide (0 ≤ spendsAt (t.ins.take k) t.ins[k].prev) = false := by simpa using d2
          go_wp2_with fail
          refine wp_region_below (by kernel_rfl) (by kernel_rfl) ?_
          repeat (go_big_quiet_step ((first | (go_at_call 185; exact Calls.regrown_of (in_tx _ _)) | (go_at_call 186; exact Calls.regrown_of (spends_tx _ (t.ins.take k) _ _ (hs1.regrown (by simp; omega) _ _) (by simp; omega))))))
          refine wpQuiet_nil ?_
          intro w2 hb_w2
          obtain ⟨hc_w2, hf_w2, hr_w2⟩ := bcell hb_w2
          go_wp2_with fail
          go_roundw
          case rel => exact ⟨k + 1, by omega, by go_num, fun j hj => by
            by_cases e : j = k
            · subst e; exact hgk.out
            · exact hgood.out j (by omega), hb3.trans (hb_w2.mono (by simp; omega)), fun o => by rw [hc_w2 _ _ (by simp; omega), World.cell?_alloc_past _ _ _ hz]; exact hcell o, by have := hb_w2.size; simp at this; omega⟩
          case measure => simp [intOf]; omega
      · have d1' : inOk t.ins[k] = false := by simpa using d1
        have hbad : inGood t.ins k = false := by unfold inGood; rw [hin, d1']; simp
        clear hin
        have hS : Hid (checkS t = 1) := by unfold checkS Hid; rw [if_neg hno3, if_pos (by simp [insOk_false hlt hbad])]
        clear hbad
        go_wp2_with fail
        refine wp_region_below (by kernel_rfl) (by kernel_rfl) ?_
        repeat (go_big_quiet_step ((first | (go_at_call 185; exact Calls.regrown_of (in_tx _ _)))))
        refine wpQuiet_nil ?_
        intro w2 hb_w2
        obtain ⟨hc_w2, hf_w2, hr_w2⟩ := bcell hb_w2
        go_wp2_with fail
        go_step3
        refine ⟨rfl, ?_⟩
        show Code.wp _ _ _ _ _
        go_wp2_with fail
        rw [Exit.noGoto_ret]
        go_ret
        exact ⟨ret_int hS.out.symm, hb3.trans (hb_w2.mono (by simp; omega))⟩
    · have hgi : Hid (insOk t.ins = true) := insOk_true (fun j hj => hgood.out j (by omega))
      clear hgood
      go_wp2_with fail
      go_loopw [3, 48] (fun vs i wr' => ∃ k2 : Nat, k2 ≤ t.outs.length ∧ i = .int .i64 k2 ∧ Hid (∀ j (h : j < t.outs.length), j < k2 → scriptOk t.outs[j].script = true) ∧ Below w.heap.size w wr' ∧ (∀ o, wr'.cell? ⟨w.heap.size, o, none⟩ = (TxV.mk ⟨ia, t.ins.length, ic⟩ ⟨oa, t.outs.length, oc⟩ t.lock).arr[o]?) ∧ w.heap.size < wr'.heap.size ∧ wr'.ownsRow (w.heap.size + 1) 3 1 vs k2 (intVs (valsOf (t.outs.take k2)))) (fun _ i _ => t.outs.length - (intOf i).toNat)
      case atStart => exact ⟨0, Nat.zero_le _, rfl, fun j _ h => by omega, hbw, hcell, hz, World.ownsRow_nil _ _ _ _⟩
      case round =>
        clear hbw hcell hz
        obtain ⟨k2, hk2, rfl, hsc, hbw, hcell, hz, hown⟩ := hrel
        by_cases hlt2 : k2 < t.outs.length
        · obtain ⟨b1, off1, rfl, hb1, hr1'⟩ := (hr2.below hbw).at hlt2
          have hb4 : Below w.heap.size w (wr.alloc (.cells t.outs[k2].arr 196)) := hbw.alloc (Nat.le_of_lt hz) _
          by_cases d3 : scriptOk t.outs[k2].script = true
          · have hmx : k2 + 1 ≤ maxLen := by unfold maxLen; omega
            go_wp2_with (first | (go_at_call 187; refine (script_tx _ _).mono ?_; rintro e w3 ⟨rfl, hb3⟩; obtain ⟨hc3, hf3, hr3⟩ := bcell hb3; have hown3 := ownsRow_below (hown.alloc _) hb3) | (at_builtin; refine wpList_append_own _ rfl _ _ 75 rfl (w.heap.size + 1) 3 i0 (.int .i64 0) 1 8 Tryz.underlying75 hi0 hz0 hz1 hz2 rfl (by decide) _ _ _ rfl (hown3.alloc _) ⟨w3.heap.size, 0, none⟩ 1 1 [.int .i64 t.outs[k2].value] rfl rfl (cell_one_new _ _ _) (by simp [Value.oneCell']) hmx (by omega) (by have := hb3.size; simp at this ⊢; omega) ?_))
            intro v' w4 hown4 hgrow4 _
            have hsz3 := hb3.size
            have hsz4 := hgrow4.size
            simp only [World.size_alloc] at hsz3 hsz4
            have hb5 : Below w.heap.size w w4 := ((hb4.trans (hb3.mono (by simp; omega))).alloc (by omega) _).grown hgrow4 (by simp; omega) (fun k hk => by have := (hown3.lt k hk).1; omega)
            have hcell4 : ∀ o, w4.cell? ⟨w.heap.size, o, none⟩ = (TxV.mk ⟨ia, t.ins.length, ic⟩ ⟨some ⟨b1, off1, none⟩, t.outs.length, oc⟩ t.lock).arr[o]? := fun o => by
              rw [own_far hown3 hgrow4 (Nat.lt_succ_self _) (by simp; omega) o, World.cell?_alloc_past _ _ _ (by omega), hc3 _ _ (by simp; omega), World.cell?_alloc_past _ _ _ hz]; exact hcell o
            clear hown3 hgrow4 hown hc3 hf3 hr3
            have Hx := Lib.hid (valsOf_succ hlt2)
            go_wp2_with fail
            go_roundw
            case rel => exact ⟨k2 + 1, by omega, by go_num, fun j hj hj2 => by
              by_cases e : j = k2
              · subst e; exact d3
              · exact hsc.out j hj (by omega), hb5, hcell4, by omega, by rw [Hx.out]; exact hown4⟩
            case measure => simp [intOf]; omega
          · have d3' : scriptOk t.outs[k2].script = false := by simpa using d3
            have hS : Hid (checkS t = 1) := by
              unfold checkS Hid; rw [if_neg hno3, if_pos]
              exact .inr (.inr (.inl (by rw [List.all_eq_false]; exact ⟨_, List.getElem_mem hlt2, by simp [d3']⟩)))
            go_wp2_with (go_at_call 187; refine (script_tx _ _).mono ?_; rintro e w3 ⟨rfl, hb3⟩)
            go_step3
            refine ⟨rfl, ?_⟩
            show Code.wp _ _ _ _ _
            go_wp2_with fail
            rw [Exit.noGoto_ret]
            go_ret
            exact ⟨ret_int hS.out.symm, hb4.trans (hb3.mono (by simp; omega))⟩
        · have hall : Hid (t.outs.all (fun o => scriptOk o.script) = true) := by
            unfold Hid; rw [List.all_eq_true]; intro x hx
            obtain ⟨j, hj, rfl⟩ := List.mem_iff_getElem.1 hx
            exact hsc.out j hj (by omega)
          clear hsc
          have hk2' : k2 = t.outs.length := by omega
          have hown' : wr.ownsRow (w.heap.size + 1) 3 1 u3 k2 (intVs (valsOf t.outs)) := by
            rw [hk2', List.take_length] at hown
            rw [hk2']; exact hown
          clear hown hk2'
          obtain ⟨va, vc, rfl, hvc, -⟩ := ownsRow_slice hown'
          obtain ⟨hkl, hin⟩ := intsAt_own hown'
          clear hown'
          subst hkl
          by_cases d4 : wth t.lock 0 1000000 = true
          · have hS : Hid (checkS t = (totalS 0 (valsOf t.outs)).2) := by
              unfold checkS Hid; rw [if_neg hno3, if_neg]
              rintro (h | h | h | h)
              · omega
              · rw [hgi.out] at h; simp at h
              · rw [hall.out] at h; simp at h
              · rw [d4] at h; simp at h
            go_wp2_with (first | (go_at_call 188; refine (within_tx _ _ _ _).mono ?_; rintro e w' ⟨rfl, rfl⟩) | (go_at_call 189; refine (total_am va vc _ _ (by rw [valsOf_length]; omega) hin).mono ?_; rintro e w' ⟨rfl, rfl⟩))
            rw [jump_ret]
            go_ret
            exact ⟨ret_int hS.out.symm, hbw⟩
          · have d4' : wth t.lock 0 1000000 = false := by simpa using d4
            have hS : Hid (checkS t = 1) := by
              unfold checkS Hid; rw [if_neg hno3, if_pos]
              exact .inr (.inr (.inr d4'))
            go_wp2_with (go_at_call 188; refine (within_tx _ _ _ _).mono ?_; rintro e w' ⟨rfl, rfl⟩)
            go_step3
            refine ⟨rfl, ?_⟩
            show Code.wp _ _ _ _ _
            go_wp2_with fail
            rw [Exit.noGoto_ret]
            go_ret
            exact ⟨ret_int hS.out.symm, hbw⟩
end Go.Proofs.YtlkojkjeklblkaaGreat
