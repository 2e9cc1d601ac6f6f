/- Contracts of package tx, continued: the input that spends an outpoint; whether a transaction may be. Contracts of package tx, continued: what stands ahead of the witnesses, as bytes. Contracts of package tx, continued: a transaction's number. -/
import Derived.Test.YtlkojkjeklblkaaGreatTxC
import Derived.Deep.RegionWith
import Derived.Deep.RegionHeld3
import Derived.Test.YtlkojkjeklblkaaGreatNumE
import Derived.Deep.Onto
import Derived.Test.YtlkojkjeklblkaaGreatShaH
set_option linter.unusedSimpArgs false
set_option linter.unusedVariables false
namespace Go.Proofs.YtlkojkjeklblkaaGreat
open Go.RowKit
def spendsAt (l : List In) (p : Outpoint) : Int := firstAt (fun x => decide (x.prev = p)) l
set_option maxHeartbeats 1000000 in
theorem spends_tx (v : TxV) (l : List In) (p : Outpoint) (w : World) (hv : isSl w v.ins 37 In.arr l w.heap.size) (hl : l.length ≤ 9223372036854775806) :
    Calls Tryz.prog 186 #[.agg v.arr, .agg p.arr] w fun e w' => e = .returned (.int .i64 (spendsAt l p)) ∧ Below w.heap.size w w' := by
  obtain ⟨hn, _hc, hr⟩ := hv
  obtain ⟨⟨ia, il, ic⟩, os, lk⟩ := v
  simp only at hn hr
  subst hn
  have hmf : ∀ (fn : Fn) (first cap : Array Value) (w : World), (Instr.makeFunc fn first cap).run Tryz.prog w = .ok (.func fn first cap) w := fun _ _ _ _ => rfl
  have hbase : Below w.heap.size w ((w.alloc (.cells (TxV.mk ⟨ia, l.length, ic⟩ os lk).arr 72)).alloc (.cells p.arr 40)) := ((Below.refl _ _).alloc (Nat.le_refl _) _).alloc (by simp) _
  go_enter Tryz.func186, Tryz.ntmps186
  go_wp2_with fail
  refine (index_ins ia ic l p (w.heap.size + 1) _ hl ((hr.below hbase).mono hbase.size) (by simp [go_sem]) (by simp)).mono ?_
  rintro e w1 ⟨rfl, hb1⟩
  go_wp2_with fail
  go_ret
  exact ⟨rfl, hbase.trans (hb1.mono hbase.size)⟩
/-- What outputs are worth. -/
def valsOf (l : List Out) : List Int := l.map (·.value)
theorem valsOf_length (l : List Out) : (valsOf l).length = l.length := by simp [valsOf]
theorem valsOf_succ {l : List Out} {k : Nat} (h : k < l.length) : intVs (valsOf (l.take (k + 1))) = intVs (valsOf (l.take k)) ++ [.int .i64 l[k].value] := by
  rw [← intVs_snoc, List.take_succ_eq_append_getElem h]; simp only [valsOf, List.map_append, List.map_cons, List.map_nil]
def inAt (l : List In) (k : Nat) : In := l.getD k In.zero
def inGood (l : List In) (k : Nat) : Bool := inOk (inAt l k) && decide (spendsAt (l.take k) (inAt l k).prev < 0)
def insOk (l : List In) : Bool := (List.range l.length).all (inGood l)
def checkS (t : Tx) : Int :=
  if 100 < t.ins.length ∨ 100 < t.outs.length then 3
  else if t.ins.length = 0 ∨ insOk t.ins = false ∨ t.outs.all (fun o => scriptOk o.script) = false ∨ wth t.lock 0 1000000 = false then 1
  else (totalS 0 (valsOf t.outs)).2
theorem insOk_false {l : List In} {k : Nat} (hk : k < l.length) (h : inGood l k = false) : insOk l = false := by
  unfold insOk
  rw [List.all_eq_false]
  exact ⟨k, by simpa using hk, by simp [h]⟩
theorem insOk_true {l : List In} (h : ∀ k, k < l.length → inGood l k = true) : insOk l = true := by
  unfold insOk
  rw [List.all_eq_true]
  intro k hk
  exact h k (by simpa using hk)
theorem inAt_eq {l : List In} {k : Nat} (hk : k < l.length) : inAt l k = l[k] := by simp [inAt, List.getD, hk]
theorem Tryz.info3 : (Tryz.prog.info? 3).map (fun i => (i.zero, i.size, i.bytes)) = some (some (.int .i64 0), 1, 8) := by kernel_rfl
set_option maxRecDepth 100000 in
set_option maxHeartbeats 4000000 in
theorem check_tx (v : TxV) (t : Tx) (w : World) (ht : isTx w v t w.heap.size) :
    Calls Tryz.prog 147 #[.agg v.arr] w fun e w' => e = .returned (.int .i64 (checkS t)) ∧ Below w.heap.size w w' := by
  obtain ⟨⟨hn1, hcc1, hr1⟩, ⟨hn2, hcc2, hr2⟩, hl⟩ := ht
  obtain ⟨⟨ia, il, ic⟩, ⟨oa, ol, oc⟩, lk⟩ := v
  simp only at hn1 hcc1 hr1 hn2 hcc2 hr2 hl
  subst hn1 hn2 hl
  have hbase : Below w.heap.size w (w.alloc (.cells (TxV.mk ⟨ia, t.ins.length, ic⟩ ⟨oa, t.outs.length, oc⟩ t.lock).arr 72)) := (Below.refl _ _).alloc (Nat.le_refl _) _
  obtain ⟨i0, hi0, hz0, hz1, hz2⟩ := info_parts Tryz.info3
  by_cases c1 : t.ins.length ≤ 100
  case neg =>
    have c1' : (100 : Int) < (t.ins.length : Int) := by omega
    go_enter Tryz.func147, Tryz.ntmps147
    go_wp2_with fail
    refine wp_scope_fwd 0 (by rfl) ?_
    go_wp2_with fail
    rw [jump_ret]
    go_ret
    exact ⟨ret_int (by unfold checkS; rw [if_pos (by omega)]), hbase⟩
  by_cases c2 : t.outs.length ≤ 100
  case neg =>
    have c2' : (100 : Int) < (t.outs.length : Int) := by omega
    go_enter Tryz.func147, Tryz.ntmps147
    go_wp2_with fail
    refine wp_scope_fwd 0 (by rfl) ?_
    go_wp2_with fail
    rw [jump_ret]
    go_ret
    exact ⟨ret_int (by unfold checkS; rw [if_pos (by omega)]), hbase⟩
  have e1 : decide ((100 : Int) < (t.ins.length : Int)) = false := by simp; omega
  have e2 : decide ((100 : Int) < (t.outs.length : Int)) = false := by simp; omega
  have hno3 : ¬ (100 < t.ins.length ∨ 100 < t.outs.length) := by omega
  by_cases c3 : t.ins.length < 1
  · have hS : Hid (checkS t = 1) := by unfold checkS Hid; rw [if_neg hno3, if_pos (by omega)]
    go_enter Tryz.func147, Tryz.ntmps147
    go_wp2_with fail
    refine wp_scope_fwd 0 (by rfl) ?_
    go_wp2_with fail
    go_step3
    refine ⟨rfl, ?_⟩
    show Code.wp _ _ _ _ _
    go_wp2_with fail
    rw [Exit.noGoto_ret]
    go_ret
    exact ⟨ret_int hS.out.symm, hbase⟩
  have e3 : ((t.ins.length : Int) == 0) = false := by rw [beq_eq_false_iff_ne]; omega
  go_enter Tryz.func147, Tryz.ntmps147
  go_wp2_with fail
  refine wp_scope_fwd 0 (by rfl) ?_
  go_wp2_with fail
  go_loopw [25] (fun i wr => ∃ k : Nat, k ≤ t.ins.length ∧ i = .int .i64 k ∧ Hid (∀ j, j < k → inGood t.ins j = true) ∧ Below w.heap.size w wr ∧ (∀ o, wr.cell? ⟨w.heap.size, o, none⟩ = (TxV.mk ⟨ia, t.ins.length, ic⟩ ⟨oa, t.outs.length, oc⟩ t.lock).arr[o]?) ∧ w.heap.size < wr.heap.size) (fun i _ => t.ins.length - (intOf i).toNat)
  case atStart => exact ⟨0, Nat.zero_le _, rfl, fun j h => by omega, hbase, fun o => by simp [go_sem], by simp⟩
  case round =>
    obtain ⟨k, hk, rfl, hgood, hbw, hcell, hz⟩ := hrel
    by_cases hlt : k < t.ins.length
    · obtain ⟨b0, off, rfl, hb0, hr⟩ := (hr1.below hbw).at hlt
      have hin := inAt_eq hlt
      have hkc' : k ≤ ic := by omega
      have hkc : (k : Int) ≤ (ic : Int) := by omega
      have hb3 : Below w.heap.size w (wr.alloc (.cells t.ins[k].arr 68)) := hbw.alloc (Nat.le_of_lt hz) _
      have hs1 : isSl (wr.alloc (.cells t.ins[k].arr 68)) ⟨some ⟨b0, off, none⟩, k, ic⟩ 37 In.arr (t.ins.take k) w.heap.size := ⟨by simp; omega, hkc', (hr1.below hb3).take k⟩
      by_cases d1 : inOk t.ins[k] = true
      · by_cases d2 : 0 ≤ spendsAt (t.ins.take k) t.ins[k].prev
        · have hbad : inGood t.ins k = false := by unfold inGood; rw [hin, decide_eq_false (by omega)]; simp
          clear hin
          have d2' : decide (0 ≤ spendsAt (t.ins.take k) t.ins[k].prev) = true := by simpa using d2
          have hS : Hid (checkS t = 1) := by unfold checkS Hid; rw [if_neg hno3, if_pos (by simp [insOk_false hlt hbad])]
          clear hbad
          go_wp2_with fail
          refine wp_region_below (by kernel_rfl) (by kernel_rfl) ?_
          repeat (go_big_quiet_step ((first | (go_at_call 185; exact Calls.regrown_of (in_tx _ _)) | (go_at_call 186; exact Calls.regrown_of (spends_tx _ (t.ins.take k) _ _ (hs1.regrown (by simp; omega) _ _) (by simp; omega))))))
          refine wpQuiet_nil ?_
          intro w2 hb_w2
          obtain ⟨hc_w2, hf_w2, hr_w2⟩ := bcell hb_w2
          go_wp2_with fail
          go_step3
          refine ⟨rfl, ?_⟩
          show Code.wp _ _ _ _ _
          go_wp2_with fail
          rw [Exit.noGoto_ret]
          go_ret
          exact ⟨ret_int hS.out.symm, hb3.trans (hb_w2.mono (by simp; omega))⟩
        · have hgk : Hid (inGood t.ins k = true) := by unfold Hid inGood; rw [hin, decide_eq_true (by omega), d1]; rfl
          clear hin
          have d2' : decide (0 ≤ spendsAt (t.ins.take k) t.ins[k].prev) = false := by simpa using d2
          go_wp2_with fail
          refine wp_region_below (by kernel_rfl) (by kernel_rfl) ?_
          repeat (go_big_quiet_step ((first | (go_at_call 185; exact Calls.regrown_of (in_tx _ _)) | (go_at_call 186; exact Calls.regrown_of (spends_tx _ (t.ins.take k) _ _ (hs1.regrown (by simp; omega) _ _) (by simp; omega))))))
          refine wpQuiet_nil ?_
          intro w2 hb_w2
          obtain ⟨hc_w2, hf_w2, hr_w2⟩ := bcell hb_w2
          go_wp2_with fail
          go_roundw
          case rel => exact ⟨k + 1, by omega, by go_num, fun j hj => by
            by_cases e : j = k
            · subst e; exact hgk.out
            · exact hgood.out j (by omega), hb3.trans (hb_w2.mono (by simp; omega)), fun o => by rw [hc_w2 _ _ (by simp; omega), World.cell?_alloc_past _ _ _ hz]; exact hcell o, by have := hb_w2.size; simp at this; omega⟩
          case measure => simp [intOf]; omega
      · have d1' : inOk t.ins[k] = false := by simpa using d1
        have hbad : inGood t.ins k = false := by unfold inGood; rw [hin, d1']; simp
        clear hin
        have hS : Hid (checkS t = 1) := by unfold checkS Hid; rw [if_neg hno3, if_pos (by simp [insOk_false hlt hbad])]
        clear hbad
        go_wp2_with fail
        refine wp_region_below (by kernel_rfl) (by kernel_rfl) ?_
        repeat (go_big_quiet_step ((first | (go_at_call 185; exact Calls.regrown_of (in_tx _ _)))))
        refine wpQuiet_nil ?_
        intro w2 hb_w2
        obtain ⟨hc_w2, hf_w2, hr_w2⟩ := bcell hb_w2
        go_wp2_with fail
        go_step3
        refine ⟨rfl, ?_⟩
        show Code.wp _ _ _ _ _
        go_wp2_with fail
        rw [Exit.noGoto_ret]
        go_ret
        exact ⟨ret_int hS.out.symm, hb3.trans (hb_w2.mono (by simp; omega))⟩
    · have hgi : Hid (insOk t.ins = true) := insOk_true (fun j hj => hgood.out j (by omega))
      clear hgood
      go_wp2_with fail
      go_loopw [3, 48] (fun vs i wr' => ∃ k2 : Nat, k2 ≤ t.outs.length ∧ i = .int .i64 k2 ∧ Hid (∀ j (h : j < t.outs.length), j < k2 → scriptOk t.outs[j].script = true) ∧ Below w.heap.size w wr' ∧ (∀ o, wr'.cell? ⟨w.heap.size, o, none⟩ = (TxV.mk ⟨ia, t.ins.length, ic⟩ ⟨oa, t.outs.length, oc⟩ t.lock).arr[o]?) ∧ w.heap.size < wr'.heap.size ∧ wr'.ownsRow (w.heap.size + 1) 3 1 vs k2 (intVs (valsOf (t.outs.take k2)))) (fun _ i _ => t.outs.length - (intOf i).toNat)
      case atStart => exact ⟨0, Nat.zero_le _, rfl, fun j _ h => by omega, hbw, hcell, hz, World.ownsRow_nil _ _ _ _⟩
      case round =>
        clear hbw hcell hz
        obtain ⟨k2, hk2, rfl, hsc, hbw, hcell, hz, hown⟩ := hrel
        by_cases hlt2 : k2 < t.outs.length
        · obtain ⟨b1, off1, rfl, hb1, hr1'⟩ := (hr2.below hbw).at hlt2
          have hb4 : Below w.heap.size w (wr.alloc (.cells t.outs[k2].arr 196)) := hbw.alloc (Nat.le_of_lt hz) _
          by_cases d3 : scriptOk t.outs[k2].script = true
          · have hmx : k2 + 1 ≤ maxLen := by unfold maxLen; omega
            go_wp2_with (first | (go_at_call 187; refine (script_tx _ _).mono ?_; rintro e w3 ⟨rfl, hb3⟩; obtain ⟨hc3, hf3, hr3⟩ := bcell hb3; have hown3 := ownsRow_below (hown.alloc _) hb3) | (at_builtin; refine wpList_append_own _ rfl _ _ 75 rfl (w.heap.size + 1) 3 i0 (.int .i64 0) 1 8 Tryz.underlying75 hi0 hz0 hz1 hz2 rfl (by decide) _ _ _ rfl (hown3.alloc _) ⟨w3.heap.size, 0, none⟩ 1 1 [.int .i64 t.outs[k2].value] rfl rfl (cell_one_new _ _ _) (by simp [Value.oneCell']) hmx (by omega) (by have := hb3.size; simp at this ⊢; omega) ?_))
            intro v' w4 hown4 hgrow4 _
            have hsz3 := hb3.size
            have hsz4 := hgrow4.size
            simp only [World.size_alloc] at hsz3 hsz4
            have hb5 : Below w.heap.size w w4 := ((hb4.trans (hb3.mono (by simp; omega))).alloc (by omega) _).grown hgrow4 (by simp; omega) (fun k hk => by have := (hown3.lt k hk).1; omega)
            have hcell4 : ∀ o, w4.cell? ⟨w.heap.size, o, none⟩ = (TxV.mk ⟨ia, t.ins.length, ic⟩ ⟨some ⟨b1, off1, none⟩, t.outs.length, oc⟩ t.lock).arr[o]? := fun o => by
              rw [own_far hown3 hgrow4 (Nat.lt_succ_self _) (by simp; omega) o, World.cell?_alloc_past _ _ _ (by omega), hc3 _ _ (by simp; omega), World.cell?_alloc_past _ _ _ hz]; exact hcell o
            clear hown3 hgrow4 hown hc3 hf3 hr3
            have Hx := Lib.hid (valsOf_succ hlt2)
            go_wp2_with fail
            go_roundw
            case rel => exact ⟨k2 + 1, by omega, by go_num, fun j hj hj2 => by
              by_cases e : j = k2
              · subst e; exact d3
              · exact hsc.out j hj (by omega), hb5, hcell4, by omega, by rw [Hx.out]; exact hown4⟩
            case measure => simp [intOf]; omega
          · have d3' : scriptOk t.outs[k2].script = false := by simpa using d3
            have hS : Hid (checkS t = 1) := by
              unfold checkS Hid; rw [if_neg hno3, if_pos]
              exact .inr (.inr (.inl (by rw [List.all_eq_false]; exact ⟨_, List.getElem_mem hlt2, by simp [d3']⟩)))
            go_wp2_with (go_at_call 187; refine (script_tx _ _).mono ?_; rintro e w3 ⟨rfl, hb3⟩)
            go_step3
            refine ⟨rfl, ?_⟩
            show Code.wp _ _ _ _ _
            go_wp2_with fail
            rw [Exit.noGoto_ret]
            go_ret
            exact ⟨ret_int hS.out.symm, hb4.trans (hb3.mono (by simp; omega))⟩
        · have hall : Hid (t.outs.all (fun o => scriptOk o.script) = true) := by
            unfold Hid; rw [List.all_eq_true]; intro x hx
            obtain ⟨j, hj, rfl⟩ := List.mem_iff_getElem.1 hx
            exact hsc.out j hj (by omega)
          clear hsc
          have hk2' : k2 = t.outs.length := by omega
          have hown' : wr.ownsRow (w.heap.size + 1) 3 1 u3 k2 (intVs (valsOf t.outs)) := by
            rw [hk2', List.take_length] at hown
            rw [hk2']; exact hown
          clear hown hk2'
          obtain ⟨va, vc, rfl, hvc, -⟩ := ownsRow_slice hown'
          obtain ⟨hkl, hin⟩ := intsAt_own hown'
          clear hown'
          subst hkl
          by_cases d4 : wth t.lock 0 1000000 = true
          · have hS : Hid (checkS t = (totalS 0 (valsOf t.outs)).2) := by
              unfold checkS Hid; rw [if_neg hno3, if_neg]
              rintro (h | h | h | h)
              · omega
              · rw [hgi.out] at h; simp at h
              · rw [hall.out] at h; simp at h
              · rw [d4] at h; simp at h
            go_wp2_with (first | (go_at_call 188; refine (within_tx _ _ _ _).mono ?_; rintro e w' ⟨rfl, rfl⟩) | (go_at_call 189; refine (total_am va vc _ _ (by rw [valsOf_length]; omega) hin).mono ?_; rintro e w' ⟨rfl, rfl⟩))
            rw [jump_ret]
            go_ret
            exact ⟨ret_int hS.out.symm, hbw⟩
          · have d4' : wth t.lock 0 1000000 = false := by simpa using d4
            have hS : Hid (checkS t = 1) := by
              unfold checkS Hid; rw [if_neg hno3, if_pos]
              exact .inr (.inr (.inr d4'))
            go_wp2_with (go_at_call 188; refine (within_tx _ _ _ _).mono ?_; rintro e w' ⟨rfl, rfl⟩)
            go_step3
            refine ⟨rfl, ?_⟩
            show Code.wp _ _ _ _ _
            go_wp2_with fail
            rw [Exit.noGoto_ret]
            go_ret
            exact ⟨ret_int hS.out.symm, hbw⟩
end Go.Proofs.YtlkojkjeklblkaaGreat
namespace Go.Proofs.YtlkojkjeklblkaaGreat
open Go.RowKit
def inB (i : In) : List UInt8 := i.prev.tx.l ++ encN [i.prev.n] ++ encN [i.seq]
def outB (o : Out) : List UInt8 := encN [o.value] ++ (encN o.script.ints ++ o.script.hash.l)
def bodyS (t : Tx) : List UInt8 := encN [(t.ins.length : Int)] ++ t.ins.flatMap inB ++ encN [(t.outs.length : Int)] ++ t.outs.flatMap outB ++ encN [t.lock]
def inNum (i : In) : Prop := OkNum i.prev.n ∧ OkNum i.seq
def outNum (o : Out) : Prop := OkNum o.value ∧ ∀ x ∈ o.script.ints, OkNum x
theorem flat_take {α : Type} (f : α → List UInt8) {l : List α} {k : Nat} (hk : k < l.length) : (l.take (k + 1)).flatMap f = (l.take k).flatMap f ++ f l[k] := by
  rw [List.take_succ_eq_append_getElem hk, List.flatMap_append]; simp
theorem flat_le {α : Type} (f : α → List UInt8) (c : Nat) (h : ∀ x, (f x).length ≤ c) (l : List α) : (l.flatMap f).length ≤ c * l.length := by
  induction l with
  | nil => simp
  | cons x l ih => have := h x; simp only [List.flatMap_cons, List.length_append, List.length_cons, Nat.mul_add]; omega
theorem inB_le (i : In) : (inB i).length ≤ 50 := by
  have h1 := encN_le [i.prev.n]; have h2 := encN_le [i.seq]
  simp only [inB, List.length_append, i.prev.tx.len, List.length_cons, List.length_nil] at *; omega
theorem outB_le (o : Out) : (outB o).length ≤ 95 := by
  have h1 := encN_le [o.value]; have h2 := encN_le o.script.ints
  simp only [outB, List.length_append, o.script.hash.len, List.length_cons, List.length_nil, Script.ints] at *; omega
theorem heldR_upd {w w' : World} {S : Nat → Prop} (h : Upd w w' S) {b o q n : Nat} {cs : Array Value} {v : Value} (hr : row? w ⟨b, q, none⟩ n = some cs ∧ w.cell? ⟨b, o, none⟩ = some v) (hb : b < w.heap.size) (hs : ¬ S b) : row? w' ⟨b, q, none⟩ n = some cs ∧ w'.cell? ⟨b, o, none⟩ = some v :=
  ⟨(h.row hb hs _ _).trans hr.1, (h.cell hb hs o).trans hr.2⟩
theorem heldR_alloc {w : World} {b o q n : Nat} {cs : Array Value} {v : Value} (hr : row? w ⟨b, q, none⟩ n = some cs ∧ w.cell? ⟨b, o, none⟩ = some v) (hb : b < w.heap.size) (x : Obj) : row? (w.alloc x) ⟨b, q, none⟩ n = some cs ∧ (w.alloc x).cell? ⟨b, o, none⟩ = some v :=
  heldR_upd (S := fun _ => False) (Upd.of_below ((Below.refl w.heap.size w).alloc (Nat.le_refl _) x) _) hr hb (fun h => h)
theorem ink_ge {w : World} {p : Nat} {s : Sl} {l : List UInt8} {B : Nat} (h : inkAt w p s l B) {k : Nat} (hk : inkFoot p s k) : B ≤ k := by
  rcases hk with rfl | hk
  · exact h.1
  · exact (h.2.2.1.lt k hk).1
theorem inkN_at (p : Nat) (s : Sl) (l : List UInt8) (m c : Nat) (xs : List Int) (t : TypeId) (W : World) (B : Nat) (hm : m = W.heap.size) (hB : B ≤ W.heap.size) (hk : inkAt W p s l B) (hx : ∀ x ∈ xs, OkNum x) (hlen : l.length + 9 * xs.length ≤ 140737488355328) :
    Calls Tryz.prog 126 #[.pointer (some ⟨p, 0, none⟩), .slice (some ⟨m, 0, none⟩) xs.length c] (W.alloc (.cells (xs.map (Value.int .i64)).toArray t (0, 0))) (RetInk W p s (l ++ encN xs) B) := by
  subst hm; exact inkN_new p s l c xs t W B hB hk hx hlen
set_option maxRecDepth 100000 in
set_option maxHeartbeats 1000000 in
theorem body_tx (v : TxV) (t : Tx) (w : World) (ht : isTx w v t w.heap.size) (h1 : t.ins.length ≤ 1000000) (h2 : t.outs.length ≤ 1000000) (hn1 : ∀ i ∈ t.ins, inNum i) (hn2 : ∀ o ∈ t.outs, outNum o) (hl : OkNum t.lock) :
    Calls Tryz.prog 150 #[.agg v.arr] w fun e w' => ∃ p s, e = .returned (.pointer (some ⟨p, 0, none⟩)) ∧ inkAt w' p s (bodyS t) w.heap.size ∧ Below w.heap.size w w' := by
  obtain ⟨⟨hm1, hcc1, hr1⟩, ⟨hm2, hcc2, hr2⟩, hlk⟩ := ht
  obtain ⟨⟨ia, il, ic⟩, ⟨oa, ol, oc⟩, lk⟩ := v
  simp only at hm1 hcc1 hr1 hm2 hcc2 hr2 hlk
  subst hm1 hm2 hlk
  go_enter Tryz.func150, Tryz.ntmps150
  go_wp2_with fail
  obtain ⟨B, hB⟩ : ∃ B, B = w.heap.size := ⟨_, rfl⟩
  obtain ⟨W, hW⟩ : ∃ W, W = (w.alloc (.cells (TxV.mk ⟨ia, t.ins.length, ic⟩ ⟨oa, t.outs.length, oc⟩ t.lock).arr 72)).alloc (.cells InkV.zero.arr 221) := ⟨_, rfl⟩
  have hbW : Below w.heap.size w W := hW ▸ ((Below.refl w.heap.size w).alloc (Nat.le_refl _) _).alloc (by simp) _
  have hWs : W.heap.size = w.heap.size + 1 + 1 := by rw [hW]; simp
  have hWp : W.heap[w.heap.size + 1]? = some (.cells (InkV.mk ⟨none, 0, 0⟩ false).arr 221 (0, 0)) := by
    rw [hW]; show ((w.heap.push _).push _)[w.heap.size + 1]? = _
    have : w.heap.size + 1 = (w.heap.push (.cells (TxV.mk ⟨ia, t.ins.length, ic⟩ ⟨oa, t.outs.length, oc⟩ t.lock).arr 72)).size := by simp
    rw [this, Array.getElem?_push_size]; rfl
  have hi0 : inkAt W (w.heap.size + 1) ⟨none, 0, 0⟩ [] (w.heap.size + 1) := ⟨by omega, hWp, World.ownsRow_nil _ _ _ _, by simp [Sl.v, Value.ownBlock]⟩
  have hbox : row? W ⟨w.heap.size, 0, none⟩ 3 = some (TxV.mk ⟨ia, t.ins.length, ic⟩ ⟨oa, t.outs.length, oc⟩ t.lock).arr := by
    rw [hW, row?_alloc_past _ _ _ _ (by simp), row?_alloc_at _ _ _ _ _ _ _ rfl]; simp
  rw [← hW]
  refine (inkN_at (w.heap.size + 1) ⟨none, 0, 0⟩ [] _ 1 [(t.ins.length : Int)] 3 W (w.heap.size + 1) hWs.symm (by omega) hi0 (by simp [OkNum]; omega) (by simp)).mono ?_
  rintro e w1 ⟨s1, rfl, hk1, hu1, hf1⟩
  clear hW
  have hbw1 : Below (w.heap.size + 1) W w1 := hu1.below (by omega) (fun k hk => by rcases hk with rfl | hk; omega; simp [Sl.v, Value.ownBlock] at hk)
  have hcl : ∀ X, Below (w.heap.size + 1) W X → X.cell? ⟨w.heap.size, 0, none⟩ = some (.slice ia t.ins.length ic) ∧ X.cell? ⟨w.heap.size, 1, none⟩ = some (.slice oa t.outs.length oc) ∧ X.cell? ⟨w.heap.size, 2, none⟩ = some (.int .i64 t.lock) := by
    intro X hX
    have c0 := row?_cellAt hbox 0 (by omega)
    have c1 := row?_cellAt hbox 1 (by omega)
    have c2 := row?_cellAt hbox 2 (by omega)
    rw [TxV.arr_0, Nat.add_zero] at c0
    rw [TxV.arr_1, Nat.zero_add] at c1
    rw [TxV.arr_2, Nat.zero_add] at c2
    exact ⟨(hX.cell (p := ⟨w.heap.size, 0, none⟩) (by simp)).trans c0, (hX.cell (p := ⟨w.heap.size, 1, none⟩) (by simp)).trans c1, (hX.cell (p := ⟨w.heap.size, 2, none⟩) (by simp)).trans c2⟩
  have HCL := Lib.hid hcl
  obtain ⟨c10, c11, c12⟩ := hcl w1 hbw1
  have hz1 : w.heap.size + 1 + 1 ≤ w1.heap.size := by have := hu1.size; omega
  clear hcl hbox hWp hi0
  go_wp2_with fail
  go_loopw [17] (fun i wr => ∃ (k : Nat) (s' : Sl), k ≤ t.ins.length ∧ i = .int .i64 k ∧ inkAt wr (w.heap.size + 1) s' (encN [(t.ins.length : Int)] ++ (t.ins.take k).flatMap inB) (w.heap.size + 1) ∧ Below (w.heap.size + 1) W wr) (fun i _ => t.ins.length - (intOf i).toNat)
  case atStart => exact ⟨0, s1, Nat.zero_le _, rfl, by simpa using hk1, hbw1⟩
  case round =>
    obtain ⟨k, s', hkl, rfl, hik, hbr⟩ := hrel
    have hzr : w.heap.size + 1 + 1 ≤ wr.heap.size := by have := hbr.size; omega
    by_cases hlt : k < t.ins.length
    · obtain ⟨b0, off, rfl, hb0, hr⟩ := (hr1.below (hbW.trans (hbr.mono (by omega)))).at hlt
      go_wp2_with fail
      obtain ⟨V, hV⟩ : ∃ V, V = wr.alloc (.cells t.ins[k].arr 68) := ⟨_, rfl⟩
      rw [← hV]
      have hbV : Below wr.heap.size wr V := hV ▸ (Below.refl wr.heap.size wr).alloc (Nat.le_refl _) _
      have hi1 : inkAt V (w.heap.size + 1) s' (encN [(t.ins.length : Int)] ++ (t.ins.take k).flatMap inB) (w.heap.size + 1) := hV ▸ hik.alloc _
      have hi2 := (hi1.drew).alloc (.cells #[.int .i64 t.ins[k].seq] 3)
      have hr0 : row? V ⟨wr.heap.size, 0, none⟩ 37 = some t.ins[k].arr := by rw [hV, row?_alloc_at _ _ _ _ _ _ _ rfl]; simp
      have hS0 : row? V.drew ⟨wr.heap.size, 0, none⟩ 33 = some t.ins[k].prev.arr ∧ V.drew.cell? ⟨wr.heap.size, 33, none⟩ = some (.int .i64 t.ins[k].seq) :=
        ⟨(row?_part hr0 0 33 (by omega)).trans (by rw [Nat.zero_add, In.ext_0]), by have := row?_cellAt hr0 33 (by omega); rw [In.arr_33, Nat.zero_add] at this; exact this⟩
      have hH : wr.heap.size < V.heap.size := by rw [hV]; simp
      have hHs : ¬ inkFoot (w.heap.size + 1) s' wr.heap.size := fun h => Nat.lt_irrefl _ (ink_lt hik h)
      have hBV : w.heap.size + 1 ≤ V.heap.size := by have := hbV.size; omega
      obtain ⟨hnp, hns⟩ := hn1 _ (List.getElem_mem hlt)
      have hNum : ∀ x ∈ [t.ins[k].seq], OkNum x := by simpa using hns
      obtain ⟨L, hL⟩ : ∃ L, L = encN [(t.ins.length : Int)] ++ (t.ins.take k).flatMap inB := ⟨_, rfl⟩
      rw [← hL] at hi1 hi2
      have hLl : L.length ≤ 50000009 := by
        have a1 := encN_le [(t.ins.length : Int)]
        have a2 := flat_le inB 50 inB_le (t.ins.take k)
        rw [hL]; simp only [List.length_append, List.length_cons, List.length_nil, List.length_take] at *; omega
      have hen := encN_le [t.ins[k].prev.n]
      have hLl2 : (L ++ t.ins[k].prev.tx.l ++ encN [t.ins[k].prev.n]).length + 9 * [t.ins[k].seq].length ≤ 140737488355328 := by
        simp only [List.length_append, t.ins[k].prev.tx.len, List.length_cons, List.length_nil] at *; omega
      have hLl1 : L.length + 41 ≤ 140737488355328 := by omega
      have HL := Lib.hid hL
      clear hr0 hV hL hik hen
      have hS2 := heldR_alloc hS0 hH (.cells #[.int .i64 t.ins[k].seq] 3 (0, 0))
      have hz2 : wr.heap.size < (V.drew.alloc (.cells #[.int .i64 t.ins[k].seq] 3 (0, 0))).heap.size := by simp; omega
      have hB2 : w.heap.size + 1 ≤ (V.drew.alloc (.cells #[.int .i64 t.ins[k].seq] 3 (0, 0))).heap.size := by simp; omega
      have hc2 : ∀ j (h : j < [t.ins[k].seq].length), (V.drew.alloc (.cells #[.int .i64 t.ins[k].seq] 3 (0, 0))).cell? ⟨V.heap.size, 0 + j, none⟩ = some (.int .i64 [t.ins[k].seq][j]) := by
        intro j hj
        have : j = 0 := by simpa using hj
        subst this
        exact (cells_known (w := V.drew.alloc (.cells #[.int .i64 t.ins[k].seq] 3 (0, 0))) (b := V.heap.size) (by show (V.heap.push _)[V.heap.size]? = _; rw [Array.getElem?_push_size])).1 0
      have hm2 : V.heap.size < (V.drew.alloc (.cells #[.int .i64 t.ins[k].seq] 3 (0, 0))).heap.size := by simp
      have hn2 : ¬ inkFoot (w.heap.size + 1) s' V.heap.size := fun h => Nat.lt_irrefl _ (ink_lt hi1 h)
      go_region_held3 (fun X : World => row? X ⟨wr.heap.size, 0, none⟩ 33 = some t.ins[k].prev.arr ∧ X.cell? ⟨wr.heap.size, 33, none⟩ = some (.int .i64 t.ins[k].seq)) (first | exact hS0 | exact hS1 | exact hS2 | exact heldR_alloc hS1 hzA _)
        (first | (go_at_call 191; refine (inkP _ s' L t.ins[k].prev V.drew _ hBV hi1 hnp hLl1).mono ?_; rintro e wA ⟨sA, rfl, hkA, huA, hfA⟩; have hBA : w.heap.size + 1 ≤ wA.heap.size := Nat.le_trans hBV huA.size; have hzA : wr.heap.size < wA.heap.size := Nat.lt_of_lt_of_le hH huA.size; have hS1 := heldR_upd huA hS0 hH hHs) | (go_at_call 126; refine (inkN_new _ sA (L ++ t.ins[k].prev.tx.l ++ encN [t.ins[k].prev.n]) 1 [t.ins[k].seq] 3 wA _ hBA hkA hNum hLl2).mono ?_; rintro e w2 hret; obtain ⟨s2, rfl, hk3, hu3, hf3⟩ := RetInk.trans huA hfA hret; have hS1 : row? w2 ⟨wr.heap.size, 0, none⟩ 33 = some t.ins[k].prev.arr ∧ w2.cell? ⟨wr.heap.size, 33, none⟩ = some (.int .i64 t.ins[k].seq) := heldR_upd hu3 hS0 hH hHs) | (go_at_call 191; refine (inkP _ s' L t.ins[k].prev (V.drew.alloc (.cells #[.int .i64 t.ins[k].seq] 3 (0, 0))) _ hB2 hi2 hnp hLl1).mono ?_; rintro e wB ⟨sB, rfl, hkB, huB, hfB⟩; have hS1 := heldR_upd huB hS2 hz2 hHs; have hBB : w.heap.size + 1 ≤ wB.heap.size := Nat.le_trans hB2 huB.size) | (go_at_call 126; refine (inkN _ sB (L ++ t.ins[k].prev.tx.l ++ encN [t.ins[k].prev.n]) V.heap.size 0 1 [t.ins[k].seq] wB _ hBB hkB hNum hLl2 (Nat.lt_of_lt_of_le hm2 huB.size) (fun h => (hfB _ h).elim hn2 (fun h => Nat.lt_irrefl _ (Nat.lt_of_lt_of_le hm2 h))) (fun j hj => (huB.cell hm2 hn2 _).trans (hc2 j hj))).mono ?_; rintro e w2 hret; obtain ⟨s2, rfl, hk3, hu3, hf3⟩ := RetInk.below (w := V.drew) ((Below.refl V.heap.size V.drew).alloc (Nat.le_refl _) _) (RetInk.trans huB hfB hret); have hS1 : row? w2 ⟨wr.heap.size, 0, none⟩ 33 = some t.ins[k].prev.arr ∧ w2.cell? ⟨wr.heap.size, 33, none⟩ = some (.int .i64 t.ins[k].seq) := heldR_upd hu3 hS0 hH hHs))
      all_goals
        have hb3 : Below (w.heap.size + 1) W w2 := hbr.trans ((hbV.mono (by omega)).trans ((Below.refl _ V).drew.trans (hu3.below hBV (fun k hk => ink_ge hi1 hk))))
        have hst : L ++ t.ins[k].prev.tx.l ++ encN [t.ins[k].prev.n] ++ encN [t.ins[k].seq] = encN [(t.ins.length : Int)] ++ (t.ins.take (k + 1)).flatMap inB := by
          rw [HL.out, flat_take inB hlt]; simp only [inB, List.append_assoc]
        rw [hst] at hk3
        clear hst
        go_wp2_with fail
        go_roundw
      all_goals first | exact ⟨k + 1, s2, by omega, by go_num, hk3, hb3⟩ | (simp [intOf]; omega)
    · have hke : k = t.ins.length := by omega
      subst hke
      rw [List.take_length] at hik
      obtain ⟨L1, hL1⟩ : ∃ L, L = encN [(t.ins.length : Int)] ++ t.ins.flatMap inB := ⟨_, rfl⟩
      rw [← hL1] at hik
      have hLl1 : L1.length ≤ 50000009 := by
        have a1 := encN_le [(t.ins.length : Int)]
        have a2 := flat_le inB 50 inB_le t.ins
        rw [hL1]; simp only [List.length_append, List.length_cons, List.length_nil] at *; omega
      have HL1 := Lib.hid hL1
      clear hL1
      have hcr := HCL.out wr hbr
      obtain ⟨cr0, cr1, cr2⟩ := hcr
      go_wp2_with fail
      refine (inkN_at (w.heap.size + 1) s' L1 _ 1 [(t.outs.length : Int)] 3 wr (w.heap.size + 1) rfl (by omega) hik (by simp [OkNum]; omega) (by simp; omega)).mono ?_
      rintro e w4 ⟨s4, rfl, hk4, hu4, hf4⟩
      have hb4 : Below (w.heap.size + 1) W w4 := hbr.trans (hu4.below (by omega) (fun k hk => ink_ge hik hk))
      have hz4 : w.heap.size + 1 + 1 ≤ w4.heap.size := by have := hb4.size; omega
      obtain ⟨c40, c41, c42⟩ := HCL.out w4 hb4
      go_wp2_with fail
      go_loopw [39] (fun i wr => ∃ (k : Nat) (s' : Sl), k ≤ t.outs.length ∧ i = .int .i64 k ∧ inkAt wr (w.heap.size + 1) s' (L1 ++ encN [(t.outs.length : Int)] ++ (t.outs.take k).flatMap outB) (w.heap.size + 1) ∧ Below (w.heap.size + 1) W wr) (fun i _ => t.outs.length - (intOf i).toNat)
      case atStart => exact ⟨0, s4, Nat.zero_le _, rfl, by simpa using hk4, hb4⟩
      case round =>
        clear hik hbr cr0 cr1 cr2 hk4 hu4 hf4 hb4 c40 c41 c42 hzr hz4 hlt hkl
        obtain ⟨k, s', hkl, rfl, hik, hbr⟩ := hrel
        have hzr : w.heap.size + 1 + 1 ≤ wr.heap.size := by have := hbr.size; omega
        by_cases hlt : k < t.outs.length
        · obtain ⟨b0, off, rfl, hb0, hr⟩ := (hr2.below (hbW.trans (hbr.mono (by omega)))).at hlt
          go_wp2_with fail
          obtain ⟨V, hV⟩ : ∃ V, V = wr.alloc (.cells t.outs[k].arr 196) := ⟨_, rfl⟩
          rw [← hV]
          have hbV : Below wr.heap.size wr V := hV ▸ (Below.refl wr.heap.size wr).alloc (Nat.le_refl _) _
          have hi1 : inkAt V (w.heap.size + 1) s' (L1 ++ encN [(t.outs.length : Int)] ++ (t.outs.take k).flatMap outB) (w.heap.size + 1) := hV ▸ hik.alloc _
          have hr0 : row? V ⟨wr.heap.size, 0, none⟩ 39 = some t.outs[k].arr := by rw [hV, row?_alloc_at _ _ _ _ _ _ _ rfl]; simp
          have hS0 : row? V.drew ⟨wr.heap.size, 1, none⟩ 38 = some t.outs[k].script.arr ∧ V.drew.cell? ⟨wr.heap.size, 0, none⟩ = some (.int .i64 t.outs[k].value) :=
            ⟨(row?_part hr0 1 38 (by omega)).trans (by rw [Out.ext_1]), by have := row?_cellAt hr0 0 (by omega); rw [Out.arr_0, Nat.zero_add] at this; exact this⟩
          have hH : wr.heap.size < V.heap.size := by rw [hV]; simp
          have hHs : ¬ inkFoot (w.heap.size + 1) s' wr.heap.size := fun h => Nat.lt_irrefl _ (ink_lt hik h)
          have hBV : w.heap.size + 1 ≤ V.heap.size := by have := hbV.size; omega
          obtain ⟨hnv, hns⟩ := hn2 _ (List.getElem_mem hlt)
          have hNum : ∀ x ∈ [t.outs[k].value], OkNum x := by simpa using hnv
          obtain ⟨L, hL⟩ : ∃ L, L = L1 ++ encN [(t.outs.length : Int)] ++ (t.outs.take k).flatMap outB := ⟨_, rfl⟩
          rw [← hL] at hi1
          have hLl : L.length ≤ 150000018 := by
            have a1 := encN_le [(t.outs.length : Int)]
            have a2 := flat_le outB 95 outB_le (t.outs.take k)
            rw [hL]; simp only [List.length_append, List.length_cons, List.length_nil, List.length_take] at *; omega
          have hen := encN_le [t.outs[k].value]
          have hLn1 : L.length + 9 * [t.outs[k].value].length ≤ 140737488355328 := by simp only [List.length_cons, List.length_nil]; omega
          have hLn2 : (L ++ encN [t.outs[k].value]).length + 86 ≤ 140737488355328 := by
            simp only [List.length_append, List.length_cons, List.length_nil] at *; omega
          have HL := Lib.hid hL
          clear hr0 hV hL hik hen
          have hS2 := heldR_alloc hS0 hH (.cells #[.int .i64 t.outs[k].value] 3 (0, 0))
          go_region_held3 (fun X : World => row? X ⟨wr.heap.size, 1, none⟩ 38 = some t.outs[k].script.arr ∧ X.cell? ⟨wr.heap.size, 0, none⟩ = some (.int .i64 t.outs[k].value)) (first | exact hS0 | exact hS1 | exact hS2)
            (first | (go_at_call 126; refine (inkN_new _ s' L 1 [t.outs[k].value] 3 V.drew _ hBV hi1.drew hNum hLn1).mono ?_; rintro e wA ⟨sA, rfl, hkA, huA, hfA⟩; have hBA : w.heap.size + 1 ≤ wA.heap.size := Nat.le_trans hBV huA.size; have hS1 := heldR_upd huA hS0 hH hHs) | (go_at_call 192; refine (inkS _ sA (L ++ encN [t.outs[k].value]) t.outs[k].script wA _ hBA hkA hns hLn2).mono ?_; rintro e w2 hret; obtain ⟨s2, rfl, hk3, hu3, hf3⟩ := RetInk.trans huA hfA hret; have hS1 : row? w2 ⟨wr.heap.size, 1, none⟩ 38 = some t.outs[k].script.arr ∧ w2.cell? ⟨wr.heap.size, 0, none⟩ = some (.int .i64 t.outs[k].value) := heldR_upd hu3 hS0 hH hHs))
          have hb3 : Below (w.heap.size + 1) W w2 := hbr.trans ((hbV.mono (by omega)).trans ((Below.refl _ V).drew.trans (hu3.below hBV (fun k hk => ink_ge hi1 hk))))
          have hst : L ++ encN [t.outs[k].value] ++ encN t.outs[k].script.ints ++ t.outs[k].script.hash.l = L1 ++ encN [(t.outs.length : Int)] ++ (t.outs.take (k + 1)).flatMap outB := by
            rw [HL.out, flat_take outB hlt]; simp only [outB, List.append_assoc]
          rw [hst] at hk3
          clear hst
          go_wp2_with fail
          go_roundw
          all_goals first | exact ⟨k + 1, s2, by omega, by go_num, hk3, hb3⟩ | (simp [intOf]; omega)
        · have hke : k = t.outs.length := by omega
          subst hke
          rw [List.take_length] at hik
          obtain ⟨L2, hL2⟩ : ∃ L, L = L1 ++ encN [(t.outs.length : Int)] ++ t.outs.flatMap outB := ⟨_, rfl⟩
          rw [← hL2] at hik
          have hLl2 : L2.length ≤ 150000018 := by
            have a1 := encN_le [(t.outs.length : Int)]
            have a2 := flat_le outB 95 outB_le t.outs
            rw [hL2]; simp only [List.length_append, List.length_cons, List.length_nil] at *; omega
          have hfin : L2 ++ encN [t.lock] = bodyS t := by rw [hL2, HL1.out]; rfl
          have HF := Lib.hid hfin
          clear hL2 hfin
          obtain ⟨cr0, cr1, cr2⟩ := HCL.out wr hbr
          go_wp2_with fail
          refine (inkN_at (w.heap.size + 1) s' L2 _ 1 [t.lock] 3 wr (w.heap.size + 1) rfl (by omega) hik (by simpa using hl) (by simp; omega)).mono ?_
          rintro e w5 ⟨s5, rfl, hk5, hu5, hf5⟩
          go_wp2_with fail
          go_ret
          refine ⟨w.heap.size + 1, s5, rfl, ?_, hbW.trans ((hbr.mono (by omega)).trans (hu5.below (by omega) (fun k hk => by have := ink_ge hik hk; omega)))⟩
          rw [HF.out] at hk5
          exact ⟨by have := hk5.1; omega, hk5.2.1, hk5.2.2.1.mono (by omega), hk5.2.2.2⟩
end Go.Proofs.YtlkojkjeklblkaaGreat
namespace Go.Proofs.YtlkojkjeklblkaaGreat
open Go.RowKit
def idS (t : Tx) : Hash := if checkS t = 0 then twiceS (bodyS t) else Hash.zero
theorem addS_money {s a : Int} (h : (addS s a).2 = 0) : money a = true := by
  unfold addS at h
  split at h
  · rename_i hm; simp at hm; exact hm.1.2
  · simp at h
theorem totalS_money : ∀ (l : List Int) (s : Int), (totalS s l).2 = 0 → ∀ a ∈ l, money a = true
  | [], _, _, a, ha => by cases ha
  | b :: l, s, h, a, ha => by
    unfold totalS at h
    split at h
    · rename_i h0
      rcases List.mem_cons.1 ha with rfl | ha
      · exact addS_money h0
      · exact totalS_money l _ h a ha
    · rename_i h0; exact absurd h h0
theorem wth_bd {n a b : Int} (h : wth n a b = true) : a ≤ n ∧ n ≤ b := wth_iff.1 h
/-- What a transaction that may be is like. -/
theorem checkS_ok {t : Tx} (h : checkS t = 0) : t.ins.length ≤ 100 ∧ t.outs.length ≤ 100 ∧ t.ins ≠ [] ∧ (∀ i ∈ t.ins, inNum i) ∧ (∀ o ∈ t.outs, outNum o) ∧ OkNum t.lock := by
  unfold checkS at h
  split at h
  · cases h
  · rename_i h1
    split at h
    · cases h
    · rename_i h2
      simp only [not_or, Nat.not_lt] at h1
      simp only [not_or, Bool.not_eq_false] at h2
      obtain ⟨h20, h21, h22, h23⟩ := h2
      refine ⟨h1.1, h1.2, fun e => h20 (by rw [e]; rfl), ?_, ?_, ?_⟩
      · intro i hi
        obtain ⟨k, hk, rfl⟩ := List.mem_iff_getElem.1 hi
        unfold insOk at h21
        rw [List.all_eq_true] at h21
        have := h21 k (by simpa using hk)
        unfold inGood at this
        rw [inAt_eq hk] at this
        simp only [Bool.and_eq_true] at this
        have h3 := this.1
        unfold inOk at h3
        simp only [Bool.and_eq_true] at h3
        have a1 := wth_bd h3.1.1
        have a2 := wth_bd h3.1.2
        unfold inNum OkNum
        omega
      · intro o ho
        rw [List.all_eq_true] at h22
        have h3 := h22 o ho
        have hm := money_iff.1 (totalS_money _ _ h o.value (List.mem_map.2 ⟨o, ho, rfl⟩))
        unfold scriptOk at h3
        simp only [Bool.and_eq_true] at h3
        obtain ⟨⟨⟨⟨⟨b1, b2⟩, b3⟩, b4⟩, b5⟩, b6⟩ := h3
        have b1 := wth_bd b1
        have b2 := wth_bd b2
        have b3 := wth_bd b3
        have b4 := wth_bd b4
        have b5 := wth_bd b5
        have b6 := wth_bd b6
        refine ⟨by unfold OkNum; omega, fun x hx => ?_⟩
        simp only [Script.ints, List.mem_cons, List.not_mem_nil, or_false] at hx
        unfold OkNum
        rcases hx with rfl | rfl | rfl | rfl | rfl | rfl <;> omega
      · have := wth_bd h23
        unfold OkNum; omega
theorem bodyS_le (t : Tx) (h1 : t.ins.length ≤ 1000000) (h2 : t.outs.length ≤ 1000000) : (bodyS t).length ≤ 200000000 := by
  have a1 := encN_le [(t.ins.length : Int)]
  have a2 := flat_le inB 50 inB_le t.ins
  have a3 := encN_le [(t.outs.length : Int)]
  have a4 := flat_le outB 95 outB_le t.outs
  have a5 := encN_le [t.lock]
  unfold bodyS
  simp only [List.length_append, List.length_cons, List.length_nil] at *
  omega
theorem bytesAt_ink {w : World} {p : Nat} {s : Sl} {l : List UInt8} {B : Nat} (h : inkAt w p s l B) : bytesAt w s l w.heap.size := by
  have hl := (h.2.2.1).1
  rw [byteVs_length] at hl
  obtain ⟨a, c, hs, hn, hg⟩ := ownsRow_slice h.2.2.1
  obtain ⟨sa, sn, sc⟩ := s
  unfold Sl.v at hs
  simp only [Value.slice.injEq] at hs
  obtain ⟨rfl, rfl, rfl⟩ := hs
  refine ⟨rfl, fun hne => ?_⟩
  obtain ⟨g, hga, hB, hlt⟩ := hg (by intro e; exact hne (List.eq_nil_of_length_eq_zero e))
  refine ⟨g, 0, hga, hlt, fun k hk => ?_⟩
  have := (h.2.2.1).cells (g := g) (by rw [Sl.v, hga]; rfl) k (byteV l[k]) (byteVs_get hk)
  have e : (⟨g, 0, none⟩ : Addr).add k = ⟨g, 0 + k, none⟩ := by unfold Addr.add; split <;> simp_all
  rw [e] at this
  exact this
set_option maxRecDepth 100000 in
set_option maxHeartbeats 1000000 in
theorem id_tx (v : TxV) (t : Tx) (w : World) (ht : isTx w v t w.heap.size) :
    Calls Tryz.prog 99 #[.agg v.arr] w fun e w' => e = .returned (.agg (idS t).arr) ∧ Below w.heap.size w w' := by
  by_cases h0 : checkS t = 0
  · have t0 : (checkS t != 0) = false := by simp [h0]
    have hok := checkS_ok h0
    have hbl := bodyS_le t (by omega) (by omega)
    have H0 := Lib.hid h0
    clear h0
    go_enter Tryz.func99, Tryz.ntmps99
    go_wp2_with fail
    obtain ⟨W, hW⟩ : ∃ W, W = (w.alloc (.cells v.arr 72)).alloc (.cells Hash.zero.arr 38) := ⟨_, rfl⟩
    obtain ⟨hb, hhb⟩ : ∃ hb, hb = w.heap.size + 1 := ⟨_, rfl⟩
    rw [← hW, ← hhb]
    have hbW : Below w.heap.size w W := hW ▸ ((Below.refl w.heap.size w).alloc (Nat.le_refl _) _).alloc (by simp) _
    have hWs : W.heap.size = w.heap.size + 2 := by rw [hW]; simp
    have hHW : W.heap[hb]? = some (.cells Hash.zero.arr 38 (0, 0)) := by rw [hW, hhb]; show ((w.heap.push _).push _)[w.heap.size + 1]? = _; rw [show w.heap.size + 1 = (w.heap.push (.cells v.arr 72)).size by simp, Array.getElem?_push_size]
    have hTW : row? W ⟨w.heap.size, 0, none⟩ 3 = some v.arr := by rw [hW, row?_alloc_past _ _ _ _ (by simp), row?_alloc_at _ _ _ _ _ _ _ rfl]; simp
    refine (check_tx v t W ((ht.below hbW).mono hbW.size)).mono ?_
    rintro e w1 ⟨rfl, hb1⟩
    have hT1 : row? w1 ⟨w.heap.size, 0, none⟩ 3 = some v.arr := by rw [row?_below hb1 (by simp; omega)]; exact hTW
    have hH1 : w1.heap[hb]? = some (.cells Hash.zero.arr 38 (0, 0)) := by rw [hb1.block hb (by omega)]; exact hHW
    have hb01 : Below w.heap.size w w1 := hbW.trans (hb1.mono (by omega))
    have hs1 := hb1.size
    have ht1 : isTx w1 v t w1.heap.size := (ht.below hb01).mono hb01.size
    have hge : w.heap.size ≤ hb := by omega
    have hlt1 : hb < w1.heap.size := by omega
    have HH1 := Lib.hid hH1
    clear hW hhb hWs hHW hTW hbW hb1 hH1
    go_wp2_with fail
    refine (body_tx v t w1 ht1 (by omega) (by omega) hok.2.2.2.1 hok.2.2.2.2.1 hok.2.2.2.2.2).mono ?_
    rintro e w2 ⟨p, s, rfl, hink, hb2⟩
    have hby := bytesAt_ink hink
    have hpb := hink.2.1
    obtain ⟨cp, fp, lp⟩ := cells_known hpb
    have cp0 : w2.cell? ⟨p, 0, none⟩ = some (.slice s.a s.n s.c) := by rw [cp]; exact InkV.arr_0 _
    have HBY := Lib.hid hby
    have hs2 := hb2.size
    clear hink hpb cp hby
    go_wp2_with fail
    refine (twice_sha w2.heap.size 1 s (bodyS t) 137 _ (by show (w2.heap.push _)[w2.heap.size]? = _; rw [Array.getElem?_push_size]) ((HBY.out.below ((Below.refl w2.heap.size w2).alloc (Nat.le_refl _) _)).mono (by simp)) (by omega)).mono ?_
    rintro e w3 ⟨rfl, hb3⟩
    have hb13 : Below w1.heap.size w1 w3 := hb2.trans ((((Below.refl w2.heap.size w2).alloc (Nat.le_refl _) _).trans (hb3.mono (by simp))).mono hs2)
    have HH3 : Hid (w3.heap[hb]? = some (.cells Hash.zero.arr 38 (0, 0))) := by unfold Hid; rw [hb13.block hb hlt1]; exact HH1.out
    have hs3 := hb13.size
    go_wp2_with (refine wpList_storeHash (.tmp 2) (.tmp 13) rfl rfl hb (twiceS (bodyS t)) Hash.zero rfl rfl HH3.out ?_; intro wz hhz huz)
    refine bodyPost_ret (results_cell_row rfl _ _ hb 38 (twiceS (bodyS t)).arr (0, 0) _ rfl hhz Tryz.underlying38 rfl (by rw [size_Hash]; simp)) rfl ⟨by unfold idS; rw [if_pos H0.out], ?_⟩
    exact hb01.trans ((hb13.mono hb01.size).trans (huz.below (by omega) (fun i e => by have e2 : i = hb := e; omega)))
  · have t0 : (checkS t != 0) = true := by simpa using h0
    have H0 := Lib.hid h0
    clear h0
    go_enter Tryz.func99, Tryz.ntmps99
    go_wp2_with fail
    obtain ⟨W, hW⟩ : ∃ W, W = (w.alloc (.cells v.arr 72)).alloc (.cells Hash.zero.arr 38) := ⟨_, rfl⟩
    obtain ⟨hb, hhb⟩ : ∃ hb, hb = w.heap.size + 1 := ⟨_, rfl⟩
    rw [← hW, ← hhb]
    have hbW : Below w.heap.size w W := hW ▸ ((Below.refl w.heap.size w).alloc (Nat.le_refl _) _).alloc (by simp) _
    have hWs : W.heap.size = w.heap.size + 2 := by rw [hW]; simp
    have hHW : W.heap[hb]? = some (.cells Hash.zero.arr 38 (0, 0)) := by rw [hW, hhb]; show ((w.heap.push _).push _)[w.heap.size + 1]? = _; rw [show w.heap.size + 1 = (w.heap.push (.cells v.arr 72)).size by simp, Array.getElem?_push_size]
    have hTW : row? W ⟨w.heap.size, 0, none⟩ 3 = some v.arr := by rw [hW, row?_alloc_past _ _ _ _ (by simp), row?_alloc_at _ _ _ _ _ _ _ rfl]; simp
    refine (check_tx v t W ((ht.below hbW).mono hbW.size)).mono ?_
    rintro e w1 ⟨rfl, hb1⟩
    have hT1 : row? w1 ⟨w.heap.size, 0, none⟩ 3 = some v.arr := by rw [row?_below hb1 (by simp; omega)]; exact hTW
    have hH1 : w1.heap[hb]? = some (.cells Hash.zero.arr 38 (0, 0)) := by rw [hb1.block hb (by omega)]; exact hHW
    have hb01 : Below w.heap.size w w1 := hbW.trans (hb1.mono (by omega))
    have hs1 := hb1.size
    have ht1 : isTx w1 v t w1.heap.size := (ht.below hb01).mono hb01.size
    have hge : w.heap.size ≤ hb := by omega
    have hlt1 : hb < w1.heap.size := by omega
    have HH1 := Lib.hid hH1
    clear hW hhb hWs hHW hTW hbW hb1 hH1
    go_wp2_with (refine wpList_storeHash (.tmp 2) (.tmp 6) rfl rfl hb Hash.zero Hash.zero rfl rfl HH1.out ?_; intro wz hhz huz)
    refine bodyPost_ret (results_cell_row rfl _ _ hb 38 Hash.zero.arr (0, 0) _ rfl hhz Tryz.underlying38 rfl (by rw [size_Hash]; simp)) rfl ⟨by unfold idS; rw [if_neg H0.out], ?_⟩
    exact hb01.trans (huz.below (by omega) (fun i e => by have e2 : i = hb := e; omega))
end Go.Proofs.YtlkojkjeklblkaaGreat
