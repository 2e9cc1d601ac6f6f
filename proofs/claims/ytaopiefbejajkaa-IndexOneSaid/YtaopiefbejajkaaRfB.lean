/- The document's own checks: money, scripts, witnesses, inputs. The document's own check of scripts. -/
import Derived.Test.YtaopiefbejajkaaTxD
import Derived.Test.YtaopiefbejajkaaTxJ
import Derived.Deep.DeepCutAuto
import Derived.Deep.CutBlock
import Derived.Deep.RegionLaw
set_option linter.unusedSimpArgs false
set_option linter.unusedVariables false
namespace Go.Proofs.Ytaopiefbejajkaa
open Go.RowKit
theorem money_ref (a : Int) (w : World) : Calls Try.prog 151 #[.int .i64 a] w fun e w' => e = .returned (.bool (money a)) ∧ w = w' := by
  go_enter Try.func151, Try.ntmps151
  go_wp2_with fail
  all_goals
    go_ret
    exact ⟨ret_bool (by first | (simp [money, *]; done) | (simp [money]; omega)), rfl⟩
theorem wadd_ref (a b : Int) (h : i64 a) (h2 : money a = true) (h3 : money b = true) : wrap64 (a + b) = a + b := by
  rw [money_iff] at h2 h3
  unfold wrap64; omega
set_option maxHeartbeats 1000000 in
theorem add_ref (a b : Int) (w : World) : Calls Try.prog 122 #[.int .i64 a, .int .i64 b] w fun e w' => e = .returned (.tuple #[.int .i64 (addS a b).1, .int .i64 (addS a b).2]) ∧ w = w' := by
  obtain ⟨ma, hma⟩ : ∃ ma, ma = money a := ⟨_, rfl⟩
  obtain ⟨mb, hmb⟩ : ∃ mb, mb = money b := ⟨_, rfl⟩
  have h1 := money_ref a w
  have h2 := money_ref b w
  rw [← hma] at h1
  rw [← hmb] at h2
  cases ma with
  | false =>
    have hf : Hid (addS a b = (0, 11)) := by unfold Hid addS; rw [← hma]; rfl
    clear hma hmb h2
    go_enter Try.func122, Try.ntmps122
    go_wp2_with (go_at_call 151; refine h1.mono ?_; rintro e w' ⟨rfl, rfl⟩)
    go_ret2
    exact ⟨by rw [hf.out]; rfl, rfl⟩
  | true =>
    cases mb with
    | false =>
      have hf : Hid (addS a b = (0, 11)) := by unfold Hid addS; rw [← hma, ← hmb]; rfl
      clear hma hmb
      go_enter Try.func122, Try.ntmps122
      go_wp2_with (first | (go_at_call 151; with_reducible refine h1.mono ?_; rintro e w' ⟨rfl, rfl⟩) | (go_at_call 151; with_reducible refine h2.mono ?_; rintro e w' ⟨rfl, rfl⟩))
      go_ret2
      exact ⟨by rw [hf.out]; rfl, rfl⟩
    | true =>
      have ha := money_iff.1 hma.symm
      have hb := money_iff.1 hmb.symm
      have hw : wrap64 (a + b) = a + b := by unfold wrap64; omega
      obtain ⟨mc, hmc⟩ : ∃ mc, mc = money (a + b) := ⟨_, rfl⟩
      have h3 := money_ref (a + b) w
      rw [← hmc] at h3
      have hf : Hid (addS a b = if mc then (a + b, 0) else (0, 11)) := by unfold Hid addS; rw [← hma, ← hmb, ← hmc]; cases mc <;> rfl
      clear hma hmb hmc ha hb
      cases mc with
      | false =>
        go_enter Try.func122, Try.ntmps122
        go_wp2_with (first | (go_at_call 151; with_reducible refine h1.mono ?_; rintro e w' ⟨rfl, rfl⟩) | (go_at_call 151; with_reducible refine h2.mono ?_; rintro e w' ⟨rfl, rfl⟩) | (go_at_call 151; with_reducible refine h3.mono ?_; rintro e w' ⟨rfl, rfl⟩))
        go_ret2
        exact ⟨by rw [hf.out]; rfl, rfl⟩
      | true =>
        go_enter Try.func122, Try.ntmps122
        go_wp2_with (first | (go_at_call 151; with_reducible refine h1.mono ?_; rintro e w' ⟨rfl, rfl⟩) | (go_at_call 151; with_reducible refine h2.mono ?_; rintro e w' ⟨rfl, rfl⟩) | (go_at_call 151; with_reducible refine h3.mono ?_; rintro e w' ⟨rfl, rfl⟩))
        go_ret2
        exact ⟨by rw [hf.out]; show Ending.returned (.tuple #[.int .i64 (wrap64 (a + b)), .int .i64 0]) = _; rw [hw]; rfl, rfl⟩
theorem addS_bad {s a : Int} (h : (addS s a).2 ≠ 0) : (addS s a).1 = 0 := by
  unfold addS at h ⊢
  split at h
  · exact absurd rfl h
  · rename_i h2; rw [if_neg h2]
set_option maxHeartbeats 1000000 in
theorem total_ref (a : Option Addr) (c : Nat) (l : List Int) (w : World) (hl : l.length ≤ 1000000) (hs : intsAt w a l w.heap.size) (hcc : l.length ≤ c) :
    Calls Try.prog 76 #[.slice a l.length c] w fun e w' => e = .returned (.tuple #[.int .i64 (totalS 0 l).1, .int .i64 (totalS 0 l).2]) ∧ w = w' := by
  go_enter Try.func76, Try.ntmps76
  go_wp2_with fail
  go_loopw [4, 5] (fun n i wr => ∃ (k : Nat) (s : Int), k ≤ l.length ∧ i = .int .i64 k ∧ n = .int .i64 s ∧ wr = w ∧ Hid (totalS 0 l = totalS s (l.drop k))) (fun _ i _ => l.length - (intOf i).toNat)
  case atStart => exact ⟨0, 0, Nat.zero_le _, rfl, rfl, rfl, rfl⟩
  case round =>
    obtain ⟨k, s, hk, rfl, rfl, rfl, ht⟩ := hrel
    by_cases hlt : k < l.length
    · obtain ⟨b, off, rfl, hb, hv⟩ := hs.at hlt
      have Hst := Lib.hid (totalS_step hlt ht.out)
      have k0 : (0 : Int) ≤ (k : Int) := by omega
      have k1 : (k : Int) < (l.length : Int) := by omega
      have dlt : decide ((k : Int) < (l.length : Int)) = true := decide_eq_true k1
      by_cases he : (addS s l[k]).2 = 0
      · have he' : ((addS s l[k]).2 != 0) = false := by simp [he]
        have Hhe := Lib.hid he
        clear he
        go_wp2_with (go_at_call 122; refine (add_ref _ _ _).mono ?_; rintro e w' ⟨rfl, rfl⟩)
        exact ⟨⟨k + 1, (addS s l[k]).1, by omega, by go_num, rfl, trivial, by rw [Hst.out, if_pos Hhe.out]; rfl⟩, by simp [intOf]; omega⟩
      · have he' : ((addS s l[k]).2 != 0) = true := by simpa using he
        have Hhe := Lib.hid he
        clear he
        go_wp2_with (go_at_call 122; refine (add_ref _ _ _).mono ?_; rintro e w' ⟨rfl, rfl⟩)
        go_ret2
        have h0 := addS_bad Hhe.out
        exact ⟨by rw [Hst.out, if_neg Hhe.out, h0]; rfl, rfl⟩
    · have dlt : decide ((k : Int) < (l.length : Int)) = false := decide_eq_false (by omega)
      go_wp2_with fail
      go_ret2
      have : k = l.length := by omega
      subst this
      exact ⟨by rw [ht.out]; simp [totalS], rfl⟩
set_option maxHeartbeats 1000000 in
theorem witness_ref (x : Witness) (w : World) : Calls Try.prog 121 #[.agg x.arr] w fun e w' => e = .returned (.bool (witOk x)) ∧ Below w.heap.size w w' := by
  go_enter Try.func121, Try.ntmps121
  go_wp2_with fail
  all_goals
    go_ret
    refine ⟨ret_bool ?_, (Below.refl _ _).alloc (Nat.le_refl _) _⟩
  all_goals first | (simp [witOk, wth, *, Bool.beq_comm]; done) | (simp [witOk, wth]; intros; omega)
set_option maxHeartbeats 1000000 in
theorem in1_ref (x : In) (w : World) : Calls Try.prog 74 #[.agg x.arr] w fun e w' => e = .returned (.bool (inOk x)) ∧ Below w.heap.size w w' := by
  go_enter Try.func74, Try.ntmps74
  go_wp2_with (go_at_call 121; refine (witness_ref _ _).mono ?_; rintro e w2 ⟨rfl, hb2⟩)
  all_goals
    go_ret
    first
      | refine ⟨ret_bool ?_, ((Below.refl _ _).alloc (Nat.le_refl _) _).trans (hb2.mono (by simp))⟩
      | refine ⟨ret_bool ?_, (Below.refl _ _).alloc (Nat.le_refl _) _⟩
  all_goals first | (simp [inOk, wth, *]; done) | (simp [inOk, wth]; intros; omega)
end Go.Proofs.Ytaopiefbejajkaa
namespace Go.Proofs.Ytaopiefbejajkaa
open Go.RowKit
def keysOf (s : Script) : List Int := [s.key, s.other, s.rev]
set_option maxRecDepth 100000 in
set_option maxHeartbeats 2000000 in
theorem valid_ref (s : Script) (w : World) : Calls Try.prog 75 #[.agg s.arr] w fun e w' => e = .returned (.bool (scriptOk s)) ∧ Below w.heap.size w w' := by
  go_enter Try.func75, Try.ntmps75
  go_wp2_with fail
  obtain ⟨W, hW⟩ : ∃ W, W = (w.alloc (.cells s.arr 34)).alloc (.cells #[.int .i64 s.key, .int .i64 s.other, .int .i64 s.rev] 3) := ⟨_, rfl⟩
  rw [← hW]
  have hbW : Below w.heap.size w W := hW ▸ ((Below.refl _ _).alloc (Nat.le_refl _) _).alloc (by simp) _
  have g1 : W.heap[w.heap.size]? = some (.cells s.arr 34 (0, 0)) := by rw [hW]; exact (heap_alloc_old _ _ (by simp)).trans (heap_alloc_new w _)
  have g2 : W.heap[w.heap.size + 1]? = some (.cells #[.int .i64 s.key, .int .i64 s.other, .int .i64 s.rev] 3 (0, 0)) := by rw [hW, show w.heap.size + 1 = (w.alloc (.cells s.arr 34)).heap.size by simp]; exact heap_alloc_new _ _
  have hc : ∀ k (h : k < (keysOf s).length), W.cell? ⟨w.heap.size + 1, k, none⟩ = some (.int .i64 (keysOf s)[k]) := by
    intro k hk
    rw [(cells_known g2).1]
    match k, hk with
    | 0, _ => rfl
    | 1, _ => rfl
    | 2, _ => rfl
  have c0 : W.cell? ⟨w.heap.size, 0, none⟩ = some (.int .i64 s.kind) := by rw [(cells_known g1).1]; exact Script.arr_0 s
  have c4 : W.cell? ⟨w.heap.size, 4, none⟩ = some (.int .i64 s.delay) := by rw [(cells_known g1).1]; exact Script.arr_4 s
  have c5 : W.cell? ⟨w.heap.size, 5, none⟩ = some (.int .i64 s.expiry) := by rw [(cells_known g1).1]; exact Script.arr_5 s
  have HC := Lib.hid hc
  clear g1 g2 hW hc
  go_loopw [4] (fun v wr => ∃ k : Nat, k ≤ 3 ∧ v = .int .i64 k ∧ wr = W ∧ Hid (∀ j (h : j < (keysOf s).length), j < k → wth (keysOf s)[j] 0 1073741824 = true)) (fun v _ => 3 - (intOf v).toNat)
  case atStart => exact ⟨0, by omega, rfl, rfl, fun j _ h => absurd h (by omega)⟩
  case round =>
    obtain ⟨k, hk, rfl, rfl, hok⟩ := hrel
    by_cases hlt : k < 3
    · have hkl : k < (keysOf s).length := hlt
      obtain ⟨x, hx⟩ : ∃ x, x = (keysOf s)[k] := ⟨_, rfl⟩
      have ck := HC.out k hkl
      rw [← hx] at ck
      have k0 : (0 : Int) ≤ (k : Int) := by omega
      have k1 : (k : Int) < 3 := by omega
      have dlt : decide ((k : Int) < 3) = true := decide_eq_true k1
      have HX := Lib.hid hx
      clear hx
      by_cases hb : wth x 0 1073741824 = true
      · have hok2 : Hid (∀ j (h : j < (keysOf s).length), j < k + 1 → wth (keysOf s)[j] 0 1073741824 = true) := fun j h hj => by
          by_cases e : j = k
          · subst e; rw [← HX.out]; exact hb
          · exact hok.out j h (by omega)
        have hbb := wth_iff.1 hb
        have e1 : decide (x < 0) = false := decide_eq_false (by omega)
        have e2 : decide (1073741824 < x) = false := decide_eq_false (by omega)
        clear hb hbb
        go_wp2_with fail
        exact ⟨⟨k + 1, by omega, by go_num, trivial, hok2⟩, by simp [intOf]; omega⟩
      · have hfin : Hid (scriptOk s = false) := by
          have hb2 : wth x 0 1073741824 = false := by simpa using hb
          rw [HX.out] at hb2
          unfold Hid scriptOk
          match k, hkl, hb2 with
          | 0, _, h => have h : wth s.key 0 1073741824 = false := h; rw [h]; rfl
          | 1, _, h => have h : wth s.other 0 1073741824 = false := h; rw [h]; simp
          | 2, _, h => have h : wth s.rev 0 1073741824 = false := h; rw [h]; simp
        have hbb : x < 0 ∨ 1073741824 < x := by
          by_cases h1 : x < 0
          · exact .inl h1
          · by_cases h2 : 1073741824 < x
            · exact .inr h2
            · exact absurd (wth_iff.2 ⟨by omega, by omega⟩) hb
        clear hb
        by_cases h1 : x < 0
        · have e1 : decide (x < 0) = true := decide_eq_true h1
          clear hbb
          go_wp2_with fail
          go_ret
          exact ⟨by rw [hfin.out]; rfl, hbW⟩
        · have e1 : decide (x < 0) = false := decide_eq_false h1
          have e2 : decide (1073741824 < x) = true := decide_eq_true (by omega)
          clear hbb
          go_wp2_with fail
          go_ret
          exact ⟨by rw [hfin.out]; rfl, hbW⟩
    · have dlt : decide ((k : Int) < 3) = false := decide_eq_false (by omega)
      have h3 : Hid (wth s.key 0 1073741824 = true ∧ wth s.other 0 1073741824 = true ∧ wth s.rev 0 1073741824 = true) :=
        ⟨hok.out 0 (by simp [keysOf]) (by omega), hok.out 1 (by simp [keysOf]) (by omega), hok.out 2 (by simp [keysOf]) (by omega)⟩
      have hfin : Hid (scriptOk s = (wth s.kind 1 6 && wth s.delay 0 65535 && wth s.expiry 0 1000000)) := by
        unfold Hid scriptOk
        rw [h3.out.1, h3.out.2.1, h3.out.2.2]; rfl
      go_wp2_with fail
      all_goals
        go_ret
        refine ⟨ret_bool ?_, hbW⟩
        rw [hfin.out]
      all_goals first | (simp [wth, *]; done) | (simp [wth]; intros; omega)
end Go.Proofs.Ytaopiefbejajkaa
