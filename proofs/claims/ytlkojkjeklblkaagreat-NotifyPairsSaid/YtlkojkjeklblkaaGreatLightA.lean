/- Contracts of package coraclealike: are transactions few, and light? -/
import Derived.Test.YtlkojkjeklblkaaGreatLight
import Derived.Test.YtlkojkjeklblkaaGreatIdxF
set_option linter.unusedSimpArgs false
set_option linter.unusedVariables false
namespace Go.Proofs.YtlkojkjeklblkaaGreat
open Go.RowKit
def allLightS (l : List Tx) (most : Int) : Bool := decide ((l.length : Int) ≤ most) && l.all (fun t => lightS t most)
theorem allLight_no {l : List Tx} {most : Int} {k : Nat} (hk : k < l.length) (h : lightS l[k] most = false) : allLightS l most = false := by
  unfold allLightS
  have : l.all (fun t => lightS t most) = false := by
    rw [List.all_eq_false]
    exact ⟨_, List.getElem_mem hk, by simp [h]⟩
  rw [this]; simp
theorem allLight_yes {l : List Tx} {most : Int} (hl : (l.length : Int) ≤ most) (h : ∀ k (hk : k < l.length), lightS l[k] most = true) : allLightS l most = true := by
  unfold allLightS
  rw [decide_eq_true hl, Bool.true_and, List.all_eq_true]
  intro x hx
  obtain ⟨k, hk, rfl⟩ := List.mem_iff_getElem.1 hx
  exact h k hk
set_option maxRecDepth 100000 in
set_option maxHeartbeats 1000000 in
theorem all_light (s : Sl) (vs : List TxV) (l : List Tx) (most : Int) (w : World) (h : txsAt w s vs l) (hm : most ≤ 1000000) :
    Calls Tryz.prog 48 #[.slice s.a s.n s.c, .int .i64 most] w fun e w' => e = .returned (.bool (allLightS l most)) ∧ Below w.heap.size w w' := by
  obtain ⟨⟨hm1, hcc1, hr1⟩, hvl, htx⟩ := h
  obtain ⟨sa, sn, sc⟩ := s
  simp only at hm1 hcc1 hr1
  rw [hvl] at hm1
  subst hm1
  by_cases c1 : most < (l.length : Int)
  · have e1 : decide (most < (l.length : Int)) = true := decide_eq_true c1
    have hS : Hid (allLightS l most = false) := by unfold Hid allLightS; rw [decide_eq_false (by omega)]; rfl
    clear c1
    go_enter Tryz.func48, Tryz.ntmps48
    go_wp2_with fail
    go_ret
    exact ⟨by rw [hS.out]; rfl, Below.refl _ _⟩
  · have e1 : decide (most < (l.length : Int)) = false := decide_eq_false c1
    have hlm : (l.length : Int) ≤ most := by omega
    have HLM := Lib.hid hlm
    have HTX := Lib.hid htx
    have HVL := Lib.hid hvl
    have HR := Lib.hid hr1
    clear c1 htx hvl hlm hr1
    go_enter Tryz.func48, Tryz.ntmps48
    go_wp2_with fail
    go_loopw [5] (fun v wr => ∃ k : Nat, k ≤ l.length ∧ v = .int .i64 k ∧ Hid (∀ j (hj : j < l.length), j < k → lightS l[j] most = true) ∧ Below w.heap.size w wr) (fun v _ => l.length - (intOf v).toNat)
    case atStart => exact ⟨0, Nat.zero_le _, rfl, fun j _ h => absurd h (by omega), Below.refl _ _⟩
    case round =>
      obtain ⟨k, hk, rfl, hall, hbr⟩ := hrel
      by_cases hlt : k < l.length
      · have hvk : k < vs.length := by rw [HVL.out]; exact hlt
        obtain ⟨b0, off, rfl, hb0, hr⟩ := (HR.out.below hbr).at hvk
        have hli := light_al vs[k] l[k] most wr (((HTX.out k hvk hlt).below hbr).mono hbr.size) hm
        have e2 : decide ((k : Int) < (l.length : Int)) = true := decide_eq_true (by omega)
        have j0 : (0 : Int) ≤ (k : Int) := by omega
        have j1 : (k : Int) < (l.length : Int) := by omega
        have j2 : k < 1000000 := by have := HLM.out; omega
        obtain ⟨b, hb⟩ : ∃ b, b = lightS l[k] most := ⟨_, rfl⟩
        rw [← hb] at hli
        have HB : Hid (lightS l[k] most = b) := hb.symm
        have HNO : b = false → Hid (allLightS l most = false) := fun h => allLight_no hlt (hb.symm.trans h)
        obtain ⟨x, hx⟩ : ∃ x, x = vs[k] := ⟨_, rfl⟩
        rw [← hx] at hli hr
        clear hb hx
        cases b with
        | false =>
          have HN2 := HNO rfl
          clear HB hall HNO
          go_wp2_with fail
          refine hli.mono ?_
          rintro e w2 ⟨rfl, hb2⟩
          go_wp2_with fail
          go_ret
          exact ⟨by rw [HN2.out]; rfl, hbr.trans (hb2.mono hbr.size)⟩
        | true =>
          clear HNO
          go_wp2_with fail
          refine hli.mono ?_
          rintro e w2 ⟨rfl, hb2⟩
          clear hli
          go_wp2_with fail
          refine ⟨⟨k + 1, by omega, by go_num, fun j hj h => ?_, hbr.trans (hb2.mono hbr.size)⟩, by simp [intOf]; omega⟩
          by_cases e : j = k
          · subst e; exact HB.out
          · exact hall.out j hj (by omega)
      · obtain rfl : k = l.length := by omega
        clear hlt hk
        go_wp2_with fail
        go_ret
        exact ⟨by rw [allLight_yes HLM.out (fun j hj => hall.out j hj hj)]; rfl, hbr⟩
end Go.Proofs.YtlkojkjeklblkaaGreat
