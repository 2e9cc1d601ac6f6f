/- Package coraclelaw12: NotifyFull. -/
import Derived.Test.YtlkojkjeklblkaaGreatNfM
set_option linter.unusedSimpArgs false
set_option linter.unusedVariables false
namespace Go.Proofs.YtlkojkjeklblkaaGreat
open Go.RowKit Go.MapKept
section
variable {M : HubM}
/-- A hub that has taken in so many, and no block. -/
structure FullAt (M : HubM) (m : Int) (k : Nat) : Prop where
  most : M.most = m
  last : M.last = k
  rows : M.rows.length = k
  L : M.L = []
theorem regM_bad {r : Reg} (h : M.regE r ≠ 0) : M.regM r = M ∧ M.regN r = 0 := by
  unfold HubM.regM HubM.regN
  rw [if_neg h, if_neg h]
  exact ⟨rfl, rfl⟩
theorem FullAt.push {m : Int} {k : Nat} (h : FullAt M m k) {r : Reg} (he : M.regE r = 0) : FullAt (M.regM r) m (k + 1) ∧ M.regN r = (k : Int) + 1 := by
  unfold HubM.regM HubM.regN
  rw [if_pos he, if_pos he]
  refine ⟨⟨h.most, ?_, ?_, h.L⟩, by rw [h.last]⟩
  · show M.last + 1 = _; rw [h.last]; omega
  · rw [one_len]; simp [HubM.push, h.rows]
theorem FullAt.err {m : Int} {k : Nat} (h : FullAt M m k) (r : Reg) : M.regE r = if mayR r = false then 1 else if m ≤ (k : Int) then 4 else 0 := by
  unfold HubM.regE
  rw [h.most, h.rows]
theorem full_new (m : Int) : FullAt (HubM.new m) m 0 := ⟨rfl, rfl, rfl, rfl⟩
end
set_option maxRecDepth 100000 in
set_option maxHeartbeats 4000000 in
theorem notifyFull_nf (most n depth place : Int) (w : World) : Calls Tryz.prog 8 #[.int .i64 most, .int .i64 n, .int .i64 depth, .int .i64 place] w fun e w' => e = .returned (.bool true) ∧ Below w.heap.size w w' := by
  have hawake := awake12
  have HA := Lib.hid hawake
  clear hawake
  by_cases hin : most < 1 ∨ 60 < most ∨ n < 0 ∨ 70 < n
  · have haw := HA.out w
    have HIN := Lib.hid hin
    by_cases h1 : most < 1
    · have d1 : decide (most < 1) = true := decide_eq_true h1
      clear hin
      go_enter Tryz.func8, Tryz.ntmps8
      go_wp2_with fail
      refine haw.mono ?_
      rintro e w1 ⟨rfl, hb⟩
      go_wp2_with fail
      go_ret
      exact ⟨rfl, hb⟩
    have d1 : decide (most < 1) = false := decide_eq_false h1
    by_cases h2 : 60 < most
    · have d2 : decide (60 < most) = true := decide_eq_true h2
      clear hin
      go_enter Tryz.func8, Tryz.ntmps8
      go_wp2_with fail
      refine haw.mono ?_
      rintro e w1 ⟨rfl, hb⟩
      go_wp2_with fail
      go_ret
      exact ⟨rfl, hb⟩
    have d2 : decide (60 < most) = false := decide_eq_false h2
    by_cases h3 : n < 0
    · have d3 : decide (n < 0) = true := decide_eq_true h3
      clear hin
      go_enter Tryz.func8, Tryz.ntmps8
      go_wp2_with fail
      refine haw.mono ?_
      rintro e w1 ⟨rfl, hb⟩
      go_wp2_with fail
      go_ret
      exact ⟨rfl, hb⟩
    have d3 : decide (n < 0) = false := decide_eq_false h3
    have d4 : decide (70 < n) = true := decide_eq_true (by omega)
    clear hin
    go_enter Tryz.func8, Tryz.ntmps8
    go_wp2_with fail
    refine haw.mono ?_
    rintro e w1 ⟨rfl, hb⟩
    go_wp2_with fail
    go_ret
    exact ⟨rfl, hb⟩
  · have d1 : decide (most < 1) = false := decide_eq_false (by omega)
    have d2 : decide (60 < most) = false := decide_eq_false (by omega)
    have d3 : decide (n < 0) = false := decide_eq_false (by omega)
    have d4 : decide (70 < n) = false := decide_eq_false (by omega)
    have hnew := Nub.new most (by omega) w
    have HIN := Lib.hid hin
    clear hin
    go_enter Tryz.func8, Tryz.ntmps8
    go_wp2_with fail
    refine hnew.mono ?_
    rintro e w1 ⟨q, own, rfl, hN⟩
    clear hnew
    go_wp2_with fail
    have hin := HIN.out
    obtain ⟨n, rfl⟩ : ∃ k : Nat, n = (k : Int) := ⟨n.toNat, by omega⟩
    go_loopw [11, 12] (fun v11 v12 wr => ∃ (k j : Nat) (own' : Nat → Nat) (M : HubM), k ≤ n ∧ (j : Int) = min (k : Int) most ∧ v11 = .int .i64 j ∧ v12 = .int .i64 k ∧ FullAt M most j ∧ Nub w wr own' q M k) (fun _ v _ => n - (intOf v).toNat)
    case atStart => exact ⟨0, 0, own, _, Nat.zero_le _, by omega, rfl, rfl, full_new most, hN⟩
    case round =>
      obtain ⟨k, j, own', M, hk, hj, rfl, rfl, hM, hub⟩ := hrel
      by_cases hlt : k < n
      · have dlt : decide ((k : Int) < (n : Int)) = true := decide_eq_true (by omega)
        have hmay : mayR ⟨2, Hash.zero, 0, ⟨Hash.zero, (k : Int) % 100⟩, 0⟩ = true := by
          unfold mayR
          rw [if_neg (by show ¬ (2 : Int) = 1; decide), if_pos rfl]
          show (decide (0 ≤ (k : Int) % 100) && decide ((k : Int) % 100 < 100)) = true
          rw [decide_eq_true (by omega), decide_eq_true (by omega)]; rfl
        obtain ⟨x, hx⟩ : ∃ x : Reg, x = ⟨2, Hash.zero, 0, ⟨Hash.zero, (k : Int) % 100⟩, 0⟩ := ⟨_, rfl⟩
        have hE := hM.err x
        have hreg := hub.register (by omega) x
        rw [hx, hmay, if_neg (by decide), ← hx] at hE
        by_cases hkm : (k : Int) < most
        · have dkm : decide ((k : Int) < most) = true := decide_eq_true hkm
          have hjk : j = k := by omega
          subst hjk
          rw [if_neg (by omega)] at hE
          obtain ⟨hM2, hN2⟩ := hM.push hE
          rw [hE, hN2] at hreg
          have HREG := Lib.hid hreg
          have HM := Lib.hid hM2
          have HX := Lib.hid hx
          have HJ := Lib.hid hj
          clear hreg hub hM hM2 hE hmay hx hN2 hj
          go_wp2_with fail
          rw [show ({ kind := 2, tx := Reg.zero.tx, depth := Reg.zero.depth, point := { tx := Outpoint.zero.tx, n := (j : Int) % 100 }, height := Reg.zero.height } : Reg) = x from HX.out.symm]
          refine HREG.out.mono ?_
          rintro e w2 ⟨⟨sa, sn, sc⟩, own2, rfl, _, hub2, _⟩
          go_wp2_with fail
          exact ⟨⟨j + 1, j + 1, own2, _, by omega, by have := HJ.out; omega, rfl, rfl, HM.out, hub2⟩, by show n - (j + 1) < n - j; omega⟩
        · have dkm : decide ((k : Int) < most) = false := decide_eq_false hkm
          rw [if_pos (by omega)] at hE
          obtain ⟨hM2, hN2⟩ := regM_bad (M := M) (r := x) (by rw [hE]; decide)
          rw [hE, hN2, hM2] at hreg
          have HREG := Lib.hid hreg
          have HM := Lib.hid hM
          have HX := Lib.hid hx
          have HJ := Lib.hid hj
          clear hreg hub hM hM2 hE hmay hx hN2 hj
          go_wp2_with fail
          rw [show ({ kind := 2, tx := Reg.zero.tx, depth := Reg.zero.depth, point := { tx := Outpoint.zero.tx, n := (k : Int) % 100 }, height := Reg.zero.height } : Reg) = x from HX.out.symm]
          refine HREG.out.mono ?_
          rintro e w2 ⟨⟨sa, sn, sc⟩, own2, rfl, _, hub2, _⟩
          go_wp2_with fail
          exact ⟨⟨k + 1, j, own2, _, by omega, by have := HJ.out; omega, rfl, rfl, HM.out, hub2⟩, by show n - (k + 1) < n - k; omega⟩
      · have hkn : k = n := by omega
        subst hkn
        have dlt : decide ((k : Int) < (k : Int)) = false := decide_eq_false (by omega)
        obtain ⟨x1, hx1⟩ : ∃ x : Reg, x = ⟨1, Hash.zero, depth, Outpoint.zero, 0⟩ := ⟨_, rfl⟩
        obtain ⟨x2, hx2⟩ : ∃ x : Reg, x = ⟨2, Hash.zero, 0, ⟨Hash.zero, place⟩, 0⟩ := ⟨_, rfl⟩
        have m1 : mayR x1 = (decide (1 ≤ depth) && decide (depth ≤ 1000)) := by rw [hx1]; unfold mayR; rw [if_pos rfl]
        have m2 : mayR x2 = (decide (0 ≤ place) && decide (place < 100)) := by rw [hx2]; unfold mayR; rw [if_neg (by show ¬ (2 : Int) = 1; decide), if_pos rfl]
        obtain ⟨E1, hE1⟩ : ∃ E, E = M.regE x1 := ⟨_, rfl⟩
        obtain ⟨N1, hN1⟩ : ∃ E, E = M.regN x1 := ⟨_, rfl⟩
        obtain ⟨M1, hM1⟩ : ∃ E, E = M.regM x1 := ⟨_, rfl⟩
        obtain ⟨E2, hE2⟩ : ∃ E, E = M1.regE x2 := ⟨_, rfl⟩
        obtain ⟨N2, hN2⟩ : ∃ E, E = M1.regN x2 := ⟨_, rfl⟩
        have r1 := hub.register (by omega) x1
        rw [← hE1, ← hN1, ← hM1] at r1
        have e1 := hM.err x1
        rw [← hE1, m1] at e1
        have hF1 : ∃ j1 : Nat, FullAt M1 most j1 ∧ j1 = if E1 = 0 then j + 1 else j := by
          by_cases h0 : E1 = 0
          · rw [if_pos h0, hM1]; exact ⟨j + 1, (hM.push (by rw [← hE1]; exact h0)).1, rfl⟩
          · rw [if_neg h0, hM1, (regM_bad (by rw [← hE1]; exact h0)).1]; exact ⟨j, hM, rfl⟩
        obtain ⟨j1, hM1f, hj1⟩ := hF1
        have e2 := hM1f.err x2
        rw [← hE2, m2] at e2
        have R1 := Lib.hid r1
        have HX1 := Lib.hid hx1
        have HX2 := Lib.hid hx2
        have HE2 := Lib.hid hE2
        have HN2 := Lib.hid hN2
        have HE := Lib.hid (And.intro hj (And.intro hj1 (And.intro e1 e2)))
        clear hE1 hN1 hM1 hE2 hN2 r1 e1 hj1 e2 hM1f hM hub hj hlt hx1 hx2 m1 m2
        go_wp2_with fail
        rw [show ({ kind := 1, tx := Reg.zero.tx, depth := depth, point := Reg.zero.point, height := Reg.zero.height } : Reg) = x1 from HX1.out.symm]
        refine R1.out.mono ?_
        rintro e w2 ⟨⟨sa, sn, sc⟩, own2, rfl, _, hub2, _⟩
        have r2 := hub2.register (by omega) x2
        rw [← HE2.out, ← HN2.out] at r2
        clear hub2
        have R2 := Lib.hid r2
        clear r2
        go_wp2_with fail
        rw [show ({ kind := 2, tx := Reg.zero.tx, depth := Reg.zero.depth, point := { tx := Outpoint.zero.tx, n := place }, height := Reg.zero.height } : Reg) = x2 from HX2.out.symm]
        refine R2.out.mono ?_
        rintro e w3 ⟨⟨ta, tn, tc⟩, own3, rfl, _, hub3, _⟩
        have hb3 := hub3.below
        have haw := HA.out w3
        have HAW := Lib.hid haw
        have HB3 := Lib.hid hb3
        clear hub3 hb3 haw
        obtain ⟨hj, hj1, he1, he2⟩ := HE.out
        have split1 : (decide (depth < 1) = true ∧ E1 = 1) ∨ (decide (depth < 1) = false ∧ decide (1000 < depth) = true ∧ E1 = 1) ∨ (decide (depth < 1) = false ∧ decide (1000 < depth) = false ∧ decide (most ≤ (k : Int)) = true ∧ E1 = 4) ∨ (decide (depth < 1) = false ∧ decide (1000 < depth) = false ∧ decide (most ≤ (k : Int)) = false ∧ E1 = 0) := by
          by_cases h1 : depth < 1
          · exact .inl ⟨decide_eq_true h1, by rw [he1, if_pos]; rw [decide_eq_false (by omega)]; rfl⟩
          by_cases h2 : 1000 < depth
          · exact .inr (.inl ⟨decide_eq_false h1, decide_eq_true h2, by rw [he1, if_pos]; rw [decide_eq_false (p := depth ≤ 1000) (by omega), Bool.and_false]⟩)
          rw [decide_eq_true (p := 1 ≤ depth) (by omega), decide_eq_true (p := depth ≤ 1000) (by omega), Bool.and_self, if_neg (by decide)] at he1
          by_cases h3 : most ≤ (k : Int)
          · exact .inr (.inr (.inl ⟨decide_eq_false h1, decide_eq_false h2, decide_eq_true h3, by rw [he1, if_pos (by omega)]⟩))
          · exact .inr (.inr (.inr ⟨decide_eq_false h1, decide_eq_false h2, decide_eq_false h3, by rw [he1, if_neg (by omega)]⟩))
        have split2 : (decide (place < 0) = true ∧ E2 = 1) ∨ (decide (place < 0) = false ∧ decide (99 < place) = true ∧ E2 = 1) ∨ (decide (place < 0) = false ∧ decide (99 < place) = false ∧ decide (most ≤ (j1 : Int)) = true ∧ E2 = 4) ∨ (decide (place < 0) = false ∧ decide (99 < place) = false ∧ decide (most ≤ (j1 : Int)) = false ∧ E2 = 0) := by
          by_cases h1 : place < 0
          · exact .inl ⟨decide_eq_true h1, by rw [he2, if_pos]; rw [decide_eq_false (by omega)]; rfl⟩
          by_cases h2 : 99 < place
          · exact .inr (.inl ⟨decide_eq_false h1, decide_eq_true h2, by rw [he2, if_pos]; rw [decide_eq_false (p := place < 100) (by omega), Bool.and_false]⟩)
          rw [decide_eq_true (p := 0 ≤ place) (by omega), decide_eq_true (p := place < 100) (by omega), Bool.and_self, if_neg (by decide)] at he2
          by_cases h3 : most ≤ (j1 : Int)
          · exact .inr (.inr (.inl ⟨decide_eq_false h1, decide_eq_false h2, decide_eq_true h3, by rw [he2, if_pos h3]⟩))
          · exact .inr (.inr (.inr ⟨decide_eq_false h1, decide_eq_false h2, decide_eq_false h3, by rw [he2, if_neg h3]⟩))
        clear he1 he2
        have hj60 : (j : Int) ≤ 60 := by omega
        rcases split1 with ⟨p1, rfl⟩ | ⟨p1, p2, rfl⟩ | ⟨p1, p2, p3, rfl⟩ | ⟨p1, p2, p3, rfl⟩
        all_goals (first | rw [if_neg (by decide)] at hj1 | rw [if_pos rfl] at hj1)
        all_goals subst hj1
        all_goals clear HE hj
        all_goals rcases split2 with ⟨q1, rfl⟩ | ⟨q1, q2, rfl⟩ | ⟨q1, q2, q3, rfl⟩ | ⟨q1, q2, q3, rfl⟩
        all_goals (try rw [Int.natCast_add, Int.natCast_one] at q3)
        all_goals (go_wp2_with fail; refine HAW.out.mono ?_; rintro e w4 ⟨rfl, hb4⟩; have HB4 := Lib.hid hb4; clear hb4; go_wp2_with fail; go_ret; exact ⟨rfl, HB3.out.trans (HB4.out.mono HB3.out.size)⟩)
end Go.Proofs.YtlkojkjeklblkaaGreat
