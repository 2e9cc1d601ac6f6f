/- WalTurns: whatever the turns, the law returns true. -/
import Derived.Test.YtkiindgcbpkddaaWalA
import Derived.Test.YtkiindgcbpkddaaRow1
set_option linter.unusedSimpArgs false
set_option linter.unusedVariables false
namespace Go.Proofs.Ytkiindgcbpkddaa
open Go.RowKit Go.Sort
def nmA : Nm := ⟨⟨#[97]⟩, by decide⟩
theorem nmA40 : nmA.1.size ≤ 40 := by decide
def nmB : Nm := ⟨⟨#[98]⟩, by decide⟩
theorem nmB40 : nmB.1.size ≤ 40 := by decide
theorem names_ab : Names2 nmA nmB nmA40 nmB40 := ⟨by decide, by decide, by decide, by decide⟩
section
variable {W0 w w' : World} {own : Nat → Nat} {p : Nat} {M : FsM} {n ja qa : Nat} {La : LogM} {jb qb : Nat} {Lb : LogM}
theorem Duo.reopen (h : Duo W0 w own p M n ja qa La jb qb Lb) (hn : n ≤ 1000000000) (s : Nm) (hs : La.name = s) :
    Calls Try.prog 39 #[.pointer (some ⟨p, 0, none⟩), .string s.1] w fun e w' => ∃ q, e = .returned (.tuple #[.pointer (some ⟨q, 0, none⟩), .int .i64 0]) ∧ ∃ own' La', Duo W0 w' own' p M n ja q La' jb qb Lb ∧ La'.recs = La.recs ∧ La'.name = La.name ∧ Keep0 own own' w w' := by
  obtain ⟨j1, j2, j3, j4, j5⟩ := h.j
  subst hs
  refine (log_open (i := 1) (j := ja) La.name h.oa.name h.oa.some_ La.recs j2.symm h.fs h.pow hn h.oa.file h.oa.tmp h.oa.recs).mono ?_
  rintro e w' ⟨q, rfl, own', b1, b2, b3, b4⟩
  exact ⟨q, rfl, own', ⟨La.name, La.recs, (framesS La.recs).length, false⟩, ⟨b2, h.pow, b3, h.lb.upd b1 b4 (fun k hk e => j4 (hk.symm.trans e)), ⟨h.oa.name, h.oa.some_, rfl, h.oa.file, rfl, h.oa.tmp, h.oa.recs⟩, h.ob, h.names, h.j, h.fresh.same b1 h.below.size, h.below.trans (h.fresh.below b4 (by decide) h.below.size)⟩, rfl, rfl,
    b1, b4.mono (fun k _ e => by rw [e]; decide)⟩
end
/-- What is recorded behind so many turns. -/
def pastS (ts : List Turn) (k : Nat) : List (List UInt8) := (ts.take k).foldl thenS []
theorem pastS_succ (ts : List Turn) (k : Nat) (h : k < ts.length) : pastS ts (k + 1) = thenS (pastS ts k) ts[k] := by
  unfold pastS
  rw [List.take_succ_eq_append_getElem h, List.foldl_append]
  rfl
theorem pastS_few (ts : List Turn) : ∀ k, Few (5 * k) (pastS ts k)
  | 0 => ⟨by simp [pastS], fun b hb => by simp [pastS] at hb⟩
  | k + 1 => by
    by_cases h : k < ts.length
    · rw [pastS_succ ts k h]
      have := (pastS_few ts k).then ts[k]
      rwa [show 5 * k + 5 = 5 * (k + 1) by omega] at this
    · have e : pastS ts (k + 1) = pastS ts k := by unfold pastS; rw [List.take_of_length_le (by omega), List.take_of_length_le (by omega)]
      rw [e]
      exact ⟨by have := (pastS_few ts k).1; omega, (pastS_few ts k).2⟩
theorem pastS_stay (ts : List Turn) (k : Nat) (h : ts.length ≤ k) : pastS ts (k + 1) = pastS ts k := by unfold pastS; rw [List.take_of_length_le (by omega), List.take_of_length_le (by omega)]
theorem setO_zero {own : Nat → Nat} {n g : Nat} (h : own g = 0 ∨ n ≤ g) : setO own n 0 g = 0 := by
  by_cases hg : g < n
  · rw [setO_old hg]; exact h.resolve_right (by omega)
  · exact setO_new (by omega)
set_option maxRecDepth 100000 in
set_option maxHeartbeats 16000000 in
theorem turns_any (s0 : Sl) (l0 : List Turn) (s1 : Sl) (l1 : List Turn) (w : World) (h0 : structsAt Turn.arr 3 w s0 l0) (h1 : structsAt Turn.arr 3 w s1 l1) (g0 : ∀ x ∈ l0, x.wf) (g1 : ∀ x ∈ l1, x.wf) :
    Calls Try.prog 9 #[.slice s0.a s0.n s0.c, .slice s1.a s1.n s1.c] w fun e w' => e = .returned (.bool true) ∧ Below w.heap.size w w' := by
  obtain ⟨a0, n0, c0⟩ := s0
  obtain ⟨a1, n1, c1⟩ := s1
  have hn0 : n0 = l0.length := h0.1
  have hn1 : n1 = l1.length := h1.1
  subst hn0 hn1
  have HA := Lib.hid h0
  have HB := Lib.hid h1
  have GA := Lib.hid g0
  have GB := Lib.hid g1
  clear h0 h1 g0 g1
  by_cases q0 : l0.length ≤ 30
  · by_cases q1 : l1.length ≤ 30
    · have d0 : decide ((30 : Int) < (l0.length : Int)) = false := decide_eq_false (by omega)
      have d1 : decide ((30 : Int) < (l1.length : Int)) = false := decide_eq_false (by omega)
      go_enter Try.func9, Try.ntmps9
      go_wp2_with fail
      refine (new_fs w).mono ?_
      rintro e w1 ⟨p, rfl, h1, b1⟩
      have F0 : Fresh (setO (fun _ => 0) w.heap.size 1) w.heap.size := fun k hk => setO_old hk
      have hF1 : fsAt w1 (zn (setO (fun _ => 0) w.heap.size 1) 1) p fs0 := h1.zone (fun k hk hz => setO_new hz)
      have ho := log_open (j := 2) nmA nmA40 (by decide) [] (by decide) hF1 Pow.zero (by decide) (.inl ⟨rfl, rfl⟩) rfl (by simp)
      have B1 := Lib.hid b1
      have HF0 := Lib.hid F0
      clear h1 b1 hF1 F0
      go_wp2_with fail
      refine ho.mono ?_
      rintro e w2 ⟨qa, rfl, own2, so2, hF2, hL2, u2⟩
      have F2 := HF0.out.same so2 B1.out.size
      have b2 := B1.out.trans (HF0.out.below u2 (by decide) B1.out.size)
      have ho3 := log_open (i := 1) (j := 3) nmB nmB40 (by decide) [] (by decide) hF2 Pow.zero (by decide) (.inl ⟨rfl, rfl⟩) rfl (by simp)
      have HF2 := Lib.hid F2
      have B2 := Lib.hid b2
      have HL2 := Lib.hid hL2
      clear ho so2 u2 hF2 hL2 F2 b2 HF0 B1
      go_wp2_with fail
      refine ho3.mono ?_
      rintro e w3 ⟨qb, rfl, own3, so3, hF3, hL3, u3⟩
      have hD3 : Duo w w3 own3 p fs0 0 2 qa ⟨nmA, [], (framesS []).length, false⟩ 3 qb ⟨nmB, [], (framesS []).length, false⟩ :=
        ⟨hF3, Pow.zero, HL2.out.upd so3 u3 (fun k h e => by have : (2 : Nat) = 1 := h.symm.trans e; omega), hL3, LogOk.new nmA nmA40 (by decide) rfl rfl, LogOk.new nmB nmB40 (by decide) rfl rfl, names_ab, by decide, HF2.out.same so3 B2.out.size, B2.out.trans (HF2.out.below u3 (by decide) B2.out.size)⟩
      clear ho3 so3 hF3 hL3 u3 HL2 HF2 B2
      have HD3 := Lib.hid hD3
      clear hD3
      go_wp2_with fail
      go_loopw [6, 10, 11, 12] (fun v6 v10 v11 v12 wr => ∃ (k : Nat) (own : Nat → Nat) (M : FsM) (qa : Nat) (La Lb : LogM) (sx : Sl) (vx : List Sl) (sy : Sl) (vy : List Sl), k ≤ max l0.length l1.length ∧ v12 = .int .i64 k ∧ v6 = .pointer (some ⟨qa, 0, none⟩) ∧ v10 = .slice sx.a sx.n sx.c ∧ v11 = .slice sy.a sy.n sy.c ∧ Duo w wr own p M (6 * k) 2 qa La 3 qb Lb ∧ Hid (La.recs = pastS l0 k) ∧ Hid (Lb.recs = pastS l1 k) ∧ Hid (La.name = nmA) ∧ listsZ wr (fun g => own g = 0) sx vx (pastS l0 k) ∧ listsZ wr (fun g => own g = 0) sy vy (pastS l1 k)) (fun _ _ _ v _ => max l0.length l1.length - (intOf v).toNat)
      case atStart => exact ⟨0, own3, fs0, qa, _, _, ⟨none, 0, 0⟩, [], ⟨none, 0, 0⟩, [], Nat.zero_le _, rfl, rfl, rfl, rfl, HD3.out, rfl, rfl, rfl, ⟨rfl, Nat.le_refl _, rfl, fun h => absurd rfl h, fun g h => absurd h (by simp [pastS])⟩, ⟨rfl, Nat.le_refl _, rfl, fun h => absurd rfl h, fun g h => absurd h (by simp [pastS])⟩⟩
      case round =>
        obtain ⟨k, own, M, qc, La, Lb, sx, vx, sy, vy, hk, rfl, rfl, rfl, rfl, hD, hRa, hRb, hN, hX, hY⟩ := hrel
        clear HD3
        have HD := Lib.hid hD
        have HX := Lib.hid hX
        have HY := Lib.hid hY
        clear hD hX hY
        by_cases hlt : k < max l0.length l1.length
        · have dlt : decide ((k : Int) < ((max l0.length l1.length : Nat) : Int)) = true := decide_eq_true (by omega)
          by_cases hl1 : k < l1.length
          · have dl1 : decide ((k : Int) < (l1.length : Int)) = true := decide_eq_true (by omega)
            obtain ⟨bb, offb, hab, hblb, hcb⟩ := HB.out.2.2.2 (by intro e; rw [e] at hl1; simp at hl1)
            simp only at hab
            subst hab
            obtain ⟨u, hu⟩ : ∃ u, u = l1[k] := ⟨_, rfl⟩
            have hwu := GB.out _ (List.getElem_mem hl1)
            rw [← hu] at hwu
            have HU := Lib.hid hu
            have HCB := Lib.hid hcb
            clear hu hcb
            by_cases hl0 : k < l0.length
            case' neg =>
              have dl0 : decide ((k : Int) < (l0.length : Int)) = false := decide_eq_false (by omega)
              have hpx := pastS_stay l0 k (by omega)
              have HD7 := Lib.hid (HD.out.mono (by omega : 6 * k ≤ 6 * k + 3))
              have HR7 := Lib.hid (hRa.out.trans hpx.symm)
              have HN7 := hN
              have hX7 := HX.out
              rw [← hpx] at hX7
              have HX7 := Lib.hid hX7
              have HY7 := HY
              clear hpx hX7
            case' pos =>
              have dl0 : decide ((k : Int) < (l0.length : Int)) = true := decide_eq_true (by omega)
              obtain ⟨b, off, ha, hbl, hc⟩ := HA.out.2.2.2 (by intro e; rw [e] at hl0; simp at hl0)
              simp only at ha
              subst ha
              have hrk := (row?_below HD.out.below (a := ⟨b, off + k * 3, none⟩) hbl 3).trans (hc k hl0)
              obtain ⟨t, ht⟩ : ∃ t, t = l0[k] := ⟨_, rfl⟩
              rw [← ht] at hrk
              have hw := GA.out _ (List.getElem_mem hl0)
              rw [← ht] at hw
              have HC := Lib.hid hc
              have HT := Lib.hid ht
              clear hc ht
              go_wp2_with fail
              have hnow := now_8 t HD.out (by omega) hw (show Few (5 * k) La.recs from (by rw [hRa.out]; exact pastS_few l0 k)) (by omega)
              have hstep : thenS (pastS l0 k) t = pastS l0 (k + 1) := by rw [HT.out]; exact (pastS_succ l0 k hl0).symm
              refine hnow.mono ?_
              rintro e w4 ⟨rfl, own4, M4, La4, hD4, hR4, hN4, hK4⟩
              rw [hRa.out, hstep] at hR4
              have hth := then_8 (w := w4) sx vx _ t (hK4.lists HX.out) (by have := (pastS_few l0 k).1; omega) hw
              have hY4 := hK4.lists HY.out
              have hrk4 := (row?_below hD4.below (a := ⟨b, off + k * 3, none⟩) hbl 3).trans (HC.out k hl0)
              rw [← HT.out] at hrk4
              have HD4 := Lib.hid hD4
              have HR4 := Lib.hid hR4
              have HN4 := Lib.hid (hN4.trans hN.out)
              have HY4 := Lib.hid hY4
              have HS4 := Lib.hid hstep
              clear hnow hD4 hR4 hN4 hK4 hY4 hstep hrk
              go_wp2_with fail
              refine hth.mono ?_
              rintro e w5 ⟨sx, vx, rfl, hl5, hb5⟩
              rw [HS4.out] at hl5
              have HD5 := Lib.hid ((HD4.out.retag).keep hb5)
              have HX5 := Lib.hid (hl5.zone (Y := fun g => setO own4 w4.heap.size 0 g = 0) (fun g _ hz => setO_zero hz))
              have HY5 := Lib.hid ((Keep0.below (own := own4) hb5).lists HY4.out)
              have hrk5 := (row?_below HD5.out.below (a := ⟨b, off + k * 3, none⟩) hbl 3).trans (HC.out k hl0)
              rw [← HT.out] at hrk5
              have ck5 : w5.cell? ⟨b, off + k * 3, none⟩ = some (.int .i64 t.kind) := by
                have h := (row?_cell hrk5).2 0 (by omega)
                simpa [Addr.add] using h
              clear hth hl5 hb5 hrk4
              by_cases h3 : t.kind = 3
              case' neg =>
                have d3 : decide (t.kind = 3) = false := decide_eq_false h3
                have e3 : (t.kind == 3) = false := by simp [h3]
                have HD7 := HD5
                have HR7 := HR4
                have HN7 := HN4
                have HX7 := HX5
                have HY7 := HY5
              case' pos =>
                have d3 : decide (t.kind = 3) = true := decide_eq_true h3
                have e3 : (t.kind == 3) = true := by simp [h3]
                have HH3 := Lib.hid h3
                clear h3
                go_wp2_with fail
                refine (HD5.out.reopen (by omega) nmA HN4.out).mono ?_
                rintro e w6 ⟨q6, rfl, own6, La6, hD6, hR6, hN6, hK6⟩
                have HD7 := Lib.hid hD6
                have HR7 := Lib.hid (hR6.trans HR4.out)
                have HN7 := Lib.hid (hN6.trans HN4.out)
                have HX7 := Lib.hid (hK6.lists HX5.out)
                have HY7 := Lib.hid (hK6.lists HY5.out)
                clear hD6 hR6 hN6 hK6 ck5 hrk5
            all_goals
              have hru := (row?_below HD7.out.below (a := ⟨bb, offb + k * 3, none⟩) hblb 3).trans (HCB.out k hl1)
              rw [← HU.out] at hru
              go_wp2_with fail
              have hnow := now_8 u HD7.out.swap (by omega) hwu (show Few (5 * k) Lb.recs from (by rw [hRb.out]; exact pastS_few l1 k)) (by omega)
              have hstep : thenS (pastS l1 k) u = pastS l1 (k + 1) := by rw [HU.out]; exact (pastS_succ l1 k hl1).symm
              refine hnow.mono ?_
              rintro e w8 ⟨rfl, own8, M8, Lb8, hD8, hR8, hN8, hK8⟩
              rw [hRb.out, hstep] at hR8
              have hth := then_8 (w := w8) sy vy _ u (hK8.lists HY7.out) (by have := (pastS_few l1 k).1; omega) hwu
              have hX8 := hK8.lists HX7.out
              have hru8 := (row?_below hD8.below (a := ⟨bb, offb + k * 3, none⟩) hblb 3).trans (HCB.out k hl1)
              rw [← HU.out] at hru8
              have HD8 := Lib.hid hD8
              have HR9 := Lib.hid hR8
              have HX8 := Lib.hid hX8
              have HS8 := Lib.hid hstep
              clear hnow hD8 hR8 hN8 hK8 hX8 hstep
              go_wp2_with fail
              refine hth.mono ?_
              rintro e w9 ⟨sy, vy, rfl, hl9, hb9⟩
              rw [HS8.out] at hl9
              have HD9 := Lib.hid ((HD8.out.retag).keep hb9).swap
              have HY9 := Lib.hid (hl9.zone (Y := fun g => setO own8 w8.heap.size 0 g = 0) (fun g _ hz => setO_zero hz))
              have HX9 := Lib.hid ((Keep0.below (own := own8) hb9).lists HX8.out)
              clear hth hl9 hb9

              have hh1 := log_has _ _ _ HD9.out.la (by rw [HR7.out]; exact (pastS_few l0 (k + 1)).low) (by rw [HR7.out]; exact (pastS_few l0 (k + 1)).frames (by omega)) HX9.out
              rw [HR7.out] at hh1
              simp only [decide_true] at hh1
              go_wp2_with fail
              refine hh1.mono ?_
              rintro e wa ⟨rfl, hba⟩
              have hDa := HD9.out.keep hba
              have hh2 := log_has _ _ _ hDa.lb (by rw [HR9.out]; exact (pastS_few l1 (k + 1)).low) (by rw [HR9.out]; exact (pastS_few l1 (k + 1)).frames (by omega)) (HY9.out.keep hba)
              rw [HR9.out] at hh2
              simp only [decide_true] at hh2
              have HDa := Lib.hid hDa
              have HXa := Lib.hid (HX9.out.keep hba)
              have HYa := Lib.hid (HY9.out.keep hba)
              clear hh1 hba hDa
              go_wp2_with fail
              refine hh2.mono ?_
              rintro e wb ⟨rfl, hbb⟩
              have HDb := Lib.hid (HDa.out.keep hbb)
              have HXb := Lib.hid (HXa.out.keep hbb)
              have HYb := Lib.hid (HYa.out.keep hbb)
              clear hh2 hbb
              go_wp2_with fail
              go_roundw
              case rel => exact ⟨k + 1, _, _, _, _, _, sx, vx, sy, vy, by omega, by go_num, rfl, rfl, rfl, HDb.out.mono (by omega), HR7, HR9, HN7, HXb.out, HYb.out⟩
              case measure =>
                simp [intOf]
                try omega
          · have dl1 : decide ((k : Int) < (l1.length : Int)) = false := decide_eq_false (by omega)
            by_cases hl0 : k < l0.length
            case' neg =>
              exact absurd hlt (by omega)
            case' pos =>
              have dl0 : decide ((k : Int) < (l0.length : Int)) = true := decide_eq_true (by omega)
              obtain ⟨b, off, ha, hbl, hc⟩ := HA.out.2.2.2 (by intro e; rw [e] at hl0; simp at hl0)
              simp only at ha
              subst ha
              have hrk := (row?_below HD.out.below (a := ⟨b, off + k * 3, none⟩) hbl 3).trans (hc k hl0)
              obtain ⟨t, ht⟩ : ∃ t, t = l0[k] := ⟨_, rfl⟩
              rw [← ht] at hrk
              have hw := GA.out _ (List.getElem_mem hl0)
              rw [← ht] at hw
              have HC := Lib.hid hc
              have HT := Lib.hid ht
              clear hc ht
              go_wp2_with fail
              have hnow := now_8 t HD.out (by omega) hw (show Few (5 * k) La.recs from (by rw [hRa.out]; exact pastS_few l0 k)) (by omega)
              have hstep : thenS (pastS l0 k) t = pastS l0 (k + 1) := by rw [HT.out]; exact (pastS_succ l0 k hl0).symm
              refine hnow.mono ?_
              rintro e w4 ⟨rfl, own4, M4, La4, hD4, hR4, hN4, hK4⟩
              rw [hRa.out, hstep] at hR4
              have hth := then_8 (w := w4) sx vx _ t (hK4.lists HX.out) (by have := (pastS_few l0 k).1; omega) hw
              have hY4 := hK4.lists HY.out
              have hrk4 := (row?_below hD4.below (a := ⟨b, off + k * 3, none⟩) hbl 3).trans (HC.out k hl0)
              rw [← HT.out] at hrk4
              have HD4 := Lib.hid hD4
              have HR4 := Lib.hid hR4
              have HN4 := Lib.hid (hN4.trans hN.out)
              have HY4 := Lib.hid hY4
              have HS4 := Lib.hid hstep
              clear hnow hD4 hR4 hN4 hK4 hY4 hstep hrk
              go_wp2_with fail
              refine hth.mono ?_
              rintro e w5 ⟨sx, vx, rfl, hl5, hb5⟩
              rw [HS4.out] at hl5
              have HD5 := Lib.hid ((HD4.out.retag).keep hb5)
              have HX5 := Lib.hid (hl5.zone (Y := fun g => setO own4 w4.heap.size 0 g = 0) (fun g _ hz => setO_zero hz))
              have HY5 := Lib.hid ((Keep0.below (own := own4) hb5).lists HY4.out)
              have hrk5 := (row?_below HD5.out.below (a := ⟨b, off + k * 3, none⟩) hbl 3).trans (HC.out k hl0)
              rw [← HT.out] at hrk5
              have ck5 : w5.cell? ⟨b, off + k * 3, none⟩ = some (.int .i64 t.kind) := by
                have h := (row?_cell hrk5).2 0 (by omega)
                simpa [Addr.add] using h
              clear hth hl5 hb5 hrk4
              by_cases h3 : t.kind = 3
              case' neg =>
                have d3 : decide (t.kind = 3) = false := decide_eq_false h3
                have e3 : (t.kind == 3) = false := by simp [h3]
                have HD7 := HD5
                have HR7 := HR4
                have HN7 := HN4
                have HX7 := HX5
                have HY7 := HY5
              case' pos =>
                have d3 : decide (t.kind = 3) = true := decide_eq_true h3
                have e3 : (t.kind == 3) = true := by simp [h3]
                have HH3 := Lib.hid h3
                clear h3
                go_wp2_with fail
                refine (HD5.out.reopen (by omega) nmA HN4.out).mono ?_
                rintro e w6 ⟨q6, rfl, own6, La6, hD6, hR6, hN6, hK6⟩
                have HD7 := Lib.hid hD6
                have HR7 := Lib.hid (hR6.trans HR4.out)
                have HN7 := Lib.hid (hN6.trans HN4.out)
                have HX7 := Lib.hid (hK6.lists HX5.out)
                have HY7 := Lib.hid (hK6.lists HY5.out)
                clear hD6 hR6 hN6 hK6 ck5 hrk5
            all_goals
              have hpy := pastS_stay l1 k (by omega)
              have HD9 := HD7
              have HX9 := HX7
              have hY9 := HY7.out
              rw [← hpy] at hY9
              have HY9 := Lib.hid hY9
              have HR9 := Lib.hid (hRb.out.trans hpy.symm)
              clear hY9 hpy

              have hh1 := log_has _ _ _ HD9.out.la (by rw [HR7.out]; exact (pastS_few l0 (k + 1)).low) (by rw [HR7.out]; exact (pastS_few l0 (k + 1)).frames (by omega)) HX9.out
              rw [HR7.out] at hh1
              simp only [decide_true] at hh1
              go_wp2_with fail
              refine hh1.mono ?_
              rintro e wa ⟨rfl, hba⟩
              have hDa := HD9.out.keep hba
              have hh2 := log_has _ _ _ hDa.lb (by rw [HR9.out]; exact (pastS_few l1 (k + 1)).low) (by rw [HR9.out]; exact (pastS_few l1 (k + 1)).frames (by omega)) (HY9.out.keep hba)
              rw [HR9.out] at hh2
              simp only [decide_true] at hh2
              have HDa := Lib.hid hDa
              have HXa := Lib.hid (HX9.out.keep hba)
              have HYa := Lib.hid (HY9.out.keep hba)
              clear hh1 hba hDa
              go_wp2_with fail
              refine hh2.mono ?_
              rintro e wb ⟨rfl, hbb⟩
              have HDb := Lib.hid (HDa.out.keep hbb)
              have HXb := Lib.hid (HXa.out.keep hbb)
              have HYb := Lib.hid (HYa.out.keep hbb)
              clear hh2 hbb
              go_wp2_with fail
              go_roundw
              case rel => exact ⟨k + 1, _, _, _, _, _, sx, vx, sy, vy, by omega, by go_num, rfl, rfl, rfl, HDb.out.mono (by omega), HR7, HR9, HN7, HXb.out, HYb.out⟩
              case measure =>
                simp [intOf]
                try omega
        · -- last
          go_wp2_with fail
          refine (awake8 _).mono ?_
          rintro e w' ⟨rfl, hb'⟩
          have HZ := Lib.hid (HD.out.below.trans (hb'.mono HD.out.below.size))
          clear hb'
          go_wp2_with fail
          go_ret
          exact ⟨rfl, HZ.out⟩
    · have d0 : decide ((30 : Int) < (l0.length : Int)) = false := decide_eq_false (by omega)
      have d1 : decide ((30 : Int) < (l1.length : Int)) = true := decide_eq_true (by omega)
      go_enter Try.func9, Try.ntmps9
      go_wp2_with fail
      refine (awake8 w).mono ?_
      rintro e w' ⟨rfl, hb'⟩
      go_wp2_with fail
      go_ret
      exact ⟨rfl, hb'⟩
  · have d0 : decide ((30 : Int) < (l0.length : Int)) = true := decide_eq_true (by omega)
    go_enter Try.func9, Try.ntmps9
    go_wp2_with fail
    refine (awake8 w).mono ?_
    rintro e w' ⟨rfl, hb'⟩
    go_wp2_with fail
    go_ret
    exact ⟨rfl, hb'⟩
end Go.Proofs.Ytkiindgcbpkddaa
