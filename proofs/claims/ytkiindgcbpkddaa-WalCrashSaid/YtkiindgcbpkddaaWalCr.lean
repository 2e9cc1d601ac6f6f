/- WalCrash: whatever the turns and the cuts, the law returns true. -/
import Derived.Test.YtkiindgcbpkddaaWalI
set_option linter.unusedSimpArgs false
set_option linter.unusedVariables false
namespace Go.Proofs.Ytkiindgcbpkddaa
open Go.RowKit Go.Sort
def intsOk (w : World) (s : Sl) (ps : List Int) : Prop := s.n = ps.length ∧ s.n ≤ s.c ∧ (ps ≠ [] → ∃ b off, s.a = some ⟨b, off, none⟩ ∧ b < w.heap.size ∧ ∀ k (h : k < ps.length), w.cell? ⟨b, off + k, none⟩ = some (.int .i64 ps[k]))
/-- What the loop knows: alive, or the power went in the turn ahead. -/
def CrAlive (l0 : List Turn) (M : FsM) (L : LogM) (k : Nat) : Prop := L.dead = false ∧ LogOk M L ∧ L.recs = pastS l0 k
def CrDead (l0 : List Turn) (wr : World) (own : Nat → Nat) (M : FsM) (L : LogM) (v : Value) (k j : Nat) : Prop := L.dead = true ∧ k = j + 1 ∧ j < l0.length ∧ GoneAt M nW (pastS l0 j) (pastS l0 k) ∧ ∃ (sm : Sl) (vm : List Sl), v = .slice sm.a sm.n sm.c ∧ listsZ wr (fun g => own g = 0) sm vm (pastS l0 k)
set_option maxRecDepth 100000 in
set_option maxHeartbeats 16000000 in
theorem crash_any (s0 : Sl) (l0 : List Turn) (cut : Int) (s2 : Sl) (ps : List Int) (again : Int) (s4 : Sl) (qs : List Int) (w : World) (h0 : structsAt Turn.arr 3 w s0 l0) (g0 : ∀ x ∈ l0, x.wf) (hc : i64 cut) (h2 : intsOk w s2 ps) (g2 : ∀ x ∈ ps, i64 x) (ha : i64 again) (h4 : intsOk w s4 qs) (g4 : ∀ x ∈ qs, i64 x) :
    Calls Try.prog 12 #[.slice s0.a s0.n s0.c, .int .i64 cut, .slice s2.a s2.n s2.c, .int .i64 again, .slice s4.a s4.n s4.c] w fun e w' => e = .returned (.bool true) ∧ Below w.heap.size w w' := by
  obtain ⟨a0, n0, c0⟩ := s0
  obtain ⟨a2, n2, c2⟩ := s2
  obtain ⟨a4, n4, c4⟩ := s4
  have hn0 : n0 = l0.length := h0.1
  have hn2 : n2 = ps.length := h2.1
  have hn4 : n4 = qs.length := h4.1
  subst hn0 hn2 hn4
  have HA := Lib.hid h0
  have HG := Lib.hid g0
  have HP := Lib.hid h2
  have HQ := Lib.hid h4
  have GP := Lib.hid g2
  have GQ := Lib.hid g4
  clear h0 g0 h2 g2 h4 g4
  have kc := fun (w : World) (C : Array Value) (n c : Nat) => Lib.run_convert_bytes_const (P := Try.prog) w 102 5 C n c Try.underlying102 Try.underlying5
  by_cases hall : l0.length ≤ 25 ∧ 0 ≤ cut ∧ 0 ≤ again ∧ ps.length ≤ 5 ∧ qs.length ≤ 5
  · obtain ⟨q0, q1, q2, q3, q4⟩ := hall
    have d0 : decide ((25 : Int) < (l0.length : Int)) = false := decide_eq_false (by omega)
    have d1 : decide (cut < (0 : Int)) = false := decide_eq_false (by omega)
    have d2 : decide (again < (0 : Int)) = false := decide_eq_false (by omega)
    have d3 : decide ((5 : Int) < (ps.length : Int)) = false := decide_eq_false (by omega)
    have d4 : decide ((5 : Int) < (qs.length : Int)) = false := decide_eq_false (by omega)
    go_enter Try.func12, Try.ntmps12
    go_wp2_with fail
    refine (new_fs w).mono ?_
    rintro e w1 ⟨p, rfl, h1, b1⟩
    have F0 : Fresh (setO (fun _ => 0) w.heap.size 1) w.heap.size := fun k hk => setO_old hk
    have hF1 : fsAt w1 (zn (setO (fun _ => 0) w.heap.size 1) 1) p fs0 := h1.zone (fun k hk hz => setO_new hz)
    have ho := log_open (j := 2) nW nW40 (by decide) [] (by decide) hF1 Pow.zero (by decide) (.inl ⟨rfl, rfl⟩) rfl (by simp)
    have B1 := Lib.hid b1
    have HF0 := Lib.hid F0
    clear h1 b1 hF1 F0
    go_wp2_with fail
    refine ho.mono ?_
    rintro e w2 ⟨q, rfl, own2, so2, hF2, hL2, u2⟩
    have hU2 : Uno w w2 own2 p fs0 0 2 q ⟨nW, [], (framesS []).length, false⟩ :=
      ⟨hF2, Lit.zero, hL2, by decide, HF0.out.same so2 B1.out.size, B1.out.trans (HF0.out.below u2 (by decide) B1.out.size)⟩
    have hcut := hU2.cut cut hc.2
    clear ho so2 hF2 hL2 u2 HF0 B1 hU2
    go_wp2_with fail
    refine hcut.mono ?_
    rintro e w3 ⟨rfl, own3, hU3, hK3⟩
    have HU3 := Lib.hid hU3
    clear hcut hU3 hK3
    go_wp2_with fail
    go_loopw [14, 15, 16] (fun v14 v15 v16 wr => ∃ (k j : Nat) (own : Nat → Nat) (M : FsM) (L : LogM) (sx : Sl) (vx : List Sl), k ≤ l0.length ∧ v16 = .int .i64 k ∧ v14 = .slice sx.a sx.n sx.c ∧ Uno w wr own p M (3 * k) 2 q L ∧ Hid (L.name = nW) ∧ listsZ wr (fun g => own g = 0) sx vx (pastS l0 j) ∧ ((j = k ∧ CrAlive l0 M L k) ∨ CrDead l0 wr own M L v15 k j)) (fun _ _ v _ => l0.length - (intOf v).toNat)
    case atStart => exact ⟨0, 0, own3, _, _, ⟨none, 0, 0⟩, [], Nat.zero_le _, rfl, rfl, HU3.out, rfl, ⟨rfl, Nat.le_refl _, rfl, fun h => absurd rfl h, fun g h => absurd h (by simp [pastS])⟩, .inl ⟨rfl, rfl, LogOk.new nW nW40 (by decide) rfl rfl, rfl⟩⟩
    case round =>
      obtain ⟨k, j, own, M, L, sx, vx, hk, rfl, rfl, hU, hN, hX, hst⟩ := hrel
      clear HU3
      have HU := Lib.hid hU
      have HX := Lib.hid hX
      clear hU hX
      by_cases hlive : L.dead = false
      case' pos =>
        rcases hst with ⟨rfl, hdd, hO, hR⟩ | ⟨h1, _⟩
        rotate_left
        · rw [hlive] at h1; cases h1
        have hdead := HU.out.dead
        rw [hdd] at hdead
        have HO := Lib.hid hO
        have HR := Lib.hid hR
        have HDD := Lib.hid hdd
        clear hO hR hdd
        by_cases hlt : j < l0.length
        case pos =>
          have dlt : decide ((j : Int) < (l0.length : Int)) = true := decide_eq_true (by omega)
          obtain ⟨b, off, ha, hbl, hc⟩ := HA.out.2.2.2 (by intro e; rw [e] at hlt; simp at hlt)
          simp only at ha
          subst ha
          have hrk := (row?_below HU.out.below (a := ⟨b, off + j * 3, none⟩) hbl 3).trans (hc j hlt)
          obtain ⟨t, ht⟩ : ∃ t, t = l0[j] := ⟨_, rfl⟩
          rw [← ht] at hrk
          have hw := HG.out _ (List.getElem_mem hlt)
          rw [← ht] at hw
          have HC := Lib.hid hc
          have HT := Lib.hid ht
          clear hc ht
          go_wp2_with fail
          refine hdead.mono ?_
          rintro e w4 ⟨rfl, rfl⟩
          have hnow := now_cut t HU.out HO.out (by omega) hw (show Few (5 * j) L.recs from (by rw [HR.out]; exact pastS_few l0 j)) (by omega)
          have hstep : thenS (pastS l0 j) t = pastS l0 (j + 1) := by rw [HT.out]; exact (pastS_succ l0 j hlt).symm
          go_wp2_with fail
          refine hnow.mono ?_
          rintro e w4 ⟨own4, M4, L4, hU4, hN4, hK4, hres⟩
          rw [HR.out, hstep] at hres
          have hth := then_8 (w := w4) sx vx _ t (hK4.lists HX.out) (by have := (pastS_few l0 j).1; omega) hw
          have hrk4 := (row?_below hU4.below (a := ⟨b, off + j * 3, none⟩) hbl 3).trans (HC.out j hlt)
          rw [← HT.out] at hrk4
          have hX4 := hK4.lists HX.out
          have HX4 := Lib.hid hX4
          have HU4 := Lib.hid hU4
          have HN4 := Lib.hid (hN4.trans hN.out)
          have HS4 := Lib.hid hstep
          clear hnow hU4 hN4 hK4 hstep hrk hX4 hdead
          rcases hres with ⟨rfl, hO4, hR4⟩ | ⟨rfl, hd4, hG4⟩
          · have HO4 := Lib.hid hO4
            have HR4 := Lib.hid hR4
            clear hO4 hR4
            go_wp2_with fail
            refine hth.mono ?_
            rintro e w5 ⟨sy, vy, rfl, hl5, hb5⟩
            rw [HS4.out] at hl5
            have HU5 := Lib.hid ((HU4.out.retag).keep hb5)
            have HX5 := Lib.hid (hl5.zone (Y := fun g => setO own4 w4.heap.size 0 g = 0) (fun g _ hz => setO_zero hz))
            clear hth hl5 hb5 hrk4
            go_wp2_with fail
            go_roundw
            case rel => exact ⟨j + 1, j + 1, _, _, _, sy, vy, by omega, by go_num, rfl, HU5.out.mono (by omega), HN4, HX5.out, .inl ⟨rfl, HO4.out.live, HO4.out, HR4.out⟩⟩
            case measure =>
              simp [intOf]
              try omega
          · have HG4 := Lib.hid hG4
            have HD4 := Lib.hid hd4
            clear hG4 hd4
            go_wp2_with fail
            refine hth.mono ?_
            rintro e w5 ⟨sy, vy, rfl, hl5, hb5⟩
            rw [HS4.out] at hl5
            have hU5 := (HU4.out.retag).keep hb5
            have HX5 := Lib.hid (hl5.zone (Y := fun g => setO own4 w4.heap.size 0 g = 0) (fun g _ hz => setO_zero hz))
            have HX6 := Lib.hid ((Keep0.below (own := own4) hb5).lists HX4.out)
            have hdd5 := hU5.dead
            rw [HD4.out] at hdd5
            have hoff5 := hU5.off HD4.out
            have HU5 := Lib.hid hU5
            clear hth hl5 hb5 hrk4 hU5
            go_wp2_with fail
            refine hdd5.mono ?_
            rintro e w6 ⟨rfl, rfl⟩
            go_wp2_with fail
            refine hoff5.mono ?_
            rintro e w6 ⟨rfl, rfl⟩
            clear hdd5 hoff5
            go_wp2_with fail
            go_roundw
            case rel => exact ⟨j + 1, j, _, _, _, sx, vx, by omega, by go_num, rfl, HU5.out.mono (by omega), HN4, HX6.out, .inr ⟨HD4.out, rfl, hlt, (by have hg := HG4.out; rw [hN.out] at hg; exact hg), sy, vy, rfl, HX5.out⟩⟩
            case measure =>
              simp [intOf]
              try omega
        case' neg =>
          have hje : j = l0.length := by omega
          have dlt : decide ((j : Int) < (l0.length : Int)) = false := decide_eq_false (by omega)
          go_wp2_with fail
          refine hdead.mono ?_
          rintro e w7 ⟨rfl, rfl⟩
          have HG7 : Hid (GoneAt M nW (pastS l0 j) (pastS l0 j)) := Lib.hid (.inl (by have h := HO.out.file.torn; rw [hN.out, HR.out] at h; exact h))
          have HFS := Lib.hid (pastS_few l0 j)
          generalize pastS l0 j = S at HG7 HX HFS
          obtain ⟨S', hS'⟩ : ∃ S', S' = S := ⟨_, rfl⟩
          have HG7 : Hid (GoneAt M nW S S') := by rw [hS']; exact HG7
          have HM7 : Hid (listsZ wr (fun g => own g = 0) sx vx S') := by rw [hS']; exact HX
          have HFM : Hid (Few (5 * j) S') := by rw [hS']; exact HFS
          clear hS'
          generalize hk7 : 3 * j = k7 at HU
          have hk77 : k7 ≤ 100 := by omega
          clear hje dlt hdead HO HR HDD hk7
      case' neg =>
        rcases hst with ⟨_, h1, _⟩ | ⟨hdd, hkj, hjl, hG, sm, vm, rfl, hM⟩
        · exact absurd h1 hlive
        clear hkj
        have hdead := HU.out.dead
        rw [hdd] at hdead
        have HM7 := Lib.hid hM
        have HG7 := Lib.hid hG
        have HFS := Lib.hid (pastS_few l0 j)
        have HFM := Lib.hid (pastS_few l0 k)
        generalize pastS l0 j = S at HG7 HX HM7 HFS HFM
        generalize pastS l0 k = S' at HG7 HX HM7 HFS HFM
        by_cases hlt : k < l0.length
        case' pos =>
          have dlt : decide ((k : Int) < (l0.length : Int)) = true := decide_eq_true (by omega)
          clear hM hG hlive hdd
          go_wp2_with fail
          refine hdead.mono ?_
          rintro e w7 ⟨rfl, rfl⟩
          go_wp2_with fail
          refine hdead.mono ?_
          rintro e w7 ⟨rfl, rfl⟩
        case' neg =>
          have dlt : decide ((k : Int) < (l0.length : Int)) = false := decide_eq_false (by omega)
          clear hM hG hlive hdd
          go_wp2_with fail
          refine hdead.mono ?_
          rintro e w7 ⟨rfl, rfl⟩
        all_goals
          generalize hk7 : 3 * k = k7 at HU
          have hk77 : k7 ≤ 100 := by omega
          clear dlt hdead hk7
      all_goals
        go_wp2_with fail
        refine (HU.out.plc.crash 4 (by decide) (by omega) ⟨a2, ps.length, c2⟩ ps (ints_num (s := ⟨a2, ps.length, c2⟩) (l := ps) HP.out HU.out.below) GP.out).mono ?_
        rintro e w8 ⟨p8, ns8, rfl, hn8, own8, hP8, hp8, hK8⟩
        obtain ⟨r, hr8, hrS⟩ : ∃ r, TornAt (crashM M ns8 ps) nW r ∧ (r = S ∨ r = S') := (HG7.out.crash hn8 ps).elim (fun h => ⟨S, h, .inl rfl⟩) (fun h => ⟨S', h, .inr rfl⟩)
        have hrf : Few 1000 r := hrS.elim (fun h => by rw [h]; exact ⟨Nat.le_trans HFS.out.1 (by omega), HFS.out.2⟩) (fun h => by rw [h]; exact ⟨Nat.le_trans HFM.out.1 (by omega), HFM.out.2⟩)
        have HS8 := Lib.hid (hK8.lists HX.out)
        have HM8 := Lib.hid (hK8.lists HM7.out)
        have HRF := Lib.hid hrf
        have HRS := Lib.hid hrS
        have HR8 := Lib.hid hr8
        have HP8 := Lib.hid hP8
        clear hn8 hP8 hp8 hK8 hr8 hrS hrf HU HX HM7 HG7 HFS HFM
        go_wp2_with fail
        refine (HP8.out.cut again ha.2).mono ?_
        rintro e w9 ⟨rfl, own9, hP9, hK9⟩
        have HS9 := Lib.hid (hK9.lists HS8.out)
        have HM9 := Lib.hid (hK9.lists HM8.out)
        have HP9 := Lib.hid hP9
        clear hP9 hK9 HS8 HM8 HP8
        go_wp2_with fail
        refine (HP9.out.open_any nW nW40 (by decide) (by omega)).mono ?_
        rintro e wa ⟨x, y, rfl, owna, hPa, hKa⟩
        have HSa := Lib.hid (hKa.lists HS9.out)
        have HMa := Lib.hid (hKa.lists HM9.out)
        have HPa := Lib.hid hPa
        have HTa := Lib.hid (TornAt.openM (M := cutM (crashM M ns8 ps) again) HR8.out nW40 HRF.out.low)
        clear hPa hKa HS9 HM9 HP9 HR8
        go_wp2_with fail
        refine (HPa.out.crash 6 (by decide) (by omega) ⟨a4, qs.length, c4⟩ qs (ints_num (s := ⟨a4, qs.length, c4⟩) (l := qs) HQ.out HPa.out.below) GQ.out).mono ?_
        rintro e wb ⟨pb, nsb, rfl, hnb, ownb, hPb, hpb, hKb⟩
        have htb := HTa.out.crash hnb qs
        have HSb := Lib.hid (hKb.lists HSa.out)
        have HMb := Lib.hid (hKb.lists HMa.out)
        have ho := hPb.open_torn hpb 7 (by decide) nW nW40 (by decide) (by omega) htb HRF.out.low
        clear hnb hPb hpb hKb htb HSa HMa HPa HTa
        go_wp2_with fail
        refine ho.mono ?_
        rintro e wc ⟨qc, rfl, ownc, Mc, hPc, hpc, hLc, hOc, hKc⟩
        have hSc := hKc.lists HSb.out
        have hMc := hKc.lists HMb.out
        have HH1 := Lib.hid (log_has _ _ _ hLc HRF.out.low (HRF.out.frames (by omega)) hSc)
        have HPc := Lib.hid hPc
        have HPW := Lib.hid hpc
        have HLc := Lib.hid hLc
        have HOc := Lib.hid hOc
        have HSc := Lib.hid hSc
        have HMc := Lib.hid hMc
        clear ho hPc hpc hLc hOc hKc hSc hMc HSb HMb
        by_cases hrs : r = S
        case' pos =>
          have hh1 := HH1.out
          rw [decide_eq_true (show (LogM.mk nW r (framesS r).length false).recs = S from hrs)] at hh1
          go_wp2_with fail
          refine hh1.mono ?_
          rintro e wd ⟨rfl, hbd⟩
          have hLd := HLc.out.keep hbd
          have hh2 := log_has _ _ _ hLd HRF.out.low (HRF.out.frames (by omega)) (HSc.out.keep hbd)
          rw [decide_eq_true (show (LogM.mk nW r (framesS r).length false).recs = S from hrs)] at hh2
          have HSd := Lib.hid (HSc.out.keep hbd)
          have HPd := Lib.hid (HPc.out.keep hbd)
          clear hh1 hLd hbd
          go_wp2_with fail
          refine hh2.mono ?_
          rintro e we ⟨rfl, hbe⟩
          have HSe := Lib.hid (HSd.out.keep hbe)
          have HPe := Lib.hid (HPd.out.keep hbe)
          have hre := hrs
          clear hrs
          clear hh2 hbe HSd HPd
          generalize sx = sz at HSe ⊢
          generalize vx = vz at HSe
          generalize S = T at HSe hre
        case' neg =>
          have hrm : r = S' := HRS.out.resolve_left hrs
          have hh1 := HH1.out
          rw [decide_eq_false (show ¬ (LogM.mk nW r (framesS r).length false).recs = S from hrs)] at hh1
          go_wp2_with fail
          refine hh1.mono ?_
          rintro e wd ⟨rfl, hbd⟩
          have hLd := HLc.out.keep hbd
          have hh2 := log_has _ _ _ hLd HRF.out.low (HRF.out.frames (by omega)) (HMc.out.keep hbd)
          rw [decide_eq_true (show (LogM.mk nW r (framesS r).length false).recs = S' from hrm)] at hh2
          have HSd := Lib.hid (HSc.out.keep hbd)
          have HMd := Lib.hid (HMc.out.keep hbd)
          have HPd := Lib.hid (HPc.out.keep hbd)
          have HLd := Lib.hid hLd
          clear hh1 hLd hbd
          go_wp2_with fail
          refine hh2.mono ?_
          rintro e we ⟨rfl, hbe⟩
          have hLe := HLd.out.keep hbe
          have hh3 := log_has _ _ _ hLe HRF.out.low (HRF.out.frames (by omega)) (HSd.out.keep hbe)
          rw [decide_eq_false (show ¬ (LogM.mk nW r (framesS r).length false).recs = S from hrs)] at hh3
          have HMe := Lib.hid (HMd.out.keep hbe)
          have HPe' := Lib.hid (HPd.out.keep hbe)
          clear hh2 hbe hLe HSd HMd HPd HLd
          go_wp2_with fail
          refine hh3.mono ?_
          rintro e we ⟨rfl, hbe⟩
          have HSe := Lib.hid (HMe.out.keep hbe)
          have HPe := Lib.hid (HPe'.out.keep hbe)
          have hre := hrm
          clear hrs hrm
          clear hh3 hbe HMe HPe'
          first | generalize sm = sz at HSe ⊢ | generalize sx = sz at HSe ⊢
          first | generalize vm = vz at HSe | generalize vx = vz at HSe
          generalize S' = T at HSe hre
        all_goals
          subst hre
          have ho2 := HPe.out.open_torn HPW.out 8 (by decide) nW nW40 (by decide) (by omega) HOc.out.file.torn HRF.out.low
          clear HPe HPc HSc HMc HLc HOc HPW
          go_wp2_with fail
          refine ho2.mono ?_
          rintro e wf ⟨qf, rfl, ownf, Mf, hPf, hpf, hLf, hOf, hKf⟩
          have hSf := hKf.lists HSe.out
          have hh4 := log_has _ _ _ hLf HRF.out.low (HRF.out.frames (by omega)) hSf
          simp only [decide_true] at hh4
          have HPf := Lib.hid hPf
          have HPW := Lib.hid hpf
          have HLf := Lib.hid hLf
          have HOf := Lib.hid hOf
          have HSf := Lib.hid hSf
          clear ho2 hPf hpf hLf hOf hKf hSf HSe
          go_wp2_with fail
          refine hh4.mono ?_
          rintro e wg ⟨rfl, hbg⟩
          have HPg := Lib.hid (HPf.out.keep hbg)
          have HLg := Lib.hid (HLf.out.keep hbg)
          have HSg := Lib.hid (HSf.out.keep hbg)
          clear hh4 hbg HPf HLf HSf
          go_wp2_with fail
          obtain ⟨wh, hwh⟩ : ∃ wh, wh = wg.alloc (.cells #[.int .u8 111, .int .u8 110] 5 (2, 3)) := ⟨_, rfl⟩
          rw [← hwh]
          have hbh : Below wg.heap.size wg wh := hwh ▸ (Below.refl _ _).alloc (Nat.le_refl _) _
          have hvh : bytesZ wh (fun k => k = wg.heap.size) ⟨some ⟨wg.heap.size, 0, none⟩, 2, 2⟩ onB := hwh ▸ on_const wg (2, 3) _ rfl
          have hPh := HPg.out.retag.keep hbh
          have hLh := (HLg.out.retag (Nat.le_refl _) 0).keep hbh
          have hap := hPh.append HPW.out (by decide) (by decide) hLh HOf.out (by omega) hvh (fun k hk => by rw [show k = wg.heap.size from hk]; exact setO_new (Nat.le_refl _)) (by decide) (HRF.out.on.frames (by omega))
          have HSh := Lib.hid ((Keep0.below (own := ownf) hbh).lists HSg.out)
          clear hwh hbh hvh hPh hLh HPg HLg HSg HPW HOf
          refine hap.mono ?_
          rintro e wi ⟨rfl, owni, hPi, hLi, hKi⟩
          have HSi := Lib.hid (hKi.lists HSh.out)
          have HPi := Lib.hid hPi
          have HLi := Lib.hid hLi
          clear hap hPi hLi hKi HSh
          obtain ⟨X1, hX1⟩ : ∃ X1, X1 = wi.alloc (.cells #[] 102 (0, 0)) := ⟨_, rfl⟩
          have hbX1 : Below wi.heap.size wi X1 := hX1 ▸ (Below.refl _ _).alloc (Nat.le_refl _) _
          have hgX1 : X1.heap[wi.heap.size]? = some (.cells #[] 102 (0, 0)) := hX1 ▸ heap_alloc_new wi _
          obtain ⟨⟨ya, yn, yc⟩, X2, hr2, k1, k2, k3, k4⟩ := copy_lists hbX1 hgX1 (Nat.le_refl _) HSi.out (by have := HRF.out.1; omega)
          simp only at k2
          subst k2
          have HR2 := Lib.hid hr2
          obtain ⟨X3, hX3⟩ : ∃ X3, X3 = X2.alloc (.cells #[.int .u8 111, .int .u8 110] 5 (2, 3)) := ⟨_, rfl⟩
          have e3 : X3.heap.size = X2.heap.size + 1 := by rw [hX3]; simp
          have h3c : X3.heap[X2.heap.size]? = some (.cells #[.int .u8 111, .int .u8 110] 5 (2, 3)) := hX3 ▸ heap_alloc_new X2 _
          have hv3 : bytesZ X3 (fun k => k = X2.heap.size) ⟨some ⟨X2.heap.size, 0, none⟩, 2, 2⟩ onB := hX3 ▸ on_const X2 (2, 3) _ rfl
          have h3b : Below X2.heap.size X2 X3 := hX3 ▸ (Below.refl _ _).alloc (Nat.le_refl _) _
          obtain ⟨X4, hX4⟩ : ∃ X4, X4 = X3.alloc (.cells #[.slice (some ⟨X2.heap.size, 0, none⟩) 2 2] 102 (0, 0)) := ⟨_, rfl⟩
          have h4c : X4.heap[X3.heap.size]? = some (.cells #[.slice (some ⟨X2.heap.size, 0, none⟩) 2 2] 102 (0, 0)) := hX4 ▸ heap_alloc_new X3 _
          have h4b : Below X3.heap.size X3 X4 := hX4 ▸ (Below.refl _ _).alloc (Nat.le_refl _) _
          have hb24 : Below X2.heap.size X2 X4 := h3b.trans (h4b.mono h3b.size)
          have hbX4 : Below wi.heap.size wi X4 := k3.trans (hb24.mono k3.size)
          have h4x : X4.heap[X2.heap.size]? = some (.cells #[.int .u8 111, .int .u8 110] 5 (2, 3)) := (h4b.block _ (by omega)).trans h3c
          obtain ⟨⟨za, zn', zc⟩, X5, hr5, m1, m2, m3, m4⟩ := own20 (x := ⟨some ⟨X2.heap.size, 0, none⟩, 2, 2⟩) hbX4 (ownsRow_below k1 hb24) h4c h4x (by have := HRF.out.1; omega)
          simp only at m2
          subst m2
          have hx5 : bytesZ X5 (fun k => wi.heap.size ≤ k) ⟨some ⟨X2.heap.size, 0, none⟩, 2, 2⟩ onB := typedB.z ⟨rfl, Nat.le_refl _, X2.heap.size, _, _, rfl, k3.size, m4, fun k h => by rcases (show k = 0 ∨ k = 1 by simp [onB] at h; omega) with rfl | rfl <;> rfl⟩
          have hlz := lists_own (s' := ⟨za, _, zc⟩) HSi.out m3 m1 rfl hx5
          have hh5 := log_has _ _ _ (HLi.out.keep m3) HRF.out.on.low (HRF.out.on.frames (by omega)) hlz
          rw [decide_eq_true (by rfl)] at hh5
          have HX1 := Lib.hid hX1
          have HX3 := Lib.hid hX3
          have HX4 := Lib.hid hX4
          rw [e3] at hr5
          have HR5 : Hid ((Builtin.append_ #[95, 95] 95 #[.slice ya r.length yc, .slice (some ⟨X2.heap.size + 1, 0, none⟩) 1 1]).run Try.prog X4 = .ok (.slice za (r.length + 1) zc) X5) := hr5
          have HBz := Lib.hid (HPi.out.below.trans (m3.mono HPi.out.below.size))
          clear hr2 hX1 hX3 hX4 hbX1 hgX1 hbX4 k1 k3 k4 e3 h3c hv3 h3b h4c h4b hb24 h4x hr5 m1 m3 m4 hx5 hlz
          go_upto_region 36 with fail
          go_wp2_with (first | (at_builtin; rw [← HX1.out]; refine wpList_run8 rfl (.tmp 161) (.tmp 162) _ _ rfl _ _ rfl rfl HR2.out ?_) | (at_builtin; rw [← HX3.out, ← HX4.out]; refine wpList_run8 rfl _ _ _ _ rfl _ _ rfl rfl HR5.out ?_) | (go_at_call 42; refine hh5.mono ?_; rintro e xa ⟨rfl, hbxa⟩; have HBxa := Lib.hid (HBz.out.trans (hbxa.mono HBz.out.size)); clear hbxa))
          refine (awake8 _).mono ?_
          rintro e xb ⟨rfl, hbxb⟩
          have HBxb := Lib.hid (HBxa.out.trans (hbxb.mono HBxa.out.size))
          clear hbxb
          go_wp2_with fail
          go_ret
          exact ⟨rfl, HBxb.out⟩
  · go_enter Try.func12, Try.ntmps12
    by_cases x0 : l0.length ≤ 25
    · have d0 : decide ((25 : Int) < (l0.length : Int)) = false := decide_eq_false (by omega)
      by_cases x1 : 0 ≤ cut
      · have d1 : decide (cut < (0 : Int)) = false := decide_eq_false (by omega)
        by_cases x2 : 0 ≤ again
        · have d2 : decide (again < (0 : Int)) = false := decide_eq_false (by omega)
          by_cases x3 : ps.length ≤ 5
          · have d3 : decide ((5 : Int) < (ps.length : Int)) = false := decide_eq_false (by omega)
            have d4 : decide ((5 : Int) < (qs.length : Int)) = true := decide_eq_true (by omega)
            clear hall
            go_wp2_with fail
            refine (awake8 w).mono ?_
            rintro e w' ⟨rfl, hb'⟩
            go_wp2_with fail
            go_ret
            exact ⟨rfl, hb'⟩
          · have d3 : decide ((5 : Int) < (ps.length : Int)) = true := decide_eq_true (by omega)
            clear hall
            go_wp2_with fail
            refine (awake8 w).mono ?_
            rintro e w' ⟨rfl, hb'⟩
            go_wp2_with fail
            go_ret
            exact ⟨rfl, hb'⟩
        · have d2 : decide (again < (0 : Int)) = true := decide_eq_true (by omega)
          clear hall
          go_wp2_with fail
          refine (awake8 w).mono ?_
          rintro e w' ⟨rfl, hb'⟩
          go_wp2_with fail
          go_ret
          exact ⟨rfl, hb'⟩
      · have d1 : decide (cut < (0 : Int)) = true := decide_eq_true (by omega)
        clear hall
        go_wp2_with fail
        refine (awake8 w).mono ?_
        rintro e w' ⟨rfl, hb'⟩
        go_wp2_with fail
        go_ret
        exact ⟨rfl, hb'⟩
    · have d0 : decide ((25 : Int) < (l0.length : Int)) = true := decide_eq_true (by omega)
      clear hall
      go_wp2_with fail
      refine (awake8 w).mono ?_
      rintro e w' ⟨rfl, hb'⟩
      go_wp2_with fail
      go_ret
      exact ⟨rfl, hb'⟩
end Go.Proofs.Ytkiindgcbpkddaa
