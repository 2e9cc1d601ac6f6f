/- WalReset: whatever the records and the picks, the law returns true. -/
import Derived.Test.YtkiindgcbpkddaaWalO
set_option linter.unusedSimpArgs false
set_option linter.unusedVariables false
namespace Go.Proofs.Ytkiindgcbpkddaa
open Go.RowKit Go.Sort
theorem frames_at (m : Nat) : ∀ (rs : List (List UInt8)), (∀ b ∈ rs, b.length ≤ m) → (framesS rs).length ≤ rs.length * (m + 17)
  | [], _ => by simp [framesS]
  | b :: rs, h => by
    have e : framesS (b :: rs) = frameS b ++ framesS rs := by simp [framesS]
    have ih := frames_at m rs (fun x hx => h x (by simp [hx]))
    have hb := h b (by simp)
    have hp := putS_le b.length
    rw [e, List.length_append, frameS_length, List.length_cons, Nat.add_mul]
    omega
def nV : Nm := ⟨⟨#[118]⟩, by decide⟩
theorem nV40 : nV.1.size ≤ 40 := by decide
theorem names_wv : Names2 nW nV nW40 nV40 := ⟨by decide, by decide, by decide, by decide⟩
theorem ints_at {w w' : World} {s : Sl} {l : List Int} (h : s.n = l.length ∧ s.n ≤ s.c ∧ (l ≠ [] → ∃ b off, s.a = some ⟨b, off, none⟩ ∧ b < w.heap.size ∧ ∀ k (h : k < l.length), w.cell? ⟨b, off + k, none⟩ = some (.int .i64 l[k]))) (hb : Below w.heap.size w w') : numsAt w' s l w'.heap.size :=
  ⟨h.1, h.2.1, fun hne => by
    obtain ⟨b, off, e, hlt, hc⟩ := h.2.2 hne
    exact ⟨b, off, e, Nat.lt_of_lt_of_le hlt hb.size, fun k hk => (hb.cell (p := ⟨b, off + k, none⟩) hlt).trans (hc k hk)⟩⟩
set_option maxRecDepth 100000 in
set_option maxHeartbeats 4000000 in
theorem reset_any (s0 : Sl) (vs0 : List Sl) (ls : List (List UInt8)) (s1 : Sl) (vs1 : List Sl) (ns : List (List UInt8)) (s2 : Sl) (ps : List Int) (w : World) (h0 : listsZ w (fun _ => True) s0 vs0 ls) (h1 : listsZ w (fun _ => True) s1 vs1 ns)
    (h2 : s2.n = ps.length ∧ s2.n ≤ s2.c ∧ (ps ≠ [] → ∃ b off, s2.a = some ⟨b, off, none⟩ ∧ b < w.heap.size ∧ ∀ k (h : k < ps.length), w.cell? ⟨b, off + k, none⟩ = some (.int .i64 ps[k]))) (g2 : ∀ x ∈ ps, i64 x) :
    Calls Try.prog 11 #[.slice s0.a s0.n s0.c, .slice s1.a s1.n s1.c, .slice s2.a s2.n s2.c] w fun e w' => e = .returned (.bool true) ∧ Below w.heap.size w w' := by
  obtain ⟨a0, n0, c0⟩ := s0
  obtain ⟨a1, n1, c1⟩ := s1
  obtain ⟨a2, n2, c2⟩ := s2
  have hn0 : n0 = ls.length := h0.n
  have hn1 : n1 = ns.length := h1.n
  have hn2 : n2 = ps.length := h2.1
  subst hn0 hn1 hn2
  have hl0 := h0.len
  have hl1 := h1.len
  have HA := Lib.hid h0
  have HB := Lib.hid h1
  have HC := Lib.hid h2
  have HG := Lib.hid g2
  clear h0 h1 h2 g2
  by_cases hbig : ls.length ≤ 20 ∧ ns.length ≤ 20 ∧ ps.length ≤ 5
  · obtain ⟨q0, q1, q2⟩ := hbig
    have d0 : decide ((20 : Int) < (ls.length : Int)) = false := decide_eq_false (by omega)
    have d1 : decide ((20 : Int) < (ns.length : Int)) = false := decide_eq_false (by omega)
    have d2 : decide ((5 : Int) < (ps.length : Int)) = false := decide_eq_false (by omega)
    go_enter Try.func11, Try.ntmps11
    go_wp2_with fail
    go_loop [7] (fun v => ∃ k : Nat, k ≤ ls.length ∧ v = .int .i64 k ∧ Hid (∀ b ∈ ls.take k, b.length ≤ 200)) (fun v => ls.length - (intOf v).toNat)
    case atStart => exact ⟨0, Nat.zero_le _, rfl, (by intro b hb; simp at hb)⟩
    case round =>
      obtain ⟨k, hk, rfl, hsm⟩ := hrel
      by_cases hlt : k < ls.length
      · obtain ⟨b, off, ha, _, hbl, hc⟩ := HA.out.cells (by intro e; rw [e] at hlt; simp at hlt)
        simp only at ha
        subst ha
        have hcc := hc k (by omega)
        have hvn := (HA.out.el k hlt (by omega)).1
        obtain ⟨v, hv⟩ : ∃ v, v = vs0[k]'(by omega) := ⟨_, rfl⟩
        rw [← hv] at hcc hvn
        have dlt : decide ((k : Int) < (ls.length : Int)) = true := decide_eq_true (by omega)
        clear hc hv
        by_cases hlong : 200 < v.n
        · have dl : decide ((200 : Int) < (v.n : Int)) = true := decide_eq_true (by omega)
          clear hvn
          go_wp2_with fail
          refine (awake8 w).mono ?_
          rintro e w' ⟨rfl, hb'⟩
          go_wp2_with fail
          go_ret
          exact ⟨rfl, hb'⟩
        · have dl : decide ((200 : Int) < (v.n : Int)) = false := decide_eq_false (by omega)
          have hxl : Hid (ls[k].length ≤ 200) := by unfold Hid; omega
          clear hvn
          go_wp2_with fail
          go_round
          case rel => exact ⟨k + 1, by omega, by go_num, (by
            intro b hb
            rw [List.take_succ_eq_append_getElem hlt] at hb
            rcases List.mem_append.1 hb with h | h
            · exact hsm.out b h
            · rw [List.mem_singleton.1 h]; exact hxl.out)⟩
          case measure => simp [intOf]; omega
      · have hkl : k = ls.length := by omega
        subst hkl
        rw [List.take_length] at hsm
        have dlt : decide ((ls.length : Int) < (ls.length : Int)) = false := decide_eq_false (by omega)
        go_wp2_with fail
        go_loop [8] (fun v => ∃ k : Nat, k ≤ ns.length ∧ v = .int .i64 k ∧ Hid (∀ b ∈ ns.take k, b.length ≤ 200)) (fun v => ns.length - (intOf v).toNat)
        case atStart => exact ⟨0, Nat.zero_le _, rfl, (by intro b hb; simp at hb)⟩
        case round =>
          obtain ⟨k, hk, rfl, hsn⟩ := hrel
          by_cases hlt : k < ns.length
          · obtain ⟨b, off, ha, _, hbl, hc⟩ := HB.out.cells (by intro e; rw [e] at hlt; simp at hlt)
            simp only at ha
            subst ha
            have hcc := hc k (by omega)
            have hvn := (HB.out.el k hlt (by omega)).1
            obtain ⟨v, hv⟩ : ∃ v, v = vs1[k]'(by omega) := ⟨_, rfl⟩
            rw [← hv] at hcc hvn
            have dlt : decide ((k : Int) < (ns.length : Int)) = true := decide_eq_true (by omega)
            clear hc hv
            by_cases hlong : 200 < v.n
            · have dl : decide ((200 : Int) < (v.n : Int)) = true := decide_eq_true (by omega)
              clear hvn
              go_wp2_with fail
              refine (awake8 w).mono ?_
              rintro e w' ⟨rfl, hb'⟩
              go_wp2_with fail
              go_ret
              exact ⟨rfl, hb'⟩
            · have dl : decide ((200 : Int) < (v.n : Int)) = false := decide_eq_false (by omega)
              have hxl : Hid (ns[k].length ≤ 200) := by unfold Hid; omega
              clear hvn
              go_wp2_with fail
              go_round
              case rel => exact ⟨k + 1, by omega, by go_num, (by
                intro b hb
                rw [List.take_succ_eq_append_getElem hlt] at hb
                rcases List.mem_append.1 hb with h | h
                · exact hsn.out b h
                · rw [List.mem_singleton.1 h]; exact hxl.out)⟩
              case measure => simp [intOf]; omega
          · have hkl : k = ns.length := by omega
            subst hkl
            rw [List.take_length] at hsn
            have dlt : decide ((ns.length : Int) < (ns.length : Int)) = false := decide_eq_false (by omega)
            go_wp2_with fail
            refine (new_fs w).mono ?_
            rintro e w1 ⟨p, rfl, h1, b1⟩
            have F0 : Fresh (setO (fun _ => 0) w.heap.size 1) w.heap.size := fun k hk => setO_old hk
            have hF1 : fsAt w1 (zn (setO (fun _ => 0) w.heap.size 1) 1) p fs0 := h1.zone (fun k hk hz => setO_new hz)
            have ho := log_open (j := 2) nW nW40 (by decide) [] (by decide) hF1 Pow.zero (by decide) (.inl ⟨rfl, rfl⟩) rfl (by simp)
            have B1 := Lib.hid b1
            have HF0 := Lib.hid F0
            clear h1 b1 hF1 F0
            go_wp2_with fail
            refine ho.mono ?_
            rintro e w2 ⟨qa, rfl, own2, so2, hF2, hL2, u2⟩
            have F2 := HF0.out.same so2 B1.out.size
            have b2 := B1.out.trans (HF0.out.below u2 (by decide) B1.out.size)
            have ho3 := log_open (i := 1) (j := 3) nV nV40 (by decide) [] (by decide) hF2 Pow.zero (by decide) (.inl ⟨rfl, rfl⟩) rfl (by simp)
            have HF2 := Lib.hid F2
            have B2 := Lib.hid b2
            have HL2 := Lib.hid hL2
            clear ho so2 u2 hF2 hL2 F2 b2 HF0 B1
            go_wp2_with fail
            refine ho3.mono ?_
            rintro e w3 ⟨qb, rfl, own3, so3, hF3, hL3, u3⟩
            have hD3 : Duo w w3 own3 p fs0 (2 * 0) 2 qa ⟨nW, [], (framesS []).length, false⟩ 3 qb ⟨nV, [], (framesS []).length, false⟩ :=
              ⟨hF3, Pow.zero, HL2.out.upd so3 u3 (fun k h e => by have : (2 : Nat) = 1 := h.symm.trans e; omega), hL3, LogOk.new nW nW40 (by decide) rfl rfl, LogOk.new nV nV40 (by decide) rfl rfl, names_wv, by decide, HF2.out.same so3 B2.out.size, B2.out.trans (HF2.out.below u3 (by decide) B2.out.size)⟩
            clear ho3 so3 hF3 hL3 u3 HL2 HF2 B2
            go_wp2_with fail
            go_loopw [14] (fun v wr => ∃ (k : Nat) (own : Nat → Nat) (M : FsM) (La : LogM), k ≤ ls.length ∧ v = .int .i64 k ∧ Duo w wr own p M (2 * k) 2 qa La 3 qb ⟨nV, [], (framesS []).length, false⟩ ∧ Hid (La.recs = ls.take k) ∧ Hid (La.name = nW)) (fun v _ => ls.length - (intOf v).toNat)
            case atStart => exact ⟨0, own3, fs0, _, Nat.zero_le _, rfl, hD3, rfl, rfl⟩
            case round =>
              obtain ⟨k, own, M, La, hk, rfl, hD, hR, hN⟩ := hrel
              clear hD3
              by_cases hlt : k < ls.length
              · obtain ⟨b, off, ha, _, hbl, hc⟩ := HA.out.cells (by intro e; rw [e] at hlt; simp at hlt)
                simp only at ha
                subst ha
                have hcc := (hD.below.cell (p := ⟨b, off + k, none⟩) hbl).trans (hc k (by omega))
                have hel := (((HA.out.zone (Y := fun g => g < w.heap.size) (fun g hg _ => hg)).keep hD.below).el k hlt (by omega))
                obtain ⟨v, hv⟩ : ∃ v, v = vs0[k]'(by omega) := ⟨_, rfl⟩
                obtain ⟨x, hx⟩ : ∃ x, x = ls[k] := ⟨_, rfl⟩
                rw [← hv] at hcc hel
                rw [← hx] at hel
                have hxl : x.length ≤ 200 := by rw [hx]; exact hsm.out _ (List.getElem_mem hlt)
                have htk : La.recs ++ [x] = ls.take (k + 1) := by rw [hR.out, hx, List.take_succ_eq_append_getElem hlt]
                have hfsz : (framesS (La.recs ++ [x])).length ≤ 16777216 := by
                  rw [htk]
                  have h1 := frames_at 200 (ls.take (k + 1)) (fun b hb => hsm.out b (List.mem_of_mem_take hb))
                  have h2 : (ls.take (k + 1)).length * (200 + 17) ≤ 20 * 217 := Nat.mul_le_mul_right _ (by rw [List.length_take]; omega)
                  omega
                have hap := hD.append (by omega) hel (fun g hg => hD.fresh g hg) (by omega) hfsz
                have dlt : decide ((k : Int) < (ls.length : Int)) = true := decide_eq_true (by omega)
                have HT := Lib.hid htk
                clear hc hv hx hel htk hfsz hD
                go_wp2_with fail
                refine hap.mono ?_
                rintro e w5 ⟨rfl, own5, hD5⟩
                have HD5 := Lib.hid hD5
                clear hap hD5
                go_wp2_with fail
                go_roundw
                case rel => exact ⟨k + 1, own5, _, La.put x, by omega, by go_num, HD5.out, HT.out, hN⟩
                case measure => simp [intOf]; omega
              · have hkl : k = ls.length := by omega
                subst hkl
                have dlt : decide ((ls.length : Int) < (ls.length : Int)) = false := decide_eq_false (by omega)
                have hfsz : (framesS ns).length ≤ 16777216 := by
                  have h1 := frames_at 200 ns hsn.out
                  have h2 : ns.length * (200 + 17) ≤ 20 * 217 := Nat.mul_le_mul_right _ q1
                  omega
                have hns5 : ∀ b ∈ ns, b.length ≤ 1048576 := fun b hb => by have := hsn.out b hb; omega
                have hBz := HB.out.zone (Y := fun g => g < w.heap.size) (fun g hg _ => hg)
                have hr1 := hD.reset ⟨a1, ns.length, c1⟩ vs1 ns (by omega) (hBz.keep hD.below) (fun g hg => hD.fresh g hg) hns5 hfsz
                have HBZ := Lib.hid hBz
                have HN5 := Lib.hid hns5
                clear hBz hns5
                go_wp2_with fail
                refine hr1.mono ?_
                rintro e w5 ⟨rfl, own5, hD5⟩
                have hr2 := hD5.swap.reset ⟨a1, ns.length, c1⟩ vs1 ns (by omega) (HBZ.out.keep hD5.below) (fun g hg => hD5.fresh g hg) HN5.out hfsz
                clear hr1
                go_wp2_with fail
                refine hr2.mono ?_
                rintro e w6 ⟨rfl, own6, hD6⟩
                generalize hM6 : rstM _ _ _ _ = M6 at hD6
                have hcr := crash_file _ p M6 ⟨a2, ps.length, c2⟩ ps w6 hD6.fs (hD6.pow.small (by omega)) (ints_at (s := ⟨a2, ps.length, c2⟩) (l := ps) ⟨rfl, HC.out.2⟩ hD6.below) HG.out
                have HD6 := Lib.hid hD6
                have HNA : Hid (La.name = nW) := hN
                clear hr2 hD6 hM6
                go_wp2_with fail
                refine hcr.mono ?_
                rintro e w7 ⟨p2, nms, rfl, hnm, hF7, hb7⟩
                have hO7 := HD6.out.ob.crash hnm ps
                have hfile : fileOf (crashM M6 nms ps) nW ns := by have := hO7.file; rw [show (La.anew ns).name = nW from HNA.out] at this; exact this
                have htmp : (crashM M6 nms ps).files (tmpN nW nW40) = none := by
                  have h1 := hO7.tmp
                  have h2 : (La.anew ns).name = nW := HNA.out
                  revert h1
                  generalize hO7.name = hh
                  revert hh
                  rw [h2]
                  intro hh h1
                  exact h1
                have hF7' : fsAt w7 (zn (setO own6 w6.heap.size 4) 4) p2 (crashM M6 nms ps) := hF7.zone (fun k hk hz => setO_new hz)
                have ho := log_open (i := 4) (j := 5) nW nW40 (by decide) ns (by decide) hF7' (Pow.crash hnm) hnm.size hfile htmp HN5.out
                have hFr7 := HD6.out.fresh.setO HD6.out.below.size 4
                have hb7' := HD6.out.below.trans (hb7.mono HD6.out.below.size)
                have hLa7 := (HD6.out.lb.retag (Nat.le_refl _) 4).keep hb7
                have hLb7 := (HD6.out.la.retag (Nat.le_refl _) 4).keep hb7
                have HFr7 := Lib.hid hFr7
                have HB7 := Lib.hid hb7'
                have HLa7 := Lib.hid hLa7
                have HLb7 := Lib.hid hLb7
                clear hcr hnm hF7 hb7 hO7 hfile htmp hF7' hFr7 hb7' hLa7 hLb7 HD6
                go_wp2_with fail
                refine ho.mono ?_
                rintro e w8 ⟨qc, rfl, own8, so8, hF8, hL8, u8⟩
                have hb8 := HB7.out.trans (HFr7.out.below u8 (by decide) HB7.out.size)
                have hLa8 : OneLog w8 own8 2 qa p (La.anew ns) := HLa7.out.upd so8 u8 (fun k h e => by have : (2 : Nat) = 4 := h.symm.trans e; omega)
                have hLb8 : OneLog w8 own8 3 qb p _ := HLb7.out.upd so8 u8 (fun k h e => by have : (3 : Nat) = 4 := h.symm.trans e; omega)
                have hh1 := log_has _ _ _ hLa8 HN5.out hfsz (HBZ.out.keep hb8)
                rw [show (La.anew ns).recs = ns from rfl] at hh1
                simp only [decide_true] at hh1
                have HB8 := Lib.hid hb8
                have HL8 := Lib.hid hL8
                have HLa8 := Lib.hid hLa8
                have HLb8 := Lib.hid hLb8
                clear ho so8 hF8 u8 hb8 hL8 hLa8 hLb8
                go_wp2_with fail
                refine hh1.mono ?_
                rintro e w9 ⟨rfl, hb9⟩
                have hh2 := log_has _ _ _ (HL8.out.keep hb9) HN5.out hfsz (HBZ.out.keep (HB8.out.trans (hb9.mono HB8.out.size)))
                simp only [decide_true] at hh2
                have HB9 := Lib.hid (HB8.out.trans (hb9.mono HB8.out.size))
                have HLa9 := Lib.hid (HLa8.out.keep hb9)
                have HLb9 := Lib.hid (HLb8.out.keep hb9)
                clear hh1 hb9
                go_wp2_with fail
                refine hh2.mono ?_
                rintro e wa ⟨rfl, hba⟩
                obtain ⟨sa, va, hla⟩ := HLa9.out.keep hba
                obtain ⟨sb, vb, hlb⟩ := HLb9.out.keep hba
                have hby1 := bytes_log hla
                have hby2 := bytes_log hlb
                have HBa := Lib.hid (HB9.out.trans (hba.mono HB9.out.size))
                clear hh2 hba hla hlb
                go_wp2_with fail
                refine hby1.mono ?_
                rintro e wb ⟨rfl, rfl⟩
                go_wp2_with fail
                refine hby2.mono ?_
                rintro e wb ⟨rfl, rfl⟩
                clear hby1 hby2
                go_wp2_with fail
                refine (awake8 _).mono ?_
                rintro e wc ⟨rfl, hbc⟩
                have HBc := Lib.hid (HBa.out.trans (hbc.mono HBa.out.size))
                clear hbc
                go_wp2_with fail
                go_ret
                exact ⟨rfl, HBc.out⟩
  · go_enter Try.func11, Try.ntmps11
    by_cases hx0 : ls.length ≤ 20
    · have d0 : decide ((20 : Int) < (ls.length : Int)) = false := decide_eq_false (by omega)
      by_cases hx1 : ns.length ≤ 20
      · have d1 : decide ((20 : Int) < (ns.length : Int)) = false := decide_eq_false (by omega)
        have d2 : decide ((5 : Int) < (ps.length : Int)) = true := decide_eq_true (by omega)
        clear hbig
        go_wp2_with fail
        refine (awake8 w).mono ?_
        rintro e w' ⟨rfl, hb'⟩
        go_wp2_with fail
        go_ret
        exact ⟨rfl, hb'⟩
      · have d1 : decide ((20 : Int) < (ns.length : Int)) = true := decide_eq_true (by omega)
        clear hbig
        go_wp2_with fail
        refine (awake8 w).mono ?_
        rintro e w' ⟨rfl, hb'⟩
        go_wp2_with fail
        go_ret
        exact ⟨rfl, hb'⟩
    · have d0 : decide ((20 : Int) < (ls.length : Int)) = true := decide_eq_true (by omega)
      clear hbig
      go_wp2_with fail
      refine (awake8 w).mono ?_
      rintro e w' ⟨rfl, hb'⟩
      go_wp2_with fail
      go_ret
      exact ⟨rfl, hb'⟩
end Go.Proofs.Ytkiindgcbpkddaa
