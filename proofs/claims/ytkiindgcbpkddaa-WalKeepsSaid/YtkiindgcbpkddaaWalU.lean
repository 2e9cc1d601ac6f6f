/- WalKeeps: whatever the records, the law returns true. -/
import Derived.Test.YtkiindgcbpkddaaWalT
set_option linter.unusedSimpArgs false
set_option linter.unusedVariables false
namespace Go.Proofs.Ytkiindgcbpkddaa
open Go.RowKit Go.Sort
theorem xor_85 : ∀ n : Fin 256, bits .xor .u8 ((n.val : Nat) : Int) 85 = (((UInt8.ofNat n.val) ^^^ 85).toNat : Int) := by decide +kernel
theorem xor_u8 (c : UInt8) : Value.int .u8 (bits .xor .u8 (c.toNat : Int) 85) = byteV (c ^^^ 85) := by
  have h := xor_85 ⟨c.toNat, c.toNat_lt⟩
  simp only [UInt8.ofNat_toNat] at h
  rw [h]
  rfl
theorem inc_u8 (c : UInt8) : Value.int .u8 (IntKind.u8.wrap ((c.toNat : Int) + 1)) = byteV (c + 1) := by
  have e : (c.toNat : Int) + 1 = ((c.toNat + 1 : Nat) : Int) := by simp
  rw [e, wrap_u8]
  unfold byteV
  congr 2
theorem inc_u8m (c : UInt8) : Value.int .u8 (((c.toNat : Int) + 1) % 256) = byteV (c + 1) := by
  rw [← inc_u8]
  congr 1
theorem frames_le (m : Nat) : ∀ (rs : List (List UInt8)), (∀ b ∈ rs, b.length ≤ m) → (framesS rs).length ≤ rs.length * (m + 17)
  | [], _ => by simp [framesS]
  | b :: rs, h => by
    have e : framesS (b :: rs) = frameS b ++ framesS rs := by simp [framesS]
    have ih := frames_le m rs (fun x hx => h x (by simp [hx]))
    have hb := h b (by simp)
    have hp := putS_le b.length
    rw [e, List.length_append, frameS_length, List.length_cons, Nat.add_mul]
    omega
set_option maxRecDepth 100000 in
set_option maxHeartbeats 4000000 in
theorem keeps_any (s0 : Sl) (vs0 : List Sl) (ls : List (List UInt8)) (w : World) (h : listsZ w (fun _ => True) s0 vs0 ls) :
    Calls Try.prog 10 #[.slice s0.a s0.n s0.c] w fun e w' => e = .returned (.bool true) ∧ Below w.heap.size w w' := by
  obtain ⟨a0, n0, c0⟩ := s0
  have hn0 : n0 = ls.length := h.n
  subst hn0
  have hl0 := h.len
  have HLS := Lib.hid h
  clear h
  by_cases hbig : 20 < ls.length
  · have hd : decide ((20 : Int) < (ls.length : Int)) = true := decide_eq_true (by omega)
    go_enter Try.func10, Try.ntmps10
    go_wp2_with fail
    refine (awake8 w).mono ?_
    rintro e w' ⟨rfl, hb⟩
    go_wp2_with fail
    go_ret
    exact ⟨rfl, hb⟩
  · have hd : decide ((20 : Int) < (ls.length : Int)) = false := decide_eq_false (by omega)
    go_enter Try.func10, Try.ntmps10
    go_wp2_with fail
    refine (new_fs w).mono ?_
    rintro e w1 ⟨p, rfl, h1, b1⟩
    have F0 : Fresh (setO (fun _ => 0) w.heap.size 1) w.heap.size := fun k hk => setO_old hk
    have hF1 : fsAt w1 (zn (setO (fun _ => 0) w.heap.size 1) 1) p fs0 := h1.zone (fun k hk hz => setO_new hz)
    have ho := log_open (j := 2) nW nW40 (by decide) [] (by decide) hF1 Pow.zero (by decide) (.inl ⟨rfl, rfl⟩) rfl (by simp)
    have B1 := Lib.hid b1
    have HF0 := Lib.hid F0
    clear h1 b1 hF1 F0
    go_wp2_with fail
    refine ho.mono ?_
    rintro e w2 ⟨q, rfl, own2, s2, hF2, hL2, u2⟩
    have F2 := HF0.out.same s2 B1.out.size
    have b2 := B1.out.trans (HF0.out.below u2 (by decide) B1.out.size)
    have hO2 : LogOk fs0 ⟨nW, [], (framesS []).length, false⟩ := LogOk.new nW nW40 (by decide) rfl rfl
    clear ho s2 u2 HF0 B1
    go_wp2_with fail
    go_loopw [6] (fun v wr => ∃ (k : Nat) (own : Nat → Nat) (M : FsM) (L : LogM), k ≤ ls.length ∧ v = .int .i64 k ∧ fsAt wr (zn own 1) p M ∧ Pow M (2 * k) ∧ OneLog wr own 2 q p L ∧ LogOk M L ∧ Hid (L.name = nW) ∧ Hid (L.recs = ls.take k) ∧ Hid (∀ b ∈ ls.take k, b.length ≤ 300) ∧ Below w.heap.size w wr ∧ Fresh own w.heap.size) (fun v _ => ls.length - (intOf v).toNat)
    case atStart => exact ⟨0, own2, fs0, _, Nat.zero_le _, rfl, hF2, Pow.zero, hL2, hO2, rfl, rfl, (by intro b hb; simp at hb), b2, F2⟩
    case round =>
      obtain ⟨k, own, M, L, hk, rfl, hF, hP, hL, hO, hN, hR, hsm, hb, hFr⟩ := hrel
      obtain ⟨wo, hwo⟩ : ∃ wo, wo = wr := ⟨_, rfl⟩
      subst hwo
      clear hF2 hL2 hO2 b2 F2
      by_cases hlt : k < ls.length
      · obtain ⟨b0, off, ha, _, hb0, hc0⟩ := HLS.out.cells (by intro e; rw [e] at hlt; simp at hlt)
        simp only at ha
        subst ha
        have hc1 := (hb.cell (p := ⟨b0, off + k, none⟩) hb0).trans (hc0 k (by omega))
        have hel := (HLS.out.el k hlt (by omega)).keep hb
        obtain ⟨v, hv⟩ : ∃ v, v = vs0[k]'(by omega) := ⟨_, rfl⟩
        obtain ⟨x, hx⟩ : ∃ x, x = ls[k] := ⟨_, rfl⟩
        rw [← hv] at hc1 hel
        rw [← hx] at hel
        have hvn : v.n = x.length := hel.1
        have hb0w : b0 < wo.heap.size := Nat.lt_of_lt_of_le hb0 hb.size
        have dlt : decide ((k : Int) < (ls.length : Int)) = true := decide_eq_true (by omega)
        have HX := Lib.hid hx
        have HF := Lib.hid hF
        have HP := Lib.hid hP
        have HL := Lib.hid hL
        have HO := Lib.hid hO
        have HFr := Lib.hid hFr
        clear hc0 hx hv hF hP hL hO hFr
        by_cases hlong : 300 < x.length
        · have dl : decide ((300 : Int) < (v.n : Int)) = true := decide_eq_true (by omega)
          go_wp2_with fail
          refine (awake8 wo).mono ?_
          rintro e w' ⟨rfl, hb'⟩
          go_wp2_with fail
          go_ret
          exact ⟨rfl, hb.trans (hb'.mono hb.size)⟩
        · have dl : decide ((300 : Int) < (v.n : Int)) = false := decide_eq_false (by omega)
          obtain ⟨⟨sa, sn, sc⟩, X, hrun, hown, hbX⟩ := copy_run v x hel.at (Nat.le_refl _) (by omega)
          have hsn : sn = x.length := hown.1
          have hrun2 := hrun 102
          have HRUN := Lib.hid hrun2
          have HOWN := Lib.hid hown
          have HBX := Lib.hid hbX
          have HVN := Lib.hid hvn
          have HSN := Lib.hid hsn
          have hsl : sn ≤ 300 := by omega
          clear hrun hrun2 hown hbX hel hvn hsn
          go_wp2_with (refine Lib.wpList_append_run _ rfl _ _ _ _ rfl _ _ rfl rfl _ _ HRUN.out ?_)
          have hbl : x.length ≤ 300 := by omega
          have hsm2 : ∀ b ∈ L.recs ++ [x], b.length ≤ 300 := by
            intro b hb'
            rcases List.mem_append.1 hb' with h | h
            · rw [hR.out] at h; exact hsm.out b h
            · rw [List.mem_singleton.1 h]; exact hbl
          have hcnt : (L.recs ++ [x]).length ≤ 20 := by
            have : L.recs.length ≤ k := by rw [hR.out, List.length_take]; omega
            simp; omega
          have hfsz : (framesS (L.recs ++ [x])).length ≤ 16777216 := by
            have h1 := frames_le 300 _ hsm2
            have h2 : (L.recs ++ [x]).length * (300 + 17) ≤ 20 * 317 := Nat.mul_le_mul_right _ hcnt
            omega
          have hsw : Hid (∀ j, wo.heap.size ≤ j → setO own wo.heap.size 0 j = 0) := fun j hj => setO_new hj
          have hF3 : fsAt X (zn (setO own wo.heap.size 0) 1) p M := (HF.out.retag (Nat.le_refl _) 0).below HBX.out
          have hL3 : OneLog X (setO own wo.heap.size 0) 2 q p L := (HL.out.retag (Nat.le_refl _) 0).keep HBX.out
          obtain ⟨A1, A2, A3, A4, A5, A6⟩ := HO.out.append HP.out x (by omega) hfsz
          rw [A2] at A5
          have hap := log_append (i := 1) (j := 2) (by decide) hF3 HP.out hL3 HO.out (by omega) HOWN.out.z (fun j hj => by rw [hsw.out j hj]; decide) (by omega) hfsz
          have hFr3 := HFr.out.setO hb.size 0
          have hbX := hb.trans (HBX.out.mono hb.size)
          have hsfX := soft_own HOWN.out
          have hgX : ∀ g, sa = some ⟨g, 0, none⟩ → sn ≠ 0 → g < X.heap.size := by
            intro g hg hn
            obtain ⟨g', cur, e1, e2, e3, e4⟩ := hsfX hn
            simp only at e1
            rw [hg] at e1
            cases e1
            exact (cells_known e3).2.2
          have HA4 := Lib.hid A4
          have HA5 := Lib.hid A5
          have HHX := Lib.hid hbX
          have HFr3 := Lib.hid hFr3
          have HSX := Lib.hid hsfX
          have HGX := Lib.hid hgX
          have HSM2 := Lib.hid hsm2
          have HFSZ := Lib.hid hfsz
          clear hsm2 hcnt hfsz hF3 hL3 A1 A2 A3 A4 A5 A6 hFr3 hbX hsfX hgX HRUN HOWN
          refine hap.mono ?_
          rintro e W1 ⟨rfl, own1, s1, hF4, hL4, u4⟩
          have hs1 : softW W1 wo.heap.size ⟨sa, sn, sc⟩ := HSX.out.other u4 (fun g _ hg _ e => by rw [hsw.out g hg] at e; omega)
          have ho1 : ∀ j, wo.heap.size ≤ j → j < X.heap.size → own1 j = 0 := fun j h1 h2 => (s1 j h2).trans (hsw.out j h1)
          have HF4 := Lib.hid hF4
          have HL4 := Lib.hid hL4
          have HU4 := Lib.hid u4
          have HS1 := Lib.hid s1
          have HO1 := Lib.hid ho1
          clear hap hF4 hL4 u4 s1 ho1
          go_wp2_with fail
          go_loopw [8] (fun v wr2 => ∃ j : Nat, j ≤ sn ∧ v = .int .i64 j ∧ softW wr2 wo.heap.size ⟨sa, sn, sc⟩ ∧ Upd W1 wr2 (fun k => wo.heap.size ≤ k ∧ k < X.heap.size)) (fun v _ => sn - (intOf v).toNat)
          case atStart => exact ⟨0, Nat.zero_le _, rfl, hs1, Upd.refl _ _⟩
          case round =>
            obtain ⟨j, hj, rfl, hsf, hu⟩ := hrel
            clear hs1
            by_cases hjn : j < sn
            · obtain ⟨g, cur, hga, hgb, hgc, hcur⟩ := hsf (by simp only; omega)
              simp only at hga hcur
              obtain ⟨c, hcj⟩ := hcur j hjn
              have cg : wr.cell? ⟨g, j, none⟩ = some (.int .u8 c.toNat) := ((cells_known hgc).1 j).trans hcj
              have fg := (cells_known hgc).2.1 j
              have hgX := HGX.out g hga (by omega)
              have hset := (hsf.set (j := j) (c := c ^^^ 85) hgc)
              have hst := xor_u8 c
              subst hga
              have HSET := Lib.hid hset
              have HST := Lib.hid hst
              have hcl := c.toNat_lt
              have djn : decide ((j : Int) < (sn : Int)) = true := decide_eq_true (by omega)
              clear hsf hcur hcj hset hst hgc
              go_wp2_with fail
              go_roundw
              case rel =>
                rw [HST.out]
                exact ⟨j + 1, by omega, by go_num, HSET.out, hu.trans (Upd.setCell wr ⟨g, j, none⟩ _) (fun i _ e => by rw [show i = g from e]; exact ⟨hgb, hgX⟩)⟩
              case measure => simp [intOf]; omega
            · have djn : decide ((j : Int) < (sn : Int)) = false := decide_eq_false (by omega)
              obtain ⟨W2, hW2⟩ : ∃ W2, W2 = wr := ⟨_, rfl⟩
              subst hW2
              have hdis : ∀ (i k : Nat), 1 ≤ i → own1 k = i → ¬ (wo.heap.size ≤ k ∧ k < X.heap.size) := fun i k hi hk e => by have := HO1.out k e.1 e.2; omega
              have hF5 : fsAt W2 (zn own1 1) p (wapM M L x) := HF4.out.turn (fun _ _ => rfl) hu (fun k hk => hdis 1 k (Nat.le_refl _) hk)
              have hL5 : OneLog W2 own1 2 q p (L.put x) := HL4.out.upd (fun _ _ => rfl) hu (fun k hk => hdis 2 k (by decide) hk)
              obtain ⟨sl, svs, hl5⟩ := hL5
              have hrc := records_soft hl5 (by have := frames_count (L.recs ++ [x]); have := HFSZ.out; show (L.recs ++ [x]).length ≤ _; omega) (fun b hb' => by have := HSM2.out b hb'; omega)
              have hFr1 := HFr3.out.same HS1.out HHX.out.size
              have hb2 : Below w.heap.size w W2 := (HHX.out.trans (HFr3.out.below2 HU4.out (by decide) (by decide) HHX.out.size)).trans (hu.below (HHX.out.trans (HFr3.out.below2 HU4.out (by decide) (by decide) HHX.out.size)).size (fun k hk => Nat.le_trans hb.size hk.1))
              have HF5 := Lib.hid hF5
              have HL5 := Lib.hid hl5
              have HFr1 := Lib.hid hFr1
              have HB2 := Lib.hid hb2
              clear hsf hu hF5 hFr1 hb2 hdis hl5
              go_wp2_with fail
              refine hrc.mono ?_
              rintro e W3 ⟨⟨ra, rn, rc⟩, rvs, rfl, hrec0, hb3, hsoft⟩
              have hrec : RecsAt W3 (fun k => W2.heap.size ≤ k) ⟨ra, rn, rc⟩ rvs (L.recs ++ [x]) := hrec0
              clear hrec0
              have hrn : rn = (L.recs ++ [x]).length := hrec.n
              have hrl := hrec.len
              obtain ⟨rb, rcap, rcur, hrow, hrown, hrblk, hrle, _, hrsz, hrtk⟩ : ∃ g cap cur, Sl.v ⟨ra, rn, rc⟩ = .slice (some ⟨g, 0, none⟩) (L.recs ++ [x]).length cap ∧ 0 ≤ g ∧ W3.heap[g]? = some (.cells cur 102 (0, 0)) ∧ (L.recs ++ [x]).length ≤ cap ∧ cap ≤ maxLen ∧ cur.size = cap * 1 ∧ cur.toList.take ((L.recs ++ [x]).length * 1) = rvs.map Sl.v := by
                rcases hrec.own.2 with ⟨_, h0⟩ | h
                · exfalso; simp at h0
                · exact h
              have hra : ra = some ⟨rb, 0, none⟩ := by
                unfold Sl.v at hrow
                injection hrow with e1 e2 e3
              have hrk : ∀ i (h : i < rvs.length), rcur[i]? = some (.slice rvs[i].a rvs[i].n rvs[i].c) := by
                intro i hi
                have h2 : (rcur.toList.take ((L.recs ++ [x]).length * 1))[i]? = (rvs.map Sl.v)[i]? := by rw [hrtk]
                rw [List.getElem?_take, if_pos (by omega), List.getElem?_map, List.getElem?_eq_getElem hi] at h2
                simpa [Sl.v] using h2
              subst hra
              obtain ⟨N, hN'⟩ : ∃ N, N = (L.recs ++ [x]).length := ⟨_, rfl⟩
              rw [← hN'] at hrn hrl
              have hrvN : rvs.length = N := hrl
              subst hrn
              have hNs : rn ≤ 100 := by have := frames_count (L.recs ++ [x]); have h9 := frames_le 300 _ HSM2.out; have : (L.recs ++ [x]).length ≤ 20 := (by have : L.recs.length ≤ k := (by rw [hR.out, List.length_take]; omega); simp; omega); omega
              have hyl : ∀ y ∈ rvs, y.n ≤ 300 := by
                intro y hy
                obtain ⟨i, hi, rfl⟩ := List.getElem_of_mem hy
                rw [(hrec.el i (by omega) hi).1]
                exact HSM2.out _ (List.getElem_mem _)
              have HYL := Lib.hid hyl
              have HRK := Lib.hid hrk
              have HB3 := Lib.hid hb3
              clear hrc hrec hrow hrown hrle hrsz hrtk hrk hN' hb3 hrl hyl
              go_wp2_with fail
              go_loopw [10] (fun v wr3 => ∃ i : Nat, i ≤ rn ∧ v = .int .i64 i ∧ Below W2.heap.size W2 wr3 ∧ (∀ y ∈ rvs, softW wr3 W2.heap.size y) ∧ wr3.heap[rb]? = some (.cells rcur 102 (0, 0))) (fun v _ => rn - (intOf v).toNat)
              case atStart => exact ⟨0, Nat.zero_le _, rfl, HB3.out, hsoft, hrblk⟩
              case round =>
                obtain ⟨i, hi, rfl, hbi, hsi, hrbi⟩ := hrel
                clear hsoft hrblk
                by_cases hir : i < rn
                · have din : decide ((i : Int) < (rn : Int)) = true := decide_eq_true (by omega)
                  obtain ⟨y, hy⟩ : ∃ y, y = rvs[i]'(by omega) := ⟨_, rfl⟩
                  have hym : y ∈ rvs := by rw [hy]; exact List.getElem_mem _
                  have hri : rcur[i]? = some (.slice y.a y.n y.c) := by rw [hy]; exact HRK.out i (by omega)
                  have hy3 := HYL.out y hym
                  have HY := Lib.hid hy
                  clear hy
                  go_wp2_with fail
                  go_loopw [11] (fun v wr4 => ∃ j : Nat, j ≤ y.n ∧ v = .int .i64 j ∧ Below W2.heap.size W2 wr4 ∧ (∀ y ∈ rvs, softW wr4 W2.heap.size y) ∧ wr4.heap[rb]? = some (.cells rcur 102 (0, 0))) (fun v _ => y.n - (intOf v).toNat)
                  case atStart => exact ⟨0, Nat.zero_le _, rfl, hbi, hsi, hrbi⟩
                  case round =>
                    obtain ⟨j, hj, rfl, hbj, hsj, hrbj⟩ := hrel
                    clear hbi hsi hrbi
                    have cri : wr.cell? ⟨rb, i, none⟩ = some (.slice y.a y.n y.c) := ((cells_known hrbj).1 i).trans hri
                    obtain ⟨ya, yn, yc⟩ := y
                    simp only at hj cri hy3 ⊢
                    by_cases hjy : j < yn
                    · have djy : decide ((j : Int) < (yn : Int)) = true := decide_eq_true (by omega)
                      have djy2 : decide (j < yn) = true := decide_eq_true hjy
                      obtain ⟨g, cur, hga, hgb, hgc, hcur⟩ := hsj ⟨ya, yn, yc⟩ hym (by simp only; omega)
                      simp only at hga hcur
                      obtain ⟨c, hcj⟩ := hcur j hjy
                      have cg : wr.cell? ⟨g, j, none⟩ = some (.int .u8 c.toNat) := ((cells_known hgc).1 j).trans hcj
                      have fg := (cells_known hgc).2.1 j
                      have hst := inc_u8m c
                      subst hga
                      have hall : ∀ z ∈ rvs, softW (wr.setCell ⟨g, j, none⟩ (byteV (c + 1))) W2.heap.size z := fun z hz => (hsj z hz).set hgc
                      have hgr : rb ≠ g := apart_type hrbj hgc (by decide)
                      have hrb2 : (wr.setCell ⟨g, j, none⟩ (byteV (c + 1))).heap[rb]? = some (.cells rcur 102 (0, 0)) := ((Upd.setCell wr ⟨g, j, none⟩ _).block rb (cells_known hrbj).2.2 hgr).trans hrbj
                      have hb2 : Below W2.heap.size W2 (wr.setCell ⟨g, j, none⟩ (byteV (c + 1))) := hbj.trans ((Upd.setCell wr ⟨g, j, none⟩ (byteV (c + 1))).below hbj.size (fun k e => by rw [show k = g from e]; exact hgb))
                      have HALL := Lib.hid hall
                      have HRB2 := Lib.hid hrb2
                      have HB2' := Lib.hid hb2
                      have HST := Lib.hid hst
                      have hcl := c.toNat_lt
                      clear hsj hcur hcj hst hgc hall hrb2 hb2 hrbj hbj
                      go_wp2_with fail
                      go_roundw
                      case rel =>
                        rw [HST.out]
                        exact ⟨j + 1, by omega, by go_num, HB2'.out, HALL.out, HRB2.out⟩
                      case measure => simp [intOf]; omega
                    · have djy : decide ((j : Int) < (yn : Int)) = false := decide_eq_false (by omega)
                      have djy2 : decide (j < yn) = false := decide_eq_false hjy
                      have HSJ := Lib.hid hsj
                      have HRBJ := Lib.hid hrbj
                      clear hsj hrbj
                      go_wp2_with fail
                      go_roundw
                      case rel => exact ⟨i + 1, by omega, by go_num, hbj, HSJ.out, HRBJ.out⟩
                      case measure => simp [intOf]; omega
                · have din : decide ((i : Int) < (rn : Int)) = false := decide_eq_false (by omega)
                  go_wp2_with fail
                  have hF6 := HF5.out.below hbi
                  have hL6 : OneLog wr own1 2 q p (L.put x) := ⟨_, _, HL5.out.keep hbi⟩
                  have hb6 : Below w.heap.size w wr := HB2.out.trans (hbi.mono HB2.out.size)
                  go_roundw
                  case rel => exact ⟨k + 1, own1, wapM M L x, L.put x, by omega, by go_num, hF6, HA4.out.mono (by omega), hL6, HA5.out, hN, (by show L.recs ++ [x] = _; rw [hR.out, HX.out]; exact (List.take_succ_eq_append_getElem hlt).symm), (by have h := HSM2.out; rw [hR.out, HX.out, ← List.take_succ_eq_append_getElem hlt] at h; exact h), hb6, HFr1.out⟩
                  case measure => simp [intOf]; omega
      · have hkl : k = ls.length := by omega
        subst hkl
        have hlR : Hid (L.recs = ls) := by unfold Hid; rw [hR.out, List.take_length]
        have dlt : decide ((ls.length : Int) < (ls.length : Int)) = false := decide_eq_false (by omega)
        have hfile : fileOf M nW ls := by have := hO.file; rw [hN.out, hlR.out] at this; exact this
        have htmp : M.files (tmpN nW nW40) = none := by have := hO.tmp; simp only [hN.out] at this; exact this
        have hle : ∀ b ∈ ls, b.length ≤ 300 := by have := hsm.out; rwa [List.take_length] at this
        have hfsz : (framesS ls).length ≤ 16777216 := by
          have h1 := frames_le 300 _ hle
          have h2 : ls.length * (300 + 17) ≤ 20 * 317 := Nat.mul_le_mul_right _ (by omega)
          omega
        have ho := log_open (i := 1) (j := 3) nW nW40 (by decide) ls (by decide) hF hP (by omega) hfile htmp (fun b hb' => by have := hle b hb'; omega)
        have HL := Lib.hid hL
        have HLE := Lib.hid hle
        have HFR := Lib.hid hFr
        clear hF hP hL hO hfile htmp hle hFr
        go_wp2_with fail
        refine ho.mono ?_
        rintro e W2 ⟨q2, rfl, own2', s2, hF2, hL2, u2⟩
        have hb2 : Below w.heap.size w W2 := hb.trans (HFR.out.below u2 (by decide) hb.size)
        have hL3 : OneLog W2 own2' 2 q p L := HL.out.upd s2 u2 (fun k h e => by have : (2 : Nat) = 1 := h.symm.trans e; omega)
        have hw2 := HLS.out.keep hb2
        have hh1 := log_has _ _ _ hL3 (fun b hb' => by rw [hlR.out] at hb'; have := HLE.out b hb'; omega) (by rw [hlR.out]; exact hfsz) hw2
        rw [hlR.out] at hh1
        simp only [decide_true] at hh1
        have HB2 := Lib.hid hb2
        have HL2 := Lib.hid hL2
        clear ho s2 hF2 u2 hb2 hL3 hw2 hL2
        go_wp2_with fail
        refine hh1.mono ?_
        rintro e W3 ⟨rfl, hb3⟩
        have hw3 := HLS.out.keep (HB2.out.trans (hb3.mono HB2.out.size))
        have hh2 := log_has _ _ _ (HL2.out.keep hb3) (fun b hb' => by have := HLE.out b hb'; omega) hfsz hw3
        simp only [decide_true] at hh2
        have HB3 := Lib.hid (HB2.out.trans (hb3.mono HB2.out.size))
        clear hh1 hb3 hw3
        go_wp2_with fail
        refine hh2.mono ?_
        rintro e W4 ⟨rfl, hb4⟩
        have HB4 := Lib.hid (HB3.out.trans (hb4.mono HB3.out.size))
        clear hh2 hb4
        go_wp2_with fail
        refine (awake8 _).mono ?_
        rintro e W5 ⟨rfl, hb5⟩
        have HB5 := Lib.hid (HB4.out.trans (hb5.mono HB4.out.size))
        clear hb5
        go_wp2_with fail
        go_ret
        exact ⟨rfl, HB5.out⟩
end Go.Proofs.Ytkiindgcbpkddaa
