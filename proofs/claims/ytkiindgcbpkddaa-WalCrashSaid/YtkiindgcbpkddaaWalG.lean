/- The records that bytes begin with. -/
import Derived.Test.YtkiindgcbpkddaaWalF
import Derived.Deep.RegionHeld3
import Derived.Deep.DeepCutAuto
import Derived.Deep.CutBlock
set_option linter.unusedSimpArgs false
set_option linter.unusedVariables false
namespace Go.Proofs.Ytkiindgcbpkddaa
open Go.RowKit
/-- What stands at the label of reads. -/
def RdJ (w : World) (va : Option Addr) (vc : Nat) (l : List UInt8) (a : Act) (X : World) : Prop :=
  ∃ (R : Nat) (o : Sl) (vs : List Sl) (rs : List (List UInt8)) (u : Nat → Value), R ≤ l.length ∧ rs.length ≤ R ∧ RecsAt X (fun k => w.heap.size ≤ k) o vs rs ∧ Hid (readsS l = (rs ++ (readsS (l.drop R)).1, R + (readsS (l.drop R)).2)) ∧ Below w.heap.size w X ∧
    a = { tmps := #[.slice va l.length vc, u 1, .slice o.a o.n o.c, .int .i64 (R : Nat), u 4, u 5, u 6, u 7, u 8, u 9, u 10, u 11, u 12, u 13, u 14, u 15, u 16, u 17, u 18, u 19, u 20, u 21, u 22, u 23, u 24, u 25, u 26, u 27, u 28, u 29, u 30, u 31, u 32, u 33, u 34, u 35, u 36, u 37, u 38, u 39, u 40, u 41, u 42, u 43, u 44, u 45, u 46, u 47, u 48, u 49, u 50, u 51, u 52, u 53, u 54, u 55, u 56, u 57, u 58, u 59, u 60, u 61], defers := [] }
set_option maxRecDepth 100000 in
theorem RdJ.intro {w X : World} {va : Option Addr} {vc : Nat} {l : List UInt8} {f : Array Value} (R : Nat) (o : Sl) (vs : List Sl) (rs : List (List UInt8)) (he : (⟨f, []⟩ : Act) = { tmps := #[.slice va l.length vc, f.getD 1 undef, .slice o.a o.n o.c, .int .i64 (R : Nat), f.getD 4 undef, f.getD 5 undef, f.getD 6 undef, f.getD 7 undef, f.getD 8 undef, f.getD 9 undef, f.getD 10 undef, f.getD 11 undef, f.getD 12 undef, f.getD 13 undef, f.getD 14 undef, f.getD 15 undef, f.getD 16 undef, f.getD 17 undef, f.getD 18 undef, f.getD 19 undef, f.getD 20 undef, f.getD 21 undef, f.getD 22 undef, f.getD 23 undef, f.getD 24 undef, f.getD 25 undef, f.getD 26 undef, f.getD 27 undef, f.getD 28 undef, f.getD 29 undef, f.getD 30 undef, f.getD 31 undef, f.getD 32 undef, f.getD 33 undef, f.getD 34 undef, f.getD 35 undef, f.getD 36 undef, f.getD 37 undef, f.getD 38 undef, f.getD 39 undef, f.getD 40 undef, f.getD 41 undef, f.getD 42 undef, f.getD 43 undef, f.getD 44 undef, f.getD 45 undef, f.getD 46 undef, f.getD 47 undef, f.getD 48 undef, f.getD 49 undef, f.getD 50 undef, f.getD 51 undef, f.getD 52 undef, f.getD 53 undef, f.getD 54 undef, f.getD 55 undef, f.getD 56 undef, f.getD 57 undef, f.getD 58 undef, f.getD 59 undef, f.getD 60 undef, f.getD 61 undef], defers := [] }) (h1 : R ≤ l.length) (h2 : rs.length ≤ R) (h3 : RecsAt X (fun k => w.heap.size ≤ k) o vs rs)
    (h4 : Hid (readsS l = (rs ++ (readsS (l.drop R)).1, R + (readsS (l.drop R)).2))) (h5 : Below w.heap.size w X) : RdJ w va vc l ⟨f, []⟩ X := ⟨R, o, vs, rs, fun j => f.getD j undef, h1, h2, h3, h4, h5, he⟩
set_option maxRecDepth 100000 in
set_option maxHeartbeats 2000000 in
theorem reads_wal (v : Sl) (l : List UInt8) (w : World) (h : bytesAt w v l w.heap.size) (hc : v.n ≤ v.c) (hml : l.length ≤ 100000000) :
    Calls Try.prog 93 #[.slice v.a v.n v.c] w fun e w' => ∃ (s : Sl) (vs : List Sl), e = .returned (.tuple #[.slice s.a s.n s.c, .int .i64 (readsS l).2]) ∧ RecsAt w' (fun k => w.heap.size ≤ k) s vs (readsS l).1 ∧ Below w.heap.size w w' := by
  obtain ⟨va, vn, vc⟩ := v
  have hn : vn = l.length := h.1
  subst hn
  simp only at hc
  have HV := Lib.hid h
  clear h
  go_enter Try.func93, Try.ntmps93
  go_wp2_with fail
  refine wp_scope_loop 1 0 (RdJ w va vc l) (fun a _ => l.length - (intOf (a.tmps.getD 3 undef)).toNat) (by rfl) (by rfl) ?_ ?_
  · rintro a X ⟨R, o, vs, rs, u, hR, hrl, hrec, hre, hbX, rfl⟩
    obtain ⟨D, hD⟩ : ∃ D, D = l.drop R := ⟨_, rfl⟩
    have hDl : D.length = l.length - R := by rw [hD, List.length_drop]
    by_cases hlt : R < l.length
    · obtain ⟨b, off, ha, hbl, hcell⟩ := HV.out.2 (by intro e; rw [e] at hlt; simp at hlt)
      simp only at ha
      subst ha
      have hcR : (vc = R) = False := by rw [eq_iff_iff]; exact ⟨fun h => by omega, False.elim⟩
      have hq : bytesAt X ⟨some ⟨b, off + R, none⟩, l.length - R, vc - R⟩ D X.heap.size := by
        refine ⟨hDl.symm, fun _ => ⟨b, off + R, rfl, Nat.lt_of_lt_of_le hbl hbX.size, fun k hk => ?_⟩⟩
        have := hcell (R + k) (by omega)
        rw [(hbX.cell (p := ⟨b, off + R + k, none⟩) hbl), Nat.add_assoc, this]
        simp [hD]
      have hget := get_num ⟨some ⟨b, off + R, none⟩, l.length - R, vc - R⟩ D X hq (by simp only; omega) (by omega)
      have HREC := Lib.hid hrec
      have HD := Lib.hid hD
      have HDL := Lib.hid hDl
      clear hrec hq hD hDl
      go_wp2_with fail
      refine hget.mono ?_
      rintro e Y ⟨rfl, hbY⟩
      have hR := HREC.out.keep hbY
      have hb := hbX.trans (hbY.mono hbX.size)
      have HR2 := Lib.hid hR
      have HB2 := Lib.hid hb
      clear hget HREC hbY hR hb hbX
      cases hg : getS D with
      | none =>
        have HE : Hid (readsS l = (rs, R)) := by
          unfold Hid
          rw [hre.out, ← HD.out, readsS_none (by unfold rd1; rw [hg])]
          simp
        simp only [getR, hg]
        clear hg
        go_wp2_with fail
        go_step3
        go_wp2_with fail
        refine two_fwd ?_
        go_wp2_with fail
        rw [Exit.noGoto_ret]
        refine bodyPost_ret (v := .tuple #[.slice o.a o.n o.c, .int .i64 R]) (by simp [results, Try.results93, go_sem]) rfl ⟨o, vs, by rw [HE.out], by rw [HE.out]; exact HR2, HB2⟩
      | some x =>
        obtain ⟨n, used⟩ := x
        obtain ⟨g1, g2, g3, g4⟩ := getS_used hg
        simp only [getR, hg]
        have HG := Lib.hid hg
        have g5 : R + used ≤ l.length := by have := HDL.out; omega
        clear hg
        by_cases hbig : 1048576 < n
        · have HE : Hid (readsS l = (rs, R)) := by
            unfold Hid
            rw [hre.out, ← HD.out, readsS_none (by unfold rd1; rw [HG.out]; simp only; rw [if_pos (.inl hbig)])]
            simp
          have d1 : decide ((1048576 : Int) < (n : Int)) = true := decide_eq_true (by omega)
          go_wp2_with fail
          go_step3
          go_wp2_with fail
          refine two_fwd ?_
          go_wp2_with fail
          rw [Exit.noGoto_ret]
          refine bodyPost_ret (v := .tuple #[.slice o.a o.n o.c, .int .i64 R]) (by simp [results, Try.results93, go_sem]) rfl ⟨o, vs, by rw [HE.out], by rw [HE.out]; exact HR2, HB2⟩
        · have d1 : decide ((1048576 : Int) < (n : Int)) = false := decide_eq_false (by omega)
          by_cases hfar : l.length < R + used + 8 + n
          · have HE : Hid (readsS l = (rs, R)) := by
              unfold Hid
              rw [hre.out, ← HD.out, readsS_none (by unfold rd1; rw [HG.out]; simp only; rw [if_pos (.inr (by have := HDL.out; omega))])]
              simp
            have d2 : decide ((l.length : Int) - ((R : Int) + (used : Int) + 8) < (n : Int)) = true := decide_eq_true (by omega)
            go_wp2_with fail
            go_step3
            go_wp2_with fail
            refine two_fwd ?_
            go_wp2_with fail
            rw [Exit.noGoto_ret]
            refine bodyPost_ret (v := .tuple #[.slice o.a o.n o.c, .int .i64 R]) (by simp [results, Try.results93, go_sem]) rfl ⟨o, vs, by rw [HE.out], by rw [HE.out]; exact HR2, HB2⟩
          · have d2 : decide ((l.length : Int) - ((R : Int) + (used : Int) + 8) < (n : Int)) = false := decide_eq_false (by omega)
            go_upto_region 7 with fail
            obtain ⟨x, hx⟩ : ∃ x, x = (D.drop (used + 8)).take n := ⟨_, rfl⟩
            obtain ⟨y, hy⟩ : ∃ y, y = (D.drop used).take 8 := ⟨_, rfl⟩
            obtain ⟨fr, hfr⟩ : ∃ fr, fr = R + used + 8 := ⟨_, rfl⟩
            have hxl : x.length = n := by have := HDL.out; rw [hx, List.length_take, List.length_drop]; omega
            have hyl : y.length = 8 := by have := HDL.out; rw [hy, List.length_take, List.length_drop]; omega
            have hxc : ∀ k (h : k < x.length), w.cell? ⟨b, off + fr + k, none⟩ = some (byteV x[k]) := by
              intro k hk
              have h1 := hcell (fr + k) (by omega)
              rw [← Nat.add_assoc] at h1
              rw [h1]
              simp [hx, HD.out, hfr, ← Nat.add_assoc]
            have hyc : ∀ k (h : k < y.length), w.cell? ⟨b, off + (R + used) + k, none⟩ = some (byteV y[k]) := by
              intro k hk
              have h1 := hcell (R + used + k) (by omega)
              rw [← Nat.add_assoc] at h1
              rw [h1]
              simp [hy, HD.out, ← Nat.add_assoc]
            have hxb : ∀ (W : World) (ad : Option Addr) (c' : Nat), Below w.heap.size w W → (vc ≠ fr → ad = some ⟨b, off + fr, none⟩) → bytesAt W ⟨ad, n, c'⟩ x W.heap.size := by
              intro W ad c' hbW had
              refine ⟨hxl.symm, fun hne => ⟨b, off + fr, had (fun e => hne (List.eq_nil_of_length_eq_zero (by omega))), Nat.lt_of_lt_of_le hbl hbW.size, fun k hk => ?_⟩⟩
              exact (hbW.cell (p := ⟨b, off + fr + k, none⟩) hbl).trans (hxc k hk)
            have hyb : ∀ (W : World) (c' : Nat), Below w.heap.size w W → bytesAt W ⟨some ⟨b, off + (R + used), none⟩, 8, c'⟩ y W.heap.size := by
              intro W c' hbW
              exact ⟨hyl.symm, fun hne => ⟨b, off + (R + used), rfl, Nat.lt_of_lt_of_le hbl hbW.size, fun k hk => (hbW.cell (p := ⟨b, off + (R + used) + k, none⟩) hbl).trans (hyc k hk)⟩⟩
            have hR1 : rd1 D = if sumB x = y then some (x, used + 8 + n) else none := by
              unfold rd1; rw [HG.out]; simp only
              rw [if_neg (by have := HDL.out; omega), ← hx, ← hy]
            rw [show ((R : Int) + (used : Int) + 8) = (fr : Int) by omega]
            have hfr1 : R + used < fr := by omega
            have hfr2 : fr + n ≤ l.length := by omega
            have hfr3 : fr - (R + used) = 8 := by omega
            have HFR := Lib.hid hfr
            have HR1 := Lib.hid hR1
            have HXB := Lib.hid hxb
            have HYB := Lib.hid hyb
            clear hx hy hfr hxc hyc hR1 d2 hcell hxb hyb
            go_cut [46] from 32 to 46 (fun c wx => c = .bool (!(sumB x == y)) ∧ Below Y.heap.size Y wx)
            case first =>
              have w1 : IntKind.i64.wrap ((fr : Int) + (n : Int)) = ((fr + n : Nat) : Int) := by rw [IntWalk.i64_in _ (by omega)]; simp
              have w2 : IntKind.i64.wrap ((R : Int) + (used : Int)) = ((R + used : Nat) : Int) := by rw [IntWalk.i64_in _ (by omega)]; simp
              have hcF : ((vc = fr) = True) ∨ ((vc = fr) = False) := by by_cases h : vc = fr <;> simp [h]
              have hcU : (vc = R + used) = False := by rw [eq_iff_iff]; exact ⟨fun h => by omega, False.elim⟩
              have hbYd : Below Y.heap.size Y Y.drew := (Below.refl Y.heap.size Y).drew
              have heq : ∀ (W : World) (s : Sl), Below Y.heap.size Y W → bytesZ W (fun k => Y.heap.size ≤ k) s (sumB x) → Calls Try.prog 141 #[.slice s.a s.n s.c, .slice (some ⟨b, off + (R + used), none⟩) 8 (vc - (R + used))] W fun e w' => e = .returned (.bool (sumB x == y)) ∧ W = w' :=
                fun W s hW hs => equal_bytes s ⟨some ⟨b, off + (R + used), none⟩, 8, vc - (R + used)⟩ (sumB x) y _ _ W hs.at (HYB.out W _ (HB2.out.trans (hW.mono HB2.out.size)))
              have HEQ := Lib.hid heq
              have hsum : ∀ ad : Option Addr, (vc ≠ fr → ad = some ⟨b, off + fr, none⟩) → Calls Try.prog 142 #[.slice ad n (vc - fr)] Y.drew fun e w' => ∃ s : Sl, e = .returned (.slice s.a s.n s.c) ∧ bytesZ w' (fun k => Y.heap.size ≤ k) s (sumB x) ∧ Below Y.heap.size Y w' :=
                fun ad had => (sum_wal ⟨ad, n, vc - fr⟩ x Y.drew (HXB.out _ _ _ (HB2.out.trans (hbYd.mono HB2.out.size)) had) (by omega)).mono (fun e w' ⟨s, h1, h2, h3⟩ => ⟨s, h1, h2, hbYd.trans h3⟩)
              have HSUM := Lib.hid hsum
              have HXL := Lib.hid hxl
              have HYL := Lib.hid hyl
              clear heq hsum hbYd hxl hyl hcR
              rcases hcF with hcF | hcF
              · go_region_with (first | (go_at_call 142; refine (HSUM.out _ (fun h => absurd hcF (by simp [h]))).mono ?_; rintro e z2 ⟨⟨sa, sn, sc⟩, rfl, hs2, hb2⟩) | (go_at_call 141; refine (HEQ.out _ ⟨sa, sn, sc⟩ hb2 hs2).mono ?_; rintro e z3 ⟨rfl, rfl⟩))
                all_goals go_wp2_with fail
                all_goals
                  go_meet
                  exact ⟨rfl, hb2⟩
              · go_region_with (first | (go_at_call 142; refine (HSUM.out _ (fun _ => rfl)).mono ?_; rintro e z2 ⟨⟨sa, sn, sc⟩, rfl, hs2, hb2⟩) | (go_at_call 141; refine (HEQ.out _ ⟨sa, sn, sc⟩ hb2 hs2).mono ?_; rintro e z3 ⟨rfl, rfl⟩))
                all_goals go_wp2_with fail
                all_goals
                  go_meet
                  exact ⟨rfl, hb2⟩
            case rest =>
              obtain ⟨rfl, hbC⟩ := hcut
              have hRC := HR2.out.keep hbC
              have hbw := HB2.out.trans (hbC.mono HB2.out.size)
              have HRC := Lib.hid hRC
              clear hRC hbC
              by_cases hs : sumB x = y
              · have hsb : (sumB x == y) = true := by rw [beq_iff_eq]; exact hs
                rw [hsb]
                have hr1 : rd1 D = some (x, used + 8 + n) := by rw [HR1.out, if_pos hs]
                have hre2 : Hid (readsS l = ((rs ++ [x]) ++ (readsS (l.drop (fr + n))).1, (fr + n) + (readsS (l.drop (fr + n))).2)) := by
                  unfold Hid
                  rw [hre.out, ← HD.out, readsS_some hr1]
                  have e : D.drop (used + 8 + n) = l.drop (fr + n) := by rw [HD.out, List.drop_drop, HFR.out]; congr 1; omega
                  rw [e]
                  have e2 : R + (used + 8 + n) = fr + n := by rw [HFR.out]; omega
                  simp only [List.append_assoc, List.singleton_append, ← Nat.add_assoc]
                  rw [show R + used + 8 = fr from HFR.out.symm]
                have hcF : ((vc = fr) = True) ∨ ((vc = fr) = False) := by by_cases h : vc = fr <;> simp [h]
                have hcl : ∀ ad : Option Addr, (vc ≠ fr → ad = some ⟨b, off + fr, none⟩) → Calls Try.prog 100 #[.slice ad n (vc - fr)] wc fun e w' => ∃ s : Sl, e = .returned (.slice s.a s.n s.c) ∧ ownB w' (fun k => wc.heap.size ≤ k) s x ∧ Below wc.heap.size wc w' :=
                  fun ad had => clone_bytes ⟨ad, n, vc - fr⟩ x wc.heap.size wc (HXB.out wc ad _ hbw had) (by omega)
                have HCL := Lib.hid hcl
                have HXL := Lib.hid hxl
                clear hcl hxl hyl hsb hr1 hcR HR1 HXB HYB hs
                rcases hcF with hcF | hcF
                all_goals
                  go_wp2_with fail
                  first
                    | refine (HCL.out _ (fun _ => rfl)).mono ?_
                    | refine (HCL.out _ (fun h => absurd hcF (by simp [h]))).mono ?_
                  rintro e z2 ⟨q, rfl, hq, hb2⟩
                  have hbW : Below z2.heap.size z2 (z2.alloc (.cells #[.slice q.a q.n q.c] 102)) := (Below.refl _ _).alloc (Nat.le_refl _) _
                  have hRW := (HRC.out.keep hb2).keep hbW
                  have hxW := hq.z.keep hbW
                  have hbz2 := hbw.trans (hb2.mono hbw.size)
                  obtain ⟨s2, z3, hrun, ho3, hn3, hu3, hnw3⟩ := own_sl1 (c := 1) hRW.own (heap_alloc_new z2 _) (Nat.zero_le _) (by omega)
                  have hR3 := hRW.push hxW (fun j hj e => by have := (HRC.out.own.lt j e).2; have := hb2.size; omega) ho3 hn3 hu3 hnw3
                  have hb3 : Below w.heap.size w z3 := (hbz2.trans (hbW.mono hbz2.size)).trans (hu3.below (by simp; exact Nat.le_trans hbz2.size (Nat.le_succ _)) (fun j hj => HRC.out.zone j hj))
                  have hR4 : RecsAt z3 (fun j => w.heap.size ≤ j) s2 (vs ++ [q]) (rs ++ [x]) := by
                    refine hR3.zoned (fun j hj hz => ?_)
                    rcases hz with hz | hz | hz
                    · exact hz
                    · exact Nat.le_trans hbw.size hz
                    · rw [hz]; exact Nat.le_trans hbz2.size (by simp)
                  have hrun2 := hrun 95
                  have HR := Lib.hid hrun2
                  have HR4 := Lib.hid hR4
                  have HB3 := Lib.hid hb3
                  clear HCL hq hb2 hbz2 hbW hRW hxW hrun ho3 hn3 hu3 hnw3 hR3 hrun2 hR4 HRC hb3 hbw
                  go_wp2_with (refine Lib.wpList_append_run _ rfl _ _ _ _ rfl _ _ rfl rfl _ _ HR.out ?_)
                  go_step3
                  go_wp2_with fail
                  refine two_back ⟨RdJ.intro (fr + n) s2 (vs ++ [q]) (rs ++ [x]) (by rfl) hfr2 (by simp; omega) HR4.out hre2 HB3.out, ?_⟩
                  simp [intOf]; omega
              · have hsb : (sumB x == y) = false := by rw [beq_eq_false_iff_ne]; exact hs
                have HE : Hid (readsS l = (rs, R)) := by
                  unfold Hid
                  rw [hre.out, ← HD.out, readsS_none (by rw [HR1.out, if_neg hs])]
                  simp
                rw [hsb]
                clear hsb hs hcR
                go_wp2_with fail
                go_step3
                go_wp2_with fail
                refine two_fwd ?_
                go_wp2_with fail
                rw [Exit.noGoto_ret]
                refine bodyPost_ret (v := .tuple #[.slice o.a o.n o.c, .int .i64 R]) (by simp [results, Try.results93, go_sem]) rfl ⟨o, vs, by rw [HE.out], by rw [HE.out]; exact HRC.out, hbw⟩
    · have hRl : R = l.length := by omega
      subst hRl
      have hD0 : D = [] := List.eq_nil_of_length_eq_zero (by omega)
      have HE : Hid (readsS l = (rs, l.length)) := by
        unfold Hid
        rw [hre.out, ← hD, hD0, readsS_none rd1_nil]
        simp
      have hget := fun (x : Option Addr) (y : Nat) => get_num ⟨x, 0, y⟩ [] X ⟨rfl, fun h => absurd rfl h⟩ (Nat.zero_le _) (by simp)
      have HREC := Lib.hid hrec
      clear hre hD hD0 hDl hrec
      have hcR : ((vc = l.length) = True) ∨ ((vc = l.length) = False) := by by_cases h : vc = l.length <;> simp [h]
      rcases hcR with hcR | hcR
      all_goals
        go_wp2_with fail
        refine (hget _ _).mono ?_
        rintro e Y ⟨rfl, hbY⟩
        have hR := HREC.out.keep hbY
        have hb := hbX.trans (hbY.mono hbX.size)
        clear hget HREC hbY
        simp only [getR, getS]
        go_wp2_with fail
        go_step3
        go_wp2_with fail
        refine two_fwd ?_
        go_wp2_with fail
        rw [Exit.noGoto_ret]
        refine bodyPost_ret (v := .tuple #[.slice o.a o.n o.c, .int .i64 l.length]) (by simp [results, Try.results93, go_sem]) rfl ⟨o, vs, by rw [HE.out], by rw [HE.out]; exact hR, hb⟩
  · intro hrest
    go_wp2_with fail
    go_step3
    simp only [Exit.then]
    rename_i K hK
    refine hK _ _ (hrest _ _ ?_)
    refine ⟨0, ⟨none, 0, 0⟩, [], [], fun j => if j = 4 ∨ j = 5 ∨ j = 6 ∨ j = 7 then .int .i64 0 else undef, Nat.zero_le _, Nat.zero_le _, RecsAt_nil _ _, by simp [Hid], Below.refl _ _, ?_⟩
    rfl
end Go.Proofs.Ytkiindgcbpkddaa
