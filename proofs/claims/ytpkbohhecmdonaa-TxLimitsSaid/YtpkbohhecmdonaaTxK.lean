/- The law TxLimits, walked. -/
import Derived.Test.YtpkbohhecmdonaaTxKa
import Derived.Deep.RegionLaw
import Derived.Deep.DeepCutAuto
import Derived.Deep.CutBlock
set_option linter.unusedSimpArgs false
set_option linter.unusedVariables false
namespace Go.Proofs.Ytpkbohhecmdonaa
open Go.RowKit
set_option maxRecDepth 100000 in
set_option maxHeartbeats 40000000 in
theorem limits_law (ins outs : Nat) (seq place lock : Int) (pre : Nat) (h1 : ins ≤ 102) (h2 : outs ≤ 102) (h3 : pre ≤ 70) (w : World) :
    Calls Try.prog 6 #[.int .i64 ins, .int .i64 outs, .int .i64 seq, .int .i64 place, .int .i64 lock, .int .i64 pre] w fun e w' => e = .returned (.bool true) ∧ Below w.heap.size w w' := by
  have g1 : decide ((ins : Int) < 0) = false := decide_eq_false (by omega)
  have g2 : decide ((102 : Int) < (ins : Int)) = false := decide_eq_false (by omega)
  have g3 : decide ((outs : Int) < 0) = false := decide_eq_false (by omega)
  have g4 : decide ((102 : Int) < (outs : Int)) = false := decide_eq_false (by omega)
  have g5 : decide ((pre : Int) < 0) = false := decide_eq_false (by omega)
  have g6 : decide ((70 : Int) < (pre : Int)) = false := decide_eq_false (by omega)
  obtain ⟨i0, hi0, hz0, hz1, hz2⟩ := info_parts Try.infoIn
  obtain ⟨j0, hj0, jz0, jz1, jz2⟩ := info_parts Try.infoOut
  go_enter Try.func6, Try.ntmps6
  go_wp2_with fail
  clear g1 g2 g3 g4 g5 g6
  obtain ⟨W, hW⟩ : ∃ W, W = w.alloc (.cells TxV.zero.arr 51) := ⟨_, rfl⟩
  obtain ⟨tb, htb⟩ : ∃ tb, tb = w.heap.size := ⟨_, rfl⟩
  rw [← hW, ← htb]
  have hbW : Below w.heap.size w W := hW ▸ (Below.refl w.heap.size w).alloc (Nat.le_refl _) _
  have hm : madeTx W w.heap.size tb TxV.zero tz := by
    refine ⟨?_, World.ownsRow_nil _ _ _ _, World.ownsRow_nil _ _ _ _, rfl, rfl, rfl, by simp [TxV.zero, Sl.v, Value.ownBlock], by simp [TxV.zero, Sl.v, Value.ownBlock], by simp [TxV.zero, Sl.v, Value.ownBlock]⟩
    rw [hW, htb]; show (w.heap.push _)[w.heap.size]? = _; rw [Array.getElem?_push_size]
  have hge : w.heap.size ≤ tb := by omega
  have hWs : w.heap.size < W.heap.size := by rw [hW]; simp
  clear hW htb
  go_loopw [14] (fun v wr => ∃ (k : Nat) (u : TxV), k ≤ ins ∧ v = .int .i64 k ∧ madeTx wr w.heap.size tb u { ins := insL place seq pre k, outs := [], lock := 0 } ∧ Below w.heap.size w wr) (fun v _ => ins - (intOf v).toNat)
  case atStart => exact ⟨0, TxV.zero, Nat.zero_le _, rfl, hm, hbW⟩
  case round =>
    obtain ⟨k, u, hk, rfl, hmr, hbr⟩ := hrel
    clear hm
    by_cases hlt : k < ins
    · have ct := cells_known hmr.1
      have hil : (insL place seq pre k).length = k := insL_length _ _ _ _
      obtain ⟨x, hx⟩ : ∃ x, x = inL place seq k ⟨1, 0, Witness.zero.pre⟩ := ⟨_, rfl⟩
      have hnl := name_al k (by omega)
      have c0 : wr.cell? ⟨tb, 0, none⟩ = some (.slice u.ins.a u.ins.n u.ins.c) := by rw [ct.1]; exact TxV.arr_0 u
      have hS0 : wr.drew.cell? ⟨tb, 0, none⟩ = some (.slice u.ins.a u.ins.n u.ins.c) := c0
      have htl := ct.2.2
      have hmd : madeTx wr.drew w.heap.size tb u { ins := insL place seq pre k, outs := [], lock := 0 } := hmr
      have hrs := hbr.size
      have HM := Lib.hid hmd
      have HX := Lib.hid hx
      clear hmr hmd c0 ct hx
      have hwl : (#[Value.int .i64 1, Value.int .i64 0, Value.string ⟨#[]⟩] : Array Value) = (Witness.mk 1 0 Witness.zero.pre).arr := rfl
      go_upto_block 1 with fail
      go_cut [] (fun wx => ∃ u' : TxV, madeTx wx w.heap.size tb u' { ins := insL place seq pre (k + 1), outs := [], lock := 0 } ∧ Below w.heap.size w wx)
      case first =>
        go_upto_region 7 with fail
        go_cut [] (fun wx => ∃ u' : TxV, madeTx wx w.heap.size tb u' { ins := insL place seq pre k ++ [x], outs := [], lock := 0 } ∧ Below w.heap.size w wx)
        case first =>
          go_region_law
            (first | (go_simp; go_at_call 37; refine (hnl wr.drew).mono ?_; rintro e w1 ⟨rfl, hb1⟩; have hlt1 : tb < w1.heap.size := Nat.lt_of_lt_of_le htl hb1.size; have hS1 : w1.cell? ⟨tb, 0, none⟩ = some (.slice u.ins.a u.ins.n u.ins.c) := by { rw [hb1.cell (p := ⟨tb, 0, none⟩) htl]; exact hS0 }; have hS2 : ∀ o, (w1.alloc o).cell? ⟨tb, 0, none⟩ = some (.slice u.ins.a u.ins.n u.ins.c) := fun o => (((Below.refl w1.heap.size w1).alloc (Nat.le_refl _) o).cell (p := ⟨tb, 0, none⟩) hlt1).trans hS1) | (refine step_append_lies _ rfl (.tmp 46) (.tmp 54) 48 rfl w.heap.size 55 i0 (.agg In.zero.arr) 37 80 Try.underlying48 hi0 hz0 hz1 hz2 (by simp [Value.cells]) (by decide) u.ins.v k (vsOf In.arr (insL place seq pre k)) (by simp [Act.eval, Act.put, Sl.v]) (by have hz := (((HM.out.below hb1).below ((Below.refl w1.heap.size w1).alloc (Nat.le_refl _) (.cells (inL place seq k ⟨1, 0, Witness.zero.pre⟩).arr 55))).2.1); rw [hil] at hz; exact hz) ⟨w1.heap.size, 0, none⟩ 1 1 (inL place seq k ⟨1, 0, Witness.zero.pre⟩).arr.toList (by simp [Act.eval, Act.put]) (by simp) (World.news_of_block (heap_alloc_new w1 _)) (one_In _) (by decide) (by unfold maxLen; omega) (by omega) (by have := hb1.size; simp; omega) _ rfl ?_; intro g cap w3 hown3 hgrow3 hg3 hlt3; have h13 := (hgrow3.block tb (by simp; omega) (Ne.symm HM.out.2.2.2.2.2.2.1)).trans (((HM.out.below hb1).below ((Below.refl w1.heap.size w1).alloc (Nat.le_refl _) (.cells (inL place seq k ⟨1, 0, Witness.zero.pre⟩).arr 55))).1); have hS3 : w3.cell? ⟨tb, 0, none⟩ = some (.slice u.ins.a u.ins.n u.ins.c) := (World.cell?_of_block (hgrow3.block tb (by simp; omega) (Ne.symm HM.out.2.2.2.2.2.2.1))).trans (hS2 _); obtain ⟨hc3, hf3, htl3⟩ := cells_known h13; have hc3 := hc3 0; clear h13))
          all_goals
            go_wp2_with fail
            go_meet
            have hmm := (HM.out.below hb1).below ((Below.refl w1.heap.size w1).alloc (Nat.le_refl _) (.cells (inL place seq k ⟨1, 0, Witness.zero.pre⟩).arr 55))
            have hb0 : Below w.heap.size w (w1.alloc (.cells (inL place seq k ⟨1, 0, Witness.zero.pre⟩).arr 55)) := (hbr.drew.trans (hb1.mono hrs)).alloc (by have := hb1.size; have : w.heap.size ≤ wr.drew.heap.size := hrs; omega) _
            obtain ⟨s', hs', hm', hu'⟩ := madeTx.snocIn hmm (inL place seq k ⟨1, 0, Witness.zero.pre⟩) (v' := .slice (some ⟨g, 0, none⟩) (k + 1) cap) (n := k + 1) (by simp [hil]) hgrow3 hown3 (fun i hi => by
              cases hi
              rcases hg3 with h | h
              · exact .inl h
              · exact .inr (by rw [h]; simp))
            refine ⟨_, by rw [HX.out]; exact hm', hb0.trans (hu'.below hb0.size (fun i hi => ?_))⟩
            rcases hi with rfl | hi | hi
            · exact hge
            · exact (hmm.2.1.lt i hi).1
            · exact (hmm.2.2.1.lt i hi).1
        case rest =>
          obtain ⟨u', hmc, hbc⟩ := hcut
          by_cases hp : 0 < pre
          · have tp : decide ((0 : Int) < (pre : Int)) = true := decide_eq_true (by omega)
            obtain ⟨gb, hga, hgo, hgge, hglt, hgrow, hgfree, hgm, hgu⟩ := hmc.setWit rfl (Witness.mk 2 0 ⟨(lettersL pre k).toArray⟩)
            have hlet := letters_al pre k (by omega) (by omega)
            have cc := (cells_known hmc.1).1 0
            rw [TxV.arr_0, hga, hmc.2.2.2.2.1] at cc
            simp only [List.length_append, List.length_singleton, hil] at cc hgrow hgfree hgm hgu
            have htc := (cells_known hmc.1).2.2
            have hbs := hbc.size
            have HMC := Lib.hid hmc
            have kk1 : (k : Int) < (k : Int) + 1 := by omega
            have HGA := Lib.hid hga
            have cd : wc.drew.cell? ⟨tb, 0, none⟩ = some (.slice (some ⟨gb, 0, none⟩) (k + 1) u'.ins.c) := cc
            have kk0 : (0 : Int) ≤ (k : Int) := by omega
            clear hgm hgu hgrow hgfree hmc hga
            have hwl2 : (#[Value.int .i64 2, Value.int .i64 0, Value.string ⟨(lettersL pre k).toArray⟩] : Array Value) = (Witness.mk 2 0 ⟨(lettersL pre k).toArray⟩).arr := rfl
            go_wp2_with fail
            go_region_law (go_simp; go_at_call 38; refine (hlet wc.drew).mono ?_; rintro e w5 ⟨rfl, hb5⟩; obtain ⟨gb', hga', hgo', hgge', hglt', hgrow', hgfree', hgm', hgu'⟩ := (HMC.out.below (w' := w5) ((Below.refl wc.heap.size wc).drew.trans hb5)).setWit rfl (Witness.mk 2 0 ⟨(lettersL pre k).toArray⟩); have hgg : gb = gb' := by { have e := HGA.out.symm.trans hga'; simpa using e }; subst hgg; simp only [hil] at hgrow' hgfree' hgm' hgu'; have cd5 : w5.cell? ⟨tb, 0, none⟩ = some (.slice (some ⟨gb, 0, none⟩) (k + 1) u'.ins.c) := (hb5.cell (p := ⟨tb, 0, none⟩) htc).trans cd; have HGM := Lib.hid hgm'; have HGU := Lib.hid hgu'; clear hgm' hgu' hga')
            all_goals
              try go_wp2_with fail
              go_meet
              have hxe : ({ x with wit := (Witness.mk 2 0 ⟨(lettersL pre k).toArray⟩) } : In) = inL place seq k (witL k pre) := by rw [HX.out]; simp [inL, witL, hp]
              have hm7 := HGM.out
              rw [hxe, ← insL_succ] at hm7
              have hb7 : Below w.heap.size w w5 := hbc.trans (((Below.refl wc.heap.size wc).drew.trans hb5).mono hbs)
              exact ⟨u', hm7, hb7.trans (HGU.out.below hb7.size (fun i e => by have e2 : i = gb := e; omega))⟩
          · have tp : decide ((0 : Int) < (pre : Int)) = false := decide_eq_false (by omega)
            go_wp2_with fail
            go_meet
            have hxe : x = inL place seq k (witL k pre) := by rw [HX.out]; simp only [inL, witL, if_neg hp]; rfl
            rw [hxe, ← insL_succ] at hmc
            exact ⟨u', hmc, hbc⟩
      case rest =>
        obtain ⟨u', hmc, hbc⟩ := hcut
        go_wp2_with fail
        go_roundw
        case rel => exact ⟨k + 1, u', by omega, by go_num, hmc, hbc⟩
        case measure => simp [intOf]; omega
    · have hke : k = ins := by omega
      subst hke
      go_wp2_with fail
      go_loopw [15] (fun v wr => ∃ (j : Nat) (u : TxV), j ≤ outs ∧ v = .int .i64 j ∧ madeTx wr w.heap.size tb u { ins := insL place seq pre k, outs := List.replicate j outL, lock := 0 } ∧ Below w.heap.size w wr) (fun v _ => outs - (intOf v).toNat)
      case atStart => exact ⟨0, u, Nat.zero_le _, rfl, hmr, hbr⟩
      case round =>
        clear hmr hbr
        obtain ⟨j, u, hj, rfl, hmr, hbr⟩ := hrel
        by_cases hjl : j < outs
        · have ct := cells_known hmr.1
          have c1 : wr.cell? ⟨tb, 1, none⟩ = some (.slice u.outs.a u.outs.n u.outs.c) := by rw [ct.1]; exact TxV.arr_1 u
          have hol : (List.replicate j outL).length = j := List.length_replicate
          have hmm := hmr.below ((Below.refl wr.heap.size wr).alloc (Nat.le_refl _) (.cells outL.arr 58))
          have hown := hmm.2.2.1
          rw [hol] at hown
          have HOWN := Lib.hid hown
          have HMM := Lib.hid hmm
          have hrs := hbr.size
          have htl := ct.2.2
          have h13n := Ne.symm hmr.2.2.2.2.2.2.2.1
          clear ct hown hmm hmr
          go_wp2_with (at_builtin; refine wpList_append_lies _ rfl (.tmp 74) (.tmp 77) 49 rfl w.heap.size 58 j0 (.agg Out.zero.arr) 39 88 Try.underlying49 hj0 jz0 jz1 jz2 (by simp [Value.cells]) (by decide) u.outs.v j (vsOf Out.arr (List.replicate j outL)) rfl HOWN.out ⟨wr.heap.size, 0, none⟩ 1 1 outL.arr.toList rfl (by simp) (World.news_of_block (heap_alloc_new wr _)) (one_Out _) (by decide) (by unfold maxLen; omega) (by omega) (by simp; omega) _ rfl ?_; intro g cap w3 hown3 hgrow3 hg3 hlt3; have h13 := (hgrow3.block tb (by simp; omega) h13n).trans HMM.out.1; obtain ⟨hc3, hf3, htl3⟩ := cells_known h13; have hc3 := hc3 1; clear h13)
          go_roundw
          case rel =>
            have hb0 : Below w.heap.size w (wr.alloc (.cells outL.arr 58)) := hbr.alloc (by omega) _
            obtain ⟨s', hs', hm', hu'⟩ := madeTx.snocOut HMM.out outL (v' := .slice (some ⟨g, 0, none⟩) (j + 1) cap) (n := j + 1) (by simp) hgrow3 hown3 (fun i hi => by
              cases hi
              rcases hg3 with h | h
              · exact .inl h
              · exact .inr (by rw [h]; simp))
            refine ⟨j + 1, _, by omega, by go_num, by rw [List.replicate_succ']; exact hm', hb0.trans (hu'.below hb0.size (fun i hi => ?_))⟩
            rcases hi with rfl | hi | hi
            · exact hge
            · exact (HMM.out.2.1.lt i hi).1
            · exact (HMM.out.2.2.1.lt i hi).1
          case measure => simp [intOf]; omega
        · have hje : j = outs := by omega
          subst hje
          have hlim : ({ ins := insL place seq pre k, outs := List.replicate j outL, lock := lock } : Tx) = limL k j seq place lock pre := rfl
          have hwt := check_L k j seq place lock pre h1
          obtain ⟨hh1, hh2, hh3, hh4, hh5⟩ := hmr
          have ct := cells_known hh1
          have c2 : wr.cell? ⟨tb, 2, none⟩ = some (.int .i64 u.lock) := by rw [ct.1]; exact TxV.arr_2 u
          have f2 := ct.2.1
          have hs2 := heap_set hh1 2 (.int .i64 lock)
          rw [TxV.set_2] at hs2
          have hup := Upd.setCell wr ⟨tb, 2, none⟩ (.int .i64 lock)
          have hm2 : madeTx (wr.setCell ⟨tb, 2, none⟩ (.int .i64 lock)) w.heap.size tb { u with lock := lock } (limL k j seq place lock pre) :=
            ⟨hs2, ownsRow_upd hh2 hup (fun i hi e => hh5.2.2.1 (by have e2 : i = tb := e; rw [← e2]; exact hi)), ownsRow_upd hh3 hup (fun i hi e => hh5.2.2.2.1 (by have e2 : i = tb := e; rw [← e2]; exact hi)), rfl, hh5.1, hh5.2.1, hh5.2.2.1, hh5.2.2.2.1, hh5.2.2.2.2⟩
          have hb2 : Below w.heap.size w (wr.setCell ⟨tb, 2, none⟩ (.int .i64 lock)) := hbr.trans (hup.below hbr.size (fun i e => by have e2 : i = tb := e; omega))
          have HM2 := Lib.hid hm2
          have HB2 := Lib.hid hb2
          have HWT := Lib.hid hwt
          clear hh1 hh2 hh3 hh4 hh5 ct hs2 hup hm2 hb2 hlim hwt hbr
          obtain ⟨wt, hwte⟩ : ∃ wt, wt = wantS k j seq place lock pre := ⟨_, rfl⟩
          go_upto_block 4 with fail
          go_cut [16] (fun v wx => v = .int .i64 wt ∧ madeTx wx w.heap.size tb { u with lock := lock } (limL k j seq place lock pre) ∧ Below w.heap.size w wx)
          case first =>
            have HWE := Lib.hid hwte
            clear hwte c2 f2
            by_cases hk0 : k = 0
            · have tk1 : ((k : Int) == 0) = true := by rw [beq_iff_eq]; omega
              have HK0 := Lib.hid hk0
              clear hk0
              go_wp2_with fail
              all_goals
                go_meet
                refine ⟨?_, HM2.out, HB2.out⟩
                rw [HWE.out]
                refine congrArg (Value.int .i64) ?_
                have hk0 := HK0.out
                unfold wantS
                split <;> (try split) <;> first | rfl | omega
            · have tk1 : ((k : Int) == 0) = false := by rw [beq_eq_false_iff_ne]; omega
              have HK0 := Lib.hid hk0
              clear hk0
              go_wp2_with fail
              all_goals
                go_meet
                refine ⟨?_, HM2.out, HB2.out⟩
                rw [HWE.out]
                refine congrArg (Value.int .i64) ?_
                have hk0 := HK0.out
                unfold wantS
                split <;> (try split) <;> first | rfl | omega
          case rest =>
            obtain ⟨rfl, hmc, hbc⟩ := hcut
            have hrow : row? wc ⟨tb, 0, none⟩ 3 = some (TxV.arr { u with lock := lock }) := by
              unfold row?
              simp only [hmc.1]
              rw [if_pos (And.intro trivial (by simp))]
              congr 1
            have hck := check_tx _ _ wc hmc.isTx
            rw [HWT.out, ← hwte] at hck
            have hcmp : (wt != wt) = false := by simp
            have hbs := hbc.size
            have htc := (cells_known hmc.1).2.2
            have HCK := Lib.hid hck
            have HMC := Lib.hid hmc
            have HWE := Lib.hid hwte
            clear hwte hck hmc c2 f2
            by_cases hw0 : wt = 0
            · have t0 : (wt != 0) = false := by simp [hw0]
              have HW0 := Lib.hid hw0
              clear hw0
              by_cases hk100 : k = 100
              · have t1 : ((k : Int) == 100) = true := by rw [beq_iff_eq]; omega
                have HK := Lib.hid hk100
                clear hk100
                go_wp2_with (first | (go_at_call 31; refine HCK.out.mono ?_; rintro e w5 ⟨rfl, hb5⟩) | (go_at_call 32; refine (awake5 _).mono ?_; rintro e w6 ⟨rfl, hb6⟩))
                go_ret
                exact ⟨rfl, (hbc.trans (hb5.mono hbs)).trans (hb6.mono (Nat.le_trans hbs hb5.size))⟩
              · have t1 : ((k : Int) == 100) = false := by rw [beq_eq_false_iff_ne]; omega
                go_wp2_with (go_at_call 31; refine HCK.out.mono ?_; rintro e w5 ⟨rfl, hb5⟩)
                have hwv : 0 < k ∧ k < 100 ∧ j ≤ 100 := by
                  have e := HWE.out
                  have e0 := HW0.out
                  unfold wantS at e
                  split at e
                  · omega
                  · split at e <;> omega
                have hm5 := HMC.out.below (hb5.mono (Nat.le_refl _))
                obtain ⟨sa, sc, hsv, hsn, hsg⟩ := ownsRow_slice hm5.2.1
                obtain ⟨g0, hga, hg1, hg2⟩ := hsg (by simp [limL, insL_length]; omega)
                have hil : (limL k j seq place lock pre).ins.length = k := insL_length _ _ _ _
                rw [hil] at hsv hsn
                subst hga
                have hx0 : row? w5 ⟨g0, 0, none⟩ 37 = some (inL place seq 0 (witL 0 pre)).arr := by
                  have hr := (isSl_own (enc := In.arr) (by decide) (fun x => by simp) hm5.2.1 hm5.2.2.2.2.1).2.2
                  obtain ⟨b, off, ha, hbb, hrr⟩ := hr.at (k := 0) (by rw [hil]; omega)
                  unfold Sl.v at hsv
                  injection hsv with q1 q2 q3
                  rw [q1] at ha
                  cases ha
                  simp only [Nat.zero_mul, Nat.add_zero] at hrr
                  rw [hrr]
                  simp [limL, insL_get]
                have hcc := (cells_known hm5.1).1 0
                rw [TxV.arr_0] at hcc
                have hcs : w5.cell? ⟨tb, 0, none⟩ = some (.slice (some ⟨g0, 0, none⟩) k sc) := by rw [hcc]; exact congrArg some hsv
                have hd0 : w5.drew.cell? ⟨tb, 0, none⟩ = some (.slice (some ⟨g0, 0, none⟩) k sc) := hcs
                have hd1 : row? w5.drew ⟨g0, 0, none⟩ 37 = some (inL place seq 0 (witL 0 pre)).arr := hx0
                have hma := hm5.below ((Below.refl w5.heap.size w5).alloc (Nat.le_refl _) (.cells (inL place seq 0 (witL 0 pre)).arr 55))
                have ht5 := (cells_known hm5.1).2.2
                have hown := hma.2.1
                rw [hil, show (limL k j seq place lock pre).ins = insL place seq pre k from rfl] at hown
                have htn := Ne.symm hma.2.2.2.2.2.2.1
                have hb05 := hbc.trans (hb5.mono hbs)
                have HOWN := Lib.hid hown
                have HMA := Lib.hid hma
                have HSV := Lib.hid hsv
                have kp0 : (0 : Int) < (k : Int) := by omega
                have h05 := hb05.size
                clear hm5 hma hown hsv hsg hcc
                go_wp2_with fail
                go_region_law (refine step_append_lies _ rfl (.tmp 132) (.tmp 137) 48 rfl w.heap.size 55 i0 (.agg In.zero.arr) 37 80 Try.underlying48 hi0 hz0 hz1 hz2 (by simp [Value.cells]) (by decide) u.ins.v k (vsOf In.arr (insL place seq pre k)) (by rw [HSV.out]; simp [Act.eval, Act.put]) (by exact HOWN.out) ⟨w5.heap.size, 0, none⟩ 1 1 (inL place seq 0 (witL 0 pre)).arr.toList (by simp [Act.eval, Act.put]) (by simp) (by exact World.news_of_block (heap_alloc_new w5 _)) (one_In _) (by decide) (by unfold maxLen; omega) (by omega) (by simp; omega) _ rfl ?_; intro g cap w3 hown3 hgrow3 hg3 hlt3; have h13 := (hgrow3.block tb (by simp; omega) htn).trans HMA.out.1; obtain ⟨hc3, hf3, htl3⟩ := cells_known h13; have hc3 := hc3 0; clear h13)
                all_goals
                  obtain ⟨s', hs', hm', hu'⟩ := madeTx.snocIn (w2 := (w5.alloc (.cells (inL place seq 0 (witL 0 pre)).arr 55)).drew) HMA.out (inL place seq 0 (witL 0 pre)) (v' := .slice (some ⟨g, 0, none⟩) (k + 1) cap) (n := k + 1) (by rw [hil]) hgrow3 hown3 (fun i hi => by
                    cases hi
                    rcases hg3 with h | h
                    · exact .inl h
                    · exact .inr (by rw [h]; exact Nat.le_refl _))
                  obtain ⟨X, hX⟩ : ∃ X, X = w3.setCell ⟨tb, 0, none⟩ (.slice (some ⟨g, 0, none⟩) (k + 1) cap) := ⟨_, rfl⟩
                  rw [← hX] at hm' hu' ⊢
                  have hck6 := check_tx _ _ X hm'.isTx
                  rw [show ({ limL k j seq place lock pre with ins := (limL k j seq place lock pre).ins ++ [inL place seq 0 (witL 0 pre)] } : Tx) = { limL k j seq place lock pre with ins := insL place seq pre k ++ [inL place seq 0 (witL 0 pre)] } from rfl, check_twice k j seq place lock pre hwv.1 hwv.2.1 hwv.2.2] at hck6
                  have hr6 : row? X ⟨tb, 0, none⟩ 3 = some (TxV.arr { ins := s', outs := u.outs, lock := lock }) := by
                    unfold row?
                    simp only [hm'.1]
                    rw [if_pos (And.intro trivial (by simp))]
                    congr 1
                  have hb0 : Below w.heap.size w (w5.alloc (.cells (inL place seq 0 (witL 0 pre)).arr 55)).drew := (hb05.alloc h05 _).drew
                  have hb6 : Below w.heap.size w X := hb0.trans (hu'.below hb0.size (fun i hi => by
                    rcases hi with rfl | hi | hi
                    · exact hge
                    · exact (HMA.out.2.1.lt i hi).1
                    · exact (HMA.out.2.2.1.lt i hi).1))
                  have hs6 := hb6.size
                  clear hX hm' hu' hgrow3 hown3 hg3 hlt3 hc3 hf3 htl3 hd0 hd1 hx0 hcs t0 t1 hrow hcmp
                  go_wp2_with (first | (go_at_call 31; refine hck6.mono ?_; rintro e w7 ⟨rfl, hb7⟩) | (go_at_call 32; refine (awake5 _).mono ?_; rintro e w8 ⟨rfl, hb8⟩))
                  go_ret
                  exact ⟨rfl, (hb6.trans (hb7.mono hs6)).trans (hb8.mono (Nat.le_trans hs6 hb7.size))⟩
            · have t0 : (wt != 0) = true := by simpa using hw0
              go_wp2_with (first | (go_at_call 31; refine HCK.out.mono ?_; rintro e w5 ⟨rfl, hb5⟩) | (go_at_call 32; refine (awake5 _).mono ?_; rintro e w6 ⟨rfl, hb6⟩))
              go_ret
              exact ⟨rfl, (hbc.trans (hb5.mono hbs)).trans (hb6.mono (Nat.le_trans hbs hb5.size))⟩
end Go.Proofs.Ytpkbohhecmdonaa
