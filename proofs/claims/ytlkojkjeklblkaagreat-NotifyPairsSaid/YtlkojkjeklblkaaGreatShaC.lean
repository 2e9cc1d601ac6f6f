/- Contracts of package sha: a block stirred in, walked. -/
import Derived.Test.YtlkojkjeklblkaaGreatShaB2
set_option linter.unusedSimpArgs false
set_option linter.unusedVariables false
namespace Go.Proofs.YtlkojkjeklblkaaGreat
open Go.RowKit
set_option maxRecDepth 100000 in
set_option maxHeartbeats 4000000 in
theorem stir_sha (p : Nat) (s : SumV) (w : World) (hs : sumAt w p s) (hw : ∀ x ∈ s.w, x < 4294967296) (hh : ∀ x ∈ s.h.l, x < 4294967296) (hz : s.w.drop 16 = List.replicate 48 0) :
    Calls Tryz.prog 230 #[.pointer (some ⟨p, 0, none⟩)] w fun e w' => e = .returned (.tuple #[]) ∧ sumAt w' p ⟨compressS s.h (s.w.take 16), List.replicate 64 0, 0, s.all⟩ ∧ Upd w w' (fun k => k = p) := by
  go_enter Tryz.func230, Tryz.ntmps230
  go_wp2_with fail
  refine wp_scope_goto 0 (StirJ w p s) (fun a _ => 64 - (intOf (a.tmps.getD 11 undef)).toNat) (by rfl) ?_ ?_
  · intro a X hJ
    obtain ⟨u, q, i, st, rfl, hi, hst, hsX, huX, hq, hKX⟩ := hJ
    have hst1 : st.step (shaK.getD i 0) (wordS (s.w.take 16) i) = stN (s.w.take 16) s.h (i + 1) := by rw [stN_succ, ← hst]
    have hltS := hst ▸ stN_lt (s.w.take 16) s.h hh i
    have hltW := fun n => wordS_lt (s.w.take 16) (fun x hx => hw x (List.mem_of_mem_take hx)) n
    have cK : X.cell? ⟨q, i, none⟩ = some (.int .u32 (shaK.getD i 0 : Nat)) := by
      rw [(cells_known hKX).1]; exact roots_get i hi
    clear hst hh hz
    by_cases h16 : i < 16
    · have cW : X.cell? ⟨p, 8 + i, none⟩ = some (.int .u32 (wordS (s.w.take 16) i : Nat)) := by
        have := hsX.wd i hi
        rw [memW_get hi, if_pos (by omega)] at this
        exact this
      have hsY : sumAt X p { s with w := memW (s.w.take 16) (i + 1) } := by rw [← memW_same h16]; exact hsX
      obtain ⟨Y, hY⟩ : ∃ Y, Y = X := ⟨_, rfl⟩
      rw [← hY] at cK cW hsY huX hKX ⊢
      have huY := huX
      have hKY := hKX
      clear hY hsX huX hKX
      have lm : ∀ x, x ∈ st.l → x < 4294967296 := hltS
      obtain ⟨A, B, C, D, E, F, G, H⟩ := st
      simp only [St.l, List.mem_cons, List.not_mem_nil, or_false, forall_eq_or_imp, forall_eq] at lm
      obtain ⟨lA, lB, lC, lD, lE, lF, lG, lH⟩ := lm
      obtain ⟨x1, hx1⟩ : ∃ n, n = F ^^^ G := ⟨_, rfl⟩
      obtain ⟨x2, hx2⟩ : ∃ n, n = E &&& x1 := ⟨_, rfl⟩
      obtain ⟨x3, hx3⟩ : ∃ n, n = G ^^^ x2 := ⟨_, rfl⟩
      obtain ⟨x4, hx4⟩ : ∃ n, n = A &&& B := ⟨_, rfl⟩
      obtain ⟨x5, hx5⟩ : ∃ n, n = A ||| B := ⟨_, rfl⟩
      obtain ⟨x6, hx6⟩ : ∃ n, n = C &&& x5 := ⟨_, rfl⟩
      obtain ⟨x7, hx7⟩ : ∃ n, n = x4 ||| x6 := ⟨_, rfl⟩
      have l1 : x1 < 4294967296 := hx1 ▸ Nat.xor_lt_two_pow (n := 32) lF lG
      have l2 : x2 < 4294967296 := hx2 ▸ Nat.and_lt_two_pow (n := 32) _ l1
      have l4 : x4 < 4294967296 := hx4 ▸ Nat.and_lt_two_pow (n := 32) _ lB
      have l5 : x5 < 4294967296 := hx5 ▸ Nat.or_lt_two_pow (n := 32) lA lB
      have l6 : x6 < 4294967296 := hx6 ▸ Nat.and_lt_two_pow (n := 32) _ l5
      have b1 : bits .xor .u32 (F : Int) (G : Int) = (x1 : Int) := hx1 ▸ bits_xor_u32 F G lF lG
      have b2 : bits .and .u32 (E : Int) (x1 : Int) = (x2 : Int) := hx2 ▸ bits_and_u32 E x1 lE l1
      have b3 : bits .xor .u32 (G : Int) (x2 : Int) = (x3 : Int) := hx3 ▸ bits_xor_u32 G x2 lG l2
      have b4 : bits .and .u32 (A : Int) (B : Int) = (x4 : Int) := hx4 ▸ bits_and_u32 A B lA lB
      have b5 : bits .or .u32 (A : Int) (B : Int) = (x5 : Int) := hx5 ▸ bits_or_u32 A B lA lB
      have b6 : bits .and .u32 (C : Int) (x5 : Int) = (x6 : Int) := hx6 ▸ bits_and_u32 C x5 lC l5
      have b7 : bits .or .u32 (x4 : Int) (x6 : Int) = (x7 : Int) := hx7 ▸ bits_or_u32 x4 x6 l4 l6
      obtain ⟨t1, ht1⟩ : ∃ n, n = threeS E 6 11 25 false := ⟨_, rfl⟩
      obtain ⟨t2, ht2⟩ : ∃ n, n = threeS A 2 13 22 false := ⟨_, rfl⟩
      obtain ⟨Kc, hKc⟩ : ∃ n, n = shaK.getD i 0 := ⟨_, rfl⟩
      obtain ⟨Wc, hWc⟩ : ∃ n, n = wordS (s.w.take 16) i := ⟨_, rfl⟩
      obtain ⟨n1, hn1⟩ : ∃ n, n = (H + t1) % 4294967296 := ⟨_, rfl⟩
      obtain ⟨n2, hn2⟩ : ∃ n, n = (n1 + x3) % 4294967296 := ⟨_, rfl⟩
      obtain ⟨n3, hn3⟩ : ∃ n, n = (n2 + Kc) % 4294967296 := ⟨_, rfl⟩
      obtain ⟨U, hU⟩ : ∃ n, n = (n3 + Wc) % 4294967296 := ⟨_, rfl⟩
      obtain ⟨d1, hd1⟩ : ∃ n, n = (t2 + x7) % 4294967296 := ⟨_, rfl⟩
      obtain ⟨A', hA'⟩ : ∃ n, n = (U + d1) % 4294967296 := ⟨_, rfl⟩
      obtain ⟨E', hE'⟩ : ∃ n, n = (D + U) % 4294967296 := ⟨_, rfl⟩
      have hstep : (⟨A', A, B, C, E', E, F, G⟩ : St) = stN (s.w.take 16) s.h (i + 1) := by
        rw [← hst1]
        simp only [St.step, upS, downS]
        rw [hA', hE', hd1, hU, hn3, hn2, hn1, hKc, hWc, ht1, ht2, hx7, hx6, hx5, hx4, hx3, hx2, hx1]
      rw [← hKc] at cK
      rw [← hWc] at cW
      have e1 := add32 H t1 n1 hn1
      have e2 := add32 n1 x3 n2 hn2
      have e3 := add32 n2 Kc n3 hn3
      have e4 := add32 n3 Wc U hU
      have e5 := add32 t2 x7 d1 hd1
      have e6 := add32 U d1 A' hA'
      have e7 := add32 D U E' hE'
      have HST := Lib.hid hstep
      have HT1 := Lib.hid ht1
      have HT2 := Lib.hid ht2
      clear hst1 hltS hltW hstep ht1 ht2 hx1 hx2 hx3 hx4 hx5 hx6 hx7 hKc hWc hn1 hn2 hn3 hU hd1 hA' hE' l1 l2 l4 l5 l6 lB lC lD lF lG lH hw
      go_wp2_with fail
      go_quiet ((go_at_call 233; exact Calls.quiet_of_same ((three_shaR E 6 11 25 false t1 HT1.out (by decide) (by decide) (by decide) lE _).mono (fun _ _ h => ⟨h.1, h.2.symm⟩))))
      go_wp2_with (go_at_call 233; refine (three_shaR A 2 13 22 false t2 HT2.out (by decide) (by decide) (by decide) lA _).mono ?_; rintro e w' ⟨rfl, rfl⟩)
      go_step3
      rw [e6, e7]
      refine ⟨rfl, StirJ.intro q (i + 1) ⟨A', A, B, C, E', E, F, G⟩ ?_ ⟨by omega, HST.out, hsY, ?_, hq, hKY⟩, ?_⟩
      · rfl
      · exact huY.trans (c := Y.drewN nq) (T := fun k => k = p) ⟨rfl, rfl, rfl, Nat.le_refl _, fun _ _ _ => rfl⟩ (fun _ _ h => h)
      · show 64 - (intOf (.int .i64 ((i : Int) + 1))).toNat < 64 - (intOf (.int .i64 (i : Int))).toNat
        simp only [intOf]; omega
    · obtain ⟨k, hik⟩ : ∃ k, i = k + 16 := ⟨i - 16, by omega⟩
      have htl : (s.w.take 16).length = 16 := by rw [List.length_take, hs.2]; rfl
      have hcell : ∀ j, j < i → X.cell? ⟨p, 8 + j, none⟩ = some (.int .u32 (wordS (s.w.take 16) j : Nat)) := by
        intro j hj
        have := hsX.wd j (by omega)
        rw [memW_get (by omega), if_pos (by omega)] at this
        exact this
      obtain ⟨k0, k1, k9, k14, hk0, hk1, hk9, hk14⟩ : ∃ k0 k1 k9 k14, k0 = k ∧ k1 = k + 1 ∧ k9 = k + 9 ∧ k14 = k + 14 := ⟨_, _, _, _, rfl, rfl, rfl, rfl⟩
      have j0 : (i : Int) - 16 = (k0 : Int) := by omega
      have j1 : (i : Int) - 15 = (k1 : Int) := by omega
      have j9 : (i : Int) - 7 = (k9 : Int) := by omega
      have j14 : (i : Int) - 2 = (k14 : Int) := by omega
      obtain ⟨w0, hw0⟩ : ∃ n, n = wordS (s.w.take 16) k := ⟨_, rfl⟩
      obtain ⟨w1, hw1⟩ : ∃ n, n = wordS (s.w.take 16) (k + 1) := ⟨_, rfl⟩
      obtain ⟨w9, hw9⟩ : ∃ n, n = wordS (s.w.take 16) (k + 9) := ⟨_, rfl⟩
      obtain ⟨w14, hw14⟩ : ∃ n, n = wordS (s.w.take 16) (k + 14) := ⟨_, rfl⟩
      have d0 : X.cell? ⟨p, 8 + k0, none⟩ = some (.int .u32 (w0 : Nat)) := by rw [hk0, hw0]; exact hcell k (by omega)
      have d1 : X.cell? ⟨p, 8 + k1, none⟩ = some (.int .u32 (w1 : Nat)) := by rw [hk1, hw1]; exact hcell (k + 1) (by omega)
      have d9 : X.cell? ⟨p, 8 + k9, none⟩ = some (.int .u32 (w9 : Nat)) := by rw [hk9, hw9]; exact hcell (k + 9) (by omega)
      have d14 : X.cell? ⟨p, 8 + k14, none⟩ = some (.int .u32 (w14 : Nat)) := by rw [hk14, hw14]; exact hcell (k + 14) (by omega)
      have q1 : w1 < 4294967296 := hw1 ▸ hltW _
      have q14 : w14 < 4294967296 := hw14 ▸ hltW _
      obtain ⟨r1, hr1⟩ : ∃ n, n = threeS w1 7 18 3 true := ⟨_, rfl⟩
      obtain ⟨r2, hr2⟩ : ∃ n, n = threeS w14 17 19 10 true := ⟨_, rfl⟩
      obtain ⟨m1, hm1⟩ : ∃ n, n = (w0 + r1) % 4294967296 := ⟨_, rfl⟩
      obtain ⟨m2, hm2⟩ : ∃ n, n = (m1 + w9) % 4294967296 := ⟨_, rfl⟩
      obtain ⟨Wc, hm3⟩ : ∃ n, n = (m2 + r2) % 4294967296 := ⟨_, rfl⟩
      have hWc : Wc = wordS (s.w.take 16) i := by rw [hik, wordS_next htl, nextV, ← hw0, ← hw1, ← hw9, ← hw14, ← hr1, ← hr2, ← hm1, ← hm2, hm3]
      have g1 := add32 w0 r1 m1 hm1
      have g2 := add32 m1 w9 m2 hm2
      have g3 := add32 m2 r2 Wc hm3
      have g4 := add32w w0 r1 m1 hm1
      have g5 := add32w m1 w9 m2 hm2
      have g6 := add32w m2 r2 Wc hm3
      have HR1 := Lib.hid hr1
      have HR2 := Lib.hid hr2
      have hkk : k0 < 64 ∧ k1 < 64 ∧ k9 < 64 ∧ k14 < 64 := by omega
      obtain ⟨kk0, kk1, kk9, kk14⟩ := hkk
      have z0 : IntKind.i64.wrap (k0 : Int) = (k0 : Int) := by rw [IntKind.wrap_i64]; omega
      have z1 : IntKind.i64.wrap (k1 : Int) = (k1 : Int) := by rw [IntKind.wrap_i64]; omega
      have z9 : IntKind.i64.wrap (k9 : Int) = (k9 : Int) := by rw [IntKind.wrap_i64]; omega
      have z14 : IntKind.i64.wrap (k14 : Int) = (k14 : Int) := by rw [IntKind.wrap_i64]; omega
      have y0 : (0 : Int) ≤ (k0 : Int) ∧ (k0 : Int) < 64 := by omega
      have y1 : (0 : Int) ≤ (k1 : Int) ∧ (k1 : Int) < 64 := by omega
      have y9 : (0 : Int) ≤ (k9 : Int) ∧ (k9 : Int) < 64 := by omega
      have y14 : (0 : Int) ≤ (k14 : Int) ∧ (k14 : Int) < 64 := by omega
      have v0 : IntKind.i64.wrap ((i : Int) - 16) = (k0 : Int) := by rw [j0, z0]
      have v1 : IntKind.i64.wrap ((i : Int) - 15) = (k1 : Int) := by rw [j1, z1]
      have v9 : IntKind.i64.wrap ((i : Int) - 7) = (k9 : Int) := by rw [j9, z9]
      have v14 : IntKind.i64.wrap ((i : Int) - 2) = (k14 : Int) := by rw [j14, z14]
      obtain ⟨y00, y01⟩ := y0
      obtain ⟨y10, y11⟩ := y1
      obtain ⟨y90, y91⟩ := y9
      obtain ⟨y140, y141⟩ := y14
      have tge : decide ((16 : Int) ≤ (i : Int)) = true := decide_eq_true (by omega)
      have hwi := hsX.wd i hi
      have hfz := (cells_known hsX.1).2.1
      have hsN : sumAt ((X.setCell ⟨p, 8 + i, none⟩ (.int .u32 (Wc : Nat))).drew) p { s with w := memW (s.w.take 16) (i + 1) } := by
        refine ⟨?_, memW_length _ _⟩
        show (X.setCell ⟨p, 8 + i, none⟩ (.int .u32 (Wc : Nat))).heap[p]? = _
        rw [heap_set hsX.1, SumV.set_w _ (memW_length _ _) i Wc hi, memW_next (by omega) hi, ← hWc]
      have hcN : ∀ j, j < i → ((X.setCell ⟨p, 8 + i, none⟩ (.int .u32 (Wc : Nat))).drew).cell? ⟨p, 8 + j, none⟩ = some (.int .u32 (wordS (s.w.take 16) j : Nat)) := by
        intro j hj
        have := hsN.wd j (by omega)
        rw [memW_get (by omega), if_pos (by omega)] at this
        exact this
      have hS2 : ((X.setCell ⟨p, 8 + i, none⟩ (.int .u32 (Wc : Nat))).drew).cell? ⟨p, 8 + k0, none⟩ = some (.int .u32 (w0 : Nat)) ∧ ((X.setCell ⟨p, 8 + i, none⟩ (.int .u32 (Wc : Nat))).drew).cell? ⟨p, 8 + k1, none⟩ = some (.int .u32 (w1 : Nat)) ∧ ((X.setCell ⟨p, 8 + i, none⟩ (.int .u32 (Wc : Nat))).drew).cell? ⟨p, 8 + k9, none⟩ = some (.int .u32 (w9 : Nat)) ∧ ((X.setCell ⟨p, 8 + i, none⟩ (.int .u32 (Wc : Nat))).drew).cell? ⟨p, 8 + k14, none⟩ = some (.int .u32 (w14 : Nat)) := by
        rw [hk0, hk1, hk9, hk14, hw0, hw1, hw9, hw14]
        exact ⟨hcN _ (by omega), hcN _ (by omega), hcN _ (by omega), hcN _ (by omega)⟩
      have hS0 : X.drew.cell? ⟨p, 8 + k0, none⟩ = some (.int .u32 (w0 : Nat)) ∧ X.drew.cell? ⟨p, 8 + k1, none⟩ = some (.int .u32 (w1 : Nat)) ∧ X.drew.cell? ⟨p, 8 + k9, none⟩ = some (.int .u32 (w9 : Nat)) ∧ X.drew.cell? ⟨p, 8 + k14, none⟩ = some (.int .u32 (w14 : Nat)) := ⟨d0, d1, d9, d14⟩
      have HIK := Lib.hid hik
      have HWC := Lib.hid hWc
      have yi0 : (0 : Int) ≤ (i : Int) := by omega
      have yi1 : (i : Int) < 64 := by omega
      clear hcell hcN hk0 hk1 hk9 hk14 hw0 hw1 hw9 hw14 hr1 hr2 hm1 hm2 hm3 hik hWc
      go_wp2_with fail
      go_region_held3 (fun Y : World => Y.cell? ⟨p, 8 + k0, none⟩ = some (.int .u32 (w0 : Nat)) ∧ Y.cell? ⟨p, 8 + k1, none⟩ = some (.int .u32 (w1 : Nat)) ∧ Y.cell? ⟨p, 8 + k9, none⟩ = some (.int .u32 (w9 : Nat)) ∧ Y.cell? ⟨p, 8 + k14, none⟩ = some (.int .u32 (w14 : Nat))) (first | exact hS0 | exact hS2) (first | (go_at_call 233; with_reducible refine (three_w1 w1 r1 HR1.out q1 _).mono ?_; rintro e w' ⟨rfl, rfl⟩) | (go_at_call 233; with_reducible refine (three_w2 w14 r2 HR2.out q14 _).mono ?_; rintro e w' ⟨rfl, rfl⟩))
      obtain ⟨Y, hY⟩ : ∃ Y, Y = (X.setCell ⟨p, 8 + i, none⟩ (.int .u32 (Wc : Nat))).drew := ⟨_, rfl⟩
      rw [← hY] at hsN ⊢
      have huY : Upd w Y (fun k => k = p) := hY ▸ huX.trans (Upd.setCell_drew X p (8 + i) (.int .u32 (Wc : Nat))) (fun _ _ h => h)
      have hKY : Y.heap[q]? = some (.cells W64.roots.arr 309 (0, 0)) := hY ▸ ((Upd.setCell X ⟨p, 8 + i, none⟩ (.int .u32 (Wc : Nat))).block q (cells_known hKX).2.2 (fun e => by have := (cells_known hs.1).2.2; simp at e; omega)).trans hKX
      have hsY := hsN
      have cK : Y.cell? ⟨q, i, none⟩ = some (.int .u32 (shaK.getD i 0 : Nat)) := by rw [(cells_known hKY).1]; exact roots_get i hi
      have cW : Y.cell? ⟨p, 8 + i, none⟩ = some (.int .u32 (wordS (s.w.take 16) i : Nat)) := by
        have := hsY.wd i hi
        rw [memW_get hi, if_pos (by omega)] at this
        exact this
      clear hY hsN hsX huX hKX d0 d1 d9 d14 g1 g2 g3 g4 g5 g6 hS0 hS2 hwi hfz j0 j1 j9 j14 z0 z1 z9 z14 v0 v1 v9 v14 y00 y01 y10 y11 y90 y91 y140 y141 kk0 kk1 kk9 kk14 HR1 HR2 HIK HWC q1 q14
      by_cases h64 : i + 1 < 64
      · skip
        have lm : ∀ x, x ∈ st.l → x < 4294967296 := hltS
        obtain ⟨A, B, C, D, E, F, G, H⟩ := st
        simp only [St.l, List.mem_cons, List.not_mem_nil, or_false, forall_eq_or_imp, forall_eq] at lm
        obtain ⟨lA, lB, lC, lD, lE, lF, lG, lH⟩ := lm
        obtain ⟨x1, hx1⟩ : ∃ n, n = F ^^^ G := ⟨_, rfl⟩
        obtain ⟨x2, hx2⟩ : ∃ n, n = E &&& x1 := ⟨_, rfl⟩
        obtain ⟨x3, hx3⟩ : ∃ n, n = G ^^^ x2 := ⟨_, rfl⟩
        obtain ⟨x4, hx4⟩ : ∃ n, n = A &&& B := ⟨_, rfl⟩
        obtain ⟨x5, hx5⟩ : ∃ n, n = A ||| B := ⟨_, rfl⟩
        obtain ⟨x6, hx6⟩ : ∃ n, n = C &&& x5 := ⟨_, rfl⟩
        obtain ⟨x7, hx7⟩ : ∃ n, n = x4 ||| x6 := ⟨_, rfl⟩
        have l1 : x1 < 4294967296 := hx1 ▸ Nat.xor_lt_two_pow (n := 32) lF lG
        have l2 : x2 < 4294967296 := hx2 ▸ Nat.and_lt_two_pow (n := 32) _ l1
        have l4 : x4 < 4294967296 := hx4 ▸ Nat.and_lt_two_pow (n := 32) _ lB
        have l5 : x5 < 4294967296 := hx5 ▸ Nat.or_lt_two_pow (n := 32) lA lB
        have l6 : x6 < 4294967296 := hx6 ▸ Nat.and_lt_two_pow (n := 32) _ l5
        have b1 : bits .xor .u32 (F : Int) (G : Int) = (x1 : Int) := hx1 ▸ bits_xor_u32 F G lF lG
        have b2 : bits .and .u32 (E : Int) (x1 : Int) = (x2 : Int) := hx2 ▸ bits_and_u32 E x1 lE l1
        have b3 : bits .xor .u32 (G : Int) (x2 : Int) = (x3 : Int) := hx3 ▸ bits_xor_u32 G x2 lG l2
        have b4 : bits .and .u32 (A : Int) (B : Int) = (x4 : Int) := hx4 ▸ bits_and_u32 A B lA lB
        have b5 : bits .or .u32 (A : Int) (B : Int) = (x5 : Int) := hx5 ▸ bits_or_u32 A B lA lB
        have b6 : bits .and .u32 (C : Int) (x5 : Int) = (x6 : Int) := hx6 ▸ bits_and_u32 C x5 lC l5
        have b7 : bits .or .u32 (x4 : Int) (x6 : Int) = (x7 : Int) := hx7 ▸ bits_or_u32 x4 x6 l4 l6
        obtain ⟨t1, ht1⟩ : ∃ n, n = threeS E 6 11 25 false := ⟨_, rfl⟩
        obtain ⟨t2, ht2⟩ : ∃ n, n = threeS A 2 13 22 false := ⟨_, rfl⟩
        obtain ⟨Kc, hKc⟩ : ∃ n, n = shaK.getD i 0 := ⟨_, rfl⟩
        obtain ⟨Wd, hWc⟩ : ∃ n, n = wordS (s.w.take 16) i := ⟨_, rfl⟩
        obtain ⟨n1, hn1⟩ : ∃ n, n = (H + t1) % 4294967296 := ⟨_, rfl⟩
        obtain ⟨n2, hn2⟩ : ∃ n, n = (n1 + x3) % 4294967296 := ⟨_, rfl⟩
        obtain ⟨n3, hn3⟩ : ∃ n, n = (n2 + Kc) % 4294967296 := ⟨_, rfl⟩
        obtain ⟨U, hU⟩ : ∃ n, n = (n3 + Wd) % 4294967296 := ⟨_, rfl⟩
        obtain ⟨d1, hd1⟩ : ∃ n, n = (t2 + x7) % 4294967296 := ⟨_, rfl⟩
        obtain ⟨A', hA'⟩ : ∃ n, n = (U + d1) % 4294967296 := ⟨_, rfl⟩
        obtain ⟨E', hE'⟩ : ∃ n, n = (D + U) % 4294967296 := ⟨_, rfl⟩
        have hstep : (⟨A', A, B, C, E', E, F, G⟩ : St) = stN (s.w.take 16) s.h (i + 1) := by
          rw [← hst1]
          simp only [St.step, upS, downS]
          rw [hA', hE', hd1, hU, hn3, hn2, hn1, hKc, hWc, ht1, ht2, hx7, hx6, hx5, hx4, hx3, hx2, hx1]
        rw [← hKc] at cK
        rw [← hWc] at cW
        have e1 := add32 H t1 n1 hn1
        have e2 := add32 n1 x3 n2 hn2
        have e3 := add32 n2 Kc n3 hn3
        have e4 := add32 n3 Wd U hU
        have e5 := add32 t2 x7 d1 hd1
        have e6 := add32 U d1 A' hA'
        have e7 := add32 D U E' hE'
        have HST := Lib.hid hstep
        have HT1 := Lib.hid ht1
        have HT2 := Lib.hid ht2
        clear hst1 hltS hltW hstep ht1 ht2 hx1 hx2 hx3 hx4 hx5 hx6 hx7 hKc hWc hn1 hn2 hn3 hU hd1 hA' hE' l1 l2 l4 l5 l6 lB lC lD lF lG lH hw
        go_wp2_with fail
        go_quiet ((go_at_call 233; exact Calls.quiet_of_same ((three_shaR E 6 11 25 false t1 HT1.out (by decide) (by decide) (by decide) lE _).mono (fun _ _ h => ⟨h.1, h.2.symm⟩))))
        go_wp2_with (go_at_call 233; refine (three_shaR A 2 13 22 false t2 HT2.out (by decide) (by decide) (by decide) lA _).mono ?_; rintro e w' ⟨rfl, rfl⟩)
        go_step3
        rw [e6, e7]
        refine ⟨rfl, StirJ.intro q (i + 1) ⟨A', A, B, C, E', E, F, G⟩ ?_ ⟨by omega, HST.out, hsY, ?_, hq, hKY⟩, ?_⟩
        · rfl
        · exact huY.trans (c := Y.drewN nq) (T := fun k => k = p) ⟨rfl, rfl, rfl, Nat.le_refl _, fun _ _ _ => rfl⟩ (fun _ _ h => h)
        · show 64 - (intOf (.int .i64 ((i : Int) + 1))).toNat < 64 - (intOf (.int .i64 (i : Int))).toNat
          simp only [intOf]; omega
      · have h63 : 63 ≤ i := by omega
        have t64 : decide ((i : Int) + 1 < 64) = false := decide_eq_false (by omega)
        have lm : ∀ x, x ∈ st.l → x < 4294967296 := hltS
        obtain ⟨A, B, C, D, E, F, G, H⟩ := st
        simp only [St.l, List.mem_cons, List.not_mem_nil, or_false, forall_eq_or_imp, forall_eq] at lm
        obtain ⟨lA, lB, lC, lD, lE, lF, lG, lH⟩ := lm
        obtain ⟨x1, hx1⟩ : ∃ n, n = F ^^^ G := ⟨_, rfl⟩
        obtain ⟨x2, hx2⟩ : ∃ n, n = E &&& x1 := ⟨_, rfl⟩
        obtain ⟨x3, hx3⟩ : ∃ n, n = G ^^^ x2 := ⟨_, rfl⟩
        obtain ⟨x4, hx4⟩ : ∃ n, n = A &&& B := ⟨_, rfl⟩
        obtain ⟨x5, hx5⟩ : ∃ n, n = A ||| B := ⟨_, rfl⟩
        obtain ⟨x6, hx6⟩ : ∃ n, n = C &&& x5 := ⟨_, rfl⟩
        obtain ⟨x7, hx7⟩ : ∃ n, n = x4 ||| x6 := ⟨_, rfl⟩
        have l1 : x1 < 4294967296 := hx1 ▸ Nat.xor_lt_two_pow (n := 32) lF lG
        have l2 : x2 < 4294967296 := hx2 ▸ Nat.and_lt_two_pow (n := 32) _ l1
        have l4 : x4 < 4294967296 := hx4 ▸ Nat.and_lt_two_pow (n := 32) _ lB
        have l5 : x5 < 4294967296 := hx5 ▸ Nat.or_lt_two_pow (n := 32) lA lB
        have l6 : x6 < 4294967296 := hx6 ▸ Nat.and_lt_two_pow (n := 32) _ l5
        have b1 : bits .xor .u32 (F : Int) (G : Int) = (x1 : Int) := hx1 ▸ bits_xor_u32 F G lF lG
        have b2 : bits .and .u32 (E : Int) (x1 : Int) = (x2 : Int) := hx2 ▸ bits_and_u32 E x1 lE l1
        have b3 : bits .xor .u32 (G : Int) (x2 : Int) = (x3 : Int) := hx3 ▸ bits_xor_u32 G x2 lG l2
        have b4 : bits .and .u32 (A : Int) (B : Int) = (x4 : Int) := hx4 ▸ bits_and_u32 A B lA lB
        have b5 : bits .or .u32 (A : Int) (B : Int) = (x5 : Int) := hx5 ▸ bits_or_u32 A B lA lB
        have b6 : bits .and .u32 (C : Int) (x5 : Int) = (x6 : Int) := hx6 ▸ bits_and_u32 C x5 lC l5
        have b7 : bits .or .u32 (x4 : Int) (x6 : Int) = (x7 : Int) := hx7 ▸ bits_or_u32 x4 x6 l4 l6
        obtain ⟨t1, ht1⟩ : ∃ n, n = threeS E 6 11 25 false := ⟨_, rfl⟩
        obtain ⟨t2, ht2⟩ : ∃ n, n = threeS A 2 13 22 false := ⟨_, rfl⟩
        obtain ⟨Kc, hKc⟩ : ∃ n, n = shaK.getD i 0 := ⟨_, rfl⟩
        obtain ⟨Wd, hWc⟩ : ∃ n, n = wordS (s.w.take 16) i := ⟨_, rfl⟩
        obtain ⟨n1, hn1⟩ : ∃ n, n = (H + t1) % 4294967296 := ⟨_, rfl⟩
        obtain ⟨n2, hn2⟩ : ∃ n, n = (n1 + x3) % 4294967296 := ⟨_, rfl⟩
        obtain ⟨n3, hn3⟩ : ∃ n, n = (n2 + Kc) % 4294967296 := ⟨_, rfl⟩
        obtain ⟨U, hU⟩ : ∃ n, n = (n3 + Wd) % 4294967296 := ⟨_, rfl⟩
        obtain ⟨d1, hd1⟩ : ∃ n, n = (t2 + x7) % 4294967296 := ⟨_, rfl⟩
        obtain ⟨A', hA'⟩ : ∃ n, n = (U + d1) % 4294967296 := ⟨_, rfl⟩
        obtain ⟨E', hE'⟩ : ∃ n, n = (D + U) % 4294967296 := ⟨_, rfl⟩
        have hstep : (⟨A', A, B, C, E', E, F, G⟩ : St) = stN (s.w.take 16) s.h (i + 1) := by
          rw [← hst1]
          simp only [St.step, upS, downS]
          rw [hA', hE', hd1, hU, hn3, hn2, hn1, hKc, hWc, ht1, ht2, hx7, hx6, hx5, hx4, hx3, hx2, hx1]
        rw [← hKc] at cK
        rw [← hWc] at cW
        have e1 := add32 H t1 n1 hn1
        have e2 := add32 n1 x3 n2 hn2
        have e3 := add32 n2 Kc n3 hn3
        have e4 := add32 n3 Wd U hU
        have e5 := add32 t2 x7 d1 hd1
        have e6 := add32 U d1 A' hA'
        have e7 := add32 D U E' hE'
        have HST := Lib.hid hstep
        have HT1 := Lib.hid ht1
        have HT2 := Lib.hid ht2
        clear hst1 hltS hltW hstep ht1 ht2 hx1 hx2 hx3 hx4 hx5 hx6 hx7 hKc hWc hn1 hn2 hn3 hU hd1 hA' hE' l1 l2 l4 l5 l6 lB lC lD lF lG lH hw
        go_wp2_with fail
        go_quiet ((go_at_call 233; exact Calls.quiet_of_same ((three_shaR E 6 11 25 false t1 HT1.out (by decide) (by decide) (by decide) lE _).mono (fun _ _ h => ⟨h.1, h.2.symm⟩))))
        go_wp2_with (go_at_call 233; refine (three_shaR A 2 13 22 false t2 HT2.out (by decide) (by decide) (by decide) lA _).mono ?_; rintro e w' ⟨rfl, rfl⟩)
        obtain ⟨st', hst'⟩ : ∃ st' : St, st' = ⟨A', A, B, C, E', E, F, G⟩ := ⟨_, rfl⟩
        obtain ⟨zb, hzb⟩ : ∃ n, n = Y.heap.size := ⟨_, rfl⟩
        rw [e6, e7, ← hzb]
        obtain ⟨Z, hZ⟩ : ∃ Z, Z = (Y.drewN nq).alloc (.cells #[.int .u32 (A' : Nat), .int .u32 (A : Nat), .int .u32 (B : Nat), .int .u32 (C : Nat), .int .u32 (E' : Nat), .int .u32 (E : Nat), .int .u32 (F : Nat), .int .u32 (G : Nat)] 254) := ⟨_, rfl⟩
        rw [← hZ]
        have huZ : Upd Y Z (fun k => k = p) := hZ ▸ (⟨rfl, rfl, rfl, by simp, fun k hk _ => by show (Y.heap.push _)[k]? = _; rw [Array.getElem?_push, if_neg (by omega)]⟩ : Upd Y ((Y.drewN nq).alloc (.cells #[.int .u32 (A' : Nat), .int .u32 (A : Nat), .int .u32 (B : Nat), .int .u32 (C : Nat), .int .u32 (E' : Nat), .int .u32 (E : Nat), .int .u32 (F : Nat), .int .u32 (G : Nat)] 254)) (fun k => k = p))
        have hsZ : sumAt Z p { s with h := mixH s.h st' 0, w := memW (s.w.take 16) (i + 1) } := by
          refine ⟨?_, hsY.2⟩
          have hp := (cells_known hsY.1).2.2
          rw [hZ]
          show (Y.heap.push _)[p]? = _
          rw [Array.getElem?_push, if_neg (by omega)]
          exact hsY.1
        have hLZ : Z.heap[zb]? = some (.cells (st'.l.map w32).toArray 254 (0, 0)) := by
          rw [hZ, hzb, hst']
          show (Y.heap.push _)[Y.heap.size]? = _
          rw [Array.getElem?_push_size]; rfl
        have hpz : p ≠ zb := by have := (cells_known hsY.1).2.2; omega
        have hst2 : Hid (st' = stN (s.w.take 16) s.h 64) := by unfold Hid; rw [hst', HST.out]; congr 1; omega
        have huWZ : Upd w Z (fun k => k = p) := huY.trans huZ (fun _ _ h => h)
        have hM : (memW (s.w.take 16) (i + 1)).length = 64 := memW_length _ _
        obtain ⟨M, hMe⟩ : ∃ M, M = memW (s.w.take 16) (i + 1) := ⟨_, rfl⟩
        rw [← hMe] at hM hsZ
        clear hMe hZ hzb hst' hsY huY hKY cK cW HST HT1 HT2 b1 b2 b3 b4 b5 b6 b7 e1 e2 e3 e4 e5 e6 e7 huZ lA lE t64
        go_loopw [158] (fun v wr => ∃ k : Nat, k ≤ 8 ∧ v = .int .i64 k ∧ sumAt wr p { s with h := mixH s.h st' k, w := M } ∧ Upd Z wr (fun k => k = p)) (fun v _ => 8 - (intOf v).toNat)
        case atStart => exact ⟨0, by omega, rfl, hsZ, Upd.refl _ _⟩
        case round =>
          obtain ⟨k, hk, rfl, hsr, hur⟩ := hrel
          have hLr : wr.heap[zb]? = some (.cells (st'.l.map w32).toArray 254 (0, 0)) := (hur.block zb (cells_known hLZ).2.2 (fun e => hpz e.symm)).trans hLZ
          by_cases hlt : k < 8
          · have hst8 : st'.l.length = 8 := rfl
            have c1 : wr.cell? ⟨zb, k, none⟩ = some (w32 (st'.l.getD k 0)) := by
              rw [(cells_known hLr).1]
              have : k < st'.l.length := by omega
              simp [this, List.getD]
            have c2 : wr.cell? ⟨p, k, none⟩ = some (w32 (s.h.l.getD k 0)) := by rw [hsr.h k hlt, mixH_get _ _ _ hlt]
            have hfz := (cells_known hsr.1).2.1
            have hmx := mixH_set { s with w := M } s.h st' k hlt
            have hhp := heap_set hsr.1 k (.int .u32 ((s.h.l.getD k 0 + st'.l.getD k 0) % 4294967296 : Nat))
            rw [hmx] at hhp
            obtain ⟨a, hae⟩ : ∃ a, a = s.h.l.getD k 0 := ⟨_, rfl⟩
            obtain ⟨b, hbe⟩ : ∃ b, b = st'.l.getD k 0 := ⟨_, rfl⟩
            obtain ⟨c, hce⟩ : ∃ c, c = (a + b) % 4294967296 := ⟨_, rfl⟩
            have hadd := add32w a b c hce
            have hadd2 := add32 a b c hce
            rw [← hae] at c2
            rw [← hbe] at c1
            rw [← hae, ← hbe, ← hce] at hhp
            unfold w32 at c1 c2
            have HHP := Lib.hid hhp
            clear hae hbe hce hmx hhp hsZ huWZ hLZ hst8
            go_wp2_with fail
            go_region
            all_goals go_wp2_with fail
            all_goals go_roundw
            case rel => exact ⟨k + 1, by omega, by go_num, ⟨HHP.out, hM⟩, hur.trans (Upd.setCell_drew wr p k _) (fun _ _ h => h)⟩
            case measure => simp [intOf]; omega
          · have hk8 : Hid (k = 8) := by unfold Hid; omega
            have HSR := Lib.hid hsr
            have huWZ2 := Lib.hid (huWZ.trans hur (fun _ _ h => h))
            clear hsZ huWZ hLZ hsr hLr
            go_wp2_with (refine wpList_zeroW (.tmp 179) (.tmp 177) rfl rfl p _ rfl rfl HSR.out ?_; intro wz hsz huz; have hc72 := hsz.hv; have hf72 := (cells_known hsz.1).2.1 72; clear hur)
            rw [jump_normal]
            have h8 := hk8.out
            refine bodyPost_end (v := .tuple #[]) (by simp [results, Tryz.results230, go_sem]) rfl ⟨rfl, ?_, ?_⟩
            · have hf := sumAt_hv hsz 0
              rw [h8, mixH_all, hst2.out, ← compressS_eq] at hf
              exact hf
            · exact (huWZ2.out.trans (huz.trans (Upd.setCell wz ⟨p, 72, none⟩ _) (fun _ _ h => h)) (fun _ _ h => h))
  · intro hrest
    go_wp2_with (go_at_call 232; refine (roots_sha _).mono ?_; rintro e w1 ⟨rfl, hb1⟩; have hu1 : Upd w w1 (fun k => k = p) := Upd.of_below hb1 _; have hs1 : sumAt w1 p s := ⟨(hb1.block p (cells_known hs.1).2.2).trans hs.1, hs.2⟩)
    obtain ⟨V, hV⟩ : ∃ V, V = w1.alloc (.cells W64.roots.arr 309) := ⟨_, rfl⟩
    rw [← hV]
    have hu2 : Upd w1 V (fun k => k = p) := hV ▸ Upd.of_below ((Below.refl w1.heap.size w1).alloc (Nat.le_refl _) _) _
    have hp1 := (cells_known hs1.1).2.2
    have hs2 : sumAt V p s := ⟨by exact hV ▸ (((Below.refl w1.heap.size w1).alloc (Nat.le_refl _) (.cells W64.roots.arr 309)).block p hp1).trans hs1.1, hs1.2⟩
    have hq2 : V.heap[w1.heap.size]? = some (.cells W64.roots.arr 309 (0, 0)) := by rw [hV]; show (w1.heap.push _)[w1.heap.size]? = _; rw [Array.getElem?_push_size]
    have c0 : V.cell? ⟨p, 0, none⟩ = some (.int .u32 (s.h.a : Nat)) := hs2.h 0 (by decide)
    have c1 : V.cell? ⟨p, 1, none⟩ = some (.int .u32 (s.h.b : Nat)) := hs2.h 1 (by decide)
    have c2 : V.cell? ⟨p, 2, none⟩ = some (.int .u32 (s.h.c : Nat)) := hs2.h 2 (by decide)
    have c3 : V.cell? ⟨p, 3, none⟩ = some (.int .u32 (s.h.d : Nat)) := hs2.h 3 (by decide)
    have c4 : V.cell? ⟨p, 4, none⟩ = some (.int .u32 (s.h.e : Nat)) := hs2.h 4 (by decide)
    have c5 : V.cell? ⟨p, 5, none⟩ = some (.int .u32 (s.h.f : Nat)) := hs2.h 5 (by decide)
    have c6 : V.cell? ⟨p, 6, none⟩ = some (.int .u32 (s.h.g : Nat)) := hs2.h 6 (by decide)
    have c7 : V.cell? ⟨p, 7, none⟩ = some (.int .u32 (s.h.h : Nat)) := hs2.h 7 (by decide)
    clear hV
    go_quiet (fail)
    go_wp2_with fail
    go_step3
    simp only [Exit.then]
    rename_i K hK
    refine hK _ _ (hrest _ _ ?_)
    refine StirJ.intro w1.heap.size 0 s.h ?_ ⟨by decide, rfl, by rw [memW_zero hs.2 hz]; exact hs2, (hu1.trans hu2 (fun _ _ h => h)).trans (c := V.drewN nq) (T := fun k => k = p) ⟨rfl, rfl, rfl, Nat.le_refl _, fun _ _ _ => rfl⟩ (fun _ _ h => h), hb1.size, hq2⟩
    rfl
end Go.Proofs.YtlkojkjeklblkaaGreat
