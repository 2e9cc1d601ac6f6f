/- The law FileSafe: the walk. -/
import Derived.Test.YtaopiefbejajkaaFileL
set_option linter.unusedSimpArgs false
set_option linter.unusedVariables false
namespace Go.Proofs.Ytaopiefbejajkaa
open Go.RowKit Go.Sort
def bytesL (s : ByteArray) : List UInt8 := s.data.toList
theorem bytesL_length (s : ByteArray) : (bytesL s).length = s.size := by simp [bytesL]
theorem wf64 {a : Int} (h : (Lit.int .i64 a).wf = true) : -9223372036854775808 ≤ a ∧ a ≤ 9223372036854775807 := by
  simp [Lit.wf, IntKind.min, IntKind.max, IntKind.bits, IntKind.signed] at h
  exact h
theorem take_bytes (b : ByteArray) (k : Nat) : (⟨((bytesL b).take k).toArray⟩ : ByteArray) = b.extract 0 k := by
  apply ByteArray.ext
  rw [ByteArray.data_extract]
  apply Array.ext'
  simp [bytesL]
theorem join_bytes (a b : ByteArray) (k : Nat) : (⟨(bytesL a ++ (bytesL b).take k).toArray⟩ : ByteArray) = a ++ b.extract 0 k := by
  apply ByteArray.ext
  rw [ByteArray.data_append, ByteArray.data_extract]
  apply Array.ext'
  simp [bytesL]
set_option maxRecDepth 100000 in
set_option maxHeartbeats 4000000 in
theorem safe_any (a b : ByteArray) (pick : Int) (hpk : -9223372036854775808 ≤ pick ∧ pick ≤ 9223372036854775807) (ha : a.size ≤ maxLen) (hb : b.size ≤ maxLen) (w : World) :
    Calls Try.prog 10 #[.string a, .string b, .int .i64 pick] w fun e w' => e = .returned (.bool true) ∧ Below w.heap.size w w' := by
  have ha2 : (a.size : Int) ≤ 9223372036854775807 := by unfold maxLen at ha; omega
  have hb2 : (b.size : Int) ≤ 9223372036854775807 := by unfold maxLen at hb; omega
  by_cases h5 : 500 < a.size
  · have d1 : decide (500 < (a.size : Int)) = true := decide_eq_true (by omega)
    clear h5
    go_enter Try.func10, Try.ntmps10
    go_wp2_with (go_at_call 42; refine (awake7 _).mono ?_; rintro e w' ⟨rfl, hbw⟩)
    go_ret
    exact ⟨rfl, hbw⟩
  · have d1 : decide (500 < (a.size : Int)) = false := decide_eq_false (by omega)
    by_cases h6 : 500 < b.size
    · have d2 : decide (500 < (b.size : Int)) = true := decide_eq_true (by omega)
      clear h5 h6
      go_enter Try.func10, Try.ntmps10
      go_wp2_with (go_at_call 42; refine (awake7 _).mono ?_; rintro e w' ⟨rfl, hbw⟩)
      go_ret
      exact ⟨rfl, hbw⟩
    · have d2 : decide (500 < (b.size : Int)) = false := decide_eq_false (by omega)
      have hA : (bytesL a).length ≤ 500 := by rw [bytesL_length]; omega
      have hB : (bytesL b).length ≤ 500 := by rw [bytesL_length]; omega
      obtain ⟨s1, s2, s3, s4, s5⟩ := sa_small (bytesL a) (bytesL b) hA hB
      have S := Lib.hid (And.intro s1 (And.intro s2 (And.intro s3 (And.intro s4 s5))))
      have HA := Lib.hid hA
      have HB := Lib.hid hB
      have ha3 : (a.size : Int) ≤ 500 := by omega
      have hb3 : (b.size : Int) ≤ 500 := by omega
      clear h5 h6 s1 s2 s3 s4 s5 hA hB ha hb ha2 hb2
      go_enter Try.func10, Try.ntmps10
      go_wp2_with fail
      refine (new_fs w).mono ?_
      rintro e w1 ⟨p, rfl, h1, b1⟩
      -- the first append
      obtain ⟨w2, c2, run2, b2, z2, cc2, by2⟩ := run_bytes w1 a
      have hc := append_fileN w.heap.size p fs0 nF ⟨some ⟨w1.heap.size, 0, none⟩, a.size, c2⟩ (bytesL a) w2 (h1.below b2) aw_s0 (Nat.le_trans b1.size b2.size) by2 (.inl (by simp)) cc2 (by have := HA.out; omega)
      rw [sa_e1 (bytesL a) HA.out] at hc
      have B1 := Lib.hid (b1.trans (b2.mono b1.size))
      clear h1 b1 b2 z2 cc2 by2
      go_wp2_with fail
      refine hc.mono ?_
      rintro e w3 ⟨rfl, h3, b3⟩
      clear hc run2
      have b3' := B1.out.trans b3
      have hc := sync_fileN w.heap.size p (sa1 (bytesL a)) nF w3 h3 S.out.1 b3'.size
      rw [sa_e2 (bytesL a) HA.out] at hc
      have B3 := Lib.hid b3'
      clear h3 b3 b3'
      go_wp2_with fail
      refine hc.mono ?_
      rintro e w4 ⟨rfl, h4, b4⟩
      clear hc
      have b4' := B3.out.trans b4
      obtain ⟨w5, c5, run5, b5, z5, cc5, by5⟩ := run_bytes w4 b
      have hc := append_fileN w.heap.size p (sa2 (bytesL a)) nF ⟨some ⟨w4.heap.size, 0, none⟩, b.size, c5⟩ (bytesL b) w5 (h4.below b5) S.out.2.1 (Nat.le_trans b4'.size b5.size) by5 (.inl (by simp)) cc5 (by have := HB.out; omega)
      rw [sa_e3 (bytesL a) (bytesL b) HA.out HB.out] at hc
      have B5 := Lib.hid (b4'.trans (b5.mono b4'.size))
      clear h4 b4 b4' b5 z5 cc5 by5
      go_wp2_with fail
      refine hc.mono ?_
      rintro e w6 ⟨rfl, h6, b6⟩
      clear hc run5
      have b6' := B5.out.trans b6
      obtain ⟨w7, c7, run7, b7, z7, cc7, by7⟩ := run_bytes w6 b
      have hc := append_fileN w.heap.size p (sa3 (bytesL a) (bytesL b)) nG ⟨some ⟨w6.heap.size, 0, none⟩, b.size, c7⟩ (bytesL b) w7 (h6.below b7) S.out.2.2.1 (Nat.le_trans b6'.size b7.size) by7 (.inl (by simp)) cc7 (by have := HB.out; omega)
      rw [sa_e4 (bytesL a) (bytesL b) HA.out HB.out] at hc
      have B7 := Lib.hid (b6'.trans (b7.mono b6'.size))
      clear h6 b6 b6' b7 z7 cc7 by7
      go_wp2_with fail
      refine hc.mono ?_
      rintro e w8 ⟨rfl, h8, b8⟩
      clear hc run7
      have b8' := B7.out.trans b8
      have hc := rename_fileN w.heap.size p (sa4 (bytesL a) (bytesL b)) nG nH w8 h8 S.out.2.2.2.1 b8'.size
      rw [sa_e5 (bytesL a) (bytesL b) HA.out HB.out] at hc
      have B8 := Lib.hid b8'
      clear h8 b8 b8'
      go_wp2_with fail
      refine hc.mono ?_
      rintro e w9 ⟨rfl, h9, b9⟩
      clear hc
      have b9' := B8.out.trans b9
      have hb10 : Below w9.heap.size w9 (w9.alloc (.cells #[.int .i64 pick, .int .i64 pick] 3)) := (Below.refl _ _).alloc (Nat.le_refl _) _
      have hc := crash_file (fun k => w.heap.size ≤ k) p (sa5 (bytesL a) (bytesL b)) ⟨some ⟨w9.heap.size, 0, none⟩, 2, 2⟩ [pick, pick] _ (h9.below hb10) S.out.2.2.2.2 (nums_const w9 _ _ _ [pick, pick] 2 2 rfl (Nat.le_refl _) rfl) (by intro q hq; simp at hq; subst hq; exact hpk)
      have B9 := Lib.hid (b9'.trans (hb10.mono b9'.size))
      clear h9 b9 b9' hb10
      go_wp2_with fail
      refine hc.mono ?_
      rintro e wa ⟨q, ns, rfl, hns, hq, ba⟩
      clear hc
      have en := sa_names (bytesL a) (bytesL b) HA.out HB.out hns
      subst en
      change fsAt wa _ q (saC (bytesL a) (bytesL b) pick) at hq
      obtain ⟨k, hk⟩ : ∃ k : Nat, (k : Int) = roundS pick (((bytesL b).length : Int) + 1) := by
        obtain ⟨k, hk⟩ := Int.eq_ofNat_of_zero_le (Int.emod_nonneg pick (show ((bytesL b).length : Int) + 1 ≠ 0 by omega))
        exact ⟨k, hk.symm⟩
      obtain ⟨f1, f2, f3⟩ := saC_files (bytesL a) (bytesL b) HA.out HB.out pick k hk
      have B10 := Lib.hid (B9.out.trans (ba.mono B9.out.size))
      have hc := read_file _ q _ nF wa hq
      rw [show readE (saC (bytesL a) (bytesL b) pick) nF = 0 by unfold readE; rw [f1]; rfl, f1] at hc
      have F := Lib.hid (And.intro f1 (And.intro f2 f3))
      have HK := Lib.hid hk
      have HQ := Lib.hid hq
      clear hns ba f1 f2 f3 hk hq
      go_wp2_with fail
      refine hc.mono ?_
      rintro e wb ⟨v1, rfl, ho1, bb⟩
      clear hc
      have hc := read_file _ q _ nH wb (HQ.out.below bb)
      rw [show readE (saC (bytesL a) (bytesL b) pick) nH = 0 by unfold readE; rw [F.out.2.1]; rfl, F.out.2.1] at hc
      have B11 := Lib.hid (B10.out.trans (bb.mono B10.out.size))
      have HQ2 := Lib.hid (HQ.out.below bb)
      have HO1 := Lib.hid ho1
      clear bb ho1
      go_wp2_with fail
      refine hc.mono ?_
      rintro e wc ⟨v2, rfl, ho2, bc⟩
      clear hc
      have hc := read_file _ q _ nG wc (HQ2.out.below bc)
      rw [show readE (saC (bytesL a) (bytesL b) pick) nG = 5 by unfold readE; rw [F.out.2.2]; rfl] at hc
      have B12 := Lib.hid (B11.out.trans (bc.mono B11.out.size))
      have HQ3 := Lib.hid (HQ2.out.below bc)
      have HO2 := Lib.hid ho2
      have by1 := Lib.hid ((HO1.out.bytes.below bc).mono bc.size)
      clear bc ho2
      go_wp2_with fail
      refine hc.mono ?_
      rintro e wd ⟨v3, rfl, ho3, bd⟩
      clear hc
      have hr := round_al pick ((b.size : Int) + 1) hpk (by omega) (by have := HB.out; rw [bytesL_length] at this; omega) wd
      have ek : roundS pick ((b.size : Int) + 1) = k := by rw [HK.out, bytesL_length]
      rw [ek] at hr
      have B13 := Lib.hid (B12.out.trans (bd.mono B12.out.size))
      have HQ4 := Lib.hid (HQ3.out.below bd)
      have BY1 := Lib.hid ((by1.out.below bd).mono bd.size)
      have BY2 := Lib.hid ((HO2.out.bytes.below bd).mono bd.size)
      clear bd ho3 by1 ek
      go_wp2_with fail
      refine hr.mono ?_
      rintro e w' ⟨rfl, rfl⟩
      clear hr
      go_wp2_with fail
      have hkb : (k : Int) ≤ (b.size : Int) := by
        have := Int.emod_lt_of_pos pick (show (0 : Int) < ((bytesL b).length : Int) + 1 by omega)
        have h2 := HK.out
        unfold roundS at h2
        rw [bytesL_length] at h2 this
        omega
      have hst1 : ∀ d os, (convert 96 9 (.slice v1.a v1.n v1.c)).run Try.prog (grow (redrawn wd d) os) = .ok (.string (a ++ b.extract 0 k)) (grow (redrawn wd d) os) := fun d os => by
        rw [← join_bytes a b k]
        exact bytesAt_str (BY1.out.below (below_regrown wd d os))
      have hst2 : ∀ d os, (convert 96 9 (.slice v2.a v2.n v2.c)).run Try.prog (grow (redrawn wd d) os) = .ok (.string (b.extract 0 k)) (grow (redrawn wd d) os) := fun d os => by
        rw [← take_bytes b k]
        exact bytesAt_str (BY2.out.below (below_regrown wd d os))
      have hn1 : safeE (saC (bytesL a) (bytesL b) pick) nF = v1.n := by
        unfold safeE
        rw [F.out.1, HO1.out.1]
        simp only [Option.getD_some, List.length_append, List.length_take]
        rw [Nat.min_eq_left (show k ≤ (bytesL b).length by rw [bytesL_length]; omega)]
      have hsf : ∀ d os, Calls Try.prog 49 #[.pointer (some ⟨q, 0, none⟩), .string nF.1] (grow (redrawn wd d) os) fun e w' => e = .returned (.int .i64 v1.n) ∧ Below (grow (redrawn wd d) os).heap.size (grow (redrawn wd d) os) w' := fun d os => by
        refine (safe_file _ q _ nF _ (HQ4.out.below (below_regrown wd d os))).mono ?_
        rintro e w' ⟨rfl, rfl⟩
        exact ⟨by rw [hn1], Below.refl _ _⟩
      have HSF := Lib.hid hsf
      clear hsf hn1
      refine wp_region_below (by kernel_rfl) (by kernel_rfl) ?_
      repeat (go_big_quiet_step ((first | (go_at_call 49; exact Calls.regrown_of (HSF.out _ _)) | (go_at_call 42; exact Calls.regrown_of (awake7 _)))))
      refine wpQuiet_nil ?_
      intro w2 hb_w2
      obtain ⟨hc_w2, hf_w2, hr_w2⟩ := bcell hb_w2
      go_wp2_with fail
      go_ret
      exact ⟨rfl, B13.out.trans (hb_w2.mono B13.out.size)⟩
end Go.Proofs.Ytaopiefbejajkaa
