/- Contracts of package sha: a byte taken in. -/
import Derived.Test.YtaopiefbejajkaaShaQ
set_option linter.unusedSimpArgs false
set_option linter.unusedVariables false
namespace Go.Proofs.Ytaopiefbejajkaa
open Go.RowKit
theorem SumV.set_w0 {X : World} {p : Nat} {s : SumV} (h : sumAt X p s) (i x : Nat) (hi : i < 64) : sumAt (X.setCell ⟨p, 8 + i, none⟩ (.int .u32 (x : Nat))) p { s with w := s.w.set i x } :=
  ⟨by rw [heap_set h.1, SumV.set_w s h.2 i x hi], by simp [h.2]⟩
set_option maxRecDepth 100000 in
set_option maxHeartbeats 1000000 in
theorem take_sha (p : Nat) (s : SumV) (c : Nat) (hc : c < 256) (w : World) (hs : sumAt w p s) (hok : s.ok) :
    Calls Try.prog 139 #[.pointer (some ⟨p, 0, none⟩), .int .u8 (c : Nat)] w fun e w' => e = .returned (.tuple #[]) ∧ sumAt w' p (s.takeB c) ∧ Upd w w' (fun k => k = p) := by
  obtain ⟨q, hq⟩ : ∃ q, q = s.hv / 4 := ⟨_, rfl⟩
  obtain ⟨j, hj⟩ : ∃ j, j = s.hv % 4 := ⟨_, rfl⟩
  obtain ⟨sh, hsh⟩ : ∃ sh, sh = 24 - 8 * j := ⟨_, rfl⟩
  obtain ⟨x, hx⟩ : ∃ x, x = s.w.getD q 0 := ⟨_, rfl⟩
  obtain ⟨y, hy⟩ : ∃ y, y = c * 2 ^ sh % 4294967296 := ⟨_, rfl⟩
  have hv64 := hok.2.2.2.2
  have hq16 : q < 16 := by omega
  have hxl : x < 4294967296 := by
    have : q < s.w.length := by have := hok.1; omega
    rw [hx]
    simp only [List.getD, List.getElem?_eq_getElem this, Option.getD_some]
    exact hok.2.1 _ (List.getElem_mem this)
  have hyl : y < 4294967296 := hy ▸ Nat.mod_lt _ (by decide)
  have cv := hs.hv
  have cx : w.cell? ⟨p, 8 + q, none⟩ = some (.int .u32 (x : Nat)) := hx ▸ hs.wd q (by omega)
  have hfz := (cells_known hs.1).2.1
  have e1 : Int.tdiv (s.hv : Int) 4 = (q : Int) := by rw [Int.tdiv_eq_ediv_of_nonneg (by omega)]; omega
  have e2 : Int.tmod (s.hv : Int) 4 = (j : Int) := by rw [Int.tmod_eq_emod_of_nonneg (by omega)]; omega
  have e3 : IntKind.i64.wrap (q : Int) = (q : Int) := by rw [IntKind.wrap_i64]; omega
  have e4 : IntKind.i64.wrap (j : Int) = (j : Int) := by rw [IntKind.wrap_i64]; omega
  have e5 : IntKind.i64.wrap (8 * (j : Int)) = 8 * (j : Int) := by rw [IntKind.wrap_i64]; omega
  have e6 : IntKind.i64.wrap (24 - 8 * (j : Int)) = (sh : Int) := by rw [IntKind.wrap_i64]; omega
  have y0 : (0 : Int) ≤ (q : Int) := by omega
  have y1 : (q : Int) < 64 := by omega
  have hp1 := SumV.set_w0 hs q (x ||| y) (by omega)
  have HP1 := Lib.hid hp1
  have HS := Lib.hid hs
  have HOK := Lib.hid hok
  have HB := bits_or_u32 x y hxl hyl
  have e7 : min sh 32 = sh := by omega
  have e8 : (c : Int) * 2 ^ sh % 4294967296 = (y : Int) := by rw [hy, Int.natCast_emod, Int.natCast_mul, Int.natCast_pow]; rfl
  have hput : s.putB c = { s with w := s.w.set q (x ||| y), hv := s.hv + 1 } := by rw [SumV.putB, hx, hy, hq, hsh, hj]
  have HPUT := Lib.hid hput
  clear hput
  clear hp1 hs hok hq hj hsh hx hy
  go_enter Try.func139, Try.ntmps139
  go_wp2_with fail
  go_region
  simp only [Exit.then]
  rename_i K hK
  refine hK _ _ ?_
  clear hK
  have hs1 : sumAt (w.setCell ⟨p, 8 + q, none⟩ (.int .u32 ((x ||| y : Nat) : Int))).drew p { s with w := s.w.set q (x ||| y) } := HP1.out
  have hu1 : Upd w (w.setCell ⟨p, 8 + q, none⟩ (.int .u32 ((x ||| y : Nat) : Int))).drew (fun k => k = p) := Upd.setCell_drew w p (8 + q) _
  obtain ⟨W, hW⟩ : ∃ W, W = (w.setCell ⟨p, 8 + q, none⟩ (.int .u32 ((x ||| y : Nat) : Int))).drew := ⟨_, rfl⟩
  rw [← hW] at hs1 hu1 ⊢
  clear hW cx hfz
  have cW := hs1.hv
  have fW := (cells_known hs1.1).2.1
  have hs2 := sumAt_hv hs1 (s.hv + 1)
  have hu2 : Upd w (W.setCell ⟨p, 72, none⟩ (.int .i64 ((s.hv + 1 : Nat) : Int))) (fun k => k = p) := hu1.trans (Upd.setCell W ⟨p, 72, none⟩ _) (fun _ _ h => h)
  have en : ((s.hv + 1 : Nat) : Int) = (s.hv : Int) + 1 := by omega
  rw [en] at hs2 hu2
  have HS2 := Lib.hid hs2
  have HU2 := Lib.hid hu2
  clear hs1 hu1 hs2 hu2 en e1 e2 e3 e4 e5 e6 e7 e8 HB y0 y1
  by_cases h64 : s.hv + 1 = 64
  · have t64 : ((s.hv : Int) + 1 == 64) = true := by rw [beq_iff_eq]; omega
    have H64 := Lib.hid h64
    clear h64
    have hpw := SumV.putB_w HOK.out c
    rw [HPUT.out] at hpw
    have HPW := Lib.hid hpw
    clear hpw
    go_wp2_with (go_at_call 156; refine (stir_sha p _ _ HS2.out HPW.out.2.1 HOK.out.2.2.1 HPW.out.2.2).mono ?_; rintro e w' ⟨rfl, hs3, hu3⟩)
    refine bodyPost_end (v := .tuple #[]) (by simp [results, Try.results139, go_sem]) rfl ⟨rfl, ?_, HU2.out.trans hu3 (fun _ _ h => h)⟩
    unfold SumV.takeB
    rw [if_pos H64.out, HPUT.out]
    exact hs3
  · have t64 : ((s.hv : Int) + 1 == 64) = false := by rw [beq_eq_false_iff_ne]; omega
    have H64 := Lib.hid h64
    clear h64
    go_wp2_with fail
    refine bodyPost_end (v := .tuple #[]) (by simp [results, Try.results139, go_sem]) rfl ⟨rfl, ?_, HU2.out⟩
    unfold SumV.takeB
    rw [if_neg H64.out, HPUT.out]
    exact HS2.out
end Go.Proofs.Ytaopiefbejajkaa
