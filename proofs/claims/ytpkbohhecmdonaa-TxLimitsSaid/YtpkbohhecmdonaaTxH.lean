/- Contracts of package tx, continued: are two transactions alike? What the document fixes of chapter 5. -/
import Derived.Test.YtpkbohhecmdonaaTxG
set_option linter.unusedSimpArgs false
set_option linter.unusedVariables false
namespace Go.Proofs.Ytpkbohhecmdonaa
open Go.RowKit
def sameS (a b : Tx) : Bool := decide (a.lock = b.lock) && decide (a.ins = b.ins) && decide (a.outs = b.outs)
set_option maxRecDepth 100000 in
set_option maxHeartbeats 1000000 in
theorem same_tx (v u : TxV) (a b : Tx) (w : World) (ha : isTx w v a w.heap.size) (hb : isTx w u b w.heap.size) (l1 : a.ins.length ≤ 1000000000) (l2 : a.outs.length ≤ 1000000000) (l3 : b.ins.length ≤ 1000000000) (l4 : b.outs.length ≤ 1000000000) :
    Calls Try.prog 99 #[.agg v.arr, .agg u.arr] w fun e w' => e = .returned (.bool (sameS a b)) ∧ Below w.heap.size w w' := by
  obtain ⟨⟨hm1, hcc1, hr1⟩, ⟨hm2, hcc2, hr2⟩, hlk⟩ := ha
  obtain ⟨⟨ia, il, ic⟩, ⟨oa, ol, oc⟩, lk⟩ := v
  obtain ⟨⟨km1, kcc1, kr1⟩, ⟨km2, kcc2, kr2⟩, klk⟩ := hb
  obtain ⟨⟨ja, jl, jc⟩, ⟨pa, pl, pc⟩, mk⟩ := u
  simp only at hm1 hcc1 hr1 hm2 hcc2 hr2 hlk km1 kcc1 kr1 km2 kcc2 kr2 klk
  subst hm1 hm2 hlk km1 km2 klk
  have hbase : Below w.heap.size w ((w.alloc (.cells (TxV.mk ⟨ia, a.ins.length, ic⟩ ⟨oa, a.outs.length, oc⟩ a.lock).arr 51)).alloc (.cells (TxV.mk ⟨ja, b.ins.length, jc⟩ ⟨pa, b.outs.length, pc⟩ b.lock).arr 51)) := ((Below.refl _ _).alloc (Nat.le_refl _) _).alloc (by simp) _
  have hsz := hbase.size
  by_cases h1 : a.lock = b.lock
  · have t1 : (a.lock == b.lock) = true := by simp [h1]
    have H1 := Lib.hid h1
    clear h1
    by_cases h2 : a.ins = b.ins
    · have t2 : decide (a.ins = b.ins) = true := by simp [h2]
      have H2 := Lib.hid h2
      clear h2
      go_enter Try.func99, Try.ntmps99
      go_wp2_with fail
      refine (equal_ins ia ja ic jc a.ins b.ins _ l1 l3 ((hr1.below hbase).mono hsz) ((kr1.below hbase).mono hsz)).mono ?_
      rintro e w1 ⟨rfl, hb1⟩
      have hb01 := hbase.trans (hb1.mono hsz)
      obtain ⟨bc1, bf1, br1⟩ := bcell hb1
      go_wp2_with fail
      refine (equal_outs oa pa oc pc a.outs b.outs _ l2 l4 ((hr2.below hb01).mono hb01.size) ((kr2.below hb01).mono hb01.size)).mono ?_
      rintro e w2 ⟨rfl, hb2⟩
      go_wp2_with fail
      go_ret
      exact ⟨ret_bool (by simp [sameS, H1.out, H2.out]), hb01.trans (hb2.mono hb01.size)⟩
    · have t2 : decide (a.ins = b.ins) = false := by simp [h2]
      have H2 := Lib.hid h2
      clear h2
      go_enter Try.func99, Try.ntmps99
      go_wp2_with fail
      refine (equal_ins ia ja ic jc a.ins b.ins _ l1 l3 ((hr1.below hbase).mono hsz) ((kr1.below hbase).mono hsz)).mono ?_
      rintro e w1 ⟨rfl, hb1⟩
      have hb01 := hbase.trans (hb1.mono hsz)
      go_wp2_with fail
      go_ret
      exact ⟨ret_bool (by simp [sameS, H2.out]), hb01⟩
  · have t1 : (a.lock == b.lock) = false := by simp [h1]
    have H1 := Lib.hid h1
    clear h1
    go_enter Try.func99, Try.ntmps99
    go_wp2_with fail
    go_ret
    exact ⟨ret_bool (by simp [sameS, H1.out]), hbase⟩
/-! ### what the document fixes -/
def t5 : Tx := { ins := [{ In.zero with wit := { kind := 1, key := 1, pre := ByteArray.empty } }], outs := [{ value := 5, script := { Script.zero with kind := 1, key := 1 } }], lock := 0 }
def u5 : Tx := { t5 with ins := [{ In.zero with wit := { kind := 3, key := 9, pre := ByteArray.empty } }] }
def tz : Tx := { ins := [], outs := [], lock := 0 }
theorem c_t5 : checkS t5 = 0 := by decide +kernel
theorem c_u5 : checkS u5 = 0 := by decide +kernel
theorem c_tz : checkS tz = 1 := by decide +kernel
theorem w_t5 : weightS t5 = 414 := by decide +kernel
theorem id_t5u5 : idS t5 = idS u5 := by unfold idS; rw [c_t5, c_u5]; rfl
theorem id_t5 : idS t5 ≠ Hash.zero := by decide +kernel
theorem same5 : sameS t5 u5 = false := by decide +kernel
end Go.Proofs.Ytpkbohhecmdonaa
