/- Contracts of package tx and amount, continued: sums; a transaction's weight, its inputs' places, whether it may be. -/
import Derived.Test.YtaopiefbejajkaaTxB
set_option linter.unusedSimpArgs false
set_option linter.unusedVariables false
namespace Go.Proofs.Ytaopiefbejajkaa
open Go.RowKit
/-- The numbers of l lie one behind the other from a on, in a block below B. -/
def intsAt (w : World) (a : Option Addr) (l : List Int) (B : Nat) : Prop :=
  l ≠ [] → ∃ b off, a = some ⟨b, off, none⟩ ∧ b < B ∧ ∀ k (h : k < l.length), w.cell? ⟨b, off + k, none⟩ = some (.int .i64 l[k])
theorem intsAt.below {w w' : World} {a : Option Addr} {l : List Int} {B : Nat} (h : intsAt w a l B) (hb : Below B w w') : intsAt w' a l B := by
  intro hl
  obtain ⟨b, off, ha, hB, hr⟩ := h hl
  exact ⟨b, off, ha, hB, fun k hk => (hb.cell (p := ⟨b, _, none⟩) hB).trans (hr k hk)⟩
theorem intsAt.at {w : World} {a : Option Addr} {l : List Int} {B : Nat} (h : intsAt w a l B) {k : Nat} (hk : k < l.length) :
    ∃ b off, a = some ⟨b, off, none⟩ ∧ b < B ∧ w.cell? ⟨b, off + k, none⟩ = some (.int .i64 l[k]) := by
  obtain ⟨b, off, ha, hB, hr⟩ := h (by rintro rfl; simp at hk)
  exact ⟨b, off, ha, hB, hr k hk⟩
/-- Numbers as cells. -/
def intVs (l : List Int) : List Value := l.map (Value.int .i64)
theorem intVs_length (l : List Int) : (intVs l).length = l.length := by simp [intVs]
theorem intVs_snoc (l : List Int) (x : Int) : intVs (l ++ [x]) = intVs l ++ [.int .i64 x] := by simp [intVs]
theorem intsAt_own {w : World} {base : Nat} {e : TypeId} {a : Option Addr} {n c : Nat} {l : List Int} (h : w.ownsRow base e 1 (.slice a n c) n (intVs l)) : n = l.length ∧ intsAt w a l w.heap.size := by
  have hn : n = l.length := by have := h.1; rw [intVs_length] at this; omega
  refine ⟨hn, fun hl => ?_⟩
  rcases h.2 with ⟨hv, h0⟩ | ⟨g, cap, cur, hv, hg, hh, hn', hm, hs, ht⟩
  · exact absurd (by omega : l.length = 0) (by simpa using hl)
  · injection hv with ha _ hcc
    subst ha hcc
    refine ⟨g, 0, rfl, (Array.getElem?_eq_some_iff.1 hh).1, fun k hk => ?_⟩
    rw [Nat.zero_add, h.cellAt k (by omega)]
    simp [intVs, hk]
def totalS : Int → List Int → Int × Int
  | s, [] => (s, 0)
  | s, a :: l => if (addS s a).2 = 0 then totalS (addS s a).1 l else addS s a
theorem totalS_step {l : List Int} {k : Nat} {s : Int} (hk : k < l.length) (h : totalS 0 l = totalS s (l.drop k)) :
    totalS 0 l = if (addS s l[k]).2 = 0 then totalS (addS s l[k]).1 (l.drop (k + 1)) else addS s l[k] := by
  rw [h, List.drop_eq_getElem_cons hk, totalS]
set_option maxHeartbeats 1000000 in
theorem total_am (a : Option Addr) (c : Nat) (l : List Int) (w : World) (hl : l.length ≤ 9223372036854775806) (hs : intsAt w a l w.heap.size) :
    Calls Try.prog 113 #[.slice a l.length c] w fun e w' => e = .returned (.tuple #[.int .i64 (totalS 0 l).1, .int .i64 (totalS 0 l).2]) ∧ w = w' := by
  go_enter Try.func113, Try.ntmps113
  go_wp2
  refine wp_scope_fwd 0 (by rfl) ?_
  go_wp2
  go_loop [2, 3, 8] (fun s e i => ∃ (k : Nat) (x : Int), k ≤ l.length ∧ i = .int .i64 k ∧ s = .int .i64 x ∧ e = .int .i64 0 ∧ Hid (totalS 0 l = totalS x (l.drop k))) (fun _ _ i => l.length - (intOf i).toNat)
  case atStart => exact ⟨0, 0, Nat.zero_le _, rfl, rfl, rfl, rfl⟩
  case round =>
    obtain ⟨k, x, hk, rfl, rfl, rfl, ht⟩ := hrel
    by_cases hlt : k < l.length
    · obtain ⟨b, off, rfl, hb, hc⟩ := hs.at hlt
      have hst := totalS_step hlt ht.out
      have Hst := Lib.hid hst
      clear hst
      by_cases he : (addS x l[k]).2 = 0
      · have he' : ((addS x l[k]).2 != 0) = false := by simpa using he
        have Hhe := Lib.hid he
        clear he
        go_wp2_with (go_at_call 146; refine (add_am _ _ _).mono ?_; rintro e w' ⟨rfl, rfl⟩)
        go_round
        case rel => exact ⟨k + 1, _, by omega, by go_num, rfl, by rw [Hhe.out], by rw [Hst.out, if_pos Hhe.out]; rfl⟩
        case measure => simp [intOf]; omega
      · have he' : ((addS x l[k]).2 != 0) = true := by simpa using he
        go_wp2_with (go_at_call 146; refine (add_am _ _ _).mono ?_; rintro e w' ⟨rfl, rfl⟩)
        go_step3
        refine ⟨rfl, ?_⟩
        show Code.wp _ _ _ _ _
        go_wp2
        rw [Exit.noGoto_ret]
        go_ret2
        exact ⟨by rw [Hst.out, if_neg he]; rfl, rfl⟩
    · go_wp2
      go_step3
      go_wp2
      rw [jump_ret]
      go_ret2
      have : k = l.length := by omega
      subst this
      exact ⟨by rw [ht.out]; simp [totalS], rfl⟩
/-- A transaction. -/
structure Tx where
  ins : List In
  outs : List Out
  lock : Int
/-- A value that reads as a transaction, its lists below block B. -/
def isTx (w : World) (v : TxV) (t : Tx) (B : Nat) : Prop := isSl w v.ins 37 In.arr t.ins B ∧ isSl w v.outs 39 Out.arr t.outs B ∧ v.lock = t.lock
theorem isTx.below {w w' : World} {v : TxV} {t : Tx} {B : Nat} (h : isTx w v t B) (hb : Below B w w') : isTx w' v t B := ⟨h.1.below hb, h.2.1.below hb, h.2.2⟩
theorem isTx.mono {w : World} {v : TxV} {t : Tx} {B B' : Nat} (h : isTx w v t B) (hb : B ≤ B') : isTx w v t B' := ⟨h.1.mono hb, h.2.1.mono hb, h.2.2⟩
def sumW (l : List In) : Int := (l.map fun x => witW x.wit.kind).sum
def weightS (t : Tx) : Int := 4 * (10 + 41 * t.ins.length + 34 * t.outs.length) + sumW t.ins
theorem witW_bd (k : Int) : 0 ≤ witW k ∧ witW k ≤ 107 := by unfold witW; split; omega; split; omega; split; omega; split <;> omega
theorem sumW_bd (l : List In) : 0 ≤ sumW l ∧ sumW l ≤ 107 * l.length := by
  unfold sumW
  induction l with
  | nil => simp
  | cons x l ih => have := witW_bd x.wit.kind; simp only [List.map_cons, List.sum_cons, List.length_cons]; omega
theorem sumW_take {l : List In} {k : Nat} (hk : k < l.length) : sumW (l.take (k + 1)) = sumW (l.take k) + witW l[k].wit.kind := by
  unfold sumW
  rw [List.take_succ_eq_append_getElem hk, List.map_append, List.sum_append]
  simp
set_option maxHeartbeats 1000000 in
theorem weight_tx (v : TxV) (t : Tx) (w : World) (ht : isTx w v t w.heap.size) (h1 : t.ins.length ≤ 1000000000000) (h2 : t.outs.length ≤ 1000000000000) :
    Calls Try.prog 21 #[.agg v.arr] w fun e w' => e = .returned (.int .i64 (weightS t)) ∧ Below w.heap.size w w' := by
  obtain ⟨⟨hn1, _hc1, hr1⟩, ⟨hn2, _hc2, hr2⟩, hl⟩ := ht
  obtain ⟨⟨ia, il, ic⟩, ⟨oa, ol, oc⟩, lk⟩ := v
  simp only at hn1 hr1 hn2 hr2 hl
  subst hn1 hn2 hl
  have hbase : Below w.heap.size w (w.alloc (.cells (TxV.mk ⟨ia, t.ins.length, ic⟩ ⟨oa, t.outs.length, oc⟩ t.lock).arr 51)) := (Below.refl _ _).alloc (Nat.le_refl _) _
  go_enter Try.func21, Try.ntmps21
  go_wp2
  go_loopw [3, 20] (fun n i wr => ∃ k : Nat, k ≤ t.ins.length ∧ i = .int .i64 k ∧ n = .int .i64 (4 * (10 + 41 * t.ins.length + 34 * t.outs.length) + sumW (t.ins.take k)) ∧ Below w.heap.size w wr) (fun _ i _ => t.ins.length - (intOf i).toNat)
  case atStart => exact ⟨0, Nat.zero_le _, rfl, by simp [sumW], hbase⟩
  case round =>
    obtain ⟨k, hk, rfl, rfl, hbw⟩ := hrel
    have hb1 := sumW_bd (t.ins.take k)
    have hb3 : (t.ins.take k).length ≤ 1000000000000 := by simp; omega
    by_cases hlt : k < t.ins.length
    · obtain ⟨b0, off, rfl, hb0, hr⟩ := (hr1.below hbw).at hlt
      have hb2 := witW_bd t.ins[k].wit.kind
      have hz := hbw.size
      have HS := Lib.hid (sumW_take hlt)
      go_wp2_with (go_at_call 22; refine (wit_tx _ _).mono ?_; rintro e w' ⟨rfl, rfl⟩)
      go_roundw
      case rel => exact ⟨k + 1, by omega, by go_num, by rw [HS.out, Int.add_assoc], hbw.alloc hz _⟩
      case measure => simp [intOf]; omega
    · go_wp2
      go_ret
      have : k = t.ins.length := by omega
      subst this
      exact ⟨ret_int (by simp [weightS]), hbw⟩
end Go.Proofs.Ytaopiefbejajkaa
