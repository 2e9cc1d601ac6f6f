/- Contracts of package tx: the place of an input that spends an outpoint. Contracts of package tx and amount: limits of numbers, scripts, witnesses, inputs; weights; sums. Contracts of package tx and amount, continued: sums; a transaction's weight, its inputs' places, whether it may be. -/
import Derived.Test.YtlkojkjeklblkaaGreatRw
import Derived.BigQuiet
import Derived.Deep.QuietTactic
set_option linter.unusedSimpArgs false
set_option linter.unusedVariables false
namespace Go.Proofs.YtlkojkjeklblkaaGreat
open Go.RowKit
set_option maxHeartbeats 400000 in
theorem spends1 (x : In) (p : Outpoint) (b : Nat) (w : World) (h : row? w ⟨b, 0, none⟩ 33 = some p.arr) (hb : b < w.heap.size) :
    Calls Tryz.prog 217 #[.agg x.arr, .pointer (some ⟨b, 0, none⟩)] w fun e w' => e = .returned (.bool (decide (x.prev = p))) ∧ Below w.heap.size w w' := by
  go_enter Tryz.func217, Tryz.ntmps217
  go_wp2
  go_ret
  exact ⟨rfl, (Below.refl _ _).alloc (Nat.le_refl _) _⟩
set_option maxHeartbeats 400000 in
theorem index_ins (a : Option Addr) (c : Nat) (l : List In) (p : Outpoint) (b : Nat) (w : World) (hl : l.length ≤ 9223372036854775806) (hs : rowsAt w a 37 In.arr l w.heap.size) (h : row? w ⟨b, 0, none⟩ 33 = some p.arr) (hb : b < w.heap.size) :
    Calls Tryz.prog 216 #[.slice a l.length c, .func (.func 217) #[] #[.pointer (some ⟨b, 0, none⟩)]] w
      fun e w' => e = .returned (.int .i64 (firstAt (fun x => decide (x.prev = p)) l)) ∧ Below w.heap.size w w' := by
  go_enter Tryz.func216, Tryz.ntmps216
  go_wp2
  go_loopw [8] (fun i wr => ∃ k : Nat, k ≤ l.length ∧ i = .int .i64 k ∧ Below w.heap.size w wr ∧ Hid (∀ j (h : j < l.length), j < k → decide (l[j].prev = p) = false)) (fun i _ => l.length - (intOf i).toNat)
  case atStart => exact ⟨0, Nat.zero_le _, rfl, Below.refl _ _, fun j _ h => by omega⟩
  case round =>
    obtain ⟨k, hk, rfl, hbw, hno⟩ := hrel
    by_cases hlt : k < l.length
    · obtain ⟨b0, off, rfl, hb0, hr⟩ := (hs.below hbw).at hlt
      have hz := hbw.size
      have hp : row? wr ⟨b, 0, none⟩ 33 = some p.arr := (row?_below hbw (a := ⟨b, 0, none⟩) hb 33).trans h
      by_cases hd : l[k].prev = p
      · go_wp2_with (go_at_call 217; refine (spends1 _ p _ _ hp (by omega)).mono ?_; rintro e w' ⟨rfl, hb'⟩)
        go_ret
        exact ⟨ret_int (firstAt_hit hlt hno.out (by simpa using hd)).symm, hbw.trans (hb'.mono hz)⟩
      · go_wp2_with (go_at_call 217; refine (spends1 _ p _ _ hp (by omega)).mono ?_; rintro e w' ⟨rfl, hb'⟩)
        go_roundw
        case rel => exact ⟨k + 1, by omega, by go_num, hbw.trans (hb'.mono hz), fun j h hj => by
          by_cases e : j = k
          · subst e; simpa using hd
          · exact hno.out j h (by omega)⟩
        case measure => simp [intOf]; omega
    · go_wp2
      go_ret
      exact ⟨ret_int (firstAt_none (fun j h => hno.out j h (by omega))).symm, hbw⟩
end Go.Proofs.YtlkojkjeklblkaaGreat
namespace Go.Proofs.YtlkojkjeklblkaaGreat
open Go.RowKit
/-- Is a number within limits? -/
def wth (n a b : Int) : Bool := decide (a ≤ n) && decide (n ≤ b)
theorem wth_iff {n a b : Int} : wth n a b = true ↔ a ≤ n ∧ n ≤ b := by simp [wth]
set_option maxHeartbeats 400000 in
theorem within_tx (n a b : Int) (w : World) : Calls Tryz.prog 188 #[.int .i64 n, .int .i64 a, .int .i64 b] w fun e w' => e = .returned (.bool (wth n a b)) ∧ w = w' := by
  by_cases h1 : a ≤ n
  · go_enter Tryz.func188, Tryz.ntmps188
    go_wp2
    go_ret
    exact ⟨ret_bool (by simp [wth, h1]), rfl⟩
  · go_enter Tryz.func188, Tryz.ntmps188
    go_wp2
    go_ret
    exact ⟨ret_bool (by unfold wth; rw [decide_eq_false (by omega)]; rfl), rfl⟩
def scriptOk (s : Script) : Bool := wth s.key 0 1073741824 && wth s.other 0 1073741824 && wth s.rev 0 1073741824 && wth s.kind 1 6 && wth s.delay 0 65535 && wth s.expiry 0 1000000
set_option maxHeartbeats 1000000 in
theorem script_tx (s : Script) (w : World) : Calls Tryz.prog 187 #[.agg s.arr] w fun e w' => e = .returned (.bool (scriptOk s)) ∧ Below w.heap.size w w' := by
  go_enter Tryz.func187, Tryz.ntmps187
  go_wp2_with (go_at_call 188; refine (within_tx _ _ _ _).mono ?_; rintro e w' ⟨rfl, rfl⟩)
  all_goals
    go_ret
    exact ⟨ret_bool (by simp_all [scriptOk]), (Below.refl _ _).alloc (Nat.le_refl _) _⟩
def witOk (x : Witness) : Bool := wth x.kind 1 4 && wth x.key 0 1073741824 && decide ((x.pre.size : Int) ≤ 64) && ((x.kind == 2) == !x.pre.toList.isEmpty)
set_option maxHeartbeats 1000000 in
theorem witness_tx (x : Witness) (w : World) : Calls Tryz.prog 215 #[.agg x.arr] w fun e w' => e = .returned (.bool (witOk x)) ∧ Below w.heap.size w w' := by
  go_enter Tryz.func215, Tryz.ntmps215
  go_wp2_with (go_at_call 188; refine (within_tx _ _ _ _).mono ?_; rintro e w' ⟨rfl, rfl⟩)
  all_goals
    go_ret
    refine ⟨ret_bool ?_, (Below.refl _ _).alloc (Nat.le_refl _) _⟩
    first | (simp_all [witOk]; done) | (unfold witOk; rw [decide_eq_false (by omega : ¬ ((x.pre.size : Int) ≤ 64))]; simp)
def inOk (x : In) : Bool := wth x.prev.n 0 99 && wth x.seq 0 65535 && witOk x.wit
set_option maxHeartbeats 1000000 in
theorem in_tx (x : In) (w : World) : Calls Tryz.prog 185 #[.agg x.arr] w fun e w' => e = .returned (.bool (inOk x)) ∧ Below w.heap.size w w' := by
  go_enter Tryz.func185, Tryz.ntmps185
  go_wp2_with (first | (go_at_call 188; refine (within_tx _ _ _ _).mono ?_; rintro e w' ⟨rfl, rfl⟩) | (go_at_call 215; refine (witness_tx _ _).mono ?_; rintro e w' ⟨rfl, hb⟩))
  all_goals
    go_ret
    refine ⟨ret_bool (by simp_all [inOk]), ?_⟩
    first | exact (Below.refl _ _).alloc (Nat.le_refl _) _ | exact ((Below.refl _ _).alloc (Nat.le_refl _) _).trans (hb.mono (by simp))
/-- The weight of a witness. -/
def witW (k : Int) : Int := if k = 1 then 74 else if k = 2 then 107 else if k = 3 then 76 else if k = 4 then 1 else 0
def money (a : Int) : Bool := decide (0 ≤ a) && decide (a ≤ 2100000000000000)
set_option maxHeartbeats 1000000 in
theorem valid_am (a : Int) (w : World) : Calls Tryz.prog 229 #[.int .i64 a] w fun e w' => e = .returned (.bool (money a)) ∧ w = w' := by
  go_enter Tryz.func229, Tryz.ntmps229
  go_wp2
  all_goals
    go_ret
    refine ⟨ret_bool ?_, rfl⟩
    unfold money
    first | (rw [decide_eq_true (p := 0 ≤ a) (by assumption)]; simp) | (rw [decide_eq_false (p := 0 ≤ a) (by omega)]; rfl)
def heldS (a : Int) (ok : Bool) : Int × Int := if ok && money a then (a, 0) else (0, 11)
set_option maxHeartbeats 1000000 in
theorem held_am (a : Int) (ok : Bool) (w : World) : Calls Tryz.prog 228 #[.int .i64 a, .bool ok] w fun e w' => e = .returned (.tuple #[.int .i64 (heldS a ok).1, .int .i64 (heldS a ok).2]) ∧ w = w' := by
  go_enter Tryz.func228, Tryz.ntmps228
  go_wp2_with (go_at_call 229; refine (valid_am _ _).mono ?_; rintro e w' ⟨rfl, rfl⟩)
  all_goals
    go_ret2
    refine ⟨?_, rfl⟩
    simp_all [heldS]
def addS (a b : Int) : Int × Int := if money a && money b && money (a + b) then (a + b, 0) else (0, 11)
theorem money_iff {a : Int} : money a = true ↔ 0 ≤ a ∧ a ≤ 2100000000000000 := by simp [money]
set_option maxHeartbeats 1000000 in
theorem add_am (a b : Int) (w : World) : Calls Tryz.prog 218 #[.int .i64 a, .int .i64 b] w fun e w' => e = .returned (.tuple #[.int .i64 (addS a b).1, .int .i64 (addS a b).2]) ∧ w = w' := by
  by_cases h : money a = true ∧ money b = true
  · obtain ⟨h1, h2⟩ := h
    have e1 := money_iff.1 h1
    have e2 := money_iff.1 h2
    have e3 : wrap64 (a + b) = a + b := by unfold wrap64; omega
    go_enter Tryz.func218, Tryz.ntmps218
    go_wp2_with (first | (go_at_call 229; refine (valid_am _ _).mono ?_; rintro e w' ⟨rfl, rfl⟩) | (go_at_call 228; refine (held_am _ _ _).mono ?_; rintro e w' ⟨rfl, rfl⟩))
    go_ret2
    refine ⟨?_, rfl⟩
    simp_all [addS, heldS]
  · have hs : ∀ x, heldS x false = (0, 11) := fun x => by simp [heldS]
    go_enter Tryz.func218, Tryz.ntmps218
    go_wp2_with (first | (go_at_call 229; refine (valid_am _ _).mono ?_; rintro e w' ⟨rfl, rfl⟩) | (go_at_call 228; refine (held_am _ _ _).mono ?_; rintro e w' ⟨rfl, rfl⟩))
    all_goals
      go_ret2
      refine ⟨?_, rfl⟩
      simp_all [addS, heldS]
end Go.Proofs.YtlkojkjeklblkaaGreat
namespace Go.Proofs.YtlkojkjeklblkaaGreat
open Go.RowKit
/-- The numbers of l lie one behind the other from a on, in a block below B. -/
def intsAt (w : World) (a : Option Addr) (l : List Int) (B : Nat) : Prop :=
  l ≠ [] → ∃ b off, a = some ⟨b, off, none⟩ ∧ b < B ∧ ∀ k (h : k < l.length), w.cell? ⟨b, off + k, none⟩ = some (.int .i64 l[k])
theorem intsAt.below {w w' : World} {a : Option Addr} {l : List Int} {B : Nat} (h : intsAt w a l B) (hb : Below B w w') : intsAt w' a l B := by
  intro hl
  obtain ⟨b, off, ha, hB, hr⟩ := h hl
  exact ⟨b, off, ha, hB, fun k hk => (hb.cell (p := ⟨b, _, none⟩) hB).trans (hr k hk)⟩
theorem intsAt.at {w : World} {a : Option Addr} {l : List Int} {B : Nat} (h : intsAt w a l B) {k : Nat} (hk : k < l.length) :
    ∃ b off, a = some ⟨b, off, none⟩ ∧ b < B ∧ w.cell? ⟨b, off + k, none⟩ = some (.int .i64 l[k]) := by
  obtain ⟨b, off, ha, hB, hr⟩ := h (by rintro rfl; simp at hk)
  exact ⟨b, off, ha, hB, hr k hk⟩
/-- Numbers as cells. -/
def intVs (l : List Int) : List Value := l.map (Value.int .i64)
theorem intVs_length (l : List Int) : (intVs l).length = l.length := by simp [intVs]
theorem intVs_snoc (l : List Int) (x : Int) : intVs (l ++ [x]) = intVs l ++ [.int .i64 x] := by simp [intVs]
theorem intsAt_own {w : World} {base : Nat} {e : TypeId} {a : Option Addr} {n c : Nat} {l : List Int} (h : w.ownsRow base e 1 (.slice a n c) n (intVs l)) : n = l.length ∧ intsAt w a l w.heap.size := by
  have hn : n = l.length := by have := h.1; rw [intVs_length] at this; omega
  refine ⟨hn, fun hl => ?_⟩
  rcases h.2 with ⟨hv, h0⟩ | ⟨g, cap, cur, hv, hg, hh, hn', hm, hs, ht⟩
  · exact absurd (by omega : l.length = 0) (by simpa using hl)
  · injection hv with ha _ hcc
    subst ha hcc
    refine ⟨g, 0, rfl, (Array.getElem?_eq_some_iff.1 hh).1, fun k hk => ?_⟩
    rw [Nat.zero_add, h.cellAt k (by omega)]
    simp [intVs, hk]
def totalS : Int → List Int → Int × Int
  | s, [] => (s, 0)
  | s, a :: l => if (addS s a).2 = 0 then totalS (addS s a).1 l else addS s a
theorem totalS_step {l : List Int} {k : Nat} {s : Int} (hk : k < l.length) (h : totalS 0 l = totalS s (l.drop k)) :
    totalS 0 l = if (addS s l[k]).2 = 0 then totalS (addS s l[k]).1 (l.drop (k + 1)) else addS s l[k] := by
  rw [h, List.drop_eq_getElem_cons hk, totalS]
set_option maxHeartbeats 1000000 in
theorem total_am (a : Option Addr) (c : Nat) (l : List Int) (w : World) (hl : l.length ≤ 9223372036854775806) (hs : intsAt w a l w.heap.size) :
    Calls Tryz.prog 189 #[.slice a l.length c] w fun e w' => e = .returned (.tuple #[.int .i64 (totalS 0 l).1, .int .i64 (totalS 0 l).2]) ∧ w = w' := by
  go_enter Tryz.func189, Tryz.ntmps189
  go_wp2
  refine wp_scope_fwd 0 (by rfl) ?_
  go_wp2
  go_loop [2, 3, 8] (fun s e i => ∃ (k : Nat) (x : Int), k ≤ l.length ∧ i = .int .i64 k ∧ s = .int .i64 x ∧ e = .int .i64 0 ∧ Hid (totalS 0 l = totalS x (l.drop k))) (fun _ _ i => l.length - (intOf i).toNat)
  case atStart => exact ⟨0, 0, Nat.zero_le _, rfl, rfl, rfl, rfl⟩
  case round =>
    obtain ⟨k, x, hk, rfl, rfl, rfl, ht⟩ := hrel
    by_cases hlt : k < l.length
    · obtain ⟨b, off, rfl, hb, hc⟩ := hs.at hlt
      have hst := totalS_step hlt ht.out
      have Hst := Lib.hid hst
      clear hst
      by_cases he : (addS x l[k]).2 = 0
      · have he' : ((addS x l[k]).2 != 0) = false := by simpa using he
        have Hhe := Lib.hid he
        clear he
        go_wp2_with (go_at_call 218; refine (add_am _ _ _).mono ?_; rintro e w' ⟨rfl, rfl⟩)
        go_round
        case rel => exact ⟨k + 1, _, by omega, by go_num, rfl, by rw [Hhe.out], by rw [Hst.out, if_pos Hhe.out]; rfl⟩
        case measure => simp [intOf]; omega
      · have he' : ((addS x l[k]).2 != 0) = true := by simpa using he
        go_wp2_with (go_at_call 218; refine (add_am _ _ _).mono ?_; rintro e w' ⟨rfl, rfl⟩)
        go_step3
        refine ⟨rfl, ?_⟩
        show Code.wp _ _ _ _ _
        go_wp2
        rw [Exit.noGoto_ret]
        go_ret2
        exact ⟨by rw [Hst.out, if_neg he]; rfl, rfl⟩
    · go_wp2
      go_step3
      go_wp2
      rw [jump_ret]
      go_ret2
      have : k = l.length := by omega
      subst this
      exact ⟨by rw [ht.out]; simp [totalS], rfl⟩
/-- A transaction. -/
structure Tx where
  ins : List In
  outs : List Out
  lock : Int
/-- A value that reads as a transaction, its lists below block B. -/
def isTx (w : World) (v : TxV) (t : Tx) (B : Nat) : Prop := isSl w v.ins 37 In.arr t.ins B ∧ isSl w v.outs 39 Out.arr t.outs B ∧ v.lock = t.lock
theorem isTx.below {w w' : World} {v : TxV} {t : Tx} {B : Nat} (h : isTx w v t B) (hb : Below B w w') : isTx w' v t B := ⟨h.1.below hb, h.2.1.below hb, h.2.2⟩
theorem isTx.mono {w : World} {v : TxV} {t : Tx} {B B' : Nat} (h : isTx w v t B) (hb : B ≤ B') : isTx w v t B' := ⟨h.1.mono hb, h.2.1.mono hb, h.2.2⟩
def sumW (l : List In) : Int := (l.map fun x => witW x.wit.kind).sum
def weightS (t : Tx) : Int := 4 * (10 + 41 * t.ins.length + 34 * t.outs.length) + sumW t.ins
theorem witW_bd (k : Int) : 0 ≤ witW k ∧ witW k ≤ 107 := by unfold witW; split; omega; split; omega; split; omega; split <;> omega
theorem sumW_bd (l : List In) : 0 ≤ sumW l ∧ sumW l ≤ 107 * l.length := by
  unfold sumW
  induction l with
  | nil => simp
  | cons x l ih => have := witW_bd x.wit.kind; simp only [List.map_cons, List.sum_cons, List.length_cons]; omega
theorem sumW_take {l : List In} {k : Nat} (hk : k < l.length) : sumW (l.take (k + 1)) = sumW (l.take k) + witW l[k].wit.kind := by
  unfold sumW
  rw [List.take_succ_eq_append_getElem hk, List.map_append, List.sum_append]
  simp
end Go.Proofs.YtlkojkjeklblkaaGreat
