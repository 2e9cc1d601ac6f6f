/- A region that draws its order: its head reads, or calls what makes memory at most; its last operations stand in one forced order: one walk. Whatever the program. Strings out of bytes, and bytes out of strings, at the operation. Contracts of package coraclealike: numbers brought round, hashes of numbers, letters. -/
import Derived.Test.YtlkojkjeklblkaaGreatQTail
import Derived.Test.YtlkojkjeklblkaaGreatTxC
import Derived.Test.YtlkojkjeklblkaaGreatShaH
import Derived.Laws.IdiomStrings
import Derived.OwnWalk
set_option linter.unusedSimpArgs false
set_option linter.unusedVariables false
namespace Go.Proofs.YtlkojkjeklblkaaGreat
open Go.RowKit Go.Sort
theorem wp_region_below_tail {P : Program} {id : Nat} {Q : Exit → Act → World → Prop} {a : Act} {w : World} {l : List Oper} (n : Nat) (hm : P.follows .mixedOrders = true) (hB : Region.lexTailB .any l.toArray n = true)
    (h : wpQuiet P l.toArray (fun w' => ∃ p : Regrown, w' = grow (redrawn w p.d) p.os) (fun a' => ∀ w', Below w.heap.size w w' → wpList P l.toArray Q (l.drop n) a' w') (l.take n) a) : (Code.region id l.toArray true).wp P Q a w := by
  simp only [Region.lexTailB, Bool.and_eq_true, decide_eq_true_eq] at hB
  obtain ⟨⟨⟨⟨hsel, hn⟩, hs⟩, hc⟩, hlex⟩ := hB
  have hn' : n < l.length := by simpa using hn
  have htl : (l.take n).length = n := by simp; omega
  have hdl : (l.drop n).length = l.toArray.size - n := by simp
  have inv0 : HeadInv .any l.toArray n (Array.replicate l.toArray.size false) :=
    ⟨by simp, fun j oj _ hl => (by rw [getD_replicate_false] at hl; cases hl), fun t _ ht => getD_in (by simpa using ht) (getD_replicate_false _ _)⟩
  have H := headQ_lex (md := .any) (g := l.toArray.size - n) hsel hs hc hn (l.take n) 0 _ a (fun j hj => by
    have hj' : j < n := by rw [htl] at hj; exact hj
    simp [hj']) (by simpa using htl) inv0 (by rw [htl]; exact hlex) h
  refine wp_region_any hm ?_
  have key := any_of_headQ (Q' := Q) (g := l.toArray.size - n) (fun listed a' w' hC hL => by
    have hb : Below w.heap.size w w' := by obtain ⟨p, hp⟩ := hC; subst hp; exact below_regrown w p.d p.os
    have := wpAny_of_seq (md := .any) (Q' := Q) (l.drop n) n listed a' w' (fun j => by simp [List.getElem?_drop]) (by rw [hdl]; exact hL.1) (hL.2 w' hb)
    rwa [hdl] at this) _ _ _ { w with drawn := w.drawn + 1 } (⟨⟨w.drawn + 1, #[]⟩, by rw [grow_empty]; rfl⟩) H
  rw [htl, show n + (l.toArray.size - n) = l.toArray.size by omega] at key
  exact key
end Go.Proofs.YtlkojkjeklblkaaGreat
namespace Go.Proofs.YtlkojkjeklblkaaGreat
open Go.RowKit
theorem bytesAt_str {w : World} {v : Sl} {l : List UInt8} {B : Nat} (h : bytesAt w v l B) : (convert 137 9 (.slice v.a v.n v.c)).run Tryz.prog w = .ok (.string ⟨l.toArray⟩) w := by
  obtain ⟨va, vn, vc⟩ := v
  obtain ⟨hn, hc⟩ := h
  simp only at hn hc
  subst hn
  by_cases hl : l = []
  · subst hl
    cases va with
    | none => rw [run_convert_bytes_string w _ _ 5 none _ vc Tryz.underlying137 Tryz.underlying5 Tryz.underlying9]; rfl
    | some a => exact run_convert_bytes_back w _ _ 5 a vc [] Tryz.underlying137 Tryz.underlying5 Tryz.underlying9 (by simp)
  · obtain ⟨b, off, rfl, hb, hcc⟩ := hc hl
    refine run_convert_bytes_back w _ _ 5 ⟨b, off, none⟩ vc l Tryz.underlying137 Tryz.underlying5 Tryz.underlying9 (fun j hj => ?_)
    have e : (⟨b, off, none⟩ : Addr).add j = ⟨b, off + j, none⟩ := by unfold Addr.add; split <;> simp_all
    rw [e]
    exact hcc j hj
theorem wpList_str {w : World} {ops : Array Oper} {rest : List Oper} {o : Oper} {a : Act} {Q : Exit → Act → World → Prop} (x : Operand) (hop : o.op = Op.convert 137 9 x) (hg : o.guard = none)
    (v : Sl) (l : List UInt8) (B : Nat) (hx : a.eval x = .slice v.a v.n v.c) (h : bytesAt w v l B) (hK : wpList Tryz.prog ops Q rest (a.put o.dst (.string ⟨l.toArray⟩)) w) : wpList Tryz.prog ops Q (o :: rest) a w := by
  refine wpList_plain hg fun K' hK' => ?_
  have hrun := bytesAt_str h
  unfold Oper.wp
  simp [execOp, hop, hx, hrun, Result.andThen]
  exact hK' _ _ hK
theorem run_bytes (w : World) (s : ByteArray) : ∃ w' c, (convert 9 137 (.string s)).run Tryz.prog w = .ok (.slice (some ⟨w.heap.size, 0, none⟩) s.size c) w' ∧ Below w.heap.size w w' ∧ w'.heap.size = w.heap.size + 1 ∧ s.size ≤ c ∧ bytesAt w' ⟨some ⟨w.heap.size, 0, none⟩, s.size, c⟩ s.data.toList w'.heap.size := by
  refine ⟨_, _, run_bytes_of_string w _ _ 5 s Tryz.underlying9 Tryz.underlying137 Tryz.underlying5, ?_, by simp, grownCap_ge _ _ _ _, ?_⟩
  · exact ((Below.refl w.heap.size w).drew).alloc (by simp) _
  · refine ⟨by simp, fun hl => ⟨w.heap.size, 0, rfl, by simp, fun k hk => ?_⟩⟩
    have h1 := World.cell?_alloc_mark w.drew (bytesRow s (grownCap w s.size 0 5)) 5 ((bytesRow s (grownCap w s.size 0 5)).size, (bytesRow s (grownCap w s.size 0 5)).size + 1) (0 + k)
    have h2 : w.drew.heap.size = w.heap.size := rfl
    rw [h2] at h1
    rw [h1, Nat.zero_add]
    have hk2 : k < s.data.size := by simpa using hk
    have hk3 : k < s.size := hk2
    simp [bytesRow, Array.getElem?_append, byteV, hk3, Array.getElem?_eq_getElem hk2]
theorem wpList_bytes {w : World} {ops : Array Oper} {rest : List Oper} {o : Oper} {a : Act} {Q : Exit → Act → World → Prop} (x : Operand) (hop : o.op = Op.convert 9 137 x) (hg : o.guard = none)
    (s : ByteArray) (hx : a.eval x = .string s)
    (hK : ∀ w' c, Below w.heap.size w w' → w'.heap.size = w.heap.size + 1 → s.size ≤ c → bytesAt w' ⟨some ⟨w.heap.size, 0, none⟩, s.size, c⟩ s.data.toList w'.heap.size → wpList Tryz.prog ops Q rest (a.put o.dst (.slice (some ⟨w.heap.size, 0, none⟩) s.size c)) w') : wpList Tryz.prog ops Q (o :: rest) a w := by
  refine wpList_plain hg fun K' hK' => ?_
  obtain ⟨w', c, hrun, h1, h2, h3, h4⟩ := run_bytes w s
  unfold Oper.wp
  simp [execOp, hop, hx, hrun, Result.andThen]
  exact hK' _ _ (hK w' c h1 h2 h3 h4)
end Go.Proofs.YtlkojkjeklblkaaGreat
namespace Go.Proofs.YtlkojkjeklblkaaGreat
open Go.RowKit
/-- A number from 0 to ahead of n. -/
def roundS (k n : Int) : Int := k % n
set_option maxRecDepth 100000 in
set_option maxHeartbeats 1000000 in
theorem round_al (k n : Int) (hk : -9223372036854775808 ≤ k ∧ k ≤ 9223372036854775807) (h0 : 0 < n) (h1 : n ≤ 1000000000000) (w : World) :
    Calls Tryz.prog 28 #[.int .i64 k, .int .i64 n] w fun e w' => e = .returned (.int .i64 (roundS k n)) ∧ w = w' := by
  have hn : (n == 0) = false := by rw [beq_eq_false_iff_ne]; omega
  obtain ⟨r, hr⟩ : ∃ r, r = Int.tmod k n := ⟨_, rfl⟩
  have hb : -n < r ∧ r < n := by
    rw [hr]
    have h2 := Int.tmod_lt_of_pos k h0
    have h3 := Int.lt_tmod_of_pos k h0
    omega
  have hrk : Hid (r % n = k % n) := by unfold Hid; rw [hr, Int.tmod_def, Int.sub_eq_add_neg, ← Int.mul_neg, Int.add_mul_emod_self_left]
  go_enter Tryz.func28, Tryz.ntmps28
  go_wp2_with fail
  go_ret
  refine ⟨ret_int ?_, rfl⟩
  rw [Int.add_emod_right, ← hr, hrk.out]
  rfl
/-- A hash of a number. -/
def name8 (n : Nat) : List UInt8 := (List.range 8).map (fun i => UInt8.ofNat (n / 2 ^ (8 * i))) ++ List.replicate 24 0
theorem name8_length (n : Nat) : (name8 n).length = 32 := by simp [name8]
def nameS (n : Nat) : Hash := ⟨(name8 n).take 31 ++ [1], by simp [name8_length]⟩
theorem name8_get (n k : Nat) (hk : k < 8) : (name8 n)[k]'(by rw [name8_length]; omega) = UInt8.ofNat (n / 2 ^ (8 * k)) := by
  simp only [name8, List.getElem_append, List.length_map, List.length_range, hk, dif_pos, List.getElem_map, List.getElem_range]
theorem name8_all (n : Nat) : partH (name8 n) (name8_length n) 8 = ⟨name8 n, name8_length n⟩ := by
  apply Hash.ext'
  simp [partH, name8]
theorem nameS_set (n : Nat) : (Hash.mk (name8 n) (name8_length n)).arr.setIfInBounds 31 (.int .u8 1) = (nameS n).arr := by
  apply Array.ext'
  simp [Hash.arr, nameS, name8, List.take_append, List.set_append, byteV]
  rfl
set_option maxRecDepth 100000 in
set_option maxHeartbeats 1000000 in
theorem name_al (n : Nat) (hn : n < 1000000000000) (w : World) :
    Calls Tryz.prog 26 #[.int .i64 n] w fun e w' => e = .returned (.agg (nameS n).arr) ∧ Below w.heap.size w w' := by
  go_enter Tryz.func26, Tryz.ntmps26
  go_wp2_with fail
  obtain ⟨W, hW⟩ : ∃ W, W = (w.alloc (.cells Hash.zero.arr 38)).alloc (.cells Hash.zero.arr 38) := ⟨_, rfl⟩
  obtain ⟨ha, hha⟩ : ∃ ha, ha = w.heap.size := ⟨_, rfl⟩
  obtain ⟨hb, hhb⟩ : ∃ hb, hb = w.heap.size + 1 := ⟨_, rfl⟩
  rw [← hW, ← hhb, ← hha]
  have hbW : Below w.heap.size w W := hW ▸ ((Below.refl w.heap.size w).alloc (Nat.le_refl _) _).alloc (by simp) _
  have hAW : W.heap[ha]? = some (.cells Hash.zero.arr 38 (0, 0)) := by rw [hW, hha]; show ((w.heap.push _).push _)[w.heap.size]? = _; rw [Array.getElem?_push, if_neg (by simp), Array.getElem?_push_size]
  have hBW : W.heap[hb]? = some (.cells (partH (name8 n) (name8_length n) 0).arr 38 (0, 0)) := by rw [partH_zero, hW, hhb]; show ((w.heap.push _).push _)[w.heap.size + 1]? = _; rw [show w.heap.size + 1 = (w.heap.push (.cells Hash.zero.arr 38)).size by simp, Array.getElem?_push_size]
  have hne : ha ≠ hb := by omega
  have hge : w.heap.size ≤ ha ∧ w.heap.size ≤ hb := by omega
  clear hW hha hhb
  go_loopw [4] (fun v wr => ∃ k : Nat, k ≤ 8 ∧ v = .int .i64 k ∧ Upd W wr (fun i => i = hb) ∧ wr.heap[hb]? = some (.cells (partH (name8 n) (name8_length n) k).arr 38 (0, 0))) (fun v _ => 8 - (intOf v).toNat)
  case atStart => exact ⟨0, by omega, rfl, Upd.refl _ _, hBW⟩
  case round =>
    obtain ⟨k, hk, rfl, hur, hhr⟩ := hrel
    clear hBW
    by_cases hlt : k < 8
    · have e5 : wrap64 (8 * (k : Int)) = 8 * (k : Int) := by unfold wrap64; omega
      obtain ⟨sh, hsh⟩ : ∃ sh, sh = 8 * k := ⟨_, rfl⟩
      have e6 : 8 * (k : Int) = (sh : Int) := by omega
      have ch := (cells_known hhr).1
      have fh := (cells_known hhr).2.1
      have hset := partH_set (name8 n) (name8_length n) k (by omega) (byteV (UInt8.ofNat (n / 2 ^ sh))) (by rw [name8_get _ _ hlt, hsh])
      have HSET := Lib.hid hset
      have hk32 : k < 32 := by omega
      clear hset hsh e5
      go_wp2_with fail
      go_roundw
      case rel =>
        have hset2 : wr.setCell ⟨hb, k, none⟩ (.int .u8 ((n : Int) / 2 ^ sh % 256)) = wr.setCell ⟨hb, k, none⟩ (byteV (UInt8.ofNat (n / 2 ^ sh))) := by
          rw [byteV_ofNat, Int.natCast_emod, Int.natCast_ediv, Int.natCast_pow]; rfl
        rw [hset2]
        refine ⟨k + 1, by omega, by go_num, hur.trans (Upd.setCell wr ⟨hb, k, none⟩ (byteV (UInt8.ofNat (n / 2 ^ sh)))) (fun _ _ h => h), ?_⟩
        rw [heap_set hhr, HSET.out]
      case measure => simp [intOf]; omega
    · have hk8 : k = 8 := by omega
      subst hk8
      rw [name8_all] at hhr
      have ch := (cells_known hhr).1
      have fh := (cells_known hhr).2.1
      have h31 := heap_set hhr 31 (.int .u8 1)
      rw [nameS_set] at h31
      have hr31 : row? (wr.setCell ⟨hb, 31, none⟩ (.int .u8 1)) ⟨hb, 0, none⟩ 32 = some (nameS n).arr := row_hash h31
      have hu31 := hur.trans (Upd.setCell wr ⟨hb, 31, none⟩ (.int .u8 1)) (fun _ _ h => h)
      have hA31 : (wr.setCell ⟨hb, 31, none⟩ (.int .u8 1)).heap[ha]? = some (.cells Hash.zero.arr 38 (0, 0)) := by
        rw [hu31.block ha (Array.getElem?_eq_some_iff.1 hAW).1 hne]; exact hAW
      have HA := Lib.hid hA31
      have HU := Lib.hid hu31
      have h8 : (31 : Nat) < 32 := by decide
      clear hA31 hu31 h31 hhr hur hAW
      go_wp2_with (refine wpList_storeHash (.tmp 2) (.tmp 17) rfl rfl ha (nameS n) Hash.zero rfl (by first | rfl | simp [Act.eval, Act.put, hr31]) HA.out ?_; intro wz hhz huz)
      refine bodyPost_ret (results_cell_row rfl _ _ ha 38 (nameS n).arr (0, 0) _ rfl hhz Tryz.underlying38 rfl (by rw [size_Hash]; simp)) rfl ⟨rfl, ?_⟩
      have hb1 := HU.out.below hbW.size (fun i e => by have e2 : i = hb := e; omega)
      exact hbW.trans (hb1.trans (huz.below (Nat.le_trans hbW.size HU.out.size) (fun i e => by have e2 : i = ha := e; omega)))
end Go.Proofs.YtlkojkjeklblkaaGreat
