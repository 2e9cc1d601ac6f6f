/- Contracts of package coraclealike, continued: letters. -/
import Derived.Test.YtkiindgcbpkddaaConv
import Derived.Test.YtkiindgcbpkddaaAlike
set_option linter.unusedSimpArgs false
set_option linter.unusedVariables false
namespace Go.Proofs.Ytkiindgcbpkddaa
open Go.RowKit
/-- So many small letters, of a number. -/
def lettersL (size : Nat) (n : Int) : List UInt8 := (List.range size).map fun (i : Nat) => UInt8.ofNat (97 + (roundS (3 * n + 5 * (i : Int)) 26).toNat)
theorem lettersL_length (size : Nat) (n : Int) : (lettersL size n).length = size := by simp [lettersL]
theorem lettersL_get (size : Nat) (n : Int) (k : Nat) (h : k < size) : (lettersL size n)[k]'(by rw [lettersL_length]; exact h) = UInt8.ofNat (97 + (roundS (3 * n + 5 * (k : Int)) 26).toNat) := by simp [lettersL]
/-- The first k bytes, zeros behind them. -/
def partB (l : List UInt8) (k : Nat) : List UInt8 := l.take k ++ List.replicate (l.length - k) 0
theorem partB_all (l : List UInt8) : partB l l.length = l := by simp [partB]
theorem partB_set (l : List UInt8) (k : Nat) (hk : k < l.length) (v : Value) (hv : v = byteV l[k]) : (byteVs (partB l k)).toArray.setIfInBounds k v = (byteVs (partB l (k + 1))).toArray := by
  subst hv
  apply Array.ext'
  apply List.ext_getElem?
  intro j
  simp only [Array.toList_setIfInBounds, byteVs, partB, List.getElem?_set, List.length_map, List.length_append, List.length_take, List.length_replicate, List.getElem?_map, List.getElem?_append, List.getElem?_take, List.getElem?_replicate, Nat.min_eq_left (Nat.le_of_lt hk), Nat.min_eq_left (show k + 1 ≤ l.length by omega)]
  by_cases e : k = j
  · subst e
    rw [if_pos rfl, if_pos (by omega), if_pos (by omega), if_pos (by omega), List.getElem?_eq_getElem (by omega)]; rfl
  · rw [if_neg e]
    by_cases hj : j < k
    · rw [if_pos hj, if_pos hj, if_pos (by omega), if_pos (by omega)]
    · rw [if_neg hj, if_neg (show ¬ j < k + 1 by omega)]
      by_cases h32 : j < l.length
      · rw [if_pos (by omega), if_pos (by omega)]
      · rw [if_neg (by omega), if_neg (by omega)]
set_option maxRecDepth 100000 in
set_option maxHeartbeats 1000000 in
theorem letters_al (size : Nat) (n : Int) (hs : size ≤ 100000) (hn : -1000000000 ≤ n ∧ n ≤ 1000000000) (w : World) :
    Calls Try.prog 143 #[.int .i64 size, .int .i64 n] w fun e w' => e = .returned (.string ⟨(lettersL size n).toArray⟩) ∧ Below w.heap.size w w' := by
  obtain ⟨i0, hi0, hz0, hz1, hz2⟩ := info_parts Try.info5
  go_enter Try.func143, Try.ntmps143
  go_wp2_with (at_make; refine wpList_make_full _ rfl (.tmp 7) (.tmp 7) 102 rfl w.heap.size 5 i0 (.int .u8 0) 1 Try.underlying102 hi0 hz0 hz1 .i64 .i64 size size size rfl rfl rfl rfl (by rw [hz2]; omega) (by unfold maxLen; omega) (Nat.le_refl _) ?_; intro W hown hgrow)
  obtain ⟨l, hl⟩ : ∃ l, l = lettersL size n := ⟨_, rfl⟩
  have hll : l.length = size := by rw [hl, lettersL_length]
  obtain ⟨hb, hhb⟩ : ∃ hb, hb = w.heap.size := ⟨_, rfl⟩
  rw [← hhb]
  have hH : W.heap[hb]? = some (.cells (byteVs (partB l 0)).toArray 5 (0, 0)) := by
    rcases hown.2 with ⟨hv, _⟩ | ⟨g, cap, cur, hv, hg, hh, hn', hm, hsz, ht⟩
    · cases hv
    · cases hv
      rw [hhb, hh]
      congr 2
      apply Array.ext'
      have : cur.toList.take (size * 1) = cur.toList := List.take_of_length_le (by simp [hsz])
      rw [this] at ht
      rw [ht]
      simp [madeCells, partB, byteVs, hll, Value.cells, byteV]
      rw [List.eq_replicate_iff]
      refine ⟨by simp, fun b hb => ?_⟩
      simp only [List.mem_map, List.mem_range] at hb
      obtain ⟨a, _, rfl⟩ := hb
      simp [Nat.mod_one]
  have hbW : Below w.heap.size w W := ⟨hgrow.os, hgrow.tape, hgrow.output, hgrow.size, fun k hk => hgrow.block k hk (by simp)⟩
  have HL := Lib.hid hl
  have hge : w.heap.size ≤ hb := by omega
  clear hown hgrow hl hhb
  go_loopw [6] (fun v wr => ∃ k : Nat, k ≤ size ∧ v = .int .i64 k ∧ Upd W wr (fun i => i = hb) ∧ wr.heap[hb]? = some (.cells (byteVs (partB l k)).toArray 5 (0, 0))) (fun v _ => size - (intOf v).toNat)
  case atStart => exact ⟨0, by omega, rfl, Upd.refl _ _, hH⟩
  case round =>
    obtain ⟨k, hk, rfl, hur, hhr⟩ := hrel
    clear hH
    by_cases hlt : k < size
    · obtain ⟨r, hr⟩ : ∃ r, r = roundS (3 * n + 5 * (k : Int)) 26 := ⟨_, rfl⟩
      have hr0 : 0 ≤ r ∧ r < 26 := by rw [hr]; unfold roundS; omega
      obtain ⟨r0, r1⟩ := hr0
      have ch := (cells_known hhr).1
      have fh := (cells_known hhr).2.1
      have hset := partB_set l k (by omega) (.int .u8 (97 + r)) (by
        have hl := HL.out
        subst hl
        rw [lettersL_get _ _ _ hlt, ← hr, byteV_ofNat]
        congr 1; omega)
      have hsz : (byteVs (partB l k)).length = size := by rw [byteVs_length]; simp [partB]; omega
      have hcell : (wr.cell? ⟨hb, k, none⟩).isSome = true := by rw [ch]; simp [hsz, hlt]
      obtain ⟨x, hx⟩ := Option.isSome_iff_exists.1 hcell
      have HSET := Lib.hid hset
      have HR := Lib.hid hr
      clear hset hr ch hsz hcell
      obtain ⟨n1, n2⟩ := hn
      go_wp2_with (go_at_call 29; refine (round_al (3 * n + 5 * (k : Int)) 26 (by omega) (by decide) (by decide) _).mono ?_; rintro e w' ⟨rfl, rfl⟩; rw [← HR.out])
      go_roundw
      case rel =>
        refine ⟨k + 1, by omega, by go_num, hur.trans (Upd.setCell wr ⟨hb, k, none⟩ _) (fun _ _ h => h), ?_⟩
        rw [heap_set hhr, HSET.out]
      case measure => simp [intOf]; omega
    · have hk8 : k = l.length := by omega
      subst hk8
      rw [partB_all] at hhr
      have hby : bytesAt wr ⟨some ⟨hb, 0, none⟩, size, size⟩ l wr.heap.size := by
        refine ⟨hll.symm, fun _ => ⟨hb, 0, rfl, (cells_known hhr).2.2, fun j hj => ?_⟩⟩
        rw [(cells_known hhr).1, Nat.zero_add]
        simp [byteVs, hj]
      have HBY := Lib.hid hby
      clear hby hhr
      go_wp2_with (refine wpList_str (.tmp 25) rfl rfl ⟨some ⟨hb, 0, none⟩, size, size⟩ l _ rfl HBY.out ?_)
      go_ret
      exact ⟨by rw [HL.out]; rfl, hbW.trans (hur.below hbW.size (fun i e => by have e2 : i = hb := e; omega))⟩
end Go.Proofs.Ytkiindgcbpkddaa
