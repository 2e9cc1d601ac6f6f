/- Package coraclelaw8: a record said, whatever its numbers; records behind a turn; a turn at a log. -/
import Derived.Test.YtkiindgcbpkddaaWalO
import Derived.Test.YtkiindgcbpkddaaLetters
set_option linter.unusedSimpArgs false
set_option linter.unusedVariables false
namespace Go.Proofs.Ytkiindgcbpkddaa
open Go.RowKit
theorem wrap64_rng (x : Int) : -9223372036854775808 ≤ wrap64 x ∧ wrap64 x ≤ 9223372036854775807 := by unfold wrap64; omega
def lettersW (size : Nat) (n : Int) : List UInt8 := (List.range size).map fun (i : Nat) => UInt8.ofNat (97 + (roundS (wrap64 (wrap64 (3 * n) + 5 * (i : Int))) 26).toNat)
theorem lettersW_length (size : Nat) (n : Int) : (lettersW size n).length = size := by simp [lettersW]
theorem lettersW_get (size : Nat) (n : Int) (k : Nat) (h : k < size) : (lettersW size n)[k]'(by rw [lettersW_length]; exact h) = UInt8.ofNat (97 + (roundS (wrap64 (wrap64 (3 * n) + 5 * (k : Int))) 26).toNat) := by simp [lettersW]
set_option maxRecDepth 100000 in
set_option maxHeartbeats 1000000 in
theorem letters_wide (size : Nat) (n : Int) (hs : size ≤ 100000) (w : World) :
    Calls Try.prog 143 #[.int .i64 size, .int .i64 n] w fun e w' => e = .returned (.string ⟨(lettersW size n).toArray⟩) ∧ Below w.heap.size w w' := by
  obtain ⟨i0, hi0, hz0, hz1, hz2⟩ := info_parts Try.info5
  go_enter Try.func143, Try.ntmps143
  go_wp2_with (at_make; refine wpList_make_full _ rfl (.tmp 7) (.tmp 7) 102 rfl w.heap.size 5 i0 (.int .u8 0) 1 Try.underlying102 hi0 hz0 hz1 .i64 .i64 size size size rfl rfl rfl rfl (by rw [hz2]; omega) (by unfold maxLen; omega) (Nat.le_refl _) ?_; intro W hown hgrow)
  obtain ⟨l, hl⟩ : ∃ l, l = lettersW size n := ⟨_, rfl⟩
  have hll : l.length = size := by rw [hl, lettersW_length]
  obtain ⟨hb, hhb⟩ : ∃ hb, hb = w.heap.size := ⟨_, rfl⟩
  rw [← hhb]
  have hH : W.heap[hb]? = some (.cells (byteVs (partB l 0)).toArray 5 (0, 0)) := by
    rcases hown.2 with ⟨hv, _⟩ | ⟨g, cap, cur, hv, hg, hh, hn', hm, hsz, ht⟩
    · cases hv
    · cases hv
      rw [hhb, hh]
      congr 2
      apply Array.ext'
      have : cur.toList.take (size * 1) = cur.toList := List.take_of_length_le (by simp [hsz])
      rw [this] at ht
      rw [ht]
      simp [madeCells, partB, byteVs, hll, Value.cells, byteV]
      rw [List.eq_replicate_iff]
      refine ⟨by simp, fun b hb => ?_⟩
      simp only [List.mem_map, List.mem_range] at hb
      obtain ⟨a, _, rfl⟩ := hb
      simp [Nat.mod_one]
  have hbW : Below w.heap.size w W := ⟨hgrow.os, hgrow.tape, hgrow.output, hgrow.size, fun k hk => hgrow.block k hk (by simp)⟩
  have HL := Lib.hid hl
  have hge : w.heap.size ≤ hb := by omega
  clear hown hgrow hl hhb
  go_loopw [6] (fun v wr => ∃ k : Nat, k ≤ size ∧ v = .int .i64 k ∧ Upd W wr (fun i => i = hb) ∧ wr.heap[hb]? = some (.cells (byteVs (partB l k)).toArray 5 (0, 0))) (fun v _ => size - (intOf v).toNat)
  case atStart => exact ⟨0, by omega, rfl, Upd.refl _ _, hH⟩
  case round =>
    obtain ⟨k, hk, rfl, hur, hhr⟩ := hrel
    clear hH
    by_cases hlt : k < size
    · obtain ⟨y, hy⟩ : ∃ y, y = wrap64 (wrap64 (3 * n) + 5 * (k : Int)) := ⟨_, rfl⟩
      obtain ⟨r, hr⟩ : ∃ r, r = roundS y 26 := ⟨_, rfl⟩
      have hr0 : 0 ≤ r ∧ r < 26 := by rw [hr]; unfold roundS; omega
      obtain ⟨r0, r1⟩ := hr0
      have ch := (cells_known hhr).1
      have fh := (cells_known hhr).2.1
      have hset := partB_set l k (by omega) (.int .u8 (97 + r)) (by
        have hl := HL.out
        subst hl
        rw [lettersW_get _ _ _ hlt, ← hy, ← hr, byteV_ofNat]
        congr 1; omega)
      have hsz : (byteVs (partB l k)).length = size := by rw [byteVs_length]; simp [partB]; omega
      have hcell : (wr.cell? ⟨hb, k, none⟩).isSome = true := by rw [ch]; simp [hsz, hlt]
      obtain ⟨x, hx⟩ := Option.isSome_iff_exists.1 hcell
      have HSET := Lib.hid hset
      have HR := Lib.hid hr
      clear hset hr ch hsz hcell
      have hyr := wrap64_rng (wrap64 (3 * n) + 5 * (k : Int))
      rw [← hy] at hyr
      have HY := Lib.hid hy
      clear hy
      go_wp2_with (go_at_call 29; rw [← HY.out]; refine (round_al y 26 hyr (by decide) (by decide) _).mono ?_; rintro e w' ⟨rfl, rfl⟩; rw [← HR.out])
      go_roundw
      case rel =>
        refine ⟨k + 1, by omega, by go_num, hur.trans (Upd.setCell wr ⟨hb, k, none⟩ _) (fun _ _ h => h), ?_⟩
        rw [heap_set hhr, HSET.out]
      case measure => simp [intOf]; omega
    · have hk8 : k = l.length := by omega
      subst hk8
      rw [partB_all] at hhr
      have hby : bytesAt wr ⟨some ⟨hb, 0, none⟩, size, size⟩ l wr.heap.size := by
        refine ⟨hll.symm, fun _ => ⟨hb, 0, rfl, (cells_known hhr).2.2, fun j hj => ?_⟩⟩
        rw [(cells_known hhr).1, Nat.zero_add]
        simp [byteVs, hj]
      have HBY := Lib.hid hby
      clear hby hhr
      go_wp2_with (refine wpList_str (.tmp 25) rfl rfl ⟨some ⟨hb, 0, none⟩, size, size⟩ l _ rfl HBY.out ?_)
      go_ret
      exact ⟨by rw [HL.out]; rfl, hbW.trans (hur.below hbW.size (fun i e => by have e2 : i = hb := e; omega))⟩
/-- A record. -/
def saidS (n m : Int) : List UInt8 := lettersW (roundS m 400).toNat n
theorem saidS_le (n m : Int) : (saidS n m).length ≤ 400 := by
  have := Int.emod_lt_of_pos m (show (0 : Int) < 400 by decide)
  unfold saidS; rw [lettersW_length]; unfold roundS; omega
/-- Bytes in a block of bytes, marked or not. -/
def typedB (w : World) (B : Nat) (s : Sl) (l : List UInt8) : Prop := s.n = l.length ∧ s.n ≤ s.c ∧ ∃ b cur fr, s.a = some ⟨b, 0, none⟩ ∧ B ≤ b ∧ w.heap[b]? = some (.cells cur 5 fr) ∧ ∀ k (h : k < l.length), cur[k]? = some (byteV l[k])
theorem typedB.z {w : World} {B : Nat} {s : Sl} {l : List UInt8} (h : typedB w B s l) : bytesZ w (fun k => B ≤ k) s l := by
  obtain ⟨h1, h2, b, cur, fr, ha, hb, hh, hc⟩ := h
  refine ⟨h1, h2, fun _ => ⟨b, 0, ha, hb, (Array.getElem?_eq_some_iff.1 hh).1, fun k hk => ?_⟩⟩
  rw [Nat.zero_add]
  simp only [World.cell?, hh]
  simpa using hc k hk
theorem typed_bytes (w : World) (l : List UInt8) : ∃ w' c, (convert 9 102 (.string ⟨l.toArray⟩)).run Try.prog w = .ok (.slice (some ⟨w.heap.size, 0, none⟩) l.length c) w' ∧ Below w.heap.size w w' ∧ typedB w' w.heap.size ⟨some ⟨w.heap.size, 0, none⟩, l.length, c⟩ l := by
  have hsz : (⟨l.toArray⟩ : ByteArray).size = l.length := rfl
  have hrun := run_bytes_of_string w 9 102 5 ⟨l.toArray⟩ Try.underlying9 Try.underlying102 Try.underlying5
  refine ⟨_, _, hrun, ((Below.refl w.heap.size w).drew).alloc (by simp) _, rfl, grownCap_ge _ _ _ _, w.heap.size, _, _, rfl, Nat.le_refl _, heap_alloc_new w.drew _, fun k hk => ?_⟩
  simp [bytesRow, Array.getElem?_append, byteV, hk]
set_option maxRecDepth 100000 in
theorem said_8 (n m : Int) (hm : i64 m) (w : World) : Calls Try.prog 95 #[.int .i64 n, .int .i64 m] w fun e w' => ∃ s : Sl, e = .returned (.slice s.a s.n s.c) ∧ typedB w' w.heap.size s (saidS n m) ∧ Below w.heap.size w w' := by
  obtain ⟨r, hr⟩ : ∃ r : Nat, (r : Int) = roundS m 400 := ⟨(roundS m 400).toNat, by unfold roundS; omega⟩
  have hr4 : r ≤ 400 := by unfold roundS at hr; omega
  have hrd := round_al m 400 hm (by decide) (by decide) w
  rw [← hr] at hrd
  have hS : Hid (saidS n m = lettersW r n) := by unfold Hid saidS; rw [← hr, Int.toNat_natCast]
  clear hr
  go_enter Try.func95, Try.ntmps95
  go_wp2_with fail
  refine hrd.mono ?_
  rintro e w1 ⟨rfl, rfl⟩
  go_wp2_with fail
  refine (letters_wide r n (by omega) w).mono ?_
  rintro e w2 ⟨rfl, hb⟩
  obtain ⟨W, c, hrun, hbW, hty⟩ := typed_bytes w2 (lettersW r n)
  have HB := Lib.hid (hb.trans (hbW.mono hb.size))
  have hcz : typedB W w.heap.size ⟨some ⟨w2.heap.size, 0, none⟩, (lettersW r n).length, c⟩ (lettersW r n) := by
    obtain ⟨h1, h2, b, cur, fr, e1, e2, e3, e4⟩ := hty
    exact ⟨h1, h2, b, cur, fr, e1, Nat.le_trans hb.size e2, e3, e4⟩
  have HC := Lib.hid hcz
  clear hrd hb hbW hty hcz
  go_wp2_with fail
  go_ret
  exact ⟨⟨some ⟨w2.heap.size, 0, none⟩, (lettersW r n).length, c⟩, rfl, by rw [hS.out]; exact HC.out, HB.out⟩
end Go.Proofs.Ytkiindgcbpkddaa
