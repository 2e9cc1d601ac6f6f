/- Contracts of package num: a number as bytes. Contracts of package num, continued: what is written with numbers, hashes, outpoints, scripts. Ghost owners: which thing each block belongs to; what is nobody's stays. -/
import Derived.Test.YtlkojkjeklblkaaGreatTxC
set_option linter.unusedSimpArgs false
set_option linter.unusedVariables false
namespace Go.Proofs.YtlkojkjeklblkaaGreat
open Go.RowKit
theorem Tryz.info5 : (Tryz.prog.info? 5).map (fun i => (i.zero, i.size, i.bytes)) = some (some (.int .u8 0), 1, 1) := by kernel_rfl
/-- Bytes as cells. -/
def byteVs (l : List UInt8) : List Value := l.map byteV
theorem byteVs_length (l : List UInt8) : (byteVs l).length = l.length := by simp [byteVs]
theorem byteVs_append (l m : List UInt8) : byteVs (l ++ m) = byteVs l ++ byteVs m := by simp [byteVs]
theorem byteVs_get {l : List UInt8} {k : Nat} (h : k < l.length) : (byteVs l)[k]? = some (byteV l[k]) := by simp [byteVs, h]
theorem one_byteVs (l : List UInt8) : ∀ u ∈ byteVs l, u.oneCell' = true := by
  intro u hu; simp [byteVs] at hu; obtain ⟨b, _, rfl⟩ := hu; rfl
/-- The k lowest bytes of n, the lowest first. -/
def leBytes (k n : Nat) : List UInt8 := (List.range k).map fun i => UInt8.ofNat (n / 256 ^ i)
theorem leBytes_length (k n : Nat) : (leBytes k n).length = k := by simp [leBytes]
theorem leBytes_succ (k n : Nat) : leBytes (k + 1) n = leBytes k n ++ [UInt8.ofNat (n / 256 ^ k)] := by simp [leBytes, List.range_succ]
/-- A number's bytes (chapter 1). -/
def putS (n : Nat) : List UInt8 :=
  if n < 253 then [UInt8.ofNat n] else if n < 65536 then 253 :: leBytes 2 n else if n < 4294967296 then 254 :: leBytes 4 n else 255 :: leBytes 8 n
theorem putS_pos (n : Nat) : 0 < (putS n).length := by unfold putS; split; simp; split; simp; split <;> simp
theorem putS_le (n : Nat) : (putS n).length ≤ 9 := by unfold putS; split; simp; split; simp [leBytes_length]; split <;> simp [leBytes_length]
theorem wrap_u8 (n : Nat) : IntKind.u8.wrap (n : Int) = ((n % 256 : Nat) : Int) := by simp [IntKind.wrap, IntKind.bits, IntKind.signed]
theorem byteV_ofNat (n : Nat) : byteV (UInt8.ofNat n) = .int .u8 ((n % 256 : Nat) : Int) := by simp [byteV, UInt8.toNat_ofNat']
/-- A slice of bytes in new memory comes back. -/
def RetBytes (w : World) (l : List UInt8) (e : Ending) (w' : World) : Prop :=
  ∃ a c, e = .returned (.slice (some a) l.length c) ∧ w'.ownsRow w.heap.size 5 1 (.slice (some a) l.length c) l.length (byteVs l) ∧ Below w.heap.size w w'
set_option maxRecDepth 100000 in
set_option maxHeartbeats 1000000 in
theorem size_num (m : Int) (r : Int) (hr : r = if m = 253 then 2 else if m = 254 then 4 else if m = 255 then 8 else 0) (w : World) :
    Calls Tryz.prog 197 #[.int .u8 m] w fun e w' => e = .returned (.int .i64 r) ∧ w = w' := by
  go_enter Tryz.func197, Tryz.ntmps197
  go_wp2
  all_goals
    go_ret
    refine ⟨ret_int ?_, rfl⟩
    simp_all
set_option maxRecDepth 100000 in
set_option maxHeartbeats 1000000 in
theorem put_small (n : Nat) (hn : n < 253) (w : World) : Calls Tryz.prog 165 #[.int .i64 n] w (RetBytes w (putS n)) := by
  go_enter Tryz.func165, Tryz.ntmps165
  go_wp2_with fail
  go_ret
  have hp : putS n = [UInt8.ofNat n] := by simp [putS, hn]
  rw [hp]
  refine ⟨⟨w.heap.size, 0, none⟩, 1, rfl, ?_, (Below.refl _ _).alloc (Nat.le_refl _) _⟩
  have := World.ownsRow_lit (e := 5) (size := 1) w #[.int .u8 (n : Int)] 1 (Nat.le_refl _) (by decide) rfl
  simpa [byteVs, byteV_ofNat, Nat.mod_eq_of_lt (show n < 256 by omega)] using this
set_option maxRecDepth 100000 in
set_option maxHeartbeats 1000000 in
theorem put_two (n : Nat) (t1 : decide ((n : Int) < 0) = false) (t2 : decide ((4611686018427387904 : Int) < n) = false) (t3 : decide ((n : Int) < 253) = false) (t4 : decide ((n : Int) < 65536) = true) (t5 : decide ((n : Int) < 4294967296) = true) (w : World) :
    Calls Tryz.prog 165 #[.int .i64 n] w (RetBytes w (253 :: leBytes 2 n)) := by
  obtain ⟨i0, hi0, hz0, hz1, hz2⟩ := info_parts Tryz.info5
  go_enter Tryz.func165, Tryz.ntmps165
  go_wp2_with (go_at_call 197; refine (size_num _ 2 (by rfl) _).mono ?_; rintro e w' ⟨rfl, rfl⟩)
  go_loopw [0, 2, 27] (fun q v i wr => ∃ j x : Nat, j ≤ 2 ∧ i = .int .i64 j ∧ q = .int .i64 x ∧ Hid (x = n / 256 ^ j) ∧ wr.ownsRow w.heap.size 5 1 v (1 + j) (byteVs (253 :: leBytes j n)) ∧ Below w.heap.size w wr ∧ v ≠ .slice none 0 0) (fun _ _ i _ => 2 - (intOf i).toNat)
  case atStart => exact ⟨0, n, Nat.zero_le _, rfl, rfl, by simp [Hid], World.ownsRow_lit (e := 5) (size := 1) w #[.int .u8 253] 1 (Nat.le_refl _) (by decide) rfl, (Below.refl _ _).alloc (Nat.le_refl _) _, by simp⟩
  case round =>
    obtain ⟨j, x, hj, rfl, rfl, hx, hown, hbw, hnn⟩ := hrel
    have hz := hbw.size
    clear t1 t2 t3 t4 t5
    by_cases hlt : j < 2
    · go_wp2_with (at_builtin; refine wpList_append_own _ rfl _ _ 137 rfl w.heap.size 5 i0 (.int .u8 0) 1 1 Tryz.underlying137 hi0 hz0 hz1 hz2 rfl (by decide) _ _ _ rfl (hown.alloc _) ⟨wr.heap.size, 0, none⟩ 1 1 [.int .u8 (IntKind.u8.wrap (x : Int))] rfl rfl (cell_one_new _ _ _) (by simp [Value.oneCell']) (by unfold maxLen; omega) (by omega) (by simp; omega) ?_)
      intro v' w4 hown4 hgrow4 hnil
      have hb4 : Below w.heap.size w w4 := (hbw.alloc hz _).grown hgrow4 (by simp; omega) (fun k hk => (hown.lt k hk).1)
      have hown5 : w4.ownsRow w.heap.size 5 1 v' (1 + (j + 1)) (byteVs (253 :: leBytes (j + 1) n)) := by
        have hx' : x = n / 256 ^ j := hx.out
        rw [leBytes_succ, ← hx', ← List.cons_append, byteVs_append]
        have e : byteVs [UInt8.ofNat x] = [.int .u8 (IntKind.u8.wrap (x : Int))] := by simp [byteVs, byteV_ofNat, wrap_u8]
        rw [e]
        exact hown4
      have hnn4 : v' ≠ .slice none 0 0 := hnil
      have hx2 : Hid (x / 256 = n / 256 ^ (j + 1)) := by unfold Hid; rw [hx.out, Nat.pow_succ, Nat.div_div_eq_div_mul]
      clear hown4 hgrow4 hown hnil hnn
      go_wp2_with fail
      go_roundw
      case rel => exact ⟨j + 1, x / 256, by omega, by go_num, by go_num, hx2, hown5, hb4, hnn4⟩
      case measure => simp [intOf]; omega
    · have : j = 2 := by omega
      subst this
      go_wp2_with fail
      go_ret
      obtain ⟨a, c, hv, hc, hg⟩ := ownsRow_slice hown
      obtain ⟨g, rfl, -, -⟩ := hg (by omega)
      subst hv
      have hl : ∀ m : UInt8, (m :: leBytes 2 n).length = 1 + 2 := fun m => by simp [leBytes_length]
      exact ⟨⟨g, 0, none⟩, c, by rw [hl]; rfl, by rw [hl]; exact hown, hbw⟩
set_option maxRecDepth 100000 in
set_option maxHeartbeats 1000000 in
theorem put_four (n : Nat) (t1 : decide ((n : Int) < 0) = false) (t2 : decide ((4611686018427387904 : Int) < n) = false) (t3 : decide ((n : Int) < 253) = false) (t4 : decide ((n : Int) < 65536) = false) (t5 : decide ((n : Int) < 4294967296) = true) (w : World) :
    Calls Tryz.prog 165 #[.int .i64 n] w (RetBytes w (254 :: leBytes 4 n)) := by
  obtain ⟨i0, hi0, hz0, hz1, hz2⟩ := info_parts Tryz.info5
  go_enter Tryz.func165, Tryz.ntmps165
  go_wp2_with (go_at_call 197; refine (size_num _ 4 (by rfl) _).mono ?_; rintro e w' ⟨rfl, rfl⟩)
  go_loopw [0, 2, 27] (fun q v i wr => ∃ j x : Nat, j ≤ 4 ∧ i = .int .i64 j ∧ q = .int .i64 x ∧ Hid (x = n / 256 ^ j) ∧ wr.ownsRow w.heap.size 5 1 v (1 + j) (byteVs (254 :: leBytes j n)) ∧ Below w.heap.size w wr ∧ v ≠ .slice none 0 0) (fun _ _ i _ => 4 - (intOf i).toNat)
  case atStart => exact ⟨0, n, Nat.zero_le _, rfl, rfl, by simp [Hid], World.ownsRow_lit (e := 5) (size := 1) w #[.int .u8 254] 1 (Nat.le_refl _) (by decide) rfl, (Below.refl _ _).alloc (Nat.le_refl _) _, by simp⟩
  case round =>
    obtain ⟨j, x, hj, rfl, rfl, hx, hown, hbw, hnn⟩ := hrel
    have hz := hbw.size
    clear t1 t2 t3 t4 t5
    by_cases hlt : j < 4
    · go_wp2_with (at_builtin; refine wpList_append_own _ rfl _ _ 137 rfl w.heap.size 5 i0 (.int .u8 0) 1 1 Tryz.underlying137 hi0 hz0 hz1 hz2 rfl (by decide) _ _ _ rfl (hown.alloc _) ⟨wr.heap.size, 0, none⟩ 1 1 [.int .u8 (IntKind.u8.wrap (x : Int))] rfl rfl (cell_one_new _ _ _) (by simp [Value.oneCell']) (by unfold maxLen; omega) (by omega) (by simp; omega) ?_)
      intro v' w4 hown4 hgrow4 hnil
      have hb4 : Below w.heap.size w w4 := (hbw.alloc hz _).grown hgrow4 (by simp; omega) (fun k hk => (hown.lt k hk).1)
      have hown5 : w4.ownsRow w.heap.size 5 1 v' (1 + (j + 1)) (byteVs (254 :: leBytes (j + 1) n)) := by
        have hx' : x = n / 256 ^ j := hx.out
        rw [leBytes_succ, ← hx', ← List.cons_append, byteVs_append]
        have e : byteVs [UInt8.ofNat x] = [.int .u8 (IntKind.u8.wrap (x : Int))] := by simp [byteVs, byteV_ofNat, wrap_u8]
        rw [e]
        exact hown4
      have hnn4 : v' ≠ .slice none 0 0 := hnil
      have hx2 : Hid (x / 256 = n / 256 ^ (j + 1)) := by unfold Hid; rw [hx.out, Nat.pow_succ, Nat.div_div_eq_div_mul]
      clear hown4 hgrow4 hown hnil hnn
      go_wp2_with fail
      go_roundw
      case rel => exact ⟨j + 1, x / 256, by omega, by go_num, by go_num, hx2, hown5, hb4, hnn4⟩
      case measure => simp [intOf]; omega
    · have : j = 4 := by omega
      subst this
      go_wp2_with fail
      go_ret
      obtain ⟨a, c, hv, hc, hg⟩ := ownsRow_slice hown
      obtain ⟨g, rfl, -, -⟩ := hg (by omega)
      subst hv
      have hl : ∀ m : UInt8, (m :: leBytes 4 n).length = 1 + 4 := fun m => by simp [leBytes_length]
      exact ⟨⟨g, 0, none⟩, c, by rw [hl]; rfl, by rw [hl]; exact hown, hbw⟩
set_option maxRecDepth 100000 in
set_option maxHeartbeats 1000000 in
theorem put_eight (n : Nat) (t1 : decide ((n : Int) < 0) = false) (t2 : decide ((4611686018427387904 : Int) < n) = false) (t3 : decide ((n : Int) < 253) = false) (t4 : decide ((n : Int) < 65536) = false) (t5 : decide ((n : Int) < 4294967296) = false) (w : World) :
    Calls Tryz.prog 165 #[.int .i64 n] w (RetBytes w (255 :: leBytes 8 n)) := by
  obtain ⟨i0, hi0, hz0, hz1, hz2⟩ := info_parts Tryz.info5
  go_enter Tryz.func165, Tryz.ntmps165
  go_wp2_with (go_at_call 197; refine (size_num _ 8 (by rfl) _).mono ?_; rintro e w' ⟨rfl, rfl⟩)
  go_loopw [0, 2, 27] (fun q v i wr => ∃ j x : Nat, j ≤ 8 ∧ i = .int .i64 j ∧ q = .int .i64 x ∧ Hid (x = n / 256 ^ j) ∧ wr.ownsRow w.heap.size 5 1 v (1 + j) (byteVs (255 :: leBytes j n)) ∧ Below w.heap.size w wr ∧ v ≠ .slice none 0 0) (fun _ _ i _ => 8 - (intOf i).toNat)
  case atStart => exact ⟨0, n, Nat.zero_le _, rfl, rfl, by simp [Hid], World.ownsRow_lit (e := 5) (size := 1) w #[.int .u8 255] 1 (Nat.le_refl _) (by decide) rfl, (Below.refl _ _).alloc (Nat.le_refl _) _, by simp⟩
  case round =>
    obtain ⟨j, x, hj, rfl, rfl, hx, hown, hbw, hnn⟩ := hrel
    have hz := hbw.size
    clear t1 t2 t3 t4 t5
    by_cases hlt : j < 8
    · go_wp2_with (at_builtin; refine wpList_append_own _ rfl _ _ 137 rfl w.heap.size 5 i0 (.int .u8 0) 1 1 Tryz.underlying137 hi0 hz0 hz1 hz2 rfl (by decide) _ _ _ rfl (hown.alloc _) ⟨wr.heap.size, 0, none⟩ 1 1 [.int .u8 (IntKind.u8.wrap (x : Int))] rfl rfl (cell_one_new _ _ _) (by simp [Value.oneCell']) (by unfold maxLen; omega) (by omega) (by simp; omega) ?_)
      intro v' w4 hown4 hgrow4 hnil
      have hb4 : Below w.heap.size w w4 := (hbw.alloc hz _).grown hgrow4 (by simp; omega) (fun k hk => (hown.lt k hk).1)
      have hown5 : w4.ownsRow w.heap.size 5 1 v' (1 + (j + 1)) (byteVs (255 :: leBytes (j + 1) n)) := by
        have hx' : x = n / 256 ^ j := hx.out
        rw [leBytes_succ, ← hx', ← List.cons_append, byteVs_append]
        have e : byteVs [UInt8.ofNat x] = [.int .u8 (IntKind.u8.wrap (x : Int))] := by simp [byteVs, byteV_ofNat, wrap_u8]
        rw [e]
        exact hown4
      have hnn4 : v' ≠ .slice none 0 0 := hnil
      have hx2 : Hid (x / 256 = n / 256 ^ (j + 1)) := by unfold Hid; rw [hx.out, Nat.pow_succ, Nat.div_div_eq_div_mul]
      clear hown4 hgrow4 hown hnil hnn
      go_wp2_with fail
      go_roundw
      case rel => exact ⟨j + 1, x / 256, by omega, by go_num, by go_num, hx2, hown5, hb4, hnn4⟩
      case measure => simp [intOf]; omega
    · have : j = 8 := by omega
      subst this
      go_wp2_with fail
      go_ret
      obtain ⟨a, c, hv, hc, hg⟩ := ownsRow_slice hown
      obtain ⟨g, rfl, -, -⟩ := hg (by omega)
      subst hv
      have hl : ∀ m : UInt8, (m :: leBytes 8 n).length = 1 + 8 := fun m => by simp [leBytes_length]
      exact ⟨⟨g, 0, none⟩, c, by rw [hl]; rfl, by rw [hl]; exact hown, hbw⟩
def OkNum (n : Int) : Prop := 0 ≤ n ∧ n ≤ 4611686018427387904
theorem put_num (n : Int) (hn : OkNum n) (w : World) : Calls Tryz.prog 165 #[.int .i64 n] w (RetBytes w (putS n.toNat)) := by
  obtain ⟨h0, h1⟩ := hn
  obtain ⟨m, rfl⟩ := Int.eq_ofNat_of_zero_le h0
  rw [Int.toNat_natCast]
  have t1 : decide ((m : Int) < 0) = false := decide_eq_false (by omega)
  have t2 : decide ((4611686018427387904 : Int) < m) = false := decide_eq_false (by omega)
  by_cases c1 : m < 253
  · exact put_small m c1 w
  have t3 : decide ((m : Int) < 253) = false := decide_eq_false (by omega)
  by_cases c2 : m < 65536
  · have := put_two m t1 t2 t3 (decide_eq_true (by omega)) (decide_eq_true (by omega)) w
    have e : putS m = 253 :: leBytes 2 m := by unfold putS; rw [if_neg c1, if_pos c2]
    rw [e]; exact this
  by_cases c3 : m < 4294967296
  · have := put_four m t1 t2 t3 (decide_eq_false (by omega)) (decide_eq_true (by omega)) w
    have e : putS m = 254 :: leBytes 4 m := by unfold putS; rw [if_neg c1, if_neg c2, if_pos c3]
    rw [e]; exact this
  · have := put_eight m t1 t2 t3 (decide_eq_false (by omega)) (decide_eq_false (by omega)) w
    have e : putS m = 255 :: leBytes 8 m := by unfold putS; rw [if_neg c1, if_neg c2, if_neg c3]
    rw [e]; exact this
end Go.Proofs.YtlkojkjeklblkaaGreat
namespace Go.Proofs.YtlkojkjeklblkaaGreat
open Go.RowKit
/-- Of the old blocks only those that meet S may have turned. -/
structure Upd (w w' : World) (S : Nat → Prop) : Prop where
  os : w'.os = w.os
  tape : w'.tape = w.tape
  output : w'.output = w.output
  size : w.heap.size ≤ w'.heap.size
  block : ∀ k, k < w.heap.size → ¬ S k → w'.heap[k]? = w.heap[k]?
theorem Upd.refl (w : World) (S : Nat → Prop) : Upd w w S := ⟨rfl, rfl, rfl, Nat.le_refl _, fun _ _ _ => rfl⟩
theorem Upd.trans {a b c : World} {S T : Nat → Prop} (h : Upd a b S) (k : Upd b c T) (hT : ∀ i, i < a.heap.size → T i → S i) : Upd a c S :=
  ⟨k.os.trans h.os, k.tape.trans h.tape, k.output.trans h.output, Nat.le_trans h.size k.size, fun i hi hs => (k.block i (Nat.lt_of_lt_of_le hi h.size) (fun ht => hs (hT i hi ht))).trans (h.block i hi hs)⟩
theorem Upd.of_below {w w' : World} (h : Below w.heap.size w w') (S : Nat → Prop) : Upd w w' S := ⟨h.os, h.tape, h.output, h.size, fun k hk _ => h.block k hk⟩
theorem Upd.below {w w' : World} {S : Nat → Prop} {B : Nat} (h : Upd w w' S) (hB : B ≤ w.heap.size) (hS : ∀ k, S k → B ≤ k) : Below B w w' :=
  ⟨h.os, h.tape, h.output, h.size, fun k hk => h.block k (by omega) (fun hs => by have := hS k hs; omega)⟩
theorem Upd.mono {w w' : World} {S T : Nat → Prop} (h : Upd w w' S) (hT : ∀ k, k < w.heap.size → S k → T k) : Upd w w' T := ⟨h.os, h.tape, h.output, h.size, fun k hk hs => h.block k hk (fun x => hs (hT k hk x))⟩
theorem Upd.setCell (w : World) (a : Addr) (u : Value) : Upd w (w.setCell a u) (fun k => k = a.block) :=
  ⟨rfl, rfl, rfl, by simp, fun k _ hs => Below.heap_setCell _ _ _ _ hs⟩
theorem Upd.grown {w w' : World} {row : Option Nat} (h : w.grownBy w' row) : Upd w w' (fun k => row = some k) := ⟨h.os, h.tape, h.output, h.size, fun k hk hs => h.block k hk (fun e => hs e.symm)⟩
theorem Upd.cell {w w' : World} {S : Nat → Prop} (h : Upd w w' S) {b : Nat} (hb : b < w.heap.size) (hs : ¬ S b) (o : Nat) : w'.cell? ⟨b, o, none⟩ = w.cell? ⟨b, o, none⟩ := World.cell?_of_block (h.block b hb hs)
theorem Upd.frozen {w w' : World} {S : Nat → Prop} (h : Upd w w' S) {b : Nat} (hb : b < w.heap.size) (hs : ¬ S b) (o : Nat) : w'.frozen? ⟨b, o, none⟩ = w.frozen? ⟨b, o, none⟩ := World.frozen?_of_block (h.block b hb hs)
theorem Upd.row {w w' : World} {S : Nat → Prop} (h : Upd w w' S) {b : Nat} (hb : b < w.heap.size) (hs : ¬ S b) (o n : Nat) : row? w' ⟨b, o, none⟩ n = row? w ⟨b, o, none⟩ n := row?_of_block (h.block b hb hs) n
theorem ownsRow_upd {w w' : World} {S : Nat → Prop} {base : Nat} {e : TypeId} {size : Nat} {v : Value} {n : Nat} {xs : List Value} (h : w.ownsRow base e size v n xs) (hu : Upd w w' S) (hs : ∀ k, v.ownBlock = some k → ¬ S k) : w'.ownsRow base e size v n xs := by
  refine ⟨h.1, ?_⟩
  rcases h.2 with h2 | ⟨g, cap, cur, hv, hg, hh, r⟩
  · exact .inl h2
  · exact .inr ⟨g, cap, cur, hv, hg, by rw [hu.block g (Array.getElem?_eq_some_iff.1 hh).1 (hs g (by rw [hv]; rfl))]; exact hh, r⟩
/-- A block that holds known cells. -/
theorem cells_known {w : World} {b : Nat} {c : Array Value} {t : TypeId} (h : w.heap[b]? = some (.cells c t (0, 0))) : (∀ o, w.cell? ⟨b, o, none⟩ = c[o]?) ∧ (∀ o, w.frozen? ⟨b, o, none⟩ = false) ∧ b < w.heap.size :=
  ⟨fun o => by simp [World.cell?, h], fun o => by simp [World.frozen?, h], (Array.getElem?_eq_some_iff.1 h).1⟩
theorem heap_set {w : World} {b : Nat} {c : Array Value} {t : TypeId} (h : w.heap[b]? = some (.cells c t (0, 0))) (i : Nat) (v : Value) : (w.setCell ⟨b, i, none⟩ v).heap[b]? = some (.cells (c.setIfInBounds i v) t (0, 0)) := by
  simp only [World.setCell, Array.getElem?_modify, if_true, h, Option.map_some]; simp
def Sl.v (s : Sl) : Value := .slice s.a s.n s.c
/-- The blocks that an Ink at p has. -/
def inkFoot (p : Nat) (s : Sl) (k : Nat) : Prop := k = p ∨ s.v.ownBlock = some k
/-- An Ink at p that holds l. -/
def inkAt (w : World) (p : Nat) (s : Sl) (l : List UInt8) (B : Nat) : Prop :=
  B ≤ p ∧ w.heap[p]? = some (.cells (InkV.mk s false).arr 221 (0, 0)) ∧ w.ownsRow B 5 1 s.v l.length (byteVs l) ∧ s.v.ownBlock ≠ some p
theorem inkAt.upd {w w' : World} {p : Nat} {s : Sl} {l : List UInt8} {B : Nat} (h : inkAt w p s l B) {S : Nat → Prop} (hu : Upd w w' S) (hs : ∀ k, inkFoot p s k → ¬ S k) : inkAt w' p s l B := by
  obtain ⟨h1, h2, h3, h4⟩ := h
  exact ⟨h1, by rw [hu.block p (cells_known h2).2.2 (hs p (.inl rfl))]; exact h2, ownsRow_upd h3 hu (fun k hk => hs k (.inr hk)), h4⟩
/-- What a call that writes with an Ink comes to. -/
def RetInk (w : World) (p : Nat) (s : Sl) (l : List UInt8) (B : Nat) (e : Ending) (w' : World) : Prop :=
  ∃ s', e = .returned (.pointer (some ⟨p, 0, none⟩)) ∧ inkAt w' p s' l B ∧ Upd w w' (inkFoot p s) ∧ ∀ k, inkFoot p s' k → inkFoot p s k ∨ w.heap.size ≤ k
/-- An Ink's bytes lengthened by others: what is behind the store. -/
theorem ink_step {w w2 w3 : World} {p : Nat} {s : Sl} {l m : List UInt8} {B : Nat} (h : inkAt w p s l B) (hB : B ≤ w.heap.size) {v' : Value} {n : Nat} (hn : n = (l ++ m).length)
    (h2 : w2.heap[p]? = some (.cells (InkV.mk s false).arr 221 (0, 0))) (hu : Upd w w2 (fun k => k = p)) (hg : w2.grownBy w3 s.v.ownBlock) (hown : w3.ownsRow B 5 1 v' n (byteVs (l ++ m)))
    (hnew : ∀ k, v'.ownBlock = some k → s.v.ownBlock = some k ∨ w2.heap.size ≤ k) :
    ∃ s' : Sl, v' = s'.v ∧ inkAt (w3.setCell ⟨p, 0, none⟩ v') p s' (l ++ m) B ∧ Upd w (w3.setCell ⟨p, 0, none⟩ v') (inkFoot p s) ∧ ∀ k, inkFoot p s' k → inkFoot p s k ∨ w.heap.size ≤ k := by
  obtain ⟨a, c, rfl, -, -⟩ := ownsRow_slice hown
  have hp2 := (cells_known h2).2.2
  have h3 : w3.heap[p]? = some (.cells (InkV.mk s false).arr 221 (0, 0)) := by rw [hg.block p hp2 (Ne.symm h.2.2.2)]; exact h2
  have hnp : ∀ k, (Value.slice a n c).ownBlock = some k → k ≠ p := fun k hk e => by
    subst e
    rcases hnew k hk with h' | h'
    · exact h.2.2.2 h'
    · omega
  refine ⟨⟨a, n, c⟩, rfl, ⟨h.1, ?_, ?_, fun e => hnp p e rfl⟩, ?_, ?_⟩
  · rw [heap_set h3, InkV.set_0]
  · subst hn
    exact ownsRow_upd hown (Upd.setCell w3 ⟨p, 0, none⟩ _) (fun k hk => hnp k hk)
  · refine ((hu.mono (T := inkFoot p s) (fun k _ hk => .inl hk)).trans (Upd.grown hg) (fun i _ hi => .inr hi)).trans (Upd.setCell _ _ _) (fun i _ hi => .inl hi)
  · intro k hk
    rcases hk with rfl | hk
    · exact .inl (.inl rfl)
    · rcases hnew k hk with h' | h'
      · exact .inl (.inr h')
      · exact .inr (Nat.le_trans hu.size h')
end Go.Proofs.YtlkojkjeklblkaaGreat
namespace Go.Proofs.YtlkojkjeklblkaaGreat
open Go.RowKit
/-- The blocks of a thing, by their owner. -/
def zn (own : Nat → Nat) (i : Nat) (k : Nat) : Prop := own k = i
/-- From a block on the owner is another one. -/
def setO (own : Nat → Nat) (n i : Nat) (k : Nat) : Nat := if k < n then own k else i
theorem setO_old {own : Nat → Nat} {n i k : Nat} (h : k < n) : setO own n i k = own k := if_pos h
theorem setO_new {own : Nat → Nat} {n i k : Nat} (h : n ≤ k) : setO own n i k = i := if_neg (by omega)
def SameO (own own' : Nat → Nat) (n : Nat) : Prop := ∀ k, k < n → own' k = own k
theorem SameO.trans {a b c : Nat → Nat} {n m : Nat} (h : SameO a b n) (g : SameO b c m) (hm : n ≤ m) : SameO a c n := fun k hk => (g k (by omega)).trans (h k hk)
/-- What was there at the beginning has no owner. -/
def Fresh (own : Nat → Nat) (n : Nat) : Prop := ∀ k, k < n → own k = 0
section
variable {own own' : Nat → Nat} {n m i j : Nat} {w w' : World}
theorem Fresh.same (h : Fresh own n) (s : SameO own own' m) (hm : n ≤ m) : Fresh own' n := fun k hk => (s k (by omega)).trans (h k hk)
theorem Fresh.setO (h : Fresh own n) (hm : n ≤ m) (i : Nat) : Fresh (setO own m i) n := fun k hk => (setO_old (by omega)).trans (h k hk)
theorem Fresh.below (h : Fresh own n) (hu : Upd w w' (fun k => own k = i)) (hi : i ≠ 0) (hn : n ≤ w.heap.size) : Below n w w' :=
  hu.below hn (fun k hk => by
    rcases Nat.lt_or_ge k n with g | g
    · exact absurd ((h k g).symm.trans hk) (fun e => hi e.symm)
    · exact g)
theorem Fresh.below2 (h : Fresh own n) (hu : Upd w w' (fun k => own k = i ∨ own k = j)) (hi : i ≠ 0) (hj : j ≠ 0) (hn : n ≤ w.heap.size) : Below n w w' :=
  hu.below hn (fun k hk => by
    rcases Nat.lt_or_ge k n with g | g
    · have h0 := h k g
      rcases hk with e | e
      · exact absurd (h0.symm.trans e) (fun e => hi e.symm)
      · exact absurd (h0.symm.trans e) (fun e => hj e.symm)
    · exact g)
end
theorem setO_zero {own : Nat → Nat} {n g : Nat} (h : own g = 0 ∨ n ≤ g) : setO own n 0 g = 0 := by
  by_cases hg : g < n
  · rw [setO_old hg]; exact h.resolve_right (by omega)
  · exact setO_new (by omega)
theorem setO_more {own : Nat → Nat} {n i g : Nat} (h : own g = i ∨ n ≤ g) : setO own n i g = i := by
  by_cases hg : g < n
  · rw [setO_old hg]; exact h.resolve_right (by omega)
  · exact setO_new (by omega)
/-- What is nobody's stays. -/
structure Keep0 (own own' : Nat → Nat) (w w' : World) : Prop where
  same : SameO own own' w.heap.size
  upd : Upd w w' (fun k => own k ≠ 0)
theorem Keep0.trans {o1 o2 o3 : Nat → Nat} {w1 w2 w3 : World} (h : Keep0 o1 o2 w1 w2) (k : Keep0 o2 o3 w2 w3) : Keep0 o1 o3 w1 w3 :=
  ⟨fun g hg => (k.same g (Nat.lt_of_lt_of_le hg h.upd.size)).trans (h.same g hg), h.upd.trans k.upd (fun g hg hn => by rw [h.same g hg] at hn; exact hn)⟩
theorem Keep0.below {own : Nat → Nat} {w w' : World} (h : Below w.heap.size w w') : Keep0 own (setO own w.heap.size 0) w w' := ⟨fun g hg => setO_old hg, Upd.of_below h _⟩
theorem Keep0.on {own : Nat → Nat} {w w' : World} (h : Below w.heap.size w w') : Keep0 own own w w' := ⟨fun g hg => rfl, Upd.of_below h _⟩
end Go.Proofs.YtlkojkjeklblkaaGreat
