/- Sums (chapter 2), continued: bytes taken in one by one; the end. No program in sight. Contracts of package sha: a byte taken in. Contracts of package sha: a sum begun, and ended. Contracts of package sha: a sum ended. Contracts of package sha: the sum of bytes, and its sum. Contracts of package sha: the sum of the sum. A transaction's number. -/
import Derived.Test.YtlkojkjeklblkaaGreatShaC
set_option linter.unusedSimpArgs false
set_option linter.unusedVariables false
namespace Go.Proofs.YtlkojkjeklblkaaGreat
def SumV.putB (s : SumV) (c : Nat) : SumV := { s with w := s.w.set (s.hv / 4) (s.w.getD (s.hv / 4) 0 ||| c * 2 ^ (24 - 8 * (s.hv % 4)) % 4294967296), hv := s.hv + 1 }
def SumV.takeB (s : SumV) (c : Nat) : SumV := if s.hv + 1 = 64 then ⟨compressS s.h ((s.putB c).w.take 16), List.replicate 64 0, 0, s.all⟩ else s.putB c
def SumV.ok (s : SumV) : Prop := s.w.length = 64 ∧ (∀ x ∈ s.w, x < 4294967296) ∧ (∀ x ∈ s.h.l, x < 4294967296) ∧ s.w.drop 16 = List.replicate 48 0 ∧ s.hv < 64
theorem SumV.putB_w {s : SumV} (h : s.ok) (c : Nat) : (s.putB c).w.length = 64 ∧ (∀ x ∈ (s.putB c).w, x < 4294967296) ∧ (s.putB c).w.drop 16 = List.replicate 48 0 := by
  obtain ⟨h1, h2, h3, h4, h5⟩ := h
  have hq : s.hv / 4 < 16 := by omega
  refine ⟨by simp [SumV.putB, h1], fun x hx => ?_, ?_⟩
  · simp only [SumV.putB] at hx
    rcases List.mem_or_eq_of_mem_set hx with hx | rfl
    · exact h2 x hx
    · refine Nat.or_lt_two_pow (n := 32) ?_ (Nat.mod_lt _ (by decide))
      have : s.hv / 4 < s.w.length := by omega
      simp only [List.getD, List.getElem?_eq_getElem this, Option.getD_some]
      exact h2 _ (List.getElem_mem this)
  · simp only [SumV.putB]
    rw [List.drop_set_of_lt hq]
    exact h4
theorem St.add_lt (s t : St) : ∀ x ∈ (s.add t).l, x < 4294967296 := by
  intro x hx
  simp only [St.l, St.add, List.mem_cons, List.not_mem_nil, or_false] at hx
  rcases hx with rfl | rfl | rfl | rfl | rfl | rfl | rfl | rfl <;> exact Nat.mod_lt _ (by decide)
theorem SumV.takeB_ok {s : SumV} (h : s.ok) (c : Nat) : (s.takeB c).ok := by
  obtain ⟨p1, p2, p3⟩ := SumV.putB_w h c
  obtain ⟨h1, h2, h3, h4, h5⟩ := h
  unfold SumV.takeB
  split
  · refine ⟨by simp, fun x hx => ?_, St.add_lt _ _, by simp, (by show (0 : Nat) < 64; decide)⟩
    rw [List.eq_of_mem_replicate hx]; decide
  · exact ⟨p1, p2, h3, p3, by simp only [SumV.putB]; omega⟩
theorem SumV.takeB_all (s : SumV) (c x : Nat) : ({ s with all := x } : SumV).takeB c = { s.takeB c with all := x } := by
  unfold SumV.takeB SumV.putB
  split <;> rfl
theorem SumV.takeB_all' (s : SumV) (c : Nat) : (s.takeB c).all = s.all := by
  unfold SumV.takeB SumV.putB
  split <;> rfl
theorem SumV.takeB_hv (s : SumV) (c : Nat) (h : s.hv < 64) : (s.takeB c).hv = (s.hv + 1) % 64 := by
  unfold SumV.takeB
  split
  · rename_i h'; show 0 = _; omega
  · show s.hv + 1 = _; omega
/-- Bytes taken in. -/
def SumV.feed (s : SumV) (l : List UInt8) : SumV := l.foldl (fun s c => s.takeB c.toNat) s
theorem SumV.feed_nil (s : SumV) : s.feed [] = s := rfl
theorem SumV.feed_append (s : SumV) (l m : List UInt8) : s.feed (l ++ m) = (s.feed l).feed m := by simp [SumV.feed]
theorem SumV.feed_one (s : SumV) (c : UInt8) : s.feed [c] = s.takeB c.toNat := rfl
theorem SumV.feed_ok {s : SumV} (h : s.ok) : ∀ l : List UInt8, (s.feed l).ok := by
  intro l
  induction l generalizing s with
  | nil => exact h
  | cons c l ih => exact ih (SumV.takeB_ok h _)
theorem SumV.feed_all (x : Nat) : ∀ (l : List UInt8) (s : SumV), ({ s with all := x } : SumV).feed l = { s.feed l with all := x }
  | [], s => rfl
  | c :: l, s => by
    show (({ s with all := x } : SumV).takeB _).feed l = _
    rw [SumV.takeB_all, SumV.feed_all x l]
    rfl
theorem SumV.feed_all' (l : List UInt8) : ∀ s : SumV, (s.feed l).all = s.all := by
  induction l with
  | nil => intro s; rfl
  | cons c l ih => intro s; exact (ih _).trans (SumV.takeB_all' _ _)
theorem SumV.feed_hv : ∀ (l : List UInt8) (s : SumV), s.ok → (s.feed l).hv = (s.hv + l.length) % 64
  | [], s, h => by have := h.2.2.2.2; simp [SumV.feed]; omega
  | c :: l, s, h => by
    show ((s.takeB c.toNat).feed l).hv = _
    rw [SumV.feed_hv l _ (SumV.takeB_ok h _), SumV.takeB_hv _ _ h.2.2.2.2]
    simp only [List.length_cons]; omega
def SumV.ini : SumV := ⟨ivS, List.replicate 64 0, 0, 0⟩
theorem SumV.ini_ok : SumV.ini.ok := by
  refine ⟨by simp [SumV.ini], fun x hx => ?_, ?_, by simp [SumV.ini], by decide⟩
  · rw [List.eq_of_mem_replicate hx]; decide
  · decide
/-- How many bytes fill a block up to its last eight, behind the mark. -/
def padN (hv : Nat) : Nat := (56 + 64 - hv) % 64
/-- The number of bits, the greatest byte first. -/
def bitsB (n : Nat) : List UInt8 := (List.range 8).map fun i => UInt8.ofNat (8 * n % 18446744073709551616 / 2 ^ (56 - 8 * i))
def SumV.ended (s : SumV) : SumV := ((s.feed [128]).feed (List.replicate (padN (s.feed [128]).hv) 0)).feed (bitsB s.all)
def hashB (h : St) : List UInt8 := (List.range 32).map fun i => UInt8.ofNat (h.l.getD (i / 4) 0 / 2 ^ (24 - 8 * (i % 4)))
theorem hashB_length (h : St) : (hashB h).length = 32 := by simp [hashB]
/-- The sum of bytes. -/
def shaS (l : List UInt8) : Hash := ⟨hashB ({ SumV.ini.feed l with all := l.length } : SumV).ended.h, hashB_length _⟩
def twiceS (l : List UInt8) : Hash := shaS (shaS l).l
end Go.Proofs.YtlkojkjeklblkaaGreat
namespace Go.Proofs.YtlkojkjeklblkaaGreat
open Go.RowKit
theorem SumV.set_w0 {X : World} {p : Nat} {s : SumV} (h : sumAt X p s) (i x : Nat) (hi : i < 64) : sumAt (X.setCell ⟨p, 8 + i, none⟩ (.int .u32 (x : Nat))) p { s with w := s.w.set i x } :=
  ⟨by rw [heap_set h.1, SumV.set_w s h.2 i x hi], by simp [h.2]⟩
set_option maxRecDepth 100000 in
set_option maxHeartbeats 1000000 in
theorem take_sha (p : Nat) (s : SumV) (c : Nat) (hc : c < 256) (w : World) (hs : sumAt w p s) (hok : s.ok) :
    Calls Tryz.prog 220 #[.pointer (some ⟨p, 0, none⟩), .int .u8 (c : Nat)] w fun e w' => e = .returned (.tuple #[]) ∧ sumAt w' p (s.takeB c) ∧ Upd w w' (fun k => k = p) := by
  obtain ⟨q, hq⟩ : ∃ q, q = s.hv / 4 := ⟨_, rfl⟩
  obtain ⟨j, hj⟩ : ∃ j, j = s.hv % 4 := ⟨_, rfl⟩
  obtain ⟨sh, hsh⟩ : ∃ sh, sh = 24 - 8 * j := ⟨_, rfl⟩
  obtain ⟨x, hx⟩ : ∃ x, x = s.w.getD q 0 := ⟨_, rfl⟩
  obtain ⟨y, hy⟩ : ∃ y, y = c * 2 ^ sh % 4294967296 := ⟨_, rfl⟩
  have hv64 := hok.2.2.2.2
  have hq16 : q < 16 := by omega
  have hxl : x < 4294967296 := by
    have : q < s.w.length := by have := hok.1; omega
    rw [hx]
    simp only [List.getD, List.getElem?_eq_getElem this, Option.getD_some]
    exact hok.2.1 _ (List.getElem_mem this)
  have hyl : y < 4294967296 := hy ▸ Nat.mod_lt _ (by decide)
  have cv := hs.hv
  have cx : w.cell? ⟨p, 8 + q, none⟩ = some (.int .u32 (x : Nat)) := hx ▸ hs.wd q (by omega)
  have hfz := (cells_known hs.1).2.1
  have e1 : Int.tdiv (s.hv : Int) 4 = (q : Int) := by rw [Int.tdiv_eq_ediv_of_nonneg (by omega)]; omega
  have e2 : Int.tmod (s.hv : Int) 4 = (j : Int) := by rw [Int.tmod_eq_emod_of_nonneg (by omega)]; omega
  have e3 : IntKind.i64.wrap (q : Int) = (q : Int) := by rw [IntKind.wrap_i64]; omega
  have e4 : IntKind.i64.wrap (j : Int) = (j : Int) := by rw [IntKind.wrap_i64]; omega
  have e5 : IntKind.i64.wrap (8 * (j : Int)) = 8 * (j : Int) := by rw [IntKind.wrap_i64]; omega
  have e6 : IntKind.i64.wrap (24 - 8 * (j : Int)) = (sh : Int) := by rw [IntKind.wrap_i64]; omega
  have y0 : (0 : Int) ≤ (q : Int) := by omega
  have y1 : (q : Int) < 64 := by omega
  have hp1 := SumV.set_w0 hs q (x ||| y) (by omega)
  have HP1 := Lib.hid hp1
  have HS := Lib.hid hs
  have HOK := Lib.hid hok
  have HB := bits_or_u32 x y hxl hyl
  have e7 : min sh 32 = sh := by omega
  have e8 : (c : Int) * 2 ^ sh % 4294967296 = (y : Int) := by rw [hy, Int.natCast_emod, Int.natCast_mul, Int.natCast_pow]; rfl
  have hput : s.putB c = { s with w := s.w.set q (x ||| y), hv := s.hv + 1 } := by rw [SumV.putB, hx, hy, hq, hsh, hj]
  have HPUT := Lib.hid hput
  clear hput
  clear hp1 hs hok hq hj hsh hx hy
  go_enter Tryz.func220, Tryz.ntmps220
  go_wp2_with fail
  go_region
  simp only [Exit.then]
  rename_i K hK
  refine hK _ _ ?_
  clear hK
  have hs1 : sumAt (w.setCell ⟨p, 8 + q, none⟩ (.int .u32 ((x ||| y : Nat) : Int))).drew p { s with w := s.w.set q (x ||| y) } := HP1.out
  have hu1 : Upd w (w.setCell ⟨p, 8 + q, none⟩ (.int .u32 ((x ||| y : Nat) : Int))).drew (fun k => k = p) := Upd.setCell_drew w p (8 + q) _
  obtain ⟨W, hW⟩ : ∃ W, W = (w.setCell ⟨p, 8 + q, none⟩ (.int .u32 ((x ||| y : Nat) : Int))).drew := ⟨_, rfl⟩
  rw [← hW] at hs1 hu1 ⊢
  clear hW cx hfz
  have cW := hs1.hv
  have fW := (cells_known hs1.1).2.1
  have hs2 := sumAt_hv hs1 (s.hv + 1)
  have hu2 : Upd w (W.setCell ⟨p, 72, none⟩ (.int .i64 ((s.hv + 1 : Nat) : Int))) (fun k => k = p) := hu1.trans (Upd.setCell W ⟨p, 72, none⟩ _) (fun _ _ h => h)
  have en : ((s.hv + 1 : Nat) : Int) = (s.hv : Int) + 1 := by omega
  rw [en] at hs2 hu2
  have HS2 := Lib.hid hs2
  have HU2 := Lib.hid hu2
  clear hs1 hu1 hs2 hu2 en e1 e2 e3 e4 e5 e6 e7 e8 HB y0 y1
  by_cases h64 : s.hv + 1 = 64
  · have t64 : ((s.hv : Int) + 1 == 64) = true := by rw [beq_iff_eq]; omega
    have H64 := Lib.hid h64
    clear h64
    have hpw := SumV.putB_w HOK.out c
    rw [HPUT.out] at hpw
    have HPW := Lib.hid hpw
    clear hpw
    go_wp2_with (go_at_call 230; refine (stir_sha p _ _ HS2.out HPW.out.2.1 HOK.out.2.2.1 HPW.out.2.2).mono ?_; rintro e w' ⟨rfl, hs3, hu3⟩)
    refine bodyPost_end (v := .tuple #[]) (by simp [results, Tryz.results220, go_sem]) rfl ⟨rfl, ?_, HU2.out.trans hu3 (fun _ _ h => h)⟩
    unfold SumV.takeB
    rw [if_pos H64.out, HPUT.out]
    exact hs3
  · have t64 : ((s.hv : Int) + 1 == 64) = false := by rw [beq_eq_false_iff_ne]; omega
    have H64 := Lib.hid h64
    clear h64
    go_wp2_with fail
    refine bodyPost_end (v := .tuple #[]) (by simp [results, Tryz.results220, go_sem]) rfl ⟨rfl, ?_, HU2.out⟩
    unfold SumV.takeB
    rw [if_neg H64.out, HPUT.out]
    exact HS2.out
end Go.Proofs.YtlkojkjeklblkaaGreat
namespace Go.Proofs.YtlkojkjeklblkaaGreat
open Go.RowKit
def ivVals : Array (Nat × Value) := #[(0, .int .u32 1779033703), (1, .int .u32 3144134277), (2, .int .u32 1013904242), (3, .int .u32 2773480762), (4, .int .u32 1359893119), (5, .int .u32 2600822924), (6, .int .u32 528734635), (7, .int .u32 1541459225)]
theorem build_iv (w : World) : (Instr.build 255 #[(0, .int .u32 1779033703), (1, .int .u32 3144134277), (2, .int .u32 1013904242), (3, .int .u32 2773480762), (4, .int .u32 1359893119), (5, .int .u32 2600822924), (6, .int .u32 528734635), (7, .int .u32 1541459225)]).run Tryz.prog w = .ok (.agg (ivS.l.map w32).toArray) w := by kernel_rfl
theorem build_ini (w : World) : (Instr.build 311 #[(0, .agg (ivS.l.map w32).toArray)]).run Tryz.prog w = .ok (.agg SumV.ini.arr) w := by kernel_rfl
set_option maxRecDepth 100000 in
set_option maxHeartbeats 1000000 in
theorem begin_sha (w : World) : Calls Tryz.prog 219 #[] w fun e w' => ∃ p, e = .returned (.pointer (some ⟨p, 0, none⟩)) ∧ w.heap.size ≤ p ∧ sumAt w' p SumV.ini ∧ Below w.heap.size w w' := by
  have h1 := build_iv
  have h2 := build_ini
  go_enter Tryz.func219, Tryz.ntmps219
  go_wp2_with fail
  go_ret
  refine ⟨w.heap.size, rfl, Nat.le_refl _, ⟨?_, by simp [SumV.ini]⟩, (Below.refl _ _).alloc (Nat.le_refl _) _⟩
  show (w.heap.push _)[w.heap.size]? = _
  rw [Array.getElem?_push_size]
  kernel_rfl
/-- A hash stored over a block that holds one, at the operation. -/
theorem wpList_storeHash {w : World} {ops : Array Oper} {rest : List Oper} {o : Oper} {a : Act} {Q : Exit → Act → World → Prop} (x v : Operand) (hop : o.op = Op.store 38 x v) (hg : o.guard = none)
    (b : Nat) (y z : Hash) (hx : a.eval x = .pointer (some ⟨b, 0, none⟩)) (hv : a.eval v = .agg y.arr) (h : w.heap[b]? = some (.cells z.arr 38 (0, 0)))
    (hK : ∀ w', w'.heap[b]? = some (.cells y.arr 38 (0, 0)) → Upd w w' (fun k => k = b) → wpList Tryz.prog ops Q rest (a.put o.dst undef) w') : wpList Tryz.prog ops Q (o :: rest) a w := by
  refine wpList_plain hg fun K' hK' => ?_
  have hrow : row? w ⟨b, 0, none⟩ 32 = some z.arr := by
    unfold row?
    simp only [h]
    rw [if_pos (And.intro trivial (by simp))]
    congr 1
    rw [show 0 + 32 = z.arr.size by simp]
    exact Array.extract_size
  have hrun : (Instr.storeAt 38 (.pointer (some ⟨b, 0, none⟩)) (.agg y.arr)).run Tryz.prog w = .ok () (putRow w ⟨b, 0, none⟩ y.arr) := stores_Hash b 0 y w (by rw [hrow]; rfl) (fun j _ => (cells_known h).2.1 _)
  unfold Oper.wp
  obtain ⟨dst, op, ty, pos, after, guard⟩ := o
  simp only at hop
  subst hop
  rw [execOp_store_Hash]
  unfold storeS
  rw [hx, hv]
  simp only [Sem.run_bind, hrun, Result.andThen_ok, Sem.run_pure]
  refine hK' _ _ (hK _ ?_ (setCells_upd b _ 0 w))
  have hh := heap_setCells y.arr.toList 0 w _ h
  have e := putRow_eq 0 [] z.arr.toList [] y.arr.toList rfl (by simp)
  simp only [List.nil_append, List.append_nil, Array.toArray_toList] at e
  rw [e] at hh
  exact hh
/-- The first k bytes of a hash, zeros behind them. -/
def partH (l : List UInt8) (h : l.length = 32) (k : Nat) : Hash := ⟨l.take k ++ List.replicate (32 - k) 0, by simp [h]; omega⟩
theorem partH_zero (l : List UInt8) (h : l.length = 32) : partH l h 0 = Hash.zero := by apply Hash.ext'; simp [partH, Hash.zero]
theorem partH_all (l : List UInt8) (h : l.length = 32) : partH l h 32 = ⟨l, h⟩ := by apply Hash.ext'; simp [partH, ← h]
theorem partH_set (l : List UInt8) (h : l.length = 32) (k : Nat) (hk : k < 32) (v : Value) (hv : v = byteV (l[k]'(by omega))) : (partH l h k).arr.setIfInBounds k v = (partH l h (k + 1)).arr := by
  subst hv
  apply Array.ext'
  apply List.ext_getElem?
  intro j
  simp only [Array.toList_setIfInBounds, Hash.arr, partH, List.getElem?_set, List.length_map, List.length_append, List.length_take, List.length_replicate, List.getElem?_map, List.getElem?_append, List.getElem?_take, List.getElem?_replicate, h, Nat.min_eq_left (Nat.le_of_lt hk), Nat.min_eq_left (show k + 1 ≤ 32 by omega)]
  by_cases e : k = j
  · subst e
    rw [if_pos rfl, if_pos (by omega), if_pos (by omega), if_pos (by omega), List.getElem?_eq_getElem (by omega)]; rfl
  · rw [if_neg e]
    by_cases hj : j < k
    · rw [if_pos hj, if_pos hj, if_pos (by omega), if_pos (by omega)]
    · rw [if_neg hj, if_neg (show ¬ j < k + 1 by omega)]
      by_cases h32 : j < 32
      · rw [if_pos (by omega), if_pos (by omega)]
      · rw [if_neg (by omega), if_neg (by omega)]
end Go.Proofs.YtlkojkjeklblkaaGreat
namespace Go.Proofs.YtlkojkjeklblkaaGreat
open Go.RowKit
theorem padN_lt (h : Nat) : padN h < 64 := Nat.mod_lt _ (by decide)
theorem feed_snoc (s : SumV) (l : List UInt8) (c : UInt8) : s.feed (l ++ [c]) = (s.feed l).takeB c.toNat := by rw [SumV.feed_append]; rfl
theorem bitsB_length (n : Nat) : (bitsB n).length = 8 := by simp [bitsB]
theorem hashB_get (h : St) (k : Nat) (hk : k < 32) : (hashB h)[k]'(by rw [hashB_length]; exact hk) = UInt8.ofNat (h.l.getD (k / 4) 0 / 2 ^ (24 - 8 * (k % 4))) := by simp [hashB]
theorem row_hash {w : World} {b : Nat} {z : Hash} (h : w.heap[b]? = some (.cells z.arr 38 (0, 0))) : row? w ⟨b, 0, none⟩ 32 = some z.arr := by
  unfold row?
  simp only [h]
  rw [if_pos (And.intro trivial (by simp))]
  congr 1
  rw [show 0 + 32 = z.arr.size by simp]
  exact Array.extract_size
theorem hash_at {w w' : World} {b : Nat} {c : Array Value} {p : Nat} (h : w.heap[b]? = some (.cells c 38 (0, 0))) (hu : Upd w w' (fun k => k = p)) (hne : b ≠ p) : w'.heap[b]? = some (.cells c 38 (0, 0)) := by
  rw [hu.block b (Array.getElem?_eq_some_iff.1 h).1 hne]; exact h
set_option maxRecDepth 100000 in
set_option maxHeartbeats 1000000 in
theorem end_sha (p : Nat) (s : SumV) (w : World) (hs : sumAt w p s) (hok : s.ok) (ha : s.all < 1000000000000000) :
    Calls Tryz.prog 221 #[.pointer (some ⟨p, 0, none⟩)] w fun e w' => e = .returned (.agg (Hash.mk (hashB s.ended.h) (hashB_length _)).arr) ∧ Upd w w' (fun k => k = p) := by
  obtain ⟨n, hn⟩ : ∃ n, n = 8 * s.all := ⟨_, rfl⟩
  have hnl : n < 8000000000000000 := by omega
  have en : IntKind.u64.wrap (8 * (s.all : Int)) = (n : Int) := by rw [IntKind.wrap_u64]; omega
  have en2 : (8 * (s.all : Int)) % 18446744073709551616 = (n : Int) := by omega
  have ca := hs.all
  have hp := (cells_known hs.1).2.2
  have HS := Lib.hid hs
  have HOK := Lib.hid hok
  have HN := Lib.hid hn
  clear hs hok hn
  go_enter Tryz.func221, Tryz.ntmps221
  go_wp2_with fail
  clear en en2 ca
  obtain ⟨W, hW⟩ : ∃ W, W = w.alloc (.cells Hash.zero.arr 38) := ⟨_, rfl⟩
  obtain ⟨hb, hhb⟩ : ∃ hb, hb = w.heap.size := ⟨_, rfl⟩
  rw [← hW, ← hhb]
  have huW : Upd w W (fun k => k = p) := hW ▸ Upd.of_below ((Below.refl w.heap.size w).alloc (Nat.le_refl _) _) _
  have hsW : sumAt W p s := ⟨by rw [hW]; show (w.heap.push _)[p]? = _; rw [Array.getElem?_push, if_neg (by omega)]; exact HS.out.1, HS.out.2⟩
  have hHW : W.heap[hb]? = some (.cells (partH (hashB s.ended.h) (hashB_length _) 0).arr 38 (0, 0)) := by rw [partH_zero, hW, hhb]; show (w.heap.push _)[w.heap.size]? = _; rw [Array.getElem?_push_size]
  have hne : hb ≠ p := by omega
  have hge : w.heap.size ≤ hb := by omega
  refine (take_sha p s 128 (by decide) W hsW HOK.out).mono ?_
  rintro e w1 ⟨rfl, hs1, hu1⟩
  have hh1 := hash_at hHW hu1 hne
  have hu2 : Upd w w1 (fun k => k = p) := huW.trans hu1 (fun _ _ h => h)
  have hok1 := SumV.takeB_ok HOK.out 128
  obtain ⟨s1, hs1e⟩ : ∃ s1, s1 = s.takeB 128 := ⟨_, rfl⟩
  rw [← hs1e] at hs1 hok1
  have hall1 : s1.all = s.all := hs1e ▸ SumV.takeB_all' _ _
  have HS1E := Lib.hid hs1e
  have HOK1 := Lib.hid hok1
  have HALL1 := Lib.hid hall1
  clear hs1e hW hhb hsW hHW huW hu1 hok1 hall1
  go_wp2_with fail
  go_loopw [] (fun wr => ∃ m : Nat, sumAt wr p (s1.feed (List.replicate m 0)) ∧ Upd w wr (fun k => k = p) ∧ wr.heap[hb]? = some (.cells (partH (hashB s.ended.h) (hashB_length _) 0).arr 38 (0, 0)) ∧ m + padN (s1.feed (List.replicate m 0)).hv = padN s1.hv) (fun wr => padN (intOf ((wr.cell? ⟨p, 72, none⟩).getD undef)).toNat)
  case atStart => exact ⟨0, hs1, hu2, hh1, Nat.zero_add _⟩
  case round =>
    obtain ⟨m, hsr, hur, hhr, hm⟩ := hrel
    obtain ⟨sr, hsre⟩ : ∃ sr, sr = s1.feed (List.replicate m 0) := ⟨_, rfl⟩
    rw [← hsre] at hsr hm
    have hokr : sr.ok := hsre ▸ SumV.feed_ok HOK1.out _
    have hvl := hokr.2.2.2.2
    have cv := hsr.hv
    have HSRE := Lib.hid hsre
    have HOKR := Lib.hid hokr
    have HM := Lib.hid hm
    have HSR := Lib.hid hsr
    clear hsre hokr hm hsr hs1 hu2 hh1
    by_cases h56 : sr.hv = 56
    · have t56 : ((sr.hv : Int) != 56) = false := by simp [h56]
      have H56 := Lib.hid h56
      clear h56
      have hs2 : Hid (sr = s1.feed (List.replicate (padN s1.hv) 0)) := by
        unfold Hid
        have : padN sr.hv = 0 := by rw [H56.out]; rfl
        rw [HSRE.out]; congr 2; have := HM.out; omega
      go_wp2_with fail
      clear cv t56
      go_loopw [4, 20] (fun _ v wr => ∃ k : Nat, k ≤ 8 ∧ v = .int .i64 k ∧ sumAt wr p (sr.feed ((bitsB s.all).take k)) ∧ Upd w wr (fun k => k = p) ∧ wr.heap[hb]? = some (.cells (partH (hashB s.ended.h) (hashB_length _) 0).arr 38 (0, 0))) (fun _ v _ => 8 - (intOf v).toNat)
      case atStart => exact ⟨0, by omega, rfl, HSR.out, hur, hhr⟩
      case round =>
        obtain ⟨k, hk, rfl, hsk, huk, hhk⟩ := hrel
        clear hur hhr HSR
        by_cases hlt : k < 8
        · obtain ⟨sh, hsh⟩ : ∃ sh, sh = 56 - 8 * k := ⟨_, rfl⟩
          have e5 : wrap64 (8 * (k : Int)) = 8 * (k : Int) := by unfold wrap64; omega
          have e6 : wrap64 (56 - 8 * (k : Int)) = (sh : Int) := by unfold wrap64; omega
          have e7 : 56 - 8 * (k : Int) = (sh : Int) := by omega
          have hbit : Hid ((bitsB s.all).take (k + 1) = (bitsB s.all).take k ++ [UInt8.ofNat (n / 2 ^ sh)]) := by
            unfold Hid
            rw [List.take_succ_eq_append_getElem (by rw [bitsB_length]; exact hlt)]
            congr 2
            have hn' := HN.out
            simp only [bitsB, List.getElem_map, List.getElem_range]
            rw [← hsh, ← hn', Nat.mod_eq_of_lt (by omega)]
          have hokk := SumV.feed_ok HOKR.out ((bitsB s.all).take k)
          have HSH := Lib.hid hsh
          have HOKK := Lib.hid hokk
          clear hsh hokk
          go_wp2_with fail
          have ec : ((n : Int) / 2 ^ sh % 256) = ((n / 2 ^ sh % 256 : Nat) : Int) := by rw [Int.natCast_emod, Int.natCast_ediv, Int.natCast_pow]; rfl
          rw [ec]
          refine (take_sha p _ (n / 2 ^ sh % 256) (Nat.mod_lt _ (by decide)) wr hsk HOKK.out).mono ?_
          rintro e w3 ⟨rfl, hs3, hu3⟩
          have hh3 := hash_at hhk hu3 hne
          clear e5 e6 e7 ec hhk
          go_wp2_with fail
          go_roundw
          case rel =>
            refine ⟨k + 1, by omega, by go_num, ?_, huk.trans hu3 (fun _ _ h => h), hh3⟩
            rw [hbit.out, feed_snoc, UInt8.toNat_ofNat']
            exact hs3
          case measure => simp [intOf]; omega
        · have hk8 : k = 8 := by omega
          subst hk8
          have hend : sr.feed ((bitsB s.all).take 8) = s.ended := by
            rw [List.take_of_length_le (by rw [bitsB_length]; exact Nat.le_refl 8), hs2.out, HS1E.out]; rfl
          rw [hend] at hsk
          obtain ⟨sf, hsf⟩ : ∃ sf, sf = s.ended := ⟨_, rfl⟩
          have hokf : sf.ok := by rw [hsf, ← hend]; exact SumV.feed_ok HOKR.out _
          rw [← hsf] at hsk hhk ⊢
          have HOKF := Lib.hid hokf
          have HSF := Lib.hid hsf
          clear hend hsf hokf hlt hk
          go_wp2_with fail
          go_loopw [5, 32] (fun _ v wr => ∃ k : Nat, k ≤ 32 ∧ v = .int .i64 k ∧ sumAt wr p sf ∧ Upd w wr (fun k => k = p) ∧ wr.heap[hb]? = some (.cells (partH (hashB sf.h) (hashB_length _) k).arr 38 (0, 0))) (fun _ v _ => 32 - (intOf v).toNat)
          case atStart => exact ⟨0, by omega, rfl, hsk, huk, hhk⟩
          case round =>
            obtain ⟨k, hk, rfl, hsq, huq, hhq⟩ := hrel
            clear hsk huk hhk
            by_cases hlt : k < 32
            · obtain ⟨q, hq⟩ : ∃ q, q = k / 4 := ⟨_, rfl⟩
              obtain ⟨j, hj⟩ : ∃ j, j = k % 4 := ⟨_, rfl⟩
              obtain ⟨sh, hsh⟩ : ∃ sh, sh = 24 - 8 * j := ⟨_, rfl⟩
              obtain ⟨x, hx⟩ : ∃ x, x = sf.h.l.getD q 0 := ⟨_, rfl⟩
              have f1 : (k : Int) / 4 = (q : Int) := by omega
              have f2 : (k : Int) % 4 = (j : Int) := by omega
              have f3 : 24 - 8 * (j : Int) = (sh : Int) := by omega
              have f4 : wrap64 (24 - 8 * (j : Int)) = (sh : Int) := by unfold wrap64; omega
              have q8 : q < 8 := by omega
              have cq : wr.cell? ⟨p, q, none⟩ = some (.int .u32 (x : Nat)) := hx ▸ hsq.h q q8
              have ch := (cells_known hhq).1
              have fh := (cells_known hhq).2.1
              have hset := partH_set (hashB sf.h) (hashB_length _) k hlt (byteV (UInt8.ofNat (x / 2 ^ sh))) (by rw [hashB_get _ _ hlt, hx, hq, hsh, hj])
              have HSET := Lib.hid hset
              have g0 : (0 : Int) ≤ (q : Int) := by omega
              have g1 : (q : Int) < 8 := by omega
              clear hset hx hq hsh hj
              go_wp2_with fail
              go_roundw
              case rel =>
                have hset2 : wr.setCell ⟨hb, k, none⟩ (.int .u8 ((x : Int) / 2 ^ sh % 256)) = wr.setCell ⟨hb, k, none⟩ (byteV (UInt8.ofNat (x / 2 ^ sh))) := by
                  rw [byteV_ofNat, Int.natCast_emod, Int.natCast_ediv, Int.natCast_pow]; rfl
                rw [hset2]
                have huh := Upd.setCell wr ⟨hb, k, none⟩ (byteV (UInt8.ofNat (x / 2 ^ sh)))
                refine ⟨k + 1, by omega, by go_num, ⟨(huh.block p (cells_known hsq.1).2.2 (fun e => hne e.symm)).trans hsq.1, hsq.2⟩, huq.trans huh (fun i hi e => by have e2 : i = hb := e; omega), ?_⟩
                rw [heap_set hhq, HSET.out]
              case measure => simp [intOf]; omega
            · have hk32 : k = 32 := by omega
              subst hk32
              rw [partH_all] at hhq
              obtain ⟨hz, hze⟩ : ∃ hz : Hash, hz = ⟨hashB sf.h, hashB_length _⟩ := ⟨_, rfl⟩
              rw [← hze] at hhq
              have hrow := row_hash hhq
              have HZE : Hid (hz = Hash.mk (hashB s.ended.h) (hashB_length _)) := by
                unfold Hid
                apply Hash.ext'
                rw [hze, ← HSF.out]
              clear hze
              have HHQ := Lib.hid hhq
              have HUQ := Lib.hid huq
              clear hhq huq hsq
              go_wp2_with (refine wpList_storeHash (.tmp 2) (.tmp 51) rfl rfl hb hz hz rfl (by first | rfl | (simp [Act.eval, Act.put, hrow])) HHQ.out ?_; intro wz hhz huz)
              refine bodyPost_ret (results_cell_row rfl _ _ hb 38 hz.arr (0, 0) _ rfl hhz Tryz.underlying38 rfl (by rw [size_Hash]; simp)) rfl ⟨by rw [HZE.out], HUQ.out.trans huz (fun i hi e => by have e2 : i = hb := e; omega)⟩
    · have t56 : ((sr.hv : Int) != 56) = true := by simp; omega
      go_wp2_with (go_at_call 220; refine (take_sha p sr 0 (by decide) _ HSR.out HOKR.out).mono ?_; rintro e w3 ⟨rfl, hs3, hu3⟩; have hh3 := hash_at hhr hu3 hne; clear cv t56)
      go_roundw
      case rel =>
        refine ⟨m + 1, ?_, hur.trans hu3 (fun _ _ h => h), hh3, ?_⟩
        · rw [List.replicate_succ', feed_snoc, ← HSRE.out]; exact hs3
        · rw [List.replicate_succ', feed_snoc, ← HSRE.out]
          have hm := HM.out
          have := SumV.takeB_hv sr (0 : UInt8).toNat hvl
          rw [this]
          unfold padN at hm ⊢
          omega
      case measure =>
        have c1 := hs3.hv
        have c2 := HSR.out.hv
        have := SumV.takeB_hv sr 0 hvl
        simp only [c1, c2, Option.getD_some, intOf, this]
        unfold padN
        omega
end Go.Proofs.YtlkojkjeklblkaaGreat
namespace Go.Proofs.YtlkojkjeklblkaaGreat
open Go.RowKit
/-- A slice that reads as bytes, below block B. -/
def bytesAt (w : World) (v : Sl) (l : List UInt8) (B : Nat) : Prop := v.n = l.length ∧ (l ≠ [] → ∃ b off, v.a = some ⟨b, off, none⟩ ∧ b < B ∧ ∀ k (h : k < l.length), w.cell? ⟨b, off + k, none⟩ = some (byteV l[k]))
/-- Slices one behind the other. -/
def slsAt (w : World) (a : Option Addr) (vs : List Sl) (B : Nat) : Prop := vs ≠ [] → ∃ b off, a = some ⟨b, off, none⟩ ∧ b < B ∧ ∀ k (h : k < vs.length), w.cell? ⟨b, off + k, none⟩ = some (.slice vs[k].a vs[k].n vs[k].c)
theorem bytesAt.upd {w w' : World} {v : Sl} {l : List UInt8} {B : Nat} {S : Nat → Prop} (h : bytesAt w v l B) (hu : Upd w w' S) (hB : B ≤ w.heap.size) (hS : ∀ k, S k → B ≤ k) : bytesAt w' v l B := by
  refine ⟨h.1, fun hl => ?_⟩
  obtain ⟨b, off, ha, hb, hc⟩ := h.2 hl
  exact ⟨b, off, ha, hb, fun k hk => by rw [hu.cell (by omega) (fun hs => by have := hS b hs; omega)]; exact hc k hk⟩
theorem slsAt.upd {w w' : World} {a : Option Addr} {vs : List Sl} {B : Nat} {S : Nat → Prop} (h : slsAt w a vs B) (hu : Upd w w' S) (hB : B ≤ w.heap.size) (hS : ∀ k, S k → B ≤ k) : slsAt w' a vs B := by
  intro hl
  obtain ⟨b, off, ha, hb, hc⟩ := h hl
  exact ⟨b, off, ha, hb, fun k hk => by rw [hu.cell (by omega) (fun hs => by have := hS b hs; omega)]; exact hc k hk⟩
theorem bytesAt.at {w : World} {v : Sl} {l : List UInt8} {B : Nat} (h : bytesAt w v l B) {k : Nat} (hk : k < l.length) : ∃ b off, v.a = some ⟨b, off, none⟩ ∧ b < B ∧ w.cell? ⟨b, off + k, none⟩ = some (byteV l[k]) := by
  obtain ⟨b, off, ha, hb, hc⟩ := h.2 (by rintro rfl; simp at hk)
  exact ⟨b, off, ha, hb, hc k hk⟩
theorem slsAt.at {w : World} {a : Option Addr} {vs : List Sl} {B : Nat} (h : slsAt w a vs B) {k : Nat} (hk : k < vs.length) : ∃ b off, a = some ⟨b, off, none⟩ ∧ b < B ∧ w.cell? ⟨b, off + k, none⟩ = some (.slice vs[k].a vs[k].n vs[k].c) := by
  obtain ⟨b, off, ha, hb, hc⟩ := h (by rintro rfl; simp at hk)
  exact ⟨b, off, ha, hb, hc k hk⟩
/-- The bytes of the first k pieces. -/
def flatK (ps : List (Sl × List UInt8)) (k : Nat) : List UInt8 := (ps.take k).flatMap (·.2)
def curK (ps : List (Sl × List UInt8)) (k : Nat) : SumV := { SumV.ini.feed (flatK ps k) with all := (flatK ps k).length }
theorem flatK_succ {ps : List (Sl × List UInt8)} {k : Nat} (h : k < ps.length) : flatK ps (k + 1) = flatK ps k ++ ps[k].2 := by
  unfold flatK; rw [List.take_succ_eq_append_getElem h, List.flatMap_append]; simp
theorem flatK_le {ps : List (Sl × List UInt8)} (k : Nat) : (flatK ps k).length ≤ (ps.flatMap (·.2)).length := by
  have : ps.flatMap (·.2) = flatK ps k ++ (ps.drop k).flatMap (·.2) := by unfold flatK; rw [← List.flatMap_append, List.take_append_drop]
  rw [this, List.length_append]; omega
theorem curK_ok (ps : List (Sl × List UInt8)) (k : Nat) : (curK ps k).ok := SumV.feed_ok SumV.ini_ok (flatK ps k)
set_option maxRecDepth 100000 in
set_option maxHeartbeats 1000000 in
theorem sum_sha (a : Option Addr) (c : Nat) (ps : List (Sl × List UInt8)) (w : World) (hlen : ps.length ≤ 1000000) (hpa : slsAt w a (ps.map Prod.fst) w.heap.size) (hpb : ∀ q ∈ ps, bytesAt w q.1 q.2 w.heap.size) (htot : (ps.flatMap (·.2)).length < 1000000000000000) :
    Calls Tryz.prog 190 #[.slice a ps.length c] w fun e w' => e = .returned (.agg (shaS (ps.flatMap (·.2))).arr) ∧ Below w.heap.size w w' := by
  go_enter Tryz.func190, Tryz.ntmps190
  go_wp2_with fail
  obtain ⟨V, hV⟩ : ∃ V, V = w.alloc (.cells Hash.zero.arr 38) := ⟨_, rfl⟩
  obtain ⟨hb, hhb⟩ : ∃ hb, hb = w.heap.size := ⟨_, rfl⟩
  rw [← hV, ← hhb]
  have hbV : Below w.heap.size w V := hV ▸ (Below.refl w.heap.size w).alloc (Nat.le_refl _) _
  have hVs : V.heap.size = w.heap.size + 1 := by rw [hV]; simp
  have hHV : V.heap[hb]? = some (.cells Hash.zero.arr 38 (0, 0)) := by rw [hV, hhb]; show (w.heap.push _)[w.heap.size]? = _; rw [Array.getElem?_push_size]
  refine (begin_sha V).mono ?_
  rintro e W ⟨p, rfl, hp, hsW, hbW⟩
  have hHW : W.heap[hb]? = some (.cells Hash.zero.arr 38 (0, 0)) := by rw [hbW.block hb (by omega)]; exact hHV
  have hbw : Below w.heap.size w W := hbV.trans (hbW.mono (by omega))
  have huw : Upd w W (fun k => k = p) := Upd.of_below hbw _
  have hpge : w.heap.size < p := by omega
  have hSp : ∀ k, k = p → w.heap.size ≤ k := fun k e => by omega
  have hpaW := hpa.upd huw (Nat.le_refl _) hSp
  have hpbW : ∀ q ∈ ps, bytesAt W q.1 q.2 w.heap.size := fun q hq => (hpb q hq).upd huw (Nat.le_refl _) hSp
  have hWs := hbw.size
  have hne : hb ≠ p := by omega
  have hge : w.heap.size ≤ hb := by omega
  clear hV hhb hVs hHV hbV hbW huw hpa hpb hp
  go_wp2_with fail
  go_loopw [5, 7, 11] (fun _ _ v wr => ∃ k : Nat, k ≤ ps.length ∧ v = .int .i64 k ∧ sumAt wr p (curK ps k) ∧ Upd W wr (fun k => k = p)) (fun _ _ v _ => ps.length - (intOf v).toNat)
  case atStart => exact ⟨0, Nat.zero_le _, rfl, hsW, Upd.refl _ _⟩
  case round =>
    obtain ⟨k, hk, rfl, hsr, hur⟩ := hrel
    by_cases hlt : k < ps.length
    · obtain ⟨b0, off0, rfl, hb0, hc0⟩ := (hpaW.upd hur hWs hSp).at (k := k) (by simpa using hlt)
      simp only [List.getElem_map] at hc0
      obtain ⟨v, hv⟩ : ∃ v, v = ps[k].1 := ⟨_, rfl⟩
      obtain ⟨l, hl⟩ : ∃ l, l = ps[k].2 := ⟨_, rfl⟩
      have hbl : bytesAt W v l w.heap.size := by rw [hv, hl]; exact hpbW _ (List.getElem_mem hlt)
      have hvn : v.n = l.length := hbl.1
      rw [← hv] at hc0
      have hfl := flatK_succ hlt
      rw [← hl] at hfl
      have hle := flatK_le (ps := ps) (k + 1)
      rw [hfl, List.length_append] at hle
      obtain ⟨N0, hN0⟩ : ∃ n, n = (flatK ps k).length := ⟨_, rfl⟩
      obtain ⟨N, hN⟩ : ∃ n, n = N0 + l.length := ⟨_, rfl⟩
      have e1 : (N0 : Int) + (l.length : Int) = (N : Int) := by omega
      have e2 : IntKind.u64.wrap ((N0 : Int) + (l.length : Int)) = (N : Int) := by rw [IntKind.wrap_u64]; omega
      have e3 : ((N0 : Int) + (l.length : Int)) % 18446744073709551616 = (N : Int) := by omega
      have ca : wr.cell? ⟨p, 73, none⟩ = some (.int .u64 (N0 : Nat)) := by rw [hsr.all, curK, hN0]
      have hfz := (cells_known hsr.1).2.1
      have hs2 := sumAt_all hsr N
      rw [hvn] at hc0
      have e0 : IntKind.u64.wrap (l.length : Int) = (l.length : Int) := by rw [IntKind.wrap_u64]; omega
      have hll : l.length ≤ 1000000000000000 := by omega
      have hcur : Hid (({ curK ps k with all := N } : SumV).feed l = curK ps (k + 1)) := by
        unfold Hid curK
        rw [hfl, SumV.feed_append, List.length_append, ← hN0, ← hN]
        show (({ SumV.ini.feed (flatK ps k) with all := N } : SumV)).feed l = _
        rw [SumV.feed_all]
      have hok2 : ({ curK ps k with all := N } : SumV).ok := curK_ok ps k
      have HBL := Lib.hid hbl
      have HS2 := Lib.hid hs2
      have HUR := Lib.hid hur
      obtain ⟨va, vn, vc⟩ := v
      simp only at hc0 hvn
      clear hv hl hfl hle hN0 hN hsr hsW hbl hs2 hur e1 e3
      go_wp2_with fail
      have hs3 := HS2.out
      have hu3 : Upd W (wr.setCell ⟨p, 73, none⟩ (.int .u64 (N : Nat))) (fun k => k = p) := HUR.out.trans (Upd.setCell wr ⟨p, 73, none⟩ _) (fun _ _ h => h)
      clear e0 e2 ca hfz
      go_loopw [7, 27] (fun _ v wx => ∃ j : Nat, j ≤ l.length ∧ v = .int .i64 j ∧ sumAt wx p (({ curK ps k with all := N } : SumV).feed (l.take j)) ∧ Upd W wx (fun k => k = p)) (fun _ v _ => l.length - (intOf v).toNat)
      case atStart => exact ⟨0, Nat.zero_le _, rfl, hs3, hu3⟩
      case round =>
        obtain ⟨j, hj, rfl, hsj, huj⟩ := hrel
        clear hs3 hu3
        by_cases hjl : j < l.length
        · obtain ⟨b1, off1, hva, hb1, hc1⟩ := (HBL.out.upd huj hWs hSp).at hjl
          simp only at hva
          subst hva
          have hc1' : wr.cell? ⟨b1, off1 + j, none⟩ = some (.int .u8 (l[j].toNat : Int)) := hc1
          have hbyte := l[j].toNat_lt
          have htk : Hid ((({ curK ps k with all := N } : SumV).feed (l.take (j + 1))) = (({ curK ps k with all := N } : SumV).feed (l.take j)).takeB l[j].toNat) := by
            unfold Hid; rw [List.take_succ_eq_append_getElem hjl, feed_snoc]
          have hokj := Lib.hid (SumV.feed_ok hok2 (l.take j))
          have HSJ := Lib.hid hsj
          clear hc1 hsj
          go_wp2_with (go_at_call 220; refine (take_sha p _ l[j].toNat hbyte _ HSJ.out hokj.out).mono ?_; rintro e w5 ⟨rfl, hs5, hu5⟩)
          go_roundw
          case rel => exact ⟨j + 1, by omega, by go_num, by rw [htk.out]; exact hs5, huj.trans hu5 (fun _ _ h => h)⟩
          case measure => simp [intOf]; omega
        · have hjl2 : j = l.length := by omega
          subst hjl2
          rw [List.take_length, hcur.out] at hsj
          go_wp2_with fail
          go_roundw
          case rel => exact ⟨k + 1, by omega, by go_num, hsj, huj⟩
          case measure => simp [intOf]; omega
    · have hkk : k = ps.length := by omega
      subst hkk
      have hcur : curK ps ps.length = { SumV.ini.feed (ps.flatMap (·.2)) with all := (ps.flatMap (·.2)).length } := by
        unfold curK flatK; rw [List.take_length]
      have hok := curK_ok ps ps.length
      have hall : (curK ps ps.length).all < 1000000000000000 := by rw [hcur]; exact htot
      obtain ⟨sz, hsz⟩ : ∃ sz, sz = curK ps ps.length := ⟨_, rfl⟩
      rw [← hsz] at hok hall hsr
      have hres : Hid (Hash.mk (hashB sz.ended.h) (hashB_length _) = shaS (ps.flatMap (·.2))) := by
        unfold Hid; apply Hash.ext'; rw [hsz, hcur]; rfl
      have hHr := hash_at hHW hur hne
      have HSR := Lib.hid hsr
      have HHR := Lib.hid hHr
      have HUR := Lib.hid hur
      clear hcur hsz hsr hHr hHW hur hsW
      go_wp2_with (first | (go_at_call 221; refine (end_sha p sz _ HSR.out hok hall).mono ?_; rintro e w6 ⟨rfl, hu6⟩) | (refine wpList_storeHash (.tmp 2) (.tmp 37) rfl rfl hb (Hash.mk (hashB sz.ended.h) (hashB_length _)) Hash.zero rfl rfl (hash_at HHR.out hu6 hne) ?_; intro wz hhz huz))
      refine bodyPost_ret (results_cell_row rfl _ _ hb 38 (Hash.mk (hashB sz.ended.h) (hashB_length _)).arr (0, 0) _ rfl hhz Tryz.underlying38 rfl (by rw [size_Hash]; simp)) rfl ⟨by rw [hres.out], ?_⟩
      have hu7 : Upd W w6 (fun k => k = p) := HUR.out.trans hu6 (fun _ _ h => h)
      have hb7 : Below w.heap.size W w6 := hu7.below hWs hSp
      have hs6 := hu6.size
      exact hbw.trans (hb7.trans (huz.below (by have := HUR.out.size; omega) (fun i e => by have e2 : i = hb := e; omega)))
end Go.Proofs.YtlkojkjeklblkaaGreat
namespace Go.Proofs.YtlkojkjeklblkaaGreat
open Go.RowKit
theorem slsAt.below {w w' : World} {a : Option Addr} {vs : List Sl} {B : Nat} (h : slsAt w a vs B) (hb : Below B w w') : slsAt w' a vs B := by
  intro hl
  obtain ⟨b, off, ha, hbB, hc⟩ := h hl
  exact ⟨b, off, ha, hbB, fun k hk => by rw [hb.cell (p := ⟨b, _, none⟩) hbB]; exact hc k hk⟩
theorem slsAt.mono {w : World} {a : Option Addr} {vs : List Sl} {B B' : Nat} (h : slsAt w a vs B) (hB : B ≤ B') : slsAt w a vs B' := by
  intro hl
  obtain ⟨b, off, ha, hbB, hc⟩ := h hl
  exact ⟨b, off, ha, by omega, hc⟩
theorem bytesAt.below {w w' : World} {v : Sl} {l : List UInt8} {B : Nat} (h : bytesAt w v l B) (hb : Below B w w') : bytesAt w' v l B := by
  refine ⟨h.1, fun hl => ?_⟩
  obtain ⟨b, off, ha, hbB, hc⟩ := h.2 hl
  exact ⟨b, off, ha, hbB, fun k hk => by rw [hb.cell (p := ⟨b, _, none⟩) hbB]; exact hc k hk⟩
theorem bytesAt.mono {w : World} {v : Sl} {l : List UInt8} {B B' : Nat} (h : bytesAt w v l B) (hB : B ≤ B') : bytesAt w v l B' := by
  refine ⟨h.1, fun hl => ?_⟩
  obtain ⟨b, off, ha, hbB, hc⟩ := h.2 hl
  exact ⟨b, off, ha, by omega, hc⟩
/-- A hash's block, read as bytes. -/
theorem bytesAt_hash {w : World} {b : Nat} {z : Hash} {t : TypeId} (h : w.heap[b]? = some (.cells z.arr t (0, 0))) (n c : Nat) (hn : n = 32) : bytesAt w ⟨some ⟨b, 0, none⟩, n, c⟩ z.l w.heap.size := by
  subst hn
  refine ⟨z.len.symm, fun _ => ⟨b, 0, rfl, (cells_known h).2.2, fun k hk => ?_⟩⟩
  rw [(cells_known h).1, Nat.zero_add]
  exact Hash.arr_get z k (by rw [z.len] at hk; exact hk)
theorem slsAt_one {w : World} {b : Nat} {v : Sl} {t : TypeId} (h : w.heap[b]? = some (.cells #[.slice v.a v.n v.c] t (0, 0))) : slsAt w (some ⟨b, 0, none⟩) [v] w.heap.size := by
  refine fun _ => ⟨b, 0, rfl, (cells_known h).2.2, fun k hk => ?_⟩
  have : k = 0 := by simpa using hk
  subst this
  rw [(cells_known h).1]; rfl
/-- The sum of one piece. -/
theorem sum_one (b c : Nat) (v : Sl) (l : List UInt8) (t : TypeId) (w : World) (h : w.heap[b]? = some (.cells #[.slice v.a v.n v.c] t (0, 0))) (hv : bytesAt w v l w.heap.size) (hl : l.length < 1000000000000000) :
    Calls Tryz.prog 190 #[.slice (some ⟨b, 0, none⟩) 1 c] w fun e w' => e = .returned (.agg (shaS l).arr) ∧ Below w.heap.size w w' := by
  have := sum_sha (some ⟨b, 0, none⟩) c [(v, l)] w (by simp) (slsAt_one h) (by simpa using hv) (by simpa using hl)
  simpa using this
set_option maxRecDepth 100000 in
set_option maxHeartbeats 1000000 in
theorem twice_sha (b c : Nat) (v : Sl) (l : List UInt8) (t : TypeId) (w : World) (h : w.heap[b]? = some (.cells #[.slice v.a v.n v.c] t (0, 0))) (hv : bytesAt w v l w.heap.size) (hl : l.length < 1000000000000000) :
    Calls Tryz.prog 149 #[.slice (some ⟨b, 0, none⟩) 1 c] w fun e w' => e = .returned (.agg (twiceS l).arr) ∧ Below w.heap.size w w' := by
  go_enter Tryz.func149, Tryz.ntmps149
  go_wp2_with fail
  obtain ⟨V, hV⟩ : ∃ V, V = w.alloc (.cells Hash.zero.arr 38) := ⟨_, rfl⟩
  obtain ⟨hb, hhb⟩ : ∃ hb, hb = w.heap.size := ⟨_, rfl⟩
  rw [← hV, ← hhb]
  have hbV : Below w.heap.size w V := hV ▸ (Below.refl w.heap.size w).alloc (Nat.le_refl _) _
  have hVs : V.heap.size = w.heap.size + 1 := by rw [hV]; simp
  have hHV : V.heap[hb]? = some (.cells Hash.zero.arr 38 (0, 0)) := by rw [hV, hhb]; show (w.heap.push _)[w.heap.size]? = _; rw [Array.getElem?_push_size]
  refine (sum_one b c v l t V (by rw [hbV.block b (cells_known h).2.2]; exact h) ((hv.below hbV).mono (by omega)) hl).mono ?_
  rintro e W ⟨rfl, hbW⟩
  have hbw : Below w.heap.size w W := hbV.trans (hbW.mono (by omega))
  have hHW : W.heap[hb]? = some (.cells Hash.zero.arr 38 (0, 0)) := by rw [hbW.block hb (by omega)]; exact hHV
  have hWs := hbW.size
  have hbWl : hb < W.heap.size := by omega
  have hwW : w.heap.size ≤ W.heap.size := by omega
  have hge : w.heap.size ≤ hb := by omega
  clear hV hhb hVs hHV hbV hbW h hv hWs
  go_wp2_with fail
  refine (sum_one (W.heap.size + 1) 1 ⟨some ⟨W.heap.size, 0, none⟩, 32, 32⟩ (shaS l).l 137 _ (by show ((W.heap.push _).push _)[W.heap.size + 1]? = _; rw [show W.heap.size + 1 = (W.heap.push (.cells (shaS l).arr 38)).size by simp, Array.getElem?_push_size]) (bytesAt_hash (by show ((W.heap.push _).push _)[W.heap.size]? = _; rw [Array.getElem?_push, if_neg (by simp), Array.getElem?_push_size]) _ _ rfl) (by rw [(shaS l).len]; decide)).mono ?_
  rintro e Y ⟨rfl, hbY⟩
  have hb2 : Below W.heap.size W ((W.alloc (.cells (shaS l).arr 38)).alloc (.cells #[.slice (some ⟨W.heap.size, 0, none⟩) 32 32] 137)) := ((Below.refl W.heap.size W).alloc (Nat.le_refl _) _).alloc (by simp) _
  have hbWY : Below W.heap.size W Y := hb2.trans (hbY.mono (by simp; omega))
  have hHY : Y.heap[hb]? = some (.cells Hash.zero.arr 38 (0, 0)) := by rw [hbWY.block hb hbWl]; exact hHW
  have HHY := Lib.hid hHY
  clear hHY hHW hb2 hbY
  go_wp2_with (refine wpList_storeHash (.tmp 2) (.tmp 8) rfl rfl hb (shaS (shaS l).l) Hash.zero rfl rfl HHY.out ?_; intro wz hhz huz)
  refine bodyPost_ret (results_cell_row rfl _ _ hb 38 (shaS (shaS l).l).arr (0, 0) _ rfl hhz Tryz.underlying38 rfl (by rw [size_Hash]; simp)) rfl ⟨rfl, ?_⟩
  have hsY := hbWY.size
  exact hbw.trans ((hbWY.mono hwW).trans (huz.below (by omega) (fun i e => by have e2 : i = hb := e; omega)))
end Go.Proofs.YtlkojkjeklblkaaGreat
