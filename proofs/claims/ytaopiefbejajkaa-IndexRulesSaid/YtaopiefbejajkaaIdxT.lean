/- What IndexRules's transactions are to an index: in plain words. Law IndexRules: the walk. -/
import Derived.Test.YtaopiefbejajkaaIdxRa
import Derived.Test.YtaopiefbejajkaaIdxRb
import Derived.Test.YtaopiefbejajkaaIdxRc
import Derived.Test.YtaopiefbejajkaaIdxM
set_option linter.unusedSimpArgs false
set_option linter.unusedVariables false
namespace Go.Proofs.Ytaopiefbejajkaa
theorem u_all {m : Nat} (h : m ≤ 20) {n : Nat} (hn : n < 26) : idS (uL (idS (tR m)) n 0) ≠ idS (tR m) := by
  have : m = 0 ∨ m = 1 ∨ m = 2 ∨ m = 3 ∨ m = 4 ∨ m = 5 ∨ m = 6 ∨ m = 7 ∨ m = 8 ∨ m = 9 ∨ m = 10 ∨ m = 11 ∨ m = 12 ∨ m = 13 ∨ m = 14 ∨ m = 15 ∨ m = 16 ∨ m = 17 ∨ m = 18 ∨ m = 19 ∨ m = 20 := by omega
  rcases this with rfl | rfl | rfl | rfl | rfl | rfl | rfl | rfl | rfl | rfl | rfl | rfl | rfl | rfl | rfl | rfl | rfl | rfl | rfl | rfl | rfl
  · rw [tn0]; exact un0 n hn
  · rw [tn1]; exact un1 n hn
  · rw [tn2]; exact un2 n hn
  · rw [tn3]; exact un3 n hn
  · rw [tn4]; exact un4 n hn
  · rw [tn5]; exact un5 n hn
  · rw [tn6]; exact un6 n hn
  · rw [tn7]; exact un7 n hn
  · rw [tn8]; exact un8 n hn
  · rw [tn9]; exact un9 n hn
  · rw [tn10]; exact un10 n hn
  · rw [tn11]; exact un11 n hn
  · rw [tn12]; exact un12 n hn
  · rw [tn13]; exact un13 n hn
  · rw [tn14]; exact un14 n hn
  · rw [tn15]; exact un15 n hn
  · rw [tn16]; exact un16 n hn
  · rw [tn17]; exact un17 n hn
  · rw [tn18]; exact un18 n hn
  · rw [tn19]; exact un19 n hn
  · rw [tn20]; exact un20 n hn
theorem v_all {m : Nat} (h : m ≤ 20) {n : Nat} (hn : n < m) : idS (uL (idS (tR m)) n 5) ≠ idS (tR m) := by
  have : m = 0 ∨ m = 1 ∨ m = 2 ∨ m = 3 ∨ m = 4 ∨ m = 5 ∨ m = 6 ∨ m = 7 ∨ m = 8 ∨ m = 9 ∨ m = 10 ∨ m = 11 ∨ m = 12 ∨ m = 13 ∨ m = 14 ∨ m = 15 ∨ m = 16 ∨ m = 17 ∨ m = 18 ∨ m = 19 ∨ m = 20 := by omega
  rcases this with rfl | rfl | rfl | rfl | rfl | rfl | rfl | rfl | rfl | rfl | rfl | rfl | rfl | rfl | rfl | rfl | rfl | rfl | rfl | rfl | rfl
  · rw [tn0]; exact vn0 n hn
  · rw [tn1]; exact vn1 n hn
  · rw [tn2]; exact vn2 n hn
  · rw [tn3]; exact vn3 n hn
  · rw [tn4]; exact vn4 n hn
  · rw [tn5]; exact vn5 n hn
  · rw [tn6]; exact vn6 n hn
  · rw [tn7]; exact vn7 n hn
  · rw [tn8]; exact vn8 n hn
  · rw [tn9]; exact vn9 n hn
  · rw [tn10]; exact vn10 n hn
  · rw [tn11]; exact vn11 n hn
  · rw [tn12]; exact vn12 n hn
  · rw [tn13]; exact vn13 n hn
  · rw [tn14]; exact vn14 n hn
  · rw [tn15]; exact vn15 n hn
  · rw [tn16]; exact vn16 n hn
  · rw [tn17]; exact vn17 n hn
  · rw [tn18]; exact vn18 n hn
  · rw [tn19]; exact vn19 n hn
  · rw [tn20]; exact vn20 n hn
theorem check_uL (h : Hash) {n : Nat} (hn : n < 26) (lock : Int) (hl : wth lock 0 1000000 = true) : checkS (uL h n lock) = 0 := by
  have h0 : wth (n : Int) 0 99 = true := by
    have : ∀ k < 26, wth ((k : Nat) : Int) 0 99 = true := by decide
    exact this n hn
  have h1 : inGood [⟨⟨h, n⟩, 0, wR⟩] 0 = true := by
    show ((wth (n : Int) 0 99 && wth 0 0 65535 && witOk wR) && decide (spendsAt [] _ < 0)) = true
    rw [h0, show (true && wth 0 0 65535 && witOk wR) = true by decide +kernel]
    rfl
  have h2 : insOk [⟨⟨h, n⟩, 0, wR⟩] = true := by
    refine insOk_true (fun k hk => ?_)
    have : k = 0 := by simpa using hk
    subst this
    exact h1
  unfold checkS
  rw [if_neg (by simp [uL]), if_neg]
  · rfl
  · rintro (e | e | e | e)
    · simp [uL] at e
    · exact absurd (e.symm.trans h2) (by decide)
    · simp [uL] at e
    · exact absurd (e.symm.trans hl) (by decide)
theorem ins_uL (h : Hash) (n lock : Int) : (uL h n lock).ins = [⟨⟨h, n⟩, 0, wR⟩] := rfl
theorem txs_uL {h : Hash} {n : Nat} (hn : n < 26) {lock : Int} (hl : wth lock 0 1000000 = true) (hne : idS (uL h n lock) ≠ h) : txsS [uL h n lock] = 0 :=
  txs_one (check_uL h hn lock hl) (by simp [ins_uL]) (fun i hi => by
    have e : i = ⟨⟨h, n⟩, 0, wR⟩ := by simpa [ins_uL] using hi
    subst e; exact fun e => hne e.symm)
theorem txs_tR {m : Nat} (hm : m ≤ 20) : txsS [tR m] = 0 :=
  txs_one (t_all hm).1 (by simp [tR]) (fun i hi => by
    have e : i = ⟨⟨nameS 1, 0⟩, 0, wR⟩ := by simpa [tR] using hi
    subst e; exact fun e => (t_all hm).2 e.symm)
/-- The blocks: the paid one, so many empty ones. -/
def LR (m b : Nat) : List (List Tx) := [tR m] :: List.replicate b []
theorem LR_len (m b : Nat) : (LR m b).length = b + 1 := by simp [LR]
theorem LR_snoc (m b : Nat) : LR m (b + 1) = LR m b ++ [[]] := by simp [LR, List.replicate_succ']
theorem maps_LR (m : Nat) : ∀ b, mapsOf (LR m b) = addTx 1 Maps.zero (tR m)
  | 0 => maps_one _
  | b + 1 => by rw [LR_snoc, mapsOf_snoc, maps_LR m b]; rfl
theorem con_tR {m : Nat} (hm : m ≤ 20) : conE [] [tR m] = 0 ∧ conL [] [tR m] = LR m 0 := by
  have h : conE [] [tR m] = 0 := conE_zero.2 ⟨txs_tR hm, by rw [may_one]; simp [mayS, mayIn, mapsOf_nil, Maps.zero]⟩
  exact ⟨h, by unfold conL; rw [if_pos h]; rfl⟩
theorem con_nil (L : List (List Tx)) : conE L [] = 0 ∧ conL L [] = L ++ [[]] := by
  have h : conE L [] = 0 := conE_zero.2 ⟨rfl, rfl⟩
  exact ⟨h, by unfold conL; rw [if_pos h]⟩
theorem con_again {m : Nat} (hm : m ≤ 20) (b : Nat) : conE (LR m b) [tR m] = 10 ∧ conL (LR m b) [tR m] = LR m b := by
  have h2 : mayBlock (LR m b) [tR m] = false := by rw [may_one, maps_LR]; simp [mayS, addTx, updF_same]
  have h : conE (LR m b) [tR m] = 10 := by
    unfold conE
    rw [if_neg (by simpa using txs_tR hm), if_neg (by simp [h2])]
  exact ⟨h, by unfold conL; rw [h]; rfl⟩
theorem may_u {m : Nat} (hm : m ≤ 20) (b : Nat) {n : Nat} (hn : n < 26) : mayBlock (LR m b) [uL (idS (tR m)) n 0] = decide (n < m) := by
  have hne := u_all hm hn
  have hp : (⟨idS (tR m), (n : Int)⟩ : Outpoint) ≠ ⟨nameS 1, 0⟩ := fun e => (t_all hm).2 (by injection e)
  rw [may_one, maps_LR]
  have e1 : (addTx 1 Maps.zero (tR m)).txs (idS (uL (idS (tR m)) n 0)) = none := updF_other hne
  have e2 : (addTx 1 Maps.zero (tR m)).sp ⟨idS (tR m), (n : Int)⟩ = none := by
    show putIns Maps.zero.sp (tR m).ins _ _ = _
    rw [putIns_eq, if_neg]
    · rfl
    · intro h
      have h : (⟨idS (tR m), (n : Int)⟩ : Outpoint) = ⟨nameS 1, 0⟩ := by simpa [tR] using h
      exact hp h
  have e3 : (addTx 1 Maps.zero (tR m)).txs (idS (tR m)) = some (tR m, 1) := updF_same
  unfold mayS mayIn
  rw [e1, ins_uL]
  simp only [List.all_cons, List.all_nil, e2, e3, Option.isNone_none, Bool.true_and, Bool.and_true]
  simp [tR]
theorem con_u {m : Nat} (hm : m ≤ 20) (b : Nat) {n : Nat} (hn : n < 26) : conE (LR m b) [uL (idS (tR m)) n 0] = if n < m then 0 else 10 := by
  have h1 := txs_uL (lock := 0) hn (by decide) (u_all hm hn)
  unfold conE
  rw [if_neg (by simpa using h1), may_u hm b hn]
  simp
theorem sp_no {m : Nat} (hm : m ≤ 20) (b n : Nat) : ∃ z a, spM (mapsOf (LR m b)) ⟨idS (tR m), (n : Int)⟩ = (z, a, false) := by
  have hp : (⟨idS (tR m), (n : Int)⟩ : Outpoint) ≠ ⟨nameS 1, 0⟩ := fun e => (t_all hm).2 (by injection e)
  have e2 : (mapsOf (LR m b)).sp ⟨idS (tR m), (n : Int)⟩ = none := by
    rw [maps_LR]
    show putIns Maps.zero.sp (tR m).ins _ _ = _
    rw [putIns_eq, if_neg]
    · rfl
    · intro h
      have h : (⟨idS (tR m), (n : Int)⟩ : Outpoint) = ⟨nameS 1, 0⟩ := by simpa [tR] using h
      exact hp h
  unfold spM
  rw [e2]
  exact ⟨_, _, rfl⟩
def LU (m b n : Nat) : List (List Tx) := LR m b ++ [[uL (idS (tR m)) n 0]]
theorem LU_len (m b n : Nat) : (LU m b n).length = b + 2 := by simp [LU, LR_len]
theorem conL_u {m : Nat} (hm : m ≤ 20) (b : Nat) {n : Nat} (hn : n < 26) : conL (LR m b) [uL (idS (tR m)) n 0] = if n < m then LU m b n else LR m b := by
  unfold conL
  rw [con_u hm b hn]
  by_cases h : n < m
  · rw [if_pos h, if_pos rfl, if_pos h]; rfl
  · rw [if_neg h, if_neg (by decide), if_neg h]
theorem maps_LU (m b n : Nat) : mapsOf (LU m b n) = addTx (b + 2) (addTx 1 Maps.zero (tR m)) (uL (idS (tR m)) n 0) := by
  unfold LU
  rw [mapsOf_snoc, maps_LR, LR_len]; rfl
theorem sp_yes {m : Nat} (b n : Nat) : spM (mapsOf (LU m b n)) ⟨idS (tR m), (n : Int)⟩ = (idS (uL (idS (tR m)) n 0), ((b + 2 : Nat) : Int), true) := by
  rw [maps_LU]
  have e1 : (addTx (b + 2) (addTx 1 Maps.zero (tR m)) (uL (idS (tR m)) n 0)).sp ⟨idS (tR m), (n : Int)⟩ = some (idS (uL (idS (tR m)) n 0)) := by
    show putIns _ (uL (idS (tR m)) n 0).ins _ _ = _
    rw [putIns_eq, if_pos (by simp [ins_uL])]
  have e2 : (addTx (b + 2) (addTx 1 Maps.zero (tR m)) (uL (idS (tR m)) n 0)).txs (idS (uL (idS (tR m)) n 0)) = some (uL (idS (tR m)) n 0, b + 2) := updF_same
  unfold spM
  rw [e1]
  simp only [e2]
theorem un_yes {m : Nat} (b n : Nat) : unspM (mapsOf (LU m b n)) ⟨idS (tR m), (n : Int)⟩ = false := by
  unfold unspM
  rw [sp_yes]
  simp
theorem con_v {m : Nat} (hm : m ≤ 20) (b : Nat) {n : Nat} (hn : n < m) : conE (LU m b n) [uL (idS (tR m)) n 5] = 10 ∧ conL (LU m b n) [uL (idS (tR m)) n 5] = LU m b n := by
  have h1 := txs_uL (lock := 5) (n := n) (by omega) (by decide) (v_all hm hn)
  have e1 : (mapsOf (LU m b n)).sp ⟨idS (tR m), (n : Int)⟩ = some (idS (uL (idS (tR m)) n 0)) := by
    rw [maps_LU]
    show putIns _ (uL (idS (tR m)) n 0).ins _ _ = _
    rw [putIns_eq, if_pos (by simp [ins_uL])]
  have h2 : mayBlock (LU m b n) [uL (idS (tR m)) n 5] = false := by
    rw [may_one]
    unfold mayS mayIn
    rw [ins_uL]
    simp only [List.all_cons, List.all_nil, e1]
    simp
  have h : conE (LU m b n) [uL (idS (tR m)) n 5] = 10 := by
    unfold conE
    rw [if_neg (by simpa using h1), if_neg (by simp [h2])]
  exact ⟨h, by unfold conL; rw [h]; rfl⟩
end Go.Proofs.Ytaopiefbejajkaa
namespace Go.Proofs.Ytaopiefbejajkaa
open Go.RowKit
open Go.Sort
/-- An output put behind outputs of one's own. -/
theorem own_out1 {w : World} {base : Nat} {v : Value} {n : Nat} {l : List Out} (h : w.ownsRow base 55 39 v n (vsOf Out.arr l)) {b c : Nat} {x : Out} (hb : w.heap[b]? = some (.cells x.arr 55 (0, 0))) (hbase : base ≤ w.heap.size) (hl : n ≤ 1000000) :
    ∃ s w', (∀ ty, (Builtin.append_ #[49, 49] ty #[v, .slice (some ⟨b, 0, none⟩) 1 c]).run Try.prog w = .ok (.slice s.a s.n s.c) w') ∧ w'.ownsRow base 55 39 (Sl.v s) (n + 1) (vsOf Out.arr (l ++ [x])) ∧ Upd w w' (fun j => v.ownBlock = some j) := by
  obtain ⟨i0, hi0, hz0, hz1, hz2⟩ := info_parts Try.infoOut
  obtain ⟨v', w', hr, h2, h3, h4, h5⟩ := run_append_own_at (P := Try.prog) w base 49 0 55 i0 (.agg Out.zero.arr) 39 88 Try.underlying49 hi0 hz0 hz1 hz2 (by simp [Value.cells]) (by decide) v n _ h ⟨b, 0, none⟩ 1 c x.arr.toList (by simp) (World.news_of_block hb) (one_Out x) (by unfold maxLen; omega) (by omega) hbase
  obtain ⟨sa, sc, rfl, _, _⟩ := ownsRow_slice h2
  exact ⟨⟨sa, n + 1, sc⟩, w', fun ty => hr, by rw [vsOf_snoc]; exact h2, Upd.grown h3⟩
def o9 : Out := ⟨9, ⟨1, 0, 0, 0, 0, 0, Hash.zero⟩⟩
/-- The paid one, so far. -/
structure RulL (w0 w : World) (c : Nat) (s : Sl) (j : Nat) : Prop where
  inb : w.heap[c]? = some (.cells (In.mk ⟨nameS 1, 0⟩ 0 wR).arr 53 (0, 0))
  box : w.heap[c + 1]? = some (.cells (TxV.mk ⟨some ⟨c, 0, none⟩, 1, 1⟩ s 0).arr 51 (0, 0))
  own : w.ownsRow (c + 2) 55 39 s.v j (vsOf Out.arr (List.replicate j o9))
  low : w0.heap.size ≤ c
  below : Below w0.heap.size w0 w
/-- An index that lies behind a world, with the blocks L. -/
def StR (W X : World) (p : Nat) (L : List (List Tx)) : Prop := ∃ r, IdxAt X (fun q => W.heap.size ≤ q) p r (mapsOf L) (L.map (fun b => b.map idS)) ∧ Below W.heap.size W X
theorem st_con {W X : World} {p : Nat} {L : List (List Tx)} {v : TxV} {t : Tx} (h : StR W X p L) (hv : txIn W (fun q => q < W.heap.size) v t) (hL : L.length ≤ 1000000) :
    Calls Try.prog 31 #[.pointer (some ⟨p, 0, none⟩), .slice (some ⟨X.heap.size, 0, none⟩) 1 1] (X.alloc (.cells v.arr 51)) fun e w' => e = .returned (.int .i64 (conE L [t])) ∧ StR W w' p (conL L [t]) := by
  obtain ⟨r, hI, hb⟩ := h
  have hbs := hb.size
  have hba : Below X.heap.size X (X.alloc (.cells v.arr 51)) := (Below.refl _ _).alloc (Nat.le_refl _) _
  have hnf : ∀ q, q < W.heap.size → ¬ r.foot p q := fun q hq hf => by have := hI.zone q hf; omega
  refine (con_one (fun q => W.heap.size ≤ q) (hI.keep hba) (heap_alloc_new X _) (fun hf => Nat.lt_irrefl _ (hI.lt hf)) (((hv.below (hb.trans (hba.mono hbs)) (fun q hq _ => hq)).zone (fun q _ hq => hnf q hq))) hL).mono ?_
  rintro e w' ⟨r', rfl, hI', hu⟩
  refine ⟨rfl, r', hI'.zoned (fun q _ hq => ?_), ?_⟩
  · rcases hq with hq | hq
    · exact hq
    · have : X.heap.size ≤ q := Nat.le_trans hba.size hq; show W.heap.size ≤ q; omega
  · exact (hb.trans (hba.mono hbs)).trans (hu.below (by have := hba.size; omega) (fun q hq => hI.zone q hq))
theorem st_nil {W X : World} {p : Nat} {L : List (List Tx)} (h : StR W X p L) (hL : L.length ≤ 1000000) :
    Calls Try.prog 31 #[.pointer (some ⟨p, 0, none⟩), .slice none 0 0] X fun e w' => e = .returned (.int .i64 0) ∧ StR W w' p (L ++ [[]]) := by
  obtain ⟨r, hI, hb⟩ := h
  have hbs := hb.size
  refine (con_ix (fun q => W.heap.size ≤ q) (fun _ => False) p r L ⟨none, 0, 0⟩ [] [] X hI ⟨slIn_nil _ _ _ _, rfl, fun k h => absurd h (by simp)⟩ (fun _ h => absurd h (by simp)) hL (by simp)).mono ?_
  rintro e w' ⟨r', rfl, hI', hu⟩
  rw [(con_nil L).2] at hI'
  refine ⟨by rw [(con_nil L).1], r', hI'.zoned (fun q _ hq => ?_), hb.trans (hu.below hbs (fun q hq => hI.zone q hq))⟩
  rcases hq with hq | hq
  · exact hq
  · show W.heap.size ≤ q; omega
theorem StR.keep {W X Y : World} {p : Nat} {L : List (List Tx)} (h : StR W X p L) (hb : Below X.heap.size X Y) : StR W Y p L := by
  obtain ⟨r, hI, hb0⟩ := h
  exact ⟨r, hI.keep hb, hb0.trans (hb.mono hb0.size)⟩
set_option maxRecDepth 100000 in
set_option maxHeartbeats 1000000 in
theorem rules_walk (m b n : Nat) (hm : m ≤ 20) (hb : b ≤ 10) (hn : n ≤ 25) (again : Bool) (w : World) :
    Calls Try.prog 7 #[.int .i64 m, .int .i64 b, .int .i64 n, .bool again] w fun e w' => e = .returned (.bool true) ∧ Below w.heap.size w w' := by
  have t1 : decide ((m : Int) < 0) = false := decide_eq_false (by omega)
  have t2 : decide ((20 : Int) < (m : Int)) = false := decide_eq_false (by omega)
  have t3 : decide ((b : Int) < 0) = false := decide_eq_false (by omega)
  have t4 : decide ((10 : Int) < (b : Int)) = false := decide_eq_false (by omega)
  have t5 : decide ((n : Int) < 0) = false := decide_eq_false (by omega)
  have t6 : decide ((25 : Int) < (n : Int)) = false := decide_eq_false (by omega)
  have hnm := name_al 1 (by omega) w
  go_enter Try.func7, Try.ntmps7
  go_wp2_with fail
  refine hnm.mono ?_
  rintro e w1 ⟨rfl, hb1⟩
  clear hnm
  go_wp2_with fail
  obtain ⟨W, hW⟩ : ∃ W, W = (w1.alloc (.cells (In.mk ⟨nameS 1, Outpoint.zero.n⟩ In.zero.seq ⟨1, Witness.zero.key, Witness.zero.pre⟩).arr 53)).alloc (.cells (TxV.mk ⟨some ⟨w1.heap.size, 0, none⟩, 1, 1⟩ TxV.zero.outs TxV.zero.lock).arr 51) := ⟨_, rfl⟩
  rw [← hW]
  have hbW : Below w1.heap.size w1 W := hW ▸ (((Below.refl w1.heap.size w1).alloc (Nat.le_refl _) _).alloc (by simp) _)
  have gb : W.heap[w1.heap.size + 1]? = some (.cells (TxV.mk ⟨some ⟨w1.heap.size, 0, none⟩, 1, 1⟩ ⟨none, 0, 0⟩ 0).arr 51 (0, 0)) := by
    rw [hW, show w1.heap.size + 1 = (w1.alloc (.cells (In.mk ⟨nameS 1, Outpoint.zero.n⟩ In.zero.seq ⟨1, Witness.zero.key, Witness.zero.pre⟩).arr 53)).heap.size by simp]; exact heap_alloc_new _ _
  have gi : W.heap[w1.heap.size]? = some (.cells (In.mk ⟨nameS 1, 0⟩ 0 wR).arr 53 (0, 0)) := by
    rw [hW]; exact (heap_alloc_old _ _ (by simp)).trans (heap_alloc_new w1 _)
  have c0 : RulL w W w1.heap.size ⟨none, 0, 0⟩ 0 := ⟨gi, gb, World.ownsRow_nil _ _ _ _, hb1.size, hb1.trans (hbW.mono hb1.size)⟩
  have C0 := Lib.hid c0
  obtain ⟨c, hc⟩ : ∃ c, c = w1.heap.size := ⟨_, rfl⟩
  rw [← hc] at C0 ⊢
  clear hW hbW gb gi c0 hb1 hc
  go_loopw [10] (fun i wr => ∃ (j : Nat) (s : Sl), j ≤ m ∧ i = .int .i64 j ∧ RulL w wr c s j) (fun i _ => m - (intOf i).toNat)
  case atStart => exact ⟨0, _, by omega, rfl, C0.out⟩
  case round =>
    clear C0
    obtain ⟨j, s, hj, rfl, hC⟩ := hrel
    by_cases hlt : j < m
    · have e1 : decide ((j : Int) < (m : Int)) = true := decide_eq_true (by omega)
      have HC := Lib.hid hC
      have cs : wr.cell? ⟨c + 1, 1, none⟩ = some (.slice s.a s.n s.c) := by rw [(cells_known hC.box).1]; exact TxV.arr_1 _
      obtain ⟨W2, hW2⟩ : ∃ W2, W2 = wr.alloc (.cells o9.arr 55) := ⟨_, rfl⟩
      have hb2 : Below wr.heap.size wr W2 := hW2 ▸ (Below.refl _ _).alloc (Nat.le_refl _) _
      have hcl := (cells_known hC.box).2.2
      obtain ⟨s', w3, hr3, ho3, hu3⟩ := own_out1 (c := 1) (ownsRow_below hC.own hb2) (hW2 ▸ heap_alloc_new wr (.cells o9.arr 55)) (by have := hb2.size; omega) (by omega)
      have hne : ∀ q, s.v.ownBlock = some q → c + 2 ≤ q := own_base hC.own
      have hbox3 : w3.heap[c + 1]? = some (.cells (TxV.mk ⟨some ⟨c, 0, none⟩, 1, 1⟩ s 0).arr 51 (0, 0)) := (hu3.block _ (by have := hb2.size; omega) (fun e => by have := hne _ e; omega)).trans ((hb2.block _ hcl).trans hC.box)
      have hin3 : w3.heap[c]? = some (.cells (In.mk ⟨nameS 1, 0⟩ 0 wR).arr 53 (0, 0)) := (hu3.block _ (by have := hb2.size; omega) (fun e => by have := hne _ e; omega)).trans ((hb2.block _ (by omega)).trans hC.inb)
      have fz : w3.frozen? ⟨c + 1, 1, none⟩ = false := (cells_known hbox3).2.1 1
      have cc : w3.cell? ⟨c + 1, 1, none⟩ = some (.slice s.a s.n s.c) := by rw [(cells_known hbox3).1]; exact TxV.arr_1 _
      rw [hW2] at hr3
      have HR := Lib.hid (hr3 49)
      have ho9 : (#[] : Array Value) = #[] := rfl
      clear hr3
      have HX := Lib.hid (And.intro ho3 (And.intro hbox3 (And.intro hin3 hu3)))
      have HB2 := Lib.hid hb2
      clear ho9 ho3 hbox3 hin3 hu3 hC hW2 hb2
      go_wp2_with (at_builtin; refine wpList_run rfl _ _ _ _ rfl _ _ rfl rfl HR.out ?_)
      have hu := Upd.setCell w3 ⟨c + 1, 1, none⟩ (.slice s'.a s'.n s'.c)
      have hc3 : c + 1 < w3.heap.size := (cells_known HX.out.2.1).2.2
      have hbl3 : Below w.heap.size w w3 := HC.out.below.trans ((HB2.out.mono HC.out.below.size).trans (HX.out.2.2.2.below (by have := HC.out.below.size; have := HB2.out.size; omega) (fun q e => by have := hne q e; have := HC.out.low; omega)))
      refine ⟨⟨j + 1, s', by omega, by go_num, ⟨(hu.block c (by omega) (by show ¬ (c = c + 1); omega)).trans HX.out.2.2.1, ?_, ?_, HC.out.low, hbl3.trans (hu.below hbl3.size (fun q e => by have := HC.out.low; have e : q = c + 1 := e; omega))⟩⟩, by simp [intOf]; omega⟩
      · rw [heap_set HX.out.2.1]; rfl
      · rw [List.replicate_succ']
        exact ownsRow_upd HX.out.1 hu (fun q e e2 => by have := own_base HX.out.1 q e; have e2 : q = c + 1 := e2; omega)
    · obtain rfl : j = m := by omega
      clear hlt hj
      have hsn : s.n = j := by
        obtain ⟨a', c', e, _⟩ := ownsRow_slice hC.own
        unfold Sl.v at e
        injection e with e1 e2 e3
      have hcl := (cells_known hC.box).2.2
      have htx : txIn wr (fun q => c ≤ q ∧ q < wr.heap.size) ⟨⟨some ⟨c, 0, none⟩, 1, 1⟩, s, 0⟩ (tR j) :=
        ⟨slIn_one hC.inb (by simp) ⟨Nat.le_refl _, by omega⟩, (slIn_own (l := (tR j).outs) (by decide) (fun x => by simp) (by rw [show (tR j).outs.length = j by simp [tR]]; exact hC.own) (by rw [show (tR j).outs.length = j by simp [tR]]; exact hsn)).zone (fun q hq h => ⟨by omega, hq⟩), rfl⟩
      have r0 : row? wr ⟨c + 1, 0, none⟩ 3 = some (TxV.mk ⟨some ⟨c, 0, none⟩, 1, 1⟩ s 0).arr := row_of_block hC.box (by simp)
      have hid := id_ref _ (tR j) wr htx.isTx
      obtain ⟨tv, htv⟩ : ∃ tv : TxV, tv = ⟨⟨some ⟨c, 0, none⟩, 1, 1⟩, s, 0⟩ := ⟨_, rfl⟩
      rw [← htv] at htx r0 hid
      have hbox := hC.box
      rw [← htv] at hbox
      obtain ⟨H, hH⟩ : ∃ H, H = idS (tR j) := ⟨_, rfl⟩
      rw [← hH] at hid
      have HC := Lib.hid (And.intro hC.low hC.below)
      have HTX := Lib.hid (And.intro htx hbox)
      have HHH := Lib.hid hH
      clear hC htx htv hsn hbox hH
      go_wp2_with fail
      refine hid.mono ?_
      rintro e w5 ⟨rfl, hb5⟩
      clear hid
      go_upto_region 9 with fail
      obtain ⟨W5, hW5⟩ : ∃ W5, W5 = w5.alloc (.cells H.arr 30) := ⟨_, rfl⟩
      have hb5' : Below wr.heap.size wr W5 := hb5.trans ((hW5 ▸ (Below.refl w5.heap.size w5).alloc (Nat.le_refl _) _ : Below w5.heap.size w5 W5).mono hb5.size)
      have g5 : W5.heap[w5.heap.size]? = some (.cells H.arr 30 (0, 0)) := hW5 ▸ heap_alloc_new w5 _
      rw [← hW5]
      clear hW5
      have r5 : row? W5 ⟨w5.heap.size, 0, none⟩ 32 = some H.arr := row_of_block g5 (by simp)
      go_upto_region 12 with fail
      obtain ⟨W6, hW6⟩ : ∃ W6, W6 = ((W5.alloc (.cells (In.mk ⟨H, n⟩ In.zero.seq ⟨1, Witness.zero.key, Witness.zero.pre⟩).arr 53)).alloc (.cells (TxV.mk ⟨some ⟨W5.heap.size, 0, none⟩, 1, 1⟩ TxV.zero.outs TxV.zero.lock).arr 51)).alloc (.cells (TxV.mk ⟨some ⟨W5.heap.size, 0, none⟩, 1, 1⟩ TxV.zero.outs 5).arr 51) := ⟨_, rfl⟩
      rw [← hW6]
      have hb6 : Below W5.heap.size W5 W6 := hW6 ▸ ((((Below.refl W5.heap.size W5).alloc (Nat.le_refl _) _).alloc (by simp) _).alloc (by simp; omega) _)
      have hz6 : W6.heap.size = W5.heap.size + 3 := by rw [hW6]; simp
      have i0 : W6.heap[W5.heap.size]? = some (.cells (In.mk ⟨H, n⟩ 0 wR).arr 53 (0, 0)) := by
        rw [hW6]; exact ((heap_alloc_old _ _ (by simp; omega)).trans (heap_alloc_old _ _ (by simp))).trans (heap_alloc_new W5 _)
      have i1 : W6.heap[W5.heap.size + 1]? = some (.cells (TxV.mk ⟨some ⟨W5.heap.size, 0, none⟩, 1, 1⟩ ⟨none, 0, 0⟩ 0).arr 51 (0, 0)) := by
        rw [hW6]; refine (heap_alloc_old _ _ (by simp)).trans ?_
        rw [show W5.heap.size + 1 = (W5.alloc (.cells (In.mk ⟨H, n⟩ In.zero.seq ⟨1, Witness.zero.key, Witness.zero.pre⟩).arr 53)).heap.size by simp]; exact heap_alloc_new _ _
      have i2 : W6.heap[W5.heap.size + 1 + 1]? = some (.cells (TxV.mk ⟨some ⟨W5.heap.size, 0, none⟩, 1, 1⟩ ⟨none, 0, 0⟩ 5).arr 51 (0, 0)) := by
        rw [hW6, show W5.heap.size + 1 + 1 = ((W5.alloc (.cells (In.mk ⟨H, n⟩ In.zero.seq ⟨1, Witness.zero.key, Witness.zero.pre⟩).arr 53)).alloc (.cells (TxV.mk ⟨some ⟨W5.heap.size, 0, none⟩, 1, 1⟩ TxV.zero.outs TxV.zero.lock).arr 51)).heap.size by simp]; exact heap_alloc_new _ _
      have hb06 : Below wr.heap.size wr W6 := hb5'.trans (hb6.mono hb5'.size)
      have xt : txIn W6 (fun q => q < W6.heap.size) tv (tR j) := (HTX.out.1.keep hb06).zone (fun q hq _ => hq)
      have xu : txIn W6 (fun q => q < W6.heap.size) ⟨⟨some ⟨W5.heap.size, 0, none⟩, 1, 1⟩, ⟨none, 0, 0⟩, 0⟩ (uL (idS (tR j)) n 0) :=
        ⟨slIn_one (x := (⟨⟨idS (tR j), n⟩, 0, wR⟩ : In)) (by rw [← HHH.out]; exact i0) (by simp) (by omega), slIn_nil _ _ _ _, rfl⟩
      have xv : txIn W6 (fun q => q < W6.heap.size) ⟨⟨some ⟨W5.heap.size, 0, none⟩, 1, 1⟩, ⟨none, 0, 0⟩, 5⟩ (uL (idS (tR j)) n 5) :=
        ⟨slIn_one (x := (⟨⟨idS (tR j), n⟩, 0, wR⟩ : In)) (by rw [← HHH.out]; exact i0) (by simp) (by omega), slIn_nil _ _ _ _, rfl⟩
      have RT : ∀ X, Below W6.heap.size W6 X → row? X ⟨c + 1, 0, none⟩ 3 = some tv.arr ∧ row? X ⟨w5.heap.size, 0, none⟩ 32 = some H.arr ∧ row? X ⟨W5.heap.size + 1, 0, none⟩ 3 = some (TxV.mk ⟨some ⟨W5.heap.size, 0, none⟩, 1, 1⟩ ⟨none, 0, 0⟩ 0).arr ∧ row? X ⟨W5.heap.size + 1 + 1, 0, none⟩ 3 = some (TxV.mk ⟨some ⟨W5.heap.size, 0, none⟩, 1, 1⟩ ⟨none, 0, 0⟩ 5).arr := fun X hX =>
        ⟨row_of_block ((hX.block _ (Nat.lt_of_lt_of_le hcl hb06.size)).trans ((hb06.block _ hcl).trans HTX.out.2)) (by simp), row_of_block ((hX.block _ (by have := (cells_known g5).2.2; omega)).trans ((hb6.block _ (cells_known g5).2.2).trans g5)) (by simp), row_of_block ((hX.block _ (by omega)).trans i1) (by simp), row_of_block ((hX.block _ (by omega)).trans i2) (by simp)⟩
      have hnew := new_ix W6
      have hbl6 : Below w.heap.size w W6 := HC.out.2.trans (hb06.mono HC.out.2.size)
      have H6 := Lib.hid (And.intro xt (And.intro xu (And.intro xv (And.intro hbl6 hz6))))
      have HRT := Lib.hid RT
      clear hW6 hb6 hz6 i0 i1 i2 hb06 xt xu xv RT hbl6 r5 g5 hb5' hb5 hcl r0
      go_wp2_with fail
      refine hnew.mono ?_
      rintro e w7 ⟨p, r, rfl, hI7, hb7⟩
      have st7 : StR W6 w7 p [] := ⟨r, hI7, hb7⟩
      have k1 := st_con st7 H6.out.1 (by simp)
      rw [(con_tR hm).1, (con_tR hm).2] at k1
      have r7 := (HRT.out w7 hb7).1
      clear hnew hI7 hb7 st7
      go_wp2_with fail
      refine k1.mono ?_
      rintro e w8 ⟨rfl, st8⟩
      have ST8 := Lib.hid st8
      clear k1 r7 st8
      go_wp2_with fail
      go_loopw [15] (fun i wx => ∃ q : Nat, q ≤ b ∧ i = .int .i64 q ∧ Hid (StR W6 wx p (LR j q))) (fun i _ => b - (intOf i).toNat)
      case atStart => exact ⟨0, by omega, rfl, ST8.out⟩
      case round =>
        clear ST8
        obtain ⟨q, hq, rfl, hst⟩ := hrel
        by_cases hqb : q < b
        · have e1 : decide ((q : Int) < (b : Int)) = true := decide_eq_true (by omega)
          have k2 := st_nil hst.out (by rw [LR_len]; omega)
          rw [← LR_snoc] at k2
          clear hst
          go_wp2_with fail
          refine k2.mono ?_
          rintro e w9 ⟨rfl, st9⟩
          have ST9 := Lib.hid st9
          clear k2 st9
          go_wp2_with fail
          exact ⟨⟨q + 1, by omega, by go_num, ST9.out⟩, by simp [intOf]; omega⟩
        · obtain rfl : q = b := by omega
          clear hqb hq
          have hL : (LR j q).length ≤ 1000000 := by rw [LR_len]; omega
          have k3 := st_con hst.out H6.out.1 hL
          rw [(con_again hm q).1, (con_again hm q).2] at k3
          have hbx : Below W6.heap.size W6 wr := by obtain ⟨_, _, h⟩ := hst.out; exact h
          have rt := (HRT.out wr hbx).1
          go_upto_region 20 with fail
          go_cut [97] (fun bb wx => bb = .bool false ∧ Hid (StR W6 wx p (LR j q)))
          case first =>
            cases again
            · go_wp2_with fail
              go_meet
              exact ⟨rfl, hst⟩
            · go_wp2_with fail
              refine k3.mono ?_
              rintro e w9 ⟨rfl, st9⟩
              have ST9 := Lib.hid st9
              clear k3 st9
              go_wp2_with fail
              go_meet
              exact ⟨rfl, ST9⟩
          case rest =>
            obtain ⟨rfl, hst2⟩ := hcut
            have hbx2 : Below W6.heap.size W6 wc := by obtain ⟨_, _, h⟩ := hst2.out; exact h
            obtain ⟨rt1, rt2, rt3, rt4⟩ := HRT.out wc hbx2
            have k4 := st_con hst2.out H6.out.2.1 hL
            rw [con_u hm q (n := n) (by omega), conL_u hm q (n := n) (by omega)] at k4
            clear hst k3 rt hbx
            by_cases hnj : n < j
            · rw [if_pos hnj, if_pos hnj] at k4
              have e7 : decide ((j : Int) ≤ (n : Int)) = false := decide_eq_false (by omega)
              have n7 : ¬ j ≤ n := by omega
              have HNJ := Lib.hid hnj
              clear hnj hst2
              go_wp2_with fail
              refine k4.mono ?_
              rintro e w9 ⟨rfl, st9⟩
              clear k4
              obtain ⟨r9, hI9, hb9⟩ := st9
              have hs := spender_ix _ p r9 _ _ ⟨H, n⟩ (by show i64 (n : Int); unfold i64; omega) w9 hI9
              rw [HHH.out, sp_yes, ← HHH.out] at hs
              obtain ⟨z, hz⟩ : ∃ z, z = idS (uL H n 0) := ⟨_, rfl⟩
              rw [← hz] at hs
              have s2 := (HRT.out w9 hb9).2.1
              have S9 := Lib.hid (And.intro hI9 hb9)
              clear hI9 hb9 hz rt1 rt2 rt3 rt4
              go_wp2_with fail
              refine hs.mono ?_
              rintro e w10 ⟨rfl, hb10⟩
              clear hs
              go_upto_region 28 with fail
              obtain ⟨W11, hW11⟩ : ∃ W11, W11 = w10.alloc (.cells z.arr 30) := ⟨_, rfl⟩
              have hb11 : Below w9.heap.size w9 W11 := hb10.trans ((hW11 ▸ (Below.refl w10.heap.size w10).alloc (Nat.le_refl _) _ : Below w10.heap.size w10 W11).mono hb10.size)
              rw [← hW11]
              clear hW11
              have st11 : StR W6 W11 p (LU j q n) := StR.keep ⟨r9, S9.out.1, S9.out.2⟩ hb11
              have k5 := st_con st11 H6.out.2.2.1 (by rw [LU_len]; omega)
              rw [(con_v hm q HNJ.out).1, (con_v hm q HNJ.out).2] at k5
              obtain ⟨_, _, s11, s12⟩ := HRT.out W11 (S9.out.2.trans (hb11.mono S9.out.2.size))
              clear st11 hb10 hb11
              go_wp2_with fail
              refine k5.mono ?_
              rintro e w12 ⟨rfl, r12, hI12, hb12⟩
              clear k5
              have hh : Calls Try.prog 32 #[.pointer (some ⟨p, 0, none⟩)] w12 fun e w' => e = .returned (.int .i64 ((q : Int) + 2)) ∧ w12 = w' := by
                have := height_ix _ p r12 _ _ w12 hI12
                rw [List.length_map, LU_len] at this
                push_cast at this
                exact this
              have hun := unspent_ix _ p r12 _ _ ⟨H, n⟩ (by show i64 (n : Int); unfold i64; omega) w12 hI12
              rw [HHH.out, un_yes, ← HHH.out] at hun
              have s13 := (HRT.out w12 hb12).2.1
              have S12 := Lib.hid (H6.out.2.2.2.1.trans (hb12.mono H6.out.2.2.2.1.size))
              clear hI12 hb12 s11 s12
              go_wp2_with (first | (go_at_call 32; refine hh.mono ?_; rintro e w13 ⟨rfl, rfl⟩) | (go_at_call 37; refine hun.mono ?_; rintro e w14 ⟨rfl, hb14⟩; have haw := awake11 w14) | (go_at_call 29; refine haw.mono ?_; rintro e w15 ⟨rfl, hb15⟩))
              go_ret
              exact ⟨rfl, S12.out.trans ((hb14.trans (hb15.mono hb14.size)).mono S12.out.size)⟩
            · rw [if_neg hnj, if_neg hnj] at k4
              have e7 : decide ((j : Int) ≤ (n : Int)) = true := decide_eq_true (by omega)
              have n7 : j ≤ n := by omega
              clear hnj hst2
              go_wp2_with fail
              refine k4.mono ?_
              rintro e w9 ⟨rfl, r9, hI9, hb9⟩
              clear k4
              have hs := spender_ix _ p r9 _ _ ⟨H, n⟩ (by show i64 (n : Int); unfold i64; omega) w9 hI9
              obtain ⟨z, a, hza⟩ := sp_no hm q n
              rw [HHH.out, hza, ← HHH.out] at hs
              have s2 := (HRT.out w9 hb9).2.1
              have S9 := Lib.hid (And.intro hI9 hb9)
              clear hI9 hb9 hza rt1 rt2 rt3 rt4
              go_wp2_with fail
              refine hs.mono ?_
              rintro e w10 ⟨rfl, hb10⟩
              clear hs
              go_upto_region 28 with fail
              obtain ⟨W11, hW11⟩ : ∃ W11, W11 = w10.alloc (.cells z.arr 30) := ⟨_, rfl⟩
              have hb11 : Below w9.heap.size w9 W11 := hb10.trans ((hW11 ▸ (Below.refl w10.heap.size w10).alloc (Nat.le_refl _) _ : Below w10.heap.size w10 W11).mono hb10.size)
              rw [← hW11]
              clear hW11
              have hh : Calls Try.prog 32 #[.pointer (some ⟨p, 0, none⟩)] W11 fun e w' => e = .returned (.int .i64 (1 + (q : Int))) ∧ W11 = w' := by
                have := height_ix _ p r9 _ _ W11 (S9.out.1.keep hb11)
                rw [List.length_map, LR_len] at this
                push_cast at this
                rw [Int.add_comm] at this
                exact this
              have haw := awake11 W11
              have S12 := Lib.hid ((H6.out.2.2.2.1.trans (S9.out.2.mono H6.out.2.2.2.1.size)).trans (hb11.mono (Nat.le_trans H6.out.2.2.2.1.size S9.out.2.size)))
              clear hb10 hb11
              go_wp2_with (first | (go_at_call 32; refine hh.mono ?_; rintro e w13 ⟨rfl, rfl⟩) | (go_at_call 29; refine haw.mono ?_; rintro e w15 ⟨rfl, hb15⟩))
              go_ret
              exact ⟨rfl, S12.out.trans (hb15.mono S12.out.size)⟩
set_option maxRecDepth 100000 in
set_option maxHeartbeats 1000000 in
theorem rules_any (m b n : Int) (again : Bool) (w : World) :
    Calls Try.prog 7 #[.int .i64 m, .int .i64 b, .int .i64 n, .bool again] w fun e w' => e = .returned (.bool true) ∧ Below w.heap.size w w' := by
  have haw := awake11 w
  by_cases h0 : m < 0
  · have t0 : decide (m < 0) = true := decide_eq_true h0
    clear h0
    go_enter Try.func7, Try.ntmps7
    go_wp2_with (go_at_call 29; refine haw.mono ?_; rintro e w12 ⟨rfl, hb12⟩)
    go_ret
    exact ⟨rfl, hb12⟩
  by_cases h1 : 20 < m
  · have t1 : decide (20 < m) = true := decide_eq_true h1
    have t0 : decide (m < 0) = false := decide_eq_false h0
    clear h0 h1
    go_enter Try.func7, Try.ntmps7
    go_wp2_with (go_at_call 29; refine haw.mono ?_; rintro e w12 ⟨rfl, hb12⟩)
    go_ret
    exact ⟨rfl, hb12⟩
  by_cases h2 : b < 0
  · have t2 : decide (b < 0) = true := decide_eq_true h2
    have t0 : decide (m < 0) = false := decide_eq_false h0
    have t1 : decide (20 < m) = false := decide_eq_false h1
    clear h0 h1 h2
    go_enter Try.func7, Try.ntmps7
    go_wp2_with (go_at_call 29; refine haw.mono ?_; rintro e w12 ⟨rfl, hb12⟩)
    go_ret
    exact ⟨rfl, hb12⟩
  by_cases h3 : 10 < b
  · have t3 : decide (10 < b) = true := decide_eq_true h3
    have t0 : decide (m < 0) = false := decide_eq_false h0
    have t1 : decide (20 < m) = false := decide_eq_false h1
    have t2 : decide (b < 0) = false := decide_eq_false h2
    clear h0 h1 h2 h3
    go_enter Try.func7, Try.ntmps7
    go_wp2_with (go_at_call 29; refine haw.mono ?_; rintro e w12 ⟨rfl, hb12⟩)
    go_ret
    exact ⟨rfl, hb12⟩
  by_cases h4 : n < 0
  · have t4 : decide (n < 0) = true := decide_eq_true h4
    have t0 : decide (m < 0) = false := decide_eq_false h0
    have t1 : decide (20 < m) = false := decide_eq_false h1
    have t2 : decide (b < 0) = false := decide_eq_false h2
    have t3 : decide (10 < b) = false := decide_eq_false h3
    clear h0 h1 h2 h3 h4
    go_enter Try.func7, Try.ntmps7
    go_wp2_with (go_at_call 29; refine haw.mono ?_; rintro e w12 ⟨rfl, hb12⟩)
    go_ret
    exact ⟨rfl, hb12⟩
  by_cases h5 : 25 < n
  · have t5 : decide (25 < n) = true := decide_eq_true h5
    have t0 : decide (m < 0) = false := decide_eq_false h0
    have t1 : decide (20 < m) = false := decide_eq_false h1
    have t2 : decide (b < 0) = false := decide_eq_false h2
    have t3 : decide (10 < b) = false := decide_eq_false h3
    have t4 : decide (n < 0) = false := decide_eq_false h4
    clear h0 h1 h2 h3 h4 h5
    go_enter Try.func7, Try.ntmps7
    go_wp2_with (go_at_call 29; refine haw.mono ?_; rintro e w12 ⟨rfl, hb12⟩)
    go_ret
    exact ⟨rfl, hb12⟩
  obtain ⟨m', rfl⟩ := Int.eq_ofNat_of_zero_le (show 0 ≤ m by omega)
  obtain ⟨b', rfl⟩ := Int.eq_ofNat_of_zero_le (show 0 ≤ b by omega)
  obtain ⟨n', rfl⟩ := Int.eq_ofNat_of_zero_le (show 0 ≤ n by omega)
  exact rules_walk m' b' n' (by omega) (by omega) (by omega) again w
end Go.Proofs.Ytaopiefbejajkaa
