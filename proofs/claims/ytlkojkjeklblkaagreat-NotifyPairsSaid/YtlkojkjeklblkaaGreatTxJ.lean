/- Contracts of package tx, continued: are two transactions alike? Contracts of package tx, continued: are two transactions alike? What the document fixes of chapter 5. What the document fixes of chapter 5. Lists of inputs and outputs in memory of their own. -/
import Derived.Test.YtlkojkjeklblkaaGreatTxF
import Derived.Test.YtlkojkjeklblkaaGreatTxC
import Derived.Deep.AppendLies
set_option linter.unusedSimpArgs false
set_option linter.unusedVariables false
namespace Go.Proofs.YtlkojkjeklblkaaGreat
open Go.RowKit
attribute [local go_sem] row?_drewN
theorem Below.drewN_ {B : Nat} {w w' : World} (h : Below B w w') (n : Nat) : Below B w (w'.drewN n) := ⟨h.os, h.tape, h.output, h.size, h.block⟩
end Go.Proofs.YtlkojkjeklblkaaGreat
namespace Go.Proofs.YtlkojkjeklblkaaGreat
open Go.RowKit
def sameS (a b : Tx) : Bool := decide (a.lock = b.lock) && decide (a.ins = b.ins) && decide (a.outs = b.outs)
/-! ### what the document fixes -/
def t5 : Tx := { ins := [{ In.zero with wit := { kind := 1, key := 1, pre := ByteArray.empty } }], outs := [{ value := 5, script := { Script.zero with kind := 1, key := 1 } }], lock := 0 }
def u5 : Tx := { t5 with ins := [{ In.zero with wit := { kind := 3, key := 9, pre := ByteArray.empty } }] }
def tz : Tx := { ins := [], outs := [], lock := 0 }
theorem c_t5 : checkS t5 = 0 := by decide +kernel
theorem c_u5 : checkS u5 = 0 := by decide +kernel
theorem c_tz : checkS tz = 1 := by decide +kernel
theorem w_t5 : weightS t5 = 414 := by decide +kernel
theorem id_t5u5 : idS t5 = idS u5 := by unfold idS; rw [c_t5, c_u5]; rfl
theorem id_t5 : idS t5 ≠ Hash.zero := by decide +kernel
theorem same5 : sameS t5 u5 = false := by decide +kernel
end Go.Proofs.YtlkojkjeklblkaaGreat
namespace Go.Proofs.YtlkojkjeklblkaaGreat
open Go.RowKit
open Go.Sort
theorem isTx.regrown {W : World} {v : TxV} {t : Tx} (h : isTx W v t W.heap.size) (d : Nat) (os : Array Obj) : isTx (grow (redrawn W d) os) v t (grow (redrawn W d) os).heap.size :=
  ⟨h.1.regrown (Nat.le_refl _) d os, h.2.1.regrown (Nat.le_refl _) d os, h.2.2⟩
theorem isSl_one {α : Type} {w : World} {b sz c : Nat} {enc : α → Array Value} {x : α} {t : TypeId} (h : w.heap[b]? = some (.cells (enc x) t (0, 0))) (hs : (enc x).size = sz) (hc : 1 ≤ c) : isSl w ⟨some ⟨b, 0, none⟩, 1, c⟩ sz enc [x] w.heap.size := by
  refine ⟨rfl, hc, fun _ => ⟨b, 0, rfl, (cells_known h).2.2, fun k hk => ?_⟩⟩
  have : k = 0 := by simpa using hk
  subst this
  unfold row?
  simp only [h]
  rw [if_pos (And.intro trivial (by simp [hs]))]
  congr 1
  rw [show 0 + 0 * sz + sz = (enc x).size by omega, show 0 + 0 * sz = 0 by omega]
  exact Array.extract_size
theorem isSl_nil {α : Type} (w : World) (sz : Nat) (enc : α → Array Value) (B : Nat) : isSl w ⟨none, 0, 0⟩ sz enc [] B := ⟨rfl, Nat.le_refl _, fun h => absurd rfl h⟩
theorem isTx_zero (w : World) (B : Nat) : isTx w TxV.zero tz B := ⟨isSl_nil _ _ _ _, isSl_nil _ _ _ _, rfl⟩
theorem check5 {v : TxV} {w : World} (h : isTx w v t5 w.heap.size) : Calls Tryz.prog 147 #[.agg v.arr] w fun e w' => e = .returned (.int .i64 0) ∧ Below w.heap.size w w' := by
  have := check_tx v t5 w h; rwa [c_t5] at this
theorem checkz (w : World) : Calls Tryz.prog 147 #[.agg TxV.zero.arr] w fun e w' => e = .returned (.int .i64 1) ∧ Below w.heap.size w w' := by
  have := check_tx TxV.zero tz w (isTx_zero _ _); rwa [c_tz] at this
theorem idu5 {v : TxV} {w : World} (h : isTx w v u5 w.heap.size) : Calls Tryz.prog 99 #[.agg v.arr] w fun e w' => e = .returned (.agg (idS t5).arr) ∧ Below w.heap.size w w' := by
  rw [id_t5u5]; exact id_tx v u5 w h
end Go.Proofs.YtlkojkjeklblkaaGreat
namespace Go.Proofs.YtlkojkjeklblkaaGreat
open Go.RowKit
theorem Tryz.infoIn : (Tryz.prog.info? 68).map (fun i => (i.zero, i.size, i.bytes)) = some (some (.agg In.zero.arr), 37, 80) := by kernel_rfl
theorem Tryz.infoOut : (Tryz.prog.info? 196).map (fun i => (i.zero, i.size, i.bytes)) = some (some (.agg Out.zero.arr), 39, 88) := by kernel_rfl
/-- Structs as cells, one behind the other. -/
def vsOf {α : Type} (enc : α → Array Value) (l : List α) : List Value := l.flatMap fun x => (enc x).toList
theorem vsOf_snoc {α : Type} (enc : α → Array Value) (l : List α) (x : α) : vsOf enc (l ++ [x]) = vsOf enc l ++ (enc x).toList := by simp [vsOf]
theorem vsOf_length {α : Type} (enc : α → Array Value) (n : Nat) (h : ∀ x, (enc x).size = n) (l : List α) : (vsOf enc l).length = l.length * n := by
  induction l with
  | nil => simp [vsOf]
  | cons x l ih => simp only [vsOf, List.flatMap_cons, List.length_append, Array.length_toList, h, List.length_cons] at *; rw [ih, Nat.add_mul]; omega
theorem vsOf_at {α : Type} (enc : α → Array Value) (n : Nat) (h : ∀ x, (enc x).size = n) (l : List α) (k : Nat) (hk : k < l.length) : ((vsOf enc l).drop (k * n)).take n = (enc l[k]).toList := by
  have e : l = l.take k ++ (l[k] :: l.drop (k + 1)) := by rw [← List.drop_eq_getElem_cons hk, List.take_append_drop]
  have hg : ∀ (A : List α) (x : α) (B : List α), vsOf enc (A ++ x :: B) = vsOf enc A ++ ((enc x).toList ++ vsOf enc B) := by intro A x B; simp [vsOf]
  have h1 : vsOf enc l = vsOf enc (l.take k) ++ ((enc l[k]).toList ++ vsOf enc (l.drop (k + 1))) := (congrArg (vsOf enc) e).trans (hg _ _ _)
  have h2 : (vsOf enc (l.take k)).length = k * n := by rw [vsOf_length enc n h, List.length_take, Nat.min_eq_left (by omega)]
  rw [h1, ← h2, List.drop_left]
  have h3 : (enc l[k]).toList.length = n := by simp [h]
  rw [← h3, List.take_left]
/-- A list that a slice has for its own, read. -/
theorem isSl_own {α : Type} {w : World} {base : Nat} {e : TypeId} {n : Nat} {enc : α → Array Value} {s : Sl} {l : List α} (hn : 0 < n) (he : ∀ x, (enc x).size = n) (h : w.ownsRow base e n s.v l.length (vsOf enc l)) (hl : s.n = l.length) : isSl w s n enc l w.heap.size := by
  obtain ⟨sa, sn, sc⟩ := s
  simp only at hl
  subst hl
  rcases h.2 with ⟨hv, h0⟩ | ⟨g, cap, cur, hv, hg, hh, hnc, hm, hsz, ht⟩
  · unfold Sl.v at hv
    injection hv with h1 h2 h3
    subst h1 h3
    exact ⟨rfl, by simp [h0], fun hne => absurd (List.eq_nil_of_length_eq_zero h0) hne⟩
  · unfold Sl.v at hv
    injection hv with h1 h2 h3
    subst h1 h3
    dsimp only at hnc hsz hm
    refine ⟨rfl, hnc, fun hne => ⟨g, 0, rfl, (Array.getElem?_eq_some_iff.1 hh).1, fun k hk => ?_⟩⟩
    unfold row?
    simp only [hh]
    have hkn : 0 + k * n + n ≤ cur.size := by
      have h1 : (k + 1) * n ≤ sc * n := Nat.mul_le_mul_right n (by omega)
      rw [Nat.add_mul] at h1
      omega
    rw [if_pos (And.intro trivial hkn)]
    congr 1
    apply Array.ext'
    have h2 := vsOf_at enc n he l k hk
    rw [← ht] at h2
    rw [← h2, Array.toList_extract, Nat.zero_add]
    simp only [List.extract_eq_take_drop]
    rw [show k * n + n - k * n = n by omega, List.drop_take, List.take_take, Nat.min_eq_left]
    have h1 : (k + 1) * n ≤ l.length * n := Nat.mul_le_mul_right n (by omega)
    rw [Nat.add_mul] at h1
    omega
/-- A transaction that is being made: block tb is a variable that holds it; its lists are its own. -/
def madeTx (w : World) (base tb : Nat) (v : TxV) (t : Tx) : Prop :=
  w.heap[tb]? = some (.cells v.arr 72 (0, 0)) ∧ w.ownsRow base 68 37 v.ins.v t.ins.length (vsOf In.arr t.ins) ∧ w.ownsRow base 196 39 v.outs.v t.outs.length (vsOf Out.arr t.outs) ∧ v.lock = t.lock ∧ v.ins.n = t.ins.length ∧ v.outs.n = t.outs.length ∧
    v.ins.v.ownBlock ≠ some tb ∧ v.outs.v.ownBlock ≠ some tb ∧ (∀ k, v.ins.v.ownBlock = some k → v.outs.v.ownBlock ≠ some k)
theorem madeTx.isTx {w : World} {base tb : Nat} {v : TxV} {t : Tx} (h : madeTx w base tb v t) : isTx w v t w.heap.size :=
  ⟨isSl_own (by decide) (fun x => by simp) h.2.1 h.2.2.2.2.1, isSl_own (by decide) (fun x => by simp) h.2.2.1 h.2.2.2.2.2.1, h.2.2.2.1⟩
/-- The blocks that it has. -/
def txFoot (tb : Nat) (v : TxV) (k : Nat) : Prop := k = tb ∨ v.ins.v.ownBlock = some k ∨ v.outs.v.ownBlock = some k
theorem madeTx.upd {w w' : World} {base tb : Nat} {v : TxV} {t : Tx} {S : Nat → Prop} (h : madeTx w base tb v t) (hu : Upd w w' S) (hs : ∀ k, txFoot tb v k → ¬ S k) : madeTx w' base tb v t := by
  obtain ⟨h1, h2, h3, h4⟩ := h
  exact ⟨by rw [hu.block tb (cells_known h1).2.2 (hs tb (.inl rfl))]; exact h1, ownsRow_upd h2 hu (fun k hk => hs k (.inr (.inl hk))), ownsRow_upd h3 hu (fun k hk => hs k (.inr (.inr hk))), h4⟩
theorem madeTx.below {w w' : World} {base tb : Nat} {v : TxV} {t : Tx} (h : madeTx w base tb v t) (hb : Below w.heap.size w w') : madeTx w' base tb v t :=
  h.upd (S := fun _ => False) (Upd.of_below hb _) (fun _ _ hf => hf)
theorem madeTx.lt {w : World} {base tb : Nat} {v : TxV} {t : Tx} (h : madeTx w base tb v t) {k : Nat} (hk : txFoot tb v k) : k < w.heap.size := by
  rcases hk with rfl | hk | hk
  · exact (cells_known h.1).2.2
  · exact (h.2.1.lt k hk).2
  · exact (h.2.2.1.lt k hk).2
/-- An input behind the others: what is behind the append and the store. -/
theorem madeTx.snocIn {w2 w3 : World} {base tb : Nat} {v : TxV} {t : Tx} (h : madeTx w2 base tb v t) (x : In) {v' : Value} {n : Nat} (hn : n = t.ins.length + 1) (hg : w2.grownBy w3 v.ins.v.ownBlock)
    (hown : w3.ownsRow base 68 37 v' n (vsOf In.arr t.ins ++ x.arr.toList)) (hnew : ∀ k, v'.ownBlock = some k → v.ins.v.ownBlock = some k ∨ w2.heap.size ≤ k) :
    ∃ s' : Sl, v' = s'.v ∧ madeTx (w3.setCell ⟨tb, 0, none⟩ v') base tb { v with ins := s' } { t with ins := t.ins ++ [x] } ∧ Upd w2 (w3.setCell ⟨tb, 0, none⟩ v') (txFoot tb v) := by
  obtain ⟨a, c, rfl, -, -⟩ := ownsRow_slice hown
  obtain ⟨h1, h2, h3, h4, h5, h6, h7, h8, h9⟩ := h
  have htb := (cells_known h1).2.2
  have h13 : w3.heap[tb]? = some (.cells v.arr 72 (0, 0)) := by rw [hg.block tb htb (Ne.symm h7)]; exact h1
  have hs := Upd.setCell w3 ⟨tb, 0, none⟩ (Value.slice a n c)
  have hne : ∀ k, (Value.slice a n c).ownBlock = some k → k ≠ tb := fun k hk e => by
    rcases hnew k hk with h' | h'
    · exact h7 (e ▸ h')
    · omega
  have hou : w3.ownsRow base 196 39 v.outs.v t.outs.length (vsOf Out.arr t.outs) := ownsRow_upd h3 (Upd.grown hg) (fun k hk hi => h9 k hi hk)
  refine ⟨⟨a, n, c⟩, rfl, ⟨?_, ?_, ownsRow_upd hou hs (fun k hk e => h8 (by have e2 : k = tb := e; rw [← e2]; exact hk)), h4, by simp [hn], h6, fun e => hne _ e rfl, h8, ?_⟩, (Upd.grown hg).mono (fun k _ hk => .inr (.inl hk)) |>.trans hs (fun i _ e => .inl e)⟩
  · rw [heap_set h13, TxV.set_0]
  · subst hn
    rw [List.length_append, List.length_singleton, vsOf_snoc]
    exact ownsRow_upd hown hs (fun k hk e => hne k hk e)
  · intro k hk e
    rcases hnew k hk with h' | h'
    · exact h9 k h' e
    · have := (h3.lt k e).2; omega
/-- An output behind the others. -/
theorem madeTx.snocOut {w2 w3 : World} {base tb : Nat} {v : TxV} {t : Tx} (h : madeTx w2 base tb v t) (x : Out) {v' : Value} {n : Nat} (hn : n = t.outs.length + 1) (hg : w2.grownBy w3 v.outs.v.ownBlock)
    (hown : w3.ownsRow base 196 39 v' n (vsOf Out.arr t.outs ++ x.arr.toList)) (hnew : ∀ k, v'.ownBlock = some k → v.outs.v.ownBlock = some k ∨ w2.heap.size ≤ k) :
    ∃ s' : Sl, v' = s'.v ∧ madeTx (w3.setCell ⟨tb, 1, none⟩ v') base tb { v with outs := s' } { t with outs := t.outs ++ [x] } ∧ Upd w2 (w3.setCell ⟨tb, 1, none⟩ v') (txFoot tb v) := by
  obtain ⟨a, c, rfl, -, -⟩ := ownsRow_slice hown
  obtain ⟨h1, h2, h3, h4, h5, h6, h7, h8, h9⟩ := h
  have htb := (cells_known h1).2.2
  have h13 : w3.heap[tb]? = some (.cells v.arr 72 (0, 0)) := by rw [hg.block tb htb (Ne.symm h8)]; exact h1
  have hs := Upd.setCell w3 ⟨tb, 1, none⟩ (Value.slice a n c)
  have hne : ∀ k, (Value.slice a n c).ownBlock = some k → k ≠ tb := fun k hk e => by
    rcases hnew k hk with h' | h'
    · exact h8 (e ▸ h')
    · omega
  have hin : w3.ownsRow base 68 37 v.ins.v t.ins.length (vsOf In.arr t.ins) := ownsRow_upd h2 (Upd.grown hg) (fun k hk hi => h9 k hk hi)
  refine ⟨⟨a, n, c⟩, rfl, ⟨?_, ownsRow_upd hin hs (fun k hk e => h7 (by have e2 : k = tb := e; rw [← e2]; exact hk)), ?_, h4, h5, by simp [hn], h7, fun e => hne _ e rfl, ?_⟩, (Upd.grown hg).mono (fun k _ hk => .inr (.inr hk)) |>.trans hs (fun i _ e => .inl e)⟩
  · rw [heap_set h13, TxV.set_1]
  · subst hn
    rw [List.length_append, List.length_singleton, vsOf_snoc]
    exact ownsRow_upd hown hs (fun k hk e => hne k hk e)
  · intro k hk e
    rcases hnew k e with h' | h'
    · exact h9 k hk h'
    · have := (h2.lt k hk).2; omega
/-- The last input's witness, set. -/
theorem madeTx.setWit {w : World} {base tb : Nat} {v : TxV} {t : Tx} {l : List In} {x : In} (h : madeTx w base tb v t) (hl : t.ins = l ++ [x]) (y : Witness) :
    ∃ g, v.ins.a = some ⟨g, 0, none⟩ ∧ v.ins.v.ownBlock = some g ∧ base ≤ g ∧ g < w.heap.size ∧ (row? w ⟨g, l.length * 37 + 34, none⟩ 3).isSome = true ∧ rowFree w ⟨g, l.length * 37 + 34, none⟩ 3 ∧
      madeTx (putRow w ⟨g, l.length * 37 + 34, none⟩ y.arr) base tb v { t with ins := l ++ [{ x with wit := y }] } ∧ Upd w (putRow w ⟨g, l.length * 37 + 34, none⟩ y.arr) (fun k => k = g) := by
  obtain ⟨h1, h2, h3, h4, h5, h6, h7, h8, h9⟩ := h
  have hn : t.ins.length = l.length + 1 := by rw [hl]; simp
  rcases h2.2 with ⟨hv, h0⟩ | ⟨g, cap, cur, hv, hg, hh, hnc, hm, hsz, ht⟩
  · omega
  · have hva : v.ins.a = some ⟨g, 0, none⟩ := by
      unfold Sl.v at hv
      injection hv
    have hown : v.ins.v.ownBlock = some g := by rw [hv]; rfl
    have hge : t.ins.length * 37 ≤ cur.size := by rw [hsz]; exact Nat.mul_le_mul_right 37 hnc
    have hA : (vsOf In.arr l ++ (x.prev.arr.toList ++ [Value.int .i64 x.seq])).length = l.length * 37 + 34 := by
      rw [List.length_append, vsOf_length In.arr 37 (fun z => by simp)]; simp
    have hcur : cur = ((vsOf In.arr l ++ (x.prev.arr.toList ++ [Value.int .i64 x.seq])) ++ (x.wit.arr.toList ++ cur.toList.drop (t.ins.length * 37))).toArray := by
      apply Array.ext'
      have e1 : cur.toList = cur.toList.take (t.ins.length * 37) ++ cur.toList.drop (t.ins.length * 37) := (List.take_append_drop _ _).symm
      obtain ⟨R, hR⟩ : ∃ R, R = cur.toList.drop (t.ins.length * 37) := ⟨_, rfl⟩
      rw [← hR] at e1 ⊢
      refine e1.trans ?_
      rw [ht, hl, vsOf_snoc]
      simp [In.arr]
    have hput := putRow_eq (l.length * 37 + 34) (vsOf In.arr l ++ (x.prev.arr.toList ++ [Value.int .i64 x.seq])) x.wit.arr.toList (cur.toList.drop (t.ins.length * 37)) y.arr.toList hA (by simp)
    have hhp := heap_setCells y.arr.toList (l.length * 37 + 34) w cur hh
    rw [← hcur] at hput
    rw [hput] at hhp
    have hup := setCells_upd g y.arr.toList (l.length * 37 + 34) w
    have hne : g ≠ tb := fun e => h7 (e ▸ hown)
    refine ⟨g, hva, hown, hg, (Array.getElem?_eq_some_iff.1 hh).1, ?_, fun j _ => (cells_known hh).2.1 _, ⟨?_, ?_, ?_, h4, by simp [h5, hn], h6, h7, h8, h9⟩, hup⟩
    · unfold row?
      simp only [hh]
      rw [if_pos (And.intro trivial (by omega))]
      rfl
    · show (w.setCells g (l.length * 37 + 34) y.arr.toList).heap[tb]? = _
      rw [hup.block tb (cells_known h1).2.2 (fun e => hne e.symm)]; exact h1
    · refine ⟨by rw [vsOf_length In.arr 37 (fun z => by simp)], .inr ⟨g, cap, _, ?_, hg, hhp, by simp; omega, hm, ?_, ?_⟩⟩
      · rw [hv, hn]; simp
      · simp [hA] at *
        have := congrArg Array.size hcur
        simp [hA] at this
        omega
      · rw [List.length_append, List.length_singleton, vsOf_snoc]
        have e2 : (vsOf In.arr l ++ (x.prev.arr.toList ++ [Value.int .i64 x.seq])) ++ (y.arr.toList ++ cur.toList.drop (t.ins.length * 37)) = (vsOf In.arr l ++ (In.arr { x with wit := y }).toList) ++ cur.toList.drop (t.ins.length * 37) := by simp [In.arr]
        rw [e2]
        have e3 : (vsOf In.arr l ++ (In.arr { x with wit := y }).toList).length = (l.length + 1) * 37 := by
          rw [List.length_append, vsOf_length In.arr 37 (fun z => by simp)]; simp; omega
        rw [← e3, List.take_left]
    · exact ownsRow_upd h3 hup (fun k hk e => h9 g hown (by have e2 : k = g := e; rw [← e2]; exact hk))
end Go.Proofs.YtlkojkjeklblkaaGreat
