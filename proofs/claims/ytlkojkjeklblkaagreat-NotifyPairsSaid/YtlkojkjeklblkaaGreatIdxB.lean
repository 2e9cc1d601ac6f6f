/- Package index, in plain words: who spent what; what is taken in, and let go again, is as if it had never been. Places as keys of maps; lists of structs in memory, in a zone. Copies: lists of structs in memory of their own; a transaction in memory of its own. -/
import Derived.Test.YtlkojkjeklblkaaGreatTxF
import Derived.Test.YtlkojkjeklblkaaGreatKeys
import Derived.Test.YtlkojkjeklblkaaGreatShaB2
import Derived.Test.YtlkojkjeklblkaaGreatTxC
import Derived.Test.YtlkojkjeklblkaaGreatTxJ
import Derived.Maps.AppendAt
import Derived.Deep.DeepCutAuto
import Derived.Deep.CutBlock
import Derived.Deep.RegionHeld3
import Derived.Deep.RegionLaw
set_option linter.unusedSimpArgs false
set_option linter.unusedVariables false
namespace Go.Proofs.YtlkojkjeklblkaaGreat
def updF {κ ν : Type} [DecidableEq κ] (f : κ → Option ν) (x : κ) (v : Option ν) : κ → Option ν := fun y => if y = x then v else f y
section
variable {κ ν : Type} [DecidableEq κ] {f : κ → Option ν} {x y : κ} {u v : Option ν}
theorem updF_same : updF f x v x = v := by simp [updF]
theorem updF_other (h : y ≠ x) : updF f x v y = f y := by simp [updF, h]
theorem updF_twice : updF (updF f x u) x v = updF f x v := by funext z; unfold updF; split <;> rfl
theorem updF_id (h : f x = v) : updF f x v = f := by funext z; unfold updF; split <;> simp_all
theorem updF_comm (h : x ≠ y) : updF (updF f x u) y v = updF (updF f y v) x u := by
  funext z; unfold updF
  by_cases h1 : z = x
  · subst h1; simp [h]
  · simp [h1]
end
/-- Transactions by their numbers, with their heights; who spent what. -/
structure Maps where
  txs : Hash → Option (Tx × Nat)
  sp : Outpoint → Option Hash
def Maps.zero : Maps := ⟨fun _ => none, fun _ => none⟩
def putIns (f : Outpoint → Option Hash) (l : List In) (z : Hash) : Outpoint → Option Hash := l.foldl (fun f i => updF f i.prev (some z)) f
def dropIns (f : Outpoint → Option Hash) (l : List In) : Outpoint → Option Hash := l.foldl (fun f i => updF f i.prev none) f
theorem putIns_snoc (f : Outpoint → Option Hash) (l : List In) (i : In) (z : Hash) : putIns f (l ++ [i]) z = updF (putIns f l z) i.prev (some z) := by simp [putIns]
theorem dropIns_snoc (f : Outpoint → Option Hash) (l : List In) (i : In) : dropIns f (l ++ [i]) = updF (dropIns f l) i.prev none := by simp [dropIns]
theorem putIns_eq (l : List In) (z : Hash) : ∀ (f : Outpoint → Option Hash) (q : Outpoint), putIns f l z q = if q ∈ l.map (·.prev) then some z else f q := by
  induction l with
  | nil => intro f q; simp [putIns]
  | cons i l ih =>
    intro f q
    show putIns (updF f i.prev (some z)) l z q = _
    rw [ih]
    by_cases h1 : q ∈ l.map (·.prev)
    · rw [if_pos h1, if_pos (by simp only [List.map_cons]; exact List.mem_cons_of_mem _ h1)]
    · rw [if_neg h1]
      by_cases h2 : q = i.prev
      · rw [h2, updF_same, if_pos (by simp)]
      · rw [updF_other h2, if_neg]
        simp only [List.map_cons, List.mem_cons]
        rintro (h | h)
        · exact h2 h
        · exact h1 h
theorem dropIns_eq (l : List In) : ∀ (f : Outpoint → Option Hash) (q : Outpoint), dropIns f l q = if q ∈ l.map (·.prev) then none else f q := by
  induction l with
  | nil => intro f q; simp [dropIns]
  | cons i l ih =>
    intro f q
    show dropIns (updF f i.prev none) l q = _
    rw [ih]
    by_cases h1 : q ∈ l.map (·.prev)
    · rw [if_pos h1, if_pos (by simp only [List.map_cons]; exact List.mem_cons_of_mem _ h1)]
    · rw [if_neg h1]
      by_cases h2 : q = i.prev
      · rw [h2, updF_same, if_pos (by simp)]
      · rw [updF_other h2, if_neg]
        simp only [List.map_cons, List.mem_cons]
        rintro (h | h)
        · exact h2 h
        · exact h1 h
def insOf (M : Maps) (z : Hash) : List In := match M.txs z with | some x => x.1.ins | none => []
def addTx (h : Nat) (M : Maps) (t : Tx) : Maps := ⟨updF M.txs (idS t) (some (t, h)), putIns M.sp t.ins (idS t)⟩
def delTx (M : Maps) (z : Hash) : Maps := ⟨updF M.txs z none, dropIns M.sp (insOf M z)⟩
/-- May an input spend what it spends? -/
def mayIn (M : Maps) (i : In) : Bool := (M.sp i.prev).isNone && (match M.txs i.prev.tx with | some x => decide (i.prev.n < (x.1.outs.length : Int)) | none => true)
def mayS (M : Maps) (t : Tx) : Bool := (M.txs (idS t)).isNone && t.ins.all (mayIn M)
def addAll (h : Nat) (M : Maps) (l : List Tx) : Maps := l.foldl (addTx h) M
def undoS (M : Maps) (ids : List Hash) : Maps := ids.foldl delTx M
theorem addAll_snoc (h : Nat) (M : Maps) (l : List Tx) (t : Tx) : addAll h M (l ++ [t]) = addTx h (addAll h M l) t := by simp [addAll]
theorem undoS_snoc (M : Maps) (l : List Hash) (z : Hash) : undoS M (l ++ [z]) = delTx (undoS M l) z := by simp [undoS]
def mayAll (h : Nat) : Maps → List Tx → Bool
  | _, [] => true
  | M, t :: l => mayS M t && mayAll h (addTx h M t) l
theorem mayAll_append (h : Nat) : ∀ (l m : List Tx) (M : Maps), mayAll h M (l ++ m) = (mayAll h M l && mayAll h (addAll h M l) m)
  | [], m, M => by simp [mayAll, addAll]
  | t :: l, m, M => by
    show (mayS M t && mayAll h (addTx h M t) (l ++ m)) = _
    rw [mayAll_append h l m]
    simp [mayAll, addAll, Bool.and_assoc]
/-- M' knows what M knows. -/
def Maps.le (M M' : Maps) : Prop := (∀ z v, M.txs z = some v → M'.txs z = some v) ∧ ∀ q v, M.sp q = some v → M'.sp q = some v
theorem mayS_spec {M : Maps} {t : Tx} : mayS M t = true ↔ M.txs (idS t) = none ∧ ∀ i ∈ t.ins, M.sp i.prev = none ∧ ∀ x, M.txs i.prev.tx = some x → i.prev.n < (x.1.outs.length : Int) := by
  unfold mayS mayIn
  simp only [Bool.and_eq_true, Option.isNone_iff_eq_none, List.all_eq_true]
  constructor
  · rintro ⟨h1, h2⟩
    refine ⟨h1, fun i hi => ⟨(h2 i hi).1, fun x hx => ?_⟩⟩
    have h3 := (h2 i hi).2
    rw [hx] at h3
    simpa using h3
  · rintro ⟨h1, h2⟩
    refine ⟨h1, fun i hi => ⟨(h2 i hi).1, ?_⟩⟩
    cases hx : M.txs i.prev.tx with
    | none => rfl
    | some x => simpa using (h2 i hi).2 x hx
theorem none_of_le {M M' : Maps} (h : M.le M') : (∀ z, M'.txs z = none → M.txs z = none) ∧ ∀ q, M'.sp q = none → M.sp q = none := by
  constructor
  · intro z hz
    cases hx : M.txs z with
    | none => rfl
    | some v => rw [h.1 z v hx] at hz; cases hz
  · intro q hq
    cases hx : M.sp q with
    | none => rfl
    | some v => rw [h.2 q v hx] at hq; cases hq
theorem mayS_le {M M' : Maps} (h : M.le M') {t : Tx} (hm : mayS M' t = true) : mayS M t = true := by
  rw [mayS_spec] at hm ⊢
  exact ⟨(none_of_le h).1 _ hm.1, fun i hi => ⟨(none_of_le h).2 _ (hm.2 i hi).1, fun x hx => (hm.2 i hi).2 x (h.1 _ _ hx)⟩⟩
theorem addTx_le {M M' : Maps} (h : M.le M') (k : Nat) (t : Tx) : (addTx k M t).le (addTx k M' t) := by
  constructor
  · intro z v hz
    simp only [addTx] at hz ⊢
    by_cases e : z = idS t
    · subst e; rw [updF_same] at hz ⊢; exact hz
    · rw [updF_other e] at hz ⊢; exact h.1 z v hz
  · intro q v hq
    simp only [addTx, putIns_eq] at hq ⊢
    split at hq
    · rename_i h1; rw [if_pos h1]; exact hq
    · rename_i h1; rw [if_neg h1]; exact h.2 q v hq
theorem mayAll_le (k : Nat) : ∀ (l : List Tx) {M M' : Maps}, M.le M' → mayAll k M' l = true → mayAll k M l = true
  | [], _, _, _, _ => rfl
  | t :: l, M, M', h, hm => by
    simp only [mayAll, Bool.and_eq_true] at hm ⊢
    exact ⟨mayS_le h hm.1, mayAll_le k l (addTx_le h k t) hm.2⟩
theorem le_addTx {M : Maps} {t : Tx} (k : Nat) (h : mayS M t = true) : M.le (addTx k M t) := by
  rw [mayS_spec] at h
  constructor
  · intro z v hz
    simp only [addTx]
    by_cases e : z = idS t
    · subst e; rw [h.1] at hz; cases hz
    · rw [updF_other e]; exact hz
  · intro q v hq
    simp only [addTx, putIns_eq]
    rw [if_neg]
    · exact hq
    · intro hm
      obtain ⟨i, hi, rfl⟩ := List.mem_map.1 hm
      rw [(h.2 i hi).1] at hq
      cases hq
theorem del_add {M : Maps} {t : Tx} (k : Nat) (h : mayS M t = true) : delTx (addTx k M t) (idS t) = M := by
  rw [mayS_spec] at h
  obtain ⟨f, g⟩ := M
  have e1 : insOf (addTx k ⟨f, g⟩ t) (idS t) = t.ins := by unfold insOf addTx; simp only [updF_same]
  unfold delTx
  rw [e1]
  simp only [addTx]
  congr 1
  · rw [updF_twice]; exact updF_id h.1
  · funext q
    rw [dropIns_eq]
    split
    · rename_i hm
      obtain ⟨i, hi, rfl⟩ := List.mem_map.1 hm
      exact (h.2 i hi).1.symm
    · rename_i hm
      rw [putIns_eq, if_neg hm]
theorem del_past {M : Maps} {t : Tx} {k : Nat} {z : Hash} {x : Tx × Nat} (hz : M.txs z = some x) (hp : ∀ i ∈ x.1.ins, (M.sp i.prev).isSome = true) (h : mayS M t = true) :
    delTx (addTx k M t) z = addTx k (delTx M z) t ∧ (addTx k M t).txs z = some x ∧ ∀ i ∈ x.1.ins, ((addTx k M t).sp i.prev).isSome = true := by
  have hle := le_addTx k h
  rw [mayS_spec] at h
  have hne : z ≠ idS t := fun e => by rw [e, h.1] at hz; cases hz
  have h2 : (addTx k M t).txs z = some x := hle.1 _ _ hz
  have h3 : ∀ i ∈ x.1.ins, ((addTx k M t).sp i.prev).isSome = true := fun i hi => by
    obtain ⟨v, hv⟩ := Option.isSome_iff_exists.1 (hp i hi)
    rw [hle.2 _ _ hv]; rfl
  refine ⟨?_, h2, h3⟩
  have e1 : insOf (addTx k M t) z = x.1.ins := by unfold insOf; rw [h2]
  have e2 : insOf M z = x.1.ins := by unfold insOf; rw [hz]
  unfold delTx
  rw [e1, e2]
  obtain ⟨f, g⟩ := M
  simp only [addTx]
  congr 1
  · exact updF_comm (Ne.symm hne)
  · funext q
    rw [dropIns_eq, putIns_eq, putIns_eq, dropIns_eq]
    by_cases q1 : q ∈ x.1.ins.map (·.prev)
    · rw [if_pos q1, if_neg]
      · rw [if_pos q1]
      · intro hm
        obtain ⟨i, hi, rfl⟩ := List.mem_map.1 hm
        obtain ⟨j, hj, e⟩ := List.mem_map.1 q1
        have := hp j hj
        rw [e, (h.2 i hi).1] at this
        cases this
    · rw [if_neg q1, if_neg q1]
theorem del_pastAll (k : Nat) (z : Hash) (x : Tx × Nat) : ∀ (l : List Tx) (M : Maps), M.txs z = some x → (∀ i ∈ x.1.ins, (M.sp i.prev).isSome = true) → mayAll k M l = true → delTx (addAll k M l) z = addAll k (delTx M z) l
  | [], _, _, _, _ => rfl
  | t :: l, M, hz, hp, hm => by
    simp only [mayAll, Bool.and_eq_true] at hm
    obtain ⟨h1, h2, h3⟩ := del_past (k := k) hz hp hm.1
    show delTx (addAll k (addTx k M t) l) z = addAll k (addTx k (delTx M z) t) l
    rw [← h1]
    exact del_pastAll k z x l _ h2 h3 hm.2
/-- What was taken in, and let go, is as if it had never been. -/
theorem undo_add (k : Nat) : ∀ (l : List Tx) (M : Maps), mayAll k M l = true → undoS (addAll k M l) (l.map idS) = M
  | [], _, _ => rfl
  | t :: l, M, hm => by
    simp only [mayAll, Bool.and_eq_true] at hm
    have h1 : (addTx k M t).txs (idS t) = some (t, k) := updF_same
    have h2 : ∀ i ∈ (t, k).1.ins, ((addTx k M t).sp i.prev).isSome = true := fun i hi => by
      simp only [addTx, putIns_eq]
      rw [if_pos (List.mem_map_of_mem hi)]; rfl
    show undoS (delTx (addAll k (addTx k M t) l) (idS t)) (l.map idS) = M
    rw [del_pastAll k _ _ l _ h1 h2 hm.2, del_add k hm.1]
    exact undo_add k l M (mayAll_le k l (le_addTx k hm.1) hm.2)
/-! ### blocks, one on the other -/
def mapsOf (L : List (List Tx)) : Maps := (L.zipIdx 1).foldl (fun M x => addAll x.2 M x.1) Maps.zero
theorem mapsOf_nil : mapsOf [] = Maps.zero := rfl
theorem mapsOf_snoc (L : List (List Tx)) (l : List Tx) : mapsOf (L ++ [l]) = addAll (L.length + 1) (mapsOf L) l := by
  unfold mapsOf
  rw [List.zipIdx_append, List.foldl_append]
  simp [Nat.add_comm]
/-- Errors of a block's transactions. -/
def firstErr (l : List Tx) : Int := match l.find? (fun t => checkS t != 0) with | some t => checkS t | none => 0
/-- The place of a number among numbers. -/
def posS (ids : List Hash) (z : Hash) : Option Nat := if z ∈ ids then some (ids.idxOf z) else none
theorem posS_none {ids : List Hash} {z : Hash} : posS ids z = none ↔ z ∉ ids := by unfold posS; split <;> simp_all
theorem posS_snoc {ids : List Hash} {x : Hash} (h : x ∉ ids) : posS (ids ++ [x]) = updF (posS ids) x (some ids.length) := by
  funext z
  unfold posS updF
  by_cases hz : z = x
  · subst hz
    simp [h, List.idxOf_append]
  · by_cases hm : z ∈ ids
    · simp [hz, hm, List.idxOf_append]
    · simp [hz, hm]
def pointsOf (l : List Tx) : List Outpoint := l.flatMap fun t => t.ins.map (·.prev)
theorem pointsOf_snoc (l : List Tx) (t : Tx) : pointsOf (l ++ [t]) = pointsOf l ++ t.ins.map (·.prev) := by simp [pointsOf]
def inOkAt (ids : List Hash) (i : Nat) (x : In) : Bool := match posS ids x.prev.tx with | some k => decide (k < i) | none => true
def txAt (l : List Tx) (i : Nat) : Tx := l.getD i ⟨[], [], 0⟩
theorem txAt_eq {l : List Tx} {i : Nat} (h : i < l.length) : txAt l i = l[i] := by simp [txAt, List.getD, h]
def apartS (l : List Tx) : Bool :=
  decide (l.map idS).Nodup && decide (pointsOf l).Nodup && (List.range l.length).all fun i => (txAt l i).ins.all (inOkAt (l.map idS) i)
theorem apartS_ids {l : List Tx} {k : Nat} (hk : k < l.length) (h : idS l[k] ∈ (l.take k).map idS) : apartS l = false := by
  have : ¬ (l.map idS).Nodup := by
    intro hn
    have e : l.map idS = (l.take k).map idS ++ (idS l[k] :: (l.drop (k + 1)).map idS) := by
      rw [← List.map_cons, ← List.drop_eq_getElem_cons hk, ← List.map_append, List.take_append_drop]
    rw [e] at hn
    exact (List.nodup_append.1 hn).2.2 _ h _ List.mem_cons_self rfl
  unfold apartS
  rw [decide_eq_false this]; rfl
theorem apartS_points {l : List Tx} {k j : Nat} (hk : k < l.length) (hj : j < l[k].ins.length) (h : l[k].ins[j].prev ∈ pointsOf (l.take k) ++ (l[k].ins.take j).map (·.prev)) : apartS l = false := by
  have : ¬ (pointsOf l).Nodup := by
    intro hn
    have e1 : l = l.take k ++ (l[k] :: l.drop (k + 1)) := by rw [← List.drop_eq_getElem_cons hk, List.take_append_drop]
    have e2 : l[k].ins = l[k].ins.take j ++ (l[k].ins[j] :: l[k].ins.drop (j + 1)) := by rw [← List.drop_eq_getElem_cons hj, List.take_append_drop]
    have hg : ∀ (A : List Tx) (x : Tx) (B : List Tx), pointsOf (A ++ x :: B) = pointsOf A ++ (x.ins.map (·.prev) ++ pointsOf B) := by intro A x B; simp [pointsOf]
    have hg2 : ∀ (A : List In) (x : In) (B : List In), (A ++ x :: B).map (·.prev) = A.map (·.prev) ++ (x.prev :: B.map (·.prev)) := by intro A x B; simp
    have h3 : pointsOf l = pointsOf (l.take k) ++ (l[k].ins.map (·.prev) ++ pointsOf (l.drop (k + 1))) := (congrArg pointsOf e1).trans (hg _ _ _)
    have h4 : l[k].ins.map (·.prev) = (l[k].ins.take j).map (·.prev) ++ (l[k].ins[j].prev :: (l[k].ins.drop (j + 1)).map (·.prev)) := (congrArg (List.map (·.prev)) e2).trans (hg2 _ _ _)
    rw [h3, h4, List.append_assoc, ← List.append_assoc] at hn
    exact (List.nodup_append.1 hn).2.2 _ h _ (by simp) rfl
  unfold apartS
  rw [decide_eq_false this]; simp
theorem apartS_order {l : List Tx} {k j : Nat} (hk : k < l.length) (hj : j < l[k].ins.length) (h : inOkAt (l.map idS) k l[k].ins[j] = false) : apartS l = false := by
  have : ((List.range l.length).all fun i => (txAt l i).ins.all (inOkAt (l.map idS) i)) = false := by
    rw [List.all_eq_false]
    refine ⟨k, by simpa using hk, ?_⟩
    rw [txAt_eq hk, Bool.not_eq_true, List.all_eq_false]
    exact ⟨_, List.getElem_mem hj, by simp [h]⟩
  unfold apartS
  rw [this]; simp
theorem apartS_true {l : List Tx} (h1 : (l.map idS).Nodup) (h2 : (pointsOf l).Nodup) (h3 : ∀ k (hk : k < l.length) j (hj : j < l[k].ins.length), inOkAt (l.map idS) k l[k].ins[j] = true) : apartS l = true := by
  unfold apartS
  rw [decide_eq_true h1, decide_eq_true h2]
  simp only [Bool.true_and, List.all_eq_true, List.mem_range]
  intro i hi x hx
  rw [txAt_eq hi] at hx
  obtain ⟨j, hj, rfl⟩ := List.mem_iff_getElem.1 hx
  exact h3 i hi j hj
theorem apartS_points' {l : List Tx} {k j : Nat} {t : Tx} {x : In} (hk : k < l.length) (ht : t = l[k]) (hj : j < t.ins.length) (hx : x = t.ins[j]) (h : x.prev ∈ pointsOf (l.take k) ++ (t.ins.take j).map (·.prev)) : apartS l = false := by
  subst ht hx; exact apartS_points hk hj h
theorem apartS_order' {l : List Tx} {k j : Nat} {t : Tx} {x : In} (hk : k < l.length) (ht : t = l[k]) (hj : j < t.ins.length) (hx : x = t.ins[j]) (h : inOkAt (l.map idS) k x = false) : apartS l = false := by
  subst ht hx; exact apartS_order hk hj h
def txsS (l : List Tx) : Int := if 100 < l.length then 3 else if firstErr l ≠ 0 then firstErr l else if apartS l then 0 else 1
theorem txsS_zero {l : List Tx} (h : txsS l = 0) : l.length ≤ 100 ∧ (∀ t ∈ l, checkS t = 0) ∧ apartS l = true := by
  unfold txsS at h
  split at h
  · omega
  · rename_i h1
    split at h
    · rename_i h2; exact absurd h h2
    · rename_i h2
      have h2 : firstErr l = 0 := by omega
      split at h
      · rename_i h3
        refine ⟨by omega, fun t ht => ?_, h3⟩
        by_cases hc : checkS t = 0
        · exact hc
        · exfalso
          unfold firstErr at h2
          cases hf : l.find? (fun t => checkS t != 0) with
          | none =>
            rw [List.find?_eq_none] at hf
            exact hf t ht (by simpa using hc)
          | some u =>
            rw [hf] at h2
            have := List.find?_some hf
            simp at this
            exact this h2
      · omega
theorem mayAll_step {h : Nat} {M : Maps} {l : List Tx} {k : Nat} {t : Tx} (hk : k < l.length) (ht : t = l[k]) (h1 : mayAll h M (l.take k) = true) (h2 : mayS (addAll h M (l.take k)) t = true) : mayAll h M (l.take (k + 1)) = true := by
  subst ht
  rw [List.take_succ_eq_append_getElem hk, mayAll_append, h1]
  simp [mayAll, h2]
theorem mayAll_stop {h : Nat} {M : Maps} {l : List Tx} {k : Nat} {t : Tx} (hk : k < l.length) (ht : t = l[k]) (h2 : mayS (addAll h M (l.take k)) t = false) : mayAll h M l = false := by
  subst ht
  have e : l = l.take k ++ (l[k] :: l.drop (k + 1)) := by rw [← List.drop_eq_getElem_cons hk, List.take_append_drop]
  have : mayAll h M (l.take k ++ (l[k] :: l.drop (k + 1))) = false := by
    rw [mayAll_append]
    simp [mayAll, h2]
  rw [← e] at this
  exact this
def mayBlock (L : List (List Tx)) (l : List Tx) : Bool := mayAll (L.length + 1) (mapsOf L) l
def conE (L : List (List Tx)) (l : List Tx) : Int := if txsS l ≠ 0 then 1 else if mayBlock L l then 0 else 10
def conL (L : List (List Tx)) (l : List Tx) : List (List Tx) := if conE L l = 0 then L ++ [l] else L
theorem conE_zero {L : List (List Tx)} {l : List Tx} : conE L l = 0 ↔ txsS l = 0 ∧ mayBlock L l = true := by
  unfold conE
  split
  · rename_i h; simp [h]
  · rename_i h
    have h : txsS l = 0 := by omega
    split
    · rename_i h2; simp [h, h2]
    · rename_i h2; simp [h, h2]
/-- Each block came in when it might. -/
def goodL (L : List (List Tx)) : Prop := ∀ (k : Nat) (h : k < L.length), conE (L.take k) L[k] = 0
theorem goodL_nil : goodL [] := fun k h => absurd h (by simp)
theorem goodL.con {L : List (List Tx)} (h : goodL L) (l : List Tx) : goodL (conL L l) := by
  unfold conL
  split
  · rename_i he
    intro k hk
    by_cases hl : k < L.length
    · rw [List.getElem_append_left hl, List.take_append_of_le_length (by omega)]
      exact h k hl
    · have : k = L.length := by simp at hk; omega
      subst this
      rw [List.getElem_append_right (Nat.le_refl _)]
      simpa using he
  · exact h
theorem goodL.take {L : List (List Tx)} (h : goodL L) (n : Nat) : goodL (L.take n) := by
  intro k hk
  rw [List.length_take] at hk
  rw [List.take_take, Nat.min_eq_left (by omega), List.getElem_take]
  exact h k (by omega)
theorem goodL.last {L : List (List Tx)} (h : goodL L) (hne : L ≠ []) : undoS (mapsOf L) ((L.getLast hne).map idS) = mapsOf L.dropLast := by
  have hl : 0 < L.length := List.length_pos_iff.2 hne
  have e : L = L.dropLast ++ [L.getLast hne] := (List.dropLast_concat_getLast hne).symm
  have hg := h (L.length - 1) (by omega)
  have e1 : L[L.length - 1]'(by omega) = L.getLast hne := by rw [List.getLast_eq_getElem]
  rw [e1, ← List.dropLast_eq_take] at hg
  have hm := (conE_zero.1 hg).2
  conv => lhs; arg 1; rw [e, mapsOf_snoc]
  exact undo_add _ _ _ hm
end Go.Proofs.YtlkojkjeklblkaaGreat
namespace Go.Proofs.YtlkojkjeklblkaaGreat
open Go.RowKit
open Go.Maps (Keyed)
theorem ptLt : (40 : TypeId) < Tryz.prog.types.size := of_decide_eq_true (by kernel_rfl)
theorem keyTypePt : Tryz.prog.keyType 40 = true := by kernel_rfl
theorem cellsPt : Tryz.prog.cellsOf 40 = 33 := by kernel_rfl
theorem cellsInt : Tryz.prog.cellsOf 3 = 1 := by kernel_rfl
theorem pt_keyed : Keyed Tryz.prog 40 := .of_law (deep_law_laid laid_out (m := 3) (by omega) ptLt (by kernel_rfl) (by rw [Tryz.underlying40]))
/-- A place, as Go may have it. -/
abbrev Pt := { q : Outpoint // i64 q.n }
def ptV (q : Pt) : Value := .agg q.1.arr
theorem int_lits (d : Nat) (n : Int) (h : i64 n) : Tryz.prog.keyLits (d + 1) 3 [.int .i64 n] = some [.int .i64 n] := by
  have hw : (Lit.int .i64 n).wf = true := by
    obtain ⟨h1, h2⟩ := h
    simp [Lit.wf, IntKind.min, IntKind.max, IntKind.bits, IntKind.signed]; omega
  simp only [Program.keyLits, Tryz.underlying3]
  rw [if_pos ⟨trivial, hw⟩]
theorem keyLits_struct {P : Program} {t : TypeId} {fs : Array Field} (hu : P.underlying t = some (.struct fs)) (d : Nat) (cs : List Value) (h : cs.length = P.cellsOf t) (hn : fs.all (·.name != "_") = true) :
    P.keyLits (d + 1) t cs = (fs.toList.mapM fun f => P.keyLits d f.type ((cs.drop f.offset).take (P.cellsOf f.type))).map List.flatten := by
  rw [Program.keyLits.eq_def]; simp only [hu, h, hn, and_self, if_true]
theorem pt_reads (q : Pt) : ∃ l, keyOf Tryz.prog 40 (ptV q) = some l := by
  obtain ⟨d, hd⟩ : ∃ d, Tryz.prog.types.size = d + 2 := ⟨Tryz.prog.types.size - 2, by have : (2 : Nat) < Tryz.prog.types.size := of_decide_eq_true (by kernel_rfl); omega⟩
  obtain ⟨l, hl⟩ := hash_lits (d + 1) d rfl q.1.tx
  have hn := int_lits (d + 1) q.1.n q.2
  have hf : (Value.agg q.1.arr).formed Tryz.prog 40 = true := by
    simp only [Value.formed, Tryz.underlying40, cellsPt]
    simp
  have hlen : q.1.arr.toList.length = 33 := by simp
  have e1 : (q.1.arr.toList.drop 0).take 32 = q.1.tx.arr.toList := by
    show ((q.1.tx.arr.toList ++ [Value.int .i64 q.1.n]).drop 0).take 32 = _
    rw [List.drop_zero, List.take_left' (by simp)]
  have e2 : (q.1.arr.toList.drop 32).take 1 = [Value.int .i64 q.1.n] := by
    show ((q.1.tx.arr.toList ++ [Value.int .i64 q.1.n]).drop 32).take 1 = _
    rw [List.drop_left' (by simp)]
    rfl
  refine ⟨.string (keyBytes (l ++ [.int .i64 q.1.n])), ?_⟩
  rw [keyOf, Tryz.underlying40]
  simp only [ptV, keyTypePt, hf, Bool.and_self, if_true, Value.cells]
  have : Tryz.prog.keyLits (Tryz.prog.types.size + 1) 40 q.1.arr.toList = some (l ++ [.int .i64 q.1.n]) := by
    rw [hd, keyLits_struct Tryz.underlying40 (d + 2) _ (by rw [cellsPt]; exact hlen) (by kernel_rfl)]
    simp only [List.mapM_cons, List.mapM_nil, cells30, cellsInt, e1, e2, hl, hn, show d + 2 = (d + 1) + 1 from rfl]
    simp
  rw [this]
  rfl
theorem ptV_inj {x y : Pt} (h : ptV x = ptV y) : x = y := by
  unfold ptV at h
  have h1 : x.1.arr = y.1.arr := by injection h
  have h2 : x.1.arr.toList = y.1.arr.toList := by rw [h1]
  change (x.1.tx.arr.toList ++ [Value.int .i64 x.1.n] : List Value) = y.1.tx.arr.toList ++ [Value.int .i64 y.1.n] at h2
  have h3 := List.append_inj h2 (by simp)
  have h4 : x.1.tx = y.1.tx := hashV_inj (by unfold hashV; congr 1; exact Array.ext' h3.1)
  have h5 : x.1.n = y.1.n := by have := h3.2; simpa using this
  apply Subtype.ext
  obtain ⟨⟨a, b⟩, _⟩ := x
  obtain ⟨⟨c, d⟩, _⟩ := y
  simp only at h4 h5
  subst h4 h5
  rfl
theorem pt_enc : KeyEnc Tryz.prog 40 ptV := ⟨pt_keyed, pt_reads, ptV_inj⟩
/-! ### lists of structs, in a zone -/
/-- A slice's value that reads as l, all of it in the zone. -/
def slIn {α : Type} (w : World) (Z : Nat → Prop) (s : Sl) (sz : Nat) (enc : α → Array Value) (l : List α) : Prop :=
  s.n = l.length ∧ s.n ≤ s.c ∧ s.c ≤ maxLen ∧ (l ≠ [] → ∃ b off, s.a = some ⟨b, off, none⟩ ∧ Z b ∧ b < w.heap.size ∧ ∀ k (h : k < l.length), row? w ⟨b, off + k * sz, none⟩ sz = some (enc l[k]))
section
variable {α : Type} {w w' : World} {Z Y : Nat → Prop} {s : Sl} {sz : Nat} {enc : α → Array Value} {l : List α}
theorem slIn.upd {S : Nat → Prop} (h : slIn w Z s sz enc l) (hu : Upd w w' S) (hs : ∀ k, Z k → k < w.heap.size → ¬ S k) : slIn w' Z s sz enc l := by
  refine ⟨h.1, h.2.1, h.2.2.1, fun hne => ?_⟩
  obtain ⟨b, off, ha, hz, hb, hr⟩ := h.2.2.2 hne
  exact ⟨b, off, ha, hz, Nat.lt_of_lt_of_le hb hu.size, fun k hk => (row?_of_block (hu.block b hb (hs b hz hb)) sz).trans (hr k hk)⟩
theorem slIn.below {B : Nat} (h : slIn w Z s sz enc l) (hb : Below B w w') (hZ : ∀ k, Z k → k < w.heap.size → k < B) : slIn w' Z s sz enc l := by
  refine ⟨h.1, h.2.1, h.2.2.1, fun hne => ?_⟩
  obtain ⟨b, off, ha, hz, hl, hr⟩ := h.2.2.2 hne
  exact ⟨b, off, ha, hz, Nat.lt_of_lt_of_le hl hb.size, fun k hk => (row?_below hb (a := ⟨b, _, none⟩) (hZ b hz hl) sz).trans (hr k hk)⟩
theorem slIn.zone (h : slIn w Z s sz enc l) (hY : ∀ k, k < w.heap.size → Z k → Y k) : slIn w Y s sz enc l := by
  refine ⟨h.1, h.2.1, h.2.2.1, fun hne => ?_⟩
  obtain ⟨b, off, ha, hz, hl, hr⟩ := h.2.2.2 hne
  exact ⟨b, off, ha, hY b hl hz, hl, hr⟩
theorem slIn.isSl (h : slIn w Z s sz enc l) : isSl w s sz enc l w.heap.size := by
  refine ⟨h.1, h.2.1, fun hne => ?_⟩
  obtain ⟨b, off, ha, hz, hl, hr⟩ := h.2.2.2 hne
  exact ⟨b, off, ha, hl, hr⟩
theorem slIn_nil (w : World) (Z : Nat → Prop) (sz : Nat) (enc : α → Array Value) : slIn w Z ⟨none, 0, 0⟩ sz enc ([] : List α) := ⟨rfl, Nat.le_refl _, Nat.zero_le _, fun h => absurd rfl h⟩
theorem isSl.slIn (h : Go.Proofs.YtlkojkjeklblkaaGreat.isSl w s sz enc l w.heap.size) (hc : s.c ≤ maxLen) : slIn w (fun _ => True) s sz enc l := by
  refine ⟨h.1, h.2.1, hc, fun hne => ?_⟩
  obtain ⟨b, off, ha, hl, hr⟩ := h.2.2 hne
  exact ⟨b, off, ha, trivial, hl, hr⟩
end
/-- A value that reads as a transaction, its lists in the zone. -/
def txIn (w : World) (Z : Nat → Prop) (v : TxV) (t : Tx) : Prop := slIn w Z v.ins 37 In.arr t.ins ∧ slIn w Z v.outs 39 Out.arr t.outs ∧ v.lock = t.lock
section
variable {w w' : World} {Z Y : Nat → Prop} {v : TxV} {t : Tx}
theorem txIn.upd {S : Nat → Prop} (h : txIn w Z v t) (hu : Upd w w' S) (hs : ∀ k, Z k → k < w.heap.size → ¬ S k) : txIn w' Z v t := ⟨h.1.upd hu hs, h.2.1.upd hu hs, h.2.2⟩
theorem txIn.below {B : Nat} (h : txIn w Z v t) (hb : Below B w w') (hZ : ∀ k, Z k → k < w.heap.size → k < B) : txIn w' Z v t := ⟨h.1.below hb hZ, h.2.1.below hb hZ, h.2.2⟩
theorem txIn.keep (h : txIn w Z v t) (hb : Below w.heap.size w w') : txIn w' Z v t := h.below hb (fun _ _ h => h)
theorem txIn.zone (h : txIn w Z v t) (hY : ∀ k, k < w.heap.size → Z k → Y k) : txIn w Y v t := ⟨h.1.zone hY, h.2.1.zone hY, h.2.2⟩
theorem txIn.isTx (h : txIn w Z v t) : isTx w v t w.heap.size := ⟨h.1.isSl, h.2.1.isSl, h.2.2⟩
end
end Go.Proofs.YtlkojkjeklblkaaGreat
namespace Go.Proofs.YtlkojkjeklblkaaGreat
open Go.RowKit
theorem wpList_app {P : Program} {w : World} {ops : Array Oper} {rest : List Oper} {o : Oper} {a : Act} {Q : Exit → Act → World → Prop} (hgd : o.guard = none) (s x : Operand) (t tx : TypeId)
    (ho : o.op = .call { callee := .builtin .append, args := #[s, x], argTypes := #[t, tx] }) (v u : Value) (hs : a.eval s = v) (hx : a.eval x = u) {v' : Value} {w' : World} (hr : (Builtin.append_ #[t, tx] o.type #[v, u]).run P w = .ok v' w')
    (hK : wpList P ops Q rest (a.put o.dst v') w') : wpList P ops Q (o :: rest) a w := by
  refine wpList_plain hgd fun K' hK' => ?_
  unfold Oper.wp execOp
  simp only [ho, resolve, invoke, builtin, Sem.run_bind, Sem.run_pure, Result.andThen_ok, List.map_toArray, List.map_cons, List.map_nil, hs, hx, hr]
  exact hK' _ _ hK
/-- A list that a slice has for its own lies in its zone. -/
theorem slIn_own {α : Type} {w : World} {base : Nat} {e : TypeId} {n : Nat} {enc : α → Array Value} {s : Sl} {l : List α} (hn : 0 < n) (he : ∀ x, (enc x).size = n) (h : w.ownsRow base e n s.v l.length (vsOf enc l)) (hl : s.n = l.length) : slIn w (fun k => base ≤ k) s n enc l := by
  have h1 := isSl_own hn he h hl
  obtain ⟨sa, sn, sc⟩ := s
  rcases h.2 with ⟨hv, h0⟩ | ⟨g, cap, cur, hv, hg, hh, hnc, hm, hsz, ht⟩
  · unfold Sl.v at hv
    injection hv with q1 q2 q3
    subst q1 q3
    exact ⟨h1.1, h1.2.1, Nat.zero_le _, fun hne => absurd (List.eq_nil_of_length_eq_zero h0) hne⟩
  · unfold Sl.v at hv
    injection hv with q1 q2 q3
    subst q1 q3
    refine ⟨h1.1, h1.2.1, hm, fun hne => ?_⟩
    obtain ⟨b, off, ha, hl, hr⟩ := h1.2.2 hne
    cases ha
    exact ⟨g, 0, rfl, hg, hl, hr⟩
theorem vsOf_get {α : Type} (enc : α → Array Value) (n : Nat) (hn : 0 < n) (he : ∀ x, (enc x).size = n) (l : List α) (j : Nat) (u : Value) (h : (vsOf enc l)[j]? = some u) : ∃ (hk : j / n < l.length), (enc l[j / n])[j % n]? = some u := by
  have hj : j < l.length * n := by
    have := (List.getElem?_eq_some_iff.1 h).1
    rwa [vsOf_length enc n he] at this
  have hk : j / n < l.length := Nat.div_lt_of_lt_mul (by rw [Nat.mul_comm]; exact hj)
  refine ⟨hk, ?_⟩
  have h2 := vsOf_at enc n he l (j / n) hk
  have h3 : (((vsOf enc l).drop (j / n * n)).take n)[j % n]? = some u := by
    rw [List.getElem?_take, if_pos (Nat.mod_lt _ hn), List.getElem?_drop]
    rw [show j / n * n + j % n = j by rw [Nat.mul_comm]; exact Nat.div_add_mod j n]
    exact h
  rw [h2] at h3
  rw [← Array.getElem?_toList]
  exact h3
section
variable {P : Program}
theorem run_buildSlice_nil {t e : TypeId} {n : Nat} (hu : P.underlying t = some (.slice e)) (hi : (P.info? e).map (·.size) = some n) (w : World) : (Instr.buildSlice t 0 #[]).run P w = .ok (.slice (some ⟨w.heap.size, 0, none⟩) 0 0) (w.alloc (.cells #[] e)) := by
  have hs := sizeOf_run (P := P) (t := e) (n := n) hi
  unfold Instr.buildSlice
  have e0 : Array.range 0 = #[] := rfl
  simp only [Sem.run_bind, run_underlying hu, Result.andThen_ok, hs, Nat.zero_mul, show ¬ (0 > 2 ^ 24) by omega, if_false, if_true, Sem.run_pure, e0, Array.map_empty, Instr.fill, newRow, run_newObj_alloc]
/-- 'append' of a whole list onto an empty slice that was just made. -/
theorem run_clone {α : Type} (enc : α → Array Value) (n bytes : Nat) (hn : 0 < n) (he : ∀ x, (enc x).size = n) (h1 : ∀ x, ∀ v ∈ (enc x).toList, v.oneCell' = true) (t ty e : TypeId) (i : TypeInfo) (z : Value) (ht : P.underlying t = some (.slice e))
    (hi : P.info? e = some i) (hz : i.zero = some z) (hsize : i.size = n) (hby : i.bytes = bytes) (hzs : z.cells.size = n) (hbb : bytes ≤ 1000) (a : Addr) (c : Nat) (l : List α) (w : World) (h : isSl w ⟨some a, l.length, c⟩ n enc l w.heap.size) (hlen : l.length ≤ 1000000) :
    ∃ (s' : Sl) (w' : World), (Builtin.append_ #[t, t] ty #[.slice (some ⟨w.heap.size, 0, none⟩) 0 0, .slice (some a) l.length c]).run P (w.alloc (.cells #[] e)) = .ok (.slice s'.a s'.n s'.c) w' ∧ slIn w' (fun k => w.heap.size ≤ k) s' n enc l ∧ Below w.heap.size w w' := by
  have hbV : Below w.heap.size w (w.alloc (.cells #[] e)) := (Below.refl _ _).alloc (Nat.le_refl _) _
  have hown : (w.alloc (.cells #[] e)).ownsRow w.heap.size e n (.slice (some ⟨w.heap.size, 0, none⟩) 0 0) 0 [] :=
    ⟨by simp, .inr ⟨w.heap.size, 0, #[], rfl, Nat.le_refl _, heap_alloc_new w _, Nat.le_refl _, Nat.zero_le _, by simp, by simp⟩⟩
  have hnews : ∀ j u, (vsOf enc l)[j]? = some u → (w.alloc (.cells #[] e)).cell? (a.add j) = some u := by
    intro j u hu
    obtain ⟨hk, hv⟩ := vsOf_get enc n hn he l j u hu
    obtain ⟨b, off, ha, hb, hr⟩ := h.2.2 (by intro e0; rw [e0] at hk; simp at hk)
    simp only at ha
    cases ha
    have hc := row?_cellAt (hr (j / n) hk) (j % n) (Nat.mod_lt _ hn)
    rw [hv] at hc
    have ea : (⟨b, off, none⟩ : Addr).add j = ⟨b, off + j, none⟩ := by unfold Addr.add; split <;> simp_all
    rw [ea, World.cell?_alloc_past _ _ _ hb, ← hc]
    congr 2
    have := Nat.div_add_mod j n
    rw [Nat.mul_comm] at this
    omega
  have hone : ∀ u ∈ vsOf enc l, u.oneCell' = true := by
    intro u hu
    obtain ⟨x, _, hx⟩ := List.mem_flatMap.1 hu
    exact h1 x u hx
  have hml : l.length * bytes ≤ l.length * 1000 := Nat.mul_le_mul_left _ hbb
  obtain ⟨v', w', hr, h2, h3, h4, h5⟩ := run_append_own_at (P := P) (w.alloc (.cells #[] e)) w.heap.size t ty e i z n bytes ht hi hz hsize hby hzs hn _ 0 [] hown a l.length c (vsOf enc l) (vsOf_length enc n he l) hnews hone (by unfold maxLen; omega) (by rw [Nat.zero_add]; omega) (by simp)
  obtain ⟨sa, sc, rfl, hnc, _⟩ := ownsRow_slice h2
  rw [Nat.zero_add, List.nil_append] at h2
  refine ⟨⟨sa, 0 + l.length, sc⟩, w', hr, slIn_own hn he (by rw [Nat.zero_add]; exact h2) (by simp), hbV.grown h3 hbV.size (fun k hk => by simp [Value.ownBlock] at hk; omega)⟩
end
set_option maxRecDepth 100000 in
set_option maxHeartbeats 1000000 in
theorem clone_ins (v : Sl) (l : List In) (w : World) (h : isSl w v 37 In.arr l w.heap.size) (hl : l.length ≤ 1000000) :
    Calls Tryz.prog 151 #[.slice v.a v.n v.c] w fun e w' => ∃ s : Sl, e = .returned (.slice s.a s.n s.c) ∧ slIn w' (fun k => w.heap.size ≤ k) s 37 In.arr l ∧ Below w.heap.size w w' := by
  obtain ⟨a, n, c⟩ := v
  have hn : n = l.length := h.1
  subst hn
  have heq := Lib.run_eql_slice_nil w (P := Tryz.prog) 69 _ a l.length c 0 0 Tryz.underlying69
  cases a with
  | none =>
    simp only [Option.isNone_none] at heq
    have hln : l = [] := by
      by_cases hl : l = []
      · exact hl
      · obtain ⟨b, off, e, _⟩ := h.2.2 hl
        cases e
    subst hln
    simp only [List.length_nil] at heq ⊢
    clear h
    go_enter Tryz.func151, Tryz.ntmps151
    go_wp2_with fail
    go_ret
    exact ⟨⟨none, 0, 0⟩, rfl, slIn_nil _ _ _ _, Below.refl _ _⟩
  | some a =>
    simp only [Option.isNone_some] at heq
    obtain ⟨i0, hi0, hz0, hz1, hz2⟩ := info_parts Tryz.infoIn
    obtain ⟨s', w', hrun, hs, hb⟩ := run_clone (P := Tryz.prog) In.arr 37 80 (by decide) (fun x => by simp) one_In 69 69 68 i0 _ Tryz.underlying69 hi0 hz0 hz1 hz2 (by simp [Value.cells]) (by decide) a c l w h hl
    have HRUN := Lib.hid hrun
    have HS := Lib.hid hs
    have HB := Lib.hid hb
    have hbn := run_buildSlice_nil (P := Tryz.prog) Tryz.underlying69 size_In
    clear hrun hs hb hi0 hz0 hz1 hz2 hl h
    go_enter Tryz.func151, Tryz.ntmps151
    go_wp2_with (refine wpList_app rfl _ _ _ _ rfl _ _ rfl rfl HRUN.out ?_)
    go_ret
    exact ⟨s', rfl, HS.out, HB.out⟩
set_option maxRecDepth 100000 in
set_option maxHeartbeats 1000000 in
theorem clone_outs (v : Sl) (l : List Out) (w : World) (h : isSl w v 39 Out.arr l w.heap.size) (hl : l.length ≤ 1000000) :
    Calls Tryz.prog 152 #[.slice v.a v.n v.c] w fun e w' => ∃ s : Sl, e = .returned (.slice s.a s.n s.c) ∧ slIn w' (fun k => w.heap.size ≤ k) s 39 Out.arr l ∧ Below w.heap.size w w' := by
  obtain ⟨a, n, c⟩ := v
  have hn : n = l.length := h.1
  subst hn
  have heq := Lib.run_eql_slice_nil w (P := Tryz.prog) 70 _ a l.length c 0 0 Tryz.underlying70
  cases a with
  | none =>
    simp only [Option.isNone_none] at heq
    have hln : l = [] := by
      by_cases hl : l = []
      · exact hl
      · obtain ⟨b, off, e, _⟩ := h.2.2 hl
        cases e
    subst hln
    simp only [List.length_nil] at heq ⊢
    clear h
    go_enter Tryz.func152, Tryz.ntmps152
    go_wp2_with fail
    go_ret
    exact ⟨⟨none, 0, 0⟩, rfl, slIn_nil _ _ _ _, Below.refl _ _⟩
  | some a =>
    simp only [Option.isNone_some] at heq
    obtain ⟨i0, hi0, hz0, hz1, hz2⟩ := info_parts Tryz.infoOut
    obtain ⟨s', w', hrun, hs, hb⟩ := run_clone (P := Tryz.prog) Out.arr 39 88 (by decide) (fun x => by simp) one_Out 70 70 196 i0 _ Tryz.underlying70 hi0 hz0 hz1 hz2 (by simp [Value.cells]) (by decide) a c l w h hl
    have HRUN := Lib.hid hrun
    have HS := Lib.hid hs
    have HB := Lib.hid hb
    have hbn := run_buildSlice_nil (P := Tryz.prog) Tryz.underlying70 size_Out
    clear hrun hs hb hi0 hz0 hz1 hz2 hl h
    go_enter Tryz.func152, Tryz.ntmps152
    go_wp2_with (refine wpList_app rfl _ _ _ _ rfl _ _ rfl rfl HRUN.out ?_)
    go_ret
    exact ⟨s', rfl, HS.out, HB.out⟩
set_option maxRecDepth 100000 in
set_option maxHeartbeats 2000000 in
theorem own_tx (v : TxV) (t : Tx) (w : World) (ht : isTx w v t w.heap.size) (h1 : t.ins.length ≤ 1000000) (h2 : t.outs.length ≤ 1000000) :
    Calls Tryz.prog 100 #[.agg v.arr] w fun e w' => ∃ u : TxV, e = .returned (.agg u.arr) ∧ txIn w' (fun k => w.heap.size ≤ k) u t ∧ Below w.heap.size w w' := by
  obtain ⟨W, hW⟩ : ∃ W, W = (w.alloc (.cells v.arr 72)).alloc (.cells TxV.zero.arr 72) := ⟨_, rfl⟩
  have hbW : Below w.heap.size w W := hW ▸ ((Below.refl _ _).alloc (Nat.le_refl _) _).alloc (by simp) _
  have htW := (ht.below hbW).mono hbW.size
  have g1 : W.heap[w.heap.size]? = some (.cells v.arr 72 (0, 0)) := by rw [hW]; exact (heap_alloc_old _ _ (by simp)).trans (heap_alloc_new w _)
  have g2 : W.heap[w.heap.size + 1]? = some (.cells TxV.zero.arr 72 (0, 0)) := by rw [hW, show w.heap.size + 1 = (w.alloc (.cells v.arr 72)).heap.size by simp]; exact heap_alloc_new _ _
  have hz : w.heap.size + 2 = W.heap.size := by rw [hW]; simp
  have hS0 : W.drew.cell? ⟨w.heap.size, 0, none⟩ = some (.slice v.ins.a v.ins.n v.ins.c) ∧ W.drew.cell? ⟨w.heap.size, 1, none⟩ = some (.slice v.outs.a v.outs.n v.outs.c) := ⟨by show W.cell? _ = _; rw [(cells_known g1).1]; exact TxV.arr_0 v, by show W.cell? _ = _; rw [(cells_known g1).1]; exact TxV.arr_1 v⟩
  have hc1 := clone_ins v.ins t.ins W.drew htW.1 h1
  have hcz : w.heap.size < W.heap.size := by omega
  have HTW := Lib.hid htW
  have G1 := Lib.hid g1
  have G2 := Lib.hid g2
  clear htW g1 g2
  go_enter Tryz.func100, Tryz.ntmps100
  go_wp2_with fail
  rw [← hW]
  clear hW
  have hL0 : W.drew.cell? ⟨w.heap.size, 0, none⟩ = some (.slice v.ins.a v.ins.n v.ins.c) := hS0.1
  have hL1 : W.drew.cell? ⟨w.heap.size, 1, none⟩ = some (.slice v.outs.a v.outs.n v.outs.c) := hS0.2
  clear hS0
  go_region_law (first | (go_simp; go_at_call 151; refine hc1.mono ?_; rintro e wA ⟨sA, rfl, hsA, hbA⟩; have hA1 : wA.cell? ⟨w.heap.size, 1, none⟩ = some (.slice v.outs.a v.outs.n v.outs.c) := (hbA.cell (p := ⟨w.heap.size, 1, none⟩) hcz).trans hL1; have hc2 := clone_outs v.outs t.outs wA ((HTW.out.2.1.below ((Below.refl W.heap.size W).drew.trans hbA)).mono hbA.size) h2) | (go_simp; go_at_call 152; refine hc2.mono ?_; rintro e wB ⟨sB, rfl, hsB, hbB⟩; have hgB : wB.heap[w.heap.size]? = some (.cells v.arr 72 (0, 0)) := (hbB.block _ (Nat.lt_of_lt_of_le hcz hbA.size)).trans ((hbA.block _ hcz).trans G1.out); obtain ⟨kcB, kfB, klB⟩ := cells_known hgB; have hcB0 := kcB 0; have hcB1 := kcB 1; have hfB0 := kfB 0; have hfB1 := kfB 1; simp only [TxV.arr_0, TxV.arr_1] at hcB0 hcB1; have HGB := Lib.hid hgB; clear hgB kcB kfB))
  all_goals
    obtain ⟨X, hX⟩ : ∃ X, X = ((wB.setCell ⟨w.heap.size, 0, none⟩ (.slice sA.a sA.n sA.c)).setCell ⟨w.heap.size, 1, none⟩ (.slice sB.a sB.n sB.c)) := ⟨_, rfl⟩
    rw [← hX]
    have hu : Upd wB X (fun k => k = w.heap.size) := hX ▸ ((Upd.setCell wB ⟨w.heap.size, 0, none⟩ _).trans (Upd.setCell _ ⟨w.heap.size, 1, none⟩ _) (fun _ _ h => h))
    have hX1 : X.heap[w.heap.size]? = some (.cells (TxV.mk sA sB v.lock).arr 72 (0, 0)) := by
      rw [hX, heap_set (heap_set HGB.out 0 (.slice sA.a sA.n sA.c)) 1 (.slice sB.a sB.n sB.c)]
      simp only [TxV.set_0, TxV.set_1]
    have hbWB : Below W.heap.size W wB := (Below.refl W.heap.size W).drew.trans (hbA.trans (hbB.mono hbA.size))
    have hX2 : X.heap[w.heap.size + 1]? = some (.cells TxV.zero.arr 72 (0, 0)) := (hu.block _ (Nat.lt_of_lt_of_le (by omega) hbWB.size) (by omega)).trans ((hbWB.block _ (by omega)).trans G2.out)
    have hrow : row? X ⟨w.heap.size, 0, none⟩ 3 = some (TxV.mk sA sB v.lock).arr := row_of_block hX1 (by simp)
    have q1 : slIn X (fun k => W.heap.size ≤ k) sA 37 In.arr t.ins := (hsA.below hbB (fun _ _ h => h)).upd hu (fun k hk _ e => by
      have hk2 : W.heap.size ≤ k := hk
      omega)
    have q2 : slIn X (fun k => W.heap.size ≤ k) sB 39 Out.arr t.outs := (hsB.zone (fun k _ hk => Nat.le_trans hbA.size hk)).upd hu (fun k hk _ e => by
      have hk2 : W.heap.size ≤ k := hk
      omega)
    have HX2 := Lib.hid hX2
    have HQ := Lib.hid (And.intro q1 q2)
    have HB := Lib.hid ((hbW.trans (hbWB.mono hbW.size)).trans (hu.below (Nat.le_trans hbW.size hbWB.size) (fun k e => Nat.le_of_eq e.symm)))
    have hlk : v.lock = t.lock := ht.2.2
    have HL := Lib.hid hlk
    clear hX hX1 hX2 q1 q2 hu hsA hsB hL0 hL1 hA1 hcB0 hcB1 hfB0 hfB1 hc1 hc2 hlk
    go_wp2_with (refine wpList_storeRow size_TxV (.tmp 2) (.tmp 11) rfl rfl (w.heap.size + 1) (TxV.mk sA sB v.lock).arr TxV.zero.arr rfl rfl (by simp) (one_TxV _) (by simp) HX2.out ?_; intro wz hhz huz)
    refine bodyPost_ret (results_cell_row rfl _ _ (w.heap.size + 1) 72 (TxV.mk sA sB v.lock).arr (0, 0) _ rfl hhz Tryz.underlying72 rfl (by rw [size_TxV]; simp)) rfl ⟨_, rfl, ?_, ?_⟩
    · refine ⟨(HQ.out.1.upd huz (fun k hk _ e => ?_)).zone (fun k _ hk => Nat.le_trans hbW.size hk), (HQ.out.2.upd huz (fun k hk _ e => ?_)).zone (fun k _ hk => Nat.le_trans hbW.size hk), HL.out⟩
      all_goals
        have hk2 : W.heap.size ≤ k := hk
        have e2 : k = w.heap.size + 1 := e
        omega
    · exact HB.out.trans (huz.below HB.out.size (fun k e => by have e2 : k = w.heap.size + 1 := e; omega))
end Go.Proofs.YtlkojkjeklblkaaGreat
