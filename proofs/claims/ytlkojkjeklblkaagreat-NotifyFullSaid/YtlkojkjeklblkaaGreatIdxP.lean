/- Package index, in plain words: who spent what; what is taken in, and let go again, is as if it had never been. -/
import Derived.Test.YtlkojkjeklblkaaGreatTxF
set_option linter.unusedSimpArgs false
set_option linter.unusedVariables false
namespace Go.Proofs.YtlkojkjeklblkaaGreat
def updF {κ ν : Type} [DecidableEq κ] (f : κ → Option ν) (x : κ) (v : Option ν) : κ → Option ν := fun y => if y = x then v else f y
section
variable {κ ν : Type} [DecidableEq κ] {f : κ → Option ν} {x y : κ} {u v : Option ν}
theorem updF_same : updF f x v x = v := by simp [updF]
theorem updF_other (h : y ≠ x) : updF f x v y = f y := by simp [updF, h]
theorem updF_twice : updF (updF f x u) x v = updF f x v := by funext z; unfold updF; split <;> rfl
theorem updF_id (h : f x = v) : updF f x v = f := by funext z; unfold updF; split <;> simp_all
theorem updF_comm (h : x ≠ y) : updF (updF f x u) y v = updF (updF f y v) x u := by
  funext z; unfold updF
  by_cases h1 : z = x
  · subst h1; simp [h]
  · simp [h1]
end
/-- Transactions by their numbers, with their heights; who spent what. -/
structure Maps where
  txs : Hash → Option (Tx × Nat)
  sp : Outpoint → Option Hash
def Maps.zero : Maps := ⟨fun _ => none, fun _ => none⟩
def putIns (f : Outpoint → Option Hash) (l : List In) (z : Hash) : Outpoint → Option Hash := l.foldl (fun f i => updF f i.prev (some z)) f
def dropIns (f : Outpoint → Option Hash) (l : List In) : Outpoint → Option Hash := l.foldl (fun f i => updF f i.prev none) f
theorem putIns_snoc (f : Outpoint → Option Hash) (l : List In) (i : In) (z : Hash) : putIns f (l ++ [i]) z = updF (putIns f l z) i.prev (some z) := by simp [putIns]
theorem dropIns_snoc (f : Outpoint → Option Hash) (l : List In) (i : In) : dropIns f (l ++ [i]) = updF (dropIns f l) i.prev none := by simp [dropIns]
theorem putIns_eq (l : List In) (z : Hash) : ∀ (f : Outpoint → Option Hash) (q : Outpoint), putIns f l z q = if q ∈ l.map (·.prev) then some z else f q := by
  induction l with
  | nil => intro f q; simp [putIns]
  | cons i l ih =>
    intro f q
    show putIns (updF f i.prev (some z)) l z q = _
    rw [ih]
    by_cases h1 : q ∈ l.map (·.prev)
    · rw [if_pos h1, if_pos (by simp only [List.map_cons]; exact List.mem_cons_of_mem _ h1)]
    · rw [if_neg h1]
      by_cases h2 : q = i.prev
      · rw [h2, updF_same, if_pos (by simp)]
      · rw [updF_other h2, if_neg]
        simp only [List.map_cons, List.mem_cons]
        rintro (h | h)
        · exact h2 h
        · exact h1 h
theorem dropIns_eq (l : List In) : ∀ (f : Outpoint → Option Hash) (q : Outpoint), dropIns f l q = if q ∈ l.map (·.prev) then none else f q := by
  induction l with
  | nil => intro f q; simp [dropIns]
  | cons i l ih =>
    intro f q
    show dropIns (updF f i.prev none) l q = _
    rw [ih]
    by_cases h1 : q ∈ l.map (·.prev)
    · rw [if_pos h1, if_pos (by simp only [List.map_cons]; exact List.mem_cons_of_mem _ h1)]
    · rw [if_neg h1]
      by_cases h2 : q = i.prev
      · rw [h2, updF_same, if_pos (by simp)]
      · rw [updF_other h2, if_neg]
        simp only [List.map_cons, List.mem_cons]
        rintro (h | h)
        · exact h2 h
        · exact h1 h
def insOf (M : Maps) (z : Hash) : List In := match M.txs z with | some x => x.1.ins | none => []
def addTx (h : Nat) (M : Maps) (t : Tx) : Maps := ⟨updF M.txs (idS t) (some (t, h)), putIns M.sp t.ins (idS t)⟩
def delTx (M : Maps) (z : Hash) : Maps := ⟨updF M.txs z none, dropIns M.sp (insOf M z)⟩
/-- May an input spend what it spends? -/
def mayIn (M : Maps) (i : In) : Bool := (M.sp i.prev).isNone && (match M.txs i.prev.tx with | some x => decide (i.prev.n < (x.1.outs.length : Int)) | none => true)
def mayS (M : Maps) (t : Tx) : Bool := (M.txs (idS t)).isNone && t.ins.all (mayIn M)
def addAll (h : Nat) (M : Maps) (l : List Tx) : Maps := l.foldl (addTx h) M
def undoS (M : Maps) (ids : List Hash) : Maps := ids.foldl delTx M
theorem addAll_snoc (h : Nat) (M : Maps) (l : List Tx) (t : Tx) : addAll h M (l ++ [t]) = addTx h (addAll h M l) t := by simp [addAll]
theorem undoS_snoc (M : Maps) (l : List Hash) (z : Hash) : undoS M (l ++ [z]) = delTx (undoS M l) z := by simp [undoS]
def mayAll (h : Nat) : Maps → List Tx → Bool
  | _, [] => true
  | M, t :: l => mayS M t && mayAll h (addTx h M t) l
theorem mayAll_append (h : Nat) : ∀ (l m : List Tx) (M : Maps), mayAll h M (l ++ m) = (mayAll h M l && mayAll h (addAll h M l) m)
  | [], m, M => by simp [mayAll, addAll]
  | t :: l, m, M => by
    show (mayS M t && mayAll h (addTx h M t) (l ++ m)) = _
    rw [mayAll_append h l m]
    simp [mayAll, addAll, Bool.and_assoc]
/-- M' knows what M knows. -/
def Maps.le (M M' : Maps) : Prop := (∀ z v, M.txs z = some v → M'.txs z = some v) ∧ ∀ q v, M.sp q = some v → M'.sp q = some v
theorem mayS_spec {M : Maps} {t : Tx} : mayS M t = true ↔ M.txs (idS t) = none ∧ ∀ i ∈ t.ins, M.sp i.prev = none ∧ ∀ x, M.txs i.prev.tx = some x → i.prev.n < (x.1.outs.length : Int) := by
  unfold mayS mayIn
  simp only [Bool.and_eq_true, Option.isNone_iff_eq_none, List.all_eq_true]
  constructor
  · rintro ⟨h1, h2⟩
    refine ⟨h1, fun i hi => ⟨(h2 i hi).1, fun x hx => ?_⟩⟩
    have h3 := (h2 i hi).2
    rw [hx] at h3
    simpa using h3
  · rintro ⟨h1, h2⟩
    refine ⟨h1, fun i hi => ⟨(h2 i hi).1, ?_⟩⟩
    cases hx : M.txs i.prev.tx with
    | none => rfl
    | some x => simpa using (h2 i hi).2 x hx
theorem none_of_le {M M' : Maps} (h : M.le M') : (∀ z, M'.txs z = none → M.txs z = none) ∧ ∀ q, M'.sp q = none → M.sp q = none := by
  constructor
  · intro z hz
    cases hx : M.txs z with
    | none => rfl
    | some v => rw [h.1 z v hx] at hz; cases hz
  · intro q hq
    cases hx : M.sp q with
    | none => rfl
    | some v => rw [h.2 q v hx] at hq; cases hq
theorem mayS_le {M M' : Maps} (h : M.le M') {t : Tx} (hm : mayS M' t = true) : mayS M t = true := by
  rw [mayS_spec] at hm ⊢
  exact ⟨(none_of_le h).1 _ hm.1, fun i hi => ⟨(none_of_le h).2 _ (hm.2 i hi).1, fun x hx => (hm.2 i hi).2 x (h.1 _ _ hx)⟩⟩
theorem addTx_le {M M' : Maps} (h : M.le M') (k : Nat) (t : Tx) : (addTx k M t).le (addTx k M' t) := by
  constructor
  · intro z v hz
    simp only [addTx] at hz ⊢
    by_cases e : z = idS t
    · subst e; rw [updF_same] at hz ⊢; exact hz
    · rw [updF_other e] at hz ⊢; exact h.1 z v hz
  · intro q v hq
    simp only [addTx, putIns_eq] at hq ⊢
    split at hq
    · rename_i h1; rw [if_pos h1]; exact hq
    · rename_i h1; rw [if_neg h1]; exact h.2 q v hq
theorem mayAll_le (k : Nat) : ∀ (l : List Tx) {M M' : Maps}, M.le M' → mayAll k M' l = true → mayAll k M l = true
  | [], _, _, _, _ => rfl
  | t :: l, M, M', h, hm => by
    simp only [mayAll, Bool.and_eq_true] at hm ⊢
    exact ⟨mayS_le h hm.1, mayAll_le k l (addTx_le h k t) hm.2⟩
theorem le_addTx {M : Maps} {t : Tx} (k : Nat) (h : mayS M t = true) : M.le (addTx k M t) := by
  rw [mayS_spec] at h
  constructor
  · intro z v hz
    simp only [addTx]
    by_cases e : z = idS t
    · subst e; rw [h.1] at hz; cases hz
    · rw [updF_other e]; exact hz
  · intro q v hq
    simp only [addTx, putIns_eq]
    rw [if_neg]
    · exact hq
    · intro hm
      obtain ⟨i, hi, rfl⟩ := List.mem_map.1 hm
      rw [(h.2 i hi).1] at hq
      cases hq
theorem del_add {M : Maps} {t : Tx} (k : Nat) (h : mayS M t = true) : delTx (addTx k M t) (idS t) = M := by
  rw [mayS_spec] at h
  obtain ⟨f, g⟩ := M
  have e1 : insOf (addTx k ⟨f, g⟩ t) (idS t) = t.ins := by unfold insOf addTx; simp only [updF_same]
  unfold delTx
  rw [e1]
  simp only [addTx]
  congr 1
  · rw [updF_twice]; exact updF_id h.1
  · funext q
    rw [dropIns_eq]
    split
    · rename_i hm
      obtain ⟨i, hi, rfl⟩ := List.mem_map.1 hm
      exact (h.2 i hi).1.symm
    · rename_i hm
      rw [putIns_eq, if_neg hm]
theorem del_past {M : Maps} {t : Tx} {k : Nat} {z : Hash} {x : Tx × Nat} (hz : M.txs z = some x) (hp : ∀ i ∈ x.1.ins, (M.sp i.prev).isSome = true) (h : mayS M t = true) :
    delTx (addTx k M t) z = addTx k (delTx M z) t ∧ (addTx k M t).txs z = some x ∧ ∀ i ∈ x.1.ins, ((addTx k M t).sp i.prev).isSome = true := by
  have hle := le_addTx k h
  rw [mayS_spec] at h
  have hne : z ≠ idS t := fun e => by rw [e, h.1] at hz; cases hz
  have h2 : (addTx k M t).txs z = some x := hle.1 _ _ hz
  have h3 : ∀ i ∈ x.1.ins, ((addTx k M t).sp i.prev).isSome = true := fun i hi => by
    obtain ⟨v, hv⟩ := Option.isSome_iff_exists.1 (hp i hi)
    rw [hle.2 _ _ hv]; rfl
  refine ⟨?_, h2, h3⟩
  have e1 : insOf (addTx k M t) z = x.1.ins := by unfold insOf; rw [h2]
  have e2 : insOf M z = x.1.ins := by unfold insOf; rw [hz]
  unfold delTx
  rw [e1, e2]
  obtain ⟨f, g⟩ := M
  simp only [addTx]
  congr 1
  · exact updF_comm (Ne.symm hne)
  · funext q
    rw [dropIns_eq, putIns_eq, putIns_eq, dropIns_eq]
    by_cases q1 : q ∈ x.1.ins.map (·.prev)
    · rw [if_pos q1, if_neg]
      · rw [if_pos q1]
      · intro hm
        obtain ⟨i, hi, rfl⟩ := List.mem_map.1 hm
        obtain ⟨j, hj, e⟩ := List.mem_map.1 q1
        have := hp j hj
        rw [e, (h.2 i hi).1] at this
        cases this
    · rw [if_neg q1, if_neg q1]
theorem del_pastAll (k : Nat) (z : Hash) (x : Tx × Nat) : ∀ (l : List Tx) (M : Maps), M.txs z = some x → (∀ i ∈ x.1.ins, (M.sp i.prev).isSome = true) → mayAll k M l = true → delTx (addAll k M l) z = addAll k (delTx M z) l
  | [], _, _, _, _ => rfl
  | t :: l, M, hz, hp, hm => by
    simp only [mayAll, Bool.and_eq_true] at hm
    obtain ⟨h1, h2, h3⟩ := del_past (k := k) hz hp hm.1
    show delTx (addAll k (addTx k M t) l) z = addAll k (addTx k (delTx M z) t) l
    rw [← h1]
    exact del_pastAll k z x l _ h2 h3 hm.2
/-- What was taken in, and let go, is as if it had never been. -/
theorem undo_add (k : Nat) : ∀ (l : List Tx) (M : Maps), mayAll k M l = true → undoS (addAll k M l) (l.map idS) = M
  | [], _, _ => rfl
  | t :: l, M, hm => by
    simp only [mayAll, Bool.and_eq_true] at hm
    have h1 : (addTx k M t).txs (idS t) = some (t, k) := updF_same
    have h2 : ∀ i ∈ (t, k).1.ins, ((addTx k M t).sp i.prev).isSome = true := fun i hi => by
      simp only [addTx, putIns_eq]
      rw [if_pos (List.mem_map_of_mem hi)]; rfl
    show undoS (delTx (addAll k (addTx k M t) l) (idS t)) (l.map idS) = M
    rw [del_pastAll k _ _ l _ h1 h2 hm.2, del_add k hm.1]
    exact undo_add k l M (mayAll_le k l (le_addTx k hm.1) hm.2)
/-! ### blocks, one on the other -/
def mapsOf (L : List (List Tx)) : Maps := (L.zipIdx 1).foldl (fun M x => addAll x.2 M x.1) Maps.zero
theorem mapsOf_nil : mapsOf [] = Maps.zero := rfl
theorem mapsOf_snoc (L : List (List Tx)) (l : List Tx) : mapsOf (L ++ [l]) = addAll (L.length + 1) (mapsOf L) l := by
  unfold mapsOf
  rw [List.zipIdx_append, List.foldl_append]
  simp [Nat.add_comm]
/-- Errors of a block's transactions. -/
def firstErr (l : List Tx) : Int := match l.find? (fun t => checkS t != 0) with | some t => checkS t | none => 0
/-- The place of a number among numbers. -/
def posS (ids : List Hash) (z : Hash) : Option Nat := if z ∈ ids then some (ids.idxOf z) else none
theorem posS_none {ids : List Hash} {z : Hash} : posS ids z = none ↔ z ∉ ids := by unfold posS; split <;> simp_all
theorem posS_snoc {ids : List Hash} {x : Hash} (h : x ∉ ids) : posS (ids ++ [x]) = updF (posS ids) x (some ids.length) := by
  funext z
  unfold posS updF
  by_cases hz : z = x
  · subst hz
    simp [h, List.idxOf_append]
  · by_cases hm : z ∈ ids
    · simp [hz, hm, List.idxOf_append]
    · simp [hz, hm]
def pointsOf (l : List Tx) : List Outpoint := l.flatMap fun t => t.ins.map (·.prev)
theorem pointsOf_snoc (l : List Tx) (t : Tx) : pointsOf (l ++ [t]) = pointsOf l ++ t.ins.map (·.prev) := by simp [pointsOf]
def inOkAt (ids : List Hash) (i : Nat) (x : In) : Bool := match posS ids x.prev.tx with | some k => decide (k < i) | none => true
def txAt (l : List Tx) (i : Nat) : Tx := l.getD i ⟨[], [], 0⟩
theorem txAt_eq {l : List Tx} {i : Nat} (h : i < l.length) : txAt l i = l[i] := by simp [txAt, List.getD, h]
def apartS (l : List Tx) : Bool :=
  decide (l.map idS).Nodup && decide (pointsOf l).Nodup && (List.range l.length).all fun i => (txAt l i).ins.all (inOkAt (l.map idS) i)
theorem apartS_ids {l : List Tx} {k : Nat} (hk : k < l.length) (h : idS l[k] ∈ (l.take k).map idS) : apartS l = false := by
  have : ¬ (l.map idS).Nodup := by
    intro hn
    have e : l.map idS = (l.take k).map idS ++ (idS l[k] :: (l.drop (k + 1)).map idS) := by
      rw [← List.map_cons, ← List.drop_eq_getElem_cons hk, ← List.map_append, List.take_append_drop]
    rw [e] at hn
    exact (List.nodup_append.1 hn).2.2 _ h _ List.mem_cons_self rfl
  unfold apartS
  rw [decide_eq_false this]; rfl
theorem apartS_points {l : List Tx} {k j : Nat} (hk : k < l.length) (hj : j < l[k].ins.length) (h : l[k].ins[j].prev ∈ pointsOf (l.take k) ++ (l[k].ins.take j).map (·.prev)) : apartS l = false := by
  have : ¬ (pointsOf l).Nodup := by
    intro hn
    have e1 : l = l.take k ++ (l[k] :: l.drop (k + 1)) := by rw [← List.drop_eq_getElem_cons hk, List.take_append_drop]
    have e2 : l[k].ins = l[k].ins.take j ++ (l[k].ins[j] :: l[k].ins.drop (j + 1)) := by rw [← List.drop_eq_getElem_cons hj, List.take_append_drop]
    have hg : ∀ (A : List Tx) (x : Tx) (B : List Tx), pointsOf (A ++ x :: B) = pointsOf A ++ (x.ins.map (·.prev) ++ pointsOf B) := by intro A x B; simp [pointsOf]
    have hg2 : ∀ (A : List In) (x : In) (B : List In), (A ++ x :: B).map (·.prev) = A.map (·.prev) ++ (x.prev :: B.map (·.prev)) := by intro A x B; simp
    have h3 : pointsOf l = pointsOf (l.take k) ++ (l[k].ins.map (·.prev) ++ pointsOf (l.drop (k + 1))) := (congrArg pointsOf e1).trans (hg _ _ _)
    have h4 : l[k].ins.map (·.prev) = (l[k].ins.take j).map (·.prev) ++ (l[k].ins[j].prev :: (l[k].ins.drop (j + 1)).map (·.prev)) := (congrArg (List.map (·.prev)) e2).trans (hg2 _ _ _)
    rw [h3, h4, List.append_assoc, ← List.append_assoc] at hn
    exact (List.nodup_append.1 hn).2.2 _ h _ (by simp) rfl
  unfold apartS
  rw [decide_eq_false this]; simp
theorem apartS_order {l : List Tx} {k j : Nat} (hk : k < l.length) (hj : j < l[k].ins.length) (h : inOkAt (l.map idS) k l[k].ins[j] = false) : apartS l = false := by
  have : ((List.range l.length).all fun i => (txAt l i).ins.all (inOkAt (l.map idS) i)) = false := by
    rw [List.all_eq_false]
    refine ⟨k, by simpa using hk, ?_⟩
    rw [txAt_eq hk, Bool.not_eq_true, List.all_eq_false]
    exact ⟨_, List.getElem_mem hj, by simp [h]⟩
  unfold apartS
  rw [this]; simp
theorem apartS_true {l : List Tx} (h1 : (l.map idS).Nodup) (h2 : (pointsOf l).Nodup) (h3 : ∀ k (hk : k < l.length) j (hj : j < l[k].ins.length), inOkAt (l.map idS) k l[k].ins[j] = true) : apartS l = true := by
  unfold apartS
  rw [decide_eq_true h1, decide_eq_true h2]
  simp only [Bool.true_and, List.all_eq_true, List.mem_range]
  intro i hi x hx
  rw [txAt_eq hi] at hx
  obtain ⟨j, hj, rfl⟩ := List.mem_iff_getElem.1 hx
  exact h3 i hi j hj
theorem apartS_points' {l : List Tx} {k j : Nat} {t : Tx} {x : In} (hk : k < l.length) (ht : t = l[k]) (hj : j < t.ins.length) (hx : x = t.ins[j]) (h : x.prev ∈ pointsOf (l.take k) ++ (t.ins.take j).map (·.prev)) : apartS l = false := by
  subst ht hx; exact apartS_points hk hj h
theorem apartS_order' {l : List Tx} {k j : Nat} {t : Tx} {x : In} (hk : k < l.length) (ht : t = l[k]) (hj : j < t.ins.length) (hx : x = t.ins[j]) (h : inOkAt (l.map idS) k x = false) : apartS l = false := by
  subst ht hx; exact apartS_order hk hj h
def txsS (l : List Tx) : Int := if 100 < l.length then 3 else if firstErr l ≠ 0 then firstErr l else if apartS l then 0 else 1
theorem txsS_zero {l : List Tx} (h : txsS l = 0) : l.length ≤ 100 ∧ (∀ t ∈ l, checkS t = 0) ∧ apartS l = true := by
  unfold txsS at h
  split at h
  · omega
  · rename_i h1
    split at h
    · rename_i h2; exact absurd h h2
    · rename_i h2
      have h2 : firstErr l = 0 := by omega
      split at h
      · rename_i h3
        refine ⟨by omega, fun t ht => ?_, h3⟩
        by_cases hc : checkS t = 0
        · exact hc
        · exfalso
          unfold firstErr at h2
          cases hf : l.find? (fun t => checkS t != 0) with
          | none =>
            rw [List.find?_eq_none] at hf
            exact hf t ht (by simpa using hc)
          | some u =>
            rw [hf] at h2
            have := List.find?_some hf
            simp at this
            exact this h2
      · omega
theorem mayAll_step {h : Nat} {M : Maps} {l : List Tx} {k : Nat} {t : Tx} (hk : k < l.length) (ht : t = l[k]) (h1 : mayAll h M (l.take k) = true) (h2 : mayS (addAll h M (l.take k)) t = true) : mayAll h M (l.take (k + 1)) = true := by
  subst ht
  rw [List.take_succ_eq_append_getElem hk, mayAll_append, h1]
  simp [mayAll, h2]
theorem mayAll_stop {h : Nat} {M : Maps} {l : List Tx} {k : Nat} {t : Tx} (hk : k < l.length) (ht : t = l[k]) (h2 : mayS (addAll h M (l.take k)) t = false) : mayAll h M l = false := by
  subst ht
  have e : l = l.take k ++ (l[k] :: l.drop (k + 1)) := by rw [← List.drop_eq_getElem_cons hk, List.take_append_drop]
  have : mayAll h M (l.take k ++ (l[k] :: l.drop (k + 1))) = false := by
    rw [mayAll_append]
    simp [mayAll, h2]
  rw [← e] at this
  exact this
def mayBlock (L : List (List Tx)) (l : List Tx) : Bool := mayAll (L.length + 1) (mapsOf L) l
def conE (L : List (List Tx)) (l : List Tx) : Int := if txsS l ≠ 0 then 1 else if mayBlock L l then 0 else 10
def conL (L : List (List Tx)) (l : List Tx) : List (List Tx) := if conE L l = 0 then L ++ [l] else L
theorem conE_zero {L : List (List Tx)} {l : List Tx} : conE L l = 0 ↔ txsS l = 0 ∧ mayBlock L l = true := by
  unfold conE
  split
  · rename_i h; simp [h]
  · rename_i h
    have h : txsS l = 0 := by omega
    split
    · rename_i h2; simp [h, h2]
    · rename_i h2; simp [h, h2]
/-- Each block came in when it might. -/
def goodL (L : List (List Tx)) : Prop := ∀ (k : Nat) (h : k < L.length), conE (L.take k) L[k] = 0
theorem goodL_nil : goodL [] := fun k h => absurd h (by simp)
theorem goodL.con {L : List (List Tx)} (h : goodL L) (l : List Tx) : goodL (conL L l) := by
  unfold conL
  split
  · rename_i he
    intro k hk
    by_cases hl : k < L.length
    · rw [List.getElem_append_left hl, List.take_append_of_le_length (by omega)]
      exact h k hl
    · have : k = L.length := by simp at hk; omega
      subst this
      rw [List.getElem_append_right (Nat.le_refl _)]
      simpa using he
  · exact h
theorem goodL.take {L : List (List Tx)} (h : goodL L) (n : Nat) : goodL (L.take n) := by
  intro k hk
  rw [List.length_take] at hk
  rw [List.take_take, Nat.min_eq_left (by omega), List.getElem_take]
  exact h k (by omega)
theorem goodL.last {L : List (List Tx)} (h : goodL L) (hne : L ≠ []) : undoS (mapsOf L) ((L.getLast hne).map idS) = mapsOf L.dropLast := by
  have hl : 0 < L.length := List.length_pos_iff.2 hne
  have e : L = L.dropLast ++ [L.getLast hne] := (List.dropLast_concat_getLast hne).symm
  have hg := h (L.length - 1) (by omega)
  have e1 : L[L.length - 1]'(by omega) = L.getLast hne := by rw [List.getLast_eq_getElem]
  rw [e1, ← List.dropLast_eq_take] at hg
  have hm := (conE_zero.1 hg).2
  conv => lhs; arg 1; rw [e, mapsOf_snoc]
  exact undo_add _ _ _ hm
end Go.Proofs.YtlkojkjeklblkaaGreat
