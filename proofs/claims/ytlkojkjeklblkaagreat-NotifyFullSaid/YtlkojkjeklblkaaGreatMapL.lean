/- Maps in memory, as functions of their keys: look-ups, stores, deletions. Whatever the program. -/
import Derived.Test.YtlkojkjeklblkaaGreatMem
import Derived.Maps.Own
import Derived.Maps.OwnOps
set_option linter.unusedSimpArgs false
set_option linter.unusedVariables false
namespace Go.Proofs.YtlkojkjeklblkaaGreat
open Go.RowKit Go.MapKept
open Go.Maps (Keyed)
open Go.ChangeMaps (setBlock modify_eq_set heap_setBlock_same heap_setBlock_other)
/-- What is asked of a key's type κ and of how its keys stand in memory. -/
structure KeyEnc (P : Program) (k : TypeId) {κ : Type} (enc : κ → Value) : Prop where
  keyed : Keyed P k
  reads : ∀ x, ∃ l, keyOf P k (enc x) = some l
  inj : ∀ {x y}, enc x = enc y → x = y
/-- Entries as a function. -/
structure MapRd {κ : Type} (enc : κ → Value) (es : Array MapEntry) (clock : Nat) (f : κ → Option Value) : Prop where
  stamped : Stamped es clock
  keys : ∀ e ∈ es.toList, ∃ x, e.key = enc x
  has : ∀ x v, f x = some v ↔ ∃ e ∈ es.toList, e.key = enc x ∧ e.val = v
/-- Block b is a map of n entries that gives f. -/
def mapAt {κ : Type} (w : World) (enc : κ → Value) (b n : Nat) (f : κ → Option Value) : Prop :=
  ∃ es clock, w.heap[b]? = some (.map es clock) ∧ MapRd enc es clock f ∧ es.size = n
theorem mapAt.lt {κ : Type} {w : World} {enc : κ → Value} {b n : Nat} {f : κ → Option Value} (h : mapAt w enc b n f) : b < w.heap.size := by
  obtain ⟨es, clock, hb, _⟩ := h
  exact (Array.getElem?_eq_some_iff.1 hb).1
theorem mapAt.of_block {κ : Type} {w w' : World} {enc : κ → Value} {b n : Nat} {f : κ → Option Value} (h : mapAt w enc b n f) (hb : w'.heap[b]? = w.heap[b]?) : mapAt w' enc b n f := by
  obtain ⟨es, clock, h1, h2⟩ := h
  exact ⟨es, clock, hb.trans h1, h2⟩
theorem mapAt_made {κ : Type} (w : World) (enc : κ → Value) : mapAt (w.alloc (.map #[] 0)) enc w.heap.size 0 (fun _ => none) :=
  ⟨#[], 0, (MapKept.heap_alloc w _).1, ⟨stamped_empty 0, by simp, by simp⟩, rfl⟩
section
variable {P : Program} {k : TypeId} {κ : Type} {enc : κ → Value} {es : Array MapEntry} {clock : Nat} {f : κ → Option Value} {w : World} {b n : Nat} {t e : TypeId}
theorem MapRd.find (KE : KeyEnc P k enc) (M : MapRd enc es clock f) (w : World) (x : κ) :
    ((Instr.findKey k (enc x) es.toList).run P w = .ok none w ∧ f x = none ∧ ∀ e ∈ es.toList, e.key ≠ enc x) ∨
      ∃ j e, (Instr.findKey k (enc x) es.toList).run P w = .ok (some (j, e.val)) w ∧ es.toList[j]? = some e ∧ e.key = enc x ∧ f x = some e.val := by
  obtain ⟨l, hl⟩ := KE.reads x
  rcases KE.keyed.find w hl es.toList (fun e he => by obtain ⟨y, hy⟩ := M.keys e he; rw [hy]; exact KE.reads y) with ⟨h1, h2⟩ | ⟨j, e, h1, h2, h3⟩
  · refine .inl ⟨h1, ?_, h2⟩
    cases hf : f x with
    | none => rfl
    | some v =>
      obtain ⟨e, he, hk, _⟩ := (M.has x v).1 hf
      exact absurd hk (h2 e he)
  · exact .inr ⟨j, e, h1, h2, h3, (M.has x e.val).2 ⟨e, List.mem_of_getElem? h2, h3, rfl⟩⟩
/-- The value at a key, the zero value if there is none. -/
def look (f : κ → Option Value) (z : Value) (ok : Bool) (x : κ) : Value := if ok then .tuple #[(f x).getD z, .bool (f x).isSome] else (f x).getD z
theorem run_lookup (KE : KeyEnc P k enc) (ht : P.underlying t = some (.map k e)) {z : Value} (hz : (zeroValue e).run P w = .ok z w) (h : mapAt w enc b n f) (x : κ) (ok : Bool) :
    (Instr.lookup t (.map (some b)) (enc x) ok).run P w = .ok (look f z ok x) w := by
  obtain ⟨es, clock, hb, M, hn⟩ := h
  obtain ⟨l, hl⟩ := KE.reads x
  rcases M.find KE w x with ⟨h1, h2, h3⟩ | ⟨j, e, h1, h2, h3, h4⟩
  · cases ok <;> simp [Instr.lookup, run_underlying ht, MapKept.run_getObj_map hb, KE.keyed.check w _ hl, h1, hz, Result.andThen, look, h2]
  · cases ok <;> simp [Instr.lookup, run_underlying ht, MapKept.run_getObj_map hb, KE.keyed.check w _ hl, h1, Result.andThen, look, h4]
def upd [DecidableEq κ] (f : κ → Option Value) (x : κ) (v : Option Value) : κ → Option Value := fun y => if y = x then v else f y
theorem upd_same [DecidableEq κ] (f : κ → Option Value) (x : κ) (v : Option Value) : upd f x v x = v := by simp [upd]
theorem upd_other [DecidableEq κ] (f : κ → Option Value) {x y : κ} (v : Option Value) (h : y ≠ x) : upd f x v y = f y := by simp [upd, h]
theorem MapRd.push [DecidableEq κ] (KE : KeyEnc P k enc) (M : MapRd enc es clock f) (x : κ) (v : Value) (h : ∀ e ∈ es.toList, e.key ≠ enc x) : MapRd enc (es.push { key := enc x, val := v, born := clock }) (clock + 1) (upd f x (some v)) := by
  refine ⟨stamped_push M.stamped h, ?_, ?_⟩
  · intro e he
    simp only [Array.toList_push, List.mem_append, List.mem_singleton] at he
    rcases he with he | rfl
    · exact M.keys e he
    · exact ⟨x, rfl⟩
  · intro y u
    simp only [Array.toList_push, List.mem_append, List.mem_singleton]
    by_cases hy : y = x
    · subst hy
      rw [upd_same]
      constructor
      · intro hu; cases hu; exact ⟨_, .inr rfl, rfl, rfl⟩
      · rintro ⟨e, he | rfl, hk, hv⟩
        · exact absurd hk (h e he)
        · rw [← hv]
    · rw [upd_other f _ hy, M.has y u]
      constructor
      · rintro ⟨e, he, hk, hv⟩; exact ⟨e, .inl he, hk, hv⟩
      · rintro ⟨e, he | rfl, hk, hv⟩
        · exact ⟨e, he, hk, hv⟩
        · exact absurd (KE.inj hk).symm hy
theorem MapRd.other (M : MapRd enc es clock f) {j i : Nat} {e0 e1 : MapEntry} (h2 : es.toList[j]? = some e0) (h1 : es.toList[i]? = some e1) (hij : i ≠ j) : e1.key ≠ e0.key := by
  have hp := ((stamped_iff es clock).1 M.stamped).2.2
  obtain ⟨hj, ej⟩ := List.getElem?_eq_some_iff.1 h2
  obtain ⟨hi, ei⟩ := List.getElem?_eq_some_iff.1 h1
  rw [List.pairwise_iff_getElem] at hp
  rcases Nat.lt_or_gt_of_ne hij with h | h
  · have := hp i j hi hj h; rwa [ei, ej] at this
  · have := hp j i hj hi h; rw [ei, ej] at this; exact this.symm
theorem MapRd.set [DecidableEq κ] (KE : KeyEnc P k enc) (M : MapRd enc es clock f) (x : κ) (v : Value) {j : Nat} {e0 : MapEntry} (h2 : es.toList[j]? = some e0) (h3 : e0.key = enc x) :
    MapRd enc (es.modify j fun e => { e with key := enc x, val := v }) clock (upd f x (some v)) := by
  have hj : es[j]? = some e0 := by simpa using h2
  have hjl : j < es.toList.length := (List.getElem?_eq_some_iff.1 h2).1
  have hlist : (es.modify j (fun e' => { e' with key := enc x, val := v })).toList = es.toList.set j { e0 with key := enc x, val := v } := by rw [Array.toList_modify, modify_eq_set _ _ _ _ h2]
  have who : ∀ e, e ∈ es.toList.set j { e0 with key := enc x, val := v } ↔ e = { e0 with key := enc x, val := v } ∨ ∃ i, i ≠ j ∧ es.toList[i]? = some e := by
    intro e
    rw [List.mem_iff_getElem?]
    constructor
    · rintro ⟨i, hi⟩
      rw [List.getElem?_set] at hi
      by_cases hij : j = i
      · subst hij; rw [if_pos rfl, if_pos hjl] at hi; exact .inl (Option.some.inj hi).symm
      · rw [if_neg hij] at hi; exact .inr ⟨i, fun h => hij h.symm, hi⟩
    · rintro (rfl | ⟨i, hi, he⟩)
      · exact ⟨j, by rw [List.getElem?_set, if_pos rfl, if_pos hjl]⟩
      · exact ⟨i, by rw [List.getElem?_set, if_neg (fun h => hi h.symm)]; exact he⟩
  refine ⟨stamped_modify M.stamped _ _ (fun _ _ => rfl) (fun e' _ he' => by rw [hj] at he'; cases he'; exact h3.symm), ?_, ?_⟩
  · intro e he
    rw [hlist, who] at he
    rcases he with rfl | ⟨i, _, hi⟩
    · exact ⟨x, rfl⟩
    · exact M.keys e (List.mem_of_getElem? hi)
  · intro y u
    rw [hlist]
    by_cases hy : y = x
    · subst hy
      rw [upd_same]
      constructor
      · intro hu; cases hu; exact ⟨_, (who _).2 (.inl rfl), rfl, rfl⟩
      · rintro ⟨e, he, hk, hv⟩
        rcases (who e).1 he with rfl | ⟨i, hi, he'⟩
        · rw [← hv]
        · exact absurd (hk.trans h3.symm) (M.other h2 he' hi)
    · rw [upd_other f _ hy, M.has y u]
      constructor
      · rintro ⟨e, he, hk, hv⟩
        obtain ⟨i, hi⟩ := List.mem_iff_getElem?.1 he
        refine ⟨e, (who e).2 (.inr ⟨i, fun hij => ?_, hi⟩), hk, hv⟩
        subst hij
        rw [h2] at hi
        cases hi
        exact hy (KE.inj (hk.symm.trans h3))
      · rintro ⟨e, he, hk, hv⟩
        rcases (who e).1 he with rfl | ⟨i, hi, he'⟩
        · exact absurd (KE.inj hk).symm hy
        · exact ⟨e, List.mem_of_getElem? he', hk, hv⟩
theorem MapRd.erase [DecidableEq κ] (KE : KeyEnc P k enc) (M : MapRd enc es clock f) (x : κ) {j : Nat} {e0 : MapEntry} (h2 : es.toList[j]? = some e0) (h3 : e0.key = enc x) :
    MapRd enc (es.eraseIdxIfInBounds j) clock (upd f x none) := by
  have hjl : j < es.toList.length := (List.getElem?_eq_some_iff.1 h2).1
  have hlist : (es.eraseIdxIfInBounds j).toList = es.toList.eraseIdx j := by
    unfold Array.eraseIdxIfInBounds
    rw [dif_pos (by simpa using hjl)]
    simp
  refine ⟨stamped_erase M.stamped j, ?_, ?_⟩
  · intro e he
    rw [hlist] at he
    exact M.keys e (List.mem_of_mem_eraseIdx he)
  · intro y u
    rw [hlist]
    by_cases hy : y = x
    · subst hy
      rw [upd_same]
      constructor
      · intro hu; cases hu
      · rintro ⟨e, he, hk, hv⟩
        obtain ⟨i, hi, he'⟩ := List.mem_eraseIdx_iff_getElem?.1 he
        exact absurd (hk.trans h3.symm) (M.other h2 he' hi)
    · rw [upd_other f _ hy, M.has y u]
      constructor
      · rintro ⟨e, he, hk, hv⟩
        obtain ⟨i, hi⟩ := List.mem_iff_getElem?.1 he
        refine ⟨e, List.mem_eraseIdx_iff_getElem?.2 ⟨i, fun hij => ?_, hi⟩, hk, hv⟩
        subst hij
        rw [h2] at hi
        cases hi
        exact hy (KE.inj (hk.symm.trans h3))
      · rintro ⟨e, he, hk, hv⟩
        exact ⟨e, List.mem_of_mem_eraseIdx he, hk, hv⟩
theorem upd_none_id [DecidableEq κ] {x : κ} (h : f x = none) : upd f x none = f := by
  funext y; by_cases hy : y = x
  · subst hy; rw [upd_same, h]
  · rw [upd_other f _ hy]
/-- The world behind a store into a map's block, and what is known of it. -/
theorem run_mapStore [DecidableEq κ] (KE : KeyEnc P k enc) (ht : P.underlying t = some (.map k e)) (h : mapAt w enc b n f) (x : κ) (v : Value) :
    ∃ w', (Instr.mapUpdate t (.map (some b)) (enc x) v).run P w = .ok () w' ∧ mapAt w' enc b (if (f x).isSome then n else n + 1) (upd f x (some v)) ∧ w.grownBy w' (some b) := by
  obtain ⟨es, clock, hb, M, hn⟩ := h
  obtain ⟨l, hl⟩ := KE.reads x
  have hgrow : ∀ o, w.grownBy (setBlock w b o) (some b) := fun o => ⟨rfl, rfl, rfl, by simp [setBlock], fun i _ hi => heap_setBlock_other hb _ (fun e => hi (by rw [e]))⟩
  rcases M.find KE w x with ⟨h1, h2, h3⟩ | ⟨j, e0, h1, h2, h3, h4⟩
  · refine ⟨setBlock w b (.map (es.push ⟨enc x, v, clock⟩) (clock + 1)), ?_, ⟨_, _, heap_setBlock_same hb _, M.push KE x v h3, by simp [h2, hn]⟩, hgrow _⟩
    simp [Instr.mapUpdate, run_underlying ht, MapKept.run_getObj_map hb, KE.keyed.check w false hl, h1, MapKept.run_setObj_map _ hb, Result.andThen, setBlock]
  · have hj : es[j]? = some e0 := by simpa using h2
    refine ⟨setBlock w b (.map (es.modify j fun e => { e with key := enc x, val := v }) clock), ?_, ⟨_, _, heap_setBlock_same hb _, M.set KE x v h2 h3, by simp [h4, hn]⟩, hgrow _⟩
    simp [Instr.mapUpdate, run_underlying ht, MapKept.run_getObj_map hb, KE.keyed.check w false hl, h1, hj, h3, KE.keyed.stays w hl, MapKept.run_setObj_map _ hb, Result.andThen, setBlock]
theorem run_mapDrop [DecidableEq κ] {ty : TypeId} (KE : KeyEnc P k enc) (ht : P.underlying t = some (.map k e)) (h : mapAt w enc b n f) (x : κ) :
    ∃ w', (Builtin.delete_ #[t, k] ty #[.map (some b), enc x]).run P w = .ok (.tuple #[]) w' ∧ mapAt w' enc b (if (f x).isSome then n - 1 else n) (upd f x none) ∧ w.grownBy w' (some b) := by
  obtain ⟨es, clock, hb, M, hn⟩ := h
  obtain ⟨l, hl⟩ := KE.reads x
  have hgrow : ∀ o, w.grownBy (setBlock w b o) (some b) := fun o => ⟨rfl, rfl, rfl, by simp [setBlock], fun i _ hi => heap_setBlock_other hb _ (fun e => hi (by rw [e]))⟩
  rcases M.find KE w x with ⟨h1, h2, h3⟩ | ⟨j, e0, h1, h2, h3, h4⟩
  · refine ⟨setBlock w b (.map es clock), ?_, ⟨_, _, heap_setBlock_same hb _, by rw [upd_none_id h2]; exact M, by simp [h2, hn]⟩, hgrow _⟩
    simp [Builtin.delete_, run_underlying ht, MapKept.run_getObj_map hb, KE.keyed.check w _ hl, h1, MapKept.run_setObj_map _ hb, Result.andThen, setBlock]
  · refine ⟨setBlock w b (.map (es.eraseIdxIfInBounds j) clock), ?_, ⟨_, _, heap_setBlock_same hb _, M.erase KE x h2 h3, ?_⟩, hgrow _⟩
    · simp [Builtin.delete_, run_underlying ht, MapKept.run_getObj_map hb, KE.keyed.check w _ hl, h1, MapKept.run_setObj_map _ hb, Result.andThen, setBlock]
    · have hjl : j < es.size := by simpa using (List.getElem?_eq_some_iff.1 h2).1
      unfold Array.eraseIdxIfInBounds
      rw [dif_pos hjl]
      simp [h4, hn]
/-! ### at the operation, for the walk -/
variable {ops : Array Oper} {rest : List Oper} {o : Oper} {a : Act} {Q : Exit → Act → World → Prop}
theorem wpList_mapLook (KE : KeyEnc P k enc) (hg : o.guard = none) (m x : Operand) (ok : Bool) (hop : o.op = Op.lookup t m x ok) (ht : P.underlying t = some (.map k e)) (z : Value) (hz : (P.info? e).map (·.zero) = some (some z))
    (hm : a.eval m = .map (some b)) (h : mapAt w enc b n f) (y : κ) (hx : a.eval x = enc y) (hK : wpList P ops Q rest (a.put o.dst (look f z ok y)) w) : wpList P ops Q (o :: rest) a w := by
  refine wpList_plain hg fun K' hK' => ?_
  have hz' : (zeroValue e).run P w = .ok z w := by
    cases hq : P.info? e with
    | none => simp [hq] at hz
    | some i =>
      have : i.zero = some z := by simpa [hq] using hz
      simp [zeroValue, typeInfo, hq, this]
  have hrun := run_lookup KE ht hz' h y ok
  unfold Oper.wp
  simp [execOp, hop, hm, hx, hrun, Result.andThen]
  exact hK' _ _ hK
theorem wpList_mapStore [DecidableEq κ] (KE : KeyEnc P k enc) (hg : o.guard = none) (m x v : Operand) (hop : o.op = Op.mapUpdate t m x v) (ht : P.underlying t = some (.map k e))
    (hm : a.eval m = .map (some b)) (h : mapAt w enc b n f) (y : κ) (hx : a.eval x = enc y) (u : Value) (hv : a.eval v = u)
    (hK : ∀ w', mapAt w' enc b (if (f y).isSome then n else n + 1) (upd f y (some u)) → w.grownBy w' (some b) → wpList P ops Q rest (a.put o.dst undef) w') : wpList P ops Q (o :: rest) a w := by
  refine wpList_plain hg fun K' hK' => ?_
  obtain ⟨w', hrun, r1, r2⟩ := run_mapStore KE ht h y u
  unfold Oper.wp
  simp [execOp, hop, hm, hx, hv, hrun, Result.andThen]
  exact hK' _ _ (hK w' r1 r2)
end
end Go.Proofs.YtlkojkjeklblkaaGreat
