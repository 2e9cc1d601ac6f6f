/- Maps in memory, as functions of their keys: look-ups, stores, deletions. Whatever the program. Entries of maps changed in place ('m[k]++'). Whatever the program. The keys of the program's maps: names (32 bytes) and places (a name and a number), as maps take them. -/
import Derived.Test.YtlkojkjeklblkaaGreatMem
import Derived.Maps.Own
import Derived.Maps.OwnOps
import Derived.Test.YtlkojkjeklblkaaGreatOps
import Derived.DeepKeys4
import Derived.ProofKit
import Derived.KernelRfl
set_option linter.unusedSimpArgs false
set_option linter.unusedVariables false
namespace Go.Proofs.YtlkojkjeklblkaaGreat
open Go.RowKit Go.MapKept
open Go.Maps (Keyed)
open Go.ChangeMaps (setBlock modify_eq_set heap_setBlock_same heap_setBlock_other)
/-- What is asked of a key's type κ and of how its keys stand in memory. -/
structure KeyEnc (P : Program) (k : TypeId) {κ : Type} (enc : κ → Value) : Prop where
  keyed : Keyed P k
  reads : ∀ x, ∃ l, keyOf P k (enc x) = some l
  inj : ∀ {x y}, enc x = enc y → x = y
/-- Entries as a function. -/
structure MapRd {κ : Type} (enc : κ → Value) (es : Array MapEntry) (clock : Nat) (f : κ → Option Value) : Prop where
  stamped : Stamped es clock
  keys : ∀ e ∈ es.toList, ∃ x, e.key = enc x
  has : ∀ x v, f x = some v ↔ ∃ e ∈ es.toList, e.key = enc x ∧ e.val = v
/-- Block b is a map of n entries that gives f. -/
def mapAt {κ : Type} (w : World) (enc : κ → Value) (b n : Nat) (f : κ → Option Value) : Prop :=
  ∃ es clock, w.heap[b]? = some (.map es clock) ∧ MapRd enc es clock f ∧ es.size = n
theorem mapAt.lt {κ : Type} {w : World} {enc : κ → Value} {b n : Nat} {f : κ → Option Value} (h : mapAt w enc b n f) : b < w.heap.size := by
  obtain ⟨es, clock, hb, _⟩ := h
  exact (Array.getElem?_eq_some_iff.1 hb).1
theorem mapAt.of_block {κ : Type} {w w' : World} {enc : κ → Value} {b n : Nat} {f : κ → Option Value} (h : mapAt w enc b n f) (hb : w'.heap[b]? = w.heap[b]?) : mapAt w' enc b n f := by
  obtain ⟨es, clock, h1, h2⟩ := h
  exact ⟨es, clock, hb.trans h1, h2⟩
theorem mapAt_made {κ : Type} (w : World) (enc : κ → Value) : mapAt (w.alloc (.map #[] 0)) enc w.heap.size 0 (fun _ => none) :=
  ⟨#[], 0, (MapKept.heap_alloc w _).1, ⟨stamped_empty 0, by simp, by simp⟩, rfl⟩
section
variable {P : Program} {k : TypeId} {κ : Type} {enc : κ → Value} {es : Array MapEntry} {clock : Nat} {f : κ → Option Value} {w : World} {b n : Nat} {t e : TypeId}
theorem MapRd.find (KE : KeyEnc P k enc) (M : MapRd enc es clock f) (w : World) (x : κ) :
    ((Instr.findKey k (enc x) es.toList).run P w = .ok none w ∧ f x = none ∧ ∀ e ∈ es.toList, e.key ≠ enc x) ∨
      ∃ j e, (Instr.findKey k (enc x) es.toList).run P w = .ok (some (j, e.val)) w ∧ es.toList[j]? = some e ∧ e.key = enc x ∧ f x = some e.val := by
  obtain ⟨l, hl⟩ := KE.reads x
  rcases KE.keyed.find w hl es.toList (fun e he => by obtain ⟨y, hy⟩ := M.keys e he; rw [hy]; exact KE.reads y) with ⟨h1, h2⟩ | ⟨j, e, h1, h2, h3⟩
  · refine .inl ⟨h1, ?_, h2⟩
    cases hf : f x with
    | none => rfl
    | some v =>
      obtain ⟨e, he, hk, _⟩ := (M.has x v).1 hf
      exact absurd hk (h2 e he)
  · exact .inr ⟨j, e, h1, h2, h3, (M.has x e.val).2 ⟨e, List.mem_of_getElem? h2, h3, rfl⟩⟩
/-- The value at a key, the zero value if there is none. -/
def look (f : κ → Option Value) (z : Value) (ok : Bool) (x : κ) : Value := if ok then .tuple #[(f x).getD z, .bool (f x).isSome] else (f x).getD z
theorem run_lookup (KE : KeyEnc P k enc) (ht : P.underlying t = some (.map k e)) {z : Value} (hz : (zeroValue e).run P w = .ok z w) (h : mapAt w enc b n f) (x : κ) (ok : Bool) :
    (Instr.lookup t (.map (some b)) (enc x) ok).run P w = .ok (look f z ok x) w := by
  obtain ⟨es, clock, hb, M, hn⟩ := h
  obtain ⟨l, hl⟩ := KE.reads x
  rcases M.find KE w x with ⟨h1, h2, h3⟩ | ⟨j, e, h1, h2, h3, h4⟩
  · cases ok <;> simp [Instr.lookup, run_underlying ht, MapKept.run_getObj_map hb, KE.keyed.check w _ hl, h1, hz, Result.andThen, look, h2]
  · cases ok <;> simp [Instr.lookup, run_underlying ht, MapKept.run_getObj_map hb, KE.keyed.check w _ hl, h1, Result.andThen, look, h4]
def upd [DecidableEq κ] (f : κ → Option Value) (x : κ) (v : Option Value) : κ → Option Value := fun y => if y = x then v else f y
theorem upd_same [DecidableEq κ] (f : κ → Option Value) (x : κ) (v : Option Value) : upd f x v x = v := by simp [upd]
theorem upd_other [DecidableEq κ] (f : κ → Option Value) {x y : κ} (v : Option Value) (h : y ≠ x) : upd f x v y = f y := by simp [upd, h]
theorem MapRd.push [DecidableEq κ] (KE : KeyEnc P k enc) (M : MapRd enc es clock f) (x : κ) (v : Value) (h : ∀ e ∈ es.toList, e.key ≠ enc x) : MapRd enc (es.push { key := enc x, val := v, born := clock }) (clock + 1) (upd f x (some v)) := by
  refine ⟨stamped_push M.stamped h, ?_, ?_⟩
  · intro e he
    simp only [Array.toList_push, List.mem_append, List.mem_singleton] at he
    rcases he with he | rfl
    · exact M.keys e he
    · exact ⟨x, rfl⟩
  · intro y u
    simp only [Array.toList_push, List.mem_append, List.mem_singleton]
    by_cases hy : y = x
    · subst hy
      rw [upd_same]
      constructor
      · intro hu; cases hu; exact ⟨_, .inr rfl, rfl, rfl⟩
      · rintro ⟨e, he | rfl, hk, hv⟩
        · exact absurd hk (h e he)
        · rw [← hv]
    · rw [upd_other f _ hy, M.has y u]
      constructor
      · rintro ⟨e, he, hk, hv⟩; exact ⟨e, .inl he, hk, hv⟩
      · rintro ⟨e, he | rfl, hk, hv⟩
        · exact ⟨e, he, hk, hv⟩
        · exact absurd (KE.inj hk).symm hy
theorem MapRd.other (M : MapRd enc es clock f) {j i : Nat} {e0 e1 : MapEntry} (h2 : es.toList[j]? = some e0) (h1 : es.toList[i]? = some e1) (hij : i ≠ j) : e1.key ≠ e0.key := by
  have hp := ((stamped_iff es clock).1 M.stamped).2.2
  obtain ⟨hj, ej⟩ := List.getElem?_eq_some_iff.1 h2
  obtain ⟨hi, ei⟩ := List.getElem?_eq_some_iff.1 h1
  rw [List.pairwise_iff_getElem] at hp
  rcases Nat.lt_or_gt_of_ne hij with h | h
  · have := hp i j hi hj h; rwa [ei, ej] at this
  · have := hp j i hj hi h; rw [ei, ej] at this; exact this.symm
theorem MapRd.set [DecidableEq κ] (KE : KeyEnc P k enc) (M : MapRd enc es clock f) (x : κ) (v : Value) {j : Nat} {e0 : MapEntry} (h2 : es.toList[j]? = some e0) (h3 : e0.key = enc x) :
    MapRd enc (es.modify j fun e => { e with key := enc x, val := v }) clock (upd f x (some v)) := by
  have hj : es[j]? = some e0 := by simpa using h2
  have hjl : j < es.toList.length := (List.getElem?_eq_some_iff.1 h2).1
  have hlist : (es.modify j (fun e' => { e' with key := enc x, val := v })).toList = es.toList.set j { e0 with key := enc x, val := v } := by rw [Array.toList_modify, modify_eq_set _ _ _ _ h2]
  have who : ∀ e, e ∈ es.toList.set j { e0 with key := enc x, val := v } ↔ e = { e0 with key := enc x, val := v } ∨ ∃ i, i ≠ j ∧ es.toList[i]? = some e := by
    intro e
    rw [List.mem_iff_getElem?]
    constructor
    · rintro ⟨i, hi⟩
      rw [List.getElem?_set] at hi
      by_cases hij : j = i
      · subst hij; rw [if_pos rfl, if_pos hjl] at hi; exact .inl (Option.some.inj hi).symm
      · rw [if_neg hij] at hi; exact .inr ⟨i, fun h => hij h.symm, hi⟩
    · rintro (rfl | ⟨i, hi, he⟩)
      · exact ⟨j, by rw [List.getElem?_set, if_pos rfl, if_pos hjl]⟩
      · exact ⟨i, by rw [List.getElem?_set, if_neg (fun h => hi h.symm)]; exact he⟩
  refine ⟨stamped_modify M.stamped _ _ (fun _ _ => rfl) (fun e' _ he' => by rw [hj] at he'; cases he'; exact h3.symm), ?_, ?_⟩
  · intro e he
    rw [hlist, who] at he
    rcases he with rfl | ⟨i, _, hi⟩
    · exact ⟨x, rfl⟩
    · exact M.keys e (List.mem_of_getElem? hi)
  · intro y u
    rw [hlist]
    by_cases hy : y = x
    · subst hy
      rw [upd_same]
      constructor
      · intro hu; cases hu; exact ⟨_, (who _).2 (.inl rfl), rfl, rfl⟩
      · rintro ⟨e, he, hk, hv⟩
        rcases (who e).1 he with rfl | ⟨i, hi, he'⟩
        · rw [← hv]
        · exact absurd (hk.trans h3.symm) (M.other h2 he' hi)
    · rw [upd_other f _ hy, M.has y u]
      constructor
      · rintro ⟨e, he, hk, hv⟩
        obtain ⟨i, hi⟩ := List.mem_iff_getElem?.1 he
        refine ⟨e, (who e).2 (.inr ⟨i, fun hij => ?_, hi⟩), hk, hv⟩
        subst hij
        rw [h2] at hi
        cases hi
        exact hy (KE.inj (hk.symm.trans h3))
      · rintro ⟨e, he, hk, hv⟩
        rcases (who e).1 he with rfl | ⟨i, hi, he'⟩
        · exact absurd (KE.inj hk).symm hy
        · exact ⟨e, List.mem_of_getElem? he', hk, hv⟩
theorem MapRd.erase [DecidableEq κ] (KE : KeyEnc P k enc) (M : MapRd enc es clock f) (x : κ) {j : Nat} {e0 : MapEntry} (h2 : es.toList[j]? = some e0) (h3 : e0.key = enc x) :
    MapRd enc (es.eraseIdxIfInBounds j) clock (upd f x none) := by
  have hjl : j < es.toList.length := (List.getElem?_eq_some_iff.1 h2).1
  have hlist : (es.eraseIdxIfInBounds j).toList = es.toList.eraseIdx j := by
    unfold Array.eraseIdxIfInBounds
    rw [dif_pos (by simpa using hjl)]
    simp
  refine ⟨stamped_erase M.stamped j, ?_, ?_⟩
  · intro e he
    rw [hlist] at he
    exact M.keys e (List.mem_of_mem_eraseIdx he)
  · intro y u
    rw [hlist]
    by_cases hy : y = x
    · subst hy
      rw [upd_same]
      constructor
      · intro hu; cases hu
      · rintro ⟨e, he, hk, hv⟩
        obtain ⟨i, hi, he'⟩ := List.mem_eraseIdx_iff_getElem?.1 he
        exact absurd (hk.trans h3.symm) (M.other h2 he' hi)
    · rw [upd_other f _ hy, M.has y u]
      constructor
      · rintro ⟨e, he, hk, hv⟩
        obtain ⟨i, hi⟩ := List.mem_iff_getElem?.1 he
        refine ⟨e, List.mem_eraseIdx_iff_getElem?.2 ⟨i, fun hij => ?_, hi⟩, hk, hv⟩
        subst hij
        rw [h2] at hi
        cases hi
        exact hy (KE.inj (hk.symm.trans h3))
      · rintro ⟨e, he, hk, hv⟩
        exact ⟨e, List.mem_of_mem_eraseIdx he, hk, hv⟩
theorem upd_none_id [DecidableEq κ] {x : κ} (h : f x = none) : upd f x none = f := by
  funext y; by_cases hy : y = x
  · subst hy; rw [upd_same, h]
  · rw [upd_other f _ hy]
/-- The world behind a store into a map's block, and what is known of it. -/
theorem run_mapStore [DecidableEq κ] (KE : KeyEnc P k enc) (ht : P.underlying t = some (.map k e)) (h : mapAt w enc b n f) (x : κ) (v : Value) :
    ∃ w', (Instr.mapUpdate t (.map (some b)) (enc x) v).run P w = .ok () w' ∧ mapAt w' enc b (if (f x).isSome then n else n + 1) (upd f x (some v)) ∧ w.grownBy w' (some b) := by
  obtain ⟨es, clock, hb, M, hn⟩ := h
  obtain ⟨l, hl⟩ := KE.reads x
  have hgrow : ∀ o, w.grownBy (setBlock w b o) (some b) := fun o => ⟨rfl, rfl, rfl, by simp [setBlock], fun i _ hi => heap_setBlock_other hb _ (fun e => hi (by rw [e]))⟩
  rcases M.find KE w x with ⟨h1, h2, h3⟩ | ⟨j, e0, h1, h2, h3, h4⟩
  · refine ⟨setBlock w b (.map (es.push ⟨enc x, v, clock⟩) (clock + 1)), ?_, ⟨_, _, heap_setBlock_same hb _, M.push KE x v h3, by simp [h2, hn]⟩, hgrow _⟩
    simp [Instr.mapUpdate, run_underlying ht, MapKept.run_getObj_map hb, KE.keyed.check w false hl, h1, MapKept.run_setObj_map _ hb, Result.andThen, setBlock]
  · have hj : es[j]? = some e0 := by simpa using h2
    refine ⟨setBlock w b (.map (es.modify j fun e => { e with key := enc x, val := v }) clock), ?_, ⟨_, _, heap_setBlock_same hb _, M.set KE x v h2 h3, by simp [h4, hn]⟩, hgrow _⟩
    simp [Instr.mapUpdate, run_underlying ht, MapKept.run_getObj_map hb, KE.keyed.check w false hl, h1, hj, h3, KE.keyed.stays w hl, MapKept.run_setObj_map _ hb, Result.andThen, setBlock]
theorem run_mapDrop [DecidableEq κ] {ty : TypeId} (KE : KeyEnc P k enc) (ht : P.underlying t = some (.map k e)) (h : mapAt w enc b n f) (x : κ) :
    ∃ w', (Builtin.delete_ #[t, k] ty #[.map (some b), enc x]).run P w = .ok (.tuple #[]) w' ∧ mapAt w' enc b (if (f x).isSome then n - 1 else n) (upd f x none) ∧ w.grownBy w' (some b) := by
  obtain ⟨es, clock, hb, M, hn⟩ := h
  obtain ⟨l, hl⟩ := KE.reads x
  have hgrow : ∀ o, w.grownBy (setBlock w b o) (some b) := fun o => ⟨rfl, rfl, rfl, by simp [setBlock], fun i _ hi => heap_setBlock_other hb _ (fun e => hi (by rw [e]))⟩
  rcases M.find KE w x with ⟨h1, h2, h3⟩ | ⟨j, e0, h1, h2, h3, h4⟩
  · refine ⟨setBlock w b (.map es clock), ?_, ⟨_, _, heap_setBlock_same hb _, by rw [upd_none_id h2]; exact M, by simp [h2, hn]⟩, hgrow _⟩
    simp [Builtin.delete_, run_underlying ht, MapKept.run_getObj_map hb, KE.keyed.check w _ hl, h1, MapKept.run_setObj_map _ hb, Result.andThen, setBlock]
  · refine ⟨setBlock w b (.map (es.eraseIdxIfInBounds j) clock), ?_, ⟨_, _, heap_setBlock_same hb _, M.erase KE x h2 h3, ?_⟩, hgrow _⟩
    · simp [Builtin.delete_, run_underlying ht, MapKept.run_getObj_map hb, KE.keyed.check w _ hl, h1, MapKept.run_setObj_map _ hb, Result.andThen, setBlock]
    · have hjl : j < es.size := by simpa using (List.getElem?_eq_some_iff.1 h2).1
      unfold Array.eraseIdxIfInBounds
      rw [dif_pos hjl]
      simp [h4, hn]
/-! ### at the operation, for the walk -/
variable {ops : Array Oper} {rest : List Oper} {o : Oper} {a : Act} {Q : Exit → Act → World → Prop}
theorem wpList_mapLook (KE : KeyEnc P k enc) (hg : o.guard = none) (m x : Operand) (ok : Bool) (hop : o.op = Op.lookup t m x ok) (ht : P.underlying t = some (.map k e)) (z : Value) (hz : (P.info? e).map (·.zero) = some (some z))
    (hm : a.eval m = .map (some b)) (h : mapAt w enc b n f) (y : κ) (hx : a.eval x = enc y) (hK : wpList P ops Q rest (a.put o.dst (look f z ok y)) w) : wpList P ops Q (o :: rest) a w := by
  refine wpList_plain hg fun K' hK' => ?_
  have hz' : (zeroValue e).run P w = .ok z w := by
    cases hq : P.info? e with
    | none => simp [hq] at hz
    | some i =>
      have : i.zero = some z := by simpa [hq] using hz
      simp [zeroValue, typeInfo, hq, this]
  have hrun := run_lookup KE ht hz' h y ok
  unfold Oper.wp
  simp [execOp, hop, hm, hx, hrun, Result.andThen]
  exact hK' _ _ hK
theorem wpList_mapStore [DecidableEq κ] (KE : KeyEnc P k enc) (hg : o.guard = none) (m x v : Operand) (hop : o.op = Op.mapUpdate t m x v) (ht : P.underlying t = some (.map k e))
    (hm : a.eval m = .map (some b)) (h : mapAt w enc b n f) (y : κ) (hx : a.eval x = enc y) (u : Value) (hv : a.eval v = u)
    (hK : ∀ w', mapAt w' enc b (if (f y).isSome then n else n + 1) (upd f y (some u)) → w.grownBy w' (some b) → wpList P ops Q rest (a.put o.dst undef) w') : wpList P ops Q (o :: rest) a w := by
  refine wpList_plain hg fun K' hK' => ?_
  obtain ⟨w', hrun, r1, r2⟩ := run_mapStore KE ht h y u
  unfold Oper.wp
  simp [execOp, hop, hm, hx, hv, hrun, Result.andThen]
  exact hK' _ _ (hK w' r1 r2)
end
end Go.Proofs.YtlkojkjeklblkaaGreat
namespace Go.Proofs.YtlkojkjeklblkaaGreat
open Go.RowKit Go.MapKept
open Go.Maps (Keyed)
open Go.ChangeMaps (setBlock modify_eq_set heap_setBlock_same heap_setBlock_other)
section
variable {P : Program} {k : TypeId} {κ : Type} {enc : κ → Value} {f : κ → Option Value} {w : World} {b n : Nat} {t e : TypeId}
/-- The same map; the entry stamped s is x's. -/
def mapAtS (w : World) (enc : κ → Value) (b n : Nat) (f : κ → Option Value) (s : Int) (x : κ) : Prop :=
  ∃ es clock i e0, w.heap[b]? = some (.map es clock) ∧ MapRd enc es clock f ∧ es.size = n ∧ es.findIdx? (fun e => (e.born : Int) == s) = some i ∧ es.toList[i]? = some e0 ∧ e0.key = enc x
theorem mapAtS.mapAt {s : Int} {x : κ} (h : mapAtS w enc b n f s x) : mapAt w enc b n f := by
  obtain ⟨es, clock, i, e, h1, h2, h3, _⟩ := h
  exact ⟨es, clock, h1, h2, h3⟩
theorem mapAtS.of_block {w' : World} {s : Int} {x : κ} (h : mapAtS w enc b n f s x) (hb : w'.heap[b]? = w.heap[b]?) : mapAtS w' enc b n f s x := by
  obtain ⟨es, clock, i, e, h1, h2⟩ := h
  exact ⟨es, clock, i, e, hb.trans h1, h2⟩
theorem findIdx_born {es : Array MapEntry} {i : Nat} {e0 : MapEntry} (hn : (es.toList.map (·.born)).Nodup) (h : es.toList[i]? = some e0) : es.findIdx? (fun e => (e.born : Int) == (e0.born : Int)) = some i := by
  have hi := (List.getElem?_eq_some_iff.1 h).1
  have he := (List.getElem?_eq_some_iff.1 h).2
  have hi' : i < es.size := by simpa using hi
  have he' : es[i] = e0 := by simpa using he
  rw [Array.findIdx?_eq_some_iff_getElem]
  refine ⟨hi', by rw [he']; simp, fun j hj => ?_⟩
  simp only [Bool.not_eq_true, beq_eq_false_iff_ne]
  intro e1
  have h1 : (es.toList.map (·.born))[j]'(by simp; simp at hi; omega) = (es.toList.map (·.born))[i]'(by simpa using hi) := by
    simp only [List.getElem_map, Array.getElem_toList, he']
    omega
  have := (List.getElem_inj hn).1 h1
  omega
theorem run_mapEntry [DecidableEq κ] (KE : KeyEnc P k enc) (ht : P.underlying t = some (.map k e)) {z : Value} (hz : ∀ w, (zeroValue e).run P w = .ok z w) (h : Go.Proofs.YtlkojkjeklblkaaGreat.mapAt w enc b n f) (x : κ) :
    ∃ w' s, (Instr.mapEntry t (.map (some b)) (enc x)).run P w = .ok (.tuple #[(f x).getD z, .int .i64 s]) w' ∧ mapAtS w' enc b (if (f x).isSome then n else n + 1) (upd f x (some ((f x).getD z))) s x ∧ w.grownBy w' (some b) := by
  obtain ⟨es, clock, hb, M, hn⟩ := h
  obtain ⟨l, hl⟩ := KE.reads x
  have hgrow : ∀ o, w.grownBy (setBlock w b o) (some b) := fun o => ⟨rfl, rfl, rfl, by simp [setBlock], fun i _ hi => heap_setBlock_other hb _ (fun e => hi (by rw [e]))⟩
  rcases M.find KE w x with ⟨h1, h2, h3⟩ | ⟨j, e0, h1, h2, h3, h4⟩
  · have M2 := M.push KE x z h3
    refine ⟨setBlock w b (.map (es.push ⟨enc x, z, clock⟩) (clock + 1)), clock, ?_, ⟨_, _, es.size, ⟨enc x, z, clock⟩, heap_setBlock_same hb _, by simpa [h2] using M2, by simp [h2, hn], ?_, by simp, rfl⟩, hgrow _⟩
    · simp [Instr.mapEntry, run_underlying ht, MapKept.run_getObj_map hb, KE.keyed.check w false hl, h1, hz, MapKept.run_setObj_map _ hb, Result.andThen, setBlock, h2, goInt]
    · have := findIdx_born (es := es.push ⟨enc x, z, clock⟩) (i := es.size) (e0 := ⟨enc x, z, clock⟩) M2.stamped.2.1 (by simp)
      exact this
  · have hj : es[j]? = some e0 := by simpa using h2
    have hsame : (es.modify j fun e => { e with key := enc x }) = es := by
      apply Array.ext_getElem?
      intro i
      rw [Array.getElem?_modify]
      split
      · rename_i hij
        subst hij
        rw [hj]
        simp [← h3]
      · rfl
    refine ⟨setBlock w b (.map es clock), e0.born, ?_, ⟨_, _, j, e0, heap_setBlock_same hb _, ?_, by simp [h4, hn], findIdx_born M.stamped.2.1 h2, h2, h3⟩, hgrow _⟩
    · simp [Instr.mapEntry, run_underlying ht, MapKept.run_getObj_map hb, KE.keyed.check w false hl, h1, hj, h3, KE.keyed.stays w hl, hsame, MapKept.run_setObj_map _ hb, Result.andThen, setBlock, h4, goInt]
    · have : upd f x (some ((f x).getD z)) = f := by
        funext y
        unfold upd
        split
        · rename_i hy; subst hy; rw [h4]; rfl
        · rfl
      rw [this]
      exact M
theorem run_entryStore [DecidableEq κ] (KE : KeyEnc P k enc) {s : Int} {x : κ} (h : mapAtS w enc b n f s x) (v : Value) :
    ∃ w', (Instr.entryStore t (.map (some b)) (.int .i64 s) v).run P w = .ok () w' ∧ Go.Proofs.YtlkojkjeklblkaaGreat.mapAt w' enc b n (upd f x (some v)) ∧ w.grownBy w' (some b) := by
  obtain ⟨es, clock, i, e0, hb, M, hn, hf, hi, hk⟩ := h
  have hgrow : ∀ o, w.grownBy (setBlock w b o) (some b) := fun o => ⟨rfl, rfl, rfl, by simp [setBlock], fun i _ hi => heap_setBlock_other hb _ (fun e => hi (by rw [e]))⟩
  have M2 := M.set KE x v hi hk
  have hi2 : es[i]? = some e0 := by simpa using hi
  have hsame : (es.modify i fun e => { e with val := v }) = es.modify i fun e => { e with key := enc x, val := v } := by
    apply Array.ext_getElem?
    intro j
    rw [Array.getElem?_modify, Array.getElem?_modify]
    split
    · rename_i hij
      subst hij
      rw [hi2]
      simp [← hk]
    · rfl
  refine ⟨setBlock w b (.map (es.modify i fun e => { e with val := v }) clock), ?_, ⟨_, _, heap_setBlock_same hb _, by rw [hsame]; exact M2, by simp [hn]⟩, hgrow _⟩
  simp [Instr.entryStore, MapKept.run_getObj_map hb, asInt, asIntOf, hf, MapKept.run_setObj_map _ hb, Result.andThen, setBlock]
end
end Go.Proofs.YtlkojkjeklblkaaGreat
namespace Go.Proofs.YtlkojkjeklblkaaGreat
open Go.RowKit
open Go.Maps (Keyed)
theorem laid_out : laidOutB Tryz.prog = true := by kernel_rfl
theorem mapM_isSome {α β : Type} (f : α → Option β) : ∀ l : List α, (∀ x ∈ l, ∃ y, f x = some y) → ∃ ys, l.mapM f = some ys
  | [], _ => ⟨[], rfl⟩
  | x :: l, h => by
    obtain ⟨y, hy⟩ := h x (by simp)
    obtain ⟨ys, hys⟩ := mapM_isSome f l (fun z hz => h z (by simp [hz]))
    exact ⟨y :: ys, by simp [List.mapM_cons, hy, hys]⟩
theorem row30 : (38 : TypeId) < Tryz.prog.types.size := of_decide_eq_true (by kernel_rfl)
theorem keyType30 : Tryz.prog.keyType 38 = true := by kernel_rfl
theorem cells30 : Tryz.prog.cellsOf 38 = 32 := by kernel_rfl
theorem cells5 : Tryz.prog.cellsOf 5 = 1 := by kernel_rfl
theorem hash_keyed : Keyed Tryz.prog 38 := .of_law (deep_law_laid laid_out (m := 3) (by omega) row30 (by kernel_rfl) (by rw [Tryz.underlying38]))
theorem byte_lits (d : Nat) (b : UInt8) : Tryz.prog.keyLits (d + 1) 5 [byteV b] = some [.int .u8 b.toNat] := by
  have h := b.toNat_lt
  have hw : (Lit.int .u8 (b.toNat : Int)).wf = true := by
    simp [Lit.wf, IntKind.min, IntKind.max, IntKind.bits, IntKind.signed]; omega
  simp only [Program.keyLits, Tryz.underlying5, byteV]
  rw [if_pos ⟨trivial, hw⟩]
theorem hash_lits (m d : Nat) (hm : m = d + 1) (z : Hash) : ∃ l, Tryz.prog.keyLits (m + 1) 38 z.arr.toList = some l := by
  have hz : z.arr.toList.length = Tryz.prog.cellsOf 38 := by rw [cells30]; simp
  simp only [Program.keyLits, Tryz.underlying38, hz, if_true]
  obtain ⟨ys, hys⟩ := mapM_isSome (fun i => Tryz.prog.keyLits m 5 (List.take (Tryz.prog.cellsOf 5) (List.drop (i * Tryz.prog.cellsOf 5) z.arr.toList))) (List.range 32) (by
    intro i hi
    have hi' : i < z.l.length := by rw [z.len]; exact List.mem_range.1 hi
    have ht : List.take 1 (List.drop i z.arr.toList) = [byteV z.l[i]] := by
      rw [List.take_one, List.head?_drop]
      simp [Hash.arr, hi']
    refine ⟨[.int .u8 z.l[i].toNat], ?_⟩
    rw [cells5, Nat.mul_one, ht, hm]
    exact byte_lits d _)
  exact ⟨ys.flatten, by rw [hys]; rfl⟩
def hashV (z : Hash) : Value := .agg z.arr
theorem hash_reads (z : Hash) : ∃ l, keyOf Tryz.prog 38 (hashV z) = some l := by
  obtain ⟨d, hd⟩ : ∃ d, Tryz.prog.types.size = d + 1 := ⟨Tryz.prog.types.size - 1, by have : 0 < Tryz.prog.types.size := Nat.lt_of_le_of_lt (Nat.zero_le _) row30; omega⟩
  obtain ⟨l, hl⟩ := hash_lits _ d hd z
  refine ⟨.string (keyBytes l), ?_⟩
  have hf : (Value.agg z.arr).formed Tryz.prog 38 = true := by
    simp only [Value.formed, Tryz.underlying38, cells30]
    simp
  rw [keyOf, Tryz.underlying38]
  simp only [hashV, keyType30, hf, Bool.and_self, if_true, Value.cells, hl, Option.map_some]
theorem hashV_inj {x y : Hash} (h : hashV x = hashV y) : x = y := by
  unfold hashV at h
  have h1 : x.arr = y.arr := by injection h
  have h2 : x.arr.toList = y.arr.toList := by rw [h1]
  apply Hash.ext'
  apply List.ext_getElem (by rw [x.len, y.len])
  intro i hx hy
  have h3 : x.arr.toList[i]? = y.arr.toList[i]? := by rw [h2]
  simp only [Hash.arr, List.toList_toArray, List.getElem?_map, List.getElem?_eq_getElem hx, List.getElem?_eq_getElem hy, Option.map_some, Option.some.injEq, byteV] at h3
  have h4 : (x.l[i].toNat : Int) = (y.l[i].toNat : Int) := by injection h3
  exact UInt8.toNat_inj.1 (by omega)
theorem hash_enc : KeyEnc Tryz.prog 38 hashV := ⟨hash_keyed, hash_reads, hashV_inj⟩
end Go.Proofs.YtlkojkjeklblkaaGreat
