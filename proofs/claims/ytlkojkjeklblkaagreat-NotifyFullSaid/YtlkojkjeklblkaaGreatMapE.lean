/- Entries of maps changed in place ('m[k]++'). Whatever the program. -/
import Derived.Test.YtlkojkjeklblkaaGreatMapL
set_option linter.unusedSimpArgs false
set_option linter.unusedVariables false
namespace Go.Proofs.YtlkojkjeklblkaaGreat
open Go.RowKit Go.MapKept
open Go.Maps (Keyed)
open Go.ChangeMaps (setBlock modify_eq_set heap_setBlock_same heap_setBlock_other)
section
variable {P : Program} {k : TypeId} {κ : Type} {enc : κ → Value} {f : κ → Option Value} {w : World} {b n : Nat} {t e : TypeId}
/-- The same map; the entry stamped s is x's. -/
def mapAtS (w : World) (enc : κ → Value) (b n : Nat) (f : κ → Option Value) (s : Int) (x : κ) : Prop :=
  ∃ es clock i e0, w.heap[b]? = some (.map es clock) ∧ MapRd enc es clock f ∧ es.size = n ∧ es.findIdx? (fun e => (e.born : Int) == s) = some i ∧ es.toList[i]? = some e0 ∧ e0.key = enc x
theorem mapAtS.mapAt {s : Int} {x : κ} (h : mapAtS w enc b n f s x) : mapAt w enc b n f := by
  obtain ⟨es, clock, i, e, h1, h2, h3, _⟩ := h
  exact ⟨es, clock, h1, h2, h3⟩
theorem mapAtS.of_block {w' : World} {s : Int} {x : κ} (h : mapAtS w enc b n f s x) (hb : w'.heap[b]? = w.heap[b]?) : mapAtS w' enc b n f s x := by
  obtain ⟨es, clock, i, e, h1, h2⟩ := h
  exact ⟨es, clock, i, e, hb.trans h1, h2⟩
theorem findIdx_born {es : Array MapEntry} {i : Nat} {e0 : MapEntry} (hn : (es.toList.map (·.born)).Nodup) (h : es.toList[i]? = some e0) : es.findIdx? (fun e => (e.born : Int) == (e0.born : Int)) = some i := by
  have hi := (List.getElem?_eq_some_iff.1 h).1
  have he := (List.getElem?_eq_some_iff.1 h).2
  have hi' : i < es.size := by simpa using hi
  have he' : es[i] = e0 := by simpa using he
  rw [Array.findIdx?_eq_some_iff_getElem]
  refine ⟨hi', by rw [he']; simp, fun j hj => ?_⟩
  simp only [Bool.not_eq_true, beq_eq_false_iff_ne]
  intro e1
  have h1 : (es.toList.map (·.born))[j]'(by simp; simp at hi; omega) = (es.toList.map (·.born))[i]'(by simpa using hi) := by
    simp only [List.getElem_map, Array.getElem_toList, he']
    omega
  have := (List.getElem_inj hn).1 h1
  omega
theorem run_mapEntry [DecidableEq κ] (KE : KeyEnc P k enc) (ht : P.underlying t = some (.map k e)) {z : Value} (hz : ∀ w, (zeroValue e).run P w = .ok z w) (h : Go.Proofs.YtlkojkjeklblkaaGreat.mapAt w enc b n f) (x : κ) :
    ∃ w' s, (Instr.mapEntry t (.map (some b)) (enc x)).run P w = .ok (.tuple #[(f x).getD z, .int .i64 s]) w' ∧ mapAtS w' enc b (if (f x).isSome then n else n + 1) (upd f x (some ((f x).getD z))) s x ∧ w.grownBy w' (some b) := by
  obtain ⟨es, clock, hb, M, hn⟩ := h
  obtain ⟨l, hl⟩ := KE.reads x
  have hgrow : ∀ o, w.grownBy (setBlock w b o) (some b) := fun o => ⟨rfl, rfl, rfl, by simp [setBlock], fun i _ hi => heap_setBlock_other hb _ (fun e => hi (by rw [e]))⟩
  rcases M.find KE w x with ⟨h1, h2, h3⟩ | ⟨j, e0, h1, h2, h3, h4⟩
  · have M2 := M.push KE x z h3
    refine ⟨setBlock w b (.map (es.push ⟨enc x, z, clock⟩) (clock + 1)), clock, ?_, ⟨_, _, es.size, ⟨enc x, z, clock⟩, heap_setBlock_same hb _, by simpa [h2] using M2, by simp [h2, hn], ?_, by simp, rfl⟩, hgrow _⟩
    · simp [Instr.mapEntry, run_underlying ht, MapKept.run_getObj_map hb, KE.keyed.check w false hl, h1, hz, MapKept.run_setObj_map _ hb, Result.andThen, setBlock, h2, goInt]
    · have := findIdx_born (es := es.push ⟨enc x, z, clock⟩) (i := es.size) (e0 := ⟨enc x, z, clock⟩) M2.stamped.2.1 (by simp)
      exact this
  · have hj : es[j]? = some e0 := by simpa using h2
    have hsame : (es.modify j fun e => { e with key := enc x }) = es := by
      apply Array.ext_getElem?
      intro i
      rw [Array.getElem?_modify]
      split
      · rename_i hij
        subst hij
        rw [hj]
        simp [← h3]
      · rfl
    refine ⟨setBlock w b (.map es clock), e0.born, ?_, ⟨_, _, j, e0, heap_setBlock_same hb _, ?_, by simp [h4, hn], findIdx_born M.stamped.2.1 h2, h2, h3⟩, hgrow _⟩
    · simp [Instr.mapEntry, run_underlying ht, MapKept.run_getObj_map hb, KE.keyed.check w false hl, h1, hj, h3, KE.keyed.stays w hl, hsame, MapKept.run_setObj_map _ hb, Result.andThen, setBlock, h4, goInt]
    · have : upd f x (some ((f x).getD z)) = f := by
        funext y
        unfold upd
        split
        · rename_i hy; subst hy; rw [h4]; rfl
        · rfl
      rw [this]
      exact M
theorem run_entryStore [DecidableEq κ] (KE : KeyEnc P k enc) {s : Int} {x : κ} (h : mapAtS w enc b n f s x) (v : Value) :
    ∃ w', (Instr.entryStore t (.map (some b)) (.int .i64 s) v).run P w = .ok () w' ∧ Go.Proofs.YtlkojkjeklblkaaGreat.mapAt w' enc b n (upd f x (some v)) ∧ w.grownBy w' (some b) := by
  obtain ⟨es, clock, i, e0, hb, M, hn, hf, hi, hk⟩ := h
  have hgrow : ∀ o, w.grownBy (setBlock w b o) (some b) := fun o => ⟨rfl, rfl, rfl, by simp [setBlock], fun i _ hi => heap_setBlock_other hb _ (fun e => hi (by rw [e]))⟩
  have M2 := M.set KE x v hi hk
  have hi2 : es[i]? = some e0 := by simpa using hi
  have hsame : (es.modify i fun e => { e with val := v }) = es.modify i fun e => { e with key := enc x, val := v } := by
    apply Array.ext_getElem?
    intro j
    rw [Array.getElem?_modify, Array.getElem?_modify]
    split
    · rename_i hij
      subst hij
      rw [hi2]
      simp [← hk]
    · rfl
  refine ⟨setBlock w b (.map (es.modify i fun e => { e with val := v }) clock), ?_, ⟨_, _, heap_setBlock_same hb _, by rw [hsame]; exact M2, by simp [hn]⟩, hgrow _⟩
  simp [Instr.entryStore, MapKept.run_getObj_map hb, asInt, asIntOf, hf, MapKept.run_setObj_map _ hb, Result.andThen, setBlock]
end
end Go.Proofs.YtlkojkjeklblkaaGreat
