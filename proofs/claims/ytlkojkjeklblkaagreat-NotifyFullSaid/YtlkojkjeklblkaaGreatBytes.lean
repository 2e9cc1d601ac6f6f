/- Bytes in memory that one slice has for its own, appended to from whatever source. -/
import Derived.Test.YtlkojkjeklblkaaGreatShaB2
import Derived.Test.YtlkojkjeklblkaaGreatLaws
import Derived.Deep.AppendSrc
set_option linter.unusedSimpArgs false
set_option linter.unusedVariables false
namespace Go.Proofs.YtlkojkjeklblkaaGreat
open Go.RowKit
/-- All that is new lies in the zone. -/
def Fr (S : Nat → Prop) (w : World) : Prop := ∀ k, w.heap.size ≤ k → S k
theorem Fr.grow {S : Nat → Prop} {w w' : World} (h : Fr S w) (hz : w.heap.size ≤ w'.heap.size) : Fr S w' := fun k hk => h k (Nat.le_trans hz hk)
/-- What is not in the zone is as it was. -/
def Zb (S : Nat → Prop) (w w' : World) : Prop := Upd w w' S
theorem Zb.trans {S : Nat → Prop} {a b c : World} (h : Zb S a b) (k : Zb S b c) : Zb S a c := Upd.trans h k (fun _ _ h => h)
theorem Zb.upd {S : Nat → Prop} {a b : World} (h : Zb S a b) : Upd a b S := h
theorem Zb.size {S : Nat → Prop} {a b : World} (h : Zb S a b) : a.heap.size ≤ b.heap.size := Upd.size h
theorem Zb.below {B : Nat} {a b : World} (h : Zb (fun k => B ≤ k) a b) (hB : B ≤ a.heap.size) : Below B a b := Upd.below h hB (fun _ h => h)
theorem zoned {S : Nat → Prop} {w w' : World} (h : Below w.heap.size w w') (hS : Fr S w) : Zb S w w' := Upd.of_below h S
theorem Upd.zone {S T : Nat → Prop} {w w' : World} (h : Upd w w' T) (hB : Fr S w) (hS : ∀ k, T k → S k) : Zb S w w' := h.mono (fun k _ e => hS k e)
/-- The block that a slice of bytes has for its own: none, if it has no room. -/
def Sl.own (s : Sl) : Option Nat := if s.c = 0 then none else s.a.map (·.block)
/-- s holds l, in a block of its own from base on. -/
def ownB (w : World) (base : Nat → Prop) (s : Sl) (l : List UInt8) : Prop :=
  s.n = l.length ∧ s.n ≤ s.c ∧ s.c ≤ maxLen ∧ (s.c ≠ 0 → ∃ g cur, s.a = some ⟨g, 0, none⟩ ∧ base g ∧ w.heap[g]? = some (.cells cur 5 (0, 0)) ∧ s.c ≤ cur.size ∧ cur.toList.take s.n = byteVs l)
theorem ownB_nil (w : World) (base : Nat → Prop) : ownB w base ⟨none, 0, 0⟩ [] := ⟨rfl, Nat.le_refl _, by simp [maxLen], fun h => absurd rfl h⟩
theorem ownB.lt {w : World} {base : Nat → Prop} {s : Sl} {l : List UInt8} (h : ownB w base s l) {k : Nat} (hk : s.own = some k) : base k ∧ k < w.heap.size := by
  unfold Sl.own at hk
  split at hk
  · cases hk
  · rename_i hc
    obtain ⟨g, cur, ha, hg, hh, _⟩ := h.2.2.2 hc
    rw [ha] at hk
    cases hk
    exact ⟨hg, (Array.getElem?_eq_some_iff.1 hh).1⟩
theorem ownB.upd {w w' : World} {base : Nat → Prop} {s : Sl} {l : List UInt8} {S : Nat → Prop} (h : ownB w base s l) (hu : Upd w w' S) (hs : ∀ k, s.own = some k → ¬ S k) : ownB w' base s l := by
  refine ⟨h.1, h.2.1, h.2.2.1, fun hc => ?_⟩
  obtain ⟨g, cur, ha, hg, hh, r⟩ := h.2.2.2 hc
  exact ⟨g, cur, ha, hg, by rw [hu.block g (Array.getElem?_eq_some_iff.1 hh).1 (hs g (by simp [Sl.own, hc, ha]))]; exact hh, r⟩
theorem ownB.cellAt {w : World} {base : Nat → Prop} {s : Sl} {l : List UInt8} (h : ownB w base s l) {k : Nat} (hk : k < l.length) : ∃ g, s.a = some ⟨g, 0, none⟩ ∧ s.own = some g ∧ base g ∧ g < w.heap.size ∧ ∀ j (hj : j < l.length), w.cell? ⟨g, j, none⟩ = some (byteV l[j]) := by
  obtain ⟨h1, h2, h3, h4⟩ := h
  have hc : s.c ≠ 0 := by omega
  obtain ⟨g, cur, ha, hg, hh, hsz, ht⟩ := h4 hc
  refine ⟨g, ha, by simp [Sl.own, hc, ha], hg, (Array.getElem?_eq_some_iff.1 hh).1, fun j hj => ?_⟩
  rw [(cells_known hh).1]
  have : (cur.toList.take s.n)[j]? = some (byteV l[j]) := by rw [ht, byteVs_get hj]
  rw [List.getElem?_take, if_pos (by omega)] at this
  simpa using this
/-- The first bytes, no room behind them. -/
theorem ownB.cutTo {w : World} {base : Nat → Prop} {s : Sl} {l : List UInt8} (h : ownB w base s l) (n : Nat) (hn : n ≤ l.length) : ownB w base ⟨s.a, n, n⟩ (l.take n) := by
  obtain ⟨h1, h2, h3, h4⟩ := h
  refine ⟨by simp [hn], Nat.le_refl _, by simp only; omega, fun hc => ?_⟩
  simp only at hc
  obtain ⟨g, cur, ha, hg, hh, hsz, ht⟩ := h4 (by omega)
  refine ⟨g, cur, ha, hg, hh, by simp only; omega, ?_⟩
  simp only
  have : (cur.toList.take s.n).take n = (byteVs l).take n := by rw [ht]
  rw [List.take_take, Nat.min_eq_left (by omega)] at this
  rw [this]; simp [byteVs]
section
variable {P : Program}
/-- 'append' onto such bytes, whatever yields the others. -/
theorem run_append_B (w : World) (base : Nat → Prop) (t tx ty : TypeId) (i : TypeInfo) (ht : P.underlying t = some (.slice 5)) (hi : P.info? 5 = some i) (hz : i.zero = some (.int .u8 0)) (hs : i.size = 1) (hb : i.bytes = 1)
    (s : Sl) (l : List UInt8) (h : ownB w base s l) (x : Value) (m : List UInt8) (hx : Src P 1 tx x m.length (byteVs m) w) (hbase : Fr base w) (hlen : l.length + m.length ≤ 140737488355328) :
    ∃ s' w', (Builtin.append_ #[t, tx] ty #[s.v, x]).run P w = .ok s'.v w' ∧ ownB w' base s' (l ++ m) ∧ Upd w w' (fun k => s.own = some k) ∧ (∀ k, s'.own = some k → s.own = some k ∨ w.heap.size ≤ k) ∧ (m = [] → s' = s ∧ w' = w) := by
  obtain ⟨h1, h2, h3, h4⟩ := h
  obtain ⟨sa, sn, sc⟩ := s
  simp only at h1 h2 h3 h4
  have hml : (byteVs m).length = m.length := byteVs_length m
  by_cases hm : m = []
  · subst hm
    have hkind := hx.kind
    refine ⟨⟨sa, sn, sc⟩, w, ?_, ⟨by simpa using h1, h2, h3, by simpa using h4⟩, Upd.refl _ _, fun k hk => .inl hk, fun _ => ⟨rfl, rfl⟩⟩
    have hl := hx.len w
    have hc : (Builtin.firstCells 1 0 x).run P w = .ok #[] w := hx.cells
    have hl0 : ∀ w', (Builtin.lenOf x).run P w' = .ok 0 w' := hx.len
    rcases hkind with ⟨e', hk⟩ | hk
    · cases sa <;> simp [Builtin.append_, Sl.v, run_underlying ht, run_underlying hk, sizeOf, typeInfo, hi, hs, hl0, h2, hc, storeCells]
    · cases sa <;> simp [Builtin.append_, Sl.v, run_underlying ht, run_underlying hk, sizeOf, typeInfo, hi, hs, hl0, h2, hc, storeCells]
  · have hm1 : 0 < m.length := List.length_pos_iff.2 hm
    have hone : ∀ u ∈ byteVs m, u.oneCell' = true := hx.one
    have hsx : Src P i.size tx x m.length (byteVs m) w := by rw [hs]; exact hx
    by_cases hroom : sn + m.length ≤ sc
    · obtain ⟨g, cur, ha, hg, hh, hsz, htk⟩ := h4 (by omega)
      subst ha
      have hcs : ∀ o, o < sc → (w.cell? ⟨g, o, none⟩).isSome = true := fun o ho => by
        rw [(cells_known hh).1, Array.getElem?_eq_getElem (by omega)]; rfl
      have hr := run_append_room_src (P := P) w t tx ty 5 i ht hi g 0 sn sc x m.length (byteVs m) hsx hroom
        (fun j hj => by rw [hs]; exact hcs _ (by rw [hml] at hj; omega)) (fun j hj => (cells_known hh).2.1 _)
      rw [hs] at hr
      refine ⟨⟨some ⟨g, 0, none⟩, sn + m.length, sc⟩, _, hr, ⟨by simp [h1], hroom, h3, fun _ => ⟨g, _, rfl, hg, heap_setCells (byteVs m) (0 + sn * 1) w cur hh, ?_, ?_⟩⟩, ?_, fun k hk => .inl (by simpa [Sl.own] using hk), fun h => absurd h hm⟩
      · have hsf : ∀ (vs : List Value) (k o : Nat) (c : Array Value), ((vs.zipIdx k).foldl (fun cs (v, j) => cs.setIfInBounds (o + j) v) c).size = c.size := by
          intro vs
          induction vs with
          | nil => intros; rfl
          | cons v vs ih => intro k o c; simp only [List.zipIdx_cons, List.foldl_cons]; rw [ih]; simp
        simp only [hsf]; exact hsz
      · have hdec : cur = (cur.toList.take sn ++ ((cur.toList.drop sn).take m.length ++ (cur.toList.drop sn).drop m.length)).toArray := by
          rw [List.take_append_drop, List.take_append_drop]
        have hlen1 : (cur.toList.take sn).length = 0 + sn * 1 := by simp; omega
        have hlen2 : ((cur.toList.drop sn).take m.length).length = (byteVs m).length := by rw [hml]; simp; omega
        have e := putRow_eq (0 + sn * 1) (cur.toList.take sn) _ ((cur.toList.drop sn).drop m.length) (byteVs m) hlen1 hlen2
        rw [← hdec] at e
        rw [e, htk]
        simp only [List.toList_toArray]
        rw [← List.append_assoc, List.take_left' (by simp [byteVs_length, h1])]
        simp [byteVs]
      · exact (setCells_upd g _ _ w).mono (fun k _ hk => by subst hk; simp [Sl.own]; omega)
    · have hold : (Builtin.firstCells i.size sn (.slice sa sn sc)).run P w.drew = .ok (byteVs l).toArray w.drew := by
        rw [hs]
        cases sa with
        | none =>
          have : l = [] := by
            by_cases hc : sc = 0
            · exact List.eq_nil_of_length_eq_zero (by omega)
            · obtain ⟨g, cur, ha, _⟩ := h4 hc
              cases ha
          subst this
          exact run_firstCells_none _ _ _ _ _
        | some a =>
          refine run_firstCells_some w.drew 1 sn a sn sc (byteVs l) (by rw [byteVs_length]; omega) ?_
          intro j v hv
          have hj : j < l.length := by
            have := (List.getElem?_eq_some_iff.1 hv).1
            rwa [byteVs_length] at this
          obtain ⟨g, cur, ha, hg, hh, hsz, htk⟩ := h4 (by omega)
          cases ha
          have e : (⟨g, 0, none⟩ : Addr).add j = ⟨g, j, none⟩ := by unfold Addr.add; split <;> simp_all
          rw [e]
          show w.cell? _ = _
          rw [(cells_known hh).1]
          rw [← htk, List.getElem?_take, if_pos (by omega)] at hv
          simpa using hv
      have hfit : Builtin.nextslicecap (sn + m.length) sc * i.bytes ≤ 281474976710656 := growslice_fits (by omega) (by rw [hb]; omega)
      have hr := run_append_grow_src (P := P) w t tx ty 5 i (.int .u8 0) ht hi hz sa sn sc (byteVs l) hold x m.length (byteVs m) hsx (by omega) (by omega) hfit
      have hge := grownCap_ge w (sn + m.length) sc 5
      have hcm : grownCap w (sn + m.length) sc 5 ≤ maxLen := grownCap_le_maxLen w (sn + m.length) sc 5 (by unfold maxLen; omega)
      refine ⟨⟨some ⟨w.heap.size, 0, none⟩, sn + m.length, grownCap w (sn + m.length) sc 5⟩, _, hr, ⟨by simp [h1], hge, hcm, fun _ => ⟨w.heap.size, _, rfl, hbase _ (Nat.le_refl _), heap_alloc_new w.drew _, ?_, ?_⟩⟩, ⟨rfl, rfl, rfl, by simp, fun k hk _ => heap_alloc_old w.drew _ hk⟩, fun k hk => .inr ?_, fun h => absurd h hm⟩
      · have hz1 : (Value.int .u8 0).cells.size = 1 := rfl
        simp only [Array.size_append, List.size_toArray, List.length_append, size_zeroCells, hz1, byteVs_length]
        omega
      · simp only [Array.toList_append, List.toList_toArray]
        rw [List.take_left' (by simp [byteVs_length, h1])]
        simp [byteVs]
      · unfold Sl.own at hk
        split at hk
        · cases hk
        · simp at hk; omega
end
end Go.Proofs.YtlkojkjeklblkaaGreat
