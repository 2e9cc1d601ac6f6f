/- What was told, and not taken back, is what stands: in plain words. -/
import Derived.Test.YtlkojkjeklblkaaGreatNfM
set_option linter.unusedSimpArgs false
set_option linter.unusedVariables false
namespace Go.Proofs.YtlkojkjeklblkaaGreat
open Go.RowKit Go.MapKept
/-- A note worked into what is kept. -/
structure Step (S : List Note) (t : Note) (S' : List Note) : Prop where
  nodup : (S.map (·.id)).Nodup
  gone : t.back = true → ∃ k, ∃ h : k < S.length, S[k] = { t with back := false } ∧ S' = S.take k ++ S.drop (k + 1)
  new : t.back = false → (∀ y ∈ S, y.id ≠ t.id) ∧ S' = S ++ [t]
inductive Steps : List Note → List Note → List Note → Prop
  | nil (S : List Note) : Steps S [] S
  | cons {S S1 S2 : List Note} {t : Note} {l : List Note} : Step S t S1 → Steps S1 l S2 → Steps S (t :: l) S2
theorem Steps.append {S S1 S2 : List Note} {l m : List Note} (h : Steps S l S1) (h2 : Steps S1 m S2) : Steps S (l ++ m) S2 := by
  induction h with
  | nil S => exact h2
  | cons a _ ih => exact .cons a (ih h2)
theorem Steps.head {S S2 : List Note} {t : Note} {l : List Note} (h : Steps S (t :: l) S2) : ∃ S1, Step S t S1 ∧ Steps S1 l S2 := by
  cases h with
  | cons a b => exact ⟨_, a, b⟩
theorem cut_perm {S : List Note} {k : Nat} (h : k < S.length) : S.Perm (S[k] :: (S.take k ++ S.drop (k + 1))) := by
  have e : S = S.take k ++ S[k] :: S.drop (k + 1) := by rw [← List.drop_eq_getElem_cons h, List.take_append_drop]
  exact (List.Perm.of_eq e).trans List.perm_middle
/-- One registration's. -/
theorem row_steps {S P Q : List Note} {st now : Option Note} {i : Int} (hn : ((P ++ Q).map (·.id)).Nodup) (hi : ∀ n ∈ P ++ Q, n.id ≠ i) (h1 : ∀ n, st = some n → n.id = i ∧ n.back = false) (h2 : ∀ n, now = some n → n.id = i ∧ n.back = false) (hp : S.Perm (P ++ (st.toList ++ Q))) :
    ∃ S', Steps S (outR st now) S' ∧ S'.Perm (P ++ (now.toList ++ Q)) := by
  have gone : ∀ s, st = some s → ∃ S', Step S { s with back := true } S' ∧ S'.Perm (P ++ Q) := by
    intro s hs
    subst hs
    obtain ⟨e1, e2⟩ := h1 s rfl
    have hp2 : S.Perm (s :: (P ++ Q)) := hp.trans List.perm_middle
    obtain ⟨k, hk, hks⟩ := List.mem_iff_getElem.1 (hp2.symm.subset List.mem_cons_self)
    refine ⟨S.take k ++ S.drop (k + 1), ⟨?_, fun _ => ⟨k, hk, ?_, rfl⟩, fun h => by cases h⟩, ?_⟩
    · refine (hp2.map _).nodup_iff.2 ?_
      rw [List.map_cons, List.nodup_cons]
      refine ⟨fun hm => ?_, hn⟩
      obtain ⟨n, hn1, hn2⟩ := List.mem_map.1 hm
      exact hi n hn1 (hn2.trans e1)
    · rw [hks]
      cases s
      simp only at e2
      subst e2
      rfl
    · have := (cut_perm hk).symm.trans hp2
      rw [hks] at this
      exact List.Perm.cons_inv this
  have new : ∀ n, now = some n → ∀ T : List Note, T.Perm (P ++ Q) → Step T n (T ++ [n]) ∧ (T ++ [n]).Perm (P ++ (now.toList ++ Q)) := by
    intro n hs T hT
    subst hs
    obtain ⟨e1, e2⟩ := h2 n rfl
    refine ⟨⟨(hT.map _).nodup_iff.2 hn, fun h => absurd h (by rw [e2]; decide), fun _ => ⟨fun y hy => ?_, rfl⟩⟩, ?_⟩
    · rw [e1]; exact hi y (hT.subset hy)
    · refine (List.Perm.append_right [n] hT).trans ?_
      exact (List.perm_append_singleton n (P ++ Q)).trans List.perm_middle.symm
  unfold outR
  by_cases e : st = now
  · rw [if_pos e]; subst e; exact ⟨S, .nil S, hp⟩
  · rw [if_neg e]
    cases st with
    | none =>
      cases now with
      | none => exact absurd rfl e
      | some n =>
        obtain ⟨a, b⟩ := new n rfl S hp
        exact ⟨_, .cons a (.nil _), b⟩
    | some s =>
      obtain ⟨S1, a, b⟩ := gone s rfl
      cases now with
      | none => exact ⟨S1, .cons a (.nil _), b⟩
      | some n =>
        obtain ⟨c, d⟩ := new n rfl S1 b
        exact ⟨_, .cons a (.cons c (.nil _)), d⟩
theorem mem_filterMap_id {R : List NRow} {f : NRow → Option Note} (hf : ∀ x ∈ R, ∀ n, f x = some n → n.id = x.id ∧ n.back = false) {n : Note} (h : n ∈ R.filterMap f) : ∃ x ∈ R, n.id = x.id := by
  obtain ⟨x, hx, e⟩ := List.mem_filterMap.1 h
  exact ⟨x, hx, (hf x hx n e).1⟩
theorem nodup_filterMap {R : List NRow} {f : NRow → Option Note} (hf : ∀ x ∈ R, ∀ n, f x = some n → n.id = x.id ∧ n.back = false) (h : (R.map (·.id)).Nodup) : ((R.filterMap f).map (·.id)).Nodup := by
  induction R with
  | nil => exact List.nodup_nil
  | cons x R ih =>
    rw [List.map_cons, List.nodup_cons] at h
    have hf2 := fun y hy => hf y (List.mem_cons_of_mem _ hy)
    cases hx : f x with
    | none => rw [List.filterMap_cons_none hx]; exact ih hf2 h.2
    | some n =>
      rw [List.filterMap_cons_some hx, List.map_cons, List.nodup_cons]
      refine ⟨fun hm => ?_, ih hf2 h.2⟩
      obtain ⟨m, hm1, hm2⟩ := List.mem_map.1 hm
      obtain ⟨y, hy, e⟩ := mem_filterMap_id hf2 hm1
      exact h.1 (List.mem_map.2 ⟨y, hy, by rw [← e, hm2, (hf x List.mem_cons_self n hx).1]⟩)
/-- All of them, in order. -/
theorem settle_steps (due : NRow → Option Note) : ∀ (R : List NRow) (P S : List Note), (P.map (·.id) ++ R.map (·.id)).Nodup → (∀ x ∈ R, ∀ n, x.st = some n → n.id = x.id ∧ n.back = false) → (∀ x ∈ R, ∀ n, due x = some n → n.id = x.id ∧ n.back = false) → S.Perm (P ++ R.filterMap (·.st)) → ∃ S', Steps S (R.flatMap (fun x => outR x.st (due x))) S' ∧ S'.Perm (P ++ R.filterMap due)
  | [], P, S, _, _, _, hp => ⟨S, .nil S, hp⟩
  | x :: R, P, S, hn, h1, h2, hp => by
    have g1 := fun y hy => h1 y (List.mem_cons_of_mem _ hy)
    have g2 := fun y hy => h2 y (List.mem_cons_of_mem _ hy)
    rw [List.map_cons] at hn
    have hn2 := (List.perm_middle.nodup_iff.1 hn)
    rw [List.nodup_cons] at hn2
    have hall := List.nodup_append.1 hn2.2
    have hq : ∀ n ∈ P ++ R.filterMap (·.st), n.id ≠ x.id := by
      intro n hn e
      refine hn2.1 ?_
      rw [← e]
      rcases List.mem_append.1 hn with h | h
      · exact List.mem_append_left _ (List.mem_map.2 ⟨n, h, rfl⟩)
      · obtain ⟨y, hy, ey⟩ := mem_filterMap_id g1 h
        exact List.mem_append_right _ (List.mem_map.2 ⟨y, hy, ey.symm⟩)
    have hnd : ((P ++ R.filterMap (·.st)).map (·.id)).Nodup := by
      rw [List.map_append]
      refine List.nodup_append.2 ⟨hall.1, nodup_filterMap g1 hall.2.1, fun a ha b hb e => ?_⟩
      obtain ⟨m, hm1, hm2⟩ := List.mem_map.1 hb
      obtain ⟨y, hy, ey⟩ := mem_filterMap_id g1 hm1
      exact hall.2.2 a ha b (List.mem_map.2 ⟨y, hy, by rw [← ey, hm2]⟩) e
    have hst : S.Perm (P ++ (x.st.toList ++ R.filterMap (·.st))) := by
      refine hp.trans (List.Perm.of_eq ?_)
      cases hx : x.st with
      | none => rw [List.filterMap_cons_none hx]; rfl
      | some n => rw [List.filterMap_cons_some hx]; rfl
    obtain ⟨S1, a, b⟩ := row_steps (i := x.id) hnd hq (h1 x List.mem_cons_self) (h2 x List.mem_cons_self) hst
    have hn3 : ((P ++ (due x).toList).map (·.id) ++ R.map (·.id)).Nodup := by
      cases hx : due x with
      | none => simp only [Option.toList, List.append_nil]; exact hn2.2
      | some n =>
        simp only [Option.toList, List.map_append, List.map_cons, List.map_nil, List.append_assoc, List.singleton_append]
        rw [(h2 x List.mem_cons_self n hx).1]
        exact hn
    obtain ⟨S2, c, d⟩ := settle_steps due R (P ++ (due x).toList) S1 hn3 g1 g2 (by rw [List.append_assoc]; exact b)
    refine ⟨S2, by rw [List.flatMap_cons]; exact a.append c, d.trans (List.Perm.of_eq ?_)⟩
    rw [List.append_assoc]
    cases hx : due x with
    | none => rw [List.filterMap_cons_none hx]; rfl
    | some n => rw [List.filterMap_cons_some hx]; rfl
section
variable {M : HubM} {S : List Note}
theorem sorted_nodup {l : List Int} (h : l.Pairwise (· < ·)) : l.Nodup := h.imp (fun h e => by omega)
theorem told_steps (h : M.Ok) (hp : S.Perm M.stand) : ∃ S', Steps S M.told S' ∧ S'.Perm M.settled.stand := by
  obtain ⟨S', a, b⟩ := settle_steps M.due M.rows [] S (by simpa [HubM.ids] using sorted_nodup h.sorted) h.mine (fun x _ n e => dueR_id e) (by simpa [HubM.stand] using hp)
  refine ⟨S', a, b.trans (List.Perm.of_eq ?_)⟩
  unfold HubM.settled HubM.stand
  simp only [List.nil_append, List.filterMap_map]
  rfl
theorem con_steps (h : M.Ok) (l : List Tx) (hp : S.Perm M.stand) : ∃ S', Steps S (M.conO l) S' ∧ S'.Perm (M.conM l).stand := by
  unfold HubM.conO HubM.conM
  split
  · exact told_steps (M := M.onL (conL M.L l)) (h.onL (h.good.con l)) hp
  · exact ⟨S, .nil S, hp⟩
theorem dis_steps (h : M.Ok) (hp : S.Perm M.stand) : ∃ S', Steps S M.disO S' ∧ S'.Perm M.disM.stand := by
  unfold HubM.disO HubM.disM
  split
  · exact ⟨S, .nil S, hp⟩
  · exact told_steps (M := M.onL M.L.dropLast) (h.onL (by rw [List.dropLast_eq_take]; exact h.good.take _)) hp
theorem stand_nodup (h : M.Ok) : (M.stand.map (·.id)).Nodup := nodup_filterMap h.mine (sorted_nodup h.sorted)
theorem reg_steps (h : M.Ok) (r : Reg) (hp : S.Perm M.stand) : ∃ S', Steps S (M.regO r) S' ∧ S'.Perm (M.regM r).stand := by
  unfold HubM.regO HubM.regM
  split
  · have hst : ((M.push r).one (M.last + 1)).stand = M.stand ++ (dueR M.L (M.last + 1) (plainR r)).toList := by
      have h1 : ∀ R : List NRow, (∀ x ∈ R, x.id ≤ M.last) → (R.map (fun x : NRow => if x.id = M.last + 1 then { x with st := dueR M.L x.id x.r } else x)).filterMap (·.st) = R.filterMap (·.st) := by
        intro R hR
        rw [List.map_congr_left (g := id) (fun x hx => by have := hR x hx; rw [if_neg (by omega)]; rfl), List.map_id]
      show ((M.rows ++ [(⟨M.last + 1, plainR r, none⟩ : NRow)]).map (fun x : NRow => if x.id = M.last + 1 then { x with st := dueR M.L x.id x.r } else x)).filterMap (·.st) = _
      rw [List.map_append, List.filterMap_append, h1 M.rows (fun x hx => (h.low x hx).2)]
      congr 1
      rw [List.map_cons, List.map_nil, if_pos rfl]
      show List.filterMap (·.st) [(⟨M.last + 1, plainR r, dueR M.L (M.last + 1) (plainR r)⟩ : NRow)] = _
      cases hd : dueR M.L (M.last + 1) (plainR r) with
      | none => rfl
      | some n => rfl
    have := row_steps (S := S) (P := M.stand) (Q := []) (st := none) (now := dueR M.L (M.last + 1) (plainR r)) (i := M.last + 1) (by rw [List.append_nil]; exact stand_nodup h) (fun n hn => by
      rw [List.append_nil] at hn
      obtain ⟨x, hx, e⟩ := mem_filterMap_id h.mine hn
      have := (h.low x hx).2
      omega) (fun n e => by cases e) (fun n e => dueR_id e) (by simpa using hp)
    obtain ⟨S', a, b⟩ := this
    refine ⟨S', a, ?_⟩
    rw [hst]
    simpa using b
  · exact ⟨S, .nil S, hp⟩
end
end Go.Proofs.YtlkojkjeklblkaaGreat
