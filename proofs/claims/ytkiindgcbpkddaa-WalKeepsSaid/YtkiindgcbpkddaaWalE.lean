/- Labels in a scope, one that is jumped back to and one forward; lists of records in memory; records in memory of their own. -/
import Derived.Test.YtkiindgcbpkddaaWalD
import Derived.ScopeJumps
set_option linter.unusedSimpArgs false
set_option linter.unusedVariables false
namespace Go.Proofs.Ytkiindgcbpkddaa
open Go.RowKit
/-! ### two labels -/
/-- What stands at the exits of a scope with two labels. -/
def twoJ (l : Nat) (J : Act → World → Prop) (m : Nat) (E : Act → World → Prop) (Q : Exit → Act → World → Prop) : Exit → Act → World → Prop
  | .goto k, a, w => (k = l ∧ J a w) ∨ (k = m ∧ E a w)
  | e, a, w => Q e a w
section
variable {P : Program} {Q : Exit → Act → World → Prop} {a : Act} {w : World}
theorem two_back {l m : Nat} {J E : Act → World → Prop} (h : J a w) : twoJ l J m E Q (.goto l) a w := .inl ⟨rfl, h⟩
theorem two_fwd {l m : Nat} {J E : Act → World → Prop} (h : E a w) : twoJ l J m E Q (.goto m) a w := .inr ⟨rfl, h⟩
theorem two_ret {l m : Nat} {J E : Act → World → Prop} : twoJ l J m E Q .ret a w = Q .ret a w := rfl
theorem two_normal {l m : Nat} {J E : Act → World → Prop} : twoJ l J m E Q .normal a w = Q .normal a w := rfl
theorem wp_scope_two {c rest fin : Code} (l m : Nat) (J : Act → World → Prop) (μ : Act → World → Nat) (hf : findLabel c l = some rest) (hm : findLabel c m = some fin)
    (first : c.wp P (twoJ l J m (fun a w => fin.wp P (Exit.noGoto Q) a w) Q) a w)
    (pass : ∀ a w, J a w → rest.wp P (twoJ l (fun a' w' => J a' w' ∧ μ a' w' < μ a w) m (fun a w => fin.wp P (Exit.noGoto Q) a w) Q) a w) : (Code.scope c).wp P Q a w := by
  intro b k cs
  have gl : gotoIn l (.inScope c :: k) = some (.code rest :: .inScope c :: k) := by simp [gotoIn, hf]
  have gm : gotoIn m (.inScope c :: k) = some (.code fin :: .inScope c :: k) := by simp [gotoIn, hm]
  have fwd : ∀ a w, fin.wp P (Exit.noGoto Q) a w → ∃ e a' w', Q e a' w' ∧ Arrives P (lone (b.at a (.code fin :: .inScope c :: k)) cs w) b k cs e a' w' := by
    intro a w hE
    obtain ⟨e, a₁, w₁, hq, harr⟩ := hE b (.inScope c :: k) cs
    cases e with
    | normal => exact ⟨.normal, a₁, w₁, hq, Steps.trans harr (.one step_inScope)⟩
    | exit id => exact ⟨.exit id, a₁, w₁, hq, fun k' hk => harr k' (by simp [exitTo, hk])⟩
    | goto l' => exact hq.elim
    | ret => exact ⟨_, a₁, w₁, hq, harr⟩
    | panic ch => exact ⟨_, a₁, w₁, hq, harr⟩
    | outgrown => exact ⟨_, a₁, w₁, hq, harr⟩
  have key : ∀ n a w, μ a w = n → J a w → ∃ e a' w', Q e a' w' ∧ Arrives P (lone (b.at a (.code rest :: .inScope c :: k)) cs w) b k cs e a' w' := by
    intro n
    induction n using Nat.strongRecOn with
    | _ n ih =>
      intro a w hn hJ
      obtain ⟨e, a₁, w₁, hq, harr⟩ := pass a w hJ b (.inScope c :: k) cs
      cases e with
      | normal => exact ⟨.normal, a₁, w₁, hq, Steps.trans harr (.one step_inScope)⟩
      | exit id => exact ⟨.exit id, a₁, w₁, hq, fun k' hk => harr k' (by simp [exitTo, hk])⟩
      | goto l' =>
        rcases hq with ⟨rfl, hJ', hlt⟩ | ⟨rfl, hE⟩
        · obtain ⟨e₂, a₂, w₂, hq₂, harr₂⟩ := ih _ (by omega) a₁ w₁ rfl hJ'
          exact ⟨e₂, a₂, w₂, hq₂, .of_steps (harr _ gl) harr₂⟩
        · obtain ⟨e₂, a₂, w₂, hq₂, harr₂⟩ := fwd a₁ w₁ hE
          exact ⟨e₂, a₂, w₂, hq₂, .of_steps (harr _ gm) harr₂⟩
      | ret => exact ⟨_, a₁, w₁, hq, harr⟩
      | panic ch => exact ⟨_, a₁, w₁, hq, harr⟩
      | outgrown => exact ⟨_, a₁, w₁, hq, harr⟩
  obtain ⟨e, a₁, w₁, hq, harr⟩ := first b (.inScope c :: k) cs
  cases e with
  | normal => exact ⟨.normal, a₁, w₁, hq, .head step_scope (Steps.trans harr (.one step_inScope))⟩
  | exit id => exact ⟨.exit id, a₁, w₁, hq, fun k' hk => .head step_scope (harr k' (by simp [exitTo, hk]))⟩
  | goto l' =>
    rcases hq with ⟨rfl, hJ'⟩ | ⟨rfl, hE⟩
    · obtain ⟨e₂, a₂, w₂, hq₂, harr₂⟩ := key _ a₁ w₁ rfl hJ'
      exact ⟨e₂, a₂, w₂, hq₂, .of_steps (.head step_scope (harr _ gl)) harr₂⟩
    · obtain ⟨e₂, a₂, w₂, hq₂, harr₂⟩ := fwd a₁ w₁ hE
      exact ⟨e₂, a₂, w₂, hq₂, .of_steps (.head step_scope (harr _ gm)) harr₂⟩
  | ret => exact ⟨_, a₁, w₁, hq, .of_steps (.one step_scope) harr⟩
  | panic ch => exact ⟨_, a₁, w₁, hq, .of_steps (.one step_scope) harr⟩
  | outgrown => exact ⟨_, a₁, w₁, hq, .of_steps (.one step_scope) harr⟩
/-- The same where the first way comes to the label itself. -/
theorem wp_scope_loop {c rest fin : Code} (l m : Nat) (J : Act → World → Prop) (μ : Act → World → Nat) (hf : findLabel c l = some (Code.skip.seq rest)) (hm : findLabel c m = some fin)
    (pass : ∀ a w, J a w → rest.wp P (twoJ l (fun a' w' => J a' w' ∧ μ a' w' < μ a w) m (fun a w => fin.wp P (Exit.noGoto Q) a w) Q) a w)
    (first : (∀ a w, J a w → rest.wp P (twoJ l J m (fun a w => fin.wp P (Exit.noGoto Q) a w) Q) a w) → c.wp P (twoJ l J m (fun a w => fin.wp P (Exit.noGoto Q) a w) Q) a w) : (Code.scope c).wp P Q a w := by
  refine wp_scope_two l m J μ hf hm (first fun a w hJ => ?_) (fun a w hJ => wp_seq (wp_skip (pass a w hJ)))
  refine Code.wp_mono (fun e a' w' h => ?_) (pass a w hJ)
  cases e with
  | goto k => exact h.imp (fun h => ⟨h.1, h.2.1⟩) id
  | _ => exact h
end
/-! ### records in memory -/
/-- Slices of bytes that lie one behind the other, all in the zone. -/
structure listsZ (w : World) (Z : Nat → Prop) (s : Sl) (vs : List Sl) (rs : List (List UInt8)) : Prop where
  n : s.n = rs.length
  c : s.n ≤ s.c
  len : vs.length = rs.length
  cells : rs ≠ [] → ∃ b off, s.a = some ⟨b, off, none⟩ ∧ Z b ∧ b < w.heap.size ∧ ∀ k (h : k < vs.length), w.cell? ⟨b, off + k, none⟩ = some (.slice vs[k].a vs[k].n vs[k].c)
  el : ∀ k (h : k < rs.length) (h2 : k < vs.length), bytesZ w Z vs[k] rs[k]
/-- The same in a row of one's own. -/
structure RecsAt (w : World) (Z : Nat → Prop) (s : Sl) (vs : List Sl) (rs : List (List UInt8)) : Prop where
  own : w.ownsRow 0 102 1 s.v rs.length (vs.map Sl.v)
  n : s.n = rs.length
  len : vs.length = rs.length
  el : ∀ k (h : k < rs.length) (h2 : k < vs.length), bytesZ w (fun j => Z j ∧ s.v.ownBlock ≠ some j) vs[k] rs[k]
  zone : ∀ k, s.v.ownBlock = some k → Z k
section
variable {w w' : World} {Z Y S : Nat → Prop} {s : Sl} {vs : List Sl} {rs : List (List UInt8)}
theorem listsZ.upd (h : listsZ w Z s vs rs) (hu : Upd w w' S) (hs : ∀ k, Z k → k < w.heap.size → ¬ S k) : listsZ w' Z s vs rs :=
  ⟨h.n, h.c, h.len, fun hne => by
    obtain ⟨b, off, ha, hz, hb, hc⟩ := h.cells hne
    exact ⟨b, off, ha, hz, Nat.lt_of_lt_of_le hb hu.size, fun k hk => (hu.cell hb (hs b hz hb) _).trans (hc k hk)⟩, fun k h1 h2 => (h.el k h1 h2).upd hu hs⟩
theorem listsZ.keep (h : listsZ w Z s vs rs) (hb : Below w.heap.size w w') : listsZ w' Z s vs rs := h.upd (S := fun _ => False) (Upd.of_below hb _) (fun _ _ _ hf => hf)
theorem listsZ.zone (h : listsZ w Z s vs rs) (hY : ∀ k, k < w.heap.size → Z k → Y k) : listsZ w Y s vs rs :=
  ⟨h.n, h.c, h.len, fun hne => by
    obtain ⟨b, off, ha, hz, hb, hc⟩ := h.cells hne
    exact ⟨b, off, ha, hY b hb hz, hb, hc⟩, fun k h1 h2 => (h.el k h1 h2).zone hY⟩
theorem RecsAt.upd (h : RecsAt w Z s vs rs) (hu : Upd w w' S) (hs : ∀ k, Z k → k < w.heap.size → ¬ S k) : RecsAt w' Z s vs rs :=
  ⟨ownsRow_upd h.own hu (fun k hk => hs k (h.zone k hk) (h.own.lt k hk).2), h.n, h.len, fun k h1 h2 => (h.el k h1 h2).upd hu (fun j hj hl => hs j hj.1 hl), h.zone⟩
theorem RecsAt.keep (h : RecsAt w Z s vs rs) (hb : Below w.heap.size w w') : RecsAt w' Z s vs rs := h.upd (S := fun _ => False) (Upd.of_below hb _) (fun _ _ _ hf => hf)
theorem RecsAt.zoned (h : RecsAt w Z s vs rs) (hY : ∀ k, k < w.heap.size → Z k → Y k) : RecsAt w Y s vs rs :=
  ⟨h.own, h.n, h.len, fun k h1 h2 => (h.el k h1 h2).zone (fun j hj hz => ⟨hY j hj hz.1, hz.2⟩), fun k hk => hY k (h.own.lt k hk).2 (h.zone k hk)⟩
theorem RecsAt.lists (h : RecsAt w Z s vs rs) : listsZ w Z s vs rs := by
  refine ⟨h.n, ?_, h.len, fun hne => ?_, fun k h1 h2 => (h.el k h1 h2).zone (fun j _ hz => hz.1)⟩
  · rcases h.own.2 with ⟨e, e2⟩ | ⟨g, cap, cur, e, _, _, hn, _⟩
    · obtain ⟨a, n, c⟩ := s
      unfold Sl.v at e
      injection e with e1 e2 e3; simp only at e1 e2 e3
      show n ≤ c; omega
    · obtain ⟨a, n, c⟩ := s
      unfold Sl.v at e
      injection e with e1 e2 e3; simp only at e1 e2 e3
      show n ≤ c; omega
  · rcases h.own.2 with ⟨e, e2⟩ | ⟨g, cap, cur, e, _, hh, hn, hm, hsz, ht⟩
    · exact absurd (List.eq_nil_of_length_eq_zero e2) hne
    · obtain ⟨a, n, c⟩ := s
      unfold Sl.v at e
      injection e with e1 e2 e3; simp only at e1 e2 e3
      refine ⟨g, 0, e1, h.zone g (by show (Value.slice a n c).ownBlock = some g; rw [e1]; rfl), (cells_known hh).2.2, fun k hk => ?_⟩
      rw [(cells_known hh).1, Nat.zero_add]
      have hl := h.len
      have h2 : (cur.toList.take (rs.length * 1))[k]? = (vs.map Sl.v)[k]? := by rw [ht]
      rw [List.getElem?_take, if_pos (by omega), List.getElem?_map, List.getElem?_eq_getElem hk] at h2
      simpa [Sl.v] using h2
theorem RecsAt_nil (w : World) (Z : Nat → Prop) : RecsAt w Z ⟨none, 0, 0⟩ [] [] := ⟨World.ownsRow_nil _ _ _ _, rfl, rfl, fun k h => absurd h (by simp), fun k hk => by simp [Sl.v, Value.ownBlock] at hk⟩
theorem info_sl8 : ∃ i, Try.prog.info? 102 = some i ∧ i.zero = some (.slice none 0 0) ∧ i.size = 1 ∧ i.bytes = 24 := by
  have h : (Try.prog.info? 102).map (fun i => (i.zero, i.size, i.bytes)) = some (some (.slice none 0 0), 1, 24) := by kernel_rfl
  obtain ⟨i0, hi, hz0, hz1, hz2⟩ := info_parts h
  exact ⟨i0, hi, hz0, hz1, hz2⟩
/-- A record put behind records of one's own. -/
theorem own_sl1 {base : Nat} {v : Value} {n : Nat} {xs : List Value} (h : w.ownsRow base 102 1 v n xs) {b c : Nat} {x : Sl} (hb : w.heap[b]? = some (.cells #[.slice x.a x.n x.c] 102 (0, 0))) (hbase : base ≤ w.heap.size) (hl : n ≤ 1000000000) :
    ∃ (s' : Sl) (w' : World), (∀ ty, (Builtin.append_ #[95, 95] ty #[v, .slice (some ⟨b, 0, none⟩) 1 c]).run Try.prog w = .ok (.slice s'.a s'.n s'.c) w') ∧ w'.ownsRow base 102 1 s'.v (n + 1) (xs ++ [x.v]) ∧ s'.n = n + 1 ∧ Upd w w' (fun j => v.ownBlock = some j) ∧ (∀ j, s'.v.ownBlock = some j → v.ownBlock = some j ∨ j = w.heap.size) := by
  obtain ⟨i0, hi0, hz0, hz1, hz2⟩ := info_sl8
  obtain ⟨v', w', hr, h2, h3, h4, h5⟩ := run_append_own_at (P := Try.prog) w base 95 0 102 i0 (.slice none 0 0) 1 24 Try.underlying95 hi0 hz0 hz1 hz2 (by rfl) (by decide) v n _ h ⟨b, 0, none⟩ 1 c [x.v] (by simp) (by
      intro j u hu
      have hj : j = 0 := by
        have := (List.getElem?_eq_some_iff.1 hu).1
        simpa using this
      subst hj
      have e : (⟨b, 0, none⟩ : Addr).add 0 = ⟨b, 0, none⟩ := rfl
      rw [e, (cells_known hb).1]
      simpa [Sl.v] using hu) (by intro u hu; simp at hu; subst hu; rfl) (by unfold maxLen; omega) (by omega) hbase
  obtain ⟨a', c', rfl, _, _⟩ := ownsRow_slice h2
  exact ⟨⟨a', n + 1, c'⟩, w', fun ty => hr, h2, rfl, Upd.grown h3, fun j e => by
    rcases h5 with e2 | e2
    · exact .inl (by rw [← e2]; exact e)
    · have : some j = some w.heap.size := e.symm.trans e2
      exact .inr (Option.some.inj this)⟩
/-- The records behind it. -/
theorem RecsAt.push {X : Nat → Prop} {x s' : Sl} {l : List UInt8} (h : RecsAt w Z s vs rs) (hx : bytesZ w X x l) (hX : ∀ j, X j → s.v.ownBlock ≠ some j) (ho : w'.ownsRow 0 102 1 s'.v (rs.length + 1) (vs.map Sl.v ++ [x.v])) (hn : s'.n = rs.length + 1)
    (hu : Upd w w' (fun j => s.v.ownBlock = some j)) (hnew : ∀ j, s'.v.ownBlock = some j → s.v.ownBlock = some j ∨ j = w.heap.size) : RecsAt w' (fun j => Z j ∨ X j ∨ j = w.heap.size) s' (vs ++ [x]) (rs ++ [l]) := by
  have hlen := h.len
  refine ⟨by simpa using ho, by simpa using hn, by simp [hlen], fun k h1 h2 => ?_, fun k hk => ?_⟩
  · by_cases hlt : k < rs.length
    · rw [List.getElem_append_left (by omega), List.getElem_append_left hlt]
      have h3 := h.el k hlt (by omega)
      refine (h3.zone (Y := fun j => (Z j ∧ s.v.ownBlock ≠ some j) ∧ j < w.heap.size) (fun j hj hz => ⟨hz, hj⟩)).upd hu (fun j hj hl e => hj.1.2 e) |>.zone (fun j hj hz => ⟨.inl hz.1.1, fun e => ?_⟩)
      rcases hnew j e with g | g
      · exact hz.1.2 g
      · have := hz.2; omega
    · have hk : k = rs.length := by simp at h1; omega
      subst hk
      rw [List.getElem_append_right (by omega), List.getElem_append_right (by omega)]
      simp only [hlen, Nat.sub_self, List.getElem_cons_zero]
      refine (hx.zone (Y := fun j => X j ∧ j < w.heap.size) (fun j hj hz => ⟨hz, hj⟩)).upd hu (fun j hj hl e => hX j hj.1 e) |>.zone (fun j hj hz => ⟨.inr (.inl hz.1), fun e => ?_⟩)
      rcases hnew j e with g | g
      · exact hX j hz.1 g
      · have := hz.2; omega
  · rcases hnew k hk with g | g
    · exact .inl (h.zone k g)
    · exact .inr (.inr g)
end
end Go.Proofs.Ytkiindgcbpkddaa
