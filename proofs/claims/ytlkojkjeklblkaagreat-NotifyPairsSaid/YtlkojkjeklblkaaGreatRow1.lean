/- Arguments opened: what lies in memory behind a slice of structs. The last step of a row whose arguments are plain values: what lay before the call is as it was. The arguments of a row, read again behind the call: what lay before it is as it was. -/
import Derived.Test.YtlkojkjeklblkaaGreatRows
import Derived.Test.YtlkojkjeklblkaaGreatTxC
import Derived.Deep.Slices
import Derived.Carry
import Derived.ChangeSame
import Derived.WalkKit
import Derived.ProofKit
import Derived.OpenShut
import Derived.Below
import Derived.Test.YtlkojkjeklblkaaGreatKeys
import Derived.WideKeyArgs
set_option linter.unusedSimpArgs false
set_option linter.unusedVariables false
namespace Go.Proofs.YtlkojkjeklblkaaGreat
open Go.ChangeShapes Go.WideShapes Go.RowKit Go.Deep
theorem cells_row {W : World} {base n : Nat} {a : Addr} {cs : List Value} (h : W.cells? base a n = some cs) (hn : 0 < n) :
    ∃ b off, a = ⟨b, off, none⟩ ∧ b < W.heap.size ∧ base ≤ b ∧ row? W ⟨b, off, none⟩ n = some cs.toArray := by
  obtain ⟨hb, hl, hc⟩ := World.cells?_some h
  obtain ⟨b, off, sp⟩ := a
  have h0 := hc 0 hn
  have hsp : sp = none := by
    cases sp with
    | none => rfl
    | some x =>
      exfalso
      have hnone : W.cell? ((⟨b, off, some x⟩ : Addr).add 0) = none := by
        have hs : ((⟨b, off, some x⟩ : Addr).add 0).spot.isSome = true := by unfold Addr.add; simp
        unfold World.cell?
        split
        · rw [if_pos hs]
        · rfl
      rw [hnone] at h0
      rw [List.getElem?_eq_getElem (by omega)] at h0
      cases h0
  subst hsp
  have hadd : ∀ i, (⟨b, off, none⟩ : Addr).add i = ⟨b, off + i, none⟩ := fun i => by unfold Addr.add; split <;> simp_all
  simp only [hadd] at hc
  have hcs : ∀ i, i < n → W.cell? ⟨b, off + i, none⟩ = cs[i]? := hc
  have hl0 := hcs 0 hn
  rw [List.getElem?_eq_getElem (by omega)] at hl0
  unfold World.cell? at hl0 hcs
  cases hh : W.heap[b]? with
  | none => rw [show W.heap[(⟨b, off + 0, none⟩ : Addr).block]? = none from hh] at hl0; cases hl0
  | some o =>
    cases o with
    | cells c t fr =>
      have hb2 : b < W.heap.size := (Array.getElem?_eq_some_iff.1 hh).1
      have hcc : ∀ i, i < n → c[off + i]? = cs[i]? := fun i hi => by
        have := hcs i hi
        simp only [hh] at this
        simpa using this
      have hlast := hcc (n - 1) (by omega)
      rw [List.getElem?_eq_getElem (by omega)] at hlast
      have hsz : off + n ≤ c.size := by
        have := (Array.getElem?_eq_some_iff.1 hlast).1
        omega
      refine ⟨b, off, rfl, hb2, hb, ?_⟩
      unfold row?
      simp only [hh]
      rw [if_pos (by simpa using hsz)]
      congr 1
      apply Array.ext'
      apply List.ext_getElem?
      intro i
      rw [Array.toList_extract]
      simp only [List.extract_eq_take_drop]
      by_cases hi : i < n
      · rw [List.getElem?_take, if_pos (by omega), List.getElem?_drop, ← hcc i hi, Array.getElem?_toList]
      · rw [List.getElem?_take, if_neg (by omega), List.getElem?_eq_none (by omega)]
    | _ => simp [hh] at hl0
/-- Structs that lie behind a slice. -/
def structsAt {α : Type} (A : α → Array Value) (n : Nat) (W : World) (s : Sl) (l : List α) : Prop :=
  s.n = l.length ∧ s.n ≤ s.c ∧ s.c ≤ maxLen ∧ rowsAt W s.a n A l W.heap.size
section
variable {H : Type} {enc : TypeId × Value → H} {P : Program} {w : World} {base : Nat} {spare : Nat → Bool} {held : Bool}
/-- A slice of structs, opened. -/
theorem open_rows {α : Type} (A : α → Array Value) (n : Nat) (good : α → Prop) {t e : TypeId} (ht : P.underlying t = some (.slice e)) (hC : P.cellsOf e = n) (hn : 0 < n)
    (hE : ∀ fuel cs x, DataW.trod enc P w base spare held fuel e cs = some x → ∃ d : α, cs = (A d).toList ∧ good d)
    {fuel : Nat} {cs : List Value} {x : DataW H × List MemPlace} (h : DataW.trod enc P w base spare held fuel t cs = some x) :
    ∃ (s : Sl) (l : List α), cs = [.slice s.a s.n s.c] ∧ structsAt A n w s l ∧ ∀ d ∈ l, good d := by
  rcases open_slice ht h with ⟨hcs, _⟩ | ⟨a, len, cap, m, f, D, Pl, hcs, hb, hl, hm, hmm, hx, hi⟩
  · exact ⟨⟨none, 0, 0⟩, [], hcs, ⟨rfl, Nat.le_refl _, Nat.zero_le _, fun h => absurd rfl h⟩, fun d hd => absurd hd (by simp)⟩
  · have hlm : len ≤ m := by rw [hmm]; split <;> omega
    have hel : ∀ i, i < len → ∃ d : α, good d ∧ ∃ b off, a.add (i * n) = ⟨b, off, none⟩ ∧ b < w.heap.size ∧ row? w ⟨b, off, none⟩ n = some (A d) := by
      intro i hil
      obtain ⟨cs', hc, ht'⟩ := hi i (by omega)
      rw [hC] at hc
      obtain ⟨d, hd, hg⟩ := hE _ _ _ ht'
      obtain ⟨b, off, e1, hb1, _, hr⟩ := cells_row hc hn
      refine ⟨d, hg, b, off, e1, hb1, ?_⟩
      rw [hr, hd]
    have hch : ∀ k, k ≤ len → ∃ l : List α, l.length = k ∧ (∀ d ∈ l, good d) ∧ ∀ i (h : i < l.length), ∃ b off, a.add (i * n) = ⟨b, off, none⟩ ∧ b < w.heap.size ∧ row? w ⟨b, off, none⟩ n = some (A l[i]) := by
      intro k
      induction k with
      | zero => intro _; exact ⟨[], rfl, fun d hd => absurd hd (by simp), fun i h => absurd h (by simp)⟩
      | succ k ih =>
        intro hk
        obtain ⟨l, h1, h2, h3⟩ := ih (by omega)
        obtain ⟨d, hg, hr⟩ := hel k (by omega)
        refine ⟨l ++ [d], by simp [h1], fun y hy => ?_, fun i hi2 => ?_⟩
        · rcases List.mem_append.1 hy with g | g
          · exact h2 y g
          · rw [List.mem_singleton.1 g]; exact hg
        · by_cases hik : i < l.length
          · rw [List.getElem_append_left hik]; exact h3 i hik
          · have : i = k := by simp at hi2; omega
            subst this
            rw [List.getElem_append_right (by omega)]
            simpa [h1] using hr
    obtain ⟨l, h1, h2, h3⟩ := hch len (Nat.le_refl _)
    refine ⟨⟨some a, len, cap⟩, l, hcs, ⟨h1.symm, hl, hm, fun hne => ?_⟩, h2⟩
    obtain ⟨b, off, e0, hb0, _⟩ := h3 0 (by have := List.length_pos_iff.2 hne; omega)
    have ea : a = ⟨b, off, none⟩ := by
      rw [Nat.zero_mul] at e0
      unfold Addr.add at e0
      simpa using e0
    subst ea
    refine ⟨b, off, rfl, hb0, fun k hk => ?_⟩
    obtain ⟨b2, off2, e2, _, hr⟩ := h3 k hk
    have : (⟨b, off, none⟩ : Addr).add (k * n) = ⟨b, off + k * n, none⟩ := by unfold Addr.add; split <;> simp_all
    rw [this] at e2
    cases e2
    exact hr
/-- What a call left as it was, and only made new things: the last step of a row. -/
theorem done_kept {f : Func} {s : ChangeSpec} {apart fresh handsOn again : Bool} {W W' : World} {args : Array Value} {v : Value} {ds gs : List (DataW H)} {before : List MemPlace}
    (hW : DataW.Whole enc P f.params.toList s.vars apart W args.toList ds gs before)
    (hres : ∀ (b : Nat) (sp : Nat → Bool) (hd : Bool), DataW.TrodAll enc P W' b sp hd f.resultTypes.toList (v.resultList f.resultTypes.size) (s.fn H (ds ++ gs)).results [])
    (hargs : ∀ sp : Nat → Bool, (∀ p ∈ before, sp p.block = true) → DataW.TrodAll enc P W' 0 sp true f.params.toList args.toList (s.fn H (ds ++ gs)).args before)
    (hvars : ∀ sp : Nat → Bool, DataW.TrodVars enc P W' sp s.vars (s.fn H (ds ++ gs)).vars [])
    (hb : Below W.heap.size W W')
    (hok : ∀ (j : Nat) (t : TypeId) (r : Value), f.resultTypes[j]? = some t → (v.resultList f.resultTypes.size)[j]? = some r → Value.okWide P W' .any 0 t r) :
    s.post enc P f apart fresh handsOn again W args v W' := by
  have hold : ∀ p ∈ before, (fun b => decide (b < W.heap.size)) p.block = true := fun p hp => by simpa using hW.lt p hp
  have hfr : ∀ p ∈ before, ∀ b off, p = .cell b off → W'.frozen? ⟨b, off, none⟩ = W.frozen? ⟨b, off, none⟩ := fun p hp b off e => by
    have := hW.lt p hp
    subst e
    exact World.frozen?_of_block (hb.block b (by simpa [MemPlace.block] using this))
  refine ⟨ds, gs, before, [], before, [], hW, hres _ _ _, hargs _ hold, hvars _, World.keptBut_mono (fun p hp => ⟨hp, ?_⟩) (hb.frame (· ∈ before)), fun _ => ?_⟩
  · exact Or.inr (by simpa using hp)
  · obtain ⟨_, _, _, _, _, hz, hn⟩ := hW
    refine ⟨hok, _, _, ([] ++ before) ++ [], ⟨[] ++ before, [], trodAll_append (hargs _ (fun _ _ => rfl)) (hres _ _ _), hvars _, rfl, ?_, ?_⟩, ?_⟩
    · intro b off hp
      have hp2 : MemPlace.cell b off ∈ before := by simpa using hp
      rw [hfr _ hp2 b off rfl]
      exact hz b off hp2
    · intro ha
      simpa using hn ha
    · intro p hp _
      simpa using hp
end
end Go.Proofs.YtlkojkjeklblkaaGreat
namespace Go.Proofs.YtlkojkjeklblkaaGreat
open Go.ChangeShapes Go.WideShapes Go.ChangeAt Go.RowKit
theorem done_plain {H : Type} {enc : TypeId × Value → H} {P : Program} {f : Func} {s : ChangeSpec} {apart fresh handsOn again : Bool} {W W' : World} {args : Array Value} {v : Value} {ds gs : List (DataW H)}
    (hW : DataW.Whole enc P f.params.toList s.vars apart W args.toList ds gs [])
    (hres : ∀ (b : Nat) (sp : Nat → Bool) (hd : Bool), DataW.TrodAll enc P W' b sp hd f.resultTypes.toList (v.resultList f.resultTypes.size) (s.fn H (ds ++ gs)).results [])
    (hargs : ∀ sp : Nat → Bool, DataW.TrodAll enc P W' 0 sp true f.params.toList args.toList (s.fn H (ds ++ gs)).args [])
    (hvars : ∀ sp : Nat → Bool, DataW.TrodVars enc P W' sp s.vars (s.fn H (ds ++ gs)).vars [])
    (hb : Below W.heap.size W W') (hok : ∀ (j : Nat) (t : TypeId) (r : Value), f.resultTypes[j]? = some t → (v.resultList f.resultTypes.size)[j]? = some r → Value.okWide P W' .any 0 t r) :
    s.post enc P f apart fresh handsOn again W args v W' := by
  refine ⟨ds, gs, [], [], [], [], hW, hres _ _ _, hargs _, hvars _, World.keptBut_mono (fun p hp => absurd hp (by simp)) (hb.frame (· ∈ ([] : List MemPlace))), fun _ => ⟨hok, _, _, [], ⟨[], [], by simpa using trodAll_append (hargs _) (hres _ _ _), hvars _, rfl, fun b off h => absurd h (by simp), fun _ => by simp⟩, fun p hp => absurd hp (by simp)⟩⟩
end Go.Proofs.YtlkojkjeklblkaaGreat
namespace Go.Proofs.YtlkojkjeklblkaaGreat
open Go.ChangeShapes Go.WideShapes Go.RowKit
theorem trodAll_stays {H : Type} {enc : TypeId × Value → H} {P : Program} {W W' : World} {sp : Nat → Bool} (hl : laidOutB P = true) :
    ∀ {ts : List TypeId} {vs : List Value} {ds : List (DataW H)} {p : List MemPlace}, ts.all (fun t => P.readableRec t && decide (t < P.types.size)) = true → DataW.TrodAll enc P W 0 (fun _ => true) true ts vs ds p →
      (∀ x ∈ p, W.sameAt W' x) → (∀ x ∈ p, sp x.block = true) → DataW.TrodAll enc P W' 0 sp true ts vs ds p
  | [], vs, ds, p, _, h, _, _ => by
    obtain ⟨rfl, rfl, rfl⟩ := trodAll_nil h
    exact trodAll_mk0
  | t :: ts, vs, ds, p, ht, h, h1, h2 => by
    obtain ⟨v, vs', d, ds', p0, q0, rfl, rfl, rfl, hv, hr⟩ := trodAll_cons h
    simp only [List.all_cons, Bool.and_eq_true, decide_eq_true_eq] at ht
    exact trodAll_cons_mk (WideElems.Trod_stays hl ht.1.1 ht.1.2 hv (fun x hx => h1 x (List.mem_append_left _ hx)) (fun x hx => h2 x (List.mem_append_left _ hx)))
      (trodAll_stays hl ht.2 hr (fun x hx => h1 x (List.mem_append_right _ hx)) (fun x hx => h2 x (List.mem_append_right _ hx)))
end Go.Proofs.YtlkojkjeklblkaaGreat
