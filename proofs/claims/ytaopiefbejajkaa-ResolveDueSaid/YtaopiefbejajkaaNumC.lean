/- Contracts of package num, continued: an Ink writes numbers. -/
import Derived.Test.YtaopiefbejajkaaNumB
import Derived.Deep.AppendLies
set_option linter.unusedSimpArgs false
set_option linter.unusedVariables false
namespace Go.Proofs.Ytaopiefbejajkaa
open Go.RowKit
/-- Several numbers' bytes. -/
def encN (l : List Int) : List UInt8 := l.flatMap fun n => putS n.toNat
theorem encN_take {l : List Int} {k : Nat} (hk : k < l.length) : encN (l.take (k + 1)) = encN (l.take k) ++ putS l[k].toNat := by
  unfold encN
  rw [List.take_succ_eq_append_getElem hk, List.flatMap_append]
  simp
theorem encN_le (l : List Int) : (encN l).length ≤ 9 * l.length := by
  unfold encN
  induction l with
  | nil => simp
  | cons x l ih => have := putS_le x.toNat; simp only [List.flatMap_cons, List.length_append, List.length_cons]; omega
theorem ink_cells {w : World} {p : Nat} {s : Sl} {l : List UInt8} {B : Nat} (h : inkAt w p s l B) :
    w.cell? ⟨p, 0, none⟩ = some s.v ∧ w.cell? ⟨p, 1, none⟩ = some (.bool false) ∧ (∀ o, w.frozen? ⟨p, o, none⟩ = false) ∧ p < w.heap.size ∧ s.n = l.length := by
  have hc := cells_known h.2.1
  refine ⟨hc.1 0, hc.1 1, hc.2.1, hc.2.2, ?_⟩
  obtain ⟨a, c, hv, -, -⟩ := ownsRow_slice h.2.2.1
  injection hv
theorem ink_row2 {w : World} {p : Nat} {s : Sl} {l : List UInt8} {B : Nat} (h : inkAt w p s l B) (o : Nat) (u : Value) : (w.setCell ⟨p, o, none⟩ u).ownsRow B 5 1 s.v l.length (byteVs l) :=
  ownsRow_upd h.2.2.1 (Upd.setCell w ⟨p, o, none⟩ u) (fun k hk e => h.2.2.2 (by rw [hk]; exact congrArg some e))
/-- What a row in new memory holds, behind a store elsewhere. -/
theorem row_cells2 {w1 : World} {base m c1 : Nat} {a1 : Addr} {xs : List Value} (h : w1.ownsRow base 5 1 (.slice (some a1) m c1) m xs) {p : Nat} (hp : p < base) (hm : 0 < m) (o : Nat) (v : Value) :
    ∀ j u, xs[j]? = some u → (w1.setCell ⟨p, o, none⟩ v).cell? (a1.add j) = some u := by
  intro j u hj
  obtain ⟨a, c, hv, -, hg⟩ := ownsRow_slice h
  obtain ⟨g, ha, h1, h2⟩ := hg (by omega)
  injection hv with hv1
  rw [ha] at hv1
  injection hv1 with hv1
  subst hv1
  have := h.cells (g := g) rfl j u hj
  rw [← this]
  have hbk : ((⟨g, 0, none⟩ : Addr).add j).block = g := by unfold Addr.add; split <;> rfl
  exact World.cell?_of_block (by rw [hbk]; exact (Upd.setCell w1 ⟨p, o, none⟩ v).block g h2 (fun e => by simp at e; omega))
set_option maxRecDepth 100000 in
set_option maxHeartbeats 1000000 in
theorem inkN (p : Nat) (s : Sl) (l : List UInt8) (b off c : Nat) (xs : List Int) (w : World) (B : Nat) (hB : B ≤ w.heap.size) (hk : inkAt w p s l B) (hx : ∀ x ∈ xs, OkNum x) (hlen : l.length + 9 * xs.length ≤ 140737488355328)
    (hb : b < w.heap.size) (hbs : ¬ inkFoot p s b) (hxs : ∀ k (h : k < xs.length), w.cell? ⟨b, off + k, none⟩ = some (.int .i64 xs[k])) :
    Calls Try.prog 147 #[.pointer (some ⟨p, 0, none⟩), .slice (some ⟨b, off, none⟩) xs.length c] w (RetInk w p s (l ++ encN xs) B) := by
  obtain ⟨i0, hi0, hz0, hz1, hz2⟩ := info_parts Try.info5
  have q111 : ∀ (w : World) (a : Option Addr) (n c n' c' : Nat), (binOp .eql 96 (.slice a n c) (.slice none n' c')).run Try.prog w = .ok (.bool a.isNone) w := fun w a n c n' c' => Lib.run_eql_slice_nil w _ _ a n c n' c' Try.underlying96
  go_enter Try.func147, Try.ntmps147
  go_wp2
  go_loopw [10] (fun i wr => ∃ (k : Nat) (s' : Sl), k ≤ xs.length ∧ i = .int .i64 k ∧ inkAt wr p s' (l ++ encN (xs.take k)) B ∧ Upd w wr (inkFoot p s) ∧ ∀ k, inkFoot p s' k → inkFoot p s k ∨ w.heap.size ≤ k) (fun i _ => xs.length - (intOf i).toNat)
  case atStart => exact ⟨0, s, Nat.zero_le _, rfl, by simpa [encN] using hk, Upd.refl _ _, fun k h => .inl h⟩
  case round =>
    obtain ⟨k, s', hkl, rfl, hik, hu, hf⟩ := hrel
    by_cases hlt : k < xs.length
    · have hz := hu.size
      have hcell : wr.cell? ⟨b, off + k, none⟩ = some (.int .i64 xs[k]) := by rw [hu.cell hb hbs]; exact hxs k hlt
      have hcl := encN_le (xs.take k)
      have hp := putS_le xs[k].toNat
      have hp0 := putS_pos xs[k].toNat
      have hl1 : (l ++ encN (xs.take k)).length + (putS xs[k].toNat).length ≤ 140737488355328 := by simp at hcl ⊢; omega
      have hst := encN_take hlt
      have HST := Lib.hid hst
      clear hst
      go_wp2_with (first | (go_at_call 158; refine (put_num _ (hx _ (List.getElem_mem hlt)) _).mono ?_; rintro e w1 ⟨a1, c1, rfl, hown1, hb1⟩; have hi1 := hik.upd (Upd.of_below hb1 (fun _ => False)) (fun _ _ h => h); obtain ⟨hc0, hc1, hcf, hcp, hcn⟩ := ink_cells hi1) | (at_builtin; refine wpList_append_lies _ rfl _ _ 96 rfl B 5 i0 (.int .u8 0) 1 1 Try.underlying96 hi0 hz0 hz1 hz2 rfl (by decide) s'.v (l ++ encN (xs.take k)).length (byteVs (l ++ encN (xs.take k))) rfl (ink_row2 hi1 _ _) a1 _ c1 (byteVs (putS xs[k].toNat)) rfl (by simp [byteVs_length]) (row_cells2 hown1 (cells_known hik.2.1).2.2 hp0 _ _) (one_byteVs _) hp0 (by unfold maxLen; omega) (by omega) (by have := hb1.size; simp; omega) _ rfl ?_))
      intro g cap w3 hown3 hgrow3 hg3 hlt3
      have h2p : (w1.setCell ⟨p, 1, none⟩ (.bool false)).heap[p]? = some (.cells (InkV.mk s' false).arr 193 (0, 0)) := by rw [heap_set hi1.2.1]; rfl
      have hne : s'.v.ownBlock ≠ some p := hi1.2.2.2
      have hc3 : (∀ o, w3.cell? ⟨p, o, none⟩ = (InkV.mk s' false).arr[o]?) ∧ (∀ o, w3.frozen? ⟨p, o, none⟩ = false) ∧ p < w3.heap.size :=
        cells_known (by rw [hgrow3.block p (by simpa using hcp) (Ne.symm hne)]; exact h2p)
      obtain ⟨hc30, hcf3, hcp3⟩ := hc3
      have hc30 := hc30 0
      have hn3 : l.length + (encN (xs.take k)).length + (putS xs[k].toNat).length = ((l ++ encN (xs.take k)) ++ putS xs[k].toNat).length := by simp; omega
      obtain ⟨s3, hs3, hi3, hu3, hf3⟩ := ink_step (hik) (Nat.le_trans hB hz) hn3 h2p ((Upd.of_below hb1 _).trans (Upd.setCell w1 ⟨p, 1, none⟩ (.bool false)) (fun _ _ h => h)) hgrow3 (by rw [byteVs_append]; exact hown3) (fun k hk => by
        rcases hg3 with h | h
        · exact .inl (by rw [h]; exact hk)
        · injection hk with hk; subst hk; exact .inr (by rw [h]; simp))
      have hi3' := Lib.hid hi3
      have hu3' := Lib.hid hu3
      have hs3' := Lib.hid hs3
      clear hs3 hi3 hu3 hgrow3 hown3 hn3 h2p
      go_wp2_with fail
      go_roundw
      case rel =>
        refine ⟨k + 1, s3, by omega, by go_num, ?_, ?_, ?_⟩
        · rw [HST.out, ← List.append_assoc]; exact hi3'.out
        · refine hu.trans hu3'.out (fun i hi h => ?_)
          rcases hf i h with h' | h'
          · exact h'
          · omega
        · intro i hi
          rcases hf3 i hi with h' | h'
          · exact hf i h'
          · exact .inr (by omega)
      case measure => simp [intOf]; omega
    · go_wp2
      go_ret
      have : k = xs.length := by omega
      subst this
      rw [List.take_length] at hik
      exact ⟨s', rfl, hik, hu, hf⟩
end Go.Proofs.Ytaopiefbejajkaa
