/- Bytes that lie in a zone; a file's deeds at a zone; bytes compared, put one behind the other, a record's sum and frame. -/
import Derived.Test.YtkiindgcbpkddaaFileK
import Derived.Test.YtkiindgcbpkddaaConv
import Derived.Test.YtkiindgcbpkddaaWalP
set_option linter.unusedSimpArgs false
set_option linter.unusedVariables false
namespace Go.Proofs.Ytkiindgcbpkddaa
open Go.RowKit
/-- A slice that reads as bytes, all of them in the zone. -/
def bytesZ (w : World) (Z : Nat → Prop) (v : Sl) (l : List UInt8) : Prop := v.n = l.length ∧ v.n ≤ v.c ∧ (l ≠ [] → ∃ b off, v.a = some ⟨b, off, none⟩ ∧ Z b ∧ b < w.heap.size ∧ ∀ k (h : k < l.length), w.cell? ⟨b, off + k, none⟩ = some (byteV l[k]))
section
variable {w w' : World} {Z Y S : Nat → Prop} {v : Sl} {l : List UInt8}
theorem bytesZ.at (h : bytesZ w Z v l) : bytesAt w v l w.heap.size := ⟨h.1, fun hl => by
  obtain ⟨b, off, ha, hz, hb, hc⟩ := h.2.2 hl
  exact ⟨b, off, ha, hb, hc⟩⟩
theorem bytesZ.upd (h : bytesZ w Z v l) (hu : Upd w w' S) (hs : ∀ k, Z k → k < w.heap.size → ¬ S k) : bytesZ w' Z v l := ⟨h.1, h.2.1, fun hl => by
  obtain ⟨b, off, ha, hz, hb, hc⟩ := h.2.2 hl
  exact ⟨b, off, ha, hz, Nat.lt_of_lt_of_le hb hu.size, fun k hk => (hu.cell hb (hs b hz hb) _).trans (hc k hk)⟩⟩
theorem bytesZ.keep (h : bytesZ w Z v l) (hb : Below w.heap.size w w') : bytesZ w' Z v l := h.upd (S := fun _ => False) (Upd.of_below hb _) (fun _ _ _ hf => hf)
theorem bytesZ.zone (h : bytesZ w Z v l) (hY : ∀ k, k < w.heap.size → Z k → Y k) : bytesZ w Y v l := ⟨h.1, h.2.1, fun hl => by
  obtain ⟨b, off, ha, hz, hb, hc⟩ := h.2.2 hl
  exact ⟨b, off, ha, hY b hb hz, hb, hc⟩⟩
theorem bytesAt.z (h : bytesAt w v l w.heap.size) (hc : v.n ≤ v.c) : bytesZ w (fun _ => True) v l := ⟨h.1, hc, fun hl => by
  obtain ⟨b, off, ha, hb, hc⟩ := h.2 hl
  exact ⟨b, off, ha, trivial, hb, hc⟩⟩
theorem ownB.z (h : ownB w Z v l) : bytesZ w Z v l := ⟨h.1, h.2.1, fun hl => by
  obtain ⟨k, hk⟩ : ∃ k, k < l.length := ⟨0, List.length_pos_iff.2 hl⟩
  obtain ⟨g, ha, _, hz, hg, hc⟩ := h.cellAt hk
  exact ⟨g, 0, ha, hz, hg, fun k hk => by rw [Nat.zero_add]; exact hc k hk⟩⟩
theorem bytesZ_nil (w : World) (Z : Nat → Prop) : bytesZ w Z ⟨none, 0, 0⟩ [] := ⟨rfl, Nat.le_refl _, fun h => absurd rfl h⟩
theorem src_ok {B : Nat} (h : bytesAt w v l B) : v.a ≠ none ∨ v = ⟨none, 0, v.c⟩ := by
  obtain ⟨a, n, c⟩ := v
  cases a with
  | some a => exact .inl (by simp)
  | none =>
    refine .inr ?_
    have hl : l = [] := by
      by_cases hl : l = []
      · exact hl
      · obtain ⟨b, off, e, _⟩ := h.2 hl
        cases e
    have hn : n = 0 := by rw [show n = l.length from h.1, hl]; rfl
    rw [hn]
theorem row_bytes {base : Nat} {a : Addr} {c : Nat} (h : w.ownsRow base 5 1 (.slice (some a) l.length c) l.length (byteVs l)) : bytesZ w (fun k => base ≤ k) ⟨some a, l.length, c⟩ l := by
  rcases h.2 with ⟨e, _⟩ | ⟨g, cap, cur, e, hg, hh, hn, hm, hs, ht⟩
  · cases e
  · injection e with e1 e2 e3
    injection e1 with e1
    subst e1 e3
    refine ⟨rfl, hn, fun hl => ⟨g, 0, rfl, hg, (cells_known hh).2.2, fun k hk => ?_⟩⟩
    rw [(cells_known hh).1, Nat.zero_add]
    have h2 : (cur.toList.take (l.length * 1))[k]? = (byteVs l)[k]? := by rw [ht]
    rw [List.getElem?_take, if_pos (by omega), byteVs_get hk] at h2
    simpa using h2
/-- A part of it. -/
theorem bytesZ.part (h : bytesZ w Z v l) (i j : Nat) (hij : i ≤ j) (hj : j ≤ l.length) :
    bytesZ w Z ⟨if v.c = i then v.a else v.a.map (fun a => ⟨a.block, a.off + i, a.spot⟩), j - i, v.c - i⟩ ((l.drop i).take (j - i)) := by
  obtain ⟨h1, h2, h3⟩ := h
  refine ⟨by simp; omega, by simp only; omega, fun hne => ?_⟩
  have hlt : i < j := by
    rcases Nat.lt_or_ge i j with g | g
    · exact g
    · exact absurd (by rw [show j - i = 0 by omega]; rfl) hne
  obtain ⟨b, off, ha, hz, hb, hc⟩ := h3 (by intro e; rw [e] at hj; simp at hj; omega)
  refine ⟨b, off + i, by simp only; rw [if_neg (by omega), ha]; rfl, hz, hb, fun k hk => ?_⟩
  simp only [List.length_take, List.length_drop] at hk
  rw [Nat.add_assoc, hc (i + k) (by omega)]
  simp
end
/-! ### files at a zone: what comes behind is in the zone or new -/
section
variable {w : World} {Z : Nat → Prop} {p : Nat} {M : FsM}
def more (Z : Nat → Prop) (w : World) (k : Nat) : Prop := Z k ∨ w.heap.size ≤ k
theorem more_fr (Z : Nat → Prop) (w : World) : Fr (more Z w) w := fun k hk => .inr hk
theorem fsAt.more (h : fsAt w Z p M) : fsAt w (more Z w) p M := h.zone (fun k _ hz => .inl hz)
theorem more_upd {w' : World} (h : Zb (more Z w) w w') : Upd w w' Z := h.mono (fun k hk hz => hz.resolve_right (by omega))
theorem append_fsZ (s : Nm) (v : Sl) (m : List UInt8) (h : fsAt w Z p M) (hM : M.small) (hv : bytesAt w v m w.heap.size) (hvc : v.n ≤ v.c) (hml : m.length ≤ 1000000000) :
    Calls Try.prog 97 #[.pointer (some ⟨p, 0, none⟩), .string s.1, .slice v.a v.n v.c] w fun e w' => e = .returned (.int .i64 (appE M s m.length)) ∧ fsAt w' (more Z w) p (appM M s m) ∧ Upd w w' Z :=
  (append_file _ p M s v m w h.more hM (more_fr Z w) hv (src_ok hv) hvc hml).mono (fun e w' ⟨a, b, c⟩ => ⟨a, b, more_upd c⟩)
theorem sync_fsZ (s : Nm) (h : fsAt w Z p M) (hM : M.small) :
    Calls Try.prog 99 #[.pointer (some ⟨p, 0, none⟩), .string s.1] w fun e w' => e = .returned (.int .i64 (hasE M s [])) ∧ fsAt w' (more Z w) p (syncM M s) ∧ Upd w w' Z :=
  (sync_file _ p M s w h.more hM (more_fr Z w)).mono (fun e w' ⟨a, b, c⟩ => ⟨a, b, more_upd c⟩)
theorem rename_fsZ (s t : Nm) (h : fsAt w Z p M) (hM : M.small) :
    Calls Try.prog 106 #[.pointer (some ⟨p, 0, none⟩), .string s.1, .string t.1] w fun e w' => e = .returned (.int .i64 (hasE M s [t])) ∧ fsAt w' (more Z w) p (renameM M s t) ∧ Upd w w' Z :=
  (rename_file _ p M s t w h.more hM (more_fr Z w)).mono (fun e w' ⟨a, b, c⟩ => ⟨a, b, more_upd c⟩)
theorem remove_fsZ (s : Nm) (h : fsAt w Z p M) (hM : M.small) :
    Calls Try.prog 91 #[.pointer (some ⟨p, 0, none⟩), .string s.1] w fun e w' => e = .returned (.int .i64 (hasE M s [])) ∧ fsAt w' (more Z w) p (removeM M s) ∧ Upd w w' Z :=
  (remove_file _ p M s w h.more hM (more_fr Z w)).mono (fun e w' ⟨a, b, c⟩ => ⟨a, b, more_upd c⟩)
theorem truncate_fsZ (s : Nm) (n : Int) (h : fsAt w Z p M) (hM : M.small) :
    Calls Try.prog 94 #[.pointer (some ⟨p, 0, none⟩), .string s.1, .int .i64 n] w fun e w' => e = .returned (.int .i64 (truncE M s n)) ∧ fsAt w' (more Z w) p (truncM M s n) ∧ Upd w w' Z :=
  (truncate_file _ p M s n w h.more hM (more_fr Z w)).mono (fun e w' ⟨a, b, c⟩ => ⟨a, b, more_upd c⟩)
theorem cut_fsZ (n : Int) (h : fsAt w Z p M) :
    Calls Try.prog 48 #[.pointer (some ⟨p, 0, none⟩), .int .i64 n] w fun e w' => e = .returned (.tuple #[]) ∧ fsAt w' (more Z w) p (cutM M n) ∧ Upd w w' Z :=
  (cut_file _ p M n w h.more (more_fr Z w)).mono (fun e w' ⟨a, b, c⟩ => ⟨a, b, more_upd c⟩)
end
/-! ### bytes.Equal -/
theorem equal_bytes (u v : Sl) (a b : List UInt8) (B C : Nat) (w : World) (ha : bytesAt w u a B) (hb : bytesAt w v b C) :
    Calls Try.prog 141 #[.slice u.a u.n u.c, .slice v.a v.n v.c] w fun e w' => e = .returned (.bool (a == b)) ∧ w = w' := by
  have h1 := bytesAt_str ha
  have h2 := bytesAt_str hb
  go_enter Try.func141, Try.ntmps141
  go_wp2_with fail
  go_ret
  exact ⟨rfl, rfl⟩
end Go.Proofs.Ytkiindgcbpkddaa
