/- A log over its files, in memory: its deeds with the power on. Package coraclelaw8: what is awake. -/
import Derived.Test.YtkiindgcbpkddaaWalQ
import Derived.Test.YtkiindgcbpkddaaWalL
set_option linter.unusedSimpArgs false
set_option linter.unusedVariables false
namespace Go.Proofs.Ytkiindgcbpkddaa
open Go.RowKit
/-- What was there at the beginning has no owner. -/
def Fresh (own : Nat → Nat) (n : Nat) : Prop := ∀ k, k < n → own k = 0
section
variable {own own' : Nat → Nat} {n m i j : Nat} {w w' : World}
theorem Fresh.same (h : Fresh own n) (s : SameO own own' m) (hm : n ≤ m) : Fresh own' n := fun k hk => (s k (by omega)).trans (h k hk)
theorem Fresh.setO (h : Fresh own n) (hm : n ≤ m) (i : Nat) : Fresh (setO own m i) n := fun k hk => (setO_old (by omega)).trans (h k hk)
theorem Fresh.below (h : Fresh own n) (hu : Upd w w' (fun k => own k = i)) (hi : i ≠ 0) (hn : n ≤ w.heap.size) : Below n w w' :=
  hu.below hn (fun k hk => by
    rcases Nat.lt_or_ge k n with g | g
    · exact absurd ((h k g).symm.trans hk) (fun e => hi e.symm)
    · exact g)
theorem Fresh.below2 (h : Fresh own n) (hu : Upd w w' (fun k => own k = i ∨ own k = j)) (hi : i ≠ 0) (hj : j ≠ 0) (hn : n ≤ w.heap.size) : Below n w w' :=
  hu.below hn (fun k hk => by
    rcases Nat.lt_or_ge k n with g | g
    · have h0 := h k g
      rcases hk with e | e
      · exact absurd (h0.symm.trans e) (fun e => hi e.symm)
      · exact absurd (h0.symm.trans e) (fun e => hj e.symm)
    · exact g)
theorem fsAt.retag {p : Nat} {M : FsM} (h : fsAt w (zn own i) p M) {N : Nat} (hN : w.heap.size ≤ N) (m : Nat) : fsAt w (zn (Go.Proofs.Ytkiindgcbpkddaa.setO own N m) i) p M := h.zone (fun k hk hz => (setO_old (by omega)).trans hz)
/-- A log somewhere. -/
def OneLog (w : World) (own : Nat → Nat) (j q p : Nat) (L : LogM) : Prop := ∃ s vs, LogAt w (zn own j) q p s vs L
theorem OneLog.retag {q p : Nat} {L : LogM} (h : OneLog w own j q p L) {N : Nat} (hN : w.heap.size ≤ N) (m : Nat) : OneLog w (Go.Proofs.Ytkiindgcbpkddaa.setO own N m) j q p L := by
  obtain ⟨s, vs, h⟩ := h
  exact ⟨s, vs, h.zoned (fun k hk hz => (setO_old (by omega)).trans hz)⟩
theorem OneLog.keep {q p : Nat} {L : LogM} (h : OneLog w own j q p L) (hb : Below w.heap.size w w') : OneLog w' own j q p L := by
  obtain ⟨s, vs, h⟩ := h
  exact ⟨s, vs, h.keep hb⟩
/-- Another thing's deed. -/
theorem OneLog.upd {q p : Nat} {L : LogM} {S : Nat → Prop} (h : OneLog w own j q p L) (hs : SameO own own' w.heap.size) (hu : Upd w w' S) (hS : ∀ k, own k = j → ¬ S k) : OneLog w' own' j q p L := by
  obtain ⟨s, vs, h⟩ := h
  exact ⟨s, vs, ((h.zoned (Y := fun k => own k = j ∧ k < w.heap.size) (fun k hk hz => ⟨hz, hk⟩)).upd hu (fun k hz _ => hS k hz.1)).zoned (fun k _ hz => (hs k hz.2).trans hz.1)⟩
theorem fsAt.turn {p : Nat} {M : FsM} {S : Nat → Prop} (h : fsAt w (zn own i) p M) (hs : SameO own own' w.heap.size) (hu : Upd w w' S) (hS : ∀ k, own k = i → ¬ S k) : fsAt w' (zn own' i) p M :=
  ((h.zone (T := fun k => own k = i ∧ k < w.heap.size) (fun k hk hz => ⟨hz, hk⟩)).upd hu (fun k hz _ => hS k hz.1)).zone (fun k _ hz => (hs k hz.2).trans hz.1)
theorem bytesZ.turn {S V : Nat → Prop} {v : Sl} {l : List UInt8} (h : bytesZ w V v l) (hu : Upd w w' S) (hS : ∀ k, V k → ¬ S k) : bytesZ w' V v l := h.upd hu (fun k hz _ => hS k hz)
def LogM.put (L : LogM) (b : List UInt8) : LogM := { L with recs := L.recs ++ [b], size := L.size + (frameS b).length }
theorem frames_count (rs : List (List UInt8)) : 9 * rs.length ≤ (framesS rs).length := by
  induction rs with
  | nil => simp [framesS]
  | cons b rs ih =>
    have e : framesS (b :: rs) = frameS b ++ framesS rs := by simp [framesS]
    rw [e, List.length_append, frameS_length, List.length_cons]
    have := putS_pos b.length
    omega
variable {p q n : Nat} {M : FsM} {L : LogM}
theorem log_append {V : Nat → Prop} {v : Sl} {b : List UInt8} (hij : i ≠ j) (hF : fsAt w (zn own i) p M) (hP : Pow M n) (hL : OneLog w own j q p L) (hO : LogOk M L) (hn : n + 2 ≤ 1000000000) (hv : bytesZ w V v b) (hV : ∀ k, V k → own k ≠ i ∧ own k ≠ j)
    (hb : b.length ≤ 1048576) (hsz : (framesS (L.recs ++ [b])).length ≤ 16777216) :
    Calls Try.prog 43 #[.pointer (some ⟨q, 0, none⟩), .slice v.a v.n v.c] w fun e w' => e = .returned (.int .i64 0) ∧ ∃ own', SameO own own' w.heap.size ∧ fsAt w' (zn own' i) p (wapM M L b) ∧ OneLog w' own' j q p (L.put b) ∧ Upd w w' (fun k => own k = i ∨ own k = j) := by
  obtain ⟨s, vs, hL⟩ := hL
  obtain ⟨a1, a2, a3, a4, a5, a6⟩ := hO.append hP b hb hsz
  have hc := frames_count (L.recs ++ [b])
  have hfl : (framesS L.recs).length ≤ 16777216 := by rw [framesS_append, List.length_append] at hsz; omega
  refine (append_log v b V hij hF (hP.small (by omega)) (a3.small (by omega)) hL hO.live (by rw [hO.size]; omega) (by simp at hc; omega) hv hV (by unfold bigB; exact decide_eq_false (by omega))).mono ?_
  rintro e w' ⟨own', s', vs', rfl, b1, b2, b3, b4⟩
  refine ⟨by rw [a1], own', b1, b2, ⟨s', vs', ?_⟩, b4⟩
  rw [a2] at b3
  exact b3
theorem log_open (s : Nm) (h40 : s.1.size ≤ 40) (h1 : 1 ≤ s.1.size) (rs : List (List UInt8)) (hij : i ≠ j) (hF : fsAt w (zn own i) p M) (hP : Pow M n) (hn : n ≤ 1000000000) (hf : fileOf M s rs) (ht : M.files (tmpN s h40) = none) (hr : ∀ b ∈ rs, b.length ≤ 1048576) :
    Calls Try.prog 39 #[.pointer (some ⟨p, 0, none⟩), .string s.1] w fun e w' => ∃ q, e = .returned (.tuple #[.pointer (some ⟨q, 0, none⟩), .int .i64 0]) ∧ ∃ own', SameO own own' w.heap.size ∧ fsAt w' (zn own' i) p M ∧ OneLog w' own' j q p ⟨s, rs, (framesS rs).length, false⟩ ∧ Upd w w' (fun k => own k = i) := by
  obtain ⟨a1, a2, a3, a4⟩ := open_ok s h40 rs hf ht hr
  refine (open_wal s h40 h1 hij hF (hP.small hn) (by rw [a2]; exact hP.small hn)).mono ?_
  rintro e w' ⟨own', b1, b2, b3, b4⟩
  rw [a3] at b2
  rcases b4 with ⟨_, q, sl, vs, rfl, b5⟩ | ⟨b5, _⟩
  · rw [a4] at b5
    exact ⟨q, rfl, own', b1, b2, ⟨sl, vs, b5⟩, b3⟩
  · exact absurd a1 b5
theorem log_has {Y : Nat → Prop} (ws : Sl) (wvs : List Sl) (want : List (List UInt8)) (h : OneLog w own j q p L) (hO : ∀ b ∈ L.recs, b.length ≤ 1048576) (hsz : (framesS L.recs).length ≤ 16777216) (hw : listsZ w Y ws wvs want) :
    Calls Try.prog 42 #[.pointer (some ⟨q, 0, none⟩), .slice ws.a ws.n ws.c] w fun e w' => e = .returned (.bool (decide (L.recs = want))) ∧ Below w.heap.size w w' := by
  obtain ⟨s, vs, h⟩ := h
  have hc := frames_count L.recs
  have hr : L.recs.length ≤ 100000000 := by omega
  exact has_log ws wvs want h hr (fun b hb => by have := hO b hb; omega) hw
end
end Go.Proofs.Ytkiindgcbpkddaa
