/- Contracts of package coraclealike: strings compared. -/
import Derived.Test.YtaopiefbejajkaaFileK
import Derived.Test.YtaopiefbejajkaaFileL
set_option linter.unusedSimpArgs false
set_option linter.unusedVariables false
namespace Go.Proofs.Ytaopiefbejajkaa
open Go.RowKit Go.Sort
def strsAt (w : World) (v : Sl) (l : List Nm) : Prop := v.n = l.length ∧ (l ≠ [] → ∃ b off, v.a = some ⟨b, off, none⟩ ∧ ∀ k (h : k < l.length), w.cell? ⟨b, off + k, none⟩ = some (nmV l[k]))
theorem cell_lt {w : World} {b o : Nat} {x : Value} (h : w.cell? ⟨b, o, none⟩ = some x) : b < w.heap.size := by
  rcases Nat.lt_or_ge b w.heap.size with g | g
  · exact g
  · simp [World.cell?, Array.getElem?_eq_none g] at h
theorem strsAt.below {w w' : World} {v : Sl} {l : List Nm} (h : strsAt w v l) (hb : Below w.heap.size w w') : strsAt w' v l := by
  refine ⟨h.1, fun hl => ?_⟩
  obtain ⟨b, off, e, hh⟩ := h.2 hl
  exact ⟨b, off, e, fun k hk => (hb.cell (p := ⟨b, off + k, none⟩) (cell_lt (hh k hk))).trans (hh k hk)⟩
theorem strsAt.at {w : World} {v : Sl} {l : List Nm} (h : strsAt w v l) {k : Nat} (hk : k < l.length) : ∃ b off, v.a = some ⟨b, off, none⟩ ∧ w.cell? ⟨b, off + k, none⟩ = some (.string l[k].1) := by
  obtain ⟨b, off, e, hh⟩ := h.2 (by intro e; rw [e] at hk; simp at hk)
  exact ⟨b, off, e, hh k hk⟩
set_option maxRecDepth 100000 in
set_option maxHeartbeats 1000000 in
theorem strings_al (u v : Sl) (l m : List Nm) (w : World) (hu : strsAt w u l) (hv : strsAt w v m) (hl : l.length ≤ 1000000000) (hm : m.length ≤ 1000000000) :
    Calls Try.prog 55 #[.slice u.a u.n u.c, .slice v.a v.n v.c] w fun e w' => e = .returned (.bool (decide (l = m))) ∧ Below w.heap.size w w' := by
  obtain ⟨ua, un, uc⟩ := u
  obtain ⟨va, vn, vc⟩ := v
  have h1 : un = l.length := hu.1
  have h2 : vn = m.length := hv.1
  subst h1 h2
  by_cases hn : l.length = m.length
  · have d1 : (decide ((l.length : Int) = (m.length : Int))) = true := decide_eq_true (by omega)
    have hne : Hid (m.length = l.length) := hn.symm
    rw [show (m.length) = l.length from hn.symm]
    go_enter Try.func55, Try.ntmps55
    go_wp2_with fail
    have HU := Lib.hid hu
    have HV := Lib.hid hv
    clear hu hv d1
    go_loopw [5] (fun v5 wr => ∃ k : Nat, k ≤ l.length ∧ v5 = .int .i64 k ∧ Below w.heap.size w wr ∧ Hid (l.take k = m.take k)) (fun v5 _ => l.length - (intOf v5).toNat)
    case atStart => exact ⟨0, Nat.zero_le _, rfl, Below.refl _ _, by unfold Hid; simp⟩
    case round =>
      obtain ⟨k, hk, rfl, hb, htk⟩ := hrel
      by_cases hlt : k < l.length
      · have hlm : k < m.length := by omega
        obtain ⟨b1, o1, e1, cU⟩ := (HU.out.below hb).at hlt
        obtain ⟨b2, o2, e2, cV⟩ := (HV.out.below hb).at hlm
        simp only at e1 e2
        subst e1 e2
        have dlt : decide ((k : Int) < (l.length : Int)) = true := decide_eq_true (by omega)
        obtain ⟨x, hx⟩ : ∃ x, x = l[k].1 := ⟨_, rfl⟩
        obtain ⟨y, hy⟩ : ∃ y, y = m[k].1 := ⟨_, rfl⟩
        rw [← hx] at cU
        rw [← hy] at cV
        have HXY := Lib.hid (And.intro hx hy)
        clear hx hy
        have HN := Lib.hid hn
        clear hn
        by_cases hxy : x = y
        · have t1 : (x.toList == y.toList) = true := by rw [hxy]; exact beq_self_eq_true _
          have HE := Lib.hid hxy
          clear hxy
          go_wp2_with fail
          go_quiet (fail)
          go_wp2_with fail
          refine ⟨⟨k + 1, by omega, by go_num, hb.trans (below_drewN ((Below.refl _ wr).mono hb.size) nq), ?_⟩, by simp [intOf]; omega⟩
          unfold Hid
          rw [List.take_succ_eq_append_getElem hlt, List.take_succ_eq_append_getElem hlm, htk.out, show l[k] = m[k] from Subtype.ext (by rw [← HXY.out.1, ← HXY.out.2]; exact HE.out)]
        · have t1 : (x.toList == y.toList) = false := by
            rw [beq_eq_false_iff_ne]
            intro e
            rw [ByteArray.toList_eq, ByteArray.toList_eq] at e
            exact hxy (ByteArray.ext (Array.ext' e))
          have HE := Lib.hid hxy
          clear hxy
          go_wp2_with fail
          go_quiet (fail)
          go_wp2_with fail
          go_ret
          refine ⟨?_, hb.trans (below_drewN ((Below.refl _ wr).mono hb.size) nq)⟩
          have hne : l ≠ m := by
            intro e
            subst e
            exact HE.out (by rw [HXY.out.1, HXY.out.2])
          rw [decide_eq_false hne]
          rfl
      · have hke : k = l.length := by omega
        subst hke
        have dlt : decide ((l.length : Int) < (l.length : Int)) = false := decide_eq_false (by omega)
        have hlm : l = m := by
          have := htk.out
          rw [List.take_length, hn, List.take_length] at this
          exact this
        have HL := Lib.hid hlm
        have HN := Lib.hid hn
        clear hn hlm htk hne
        go_wp2_with fail
        go_ret
        refine ⟨?_, hb⟩
        rw [decide_eq_true HL.out]
        rfl
  · have hT : Hid (decide (l = m) = false) := decide_eq_false (fun e => hn (by rw [e]))
    have d1 : ((l.length : Int) == (m.length : Int)) = false := by rw [beq_eq_false_iff_ne]; omega
    have d2 : ((l.length : Int) != (m.length : Int)) = true := by rw [bne_iff_ne]; omega
    clear hn
    go_enter Try.func55, Try.ntmps55
    go_wp2_with fail
    go_ret
    exact ⟨by rw [hT.out]; rfl, Below.refl _ _⟩
end Go.Proofs.Ytaopiefbejajkaa
