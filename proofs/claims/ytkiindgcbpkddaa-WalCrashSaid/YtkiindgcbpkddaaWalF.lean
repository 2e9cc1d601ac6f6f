/- Records in memory of their own; the records that bytes begin with. -/
import Derived.Test.YtkiindgcbpkddaaWalE
set_option linter.unusedSimpArgs false
set_option linter.unusedVariables false
namespace Go.Proofs.Ytkiindgcbpkddaa
open Go.RowKit
set_option maxRecDepth 100000 in
set_option maxHeartbeats 1000000 in
theorem own_wal (Z : Nat → Prop) (s : Sl) (vs : List Sl) (rs : List (List UInt8)) (w : World) (h : listsZ w Z s vs rs) (hr : rs.length ≤ 100000000) (hl : ∀ b ∈ rs, b.length ≤ 100000000) :
    Calls Try.prog 102 #[.slice s.a s.n s.c] w fun e w' => ∃ (s' : Sl) (vs' : List Sl), e = .returned (.slice s'.a s'.n s'.c) ∧ RecsAt w' (fun k => w.heap.size ≤ k) s' vs' rs ∧ Below w.heap.size w w' := by
  obtain ⟨a, n, c⟩ := s
  have hn : n = rs.length := h.n
  subst hn
  have hlen := h.len
  go_enter Try.func102, Try.ntmps102
  go_wp2_with fail
  go_loopw [2, 7] (fun v2 v7 wr => ∃ (k : Nat) (s' : Sl) (vs' : List Sl), k ≤ rs.length ∧ v7 = .int .i64 k ∧ v2 = .slice s'.a s'.n s'.c ∧ RecsAt wr (fun j => w.heap.size ≤ j) s' vs' (rs.take k) ∧ Below w.heap.size w wr) (fun _ v _ => rs.length - (intOf v).toNat)
  case atStart => exact ⟨0, ⟨none, 0, 0⟩, [], Nat.zero_le _, rfl, rfl, RecsAt_nil _ _, Below.refl _ _⟩
  case round =>
    obtain ⟨k, s', vs', hk, rfl, rfl, hR, hb⟩ := hrel
    by_cases hlt : k < rs.length
    · obtain ⟨b, off, ha, hz, hbl, hc⟩ := h.cells (by intro e; rw [e] at hlt; simp at hlt)
      simp only at ha
      subst ha
      have hc1 := (hb.cell (p := ⟨b, off + k, none⟩) hbl).trans (hc k (by omega))
      have he := (h.el k hlt (by omega)).keep hb
      obtain ⟨v, hv⟩ : ∃ v, v = vs[k]'(by omega) := ⟨_, rfl⟩
      rw [← hv] at hc1 he
      have hcl := clone_bytes v rs[k] wr.heap.size wr he.at (by have := hl _ (List.getElem_mem hlt); omega)
      have dlt : decide ((k : Int) < (rs.length : Int)) = true := decide_eq_true (by omega)
      have HRC := Lib.hid hR
      clear hv hc hR
      go_wp2_with fail
      refine hcl.mono ?_
      rintro e w2 ⟨x, rfl, hx, hb2⟩
      have hbw2 := hb.trans (hb2.mono hb.size)
      have hbW : Below w2.heap.size w2 (w2.alloc (.cells #[.slice x.a x.n x.c] 102)) := (Below.refl _ _).alloc (Nat.le_refl _) _
      have hRW := (HRC.out.keep hb2).keep hbW
      have hxW := hx.z.keep hbW
      obtain ⟨s2, w3, hrun, ho3, hn3, hu3, hnw3⟩ := own_sl1 (c := 1) hRW.own (heap_alloc_new w2 _) (Nat.zero_le _) (by rw [List.length_take]; omega)
      have hR3 := hRW.push hxW (fun j hj e => by have := (HRC.out.own.lt j e).2; have := hb2.size; omega) ho3 hn3 hu3 hnw3
      have hb3 : Below w.heap.size w w3 := (hbw2.trans (hbW.mono hbw2.size)).trans (hu3.below (by simp; exact Nat.le_trans hbw2.size (Nat.le_succ _)) (fun j hj => HRC.out.zone j hj))
      have hR4 : RecsAt w3 (fun j => w.heap.size ≤ j) s2 (vs' ++ [x]) (rs.take (k + 1)) := by
        rw [List.take_succ_eq_append_getElem hlt]
        refine hR3.zoned (fun j hj hz => ?_)
        rcases hz with hz | hz | hz
        · exact hz
        · exact Nat.le_trans hb.size hz
        · rw [hz]; exact Nat.le_trans hbw2.size (by simp)
      have hrun2 := hrun 95
      have HR := Lib.hid hrun2
      have HR4 := Lib.hid hR4
      clear hcl hx hb2 hbw2 hbW hRW hxW hrun ho3 hn3 hu3 hnw3 hR3 hrun2 hR4 HRC
      go_wp2_with (refine Lib.wpList_append_run _ rfl _ _ _ _ rfl _ _ rfl rfl _ _ HR.out ?_)
      go_roundw
      case rel => exact ⟨k + 1, s2, vs' ++ [x], by omega, by go_num, rfl, HR4.out, hb3⟩
      case measure => simp [intOf]; omega
    · have hkN : k = rs.length := by omega
      subst hkN
      rw [List.take_length] at hR
      go_wp2_with fail
      go_ret
      exact ⟨s', vs', rfl, hR, hb⟩
end Go.Proofs.Ytkiindgcbpkddaa
