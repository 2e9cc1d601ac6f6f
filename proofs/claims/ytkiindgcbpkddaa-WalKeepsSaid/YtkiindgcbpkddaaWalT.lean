/- Records that may be written: what WalKeeps does to what it was told. -/
import Derived.Test.YtkiindgcbpkddaaWalS
set_option linter.unusedSimpArgs false
set_option linter.unusedVariables false
namespace Go.Proofs.Ytkiindgcbpkddaa
open Go.RowKit
/-- Bytes in a block from B on that may be written. -/
def softW (w : World) (B : Nat) (x : Sl) : Prop := x.n ≠ 0 → ∃ g cur, x.a = some ⟨g, 0, none⟩ ∧ B ≤ g ∧ w.heap[g]? = some (.cells cur 5 (0, 0)) ∧ ∀ j, j < x.n → ∃ c : UInt8, cur[j]? = some (byteV c)
section
variable {w w' : World} {B : Nat} {x : Sl}
theorem softW.keep (h : softW w B x) (hb : Below w.heap.size w w') : softW w' B x := fun hn => by
  obtain ⟨g, cur, a, b, c, d⟩ := h hn
  exact ⟨g, cur, a, b, (hb.block g (cells_known c).2.2).trans c, d⟩
theorem softW.lower (h : softW w B x) {C : Nat} (hC : C ≤ B) : softW w C x := fun hn => by
  obtain ⟨g, cur, a, b, c, d⟩ := h hn
  exact ⟨g, cur, a, Nat.le_trans hC b, c, d⟩
theorem softW.other {S : Nat → Prop} (h : softW w B x) (hu : Upd w w' S) (hS : ∀ (g : Nat) (cur : Array Value), B ≤ g → w.heap[g]? = some (.cells cur 5 (0, 0)) → ¬ S g) : softW w' B x := fun hn => by
  obtain ⟨g, cur, a, b, c, d⟩ := h hn
  exact ⟨g, cur, a, b, (hu.block g (cells_known c).2.2 (hS g _ b c)).trans c, d⟩
theorem soft_own {l : List UInt8} {Bz : Nat} (h : ownB w (fun k => Bz ≤ k) x l) : softW w Bz x := fun hn => by
  obtain ⟨h1, h2, h3, h4⟩ := h
  obtain ⟨g, cur, ha, hg, hh, hsz, ht⟩ := h4 (by omega)
  refine ⟨g, cur, ha, hg, hh, fun j hj => ⟨l[j]'(by omega), ?_⟩⟩
  have : (cur.toList.take x.n)[j]? = (byteVs l)[j]? := by rw [ht]
  rw [List.getElem?_take, if_pos hj, byteVs_get (by omega)] at this
  simpa using this
/-- A byte written. -/
theorem softW.set {g j : Nat} {c : UInt8} {cur : Array Value} (h : softW w B x) (hg : w.heap[g]? = some (.cells cur 5 (0, 0))) : softW (w.setCell ⟨g, j, none⟩ (byteV c)) B x := fun hn => by
  obtain ⟨g', cur', a, b, hc, d⟩ := h hn
  by_cases e : g' = g
  · subst e
    rw [hg] at hc
    injection hc with hc
    injection hc with e1 e2 e3
    subst e1
    refine ⟨g', _, a, b, heap_set hg j _, fun i hi => ?_⟩
    obtain ⟨c', hc'⟩ := d i hi
    by_cases hij : j = i
    · subst hij
      have hlt : j < cur.size := (Array.getElem?_eq_some_iff.1 hc').1
      exact ⟨c, by simp [hlt]⟩
    · exact ⟨c', by rw [Array.getElem?_setIfInBounds_ne hij]; exact hc'⟩
  · exact ⟨g', cur', a, b, ((Upd.setCell w ⟨g, j, none⟩ _).block g' (cells_known hc).2.2 e).trans hc, d⟩
/-- Bytes of one's own copied: `append([]byte{}, l...)`. -/
theorem copy_run (v : Sl) (l : List UInt8) {B : Nat} (h : bytesAt w v l B) (hB : B ≤ w.heap.size) (hl : l.length ≤ 140737488355328) :
    ∃ (s : Sl) (w' : World), (∀ ty, (Builtin.append_ #[102, 102] ty #[.slice (some ⟨w.heap.size, 0, none⟩) 0 0, .slice v.a v.n v.c]).run Try.prog (w.alloc (.cells #[] 5)) = .ok (.slice s.a s.n s.c) w') ∧ ownB w' (fun k => w.heap.size ≤ k) s l ∧ Below w.heap.size w w' := by
  obtain ⟨i, hi, hz, hs, hb⟩ := info_u8
  have hbV : Below w.heap.size w (w.alloc (.cells #[] 5)) := (Below.refl _ _).alloc (Nat.le_refl _) _
  have h2 : bytesAt (w.alloc (.cells #[] 5)) v l B := h.below (hbV.mono hB)
  obtain ⟨s', w', hrun, ho, hu, hn, he⟩ := run_append_B (P := Try.prog) (w.alloc (.cells #[] 5)) (fun k => w.heap.size ≤ k) 102 102 102 i Try.underlying102 hi hz hs hb ⟨some ⟨w.heap.size, 0, none⟩, 0, 0⟩ [] ⟨rfl, Nat.le_refl _, by simp [maxLen], fun h => absurd rfl h⟩ (.slice v.a v.n v.c) l (h2.src (src_ok h2)) (fun k hk => Nat.le_trans hbV.size hk) (by simpa using hl)
  exact ⟨s', w', fun ty => hrun, by simpa using ho, hbV.trans (hu.below hbV.size (fun k e => by simp [Sl.own] at e))⟩
theorem RecsAt.block {Z : Nat → Prop} {s : Sl} {vs : List Sl} {rs : List (List UInt8)} (h : RecsAt w Z s vs rs) {k : Nat} (hk : s.v.ownBlock = some k) : ∃ cur, w.heap[k]? = some (.cells cur 102 (0, 0)) := by
  rcases h.own.2 with ⟨e, _⟩ | ⟨g, cap, cur, e, _, hh, _⟩
  · rw [e] at hk; cases hk
  · rw [e] at hk
    simp [Value.ownBlock] at hk
    subst hk
    exact ⟨cur, hh⟩
end
set_option maxRecDepth 100000 in
set_option maxHeartbeats 1000000 in
theorem own_soft (Z : Nat → Prop) (s : Sl) (vs : List Sl) (rs : List (List UInt8)) (w : World) (h : listsZ w Z s vs rs) (hr : rs.length ≤ 100000000) (hl : ∀ b ∈ rs, b.length ≤ 100000000) :
    Calls Try.prog 102 #[.slice s.a s.n s.c] w fun e w' => ∃ (s' : Sl) (vs' : List Sl), e = .returned (.slice s'.a s'.n s'.c) ∧ RecsAt w' (fun k => w.heap.size ≤ k) s' vs' rs ∧ Below w.heap.size w w' ∧ ∀ x ∈ vs', softW w' w.heap.size x := by
  obtain ⟨a, n, c⟩ := s
  have hn : n = rs.length := h.n
  subst hn
  have hlen := h.len
  go_enter Try.func102, Try.ntmps102
  go_wp2_with fail
  go_loopw [2, 7] (fun v2 v7 wr => ∃ (k : Nat) (s' : Sl) (vs' : List Sl), k ≤ rs.length ∧ v7 = .int .i64 k ∧ v2 = .slice s'.a s'.n s'.c ∧ RecsAt wr (fun j => w.heap.size ≤ j) s' vs' (rs.take k) ∧ Below w.heap.size w wr ∧ ∀ x ∈ vs', softW wr w.heap.size x) (fun _ v _ => rs.length - (intOf v).toNat)
  case atStart => exact ⟨0, ⟨none, 0, 0⟩, [], Nat.zero_le _, rfl, rfl, RecsAt_nil _ _, Below.refl _ _, fun x hx => by simp at hx⟩
  case round =>
    obtain ⟨k, s', vs', hk, rfl, rfl, hR, hb, hsf⟩ := hrel
    by_cases hlt : k < rs.length
    · obtain ⟨b, off, ha, hz, hbl, hc⟩ := h.cells (by intro e; rw [e] at hlt; simp at hlt)
      simp only at ha
      subst ha
      have hc1 := (hb.cell (p := ⟨b, off + k, none⟩) hbl).trans (hc k (by omega))
      have he := (h.el k hlt (by omega)).keep hb
      obtain ⟨v, hv⟩ : ∃ v, v = vs[k]'(by omega) := ⟨_, rfl⟩
      rw [← hv] at hc1 he
      have hcl := clone_bytes v rs[k] wr.heap.size wr he.at (by have := hl _ (List.getElem_mem hlt); omega)
      have dlt : decide ((k : Int) < (rs.length : Int)) = true := decide_eq_true (by omega)
      have HRC := Lib.hid hR
      have HSF := Lib.hid hsf
      clear hv hc hR hsf
      go_wp2_with fail
      refine hcl.mono ?_
      rintro e w2 ⟨x, rfl, hx, hb2⟩
      have hbw2 := hb.trans (hb2.mono hb.size)
      have hbW : Below w2.heap.size w2 (w2.alloc (.cells #[.slice x.a x.n x.c] 102)) := (Below.refl _ _).alloc (Nat.le_refl _) _
      have hRW := (HRC.out.keep hb2).keep hbW
      have hxW := hx.z.keep hbW
      obtain ⟨s2, w3, hrun, ho3, hn3, hu3, hnw3⟩ := own_sl1 (c := 1) hRW.own (heap_alloc_new w2 _) (Nat.zero_le _) (by rw [List.length_take]; omega)
      have hR3 := hRW.push hxW (fun j hj e => by have := (HRC.out.own.lt j e).2; have := hb2.size; omega) ho3 hn3 hu3 hnw3
      have hb3 : Below w.heap.size w w3 := (hbw2.trans (hbW.mono hbw2.size)).trans (hu3.below (by simp; exact Nat.le_trans hbw2.size (Nat.le_succ _)) (fun j hj => HRC.out.zone j hj))
      have hR4 : RecsAt w3 (fun j => w.heap.size ≤ j) s2 (vs' ++ [x]) (rs.take (k + 1)) := by
        rw [List.take_succ_eq_append_getElem hlt]
        refine hR3.zoned (fun j hj hz => ?_)
        rcases hz with hz | hz | hz
        · exact hz
        · exact Nat.le_trans hb.size hz
        · rw [hz]; exact Nat.le_trans hbw2.size (by simp)
      have hsf2 : ∀ y ∈ vs' ++ [x], softW w3 w.heap.size y := by
        intro y hy
        have hW : softW (w2.alloc (.cells #[.slice x.a x.n x.c] 102)) w.heap.size y := by
          rcases List.mem_append.1 hy with hy | hy
          · exact ((HSF.out y hy).keep hb2).keep hbW
          · rw [List.mem_singleton.1 hy]
            exact ((soft_own hx).keep hbW).lower hb.size
        exact hW.other hu3 (fun g _ _ hg e => by
          obtain ⟨o, ho⟩ := hRW.block e
          rw [ho] at hg
          cases hg)
      have HSF2 := Lib.hid hsf2
      have hrun2 := hrun 95
      have HR := Lib.hid hrun2
      have HR4 := Lib.hid hR4
      clear hcl hx hb2 hbw2 hbW hRW hxW hrun ho3 hn3 hu3 hnw3 hR3 hrun2 hR4 HRC hsf2 HSF
      go_wp2_with (refine Lib.wpList_append_run _ rfl _ _ _ _ rfl _ _ rfl rfl _ _ HR.out ?_)
      go_roundw
      case rel => exact ⟨k + 1, s2, vs' ++ [x], by omega, by go_num, rfl, HR4.out, hb3, HSF2.out⟩
      case measure => simp [intOf]; omega
    · have hkN : k = rs.length := by omega
      subst hkN
      rw [List.take_length] at hR
      go_wp2_with fail
      go_ret
      exact ⟨s', vs', rfl, hR, hb, hsf⟩
theorem records_soft {w : World} {Z : Nat → Prop} {q p : Nat} {s : Sl} {vs : List Sl} {L : LogM} (h : LogAt w Z q p s vs L) (hr : L.recs.length ≤ 100000000) (hl : ∀ b ∈ L.recs, b.length ≤ 100000000) : Calls Try.prog 44 #[.pointer (some ⟨q, 0, none⟩)] w fun e w' => ∃ (s' : Sl) (vs' : List Sl), e = .returned (.slice s'.a s'.n s'.c) ∧ RecsAt w' (fun k => w.heap.size ≤ k) s' vs' L.recs ∧ Below w.heap.size w w' ∧ ∀ x ∈ vs', softW w' w.heap.size x := by
  have hn := none_log h
  have c2 := h.cell.2.2.1
  have ho := own_soft _ s vs L.recs w h.recs.lists hr hl
  clear h
  go_enter Try.func44, Try.ntmps44
  go_wp2_with (first | (go_at_call 101; refine hn.mono ?_; rintro e w1 ⟨rfl, rfl⟩) | (go_at_call 102; refine ho.mono ?_; rintro e w2 ⟨s', vs', rfl, a1, a2, a3⟩))
  go_ret
  exact ⟨s', vs', rfl, a1, a2, a3⟩
end Go.Proofs.Ytkiindgcbpkddaa
