/- Package coraclelaw7: few deeds. The law FileCuts: its files, in plain words. The law FileCuts: the walk. -/
import Derived.Test.YtaopiefbejajkaaFileK
import Derived.Test.YtaopiefbejajkaaOpenD
import Derived.Deep.DeepCutAuto
import Derived.Deep.CutBlock
import Derived.Test.YtaopiefbejajkaaFileO
import Derived.Test.YtaopiefbejajkaaFileM
set_option linter.unusedSimpArgs false
set_option linter.unusedVariables false
namespace Go.Proofs.Ytaopiefbejajkaa
open Go.RowKit Go.Sort
def fewOk (l : List Deed) : Prop := l.length ≤ 60 ∧ ∀ x ∈ l, x.b.size ≤ 200
def FewR (l : List Deed) (e : Ending) : Prop := ∃ r, e = .returned (.bool r) ∧ (r = true → fewOk l)
set_option maxRecDepth 100000 in
set_option maxHeartbeats 2000000 in
theorem few_law7 (s : Sl) (l : List Deed) (w : World) (h : structsAt Deed.arr 4 w s l) :
    Calls Try.prog 50 #[.slice s.a s.n s.c] w fun e w' => FewR l e ∧ w = w' := by
  obtain ⟨a, n, c⟩ := s
  obtain ⟨h1, h2, h3, h4⟩ := h
  simp only at h1 h2 h3 h4
  subst h1
  have H4 := Lib.hid h4
  have hlm : (l.length : Int) ≤ 9223372036854775807 := by unfold maxLen at h3; omega
  clear h4 h2 h3
  go_enter Try.func50, Try.ntmps50
  go_wp2_with fail
  go_loopw [3, 4] (fun v3 v4 wr => ∃ (k : Nat) (m : Int), k ≤ l.length ∧ k ≤ 100 ∧ v4 = .int .i64 k ∧ v3 = .int .i64 m ∧ 0 ≤ m ∧ m ≤ 200 * (k : Int) ∧ wr = w ∧ Hid (∀ j (h : j < l.length), j < k → l[j].b.size ≤ 200)) (fun _ v4 _ => 100 - (intOf v4).toNat)
  case atStart => exact ⟨0, 0, by omega, by omega, rfl, rfl, by omega, by omega, rfl, fun j _ h => absurd h (by omega)⟩
  case round =>
    obtain ⟨k, m, hk, hk2, rfl, rfl, hm0, hm1, rfl, hok⟩ := hrel
    by_cases hlt : k < l.length
    · have dlt : decide (k < l.length) = true := decide_eq_true (by omega)
      by_cases hlt2 : k < 100
      · have dlt2 : decide ((k : Int) < 100) = true := decide_eq_true (by omega)
        obtain ⟨b, off, e, hb, hrow⟩ := H4.out (by intro e; rw [e] at hlt; simp at hlt)
        subst e
        have hr := hrow k hlt
        obtain ⟨d, hd⟩ : ∃ d, d = l[k] := ⟨_, rfl⟩
        rw [← hd] at hr
        have c1 : wr.cell? ⟨b, off + k * 4 + 1, none⟩ = some (.string d.a) := by have := row?_cellAt hr 1 (by omega); rw [Deed.arr_1] at this; exact this
        have c2 : wr.cell? ⟨b, off + k * 4 + 2, none⟩ = some (.string d.b) := by have := row?_cellAt hr 2 (by omega); rw [Deed.arr_2] at this; exact this
        have HD := Lib.hid hd
        have k0 : (0 : Int) ≤ (k : Int) := by omega
        have k1 : (k : Int) < (l.length : Int) := by omega
        clear hrow hr hd
        by_cases ha : 200 < d.a.size
        · have t1 : decide (200 < (d.a.size : Int)) = true := decide_eq_true (by omega)
          clear ha
          go_wp2_with fail
          go_ret
          exact ⟨⟨false, rfl, fun h => by cases h⟩, rfl⟩
        · have t1 : decide (200 < (d.a.size : Int)) = false := decide_eq_false (by omega)
          by_cases hbb : 200 < d.b.size
          · have t2 : decide (200 < (d.b.size : Int)) = true := decide_eq_true (by omega)
            clear ha hbb
            go_wp2_with fail
            go_ret
            exact ⟨⟨false, rfl, fun h => by cases h⟩, rfl⟩
          · have t2 : decide (200 < (d.b.size : Int)) = false := decide_eq_false (by omega)
            have hbs : (d.b.size : Int) ≤ 200 := by omega
            clear ha hbb
            go_wp2_with fail
            refine ⟨⟨k + 1, m + d.b.size, by omega, by omega, by go_num, by go_num, by omega, by omega, trivial, fun j hj hjk => ?_⟩, by simp [intOf]; omega⟩
            by_cases e : j = k
            · subst e; rw [← HD.out]; omega
            · exact hok.out j hj (by omega)
      · have dlt2 : decide ((k : Int) < 100) = false := decide_eq_false (by omega)
        have d60 : decide ((l.length : Int) ≤ 60) = false := decide_eq_false (by omega)
        clear hlt hlt2
        go_wp2_with fail
        go_ret
        exact ⟨⟨false, rfl, fun h => by cases h⟩, rfl⟩
    · have dlt : decide (k < l.length) = false := decide_eq_false (by omega)
      have hke : k = l.length := by omega
      clear hlt
      by_cases h60 : l.length ≤ 60
      · have d60 : decide ((l.length : Int) ≤ 60) = true := decide_eq_true (by omega)
        have hok2 : Hid (fewOk l) := ⟨h60, fun x hx => by
          obtain ⟨j, hj, rfl⟩ := List.mem_iff_getElem.1 hx
          exact hok.out j hj (by omega)⟩
        clear h60 hke
        go_wp2_with fail
        go_ret
        exact ⟨⟨_, rfl, fun _ => hok2.out⟩, rfl⟩
      · have d60 : decide ((l.length : Int) ≤ 60) = false := decide_eq_false (by omega)
        clear h60 hke
        go_wp2_with fail
        go_ret
        all_goals exact ⟨⟨false, rfl, fun h => by cases h⟩, rfl⟩
end Go.Proofs.Ytaopiefbejajkaa
namespace Go.Proofs.Ytaopiefbejajkaa
open Go.RowKit
/-- The power goes behind n acts; k were asked for. -/
structure Cutd (M : FsM) (n : Int) (k : Nat) : Prop where
  pos : 0 ≤ n
  cut : M.cut = true
  off : M.off = decide (n < k)
  left : M.left = if n < k then 0 else n - k
  ops : M.ops = 2 + (k : Int)
  few : M.n ≤ 2 + k
section
variable {M : FsM} {n : Int} {k : Nat}
theorem Cutd.dark (h : Cutd M n k) : M.dark = decide (n < (k : Int) + 1) := by
  unfold FsM.dark
  rw [h.off, h.cut, h.left]
  by_cases h1 : n < k
  · rw [decide_eq_true h1, decide_eq_true (show n < (k : Int) + 1 by omega)]; rfl
  · rw [decide_eq_false h1, if_neg h1]
    by_cases h2 : n = k
    · rw [decide_eq_true (show n < (k : Int) + 1 by omega)]; simp; omega
    · rw [decide_eq_false (show ¬ n < (k : Int) + 1 by omega)]; simp; omega
theorem Cutd.asked (h : Cutd M n k) : Cutd M.asked n (k + 1) := by
  have hd := h.dark
  refine ⟨h.pos, h.cut, ?_, ?_, ?_, Nat.le_succ_of_le h.few⟩
  · show M.dark = _
    rw [hd]; simp
  · show (if M.dark then M.left else M.left - 1) = _
    rw [hd, h.left]
    by_cases h1 : n < (k : Int) + 1
    · rw [decide_eq_true h1, if_pos rfl]
      by_cases h2 : n < k
      · rw [if_pos h2, if_pos (by simp; omega)]
      · rw [if_neg h2, if_pos (by simp; omega)]; omega
    · rw [decide_eq_false h1, if_neg (by simp), if_neg (by omega), if_neg (by simp; omega)]; simp; omega
  · show M.ops + 1 = _
    rw [h.ops]; simp; omega
theorem Cutd.small (h : Cutd M n k) (hn : n ≤ 1000) (hk : k ≤ 1000) : M.small := by
  have h1 := h.left; have h2 := h.ops; have h3 := h.few; have h4 := h.pos
  unfold FsM.small
  split at h1 <;> omega
theorem Cutd.askE (h : Cutd M n k) (ns : List Nm) : askE M ns = if n < (k : Int) + 1 then 7 else if ns.all okNm then 0 else 1 := by
  unfold Go.Proofs.Ytaopiefbejajkaa.askE
  rw [h.dark]
  simp
theorem Cutd.append (h : Cutd M n k) (s : Nm) (l : List UInt8) : (appE M s l.length = 7 ↔ n < (k : Int) + 1) ∧ Cutd (appM M s l) n (k + 1) := by
  have ha := h.askE [s]
  have hc := h.asked
  constructor
  · unfold appE
    rw [ha]
    by_cases h1 : n < (k : Int) + 1
    · simp [h1]
    · simp only [h1, if_false, iff_false]
      (repeat' split) <;> omega
  · unfold appM
    split
    · exact ⟨hc.pos, hc.cut, hc.off, hc.left, hc.ops, Nat.succ_le_succ h.few⟩
    · exact hc
theorem Cutd.sync (h : Cutd M n k) (s : Nm) : (Go.Proofs.Ytaopiefbejajkaa.hasE M s [] = 7 ↔ n < (k : Int) + 1) ∧ Cutd (syncM M s) n (k + 1) := by
  have ha := h.askE [s]
  have hc := h.asked
  constructor
  · unfold Go.Proofs.Ytaopiefbejajkaa.hasE
    rw [ha]
    by_cases h1 : n < (k : Int) + 1
    · simp [h1]
    · simp only [h1, if_false, iff_false]
      (repeat' split) <;> omega
  · unfold syncM
    split
    · exact ⟨hc.pos, hc.cut, hc.off, hc.left, hc.ops, hc.few⟩
    · exact hc
end
def nK : Nm := ⟨⟨#[107, 101, 101, 112]⟩, by decide⟩
def kept4 : List UInt8 := [107, 101, 112, 116]
def keepOk (M : FsM) : Prop := ∃ x, M.files nK = some x ∧ x.1.take 4 = kept4 ∧ 4 ≤ x.2 ∧ x.2 ≤ x.1.length
theorem keepOk.append {M : FsM} (h : keepOk M) (s : Nm) (l : List UInt8) : keepOk (appM M s l) := by
  obtain ⟨x, hx, h4, h5, h6⟩ := h
  unfold appM
  split
  · show ∃ y, (if nK = s then some ((oldF M s).1 ++ l, (oldF M s).2) else M.files nK) = some y ∧ _
    by_cases hs : nK = s
    · subst hs
      rw [if_pos rfl]
      have ho : oldF M nK = x := by unfold oldF; rw [hx]; rfl
      rw [ho]
      refine ⟨_, rfl, ?_, h5, by simp; omega⟩
      show (x.1 ++ l).take 4 = kept4
      rw [List.take_append_of_le_length (by omega), h4]
    · rw [if_neg hs]
      exact ⟨x, hx, h4, h5, h6⟩
  · exact ⟨x, hx, h4, h5, h6⟩
theorem keepOk.sync {M : FsM} (h : keepOk M) (s : Nm) : keepOk (syncM M s) := by
  obtain ⟨x, hx, h4, h5, h6⟩ := h
  unfold syncM
  split
  · show ∃ y, (if nK = s then (M.files s).map (fun x => (x.1, x.1.length)) else M.files nK) = some y ∧ _
    by_cases hs : nK = s
    · subst hs
      rw [if_pos rfl, hx]
      exact ⟨_, rfl, h4, by show 4 ≤ x.1.length; omega, Nat.le_refl _⟩
    · rw [if_neg hs]
      exact ⟨x, hx, h4, h5, h6⟩
  · exact ⟨x, hx, h4, h5, h6⟩
def cu1 : FsM := appM fs0 nK kept4
def cu2 : FsM := syncM cu1 nK
theorem cu_e1 : appE fs0 nK 4 = 0 := by decide
theorem cu_e2 : hasE cu1 nK [] = 0 := by decide
theorem cu_s1 : cu1.small := by unfold FsM.small; decide
theorem cu_s2 : cu2.small := by unfold FsM.small; decide
theorem cu_start (n : Int) (hn : 0 ≤ n) : Cutd (cutM cu2 n) n 0 ∧ keepOk (cutM cu2 n) := by
  refine ⟨⟨hn, rfl, ?_, ?_, by show cu2.ops = 2; decide, by show cu2.n ≤ 2; decide⟩, ⟨(kept4, 4), by show cu2.files nK = _; decide, rfl, by decide, by decide⟩⟩
  · show cu2.off = _
    rw [decide_eq_false (by simp; omega)]; decide
  · show max n 0 = _
    rw [if_neg (by simp; omega)]; simp; omega
/-- Behind a crash without picks: what was safe. -/
theorem crash_none (files : Nm → Option (List UInt8 × Nat)) (s : Nm) : ∀ (ns : List Nm) (a : (Nm → Option (List UInt8 × Nat)) × List Int), a.2 = [] → ((ns.foldl (crashStep files) a).1 s = a.1 s ∨ (ns.foldl (crashStep files) a).1 s = some ((((files s).getD ([], 0)).1.take ((files s).getD ([], 0)).2), ((files s).getD ([], 0)).2)) ∧ (s ∈ ns → (ns.foldl (crashStep files) a).1 s = some ((((files s).getD ([], 0)).1.take ((files s).getD ([], 0)).2), ((files s).getD ([], 0)).2)) := by
  intro ns
  induction ns with
  | nil => intro a _; exact ⟨.inl rfl, fun h => absurd h (by simp)⟩
  | cons t ns ih =>
    intro a ha
    have hstep : crashStep files a t = (fun u => if u = t then some ((((files t).getD ([], 0)).1.take ((files t).getD ([], 0)).2), ((files t).getD ([], 0)).2) else a.1 u, []) := by
      unfold crashStep
      rw [ha]
      rfl
    have hi := ih (crashStep files a t) (by rw [hstep])
    rw [List.foldl_cons]
    by_cases hs : s = t
    · subst hs
      have h1 : (crashStep files a s).1 s = some ((((files s).getD ([], 0)).1.take ((files s).getD ([], 0)).2), ((files s).getD ([], 0)).2) := by rw [hstep]; exact if_pos rfl
      rw [h1] at hi
      have h2 := hi.1.elim id id
      exact ⟨.inr h2, fun _ => h2⟩
    · have h1 : (crashStep files a t).1 s = a.1 s := by rw [hstep]; exact if_neg hs
      rw [h1] at hi
      exact ⟨hi.1, fun hm => hi.2 ((List.mem_cons.1 hm).resolve_left hs)⟩
end Go.Proofs.Ytaopiefbejajkaa
namespace Go.Proofs.Ytaopiefbejajkaa
open Go.RowKit Go.Sort
def nN : Nm := ⟨⟨#[110, 101, 119]⟩, by decide⟩
theorem fsAt.sizes {w : World} {S : Nat → Prop} {p : Nat} {M : FsM} (h : fsAt w S p M) : ∀ t x, M.files t = some x → x.1.length ≤ 16777216 := by
  obtain ⟨mb, F, h⟩ := h
  intro t x hx
  rw [h.files] at hx
  cases hF : F t with
  | none => rw [hF] at hx; cases hx
  | some r =>
    rw [hF] at hx
    cases hx
    exact (h.file t r hF).size
set_option maxRecDepth 100000 in
set_option maxHeartbeats 4000000 in
theorem cuts_any (n : Int) (hn : i64 n) (s : Sl) (l : List Deed) (w : World) (h : structsAt Deed.arr 4 w s l) (hwf : ∀ x ∈ l, x.wf) :
    Calls Try.prog 11 #[.int .i64 n, .slice s.a s.n s.c] w fun e w' => e = .returned (.bool true) ∧ Below w.heap.size w w' := by
  have kc := fun (w : World) (C : Array Value) (n c : Nat) => Lib.run_convert_bytes_const (P := Try.prog) w 96 5 C n c Try.underlying96 Try.underlying5
  have hfew := few_law7 s l w h
  obtain ⟨a, m, c⟩ := s
  obtain ⟨h1, h2, h3, h4⟩ := h
  simp only at h1 h2 h3 h4
  subst h1
  have H4 := Lib.hid h4
  have HW := Lib.hid hwf
  clear h4 h2 hwf h3
  by_cases hn0 : n < 0
  · have d1 : decide (n < 0) = true := decide_eq_true hn0
    clear hn0
    go_enter Try.func11, Try.ntmps11
    go_wp2_with (go_at_call 42; refine (awake7 _).mono ?_; rintro e w' ⟨rfl, hbw⟩)
    go_ret
    exact ⟨rfl, hbw⟩
  · have d1 : decide (n < 0) = false := decide_eq_false hn0
    by_cases hn5 : 50 < n
    · have d2 : decide (50 < n) = true := decide_eq_true hn5
      clear hn0 hn5
      go_enter Try.func11, Try.ntmps11
      go_wp2_with (go_at_call 42; refine (awake7 _).mono ?_; rintro e w' ⟨rfl, hbw⟩)
      go_ret
      exact ⟨rfl, hbw⟩
    · have d2 : decide (50 < n) = false := decide_eq_false hn5
      have hnb : 0 ≤ n ∧ n ≤ 50 := by omega
      clear hn0 hn5
      go_enter Try.func11, Try.ntmps11
      go_wp2_with fail
      refine hfew.mono ?_
      rintro e w' ⟨⟨r, rfl, hr⟩, rfl⟩
      clear hfew
      cases r with
      | false =>
        go_wp2_with (go_at_call 42; refine (awake7 _).mono ?_; rintro e w' ⟨rfl, hbw⟩)
        go_ret
        exact ⟨rfl, hbw⟩
      | true =>
        obtain ⟨hl60, hb2⟩ := hr rfl
        have HB2 := Lib.hid hb2
        clear hr hb2
        go_wp2_with fail
        refine (new_fs w).mono ?_
        rintro e w1 ⟨p, rfl, h1, b1⟩
        have hc1 : ∀ X, Below w1.heap.size w1 X → bytesAt X ⟨some ⟨w1.heap.size, 0, none⟩, 4, 4⟩ kept4 X.heap.size → Calls Try.prog 44 #[.pointer (some ⟨p, 0, none⟩), .string nK.1, .slice (some ⟨w1.heap.size, 0, none⟩) 4 4] X fun e w' => e = .returned (.int .i64 0) ∧ fsAt w' (fun k => w.heap.size ≤ k) p cu1 ∧ Below w.heap.size X w' := by
          intro X hb hby
          have := append_fileN w.heap.size p fs0 nK ⟨some ⟨w1.heap.size, 0, none⟩, 4, 4⟩ kept4 X (h1.below hb) aw_s0 (Nat.le_trans b1.size hb.size) hby (.inl (by simp)) (Nat.le_refl _) (by simp [kept4])
          rw [show appE fs0 nK kept4.length = 0 from cu_e1] at this
          exact this
        have HC1 := Lib.hid hc1
        have B1 := Lib.hid b1
        clear hc1 h1 b1
        go_wp2_with fail
        refine (HC1.out _ ((Below.refl _ w1).alloc (Nat.le_refl _) _) (bytes_const w1 _ _ kept4 4 4 rfl rfl)).mono ?_
        rintro e w2 ⟨rfl, h2, b2⟩
        have b2' : Below w.heap.size w w2 := B1.out.trans (((Below.refl _ w1).alloc B1.out.size _).trans b2)
        have hc := sync_fileN w.heap.size p cu1 nK w2 h2 cu_s1 b2'.size
        rw [cu_e2] at hc
        have B2 := Lib.hid b2'
        clear h2 b2 b2'
        go_wp2_with fail
        refine hc.mono ?_
        rintro e w3 ⟨rfl, h3, b3⟩
        clear hc
        have b3' := B2.out.trans b3
        have hc := cut_fileN w.heap.size p cu2 n w3 h3 b3'.size
        have B3 := Lib.hid b3'
        clear h3 b3 b3'
        go_wp2_with fail
        refine hc.mono ?_
        rintro e W ⟨rfl, hW, bW⟩
        clear hc kc
        obtain ⟨cu, ck⟩ := cu_start n hnb.1
        have HW4 := Lib.hid hW
        have BW := Lib.hid (B3.out.trans bW)
        have CU := Lib.hid (And.intro cu ck)
        clear hW bW cu ck
        go_wp2_with fail
        go_loopw [6, 7, 8] (fun v6 v7 _ wr => ∃ (i k : Nat) (M : FsM), k ≤ i ∧ i ≤ l.length ∧ v6 = .int .i64 k ∧ v7 = .int .i64 i ∧ fsAt wr (fun j => w.heap.size ≤ j) p M ∧ Hid (Cutd M n k ∧ keepOk M) ∧ Below w.heap.size w wr) (fun _ v7 _ _ => l.length - (intOf v7).toNat)
        case atStart => exact ⟨0, 0, _, by omega, by omega, rfl, rfl, HW4.out, CU, BW.out⟩
        case round =>
          obtain ⟨i, k, M, hki, hil, rfl, rfl, hf, hM, hbr⟩ := hrel
          by_cases hlt : i < l.length
          · have dlt : decide (i < l.length) = true := decide_eq_true hlt
            obtain ⟨b, off, e, hb, hrow⟩ := (H4.out.below hbr) (by intro e; rw [e] at hlt; simp at hlt)
            subst e
            have hr := hrow i hlt
            obtain ⟨d, hd⟩ : ∃ d, d = l[i] := ⟨_, rfl⟩
            rw [← hd] at hr
            have hdw : d.wf := hd ▸ HW.out _ (List.getElem_mem hlt)
            have hdb : d.b.size ≤ 200 := hd ▸ HB2.out _ (List.getElem_mem hlt)
            have c0 : wr.cell? ⟨b, off + i * 4, none⟩ = some (.int .i64 d.kind) := by have := row?_cellAt hr 0 (by omega); rw [Deed.arr_0] at this; exact this
            have c1 : wr.cell? ⟨b, off + i * 4 + 1, none⟩ = some (.string d.a) := by have := row?_cellAt hr 1 (by omega); rw [Deed.arr_1] at this; exact this
            have c2 : wr.cell? ⟨b, off + i * 4 + 2, none⟩ = some (.string d.b) := by have := row?_cellAt hr 2 (by omega); rw [Deed.arr_2] at this; exact this
            have k0 : (0 : Int) ≤ (i : Int) := by omega
            have k1 : (i : Int) < (l.length : Int) := by omega
            have hsm : M.small := hM.out.1.small (by omega) (by omega)
            clear hrow hr hd
            by_cases hk1 : d.kind < 1
            · have t1 : decide (d.kind < 1) = true := decide_eq_true hk1
              clear hk1
              go_wp2_with fail
              exact ⟨⟨i + 1, k, M, by omega, by omega, rfl, by go_num, hf, hM, hbr⟩, by simp [intOf]; omega⟩
            · have t1 : decide (d.kind < 1) = false := decide_eq_false hk1
              by_cases hk2 : 2 < d.kind
              · have t2 : decide (2 < d.kind) = true := decide_eq_true hk2
                clear hk1 hk2
                go_wp2_with fail
                exact ⟨⟨i + 1, k, M, by omega, by omega, rfl, by go_num, hf, hM, hbr⟩, by simp [intOf]; omega⟩
              · have t2 : decide (2 < d.kind) = false := decide_eq_false hk2
                have Z0 : Fr (fun j => w.heap.size ≤ j) wr := fun j hj => Nat.le_trans hbr.size hj
                by_cases hk3 : d.kind = 1
                · rw [hk3] at c0
                  clear hk1 hk2 hk3 t1 t2
                  obtain ⟨hcd, hcc⟩ := hM.out.1.append ⟨d.a, hdw.2.1⟩ (bytesL d.b)
                  have hM2 := Lib.hid (And.intro hcc (hM.out.2.append ⟨d.a, hdw.2.1⟩ (bytesL d.b)))
                  obtain ⟨w2, c2', run2, b2, z2, cc2, by2⟩ := run_bytes wr.drew d.b
                  have hap := append_fileN w.heap.size p M ⟨d.a, hdw.2.1⟩ ⟨some ⟨wr.heap.size, 0, none⟩, d.b.size, c2'⟩ (bytesL d.b) w2 (hf.below ((Below.refl _ wr).drew.trans b2)) hsm (Nat.le_trans hbr.size b2.size) by2 (.inl (by simp)) cc2 (by rw [bytesL_length]; omega)
                  have run3 : (convert 9 96 (.string d.b)).run Try.prog wr.drew = .ok (.slice (some ⟨wr.heap.size, 0, none⟩) d.b.size c2') w2 := run2
                  have e0 : wr.drew.cell? ⟨b, off + i * 4 + 1, none⟩ = some (.string d.a) := c1
                  have e1 : wr.drew.cell? ⟨b, off + i * 4 + 2, none⟩ = some (.string d.b) := c2
                  have hbw : b < wr.heap.size := Nat.lt_of_lt_of_le hb hbr.size
                  have e2 : w2.cell? ⟨b, off + i * 4 + 1, none⟩ = some (.string d.a) := (b2.cell (p := ⟨b, off + i * 4 + 1, none⟩) hbw).trans c1
                  have BR2 := Lib.hid (hbr.trans (((Below.refl _ wr).drew.trans b2).mono hbr.size))
                  clear run2 z2 cc2 by2 hcc
                  by_cases hdk : n < (k : Int) + 1
                  · rw [hcd.2 hdk] at hap
                    have d3 : decide (n < (k : Int) + 1) = true := decide_eq_true hdk
                    have HAP := Lib.hid hap
                    clear hap hcd hdk hM hf hsm b2
                    go_wp2_with fail
                    go_region_with (go_at_call 44; refine HAP.out.mono ?_; rintro e w3 ⟨rfl, h3, b3⟩)
                    all_goals go_wp2_with fail
                    all_goals exact ⟨⟨i + 1, k + 1, _, by omega, by omega, by go_num, by go_num, h3, hM2, BR2.out.trans b3⟩, by simp [intOf]; omega⟩
                  · have d3 : decide (n < (k : Int) + 1) = false := decide_eq_false hdk
                    obtain ⟨E, hE⟩ : ∃ E, E = appE M ⟨d.a, hdw.2.1⟩ (bytesL d.b).length := ⟨_, rfl⟩
                    rw [← hE] at hap hcd
                    have t7 : (E == 7) = false := by rw [beq_eq_false_iff_ne]; exact fun e => hdk (hcd.1 e)
                    have HAP := Lib.hid hap
                    clear hap hcd hdk hM hf hsm b2 hE
                    go_wp2_with fail
                    go_region_with (go_at_call 44; refine HAP.out.mono ?_; rintro e w3 ⟨rfl, h3, b3⟩)
                    all_goals go_wp2_with fail
                    all_goals exact ⟨⟨i + 1, k + 1, _, by omega, by omega, by go_num, by go_num, h3, hM2, BR2.out.trans b3⟩, by simp [intOf]; omega⟩
                · have hk4 : d.kind = 2 := by omega
                  rw [hk4] at c0
                  clear hk1 hk2 hk3 hk4 t1 t2
                  obtain ⟨hcd, hcc⟩ := hM.out.1.sync ⟨d.a, hdw.2.1⟩
                  have hM2 := Lib.hid (And.intro hcc (hM.out.2.sync ⟨d.a, hdw.2.1⟩))
                  have hap := sync_fileN w.heap.size p M ⟨d.a, hdw.2.1⟩ wr hf hsm hbr.size
                  have BR := Lib.hid hbr
                  clear hcc
                  by_cases hdk : n < (k : Int) + 1
                  · rw [hcd.2 hdk] at hap
                    have d3 : decide (n < (k : Int) + 1) = true := decide_eq_true hdk
                    clear hcd hdk hM hf hsm
                    go_wp2_with fail
                    refine hap.mono ?_
                    rintro e w3 ⟨rfl, h3, b3⟩
                    clear hap
                    go_wp2_with fail
                    exact ⟨⟨i + 1, k + 1, _, by omega, by omega, by go_num, by go_num, h3, hM2, BR.out.trans b3⟩, by simp [intOf]; omega⟩
                  · have d3 : decide (n < (k : Int) + 1) = false := decide_eq_false hdk
                    obtain ⟨E, hE⟩ : ∃ E, E = hasE M ⟨d.a, hdw.2.1⟩ [] := ⟨_, rfl⟩
                    rw [← hE] at hap hcd
                    have t7 : (E == 7) = false := by rw [beq_eq_false_iff_ne]; exact fun e => hdk (hcd.1 e)
                    clear hcd hdk hM hf hsm hE
                    go_wp2_with fail
                    refine hap.mono ?_
                    rintro e w3 ⟨rfl, h3, b3⟩
                    clear hap
                    go_wp2_with fail
                    exact ⟨⟨i + 1, k + 1, _, by omega, by omega, by go_num, by go_num, h3, hM2, BR.out.trans b3⟩, by simp [intOf]; omega⟩
          · have dlt : decide (i < l.length) = false := decide_eq_false hlt
            obtain ⟨x, hx, hx4, hx5, hx6⟩ := hM.out.2
            have hkz : k ≤ 60 := by omega
            have hsm : M.small := hM.out.1.small (by omega) (by omega)
            have hops : M.ops = (k : Int) + 2 := by rw [hM.out.1.ops]; omega
            have hbig := fsAt.sizes hf
            have hc := read_file _ p M nK wr hf
            rw [show readE M nK = 0 by unfold readE; rw [hx]; rfl, hx] at hc
            have HF := Lib.hid hf
            have BR := Lib.hid hbr
            have HX := Lib.hid (And.intro hx (And.intro hx4 (And.intro hx5 hx6)))
            have HS := Lib.hid (And.intro hsm (And.intro hops hbig))
            clear hM hx hx4 hx5 hx6 hsm hops hbig hf hbr hlt
            go_wp2_with fail
            refine hc.mono ?_
            rintro e wa ⟨v1, rfl, ho1, ba⟩
            clear hc
            have hv1 : v1.n = x.1.length := ho1.1
            have hv1c := ho1.2.1
            have hv14 : (4 : Int) ≤ (v1.n : Int) := by have := HX.out.2.2; omega
            have hv1c4 : (4 : Int) ≤ (v1.c : Int) := by omega
            have by1 : bytesAt wa ⟨v1.a, 4, v1.c⟩ kept4 wa.heap.size := by
              have hb1 : bytesAt wa v1 x.1 wa.heap.size := ho1.bytes
              refine ⟨rfl, fun _ => ?_⟩
              obtain ⟨b, off, e, hb, hcl⟩ := hb1.2 (by intro e; rw [e] at hv1; simp at hv1; omega)
              refine ⟨b, off, e, hb, fun j hj => ?_⟩
              have hj4 : j < 4 := hj
              rw [hcl j (by omega)]
              congr 2
              have := HX.out.2.1
              rw [List.getElem_of_eq this.symm]
              simp
            have hcr := crash_file _ p M ⟨none, 0, 0⟩ [] wa (HF.out.below ba) HS.out.1 ⟨rfl, Nat.le_refl _, fun h => absurd rfl h⟩ (by simp)
            have BA := Lib.hid (BR.out.trans (ba.mono BR.out.size))
            have HFA := Lib.hid ba
            have BY1 := Lib.hid by1
            clear ho1 ba by1 hv1 hv1c
            go_wp2_with fail
            refine hcr.mono ?_
            rintro e wb ⟨q, ns, rfl, hns, hq, bb⟩
            clear hcr
            have hxk : (crashM M ns []).files nK = some (x.1.take x.2, x.2) := by
              have h1 := (crash_none M.files nK ns (fun _ => none, []) rfl).2 ((hns.mem nK).2 (by rw [HX.out.1]; rfl))
              rw [HX.out.1] at h1
              exact h1
            have hCs : (crashM M ns []).small := ⟨by show (0 : Int) ≤ 0; decide, by show (0 : Int) ≤ 1000000000; decide, by show -(0 : Int) ≤ 0; decide, by show (0 : Int) ≤ 1000000000; decide, hns.size⟩
            have hCe : appE (crashM M ns []) nN ([] : List UInt8).length = 0 := by
              unfold appE
              rw [show askE (crashM M ns []) [nN] = 0 by rfl, if_pos rfl, if_neg]
              have hz := fsAt.sizes hq nN
              unfold oldF
              cases hh : (crashM M ns []).files nN with
              | none => simp
              | some y => have := hz y hh; simp; omega
            have hc := read_file _ q _ nK wb hq
            rw [show readE (crashM M ns []) nK = 0 by unfold readE; rw [hxk]; rfl, hxk] at hc
            have HQ := Lib.hid hq
            have BB := Lib.hid (BA.out.trans (bb.mono BA.out.size))
            have hzb : wa.heap.size ≤ wb.heap.size := bb.size
            have HFB := Lib.hid (HFA.out.trans (bb.mono HFA.out.size))
            have BYB := Lib.hid ((BY1.out.below bb).mono bb.size)
            have HC := Lib.hid (And.intro hCs hCe)
            clear hns hq bb hxk hCs hCe
            go_wp2_with fail
            refine hc.mono ?_
            rintro e wd ⟨v2, rfl, ho2, bd⟩
            clear hc
            have hv2 : (4 : Int) ≤ (v2.n : Int) := by
              have h1 := ho2.1
              simp only [Option.getD_some, List.length_take] at h1
              have := HX.out.2.2
              omega
            have hst : (convert 96 9 (.slice v1.a 4 v1.c)).run Try.prog wd = .ok (.string ⟨#[107, 101, 112, 116]⟩) wd := bytesAt_str (BYB.out.below bd)
            have hap := append_fileN wa.heap.size q _ nN ⟨none, 0, 0⟩ [] wd (HQ.out.below bd) HC.out.1 (Nat.le_trans hzb bd.size) ⟨rfl, fun h => absurd rfl h⟩ (.inr rfl) (Nat.le_refl _) (by simp)
            rw [HC.out.2] at hap
            have hop := ops_file (fun j => w.heap.size ≤ j) p M
            have BD := Lib.hid (BB.out.trans (bd.mono BB.out.size))
            have HFD := Lib.hid (HFB.out.trans (bd.mono HFB.out.size))
            have HO := Lib.hid (And.intro hop HS.out.2.1)
            clear ho2 bd hop
            go_wp2_with fail
            refine hap.mono ?_
            rintro e we ⟨rfl, he, be⟩
            clear hap
            have hc := HO.out.1 we (HF.out.below (HFD.out.trans (be.mono HFA.out.size)))
            rw [HO.out.2] at hc
            have BE := Lib.hid (BD.out.trans (be.mono BA.out.size))
            have hk0 : (0 : Int) ≤ (k : Int) := by omega
            clear he be
            go_wp2_with fail
            refine hc.mono ?_
            rintro e wf ⟨rfl, rfl⟩
            clear hc
            go_wp2_with fail
            refine (awake7 _).mono ?_
            rintro e w' ⟨rfl, hbw⟩
            go_wp2_with fail
            go_ret
            exact ⟨rfl, BE.out.trans (hbw.mono BE.out.size)⟩
end Go.Proofs.Ytaopiefbejajkaa
