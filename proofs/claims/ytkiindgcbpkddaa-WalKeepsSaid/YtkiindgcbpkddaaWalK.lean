/- A log opened. -/
import Derived.Test.YtkiindgcbpkddaaWalJ
import Derived.Test.YtkiindgcbpkddaaWalG
set_option linter.unusedSimpArgs false
set_option linter.unusedVariables false
namespace Go.Proofs.Ytkiindgcbpkddaa
open Go.RowKit
def tailB : ByteArray := ⟨#[46, 110, 101, 119]⟩
theorem tmp_size (s : Nm) : s.1.size ≤ 40 → (s.1 ++ tailB).size ≤ maxLen := by
  intro h
  rw [ByteArray.size_append]
  have : tailB.size = 4 := rfl
  unfold maxLen; omega
/-- The name beside a name. -/
def tmpN (s : Nm) (h : s.1.size ≤ 40) : Nm := ⟨s.1 ++ tailB, tmp_size s h⟩
/-- Owners behind a step: what was is as it was, what is new is one's or the other's. -/
theorem tagged (own : Nat → Nat) (i j n N : Nat) (Zf Zl : Nat → Prop) (hf : ∀ k, k < n → Zf k → own k = i) (hl : ∀ k, k < n → Zl k → own k = j) (hd : ∀ k, Zf k → ¬ Zl k) :
    ∃ own' : Nat → Nat, SameO own own' n ∧ (∀ k, Zf k → own' k = i) ∧ (∀ k, Zl k → own' k = j) := by
  classical
  refine ⟨fun k => if k < n then own k else if Zl k then j else i, fun k hk => if_pos hk, fun k hz => ?_, fun k hz => ?_⟩
  · by_cases h : k < n
    · simp only [if_pos h]; exact hf k h hz
    · simp only [if_neg h, if_neg (hd k hz)]
  · by_cases h : k < n
    · simp only [if_pos h]; exact hl k h hz
    · simp only [if_neg h, if_pos hz]
section
variable (M : FsM) (s : Nm) (h40 : s.1.size ≤ 40)
def opE1 : Int := if 0 ≤ safeE M (tmpN s h40) then hasE M (tmpN s h40) [] else 0
def opM1 : FsM := if 0 ≤ safeE M (tmpN s h40) then removeM M (tmpN s h40) else M
def opP : List UInt8 := (((opM1 M s h40).files s).getD ([], 0)).1
/-- The records that are there. -/
def opR : List (List UInt8) × Nat := readsS (opP M s h40)
def opCut : Bool := (((opM1 M s h40).files s).isSome && decide ((opR M s h40).2 < (opP M s h40).length))
def opE : Int := if opE1 M s h40 ≠ 0 then opE1 M s h40 else if opCut M s h40 then truncE (opM1 M s h40) s (opR M s h40).2 else 0
def opM : FsM := if opE1 M s h40 ≠ 0 then opM1 M s h40 else if opCut M s h40 then truncM (opM1 M s h40) s (opR M s h40).2 else opM1 M s h40
def opL : LogM := ⟨s, (opR M s h40).1, (opR M s h40).2, false⟩
end
theorem open_nofile (s : ByteArray) (w : World) : Calls Try.prog 39 #[.pointer none, .string s] w fun e w' => e = .returned (.tuple #[.pointer none, .int .i64 1]) ∧ w = w' := by
  go_enter Try.func39, Try.ntmps39
  go_wp2_with fail
  go_ret2
  exact ⟨rfl, rfl⟩
theorem open_noname (a : Addr) (w : World) : Calls Try.prog 39 #[.pointer (some a), .string ByteArray.empty] w fun e w' => e = .returned (.tuple #[.pointer none, .int .i64 1]) ∧ w = w' := by
  go_enter Try.func39, Try.ntmps39
  go_wp2_with fail
  go_ret2
  exact ⟨rfl, rfl⟩
theorem fsAt.size {w : World} {Z : Nat → Prop} {p : Nat} {M : FsM} (h : fsAt w Z p M) (s : Nm) : ((M.files s).getD ([], 0)).1.length ≤ 16777216 ∧ ((M.files s).getD ([], 0)).2 ≤ ((M.files s).getD ([], 0)).1.length := by
  obtain ⟨mb, F, h⟩ := h
  rw [h.files s]
  cases hF : F s with
  | none => exact ⟨Nat.zero_le _, Nat.le_refl _⟩
  | some r => exact ⟨(h.file s r hF).size, (h.file s r hF).safe⟩
section
variable {w : World} {own : Nat → Nat} {i j p : Nat} {M : FsM}
/-- What Open comes to. -/
def OpenPost (w : World) (own : Nat → Nat) (i j p : Nat) (M : FsM) (s : Nm) (h40 : s.1.size ≤ 40) (e : Ending) (w' : World) : Prop :=
  ∃ own' : Nat → Nat, SameO own own' w.heap.size ∧ fsAt w' (zn own' i) p (opM M s h40) ∧ Upd w w' (fun k => own k = i) ∧
    ((opE M s h40 = 0 ∧ ∃ q sl vs, e = .returned (.tuple #[.pointer (some ⟨q, 0, none⟩), .int .i64 0]) ∧ LogAt w' (zn own' j) q p sl vs (opL M s h40)) ∨ (opE M s h40 ≠ 0 ∧ e = .returned (.tuple #[.pointer none, .int .i64 (opE M s h40)])))
set_option maxRecDepth 100000 in
set_option maxHeartbeats 2000000 in
theorem open_wal (s : Nm) (h40 : s.1.size ≤ 40) (h1 : 1 ≤ s.1.size) (hij : i ≠ j) (hS : fsAt w (zn own i) p M) (hM : M.small) (hM1 : (opM1 M s h40).small) :
    Calls Try.prog 39 #[.pointer (some ⟨p, 0, none⟩), .string s.1] w (OpenPost w own i j p M s h40) := by
  have hne := bytes_ne h1
  have hne2 : (s.1.toList == []) = false := by cases h : s.1.toList with | nil => exact absurd h hne | cons => rfl
  have hsz : decide ((40 : Int) < (s.1.size : Int)) = false := decide_eq_false (by omega)
  have HNE := Lib.hid hne
  clear hne
  go_enter Try.func39, Try.ntmps39
  go_wp2_with fail
  obtain ⟨V, hV⟩ : ∃ V, V = w.alloc (.cells (LogV.mk (some ⟨p, 0, none⟩) s.1 LogV.zero.records LogV.zero.size LogV.zero.dead).arr 167) := ⟨_, rfl⟩
  rw [← hV]
  obtain ⟨q, hq⟩ : ∃ q, q = w.heap.size := ⟨_, rfl⟩
  rw [← hq]
  have hbV : Below w.heap.size w V := hV ▸ (Below.refl _ _).alloc (Nat.le_refl _) _
  have hVs : V.heap.size = w.heap.size + 1 := by rw [hV]; simp
  have hdV : V.heap[q]? = some (.cells (LogM.head ⟨s, [], 0, false⟩ p ⟨none, 0, 0⟩).arr 167 (0, 0)) := by rw [hV, hq]; exact heap_alloc_new w _
  have hSV := (hS.zone (T := fun k => own k = i ∧ k < q) (fun k hk hz => ⟨hz, by rw [hq]; exact hk⟩)).below hbV
  have hsafe : Calls Try.prog 90 #[.pointer (some ⟨p, 0, none⟩), .string (s.1 ++ ⟨#[46, 110, 101, 119]⟩)] V _ := safe_file _ p M (tmpN s h40) V hSV
  have hrem : Calls Try.prog 91 #[.pointer (some ⟨p, 0, none⟩), .string (s.1 ++ ⟨#[46, 110, 101, 119]⟩)] V _ := remove_fsZ (tmpN s h40) hSV hM
  obtain ⟨E0, hE0⟩ : ∃ E0, E0 = safeE M (tmpN s h40) := ⟨_, rfl⟩
  rw [← hE0] at hsafe
  obtain ⟨E1, hE1⟩ : ∃ E1, E1 = hasE M (tmpN s h40) [] := ⟨_, rfl⟩
  rw [← hE1] at hrem
  obtain ⟨M1, hM1e⟩ : ∃ M1, M1 = opM1 M s h40 := ⟨_, rfl⟩
  rw [← hM1e] at hM1
  have HE0 := Lib.hid hE0
  have HE1 := Lib.hid hE1
  have HM1 := Lib.hid hM1e
  have HS := Lib.hid hS
  have HSV := Lib.hid hSV
  have HDV := Lib.hid hdV
  have HBV := Lib.hid hbV
  have hqs : q + 1 ≤ V.heap.size := by omega
  have hqs2 : V.heap.size ≤ q + 1 := by omega
  have HQ := Lib.hid hq
  clear hV hS hSV hdV hbV hVs hE0 hE1 hM1e hq
  by_cases hgo : 0 ≤ E0 ∧ E1 ≠ 0
  · obtain ⟨h0, hx⟩ := hgo
    have d0 : decide (0 ≤ E0) = true := decide_eq_true h0
    have t1 : (E1 == 0) = false := by rw [beq_eq_false_iff_ne]; exact hx
    have hoE1 : Hid (opE1 M s h40 = E1) := by unfold Hid opE1; rw [← HE0.out, if_pos h0, ← HE1.out]
    have hoE : Hid (opE M s h40 = E1) := by unfold Hid opE; rw [hoE1.out, if_pos hx]
    have hoM : Hid (opM M s h40 = removeM M (tmpN s h40)) := by unfold Hid opM; rw [hoE1.out, if_pos hx]; unfold opM1; rw [← HE0.out, if_pos h0]
    have HX := Lib.hid hx
    clear hx
    go_wp2_with (first | (go_at_call 90; refine hsafe.mono ?_; rintro e w1 ⟨rfl, rfl⟩) | (go_at_call 91; refine hrem.mono ?_; rintro e w2 ⟨rfl, hS2, hu2⟩))
    go_ret2
    obtain ⟨own', o1, o2, _⟩ := tagged own i j w.heap.size w2.heap.size (more (fun k => own k = i ∧ k < q) V) (fun _ => False) (fun k hk hz => hz.elim (fun h => h.1) (fun h => by have := HBV.out.size; omega)) (fun _ _ hf => hf.elim) (fun _ _ hf => hf)
    refine ⟨own', o1, by rw [hoM.out]; exact hS2.zone (fun k _ hz => o2 k hz), (Upd.of_below HBV.out _).trans hu2 (fun k _ e => e.1), .inr ⟨by rw [hoE.out]; exact HX.out, by rw [hoE.out]; rfl⟩⟩
  · have hoE1 : Hid (opE1 M s h40 = 0) := by
      unfold Hid opE1
      rw [← HE0.out, ← HE1.out]
      by_cases h0 : 0 ≤ E0
      · rw [if_pos h0]; exact Classical.not_not.1 (fun h => hgo ⟨h0, h⟩)
      · rw [if_neg h0]
    go_upto_if 30 with (go_at_call 90; refine hsafe.mono ?_; rintro e w1 ⟨rfl, rfl⟩)
    obtain ⟨B0, hB0⟩ : ∃ B0, B0 = decide (0 ≤ E0) := ⟨_, rfl⟩
    rw [← hB0]
    have HB0 := Lib.hid hB0
    clear hB0
    go_cut [7] from 31 to 37 (fun _ wx => ∃ Z2, fsAt wx Z2 p M1 ∧ (∀ k, Z2 k → (own k = i ∧ k < q) ∨ (q + 1 ≤ k ∧ k < wx.heap.size)) ∧ Upd V wx (fun k => own k = i ∧ k < q))
    case first =>
      by_cases h0 : 0 ≤ E0
      · have hE10 : E1 = 0 := Classical.not_not.1 (fun h => hgo ⟨h0, h⟩)
        subst hE10
        obtain rfl : B0 = true := by rw [HB0.out]; exact decide_eq_true h0
        have hm : Hid (M1 = removeM M (tmpN s h40)) := by unfold Hid; rw [HM1.out]; unfold opM1; rw [← HE0.out, if_pos h0]
        clear hgo
        go_wp2_with (go_at_call 91; refine hrem.mono ?_; rintro e w2 ⟨rfl, hS2, hu2⟩)
        go_meet
        refine ⟨fun k => (own k = i ∧ k < q) ∨ (q + 1 ≤ k ∧ k < w2.heap.size), ?_, fun _ h => h, hu2⟩
        rw [hm.out]
        exact hS2.zone (fun k hk hz => by
          rcases hz with hz | hz
          · exact .inl hz
          · exact .inr ⟨by omega, hk⟩)
      · obtain rfl : B0 = false := by rw [HB0.out]; exact decide_eq_false h0
        have hm : Hid (M1 = M) := by unfold Hid; rw [HM1.out]; unfold opM1; rw [← HE0.out, if_neg h0]
        clear hgo
        go_wp2_with fail
        go_meet
        refine ⟨fun k => own k = i ∧ k < q, ?_, fun k h => .inl h, Upd.refl _ _⟩
        rw [hm.out]
        exact HSV.out
    case rest =>
      obtain ⟨Z2, hS2, hZ2, hU2⟩ := hcut
      have hqV : q < V.heap.size := by omega
      have hdc := (hU2.block q hqV (fun h => by omega)).trans HDV.out
      have hread := read_file Z2 p M1 s wc hS2
      have hPs := hS2.size s
      have hU0 : Upd w wc (fun k => own k = i) := (Upd.of_below HBV.out _).trans hU2 (fun k _ e => e.1)
      have hqc : q < wc.heap.size := (cells_known hdc).2.2
      obtain ⟨P, hP⟩ : ∃ P, P = ((M1.files s).getD ([], 0)).1 := ⟨_, rfl⟩
      rw [← hP] at hread hPs
      have hoP : Hid (opP M s h40 = P) := by unfold Hid opP; rw [← HM1.out, hP]
      have HS2 := Lib.hid hS2
      have HU2 := Lib.hid hU2
      have HZ2 := Lib.hid hZ2
      have HDC := Lib.hid hdc
      have hPl := hPs.1
      have HU0 := Lib.hid hU0
      clear hS2 hU2 hZ2 hdc hPs hgo hU0
      cases hfs : M1.files s with
      | none =>
        have hP0 : P = [] := by rw [hP, hfs]; rfl
        have hrE : readE M1 s = 5 := by unfold readE; rw [hfs]; rfl
        rw [hrE] at hread
        have hoC : Hid (opCut M s h40 = false) := by unfold Hid opCut; rw [← HM1.out, hfs]; rfl
        have hoE : Hid (opE M s h40 = 0) := by unfold Hid opE; rw [if_neg (not_not_intro hoE1.out), hoC.out]; rfl
        have hoM : Hid (opM M s h40 = M1) := by unfold Hid opM; rw [if_neg (not_not_intro hoE1.out), hoC.out, HM1.out]; rfl
        have hoL : Hid (opL M s h40 = ⟨s, [], 0, false⟩) := by unfold Hid opL opR; rw [hoP.out, hP0]; rfl
        clear hP hP0 hrE hfs
        go_wp2_with (go_at_call 92; refine hread.mono ?_; rintro e w3 ⟨v, rfl, hv, hb3⟩)
        go_ret2
        obtain ⟨own', o1, o2, o3⟩ := tagged own i j w.heap.size w3.heap.size Z2 (fun k => k = q) (fun k hk hz => (HZ2.out k hz).elim (fun h => h.1) (fun h => by have := HQ.out; omega)) (fun k hk hz => by have := HQ.out; omega) (fun k hz e => by have := HZ2.out k hz; omega)
        refine ⟨own', o1, by rw [hoM.out]; exact (HS2.out.below hb3).zone (fun k _ hz => o2 k hz), HU0.out.trans (Upd.of_below hb3 (fun _ => False)) (fun k _ hf => hf.elim), .inl ⟨hoE.out, q, ⟨none, 0, 0⟩, [], rfl, ?_⟩⟩
        rw [hoL.out]
        exact ⟨(hb3.block q hqc).trans HDC.out, RecsAt_nil _ _, o3 q rfl⟩
      | some f =>
        have hrE : readE M1 s = 0 := by unfold readE; rw [hfs]; rfl
        rw [hrE] at hread
        have hsome : Hid ((M1.files s).isSome = true) := by unfold Hid; rw [hfs]; rfl
        clear hP hrE hfs
        go_wp2_with fail
        refine hread.mono ?_
        rintro e w3 ⟨⟨va, vn, vc⟩, rfl, hv, hb3⟩
        have hvn : vn = P.length := hv.1
        subst hvn
        have hrd := reads_wal ⟨va, P.length, vc⟩ P w3 hv.bytes hv.2.1 (by omega)
        have hdc3 := (hb3.block q hqc).trans HDC.out
        have HB3 := Lib.hid hb3
        have HD3 := Lib.hid hdc3
        have hq3 : q < w3.heap.size := (cells_known hdc3).2.2
        clear hread hv hb3 hdc3
        go_wp2_with fail
        refine hrd.mono ?_
        rintro e w4 ⟨⟨ra, rn, rc⟩, rvs, rfl, hR, hb4⟩
        have hdc4 := (hb4.block q hq3).trans HD3.out
        have hc42 : w4.cell? ⟨q, 2, none⟩ = some (.slice none 0 0) := ((cells_known hdc4).1 2).trans (LogV.arr_2 _)
        have hc43 : w4.cell? ⟨q, 3, none⟩ = some (.int .i64 0) := ((cells_known hdc4).1 3).trans (LogV.arr_3 _)
        have hf42 := (cells_known hdc4).2.1 2
        have hf43 := (cells_known hdc4).2.1 3
        have hq4 := (cells_known hdc4).2.2
        have hle := (readsS_le P.length P rfl).1
        obtain ⟨R2, hR2⟩ : ∃ R2, R2 = (readsS P).2 := ⟨_, rfl⟩
        rw [← hR2] at hle ⊢
        have HR := Lib.hid hR
        have HB4 := Lib.hid hb4
        have HD4 := Lib.hid hdc4
        have HR2 := Lib.hid hR2
        clear hrd hR hb4 hdc4 hR2
        go_upto_region 12 with fail
        obtain ⟨w5, hw5⟩ : ∃ w5, w5 = (w4.setCell ⟨q, 2, none⟩ (.slice ra rn rc)).setCell ⟨q, 3, none⟩ (.int .i64 R2) := ⟨_, rfl⟩
        rw [← hw5]
        have hu5 : Upd w4 w5 (fun k => k = q) := hw5 ▸ ((Upd.setCell w4 ⟨q, 2, none⟩ _).trans (Upd.setCell _ ⟨q, 3, none⟩ _) (fun _ _ h => h))
        have hd5 : w5.heap[q]? = some (.cells (LogM.head ⟨s, (readsS P).1, R2, false⟩ p ⟨ra, rn, rc⟩).arr 167 (0, 0)) := by
          rw [hw5, heap_set (heap_set HD4.out 2 _) 3 _, LogM.head, LogV.set_2, LogV.set_3]
          rfl
        have hL5 : LogAt w5 (fun k => k = q ∨ (w3.heap.size ≤ k ∧ k < w4.heap.size)) q p ⟨ra, rn, rc⟩ rvs ⟨s, (readsS P).1, R2, false⟩ :=
          ⟨hd5, (HR.out.zoned (Y := fun k => (k = q ∨ (w3.heap.size ≤ k ∧ k < w4.heap.size)) ∧ k ≠ q) (fun k hk hz => ⟨.inr ⟨hz, hk⟩, by omega⟩)).upd hu5 (fun k hk _ e => hk.2 e), .inl rfl⟩
        have hS5 : fsAt w5 (fun k => Z2 k ∧ k < wc.heap.size) p M1 := ((((HS2.out.zone (T := fun k => Z2 k ∧ k < wc.heap.size) (fun k hk hz => ⟨hz, hk⟩)).below HB3.out).below HB4.out)).upd hu5 (fun k hz hk e => by
          have e2 : k = q := e
          have := HZ2.out k hz.1
          omega)
        have hU5 : Upd w w5 (fun k => own k = i) := ((HU0.out.trans (Upd.of_below HB3.out (fun _ => False)) (fun k _ hf => hf.elim)).trans (Upd.of_below HB4.out (fun _ => False)) (fun k _ hf => hf.elim)).trans hu5 (fun k hk e => by
          have e2 : k = q := e
          have := HQ.out
          omega)
        have c53 := hL5.cell.2.2.2.1
        simp only at c53
        have h34 : w3.heap.size ≤ w4.heap.size := HB4.out.size
        have h45 : w4.heap.size ≤ w5.heap.size := hu5.size
        have hc3 : wc.heap.size ≤ w3.heap.size := HB3.out.size
        have HL5 := Lib.hid hL5
        have HS5 := Lib.hid hS5
        have HU5 := Lib.hid hU5
        clear hw5 hu5 hd5 hL5 hS5 hU5 hc42 hc43 hf42 hf43
        by_cases hcut : R2 < P.length
        · have dc : decide ((R2 : Int) < (P.length : Int)) = true := decide_eq_true (by omega)
          have dc2 : decide (R2 < P.length) = true := decide_eq_true hcut
          have htr := truncate_fsZ s (R2 : Int) HS5.out hM1
          obtain ⟨E3, hE3⟩ : ∃ E3, E3 = truncE M1 s (R2 : Int) := ⟨_, rfl⟩
          rw [← hE3] at htr
          have hoC : Hid (opCut M s h40 = true) := by unfold Hid opCut opR; rw [← HM1.out, hsome.out, hoP.out, ← HR2.out]; simpa using hcut
          have hoE : Hid (opE M s h40 = E3) := by unfold Hid opE; rw [if_neg (not_not_intro hoE1.out), hoC.out, ← HM1.out]; unfold opR; rw [hoP.out, ← HR2.out, hE3]; rfl
          have hoM : Hid (opM M s h40 = truncM M1 s (R2 : Int)) := by unfold Hid opM; rw [if_neg (not_not_intro hoE1.out), hoC.out, ← HM1.out]; unfold opR; rw [hoP.out, ← HR2.out]; rfl
          have hoL : Hid (opL M s h40 = ⟨s, (readsS P).1, R2, false⟩) := by unfold Hid opL opR; rw [hoP.out, ← HR2.out]
          have HE3 := Lib.hid hE3
          clear hE3 hcut
          by_cases h3 : E3 = 0
          · subst h3
            go_wp2_with (go_at_call 94; refine htr.mono ?_; rintro e w6 ⟨rfl, hS6, hu6⟩)
            go_ret2
            have hu56 := hu6.size
            obtain ⟨own', o1, o2, o3⟩ := tagged own i j w.heap.size w6.heap.size (more (fun k => Z2 k ∧ k < wc.heap.size) w5) (fun k => k = q ∨ (w3.heap.size ≤ k ∧ k < w4.heap.size))
              (fun k hk hz => hz.elim (fun h => (HZ2.out k h.1).elim (fun g => g.1) (fun g => by have := HQ.out; omega)) (fun g => by have := HQ.out; omega)) (fun k hk hz => by have := HQ.out; omega)
              (fun k hz e => by
                rcases hz with hz | hz
                · have := HZ2.out k hz.1; omega
                · omega)
            refine ⟨own', o1, by rw [hoM.out]; exact hS6.zone (fun k _ hz => o2 k hz), HU5.out.trans hu6 (fun k hk e => (HZ2.out k e.1).elim (fun g => g.1) (fun g => by have := HQ.out; omega)), .inl ⟨hoE.out, q, ⟨ra, rn, rc⟩, rvs, rfl, ?_⟩⟩
            rw [hoL.out]
            exact (HL5.out.upd hu6 (fun k hz _ e => by have := HZ2.out k e.1; have := e.2; omega)).zoned (fun k _ hz => o3 k hz)
          · have t1 : (E3 == 0) = false := by rw [beq_eq_false_iff_ne]; exact h3
            have H3 := Lib.hid h3
            clear h3
            go_wp2_with (go_at_call 94; refine htr.mono ?_; rintro e w6 ⟨rfl, hS6, hu6⟩)
            go_ret2
            obtain ⟨own', o1, o2, o3⟩ := tagged own i j w.heap.size w6.heap.size (more (fun k => Z2 k ∧ k < wc.heap.size) w5) (fun k => False)
              (fun k hk hz => hz.elim (fun h => (HZ2.out k h.1).elim (fun g => g.1) (fun g => by have := HQ.out; omega)) (fun g => by have := HQ.out; omega)) (fun k hk hz => hz.elim)
              (fun k hz e => e)
            refine ⟨own', o1, by rw [hoM.out]; exact hS6.zone (fun k _ hz => o2 k hz), HU5.out.trans hu6 (fun k hk e => (HZ2.out k e.1).elim (fun g => g.1) (fun g => by have := HQ.out; omega)), .inr ⟨by rw [hoE.out]; exact H3.out, by rw [hoE.out]; rfl⟩⟩
        · have dc : decide ((R2 : Int) < (P.length : Int)) = false := decide_eq_false (by omega)
          have dc2 : decide (R2 < P.length) = false := decide_eq_false hcut
          have hoC : Hid (opCut M s h40 = false) := by unfold Hid opCut opR; rw [← HM1.out, hsome.out, hoP.out, ← HR2.out]; simpa using hcut
          have hoE : Hid (opE M s h40 = 0) := by unfold Hid opE; rw [if_neg (not_not_intro hoE1.out), hoC.out]; rfl
          have hoM : Hid (opM M s h40 = M1) := by unfold Hid opM; rw [if_neg (not_not_intro hoE1.out), hoC.out, HM1.out]; rfl
          have hoL : Hid (opL M s h40 = ⟨s, (readsS P).1, R2, false⟩) := by unfold Hid opL opR; rw [hoP.out, ← HR2.out]
          clear hcut
          go_wp2_with fail
          go_ret2
          obtain ⟨own', o1, o2, o3⟩ := tagged own i j w.heap.size w5.heap.size (fun k => Z2 k ∧ k < wc.heap.size) (fun k => k = q ∨ (w3.heap.size ≤ k ∧ k < w4.heap.size))
            (fun k hk h => (HZ2.out k h.1).elim (fun g => g.1) (fun g => by have := HQ.out; omega)) (fun k hk hz => by have := HQ.out; omega)
            (fun k hz e => by have := HZ2.out k hz.1; have := hz.2; omega)
          refine ⟨own', o1, by rw [hoM.out]; exact HS5.out.zone (fun k _ hz => o2 k hz), HU5.out, .inl ⟨hoE.out, q, ⟨ra, rn, rc⟩, rvs, rfl, ?_⟩⟩
          rw [hoL.out]
          exact HL5.out.zoned (fun k _ hz => o3 k hz)
end
end Go.Proofs.Ytkiindgcbpkddaa
