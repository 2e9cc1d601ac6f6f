/- A log opened. Package wal, plain: what a log's deeds make of the files, with the power on. No memory in sight. Package coraclelaw8: what is awake. A log over its files, in memory: its deeds with the power on. Package coraclelaw8: what is awake. Package coraclelaw8: what is awake. -/
import Derived.Test.YtkiindgcbpkddaaWalJ
import Derived.Test.YtkiindgcbpkddaaWalG
import Derived.Lib.SlBytesConst
set_option linter.unusedSimpArgs false
set_option linter.unusedVariables false
namespace Go.Proofs.Ytkiindgcbpkddaa
open Go.RowKit
def tailB : ByteArray := ⟨#[46, 110, 101, 119]⟩
theorem tmp_size (s : Nm) : s.1.size ≤ 40 → (s.1 ++ tailB).size ≤ maxLen := by
  intro h
  rw [ByteArray.size_append]
  have : tailB.size = 4 := rfl
  unfold maxLen; omega
/-- The name beside a name. -/
def tmpN (s : Nm) (h : s.1.size ≤ 40) : Nm := ⟨s.1 ++ tailB, tmp_size s h⟩
/-- Owners behind a step: what was is as it was, what is new is one's or the other's. -/
theorem tagged (own : Nat → Nat) (i j n N : Nat) (Zf Zl : Nat → Prop) (hf : ∀ k, k < n → Zf k → own k = i) (hl : ∀ k, k < n → Zl k → own k = j) (hd : ∀ k, Zf k → ¬ Zl k) :
    ∃ own' : Nat → Nat, SameO own own' n ∧ (∀ k, Zf k → own' k = i) ∧ (∀ k, Zl k → own' k = j) := by
  classical
  refine ⟨fun k => if k < n then own k else if Zl k then j else i, fun k hk => if_pos hk, fun k hz => ?_, fun k hz => ?_⟩
  · by_cases h : k < n
    · simp only [if_pos h]; exact hf k h hz
    · simp only [if_neg h, if_neg (hd k hz)]
  · by_cases h : k < n
    · simp only [if_pos h]; exact hl k h hz
    · simp only [if_neg h, if_pos hz]
section
variable (M : FsM) (s : Nm) (h40 : s.1.size ≤ 40)
def opE1 : Int := if 0 ≤ safeE M (tmpN s h40) then hasE M (tmpN s h40) [] else 0
def opM1 : FsM := if 0 ≤ safeE M (tmpN s h40) then removeM M (tmpN s h40) else M
def opP : List UInt8 := (((opM1 M s h40).files s).getD ([], 0)).1
/-- The records that are there. -/
def opR : List (List UInt8) × Nat := readsS (opP M s h40)
def opCut : Bool := (((opM1 M s h40).files s).isSome && decide ((opR M s h40).2 < (opP M s h40).length))
def opE : Int := if opE1 M s h40 ≠ 0 then opE1 M s h40 else if opCut M s h40 then truncE (opM1 M s h40) s (opR M s h40).2 else 0
def opM : FsM := if opE1 M s h40 ≠ 0 then opM1 M s h40 else if opCut M s h40 then truncM (opM1 M s h40) s (opR M s h40).2 else opM1 M s h40
def opL : LogM := ⟨s, (opR M s h40).1, (opR M s h40).2, false⟩
end
theorem open_nofile (s : ByteArray) (w : World) : Calls Try.prog 39 #[.pointer none, .string s] w fun e w' => e = .returned (.tuple #[.pointer none, .int .i64 1]) ∧ w = w' := by
  go_enter Try.func39, Try.ntmps39
  go_wp2_with fail
  go_ret2
  exact ⟨rfl, rfl⟩
theorem open_noname (a : Addr) (w : World) : Calls Try.prog 39 #[.pointer (some a), .string ByteArray.empty] w fun e w' => e = .returned (.tuple #[.pointer none, .int .i64 1]) ∧ w = w' := by
  go_enter Try.func39, Try.ntmps39
  go_wp2_with fail
  go_ret2
  exact ⟨rfl, rfl⟩
theorem fsAt.size {w : World} {Z : Nat → Prop} {p : Nat} {M : FsM} (h : fsAt w Z p M) (s : Nm) : ((M.files s).getD ([], 0)).1.length ≤ 16777216 ∧ ((M.files s).getD ([], 0)).2 ≤ ((M.files s).getD ([], 0)).1.length := by
  obtain ⟨mb, F, h⟩ := h
  rw [h.files s]
  cases hF : F s with
  | none => exact ⟨Nat.zero_le _, Nat.le_refl _⟩
  | some r => exact ⟨(h.file s r hF).size, (h.file s r hF).safe⟩
section
variable {w : World} {own : Nat → Nat} {i j p : Nat} {M : FsM}
/-- What Open comes to. -/
def OpenPost (w : World) (own : Nat → Nat) (i j p : Nat) (M : FsM) (s : Nm) (h40 : s.1.size ≤ 40) (e : Ending) (w' : World) : Prop :=
  ∃ own' : Nat → Nat, SameO own own' w.heap.size ∧ fsAt w' (zn own' i) p (opM M s h40) ∧ Upd w w' (fun k => own k = i) ∧
    ((opE M s h40 = 0 ∧ ∃ q sl vs, e = .returned (.tuple #[.pointer (some ⟨q, 0, none⟩), .int .i64 0]) ∧ LogAt w' (zn own' j) q p sl vs (opL M s h40)) ∨ (opE M s h40 ≠ 0 ∧ e = .returned (.tuple #[.pointer none, .int .i64 (opE M s h40)])))
set_option maxRecDepth 100000 in
set_option maxHeartbeats 2000000 in
theorem open_wal (s : Nm) (h40 : s.1.size ≤ 40) (h1 : 1 ≤ s.1.size) (hij : i ≠ j) (hS : fsAt w (zn own i) p M) (hM : M.small) (hM1 : (opM1 M s h40).small) :
    Calls Try.prog 39 #[.pointer (some ⟨p, 0, none⟩), .string s.1] w (OpenPost w own i j p M s h40) := by
  have hne := bytes_ne h1
  have hne2 : (s.1.toList == []) = false := by cases h : s.1.toList with | nil => exact absurd h hne | cons => rfl
  have hsz : decide ((40 : Int) < (s.1.size : Int)) = false := decide_eq_false (by omega)
  have HNE := Lib.hid hne
  clear hne
  go_enter Try.func39, Try.ntmps39
  go_wp2_with fail
  obtain ⟨V, hV⟩ : ∃ V, V = w.alloc (.cells (LogV.mk (some ⟨p, 0, none⟩) s.1 LogV.zero.records LogV.zero.size LogV.zero.dead).arr 167) := ⟨_, rfl⟩
  rw [← hV]
  obtain ⟨q, hq⟩ : ∃ q, q = w.heap.size := ⟨_, rfl⟩
  rw [← hq]
  have hbV : Below w.heap.size w V := hV ▸ (Below.refl _ _).alloc (Nat.le_refl _) _
  have hVs : V.heap.size = w.heap.size + 1 := by rw [hV]; simp
  have hdV : V.heap[q]? = some (.cells (LogM.head ⟨s, [], 0, false⟩ p ⟨none, 0, 0⟩).arr 167 (0, 0)) := by rw [hV, hq]; exact heap_alloc_new w _
  have hSV := (hS.zone (T := fun k => own k = i ∧ k < q) (fun k hk hz => ⟨hz, by rw [hq]; exact hk⟩)).below hbV
  have hsafe : Calls Try.prog 90 #[.pointer (some ⟨p, 0, none⟩), .string (s.1 ++ ⟨#[46, 110, 101, 119]⟩)] V _ := safe_file _ p M (tmpN s h40) V hSV
  have hrem : Calls Try.prog 91 #[.pointer (some ⟨p, 0, none⟩), .string (s.1 ++ ⟨#[46, 110, 101, 119]⟩)] V _ := remove_fsZ (tmpN s h40) hSV hM
  obtain ⟨E0, hE0⟩ : ∃ E0, E0 = safeE M (tmpN s h40) := ⟨_, rfl⟩
  rw [← hE0] at hsafe
  obtain ⟨E1, hE1⟩ : ∃ E1, E1 = hasE M (tmpN s h40) [] := ⟨_, rfl⟩
  rw [← hE1] at hrem
  obtain ⟨M1, hM1e⟩ : ∃ M1, M1 = opM1 M s h40 := ⟨_, rfl⟩
  rw [← hM1e] at hM1
  have HE0 := Lib.hid hE0
  have HE1 := Lib.hid hE1
  have HM1 := Lib.hid hM1e
  have HS := Lib.hid hS
  have HSV := Lib.hid hSV
  have HDV := Lib.hid hdV
  have HBV := Lib.hid hbV
  have hqs : q + 1 ≤ V.heap.size := by omega
  have hqs2 : V.heap.size ≤ q + 1 := by omega
  have HQ := Lib.hid hq
  clear hV hS hSV hdV hbV hVs hE0 hE1 hM1e hq
  by_cases hgo : 0 ≤ E0 ∧ E1 ≠ 0
  · obtain ⟨h0, hx⟩ := hgo
    have d0 : decide (0 ≤ E0) = true := decide_eq_true h0
    have t1 : (E1 == 0) = false := by rw [beq_eq_false_iff_ne]; exact hx
    have hoE1 : Hid (opE1 M s h40 = E1) := by unfold Hid opE1; rw [← HE0.out, if_pos h0, ← HE1.out]
    have hoE : Hid (opE M s h40 = E1) := by unfold Hid opE; rw [hoE1.out, if_pos hx]
    have hoM : Hid (opM M s h40 = removeM M (tmpN s h40)) := by unfold Hid opM; rw [hoE1.out, if_pos hx]; unfold opM1; rw [← HE0.out, if_pos h0]
    have HX := Lib.hid hx
    clear hx
    go_wp2_with (first | (go_at_call 90; refine hsafe.mono ?_; rintro e w1 ⟨rfl, rfl⟩) | (go_at_call 91; refine hrem.mono ?_; rintro e w2 ⟨rfl, hS2, hu2⟩))
    go_ret2
    obtain ⟨own', o1, o2, _⟩ := tagged own i j w.heap.size w2.heap.size (more (fun k => own k = i ∧ k < q) V) (fun _ => False) (fun k hk hz => hz.elim (fun h => h.1) (fun h => by have := HBV.out.size; omega)) (fun _ _ hf => hf.elim) (fun _ _ hf => hf)
    refine ⟨own', o1, by rw [hoM.out]; exact hS2.zone (fun k _ hz => o2 k hz), (Upd.of_below HBV.out _).trans hu2 (fun k _ e => e.1), .inr ⟨by rw [hoE.out]; exact HX.out, by rw [hoE.out]; rfl⟩⟩
  · have hoE1 : Hid (opE1 M s h40 = 0) := by
      unfold Hid opE1
      rw [← HE0.out, ← HE1.out]
      by_cases h0 : 0 ≤ E0
      · rw [if_pos h0]; exact Classical.not_not.1 (fun h => hgo ⟨h0, h⟩)
      · rw [if_neg h0]
    go_upto_if 30 with (go_at_call 90; refine hsafe.mono ?_; rintro e w1 ⟨rfl, rfl⟩)
    obtain ⟨B0, hB0⟩ : ∃ B0, B0 = decide (0 ≤ E0) := ⟨_, rfl⟩
    rw [← hB0]
    have HB0 := Lib.hid hB0
    clear hB0
    go_cut [7] from 31 to 37 (fun _ wx => ∃ Z2, fsAt wx Z2 p M1 ∧ (∀ k, Z2 k → (own k = i ∧ k < q) ∨ (q + 1 ≤ k ∧ k < wx.heap.size)) ∧ Upd V wx (fun k => own k = i ∧ k < q))
    case first =>
      by_cases h0 : 0 ≤ E0
      · have hE10 : E1 = 0 := Classical.not_not.1 (fun h => hgo ⟨h0, h⟩)
        subst hE10
        obtain rfl : B0 = true := by rw [HB0.out]; exact decide_eq_true h0
        have hm : Hid (M1 = removeM M (tmpN s h40)) := by unfold Hid; rw [HM1.out]; unfold opM1; rw [← HE0.out, if_pos h0]
        clear hgo
        go_wp2_with (go_at_call 91; refine hrem.mono ?_; rintro e w2 ⟨rfl, hS2, hu2⟩)
        go_meet
        refine ⟨fun k => (own k = i ∧ k < q) ∨ (q + 1 ≤ k ∧ k < w2.heap.size), ?_, fun _ h => h, hu2⟩
        rw [hm.out]
        exact hS2.zone (fun k hk hz => by
          rcases hz with hz | hz
          · exact .inl hz
          · exact .inr ⟨by omega, hk⟩)
      · obtain rfl : B0 = false := by rw [HB0.out]; exact decide_eq_false h0
        have hm : Hid (M1 = M) := by unfold Hid; rw [HM1.out]; unfold opM1; rw [← HE0.out, if_neg h0]
        clear hgo
        go_wp2_with fail
        go_meet
        refine ⟨fun k => own k = i ∧ k < q, ?_, fun k h => .inl h, Upd.refl _ _⟩
        rw [hm.out]
        exact HSV.out
    case rest =>
      obtain ⟨Z2, hS2, hZ2, hU2⟩ := hcut
      have hqV : q < V.heap.size := by omega
      have hdc := (hU2.block q hqV (fun h => by omega)).trans HDV.out
      have hread := read_file Z2 p M1 s wc hS2
      have hPs := hS2.size s
      have hU0 : Upd w wc (fun k => own k = i) := (Upd.of_below HBV.out _).trans hU2 (fun k _ e => e.1)
      have hqc : q < wc.heap.size := (cells_known hdc).2.2
      obtain ⟨P, hP⟩ : ∃ P, P = ((M1.files s).getD ([], 0)).1 := ⟨_, rfl⟩
      rw [← hP] at hread hPs
      have hoP : Hid (opP M s h40 = P) := by unfold Hid opP; rw [← HM1.out, hP]
      have HS2 := Lib.hid hS2
      have HU2 := Lib.hid hU2
      have HZ2 := Lib.hid hZ2
      have HDC := Lib.hid hdc
      have hPl := hPs.1
      have HU0 := Lib.hid hU0
      clear hS2 hU2 hZ2 hdc hPs hgo hU0
      cases hfs : M1.files s with
      | none =>
        have hP0 : P = [] := by rw [hP, hfs]; rfl
        have hrE : readE M1 s = 5 := by unfold readE; rw [hfs]; rfl
        rw [hrE] at hread
        have hoC : Hid (opCut M s h40 = false) := by unfold Hid opCut; rw [← HM1.out, hfs]; rfl
        have hoE : Hid (opE M s h40 = 0) := by unfold Hid opE; rw [if_neg (not_not_intro hoE1.out), hoC.out]; rfl
        have hoM : Hid (opM M s h40 = M1) := by unfold Hid opM; rw [if_neg (not_not_intro hoE1.out), hoC.out, HM1.out]; rfl
        have hoL : Hid (opL M s h40 = ⟨s, [], 0, false⟩) := by unfold Hid opL opR; rw [hoP.out, hP0]; rfl
        clear hP hP0 hrE hfs
        go_wp2_with (go_at_call 92; refine hread.mono ?_; rintro e w3 ⟨v, rfl, hv, hb3⟩)
        go_ret2
        obtain ⟨own', o1, o2, o3⟩ := tagged own i j w.heap.size w3.heap.size Z2 (fun k => k = q) (fun k hk hz => (HZ2.out k hz).elim (fun h => h.1) (fun h => by have := HQ.out; omega)) (fun k hk hz => by have := HQ.out; omega) (fun k hz e => by have := HZ2.out k hz; omega)
        refine ⟨own', o1, by rw [hoM.out]; exact (HS2.out.below hb3).zone (fun k _ hz => o2 k hz), HU0.out.trans (Upd.of_below hb3 (fun _ => False)) (fun k _ hf => hf.elim), .inl ⟨hoE.out, q, ⟨none, 0, 0⟩, [], rfl, ?_⟩⟩
        rw [hoL.out]
        exact ⟨(hb3.block q hqc).trans HDC.out, RecsAt_nil _ _, o3 q rfl⟩
      | some f =>
        have hrE : readE M1 s = 0 := by unfold readE; rw [hfs]; rfl
        rw [hrE] at hread
        have hsome : Hid ((M1.files s).isSome = true) := by unfold Hid; rw [hfs]; rfl
        clear hP hrE hfs
        go_wp2_with fail
        refine hread.mono ?_
        rintro e w3 ⟨⟨va, vn, vc⟩, rfl, hv, hb3⟩
        have hvn : vn = P.length := hv.1
        subst hvn
        have hrd := reads_wal ⟨va, P.length, vc⟩ P w3 hv.bytes hv.2.1 (by omega)
        have hdc3 := (hb3.block q hqc).trans HDC.out
        have HB3 := Lib.hid hb3
        have HD3 := Lib.hid hdc3
        have hq3 : q < w3.heap.size := (cells_known hdc3).2.2
        clear hread hv hb3 hdc3
        go_wp2_with fail
        refine hrd.mono ?_
        rintro e w4 ⟨⟨ra, rn, rc⟩, rvs, rfl, hR, hb4⟩
        have hdc4 := (hb4.block q hq3).trans HD3.out
        have hc42 : w4.cell? ⟨q, 2, none⟩ = some (.slice none 0 0) := ((cells_known hdc4).1 2).trans (LogV.arr_2 _)
        have hc43 : w4.cell? ⟨q, 3, none⟩ = some (.int .i64 0) := ((cells_known hdc4).1 3).trans (LogV.arr_3 _)
        have hf42 := (cells_known hdc4).2.1 2
        have hf43 := (cells_known hdc4).2.1 3
        have hq4 := (cells_known hdc4).2.2
        have hle := (readsS_le P.length P rfl).1
        obtain ⟨R2, hR2⟩ : ∃ R2, R2 = (readsS P).2 := ⟨_, rfl⟩
        rw [← hR2] at hle ⊢
        have HR := Lib.hid hR
        have HB4 := Lib.hid hb4
        have HD4 := Lib.hid hdc4
        have HR2 := Lib.hid hR2
        clear hrd hR hb4 hdc4 hR2
        go_upto_region 12 with fail
        obtain ⟨w5, hw5⟩ : ∃ w5, w5 = (w4.setCell ⟨q, 2, none⟩ (.slice ra rn rc)).setCell ⟨q, 3, none⟩ (.int .i64 R2) := ⟨_, rfl⟩
        rw [← hw5]
        have hu5 : Upd w4 w5 (fun k => k = q) := hw5 ▸ ((Upd.setCell w4 ⟨q, 2, none⟩ _).trans (Upd.setCell _ ⟨q, 3, none⟩ _) (fun _ _ h => h))
        have hd5 : w5.heap[q]? = some (.cells (LogM.head ⟨s, (readsS P).1, R2, false⟩ p ⟨ra, rn, rc⟩).arr 167 (0, 0)) := by
          rw [hw5, heap_set (heap_set HD4.out 2 _) 3 _, LogM.head, LogV.set_2, LogV.set_3]
          rfl
        have hL5 : LogAt w5 (fun k => k = q ∨ (w3.heap.size ≤ k ∧ k < w4.heap.size)) q p ⟨ra, rn, rc⟩ rvs ⟨s, (readsS P).1, R2, false⟩ :=
          ⟨hd5, (HR.out.zoned (Y := fun k => (k = q ∨ (w3.heap.size ≤ k ∧ k < w4.heap.size)) ∧ k ≠ q) (fun k hk hz => ⟨.inr ⟨hz, hk⟩, by omega⟩)).upd hu5 (fun k hk _ e => hk.2 e), .inl rfl⟩
        have hS5 : fsAt w5 (fun k => Z2 k ∧ k < wc.heap.size) p M1 := ((((HS2.out.zone (T := fun k => Z2 k ∧ k < wc.heap.size) (fun k hk hz => ⟨hz, hk⟩)).below HB3.out).below HB4.out)).upd hu5 (fun k hz hk e => by
          have e2 : k = q := e
          have := HZ2.out k hz.1
          omega)
        have hU5 : Upd w w5 (fun k => own k = i) := ((HU0.out.trans (Upd.of_below HB3.out (fun _ => False)) (fun k _ hf => hf.elim)).trans (Upd.of_below HB4.out (fun _ => False)) (fun k _ hf => hf.elim)).trans hu5 (fun k hk e => by
          have e2 : k = q := e
          have := HQ.out
          omega)
        have c53 := hL5.cell.2.2.2.1
        simp only at c53
        have h34 : w3.heap.size ≤ w4.heap.size := HB4.out.size
        have h45 : w4.heap.size ≤ w5.heap.size := hu5.size
        have hc3 : wc.heap.size ≤ w3.heap.size := HB3.out.size
        have HL5 := Lib.hid hL5
        have HS5 := Lib.hid hS5
        have HU5 := Lib.hid hU5
        clear hw5 hu5 hd5 hL5 hS5 hU5 hc42 hc43 hf42 hf43
        by_cases hcut : R2 < P.length
        · have dc : decide ((R2 : Int) < (P.length : Int)) = true := decide_eq_true (by omega)
          have dc2 : decide (R2 < P.length) = true := decide_eq_true hcut
          have htr := truncate_fsZ s (R2 : Int) HS5.out hM1
          obtain ⟨E3, hE3⟩ : ∃ E3, E3 = truncE M1 s (R2 : Int) := ⟨_, rfl⟩
          rw [← hE3] at htr
          have hoC : Hid (opCut M s h40 = true) := by unfold Hid opCut opR; rw [← HM1.out, hsome.out, hoP.out, ← HR2.out]; simpa using hcut
          have hoE : Hid (opE M s h40 = E3) := by unfold Hid opE; rw [if_neg (not_not_intro hoE1.out), hoC.out, ← HM1.out]; unfold opR; rw [hoP.out, ← HR2.out, hE3]; rfl
          have hoM : Hid (opM M s h40 = truncM M1 s (R2 : Int)) := by unfold Hid opM; rw [if_neg (not_not_intro hoE1.out), hoC.out, ← HM1.out]; unfold opR; rw [hoP.out, ← HR2.out]; rfl
          have hoL : Hid (opL M s h40 = ⟨s, (readsS P).1, R2, false⟩) := by unfold Hid opL opR; rw [hoP.out, ← HR2.out]
          have HE3 := Lib.hid hE3
          clear hE3 hcut
          by_cases h3 : E3 = 0
          · subst h3
            go_wp2_with (go_at_call 94; refine htr.mono ?_; rintro e w6 ⟨rfl, hS6, hu6⟩)
            go_ret2
            have hu56 := hu6.size
            obtain ⟨own', o1, o2, o3⟩ := tagged own i j w.heap.size w6.heap.size (more (fun k => Z2 k ∧ k < wc.heap.size) w5) (fun k => k = q ∨ (w3.heap.size ≤ k ∧ k < w4.heap.size))
              (fun k hk hz => hz.elim (fun h => (HZ2.out k h.1).elim (fun g => g.1) (fun g => by have := HQ.out; omega)) (fun g => by have := HQ.out; omega)) (fun k hk hz => by have := HQ.out; omega)
              (fun k hz e => by
                rcases hz with hz | hz
                · have := HZ2.out k hz.1; omega
                · omega)
            refine ⟨own', o1, by rw [hoM.out]; exact hS6.zone (fun k _ hz => o2 k hz), HU5.out.trans hu6 (fun k hk e => (HZ2.out k e.1).elim (fun g => g.1) (fun g => by have := HQ.out; omega)), .inl ⟨hoE.out, q, ⟨ra, rn, rc⟩, rvs, rfl, ?_⟩⟩
            rw [hoL.out]
            exact (HL5.out.upd hu6 (fun k hz _ e => by have := HZ2.out k e.1; have := e.2; omega)).zoned (fun k _ hz => o3 k hz)
          · have t1 : (E3 == 0) = false := by rw [beq_eq_false_iff_ne]; exact h3
            have H3 := Lib.hid h3
            clear h3
            go_wp2_with (go_at_call 94; refine htr.mono ?_; rintro e w6 ⟨rfl, hS6, hu6⟩)
            go_ret2
            obtain ⟨own', o1, o2, o3⟩ := tagged own i j w.heap.size w6.heap.size (more (fun k => Z2 k ∧ k < wc.heap.size) w5) (fun k => False)
              (fun k hk hz => hz.elim (fun h => (HZ2.out k h.1).elim (fun g => g.1) (fun g => by have := HQ.out; omega)) (fun g => by have := HQ.out; omega)) (fun k hk hz => hz.elim)
              (fun k hz e => e)
            refine ⟨own', o1, by rw [hoM.out]; exact hS6.zone (fun k _ hz => o2 k hz), HU5.out.trans hu6 (fun k hk e => (HZ2.out k e.1).elim (fun g => g.1) (fun g => by have := HQ.out; omega)), .inr ⟨by rw [hoE.out]; exact H3.out, by rw [hoE.out]; rfl⟩⟩
        · have dc : decide ((R2 : Int) < (P.length : Int)) = false := decide_eq_false (by omega)
          have dc2 : decide (R2 < P.length) = false := decide_eq_false hcut
          have hoC : Hid (opCut M s h40 = false) := by unfold Hid opCut opR; rw [← HM1.out, hsome.out, hoP.out, ← HR2.out]; simpa using hcut
          have hoE : Hid (opE M s h40 = 0) := by unfold Hid opE; rw [if_neg (not_not_intro hoE1.out), hoC.out]; rfl
          have hoM : Hid (opM M s h40 = M1) := by unfold Hid opM; rw [if_neg (not_not_intro hoE1.out), hoC.out, HM1.out]; rfl
          have hoL : Hid (opL M s h40 = ⟨s, (readsS P).1, R2, false⟩) := by unfold Hid opL opR; rw [hoP.out, ← HR2.out]
          clear hcut
          go_wp2_with fail
          go_ret2
          obtain ⟨own', o1, o2, o3⟩ := tagged own i j w.heap.size w5.heap.size (fun k => Z2 k ∧ k < wc.heap.size) (fun k => k = q ∨ (w3.heap.size ≤ k ∧ k < w4.heap.size))
            (fun k hk h => (HZ2.out k h.1).elim (fun g => g.1) (fun g => by have := HQ.out; omega)) (fun k hk hz => by have := HQ.out; omega)
            (fun k hz e => by have := HZ2.out k hz.1; have := hz.2; omega)
          refine ⟨own', o1, by rw [hoM.out]; exact HS5.out.zone (fun k _ hz => o2 k hz), HU5.out, .inl ⟨hoE.out, q, ⟨ra, rn, rc⟩, rvs, rfl, ?_⟩⟩
          rw [hoL.out]
          exact HL5.out.zoned (fun k _ hz => o3 k hz)
end
end Go.Proofs.Ytkiindgcbpkddaa
namespace Go.Proofs.Ytkiindgcbpkddaa
open Go.RowKit
/-- The power is on and stays; at most n acts were asked. -/
structure Pow (M : FsM) (n : Nat) : Prop where
  off : M.off = false
  cut : M.cut = false
  ops : 0 ≤ M.ops
  most : M.ops ≤ n
  left : M.left ≤ 0
  left2 : -M.ops ≤ M.left
  few : M.n ≤ n
section
variable {M : FsM} {n : Nat}
theorem Pow.zero : Pow fs0 0 := ⟨rfl, rfl, Int.le_refl _, Int.le_refl _, Int.le_refl _, Int.le_refl _, Nat.le_refl _⟩
theorem Pow.dark (h : Pow M n) : M.dark = false := by unfold FsM.dark; rw [h.off, h.cut]; rfl
theorem Pow.small (h : Pow M n) (hn : n ≤ 1000000000) : M.small := by
  have h1 := h.left; have h2 := h.ops; have h3 := h.few; have h4 := h.most; have h5 := h.left2
  unfold FsM.small
  omega
theorem Pow.mono (h : Pow M n) {m : Nat} (hm : n ≤ m) : Pow M m := ⟨h.off, h.cut, h.ops, by have := h.most; omega, h.left, h.left2, Nat.le_trans h.few hm⟩
theorem Pow.asked (h : Pow M n) : Pow M.asked (n + 1) := by
  have hd := h.dark
  have h1 := h.left; have h2 := h.ops; have h4 := h.most; have h5 := h.left2
  refine ⟨hd, h.cut, ?_, ?_, ?_, ?_, Nat.le_succ_of_le h.few⟩
  · show 0 ≤ M.ops + 1; omega
  · show M.ops + 1 ≤ ((n + 1 : Nat) : Int); omega
  · show (if M.dark then M.left else M.left - 1) ≤ 0; rw [hd]; simp; omega
  · show -(M.ops + 1) ≤ (if M.dark then M.left else M.left - 1); rw [hd]; simp; omega
theorem Pow.files (h : Pow M n) (F : Nm → Option (List UInt8 × Nat)) {k : Nat} (hk : k ≤ n) : Pow { M with files := F, n := k } n := ⟨h.off, h.cut, h.ops, h.most, h.left, h.left2, hk⟩
theorem Pow.askE (h : Pow M n) {ns : List Nm} (hok : ns.all okNm = true) : askE M ns = 0 := by
  unfold Go.Proofs.Ytkiindgcbpkddaa.askE
  rw [h.dark, hok]; rfl
theorem Pow.hasE (h : Pow M n) {s : Nm} {ns : List Nm} (hok : (s :: ns).all okNm = true) : hasE M s ns = if (M.files s).isSome then 0 else 5 := by
  unfold Go.Proofs.Ytkiindgcbpkddaa.hasE
  rw [h.askE hok, if_pos rfl]
theorem Pow.append (h : Pow M n) {s : Nm} {l : List UInt8} (hok : okNm s = true) (hl : ((M.files s).getD ([], 0)).1.length + l.length ≤ 16777216) :
    appE M s l.length = 0 ∧ Pow (appM M s l) (n + 1) ∧ (appM M s l).files = fun t => if t = s then some (((M.files s).getD ([], 0)).1 ++ l, ((M.files s).getD ([], 0)).2) else M.files t := by
  have he : appE M s l.length = 0 := by
    unfold appE
    rw [h.askE (by simp [hok]), if_pos rfl, if_neg]
    unfold oldF
    omega
  refine ⟨he, ?_, ?_⟩
  · unfold appM
    rw [if_pos he]
    exact h.asked.files _ (Nat.succ_le_succ h.few)
  · unfold appM
    rw [if_pos he]
    rfl
theorem Pow.sync (h : Pow M n) {s : Nm} (hok : okNm s = true) {x : List UInt8 × Nat} (hx : M.files s = some x) :
    Go.Proofs.Ytkiindgcbpkddaa.hasE M s [] = 0 ∧ Pow (syncM M s) (n + 1) ∧ (syncM M s).files = fun t => if t = s then some (x.1, x.1.length) else M.files t := by
  have he := h.hasE (s := s) (ns := []) (by simp [hok])
  rw [hx] at he
  simp only [Option.isSome_some, if_true] at he
  refine ⟨he, ?_, ?_⟩
  · unfold syncM
    rw [if_pos he]
    exact h.asked.files _ (Nat.le_succ_of_le h.few)
  · unfold syncM
    rw [if_pos he, hx]
    rfl
theorem Pow.rename (h : Pow M n) {s t : Nm} (hs : okNm s = true) (ht : okNm t = true) {x : List UInt8 × Nat} (hx : M.files s = some x) :
    Go.Proofs.Ytkiindgcbpkddaa.hasE M s [t] = 0 ∧ Pow (renameM M s t) (n + 1) ∧ (renameM M s t).files = fun u => if u = t then some x else if u = s then none else M.files u := by
  have he := h.hasE (s := s) (ns := [t]) (by simp [hs, ht])
  rw [hx] at he
  simp only [Option.isSome_some, if_true] at he
  refine ⟨he, ?_, ?_⟩
  · unfold renameM
    rw [if_pos he]
    exact h.asked.files _ (Nat.succ_le_succ h.few)
  · unfold renameM
    rw [if_pos he, hx]
    rfl
theorem Pow.remove (h : Pow M n) {s : Nm} (hs : okNm s = true) {x : List UInt8 × Nat} (hx : M.files s = some x) :
    Go.Proofs.Ytkiindgcbpkddaa.hasE M s [] = 0 ∧ Pow (removeM M s) (n + 1) ∧ (removeM M s).files = fun u => if u = s then none else M.files u := by
  have he := h.hasE (s := s) (ns := []) (by simp [hs])
  rw [hx] at he
  simp only [Option.isSome_some, if_true] at he
  refine ⟨he, ?_, ?_⟩
  · unfold removeM
    rw [if_pos he]
    exact h.asked.files _ (Nat.le_succ_of_le h.few)
  · unfold removeM
    rw [if_pos he]
    rfl
theorem Pow.truncate (h : Pow M n) {s : Nm} (hs : okNm s = true) {x : List UInt8 × Nat} (hx : M.files s = some x) {k : Nat} (hk : k ≤ x.1.length) :
    truncE M s k = 0 ∧ Pow (truncM M s k) (n + 1) ∧ (truncM M s k).files = fun u => if u = s then some (x.1.take k, min x.2 k) else M.files u := by
  have he := h.hasE (s := s) (ns := []) (by simp [hs])
  rw [hx] at he
  simp only [Option.isSome_some, if_true] at he
  have ht : truncE M s k = 0 := by
    unfold truncE
    rw [if_pos he, hx, if_neg]
    simp only [Option.getD_some]
    omega
  refine ⟨ht, ?_, ?_⟩
  · unfold truncM
    rw [if_pos ht]
    exact h.asked.files _ (Nat.le_succ_of_le h.few)
  · unfold truncM
    rw [if_pos ht, hx]
    simp only [Option.map_some, Int.toNat_natCast]
    rfl
end
/-! ### behind a crash -/
theorem crash_at (files : Nm → Option (List UInt8 × Nat)) (s : Nm) (hs : ∀ x, files s = some x → x.2 ≤ x.1.length) : ∀ (ns : List Nm) (a : (Nm → Option (List UInt8 × Nat)) × List Int), s ∈ ns → ns.Nodup → (∃ x, files s = some x) →
    ∃ x k, files s = some x ∧ x.2 ≤ k ∧ k ≤ x.1.length ∧ (ns.foldl (crashStep files) a).1 s = some (x.1.take k, k)
  | [], a, h, _, _ => by simp at h
  | t :: ns, a, h, hn, hx => by
    obtain ⟨x, hx⟩ := hx
    have hn2 := List.nodup_cons.1 hn
    rw [List.foldl_cons]
    by_cases e : s = t
    · subst e
      have hk : (ns.foldl (crashStep files) (crashStep files a s)).1 s = (crashStep files a s).1 s := by
        have key : ∀ (ns : List Nm) (b : (Nm → Option (List UInt8 × Nat)) × List Int), s ∉ ns → (ns.foldl (crashStep files) b).1 s = b.1 s := by
          intro ns
          induction ns with
          | nil => intro b _; rfl
          | cons u ns ih =>
            intro b hu
            rw [List.foldl_cons, ih _ (fun h => hu (List.mem_cons_of_mem _ h))]
            show (if s = u then _ else b.1 s) = _
            rw [if_neg (fun e => hu (by rw [e]; exact List.mem_cons_self))]
        exact key ns _ hn2.1
      rw [hk]
      have h1 : (crashStep files a s).1 s = some ((((files s).getD ([], 0)).1.take (crashOne ((files s).getD ([], 0)) a.2).1), (crashOne ((files s).getD ([], 0)) a.2).1) := by unfold crashStep; exact if_pos rfl
      rw [h1, hx]
      simp only [Option.getD_some]
      have hle := crashOne_le x a.2 (hs x hx)
      have hge : x.2 ≤ (crashOne x a.2).1 := by
        unfold crashOne
        split
        · exact Nat.le_refl _
        · split
          · exact Nat.le_add_right _ _
          · exact Nat.le_refl _
      exact ⟨x, _, rfl, hge, hle, rfl⟩
    · have hm : s ∈ ns := by
        rcases List.mem_cons.1 h with h | h
        · exact absurd h e
        · exact h
      exact crash_at files s hs ns _ hm hn2.2 ⟨x, hx⟩
theorem crash_no (files : Nm → Option (List UInt8 × Nat)) (s : Nm) : ∀ (ns : List Nm) (b : (Nm → Option (List UInt8 × Nat)) × List Int), s ∉ ns → (ns.foldl (crashStep files) b).1 s = b.1 s
  | [], b, _ => rfl
  | u :: ns, b, hu => by
    rw [List.foldl_cons, crash_no files s ns _ (fun h => hu (List.mem_cons_of_mem _ h))]
    show (if s = u then _ else b.1 s) = _
    rw [if_neg (fun e => hu (by rw [e]; exact List.mem_cons_self))]
section
variable {M : FsM} {ns : List Nm} {ps : List Int}
theorem crash_files (h : NamesOf M ns) (s : Nm) (hs : ∀ x, M.files s = some x → x.2 ≤ x.1.length) : (M.files s = none ∧ (crashM M ns ps).files s = none) ∨ ∃ x k, M.files s = some x ∧ x.2 ≤ k ∧ k ≤ x.1.length ∧ (crashM M ns ps).files s = some (x.1.take k, k) := by
  cases hf : M.files s with
  | none =>
    refine .inl ⟨rfl, ?_⟩
    have : s ∉ ns := fun hm => by have := (h.mem s).1 hm; rw [hf] at this; cases this
    exact crash_no M.files s ns _ this
  | some x =>
    refine .inr ?_
    have hm : s ∈ ns := (h.mem s).2 (by rw [hf]; rfl)
    obtain ⟨y, k, h1, h2, h3, h4⟩ := crash_at M.files s hs ns (fun _ => none, ps) hm h.nodup ⟨x, hf⟩
    rw [hf] at h1
    cases h1
    exact ⟨x, k, rfl, h2, h3, h4⟩
theorem Pow.crash (h : NamesOf M ns) : Pow (crashM M ns ps) ns.length := ⟨rfl, rfl, Int.le_refl _, by show (0 : Int) ≤ _; omega, Int.le_refl _, Int.le_refl _, Nat.le_refl _⟩
end
/-! ### a log over its files -/
theorem tmp_ne (s : Nm) (h : s.1.size ≤ 40) : tmpN s h ≠ s := by
  intro e
  have h2 : (tmpN s h).1.size = s.1.size := by rw [e]
  have h3 : (tmpN s h).1.size = s.1.size + 4 := by
    show (s.1 ++ tailB).size = _
    rw [ByteArray.size_append]; rfl
  omega
theorem tmp_ok (s : Nm) (h : s.1.size ≤ 40) : okNm (tmpN s h) = true := by
  have h3 : (tmpN s h).1.size = s.1.size + 4 := by
    show (s.1 ++ tailB).size = _
    rw [ByteArray.size_append]; rfl
  unfold okNm
  rw [h3]
  exact decide_eq_true (by omega)
/-- The file that a log's records make. -/
def fileOf (M : FsM) (s : Nm) (rs : List (List UInt8)) : Prop := (rs = [] ∧ M.files s = none) ∨ M.files s = some (framesS rs, (framesS rs).length)
structure LogOk (M : FsM) (L : LogM) : Prop where
  name : L.name.1.size ≤ 40
  some_ : 1 ≤ L.name.1.size
  live : L.dead = false
  file : fileOf M L.name L.recs
  size : L.size = (framesS L.recs).length
  tmp : M.files (tmpN L.name name) = none
  recs : ∀ b ∈ L.recs, b.length ≤ 1048576
theorem okName {s : Nm} (h : s.1.size ≤ 40) (h1 : 1 ≤ s.1.size) : okNm s = true := decide_eq_true ⟨h1, by omega⟩
theorem fileOf.get {M : FsM} {s : Nm} {rs : List (List UInt8)} (h : fileOf M s rs) : ((M.files s).getD ([], 0)) = (framesS rs, (framesS rs).length) := by
  rcases h with ⟨h1, h2⟩ | h
  · rw [h2, h1]; rfl
  · rw [h]; rfl
section
variable {M : FsM} {L : LogM} {n : Nat}
/-- A record put behind the others. -/
theorem LogOk.append (h : LogOk M L) (hp : Pow M n) (b : List UInt8) (hb : b.length ≤ 1048576) (hsz : (framesS (L.recs ++ [b])).length ≤ 16777216) :
    wapE M L b = 0 ∧ wapL M L b = { L with recs := L.recs ++ [b], size := L.size + (frameS b).length } ∧ Pow (appM M L.name (frameS b)) (n + 1) ∧ Pow (wapM M L b) (n + 2) ∧ LogOk (wapM M L b) (wapL M L b) ∧ ∀ t, t ≠ L.name → (wapM M L b).files t = M.files t := by
  have hg := h.file.get
  have hok := okName h.name h.some_
  have hfs : framesS (L.recs ++ [b]) = framesS L.recs ++ frameS b := by rw [framesS_append, framesS_one]
  rw [hfs, List.length_append] at hsz
  obtain ⟨a1, a2, a3⟩ := hp.append (s := L.name) (l := frameS b) hok (by rw [hg]; exact hsz)
  rw [hg] at a3
  have hx : (appM M L.name (frameS b)).files L.name = some (framesS L.recs ++ frameS b, (framesS L.recs).length) := by rw [a3]; exact if_pos rfl
  obtain ⟨b1, b2, b3⟩ := a2.sync hok hx
  have hE : wapE M L b = 0 := by unfold wapE; rw [if_pos a1, b1]
  have hL : wapL M L b = { L with recs := L.recs ++ [b], size := L.size + (frameS b).length } := by unfold wapL; rw [if_pos hE]
  have hM : wapM M L b = syncM (appM M L.name (frameS b)) L.name := by unfold wapM; rw [if_pos a1]
  have hother : ∀ t, t ≠ L.name → (wapM M L b).files t = M.files t := by
    intro t ht
    rw [hM, b3, a3]
    simp only [if_neg ht]
  refine ⟨hE, hL, a2, by rw [hM]; exact b2, ?_, hother⟩
  rw [hL]
  refine ⟨h.name, h.some_, h.live, .inr ?_, ?_, ?_, ?_⟩
  · rw [hM, b3, hfs]
    exact if_pos rfl
  · simp only [hfs, List.length_append, h.size]
  · exact (hother _ (tmp_ne _ _)).trans h.tmp
  · intro c hc
    rcases List.mem_append.1 hc with hc | hc
    · exact h.recs c hc
    · rw [List.mem_singleton.1 hc]; exact hb
/-- A file that reads as records and no more: opened, it is they. -/
theorem open_ok (s : Nm) (h40 : s.1.size ≤ 40) (rs : List (List UInt8)) (hf : fileOf M s rs) (ht : M.files (tmpN s h40) = none) (hr : ∀ b ∈ rs, b.length ≤ 1048576) :
    opE M s h40 = 0 ∧ opM1 M s h40 = M ∧ opM M s h40 = M ∧ opL M s h40 = ⟨s, rs, (framesS rs).length, false⟩ := by
  have hs : safeE M (tmpN s h40) = -1 := by unfold safeE; rw [ht]
  have h1 : opM1 M s h40 = M := by unfold opM1; rw [hs]; rfl
  have h0 : opE1 M s h40 = 0 := by unfold opE1; rw [hs]; rfl
  have hP : opP M s h40 = framesS rs := by unfold opP; rw [h1, hf.get]
  have hR : opR M s h40 = (rs, (framesS rs).length) := by
    unfold opR
    rw [hP]
    have := readsS_frames [] rd1_nil rs hr
    rwa [List.append_nil] at this
  have hC : opCut M s h40 = false := by
    unfold opCut
    rw [hR, hP]
    simp
  refine ⟨?_, h1, ?_, ?_⟩
  · unfold opE; rw [h0, hC]; rfl
  · unfold opM; rw [h0, hC, h1]; rfl
  · unfold opL; rw [hR]
theorem LogOk.opened (h : LogOk M L) : opE M L.name h.name = 0 ∧ opM1 M L.name h.name = M ∧ opM M L.name h.name = M ∧ opL M L.name h.name = L := by
  obtain ⟨a, b, c, d⟩ := open_ok L.name h.name L.recs h.file h.tmp h.recs
  refine ⟨a, b, c, d.trans ?_⟩
  have e := h.size
  have f := h.live
  obtain ⟨name, recs, size, dead⟩ := L
  simp only at e f
  rw [e, f]
/-- Behind a crash the log is the same. -/
theorem LogOk.crash (h : LogOk M L) {ns : List Nm} (hn : NamesOf M ns) (ps : List Int) : LogOk (crashM M ns ps) L := by
  refine ⟨h.name, h.some_, h.live, ?_, h.size, ?_, h.recs⟩
  · rcases h.file with ⟨h1, h2⟩ | h1
    · rcases crash_files (ps := ps) hn L.name (fun x hx => by rw [h2] at hx; cases hx) with ⟨_, g⟩ | ⟨x, k, g, _⟩
      · exact .inl ⟨h1, g⟩
      · rw [h2] at g; cases g
    · rcases crash_files (ps := ps) hn L.name (fun x hx => by rw [h1] at hx; cases hx; exact Nat.le_refl _) with ⟨g, _⟩ | ⟨x, k, g, g2, g3, g4⟩
      · rw [h1] at g; cases g
      · rw [h1] at g
        cases g
        simp only at g2 g3
        have : k = (framesS L.recs).length := by omega
        subst this
        rw [List.take_length] at g4
        exact .inr g4
  · rcases crash_files (ps := ps) hn (tmpN L.name h.name) (fun x hx => by rw [h.tmp] at hx; cases hx) with ⟨_, g⟩ | ⟨x, k, g, _⟩
    · exact g
    · rw [h.tmp] at g; cases g
/-- Files that are not the log's may change. -/
theorem LogOk.other (h : LogOk M L) {M' : FsM} (h1 : M'.files L.name = M.files L.name) (h2 : M'.files (tmpN L.name h.name) = M.files (tmpN L.name h.name)) : LogOk M' L :=
  ⟨h.name, h.some_, h.live, by unfold fileOf; rw [h1]; exact h.file, h.size, h2.trans h.tmp, h.recs⟩
theorem LogOk.new (s : Nm) (h40 : s.1.size ≤ 40) (h1 : 1 ≤ s.1.size) (hs : M.files s = none) (ht : M.files (tmpN s h40) = none) : LogOk M ⟨s, [], 0, false⟩ := ⟨h40, h1, rfl, .inl ⟨rfl, hs⟩, rfl, ht, fun b hb => by simp at hb⟩
end
end Go.Proofs.Ytkiindgcbpkddaa
namespace Go.Proofs.Ytkiindgcbpkddaa
open Go.RowKit Go.Sort
theorem reset_nolog (w : World) : Calls Try.prog 45 #[.pointer none, .slice none 0 0] w fun e w' => e = .returned (.int .i64 7) ∧ Below w.heap.size w w' := by
  have hd := fun W : World => dead_nolog W
  have h0 : Below w.heap.size w ((w.alloc (.cells #[.pointer none] 92)).alloc (.cells #[.slice none 0 0] 102)) := ((Below.refl _ w).alloc (Nat.le_refl _) _).alloc (by simp) _
  go_enter Try.func45, Try.ntmps45
  go_wp2_with fail
  go_loop [16] (fun v => v = .int .i64 0) (fun _ => 0)
  case atStart => rfl
  case round =>
    subst hrel
    go_wp2_with (go_at_call 49; refine (hd _).mono ?_; rintro e w1 ⟨rfl, rfl⟩)
    go_ret
    exact ⟨rfl, h0⟩
end Go.Proofs.Ytkiindgcbpkddaa
namespace Go.Proofs.Ytkiindgcbpkddaa
open Go.RowKit
/-- What was there at the beginning has no owner. -/
def Fresh (own : Nat → Nat) (n : Nat) : Prop := ∀ k, k < n → own k = 0
section
variable {own own' : Nat → Nat} {n m i j : Nat} {w w' : World}
theorem Fresh.same (h : Fresh own n) (s : SameO own own' m) (hm : n ≤ m) : Fresh own' n := fun k hk => (s k (by omega)).trans (h k hk)
theorem Fresh.setO (h : Fresh own n) (hm : n ≤ m) (i : Nat) : Fresh (setO own m i) n := fun k hk => (setO_old (by omega)).trans (h k hk)
theorem Fresh.below (h : Fresh own n) (hu : Upd w w' (fun k => own k = i)) (hi : i ≠ 0) (hn : n ≤ w.heap.size) : Below n w w' :=
  hu.below hn (fun k hk => by
    rcases Nat.lt_or_ge k n with g | g
    · exact absurd ((h k g).symm.trans hk) (fun e => hi e.symm)
    · exact g)
theorem Fresh.below2 (h : Fresh own n) (hu : Upd w w' (fun k => own k = i ∨ own k = j)) (hi : i ≠ 0) (hj : j ≠ 0) (hn : n ≤ w.heap.size) : Below n w w' :=
  hu.below hn (fun k hk => by
    rcases Nat.lt_or_ge k n with g | g
    · have h0 := h k g
      rcases hk with e | e
      · exact absurd (h0.symm.trans e) (fun e => hi e.symm)
      · exact absurd (h0.symm.trans e) (fun e => hj e.symm)
    · exact g)
theorem fsAt.retag {p : Nat} {M : FsM} (h : fsAt w (zn own i) p M) {N : Nat} (hN : w.heap.size ≤ N) (m : Nat) : fsAt w (zn (Go.Proofs.Ytkiindgcbpkddaa.setO own N m) i) p M := h.zone (fun k hk hz => (setO_old (by omega)).trans hz)
/-- A log somewhere. -/
def OneLog (w : World) (own : Nat → Nat) (j q p : Nat) (L : LogM) : Prop := ∃ s vs, LogAt w (zn own j) q p s vs L
theorem OneLog.retag {q p : Nat} {L : LogM} (h : OneLog w own j q p L) {N : Nat} (hN : w.heap.size ≤ N) (m : Nat) : OneLog w (Go.Proofs.Ytkiindgcbpkddaa.setO own N m) j q p L := by
  obtain ⟨s, vs, h⟩ := h
  exact ⟨s, vs, h.zoned (fun k hk hz => (setO_old (by omega)).trans hz)⟩
theorem OneLog.keep {q p : Nat} {L : LogM} (h : OneLog w own j q p L) (hb : Below w.heap.size w w') : OneLog w' own j q p L := by
  obtain ⟨s, vs, h⟩ := h
  exact ⟨s, vs, h.keep hb⟩
/-- Another thing's deed. -/
theorem OneLog.upd {q p : Nat} {L : LogM} {S : Nat → Prop} (h : OneLog w own j q p L) (hs : SameO own own' w.heap.size) (hu : Upd w w' S) (hS : ∀ k, own k = j → ¬ S k) : OneLog w' own' j q p L := by
  obtain ⟨s, vs, h⟩ := h
  exact ⟨s, vs, ((h.zoned (Y := fun k => own k = j ∧ k < w.heap.size) (fun k hk hz => ⟨hz, hk⟩)).upd hu (fun k hz _ => hS k hz.1)).zoned (fun k _ hz => (hs k hz.2).trans hz.1)⟩
theorem fsAt.turn {p : Nat} {M : FsM} {S : Nat → Prop} (h : fsAt w (zn own i) p M) (hs : SameO own own' w.heap.size) (hu : Upd w w' S) (hS : ∀ k, own k = i → ¬ S k) : fsAt w' (zn own' i) p M :=
  ((h.zone (T := fun k => own k = i ∧ k < w.heap.size) (fun k hk hz => ⟨hz, hk⟩)).upd hu (fun k hz _ => hS k hz.1)).zone (fun k _ hz => (hs k hz.2).trans hz.1)
theorem bytesZ.turn {S V : Nat → Prop} {v : Sl} {l : List UInt8} (h : bytesZ w V v l) (hu : Upd w w' S) (hS : ∀ k, V k → ¬ S k) : bytesZ w' V v l := h.upd hu (fun k hz _ => hS k hz)
def LogM.put (L : LogM) (b : List UInt8) : LogM := { L with recs := L.recs ++ [b], size := L.size + (frameS b).length }
theorem frames_count (rs : List (List UInt8)) : 9 * rs.length ≤ (framesS rs).length := by
  induction rs with
  | nil => simp [framesS]
  | cons b rs ih =>
    have e : framesS (b :: rs) = frameS b ++ framesS rs := by simp [framesS]
    rw [e, List.length_append, frameS_length, List.length_cons]
    have := putS_pos b.length
    omega
variable {p q n : Nat} {M : FsM} {L : LogM}
theorem log_append {V : Nat → Prop} {v : Sl} {b : List UInt8} (hij : i ≠ j) (hF : fsAt w (zn own i) p M) (hP : Pow M n) (hL : OneLog w own j q p L) (hO : LogOk M L) (hn : n + 2 ≤ 1000000000) (hv : bytesZ w V v b) (hV : ∀ k, V k → own k ≠ i ∧ own k ≠ j)
    (hb : b.length ≤ 1048576) (hsz : (framesS (L.recs ++ [b])).length ≤ 16777216) :
    Calls Try.prog 43 #[.pointer (some ⟨q, 0, none⟩), .slice v.a v.n v.c] w fun e w' => e = .returned (.int .i64 0) ∧ ∃ own', SameO own own' w.heap.size ∧ fsAt w' (zn own' i) p (wapM M L b) ∧ OneLog w' own' j q p (L.put b) ∧ Upd w w' (fun k => own k = i ∨ own k = j) := by
  obtain ⟨s, vs, hL⟩ := hL
  obtain ⟨a1, a2, a3, a4, a5, a6⟩ := hO.append hP b hb hsz
  have hc := frames_count (L.recs ++ [b])
  have hfl : (framesS L.recs).length ≤ 16777216 := by rw [framesS_append, List.length_append] at hsz; omega
  refine (append_log v b V hij hF (hP.small (by omega)) (a3.small (by omega)) hL hO.live (by rw [hO.size]; omega) (by simp at hc; omega) hv hV (by unfold bigB; exact decide_eq_false (by omega))).mono ?_
  rintro e w' ⟨own', s', vs', rfl, b1, b2, b3, b4⟩
  refine ⟨by rw [a1], own', b1, b2, ⟨s', vs', ?_⟩, b4⟩
  rw [a2] at b3
  exact b3
theorem log_open (s : Nm) (h40 : s.1.size ≤ 40) (h1 : 1 ≤ s.1.size) (rs : List (List UInt8)) (hij : i ≠ j) (hF : fsAt w (zn own i) p M) (hP : Pow M n) (hn : n ≤ 1000000000) (hf : fileOf M s rs) (ht : M.files (tmpN s h40) = none) (hr : ∀ b ∈ rs, b.length ≤ 1048576) :
    Calls Try.prog 39 #[.pointer (some ⟨p, 0, none⟩), .string s.1] w fun e w' => ∃ q, e = .returned (.tuple #[.pointer (some ⟨q, 0, none⟩), .int .i64 0]) ∧ ∃ own', SameO own own' w.heap.size ∧ fsAt w' (zn own' i) p M ∧ OneLog w' own' j q p ⟨s, rs, (framesS rs).length, false⟩ ∧ Upd w w' (fun k => own k = i) := by
  obtain ⟨a1, a2, a3, a4⟩ := open_ok s h40 rs hf ht hr
  refine (open_wal s h40 h1 hij hF (hP.small hn) (by rw [a2]; exact hP.small hn)).mono ?_
  rintro e w' ⟨own', b1, b2, b3, b4⟩
  rw [a3] at b2
  rcases b4 with ⟨_, q, sl, vs, rfl, b5⟩ | ⟨b5, _⟩
  · rw [a4] at b5
    exact ⟨q, rfl, own', b1, b2, ⟨sl, vs, b5⟩, b3⟩
  · exact absurd a1 b5
theorem log_has {Y : Nat → Prop} (ws : Sl) (wvs : List Sl) (want : List (List UInt8)) (h : OneLog w own j q p L) (hO : ∀ b ∈ L.recs, b.length ≤ 1048576) (hsz : (framesS L.recs).length ≤ 16777216) (hw : listsZ w Y ws wvs want) :
    Calls Try.prog 42 #[.pointer (some ⟨q, 0, none⟩), .slice ws.a ws.n ws.c] w fun e w' => e = .returned (.bool (decide (L.recs = want))) ∧ Below w.heap.size w w' := by
  obtain ⟨s, vs, h⟩ := h
  have hc := frames_count L.recs
  have hr : L.recs.length ≤ 100000000 := by omega
  exact has_log ws wvs want h hr (fun b hb => by have := hO b hb; omega) hw
end
end Go.Proofs.Ytkiindgcbpkddaa
namespace Go.Proofs.Ytkiindgcbpkddaa
open Go.RowKit
def nW : Nm := ⟨⟨#[119]⟩, by decide⟩
theorem nW40 : nW.1.size ≤ 40 := by decide
def oneB : List UInt8 := [111, 110, 101]
theorem oneB_len : (framesS ([] ++ [oneB])).length ≤ 16777216 := by
  have e : framesS ([] ++ [oneB]) = frameS oneB := by simp [framesS]
  rw [e, frameS_length]
  have := putS_le oneB.length
  have h3 : oneB.length = 3 := rfl
  omega
theorem one_const (w : World) (fr : Nat × Nat) (C : Array Value) (hC : C = (byteVs oneB).toArray) : bytesZ (w.alloc (.cells C 5 fr)) (fun k => k = w.heap.size) ⟨some ⟨w.heap.size, 0, none⟩, 3, 3⟩ oneB := by
  have h := bytes_const w C fr oneB 3 3 rfl hC
  refine ⟨h.1, Nat.le_refl _, fun hl => ?_⟩
  obtain ⟨b, off, ha, hb, hc⟩ := h.2 hl
  simp only [Option.some.injEq, Addr.mk.injEq, and_true] at ha
  exact ⟨b, off, by rw [ha.1, ha.2], ha.1.symm, hb, hc⟩
set_option maxRecDepth 100000 in
set_option maxHeartbeats 4000000 in
theorem awake8 (w : World) : Calls Try.prog 37 #[] w fun e w' => e = .returned (.bool true) ∧ Below w.heap.size w w' := by
  have kc := fun (w : World) (C : Array Value) (n c : Nat) => Lib.run_convert_bytes_const (P := Try.prog) w 102 5 C n c Try.underlying102 Try.underlying5
  go_enter Try.func37, Try.ntmps37
  go_wp2_with fail
  refine (new_fs w).mono ?_
  rintro e w1 ⟨p, rfl, h1, b1⟩
  have F0 : Fresh (setO (fun _ => 0) w.heap.size 1) w.heap.size := fun k hk => setO_old hk
  have hF1 : fsAt w1 (zn (setO (fun _ => 0) w.heap.size 1) 1) p fs0 := h1.zone (fun k hk hz => setO_new hz)
  have ho := log_open (j := 2) nW nW40 (by decide) [] (by decide) hF1 Pow.zero (by decide) (.inl ⟨rfl, rfl⟩) rfl (by simp)
  have B1 := Lib.hid b1
  have HF0 := Lib.hid F0
  clear h1 b1 hF1 F0
  go_wp2_with fail
  refine ho.mono ?_
  rintro e w2 ⟨q, rfl, own, s2, hF2, hL2, u2⟩
  have F2 := HF0.out.same s2 B1.out.size
  have b2 := B1.out.trans (HF0.out.below u2 (by decide) B1.out.size)
  have HF2 := Lib.hid hF2
  have HL2 := Lib.hid hL2
  have HFr2 := Lib.hid F2
  have B2 := Lib.hid b2
  clear ho s2 hF2 hL2 u2 F2 b2 HF0 B1
  go_wp2_with fail
  refine (open_nofile ⟨#[119]⟩ _).mono ?_
  rintro e w3 ⟨rfl, rfl⟩
  go_wp2_with fail
  refine (open_noname ⟨p, 0, none⟩ _).mono ?_
  rintro e w3 ⟨rfl, rfl⟩
  go_wp2_with fail
  obtain ⟨w3, hw3⟩ : ∃ w3, w3 = w2.alloc (.cells #[.int .u8 111, .int .u8 110, .int .u8 101] 5 (3, 4)) := ⟨_, rfl⟩
  rw [← hw3]
  have hb3 : Below w2.heap.size w2 w3 := hw3 ▸ (Below.refl _ _).alloc (Nat.le_refl _) _
  have hv3 : bytesZ w3 (fun k => k = w2.heap.size) ⟨some ⟨w2.heap.size, 0, none⟩, 3, 3⟩ oneB := hw3 ▸ one_const w2 (3, 4) _ rfl
  have hO2 : LogOk fs0 ⟨nW, [], (framesS []).length, false⟩ := LogOk.new nW nW40 (by decide) rfl rfl
  have hF3 : fsAt w3 (zn (setO own w2.heap.size 0) 1) p fs0 := (HF2.out.retag (Nat.le_refl _) 0).below hb3
  have hL3 : OneLog w3 (setO own w2.heap.size 0) 2 q p ⟨nW, [], (framesS []).length, false⟩ := (HL2.out.retag (Nat.le_refl _) 0).keep hb3
  have hap := log_append (i := 1) (j := 2) (by decide) hF3 Pow.zero hL3 hO2 (by decide) hv3 (fun k hk => by rw [show k = w2.heap.size from hk, setO_new (Nat.le_refl _)]; decide) (by decide) oneB_len
  obtain ⟨A1, A2, A3, A4, A5, A6⟩ := hO2.append Pow.zero oneB (by decide) oneB_len
  rw [A2] at A5
  have HFr3 := Lib.hid (HFr2.out.setO B2.out.size 0)
  have B3 := Lib.hid (B2.out.trans (hb3.mono B2.out.size))
  clear hw3 hb3 hv3 hF3 hL3 A1 A2 A3 A6 hO2
  obtain ⟨M4, hM4⟩ : ∃ M4, M4 = wapM fs0 ⟨nW, [], (framesS []).length, false⟩ oneB := ⟨_, rfl⟩
  obtain ⟨L4, hL4e⟩ : ∃ L4, L4 = LogM.put ⟨nW, [], (framesS []).length, false⟩ oneB := ⟨_, rfl⟩
  have hO4 : LogOk M4 L4 := by rw [hM4, hL4e]; exact A5
  have hP4 : Pow M4 2 := hM4 ▸ A4
  have hR4 : L4.recs = [oneB] := by rw [hL4e]; rfl
  have hN4 : L4.name = nW := by rw [hL4e]; rfl
  have hS4 : L4.size = (framesS [oneB]).length := by rw [hO4.size, hR4]
  rw [← hM4, ← hL4e] at hap
  have HO4 := Lib.hid hO4
  have HP4 := Lib.hid hP4
  have HR4 := Lib.hid hR4
  have HN4 := Lib.hid hN4
  have HS4 := Lib.hid hS4
  clear A4 A5 hM4 hL4e hO4 hP4 hR4 hN4 hS4
  refine hap.mono ?_
  rintro e w4 ⟨rfl, own4, s4, hF4, hL4, u4⟩
  have F4 := HFr3.out.same s4 B3.out.size
  have b4 := B3.out.trans (HFr3.out.below2 u4 (by decide) (by decide) B3.out.size)
  have hcr := crash_file _ p M4 ⟨none, 0, 0⟩ [] w4 hF4 (HP4.out.small (by decide)) ⟨rfl, Nat.le_refl _, fun h => absurd rfl h⟩ (by simp)
  have HL4 := Lib.hid hL4
  have HF4 := Lib.hid F4
  have B4 := Lib.hid b4
  clear hap s4 hF4 hL4 u4 F4 b4 HFr3 B3
  go_wp2_with fail
  refine hcr.mono ?_
  rintro e w5 ⟨p2, ns, rfl, hns, hF5, hb5⟩
  have hO5 := HO4.out.crash hns ([] : List Int)
  have hF5' : fsAt w5 (zn (setO own4 w4.heap.size 3) 3) p2 (crashM M4 ns []) := hF5.zone (fun k hk hz => setO_new hz)
  have hL5 : OneLog w5 (setO own4 w4.heap.size 3) 2 q p L4 := (HL4.out.retag (Nat.le_refl _) 3).keep hb5
  have hfile : fileOf (crashM M4 ns []) nW [oneB] := by have := hO5.file; rw [HN4.out, HR4.out] at this; exact this
  have htmp : (crashM M4 ns []).files (tmpN nW nW40) = none := by have := hO5.tmp; simp only [HN4.out] at this; exact this
  have HO5 := Lib.hid (hO5)
  have HFr5 := Lib.hid (HF4.out.setO B4.out.size 3)
  have B5 := Lib.hid (B4.out.trans (hb5.mono B4.out.size))
  have ho := log_open (i := 3) (j := 4) nW nW40 (by decide) [oneB] (by decide) hF5' (Pow.crash hns) hns.size hfile htmp (by simp [oneB])
  have HL5 := Lib.hid hL5
  have hp5 : (Pow (crashM M4 ns []) ns.length) := Pow.crash hns
  clear hcr hns hO5 hF5 hb5 hF5' hL5 hfile htmp HF4 B4 HL4 hp5
  go_wp2_with fail
  refine ho.mono ?_
  rintro e w6 ⟨q2, rfl, own6, s6, hF6, hL6, u6⟩
  have b6 := B5.out.trans (HFr5.out.below u6 (by decide) B5.out.size)
  have hLl : OneLog w6 own6 2 q p L4 := HL5.out.upd s6 u6 (fun k h e => by have : (2 : Nat) = 3 := h.symm.trans e; omega)
  have HL6 := Lib.hid hL6
  have HLl := Lib.hid hLl
  have B6 := Lib.hid b6
  clear ho s6 hF6 hL6 u6 b6 hLl HL5 HFr5 B5
  go_wp2_with fail
  have hbX : Below w6.heap.size w6 (w6.alloc (.cells #[.int .u8 111, .int .u8 110, .int .u8 101] 5 (3, 4))) := (Below.refl _ _).alloc (Nat.le_refl _) _
  have hv6 : bytesZ (w6.alloc (.cells #[.int .u8 111, .int .u8 110, .int .u8 101] 5 (3, 4))) (fun k => k = w6.heap.size) ⟨some ⟨w6.heap.size, 0, none⟩, 3, 3⟩ oneB := one_const w6 (3, 4) _ rfl
  obtain ⟨X, hX⟩ : ∃ X, X = w6.alloc (.cells #[.int .u8 111, .int .u8 110, .int .u8 101] 5 (3, 4)) := ⟨_, rfl⟩
  have hXs : X.heap.size = w6.heap.size + 1 := by rw [hX]; simp
  rw [← hX] at hbX hv6 ⊢
  have hbY : Below X.heap.size X (X.alloc (.cells #[.slice (some ⟨w6.heap.size, 0, none⟩) 3 3] 102)) := (Below.refl _ _).alloc (Nat.le_refl _) _
  have hws : listsZ (X.alloc (.cells #[.slice (some ⟨w6.heap.size, 0, none⟩) 3 3] 102)) (fun _ => True) ⟨some ⟨w6.heap.size + 1, 0, none⟩, 1, 1⟩ [⟨some ⟨w6.heap.size, 0, none⟩, 3, 3⟩] [oneB] := by
    have hblk := heap_alloc_new X (.cells #[.slice (some ⟨w6.heap.size, 0, none⟩) 3 3] 102)
    rw [hXs] at hblk
    refine ⟨rfl, Nat.le_refl _, rfl, fun _ => ⟨w6.heap.size + 1, 0, rfl, trivial, (cells_known hblk).2.2, fun k hk => ?_⟩, fun k h1 h2 => ?_⟩
    · have : k = 0 := by simpa using hk
      subst this
      rw [(cells_known hblk).1]; rfl
    · have : k = 0 := by simpa using h1
      subst this
      exact (hv6.keep hbY).zone (fun _ _ _ => trivial)
  have hone : (framesS [oneB]).length ≤ 16777216 := oneB_len
  have hhas := log_has ⟨some ⟨w6.heap.size + 1, 0, none⟩, 1, 1⟩ _ [oneB] ((HL6.out.keep hbX).keep hbY) (by simp [oneB]) hone hws
  simp only [decide_true] at hhas
  have hLY := (HLl.out.keep hbX).keep hbY
  have B7 := Lib.hid (B6.out.trans ((hbX.trans (hbY.mono hbX.size)).mono B6.out.size))
  have HLY := Lib.hid hLY
  clear hbX hv6 hX hbY hws hone hLY
  refine hhas.mono ?_
  rintro e w7 ⟨rfl, b7⟩
  obtain ⟨sl, vs, hl7⟩ := HLY.out.keep b7
  have hdd := dead_log hl7
  have hby := bytes_log hl7
  rw [(HO4.out).live] at hdd
  have B8 := Lib.hid (B7.out.trans (b7.mono B7.out.size))
  have hsz : decide ((3 : Int) < (L4.size : Int)) = true := by
    refine decide_eq_true ?_
    rw [HS4.out]
    have e : framesS [oneB] = frameS oneB := by simp [framesS]
    rw [e, frameS_length]
    have h3 : oneB.length = 3 := rfl
    omega
  clear hhas b7 hl7 HL6 HLl HLY
  go_wp2_with fail
  refine hdd.mono ?_
  rintro e w8 ⟨rfl, rfl⟩
  go_wp2_with fail
  refine hby.mono ?_
  rintro e w8 ⟨rfl, rfl⟩
  clear hdd hby
  go_wp2_with fail
  refine (append_nolog _).mono ?_
  rintro e w8 ⟨rfl, rfl⟩
  go_wp2_with fail
  refine (dead_nolog _).mono ?_
  rintro e w8 ⟨rfl, rfl⟩
  go_wp2_with fail
  refine (reset_nolog _).mono ?_
  rintro e w9 ⟨rfl, b9⟩
  have B9 := Lib.hid (B8.out.trans (b9.mono B8.out.size))
  clear b9
  go_wp2_with fail
  refine (records_nolog _).mono ?_
  rintro e w8 ⟨rfl, rfl⟩
  go_wp2_with fail
  go_ret
  exact ⟨rfl, B9.out⟩
end Go.Proofs.Ytkiindgcbpkddaa
