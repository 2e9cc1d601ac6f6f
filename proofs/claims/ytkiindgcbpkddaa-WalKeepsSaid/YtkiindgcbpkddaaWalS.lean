/- Package coraclelaw8: what is awake. -/
import Derived.Test.YtkiindgcbpkddaaWalR
set_option linter.unusedSimpArgs false
set_option linter.unusedVariables false
namespace Go.Proofs.Ytkiindgcbpkddaa
open Go.RowKit
def nW : Nm := ⟨⟨#[119]⟩, by decide⟩
theorem nW40 : nW.1.size ≤ 40 := by decide
def oneB : List UInt8 := [111, 110, 101]
theorem oneB_len : (framesS ([] ++ [oneB])).length ≤ 16777216 := by
  have e : framesS ([] ++ [oneB]) = frameS oneB := by simp [framesS]
  rw [e, frameS_length]
  have := putS_le oneB.length
  have h3 : oneB.length = 3 := rfl
  omega
theorem one_const (w : World) (fr : Nat × Nat) (C : Array Value) (hC : C = (byteVs oneB).toArray) : bytesZ (w.alloc (.cells C 5 fr)) (fun k => k = w.heap.size) ⟨some ⟨w.heap.size, 0, none⟩, 3, 3⟩ oneB := by
  have h := bytes_const w C fr oneB 3 3 rfl hC
  refine ⟨h.1, Nat.le_refl _, fun hl => ?_⟩
  obtain ⟨b, off, ha, hb, hc⟩ := h.2 hl
  simp only [Option.some.injEq, Addr.mk.injEq, and_true] at ha
  exact ⟨b, off, by rw [ha.1, ha.2], ha.1.symm, hb, hc⟩
set_option maxRecDepth 100000 in
set_option maxHeartbeats 4000000 in
theorem awake8 (w : World) : Calls Try.prog 37 #[] w fun e w' => e = .returned (.bool true) ∧ Below w.heap.size w w' := by
  have kc := fun (w : World) (C : Array Value) (n c : Nat) => Lib.run_convert_bytes_const (P := Try.prog) w 102 5 C n c Try.underlying102 Try.underlying5
  go_enter Try.func37, Try.ntmps37
  go_wp2_with fail
  refine (new_fs w).mono ?_
  rintro e w1 ⟨p, rfl, h1, b1⟩
  have F0 : Fresh (setO (fun _ => 0) w.heap.size 1) w.heap.size := fun k hk => setO_old hk
  have hF1 : fsAt w1 (zn (setO (fun _ => 0) w.heap.size 1) 1) p fs0 := h1.zone (fun k hk hz => setO_new hz)
  have ho := log_open (j := 2) nW nW40 (by decide) [] (by decide) hF1 Pow.zero (by decide) (.inl ⟨rfl, rfl⟩) rfl (by simp)
  have B1 := Lib.hid b1
  have HF0 := Lib.hid F0
  clear h1 b1 hF1 F0
  go_wp2_with fail
  refine ho.mono ?_
  rintro e w2 ⟨q, rfl, own, s2, hF2, hL2, u2⟩
  have F2 := HF0.out.same s2 B1.out.size
  have b2 := B1.out.trans (HF0.out.below u2 (by decide) B1.out.size)
  have HF2 := Lib.hid hF2
  have HL2 := Lib.hid hL2
  have HFr2 := Lib.hid F2
  have B2 := Lib.hid b2
  clear ho s2 hF2 hL2 u2 F2 b2 HF0 B1
  go_wp2_with fail
  refine (open_nofile ⟨#[119]⟩ _).mono ?_
  rintro e w3 ⟨rfl, rfl⟩
  go_wp2_with fail
  refine (open_noname ⟨p, 0, none⟩ _).mono ?_
  rintro e w3 ⟨rfl, rfl⟩
  go_wp2_with fail
  obtain ⟨w3, hw3⟩ : ∃ w3, w3 = w2.alloc (.cells #[.int .u8 111, .int .u8 110, .int .u8 101] 5 (3, 4)) := ⟨_, rfl⟩
  rw [← hw3]
  have hb3 : Below w2.heap.size w2 w3 := hw3 ▸ (Below.refl _ _).alloc (Nat.le_refl _) _
  have hv3 : bytesZ w3 (fun k => k = w2.heap.size) ⟨some ⟨w2.heap.size, 0, none⟩, 3, 3⟩ oneB := hw3 ▸ one_const w2 (3, 4) _ rfl
  have hO2 : LogOk fs0 ⟨nW, [], (framesS []).length, false⟩ := LogOk.new nW nW40 (by decide) rfl rfl
  have hF3 : fsAt w3 (zn (setO own w2.heap.size 0) 1) p fs0 := (HF2.out.retag (Nat.le_refl _) 0).below hb3
  have hL3 : OneLog w3 (setO own w2.heap.size 0) 2 q p ⟨nW, [], (framesS []).length, false⟩ := (HL2.out.retag (Nat.le_refl _) 0).keep hb3
  have hap := log_append (i := 1) (j := 2) (by decide) hF3 Pow.zero hL3 hO2 (by decide) hv3 (fun k hk => by rw [show k = w2.heap.size from hk, setO_new (Nat.le_refl _)]; decide) (by decide) oneB_len
  obtain ⟨A1, A2, A3, A4, A5, A6⟩ := hO2.append Pow.zero oneB (by decide) oneB_len
  rw [A2] at A5
  have HFr3 := Lib.hid (HFr2.out.setO B2.out.size 0)
  have B3 := Lib.hid (B2.out.trans (hb3.mono B2.out.size))
  clear hw3 hb3 hv3 hF3 hL3 A1 A2 A3 A6 hO2
  obtain ⟨M4, hM4⟩ : ∃ M4, M4 = wapM fs0 ⟨nW, [], (framesS []).length, false⟩ oneB := ⟨_, rfl⟩
  obtain ⟨L4, hL4e⟩ : ∃ L4, L4 = LogM.put ⟨nW, [], (framesS []).length, false⟩ oneB := ⟨_, rfl⟩
  have hO4 : LogOk M4 L4 := by rw [hM4, hL4e]; exact A5
  have hP4 : Pow M4 2 := hM4 ▸ A4
  have hR4 : L4.recs = [oneB] := by rw [hL4e]; rfl
  have hN4 : L4.name = nW := by rw [hL4e]; rfl
  have hS4 : L4.size = (framesS [oneB]).length := by rw [hO4.size, hR4]
  rw [← hM4, ← hL4e] at hap
  have HO4 := Lib.hid hO4
  have HP4 := Lib.hid hP4
  have HR4 := Lib.hid hR4
  have HN4 := Lib.hid hN4
  have HS4 := Lib.hid hS4
  clear A4 A5 hM4 hL4e hO4 hP4 hR4 hN4 hS4
  refine hap.mono ?_
  rintro e w4 ⟨rfl, own4, s4, hF4, hL4, u4⟩
  have F4 := HFr3.out.same s4 B3.out.size
  have b4 := B3.out.trans (HFr3.out.below2 u4 (by decide) (by decide) B3.out.size)
  have hcr := crash_file _ p M4 ⟨none, 0, 0⟩ [] w4 hF4 (HP4.out.small (by decide)) ⟨rfl, Nat.le_refl _, fun h => absurd rfl h⟩ (by simp)
  have HL4 := Lib.hid hL4
  have HF4 := Lib.hid F4
  have B4 := Lib.hid b4
  clear hap s4 hF4 hL4 u4 F4 b4 HFr3 B3
  go_wp2_with fail
  refine hcr.mono ?_
  rintro e w5 ⟨p2, ns, rfl, hns, hF5, hb5⟩
  have hO5 := HO4.out.crash hns ([] : List Int)
  have hF5' : fsAt w5 (zn (setO own4 w4.heap.size 3) 3) p2 (crashM M4 ns []) := hF5.zone (fun k hk hz => setO_new hz)
  have hL5 : OneLog w5 (setO own4 w4.heap.size 3) 2 q p L4 := (HL4.out.retag (Nat.le_refl _) 3).keep hb5
  have hfile : fileOf (crashM M4 ns []) nW [oneB] := by have := hO5.file; rw [HN4.out, HR4.out] at this; exact this
  have htmp : (crashM M4 ns []).files (tmpN nW nW40) = none := by have := hO5.tmp; simp only [HN4.out] at this; exact this
  have HO5 := Lib.hid (hO5)
  have HFr5 := Lib.hid (HF4.out.setO B4.out.size 3)
  have B5 := Lib.hid (B4.out.trans (hb5.mono B4.out.size))
  have ho := log_open (i := 3) (j := 4) nW nW40 (by decide) [oneB] (by decide) hF5' (Pow.crash hns) hns.size hfile htmp (by simp [oneB])
  have HL5 := Lib.hid hL5
  have hp5 : (Pow (crashM M4 ns []) ns.length) := Pow.crash hns
  clear hcr hns hO5 hF5 hb5 hF5' hL5 hfile htmp HF4 B4 HL4 hp5
  go_wp2_with fail
  refine ho.mono ?_
  rintro e w6 ⟨q2, rfl, own6, s6, hF6, hL6, u6⟩
  have b6 := B5.out.trans (HFr5.out.below u6 (by decide) B5.out.size)
  have hLl : OneLog w6 own6 2 q p L4 := HL5.out.upd s6 u6 (fun k h e => by have : (2 : Nat) = 3 := h.symm.trans e; omega)
  have HL6 := Lib.hid hL6
  have HLl := Lib.hid hLl
  have B6 := Lib.hid b6
  clear ho s6 hF6 hL6 u6 b6 hLl HL5 HFr5 B5
  go_wp2_with fail
  have hbX : Below w6.heap.size w6 (w6.alloc (.cells #[.int .u8 111, .int .u8 110, .int .u8 101] 5 (3, 4))) := (Below.refl _ _).alloc (Nat.le_refl _) _
  have hv6 : bytesZ (w6.alloc (.cells #[.int .u8 111, .int .u8 110, .int .u8 101] 5 (3, 4))) (fun k => k = w6.heap.size) ⟨some ⟨w6.heap.size, 0, none⟩, 3, 3⟩ oneB := one_const w6 (3, 4) _ rfl
  obtain ⟨X, hX⟩ : ∃ X, X = w6.alloc (.cells #[.int .u8 111, .int .u8 110, .int .u8 101] 5 (3, 4)) := ⟨_, rfl⟩
  have hXs : X.heap.size = w6.heap.size + 1 := by rw [hX]; simp
  rw [← hX] at hbX hv6 ⊢
  have hbY : Below X.heap.size X (X.alloc (.cells #[.slice (some ⟨w6.heap.size, 0, none⟩) 3 3] 102)) := (Below.refl _ _).alloc (Nat.le_refl _) _
  have hws : listsZ (X.alloc (.cells #[.slice (some ⟨w6.heap.size, 0, none⟩) 3 3] 102)) (fun _ => True) ⟨some ⟨w6.heap.size + 1, 0, none⟩, 1, 1⟩ [⟨some ⟨w6.heap.size, 0, none⟩, 3, 3⟩] [oneB] := by
    have hblk := heap_alloc_new X (.cells #[.slice (some ⟨w6.heap.size, 0, none⟩) 3 3] 102)
    rw [hXs] at hblk
    refine ⟨rfl, Nat.le_refl _, rfl, fun _ => ⟨w6.heap.size + 1, 0, rfl, trivial, (cells_known hblk).2.2, fun k hk => ?_⟩, fun k h1 h2 => ?_⟩
    · have : k = 0 := by simpa using hk
      subst this
      rw [(cells_known hblk).1]; rfl
    · have : k = 0 := by simpa using h1
      subst this
      exact (hv6.keep hbY).zone (fun _ _ _ => trivial)
  have hone : (framesS [oneB]).length ≤ 16777216 := oneB_len
  have hhas := log_has ⟨some ⟨w6.heap.size + 1, 0, none⟩, 1, 1⟩ _ [oneB] ((HL6.out.keep hbX).keep hbY) (by simp [oneB]) hone hws
  simp only [decide_true] at hhas
  have hLY := (HLl.out.keep hbX).keep hbY
  have B7 := Lib.hid (B6.out.trans ((hbX.trans (hbY.mono hbX.size)).mono B6.out.size))
  have HLY := Lib.hid hLY
  clear hbX hv6 hX hbY hws hone hLY
  refine hhas.mono ?_
  rintro e w7 ⟨rfl, b7⟩
  obtain ⟨sl, vs, hl7⟩ := HLY.out.keep b7
  have hdd := dead_log hl7
  have hby := bytes_log hl7
  rw [(HO4.out).live] at hdd
  have B8 := Lib.hid (B7.out.trans (b7.mono B7.out.size))
  have hsz : decide ((3 : Int) < (L4.size : Int)) = true := by
    refine decide_eq_true ?_
    rw [HS4.out]
    have e : framesS [oneB] = frameS oneB := by simp [framesS]
    rw [e, frameS_length]
    have h3 : oneB.length = 3 := rfl
    omega
  clear hhas b7 hl7 HL6 HLl HLY
  go_wp2_with fail
  refine hdd.mono ?_
  rintro e w8 ⟨rfl, rfl⟩
  go_wp2_with fail
  refine hby.mono ?_
  rintro e w8 ⟨rfl, rfl⟩
  clear hdd hby
  go_wp2_with fail
  refine (append_nolog _).mono ?_
  rintro e w8 ⟨rfl, rfl⟩
  go_wp2_with fail
  refine (dead_nolog _).mono ?_
  rintro e w8 ⟨rfl, rfl⟩
  go_wp2_with fail
  refine (reset_nolog _).mono ?_
  rintro e w9 ⟨rfl, b9⟩
  have B9 := Lib.hid (B8.out.trans (b9.mono B8.out.size))
  clear b9
  go_wp2_with fail
  refine (records_nolog _).mono ?_
  rintro e w8 ⟨rfl, rfl⟩
  go_wp2_with fail
  go_ret
  exact ⟨rfl, B9.out⟩
end Go.Proofs.Ytkiindgcbpkddaa
