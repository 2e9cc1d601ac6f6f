/- Package file: what a crash leaves. -/
import Derived.Test.YtkiindgcbpkddaaFileH
import Derived.Test.YtkiindgcbpkddaaAlike
import Derived.Deep.RegionHeld3
import Derived.Deep.DeepCutAuto
import Derived.Deep.CutBlock
set_option linter.unusedSimpArgs false
set_option linter.unusedVariables false
namespace Go.Proofs.Ytkiindgcbpkddaa
open Go.RowKit
/-- Numbers that lie behind a slice. -/
def numsAt (w : World) (v : Sl) (l : List Int) (B : Nat) : Prop := v.n = l.length ∧ v.n ≤ v.c ∧ (l ≠ [] → ∃ b off, v.a = some ⟨b, off, none⟩ ∧ b < B ∧ ∀ k (h : k < l.length), w.cell? ⟨b, off + k, none⟩ = some (.int .i64 l[k]))
theorem numsAt.cut {w : World} {b off n c B : Nat} {l : List Int} (h : numsAt w ⟨some ⟨b, off, none⟩, n, c⟩ l B) (hk : 1 ≤ n) :
    numsAt w ⟨if c = 1 then some ⟨b, off, none⟩ else some ⟨b, off + 1, none⟩, n - 1, c - 1⟩ l.tail B := by
  obtain ⟨h1, h2, h3⟩ := h
  simp only at h1 h2 h3
  refine ⟨by simp [h1], by simp only; omega, fun hne => ?_⟩
  have hlt : 1 < l.length := by
    rcases Nat.lt_or_ge 1 l.length with g | g
    · exact g
    · exact absurd (List.eq_nil_of_length_eq_zero (by simp; omega)) hne
  obtain ⟨b', off', e, hb, hcc⟩ := h3 (by intro e; rw [e] at hlt; simp at hlt)
  cases e
  refine ⟨b, off + 1, by simp only; rw [if_neg (by omega)], hb, fun j hj => ?_⟩
  rw [List.length_tail] at hj
  rw [show off + 1 + j = off + (j + 1) by omega, hcc (j + 1) (by omega)]
  simp
theorem numsAt.below {w w' : World} {v : Sl} {l : List Int} {B : Nat} (h : numsAt w v l B) (hb : Below B w w') : numsAt w' v l B := by
  refine ⟨h.1, h.2.1, fun hne => ?_⟩
  obtain ⟨b, off, e, hlt, hc⟩ := h.2.2 hne
  exact ⟨b, off, e, hlt, fun k hk => (hb.cell (p := ⟨b, off + k, none⟩) hlt).trans (hc k hk)⟩
/-- Of one file: how many bytes stay, and the picks that are left. -/
def crashOne (x : List UInt8 × Nat) (ps : List Int) : Nat × List Int :=
  match ps with
  | [] => (x.2, [])
  | q :: qs => if x.2 < x.1.length then (x.2 + (roundS q ((x.1.length - x.2 : Nat) + 1)).toNat, qs) else (x.2, q :: qs)
def crashStep (files : Nm → Option (List UInt8 × Nat)) (a : (Nm → Option (List UInt8 × Nat)) × List Int) (s : Nm) : (Nm → Option (List UInt8 × Nat)) × List Int :=
  (fun t => if t = s then some ((((files s).getD ([], 0)).1.take (crashOne ((files s).getD ([], 0)) a.2).1), (crashOne ((files s).getD ([], 0)) a.2).1) else a.1 t, (crashOne ((files s).getD ([], 0)) a.2).2)
def crashG (files : Nm → Option (List UInt8 × Nat)) (ns : List Nm) (ps : List Int) : (Nm → Option (List UInt8 × Nat)) × List Int := ns.foldl (crashStep files) (fun _ => none, ps)
def crashM (M : FsM) (ns : List Nm) (ps : List Int) : FsM := { files := (crashG M.files ns ps).1, cut := false, off := false, left := 0, ops := 0, n := ns.length }
theorem crashOne_le (x : List UInt8 × Nat) (ps : List Int) (h : x.2 ≤ x.1.length) : (crashOne x ps).1 ≤ x.1.length := by
  unfold crashOne
  split
  · exact h
  · split
    · rename_i q qs hlt
      have h1 := Int.emod_lt_of_pos q (show (0 : Int) < ((x.1.length - x.2 : Nat) : Int) + 1 by omega)
      unfold roundS
      simp only
      omega
    · exact h
theorem crashOne_sub (x : List UInt8 × Nat) (ps : List Int) : ∀ q ∈ (crashOne x ps).2, q ∈ ps := by
  unfold crashOne
  split
  · simp
  · split
    · intro q hq; exact List.mem_cons_of_mem _ hq
    · intro q hq; exact hq
theorem crashG_sub (files : Nm → Option (List UInt8 × Nat)) (ns : List Nm) : ∀ (a : (Nm → Option (List UInt8 × Nat)) × List Int), ∀ q ∈ (ns.foldl (crashStep files) a).2, q ∈ a.2 := by
  induction ns with
  | nil => intro a q hq; exact hq
  | cons s ns ih => intro a q hq; exact crashOne_sub _ _ q (ih _ q hq)
theorem held2_below {w w' : World} {B q r : Nat} {x y : Value} (h : w.cell? ⟨q, 0, none⟩ = some x ∧ w.cell? ⟨r, 0, none⟩ = some y) (hq : q < B) (hr : r < B) (hb : Below B w w') : w'.cell? ⟨q, 0, none⟩ = some x ∧ w'.cell? ⟨r, 0, none⟩ = some y := ⟨(hb.cell (p := ⟨q, 0, none⟩) hq).trans h.1, (hb.cell (p := ⟨r, 0, none⟩) hr).trans h.2⟩
theorem held2_upd {w w' : World} {m q r : Nat} {x y : Value} (h : w.cell? ⟨q, 0, none⟩ = some x ∧ w.cell? ⟨r, 0, none⟩ = some y) (hq : q < w.heap.size) (hr : r < w.heap.size) (hq2 : q ≠ m) (hr2 : r ≠ m) (hu : Upd w w' (fun k => k = m)) : w'.cell? ⟨q, 0, none⟩ = some x ∧ w'.cell? ⟨r, 0, none⟩ = some y := ⟨(hu.cell hq hq2 0).trans h.1, (hu.cell hr hr2 0).trans h.2⟩
theorem below_box {w wA : World} (o : Obj) (h : Below w.drew.heap.size w.drew wA) : Below w.heap.size w (wA.alloc o) := by
  have h1 := h.alloc h.size o
  exact (Below.refl _ w).drew.trans h1
/-- A new file, put into a map. -/
theorem put_crash {wc wA : World} {base : Nat → Prop} {q mb : Nat} {F : Nm → Option FileR} {M : FsM} (h : FsRep wc base q mb F M) (hbA : Below wc.drew.heap.size wc.drew wA) (sA : Sl) (n : Nat) (s : Nm) :
    ∃ w4, (Instr.mapUpdate 163 (.map (some mb)) (.string s.1) (.pointer (some ⟨wA.heap.size, 0, none⟩))).run Try.prog (wA.alloc (.cells (FileV.mk ⟨sA.a, sA.n, sA.c⟩ n).arr 185)) = .ok () w4
      ∧ mapEx w4 nmV mb (M.n + 1) (upd (fun t => (F t).map fun r => .pointer (some ⟨r.blk, 0, none⟩)) s (some (.pointer (some ⟨wA.heap.size, 0, none⟩)))) ∧ Upd (wA.alloc (.cells (FileV.mk ⟨sA.a, sA.n, sA.c⟩ n).arr 185)) w4 (fun k => k = mb) := by
  have hm := (h.below (below_box (.cells (FileV.mk ⟨sA.a, sA.n, sA.c⟩ n).arr 185) hbA)).map
  obtain ⟨m, hmn, hm⟩ := hm
  obtain ⟨w4, hrun, h1, h2⟩ := run_mapStore nm_enc Try.underlying163 hm s (.pointer (some ⟨wA.heap.size, 0, none⟩))
  exact ⟨w4, hrun, ⟨_, by split <;> omega, h1⟩, (Upd.grown h2).mono (fun k _ e => (Option.some.inj e).symm)⟩
/-- What stands behind it. -/
theorem rep_crash {wc wA w4 : World} {base : Nat → Prop} {q mb : Nat} {F : Nm → Option FileR} {M : FsM} (h : FsRep wc base q mb F M) (hb : Fr base wc) (hbA : Below wc.drew.heap.size wc.drew wA) {sA : Sl} {l : List UInt8} {n : Nat} {s : Nm}
    (hF : F s = none) (hn : n ≤ l.length) (hl : l.length ≤ 16777216) (ho : ownB wA (fun k => wc.drew.heap.size ≤ k) sA l)
    (hm : mapEx w4 nmV mb (M.n + 1) (upd (fun t => (F t).map fun r => .pointer (some ⟨r.blk, 0, none⟩)) s (some (.pointer (some ⟨wA.heap.size, 0, none⟩)))))
    (hu : Upd (wA.alloc (.cells (FileV.mk ⟨sA.a, sA.n, sA.c⟩ n).arr 185)) w4 (fun k => k = mb)) :
    ∃ F', FsRep w4 base q mb F' { M.put s (some (l, n)) with n := M.n + 1 } := by
  have hbr := below_box (.cells (FileV.mk ⟨sA.a, sA.n, sA.c⟩ n).arr 185) hbA
  have hz : wc.heap.size ≤ wA.heap.size := hbA.size
  have e1 : (upd (fun t => Option.map (fun r : FileR => Value.pointer (some ⟨r.blk, 0, none⟩)) (F t)) s (some (.pointer (some ⟨wA.heap.size, 0, none⟩)))) = fun t => Option.map (fun r : FileR => Value.pointer (some ⟨r.blk, 0, none⟩)) (if t = s then some ⟨wA.heap.size, sA, l, n⟩ else F t) := by
    funext x; unfold upd; by_cases hx : x = s <;> simp [hx]
  rw [e1] at hm
  have hob : ownB wA base sA l := ho.base_mono (fun k hk => hb k hk)
  have hba : Below wA.heap.size wA (wA.alloc (.cells (FileV.mk ⟨sA.a, sA.n, sA.c⟩ n).arr 185)) := (Below.refl _ wA).alloc (Nat.le_refl _) _
  refine ⟨_, h.add (r := ⟨wA.heap.size, sA, l, n⟩) hF ((Upd.of_below hbr (fun k => wc.heap.size ≤ k))) hu hm ⟨hb _ hz, heap_alloc_new wA _, hob.upd (Upd.of_below hba (fun _ => False)) (fun _ _ h => h), hn, hl⟩ hz (fun k hk => ?_)⟩
  exact (ho.lt hk).1
theorem crashG_not (files : Nm → Option (List UInt8 × Nat)) (s : Nm) (ns : List Nm) : ∀ (a : (Nm → Option (List UInt8 × Nat)) × List Int), s ∉ ns → (ns.foldl (crashStep files) a).1 s = a.1 s := by
  induction ns with
  | nil => intro a _; rfl
  | cons t ns ih =>
    intro a hs
    rw [List.foldl_cons, ih _ (fun h => hs (List.mem_cons_of_mem _ h))]
    show (if s = t then _ else a.1 s) = _
    rw [if_neg (fun e => hs (by rw [e]; exact List.mem_cons_self))]
theorem crashG_succ (files : Nm → Option (List UInt8 × Nat)) (ns : List Nm) (ps : List Int) {k : Nat} (hk : k < ns.length) : crashG files (ns.take (k + 1)) ps = crashStep files (crashG files (ns.take k) ps) ns[k] := by
  unfold crashG
  rw [List.take_succ_eq_append_getElem hk, List.foldl_append]
  rfl
theorem crashM_succ (M : FsM) (ns : List Nm) (ps : List Int) {k : Nat} (hk : k < ns.length) {l : List UInt8} {sf n : Nat} (hM : M.files ns[k] = some (l, sf)) (hn : n = (crashOne (l, sf) (crashG M.files (ns.take k) ps).2).1) :
    crashM M (ns.take (k + 1)) ps = { (crashM M (ns.take k) ps).put ns[k] (some (l.take n, n)) with n := (crashM M (ns.take k) ps).n + 1 } := by
  unfold crashM
  rw [crashG_succ M.files ns ps hk]
  unfold crashStep FsM.put
  rw [hM]
  simp only [Option.getD_some, ← hn]
  congr 1
  simp [List.length_take, Nat.min_eq_left (Nat.le_of_lt hk), Nat.min_eq_left (Nat.succ_le_of_lt hk)]
set_option maxRecDepth 100000 in
set_option maxHeartbeats 2000000 in
theorem crash_file (base : Nat → Prop) (p : Nat) (M : FsM) (pv : Sl) (ps : List Int) (w : World) (h : fsAt w base p M) (hM : M.small) (hps : numsAt w pv ps w.heap.size) (hpw : ∀ q ∈ ps, -9223372036854775808 ≤ q ∧ q ≤ 9223372036854775807) :
    Calls Try.prog 46 #[.pointer (some ⟨p, 0, none⟩), .slice pv.a pv.n pv.c] w fun e w' => ∃ q ns, e = .returned (.pointer (some ⟨q, 0, none⟩)) ∧ NamesOf M ns ∧ fsAt w' (fun k => w.heap.size ≤ k) q (crashM M ns ps) ∧ Below w.heap.size w w' := by
  obtain ⟨mb, F, h⟩ := h
  have HF := Lib.hid h
  have hnl := fun W (hb : Below w.heap.size w W) => names_file base p M W ⟨mb, F, h.below hb⟩ hM
  clear h
  go_enter Try.func46, Try.ntmps46
  go_wp2_with fail
  refine (new_file w).mono ?_
  rintro e W ⟨q, mb', rfl, hq1, hq2, hq3, hq4, hbW⟩
  have hn1 := hnl W hbW
  have hrep : FsRep W (fun k => w.heap.size ≤ k) q mb' (fun _ => none) ⟨fun _ => none, false, false, 0, 0, 0⟩ := ⟨hq3, hq4, hq1, ⟨0, Nat.le_refl _, hq2⟩, fun _ => rfl, fun _ _ h => (by cases h), fun _ _ _ _ h => (by cases h)⟩
  have HREP := Lib.hid hrep
  have HBW := Lib.hid hbW
  clear hq1 hq2 hq3 hq4 hbW hrep
  go_wp2_with fail
  refine hn1.mono ?_
  rintro e X ⟨nv, ns, rfl, hna, hno, hbX⟩
  have hbwX := HBW.out.trans (hbX.mono HBW.out.size)
  have HBWX := Lib.hid hbwX
  have hmW : mb' < W.heap.size := HREP.out.lt.2
  have hrX := HREP.out.below hbX
  have hnsz := hno.size
  have hpX : numsAt X pv ps w.heap.size := hps.below hbwX
  have HNS := Lib.hid hno
  have HBX := Lib.hid hbX
  obtain ⟨na, nn, nc⟩ := nv
  have hnn : nn = ns.length := hna.1
  subst hnn
  have hmq : w.heap.size ≤ mb' := HREP.out.hm
  clear HREP hps hno hbX hnl hn1 hbwX
  go_wp2_with fail
  go_loopw [1, 17, 7, 8, 9, 10] (fun v1 v17 _ _ _ _ wr => ∃ (k : Nat) (s1 : Sl) (F' : Nm → Option FileR), k ≤ ns.length ∧ v17 = .int .i64 k ∧ v1 = .slice s1.a s1.n s1.c ∧ numsAt X s1 (crashG M.files (ns.take k) ps).2 w.heap.size ∧ FsRep wr (fun k => w.heap.size ≤ k) q mb' F' (crashM M (ns.take k) ps) ∧ Upd X wr (fun i => i = mb')) (fun _ v17 _ _ _ _ _ => ns.length - (intOf v17).toNat)
  case atStart => exact ⟨0, pv, fun _ => none, Nat.zero_le _, rfl, rfl, by simpa [crashG] using hpX, by simpa [crashM, crashG] using hrX, Upd.refl _ _⟩
  case round =>
    obtain ⟨k, s1, F', hk, rfl, rfl, hp1, hr1, hu1⟩ := hrel
    clear hpX hrX
    by_cases hlt : k < ns.length
    · obtain ⟨g, hga, hg1, hg2, hgc⟩ := hna.2 (by intro e; rw [e] at hlt; simp at hlt)
      simp only at hga
      subst hga
      have hmX : g ≠ mb' := by omega
      have dlt : decide ((k : Int) < (ns.length : Int)) = true := decide_eq_true (by omega)
      have cN : wr.cell? ⟨g, k, none⟩ = some (.string ns[k].1) := (hu1.cell hg2 hmX k).trans (hgc k hlt)
      have hFw : FsRep wr base p mb F M := by
        have hh := HF.out
        have h1 := hh.lt
        exact (hh.below HBWX.out).upd hu1 (by omega) (by omega) (fun s r e => ⟨by have := (hh.file s r e).lt; omega, fun j hj => by have := ((hh.file s r e).own.lt hj).2; omega⟩)
      obtain ⟨r, hFr⟩ : ∃ r, F ns[k] = some r := by
        have := (HNS.out.mem ns[k]).1 (List.getElem_mem hlt)
        rw [HF.out.files] at this
        cases hh : F ns[k] with
        | none => rw [hh] at this; cases this
        | some r => exact ⟨r, rfl⟩
      have hFl := hFw.file _ _ hFr
      have hMx : M.files ns[k] = some (r.l, r.safe) := by rw [HF.out.files, hFr]; rfl
      have hlk := hFw.looks ns[k]
      rw [hFr] at hlk
      simp only [Option.map_some] at hlk
      have c0 := hFw.cell0
      have c1 : wr.cell? ⟨r.blk, 0, none⟩ = some (.slice r.b.a r.b.n r.b.c) := by rw [(cells_known hFl.cells).1]; simp [FileR.arr]
      have c2 : wr.cell? ⟨r.blk, 1, none⟩ = some (.int .i64 r.safe) := by rw [(cells_known hFl.cells).1]; simp [FileR.arr]
      have rn := hFl.own.1
      have rs := hFl.safe
      have rz := hFl.size
      obtain ⟨qs, hqs⟩ : ∃ qs, qs = (crashG M.files (ns.take k) ps).2 := ⟨_, rfl⟩
      rw [← hqs] at hp1
      obtain ⟨sa, sn, sc⟩ := s1
      have hqn : sn = qs.length := hp1.1
      subst hqn
      have HP1 := Lib.hid hp1
      have HQS := Lib.hid hqs
      clear hqs
      simp only
      go_upto_region 10 with fail
      obtain ⟨L, hL⟩ : ∃ L : Int, L = (r.l.length : Int) - (r.safe : Int) := ⟨_, rfl⟩
      rw [← hL]
      have hL0 : 0 ≤ L := by omega
      have hL1 : L ≤ 16777216 := by omega
      have hLn : L = ((r.l.length - r.safe : Nat) : Int) := by omega
      have HL := Lib.hid hLn
      have hsf : (r.safe : Int) ≤ 16777216 := by omega
      clear hL hLn hp1
      go_cut [44] from 18 to 76 (fun c wx => c = .bool (decide (0 < L) && decide (0 < (qs.length : Int))) ∧ wx = wr)
      case first =>
        by_cases hlo : 0 < L
        · have d1 : decide (0 < L) = true := decide_eq_true hlo
          go_wp2_with fail
          go_meet
          exact ⟨by rw [d1]; simp, rfl⟩
        · have d1 : decide (0 < L) = false := decide_eq_false hlo
          go_wp2_with fail
          go_meet
          exact ⟨by rw [d1]; rfl, rfl⟩
      case rest =>
        obtain ⟨rfl, rfl⟩ := hcut
        go_upto_if 44 with fail
        go_cut [1, 9] from 18 to 76 (fun v1 v9 wx => wx = wc ∧ v9 = .int .i64 (crashOne (r.l, r.safe) qs).1 ∧ ∃ s2 : Sl, v1 = .slice s2.a s2.n s2.c ∧ numsAt X s2 (crashOne (r.l, r.safe) qs).2 w.heap.size)
        case first =>
          cases hd : (decide (0 < L) && decide (0 < (qs.length : Int))) with
          | false =>
            have hcs : Hid (crashOne (r.l, r.safe) qs = (r.safe, qs)) := by
              unfold Hid crashOne
              cases qs with
              | nil => rfl
              | cons y ys =>
                simp only
                rw [if_neg]
                have := HL.out
                intro h
                have d1 : decide (0 < L) = true := decide_eq_true (by omega)
                have d2 : decide (0 < ((y :: ys).length : Int)) = true := decide_eq_true (by simp)
                rw [d1, d2] at hd
                cases hd
            go_wp2_with fail
            go_meet
            rw [hcs.out]
            exact ⟨rfl, rfl, ⟨sa, qs.length, sc⟩, rfl, HP1.out⟩
          | true =>
            simp only [Bool.and_eq_true, decide_eq_true_eq] at hd
            obtain ⟨hd1, hd2⟩ := hd
            cases qs with
            | nil => simp at hd2
            | cons y ys =>
              obtain ⟨b, off, e, hb, hcc⟩ := HP1.out.2.2 (by simp)
              simp only at e
              subst e
              have hyw := hpw y (crashG_sub M.files (ns.take k) (fun _ => none, ps) y (by have := HQS.out; unfold crashG at this; rw [← this]; simp))
              have cY : wc.cell? ⟨b, off, none⟩ = some (.int .i64 y) := (hu1.cell (Nat.lt_of_lt_of_le hb HBWX.out.size) (by omega) off).trans (hcc 0 (by simp))
              have hn0 : (L + 1 == 0) = false := by rw [beq_eq_false_iff_ne]; omega
              obtain ⟨r0, hr0⟩ : ∃ r0, r0 = Int.tmod y (L + 1) := ⟨_, rfl⟩
              have hb0 : -(L + 1) < r0 ∧ r0 < L + 1 := by
                rw [hr0]
                have h2 := Int.tmod_lt_of_pos y (show 0 < L + 1 by omega)
                have h3 := Int.lt_tmod_of_pos y (show 0 < L + 1 by omega)
                omega
              have hfst : Hid ((r.safe : Int) + (y.tmod (L + 1) + L + 1) % (L + 1) = ((crashOne (r.l, r.safe) (y :: ys)).1 : Nat)) := by
                unfold Hid crashOne
                have h1 : r.safe < r.l.length := by have := HL.out; omega
                simp only [h1, if_true]
                rw [← HL.out, Int.add_assoc, Int.add_emod_right, Int.tmod_def, Int.sub_eq_add_neg, ← Int.mul_neg, Int.add_mul_emod_self_left]
                have := Int.emod_nonneg y (show L + 1 ≠ 0 by omega)
                unfold roundS
                omega
              have hsnd : Hid ((crashOne (r.l, r.safe) (y :: ys)).2 = ys) := by
                unfold Hid crashOne
                have h1 : r.safe < r.l.length := by have := HL.out; omega
                simp only [h1, if_true]
              have hwr : Hid (((crashOne (r.l, r.safe) (y :: ys)).1 : Nat) ≤ r.l.length) := crashOne_le _ _ rs
              have hcutn := numsAt.cut HP1.out (by simp)
              go_wp2_with fail
              all_goals go_meet
              all_goals rw [hfst.out, hsnd.out]
              · rename_i h
                rw [if_pos h, h] at hcutn
                exact ⟨rfl, congrArg (Value.int .i64) (by have := hwr.out; unfold wrap64; omega), ⟨some ⟨b, off, none⟩, ys.length, 0⟩, rfl, by simpa using hcutn⟩
              · rename_i h
                rw [if_neg h] at hcutn
                exact ⟨rfl, congrArg (Value.int .i64) (by have := hwr.out; unfold wrap64; omega), ⟨some ⟨b, off + 1, none⟩, ys.length, sc - 1⟩, rfl, by simpa using hcutn⟩
        case rest =>
          obtain ⟨rfl, rfl, s2, rfl, hp2⟩ := hcut
          obtain ⟨n, hn⟩ : ∃ n, n = (crashOne (r.l, r.safe) qs).1 := ⟨_, rfl⟩
          have hnl : n ≤ r.l.length := hn ▸ crashOne_le _ _ rs
          rw [← hn]
          have hS0 : wc.drew.cell? ⟨q, 0, none⟩ = some (.map (some mb')) ∧ wc.drew.cell? ⟨r.blk, 0, none⟩ = some (.slice r.b.a r.b.n r.b.c) := ⟨hr1.cell0, c1⟩
          have hSw : wc.cell? ⟨q, 0, none⟩ = some (.map (some mb')) ∧ wc.cell? ⟨r.blk, 0, none⟩ = some (.slice r.b.a r.b.n r.b.c) := ⟨hr1.cell0, c1⟩
          have hqz : q < wc.heap.size := hr1.lt.1
          have hrz := hFl.lt
          have hbb : bytesAt wc.drew ⟨r.b.a, n, r.b.c⟩ (r.l.take n) wc.drew.heap.size := by
            refine ⟨by simp; omega, fun hne => ?_⟩
            have h0 : 0 < n := by
              rcases Nat.eq_zero_or_pos n with e | e
              · rw [e] at hne; simp at hne
              · exact e
            obtain ⟨g', e, _, _, hg', hc'⟩ := hFl.own.cellAt (k := 0) (by omega)
            exact ⟨g', 0, e, hg', fun j hj => by
              rw [Nat.zero_add]
              have hj2 : j < r.l.length := by rw [List.length_take] at hj; omega
              exact (hc' j hj2).trans (by rw [List.getElem_take])⟩
          have hbl : (r.l.take n).length ≤ 140737488355328 := by simp; omega
          have hcl := clone_bytes ⟨r.b.a, n, r.b.c⟩ (r.l.take n) _ wc.drew hbb hbl
          have hnc : (n : Int) ≤ (r.b.c : Int) := by have := hFl.own.2.1; omega
          have hni : (n : Int) ≤ 16777216 := by omega
          have HN := Lib.hid hn
          have HRN := Lib.hid rn
          have hmr := hr1.lt.2
          have hqm : q ≠ mb' := apart_map hr1.hd hr1.map
          have hrm : r.blk ≠ mb' := by have := (HF.out.file _ _ hFr).lt; omega
          have HR1 := Lib.hid hr1
          clear hn rn hbb hbl c0 c2 cN hlk hr1
          go_wp2_with fail
          go_region_held3 (fun Y : World => Y.cell? ⟨q, 0, none⟩ = some (.map (some mb')) ∧ Y.cell? ⟨r.blk, 0, none⟩ = some (.slice r.b.a r.b.n r.b.c)) (first | exact hS0 | exact hS1 | exact hS2 | exact hS3) (first | (go_at_call 100; refine hcl.mono ?_; rintro e wA ⟨sA, rfl, hoA, hbA⟩; have hS1 : wA.cell? ⟨q, 0, none⟩ = some (.map (some mb')) ∧ wA.cell? ⟨r.blk, 0, none⟩ = some (.slice r.b.a r.b.n r.b.c) := held2_below hS0 hqz hrz hbA; have hbr := below_box (.cells (FileV.mk ⟨sA.a, sA.n, sA.c⟩ n).arr 185) hbA; have hS2 := held2_below hSw hqz hrz hbr; obtain ⟨w4, hrun4, hm4, hu4⟩ := put_crash HR1.out hbA sA n ns[k]; have hS3 := held2_upd hS2 (Nat.lt_of_lt_of_le hqz hbr.size) (Nat.lt_of_lt_of_le hrz hbr.size) hqm hrm hu4))
          have hwz : w.heap.size ≤ wc.heap.size := Nat.le_trans HBWX.out.size hu1.size
          have hnot : ns[k] ∉ ns.take k := by
            have hnd := HNS.out.nodup
            rw [← List.take_append_drop k ns] at hnd
            intro hin
            have hd : ns[k] ∈ ns.drop k := by rw [List.drop_eq_getElem_cons hlt]; exact List.mem_cons_self
            exact (List.nodup_append.1 hnd).2.2 _ hin _ hd rfl
          have hFn : F' ns[k] = none := by
            have h1 := HR1.out.files ns[k]
            have h2 : (crashM M (ns.take k) ps).files ns[k] = none := crashG_not M.files ns[k] (ns.take k) _ hnot
            rw [h2] at h1
            cases hh : F' ns[k] with
            | none => rfl
            | some x => rw [hh] at h1; cases h1
          obtain ⟨F'', hrep4⟩ := rep_crash HR1.out (fun k hk => Nat.le_trans hwz hk) hbA hFn (l := r.l.take n) (n := n) (by simp; omega) (by simp; omega) hoA hm4 hu4
          have hn2 : n = (crashOne (r.l, r.safe) (crashG M.files (ns.take k) ps).2).1 := by rw [← HQS.out]; exact HN.out
          rw [← crashM_succ M ns ps hlt hMx hn2] at hrep4
          have hp3 : numsAt X s2 (crashG M.files (ns.take (k + 1)) ps).2 w.heap.size := by
            rw [crashG_succ M.files ns ps hlt]
            show numsAt X s2 (crashOne ((M.files ns[k]).getD ([], 0)) (crashG M.files (ns.take k) ps).2).2 w.heap.size
            rw [hMx, ← HQS.out]
            exact hp2
          have hu5 : Upd X w4 (fun i => i = mb') := (hu1.trans (Upd.of_below hbr (fun i => i = mb')) (fun _ _ h => h)).trans hu4 (fun _ _ h => h)
          have HP3 := Lib.hid hp3
          have HREP4 := Lib.hid hrep4
          have HU5 := Lib.hid hu5
          clear hp3 hrep4 hu5 hn2 hFn hnot hMx hp2 hm4 hu4
          go_wp2_with fail
          go_roundw
          all_goals first | exact ⟨k + 1, s2, F'', by omega, by go_num, rfl, HP3.out, HREP4.out, HU5.out⟩ | (simp [intOf]; omega)
    · have hke : k = ns.length := by omega
      subst hke
      have dlt : decide ((ns.length : Int) < (ns.length : Int)) = false := decide_eq_false (by omega)
      rw [List.take_length] at hr1
      have HR := Lib.hid hr1
      clear hr1 hp1
      go_wp2_with fail
      go_ret
      exact ⟨q, ns, rfl, HNS.out, ⟨mb', F', HR.out⟩, HBWX.out.trans (hu1.below HBWX.out.size (fun i e => by rw [e]; exact hmq))⟩
end Go.Proofs.Ytkiindgcbpkddaa
