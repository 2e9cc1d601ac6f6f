/- Package coraclelaw12: NotifyDrops. -/
import Derived.Test.YtlkojkjeklblkaaGreatNfV
import Derived.Test.YtlkojkjeklblkaaGreatOpenI
import Derived.Test.YtlkojkjeklblkaaGreatConv
set_option linter.unusedSimpArgs false
set_option linter.unusedVariables false
namespace Go.Proofs.YtlkojkjeklblkaaGreat
open Go.RowKit Go.MapKept
/-- Twenty-one Booleans. -/
def boolsA (f : Nat → Bool) : Array Value := ((List.range 21).map (fun i => Value.bool (f i))).toArray
theorem boolsA_get (f : Nat → Bool) {k : Nat} (h : k < 21) : (boolsA f)[k]? = some (.bool (f k)) := by
  unfold boolsA
  rw [List.getElem?_toArray, List.getElem?_map, List.getElem?_range h]; rfl
theorem boolsA_size (f : Nat → Bool) : (boolsA f).size = 21 := by simp [boolsA]
theorem boolsA_set (f : Nat → Bool) {k : Nat} (h : k < 21) : (boolsA f).setIfInBounds k (.bool true) = boolsA (fun j => if j = k then true else f j) := by
  apply Array.ext_getElem?
  intro j
  rw [Array.getElem?_setIfInBounds, boolsA_size]
  by_cases hj : j < 21
  · rw [boolsA_get _ hj, boolsA_get _ hj]
    by_cases e : k = j
    · subst e; simp [h]
    · rw [if_neg e, if_neg (fun x => e x.symm)]
  · rw [if_neg (by omega)]
    rw [Array.getElem?_eq_none (by rw [boolsA_size]; omega), Array.getElem?_eq_none (by rw [boolsA_size]; omega)]
theorem zero_bools : (Tryz.prog.info? 76).map (·.zero) = some (some (.agg (boolsA (fun _ => false)))) := by kernel_rfl
@[go_sem ↓] theorem execOp_alloc_bools (ρ : Operand → Value) (dst : Option Tmp) (ty : TypeId) (pos : String) (after : Array Edge) (guard : Option (Nat × Bool)) : execOp ρ { dst := dst, op := .alloc 76, type := ty, pos := pos, after := after, guard := guard } = (do pure (.value (← allocS 76))) := rfl
@[go_sem] theorem alloc_bools (w : World) : (allocS 76).run Tryz.prog w = .ok (.pointer (some ⟨w.heap.size, 0, none⟩)) (w.alloc (.cells (boolsA (fun _ => false)) 76)) := run_alloc zero_bools _ w
section
variable {W0 w w' : World} {own : Nat → Nat} {q : Nat} {M : HubM} {n : Nat}
/-- Something of nobody's is written. -/
theorem Nub.poke (h : Nub W0 w own q M n) {g : Nat} (hg : own g = 0) (hl : W0.heap.size ≤ g) (hu : Upd w w' (fun k => k = g)) (hs : w'.heap.size = w.heap.size) : Nub W0 w' own q M n := by
  obtain ⟨r, hub⟩ := h.hub
  exact ⟨⟨r, ((hub.zoned (Y := fun k => own k = 1 ∧ k < w.heap.size) (fun k hk hz => ⟨hz, hk⟩)).kept hu (fun k hz hk he => by
    have e1 : own k = 1 := hz.1
    have e2 : k = g := he
    rw [e2, hg] at e1; cases e1)).zoned (fun k hk hz => hz.1)⟩, h.last, h.rows, h.high, h.txs, h.fresh, h.below.trans (hu.below h.below.size (fun k e => by have e2 : k = g := e; omega))⟩
end
set_option maxRecDepth 100000 in
set_option maxHeartbeats 4000000 in
theorem notifyDrops_out (n : Int) (s : Sl) (height : Int) (w : World) (h : ¬ (1 ≤ n ∧ n ≤ 20 ∧ (s.n : Int) ≤ 20 ∧ 1 ≤ height ∧ height ≤ 20)) : Calls Tryz.prog 7 #[.int .i64 n, .slice s.a s.n s.c, .int .i64 height] w fun e w' => e = .returned (.bool true) ∧ Below w.heap.size w w' := by
  have haw := awake12 w
  have split : decide (n < 1) = true ∨ (decide (n < 1) = false ∧ decide (20 < n) = true) ∨ (decide (n < 1) = false ∧ decide (20 < n) = false ∧ decide ((20 : Int) < (s.n : Int)) = true) ∨ (decide (n < 1) = false ∧ decide (20 < n) = false ∧ decide ((20 : Int) < (s.n : Int)) = false ∧ decide (height < 1) = true) ∨ (decide (n < 1) = false ∧ decide (20 < n) = false ∧ decide ((20 : Int) < (s.n : Int)) = false ∧ decide (height < 1) = false ∧ decide (20 < height) = true) := by
    simp only [decide_eq_true_eq, decide_eq_false_iff_not]
    omega
  clear h
  rcases split with p1 | ⟨p1, p2⟩ | ⟨p1, p2, p3⟩ | ⟨p1, p2, p3, p4⟩ | ⟨p1, p2, p3, p4, p5⟩
  all_goals (go_enter Tryz.func7, Tryz.ntmps7; go_wp2_with fail; refine haw.mono ?_; rintro e w1 ⟨rfl, hb⟩; go_wp2_with fail; go_ret; exact ⟨rfl, hb⟩)
set_option maxRecDepth 100000 in
set_option maxHeartbeats 4000000 in
theorem notifyDrops_nf (n height : Nat) (s : Sl) (l : List Int) (w : World) (hl : isInts w s l) (hw : ∀ x ∈ l, i64 x) (h1 : 1 ≤ n) (h2 : n ≤ 20) (h3 : l.length ≤ 20) (h4 : 1 ≤ height) (h5 : height ≤ 20) : Calls Tryz.prog 7 #[.int .i64 n, .slice s.a s.n s.c, .int .i64 height] w fun e w' => e = .returned (.bool true) ∧ Below w.heap.size w w' := by
  have haw := awake12
  have HA := Lib.hid haw
  clear haw
  obtain ⟨sa, sn, sc⟩ := s
  have hsn : sn = l.length := hl.1
  subst hsn
  have HL := Lib.hid hl
  have HW := Lib.hid hw
  clear hl hw
  simp only
  have p1 : decide ((n : Int) < 1) = false := decide_eq_false (by omega)
  have p2 : decide (20 < (n : Int)) = false := decide_eq_false (by omega)
  have p3 : decide ((20 : Int) < (l.length : Int)) = false := decide_eq_false (by omega)
  have p4 : decide ((height : Int) < 1) = false := decide_eq_false (by omega)
  have p5 : decide (20 < (height : Int)) = false := decide_eq_false (by omega)
  have hnew := Nub.new 100 (by decide) w
  go_enter Tryz.func7, Tryz.ntmps7
  go_wp2_with fail
  refine hnew.mono ?_
  rintro e w1 ⟨q, own, rfl, hN⟩
  rw [HD_new height] at hN
  have HN := Lib.hid hN
  clear hnew hN
  go_upto_region 7 with fail
  go_loopw [9, 10, 11, 12] (fun v9 _ _ _ wr => ∃ (i : Nat) (own' : Nat → Nat), 1 ≤ i ∧ i ≤ n + 1 ∧ v9 = .int .i64 i ∧ Nub w wr own' q (HD height (i - 1) (List.range' 1 (i - 1)) 0) (i - 1)) (fun v _ _ _ _ => n + 1 - (intOf v).toNat)
  case atStart => exact ⟨1, own, Nat.le_refl _, by omega, rfl, HN.out⟩
  case round =>
    obtain ⟨i, own1, hi1, hi2, rfl, hub⟩ := hrel
    by_cases hlt : i ≤ n
    · have dlt : decide ((i : Int) ≤ (n : Int)) = true := decide_eq_true (by omega)
      have hr := reg_HD (h := (height : Int)) (m := i - 1) (R := List.range' 1 (i - 1)) (a := 0) (by omega) (by omega) (by omega) (by rw [List.length_range']; omega)
      have hreg := hub.register (by omega) (xH height)
      rw [hr.1, hr.2.1, hr.2.2.1, hr.2.2.2, show i - 1 + 1 = i by omega] at hreg
      have hrg : List.range' 1 (i - 1) ++ [i] = List.range' 1 i := by have := range_next (i - 1); rwa [show i - 1 + 1 = i by omega] at this
      rw [hrg] at hreg
      have HREG := Lib.hid hreg
      clear hr hreg hub hrg
      go_wp2_with fail
      rw [show ({ kind := 3, tx := Reg.zero.tx, depth := Reg.zero.depth, point := Reg.zero.point, height := (height : Int) } : Reg) = xH height from rfl]
      refine HREG.out.mono ?_
      rintro e w2 ⟨⟨ta, tn, tc⟩, own2, rfl, hno, hub, _⟩
      have htn : tn = 0 := hno.1
      subst htn
      have HB := Lib.hid hub
      clear hno hub
      have en : ((i : Int) != (i : Int)) = false := by simp
      go_wp2_with fail
      exact ⟨⟨i + 1, own2, by omega, by omega, rfl, by rw [show i + 1 - 1 = i by omega]; exact HB.out⟩, by show n + 1 - (i + 1) < n + 1 - i; omega⟩
    · have hie : i = n + 1 := by omega
      have dlt : decide ((i : Int) ≤ (n : Int)) = false := decide_eq_false (by omega)
      rw [show i - 1 = n by omega] at hub
      have HB := Lib.hid hub
      have HIE := Lib.hid hie
      clear hub hie
      go_upto_region 13 with fail
      obtain ⟨gb, hgb⟩ : ∃ g, g = wr.heap.size := ⟨_, rfl⟩
      obtain ⟨Wb, hWb⟩ : ∃ W, W = wr.alloc (.cells (boolsA (fun _ => false)) 76) := ⟨_, rfl⟩
      rw [← hWb, ← hgb]
      have hbb : Below wr.heap.size wr Wb := hWb ▸ (Below.refl _ _).alloc (Nat.le_refl _) _
      have hk0 : Wb.heap[gb]? = some (.cells (boolsA (fun _ => false)) 76 (0, 0)) := by rw [hWb, hgb]; exact heap_alloc_new wr _
      have hub0 := HB.out.retag.keep hbb
      have hz0 : setO own1 wr.heap.size 0 gb = 0 := setO_new (by omega)
      have hgw : w.heap.size ≤ gb := by rw [hgb]; exact HB.out.below.size
      have H0 := Lib.hid (And.intro hk0 (And.intro hub0 hz0))
      clear hWb hgb hbb hk0 hub0 hz0
      go_upto_region 15 with fail
      go_loopw [14, 15, 16, 17] (fun v14 v15 _ _ wx => ∃ (k : Nat) (R : List Nat) (gone : Nat → Bool) (own' : Nat → Nat), k ≤ l.length ∧ v15 = .int .i64 k ∧ v14 = .int .i64 R.length ∧ R.length ≤ 20 ∧ Left n R gone ∧ Nub w wx own' q (HD height n R 0) n ∧ own' gb = 0 ∧ wx.heap[gb]? = some (.cells (boolsA gone) 76 (0, 0))) (fun _ v _ _ _ => l.length - (intOf v).toNat)
      case atStart => exact ⟨0, _, _, _, Nat.zero_le _, rfl, by rw [List.length_range'], by rw [List.length_range']; exact h2, Left.start n, H0.out.2.1, H0.out.2.2, H0.out.1⟩
      case round =>
        obtain ⟨k, R, gone, own2, hk, rfl, rfl, hrl, hleft, hub, hz, hg⟩ := hrel
        by_cases hlt2 : k < l.length
        · have dlt2 : decide ((k : Int) < (l.length : Int)) = true := decide_eq_true (by omega)
          obtain ⟨b, off, ha, hb, hc⟩ := HL.out.2.2 (by intro e; rw [e] at hlt2; simp at hlt2)
          simp only at ha
          subst ha
          obtain ⟨x, hx⟩ : ∃ x, x = l[k] := ⟨_, rfl⟩
          have hcx : wr.cell? ⟨b, off + k, none⟩ = some (.int .i64 x) := by rw [hx, ← hc k hlt2]; exact hub.below.cell (p := ⟨b, off + k, none⟩) hb
          have hxi : i64 x := hx ▸ HW.out _ (List.getElem_mem hlt2)
          have hro := round_al x n hxi (by omega) (by omega) wr
          obtain ⟨r, hr⟩ : ∃ r : Nat, roundS x n = (r : Int) := ⟨(roundS x n).toNat, by have := Int.emod_nonneg x (show (n : Int) ≠ 0 by omega); unfold roundS; omega⟩
          have hrn : r < n := by have := Int.emod_lt_of_pos x (show (0 : Int) < n by omega); unfold roundS at hr; omega
          rw [hr] at hro
          obtain ⟨kk, hkk⟩ : ∃ kk : Nat, kk = 1 + r := ⟨_, rfl⟩
          have hke : 1 + (r : Int) = (kk : Int) := by omega
          have k1 : 1 ≤ kk := by omega
          have k2 : kk ≤ n := by omega
          have k21 : (kk : Int) < 21 := by omega
          have k20 : (0 : Int) ≤ (kk : Int) := by omega
          have hd := hleft.drop kk k1 k2
          have hdr := hub.drop (kk : Int) (by unfold i64; omega)
          rw [drop_HD] at hdr
          have cg : wr.cell? ⟨gb, kk, none⟩ = some (.bool (gone kk)) := by rw [(cells_known hg).1]; exact boolsA_get _ (by omega)
          obtain ⟨R2, hR2⟩ : ∃ R2, R2 = R.filter (· != kk) := ⟨_, rfl⟩
          have hr2l : R2.length ≤ 20 := by rw [hR2]; exact Nat.le_trans (List.length_filter_le _ _) hrl
          rw [← hR2] at hd hdr
          have HR := Lib.hid hro
          have HKE := Lib.hid hke
          have HLE := Lib.hid hleft
          have HG := Lib.hid (And.intro hz hg)
          have HD2 := Lib.hid hd
          clear hro hub hd hc hx hr hkk hleft hz hg hxi hR2
          cases hgk : gone kk with
          | true =>
            rw [hgk] at cg
            have hin : ¬ ((kk : Int) ∈ (HD height n R 0).ids) := fun h => by have := HD2.out.2.2.1 (ids_HD.1 h); rw [hgk] at this; cases this
            rw [if_neg hin] at hdr
            have hlen : (R2.length : Int) = (R.length : Int) := by have := HD2.out.2.1; rw [hgk, if_pos rfl] at this; omega
            have HDR := Lib.hid hdr
            have HLN := Lib.hid hlen
            clear hdr hin hlen
            go_upto_region 18 with (go_at_call 28; refine HR.out.mono ?_; rintro e w2 ⟨rfl, rfl⟩)
            go_wp2_with fail
            refine HDR.out.mono ?_
            rintro e w3 ⟨own3, rfl, hub3, hk3⟩
            obtain ⟨g3, z3⟩ := hk3.block HG.out.1 HG.out.2
            have cg3 : w3.cell? ⟨gb, kk, none⟩ = some (.bool (gone kk)) := by rw [(cells_known g3).1]; exact boolsA_get _ (by omega)
            have fg3 : w3.frozen? ⟨gb, kk, none⟩ = false := (cells_known g3).2.1 kk
            obtain ⟨X, hX⟩ : ∃ X, X = w3.setCell ⟨gb, kk, none⟩ (.bool true) := ⟨_, rfl⟩
            have hu : Upd w3 X (fun k => k = gb) := hX ▸ Upd.setCell w3 ⟨gb, kk, none⟩ _
            have hg4 : X.heap[gb]? = some (.cells (boolsA (fun j => if j = kk then true else gone j)) 76 (0, 0)) := by rw [hX, heap_set g3 kk _, boolsA_set _ (by omega)]
            have hub4 := hub3.poke z3 hgw hu (by rw [hX]; simp [World.setCell])
            have H4 := Lib.hid (And.intro hub4 (And.intro z3 hg4))
            have HX := Lib.hid hX
            clear hub3 hk3 g3 z3 hX hu hg4 hub4
            go_wp2_with fail
            rw [← HX.out]
            exact ⟨⟨k + 1, R2, _, own3, by omega, rfl, by rw [HLN.out], hr2l, HD2.out.1, H4.out.1, H4.out.2.1, H4.out.2.2⟩, by show l.length - (k + 1) < l.length - k; omega⟩
          | false =>
            rw [hgk] at cg
            have hin : (kk : Int) ∈ (HD height n R 0).ids := ids_HD.2 (HD2.out.2.2.2 hgk)
            rw [if_pos hin] at hdr
            have hlen : (R.length : Int) - 1 = (R2.length : Int) := by have := HD2.out.2.1; rw [hgk, if_neg (by decide)] at this; omega
            have HDR := Lib.hid hdr
            have HLN := Lib.hid hlen
            clear hdr hin hlen
            go_upto_region 18 with (go_at_call 28; refine HR.out.mono ?_; rintro e w2 ⟨rfl, rfl⟩)
            go_wp2_with fail
            refine HDR.out.mono ?_
            rintro e w3 ⟨own3, rfl, hub3, hk3⟩
            obtain ⟨g3, z3⟩ := hk3.block HG.out.1 HG.out.2
            have cg3 : w3.cell? ⟨gb, kk, none⟩ = some (.bool (gone kk)) := by rw [(cells_known g3).1]; exact boolsA_get _ (by omega)
            have fg3 : w3.frozen? ⟨gb, kk, none⟩ = false := (cells_known g3).2.1 kk
            obtain ⟨X, hX⟩ : ∃ X, X = w3.setCell ⟨gb, kk, none⟩ (.bool true) := ⟨_, rfl⟩
            have hu : Upd w3 X (fun k => k = gb) := hX ▸ Upd.setCell w3 ⟨gb, kk, none⟩ _
            have hg4 : X.heap[gb]? = some (.cells (boolsA (fun j => if j = kk then true else gone j)) 76 (0, 0)) := by rw [hX, heap_set g3 kk _, boolsA_set _ (by omega)]
            have hub4 := hub3.poke z3 hgw hu (by rw [hX]; simp [World.setCell])
            have H4 := Lib.hid (And.intro hub4 (And.intro z3 hg4))
            have HX := Lib.hid hX
            clear hub3 hk3 g3 z3 hX hu hg4 hub4
            go_wp2_with fail
            rw [← HX.out]
            exact ⟨⟨k + 1, R2, _, own3, by omega, rfl, by rw [HLN.out], hr2l, HD2.out.1, H4.out.1, H4.out.2.1, H4.out.2.2⟩, by show l.length - (k + 1) < l.length - k; omega⟩
        · have hke : k = l.length := by omega
          subst hke
          have dlt2 : decide ((l.length : Int) < (l.length : Int)) = false := decide_eq_false (by omega)
          have HLE := Lib.hid hleft
          have HG := Lib.hid (And.intro hub (And.intro hz hg))
          clear hleft hub hz hg
          go_upto_region 27 with fail
          go_loopw [18, 19] (fun v18 v19 wx => ∃ (i : Nat) (own' : Nat → Nat) (t : Sl), i ≤ height ∧ v19 = .int .i64 i ∧ v18 = .slice t.a t.n t.c ∧ notesIn wx (fun k => own' k = 0) t (if i = height then R.map (hN height) else []) ∧ Nub w wx own' q (HD height n R i) (n + i) ∧ own' gb = 0 ∧ wx.heap[gb]? = some (.cells (boolsA gone) 76 (0, 0))) (fun _ v _ => height - (intOf v).toNat)
          case atStart => exact ⟨0, own2, ⟨none, 0, 0⟩, Nat.zero_le _, rfl, rfl, by rw [if_neg (by omega)]; exact slIn_nil _ _ _ _, HG.out.1, HG.out.2.1, HG.out.2.2⟩
          case round =>
            obtain ⟨i, own3, ⟨ta, tn, tc⟩, hi, rfl, rfl, hno, hub, hz, hg⟩ := hrel
            by_cases hlt3 : i < height
            · have dlt3 : decide ((i : Int) < (height : Int)) = true := decide_eq_true (by omega)
              have hcon := hub.connect (by omega) ⟨none, 0, 0⟩ [] [] ⟨slIn_nil _ _ _ _, rfl, fun k h1 h2 => absurd h1 (by simp)⟩ (by decide)
              have hc := con_HD height n R i
              rw [hc.1, hc.2.1, hc.2.2] at hcon
              have HCON := Lib.hid hcon
              have HG2 := Lib.hid (And.intro hz hg)
              clear hcon hc hno hub hz hg
              go_wp2_with fail
              refine HCON.out.mono ?_
              rintro e w3 ⟨⟨ua, un, uc⟩, own4, rfl, hno, hub, hk4⟩
              obtain ⟨g4, z4⟩ := hk4.block HG2.out.1 HG2.out.2
              have H5 := Lib.hid (And.intro hno (And.intro hub (And.intro z4 g4)))
              clear hno hub hk4 g4 z4
              go_wp2_with fail
              refine ⟨⟨i + 1, own4, ⟨ua, un, uc⟩, by omega, rfl, rfl, ?_, H5.out.2.1, H5.out.2.2.1, H5.out.2.2.2⟩, by show height - (i + 1) < height - i; omega⟩
              have := H5.out.1
              by_cases e : i + 1 = height
              · rw [if_pos e]; rw [if_pos (by omega)] at this; exact this
              · rw [if_neg e]; rw [if_neg (by omega)] at this; exact this
            · have hie : i = height := by omega
              subst hie
              have dlt3 : decide ((i : Int) < (i : Int)) = false := decide_eq_false (by omega)
              rw [if_pos rfl] at hno
              have htn : tn = R.length := by have := hno.1; simpa using this
              subst htn
              have hst := hub.standing (by omega)
              rw [stand_HD (by omega)] at hst
              have HST := Lib.hid hst
              have HNO := Lib.hid hno
              have HG2 := Lib.hid (And.intro hub (And.intro hz hg))
              clear hst hno hub hz hg
              go_upto_region 32 with (go_at_call 18; refine HST.out.mono ?_; rintro e w4 ⟨⟨ya, yn, yc⟩, rfl, hno4, hb4⟩; have hyn : yn = R.length := (by have := hno4.1; simpa using this); subst hyn; have HB4 := Lib.hid hb4; clear hno4 hb4)
              have g4 := (HB4.out.block gb (cells_known HG2.out.2.2).2.2).trans HG2.out.2.2
              have hno5 := (slIn.zone HNO.out (Y := fun g => own3 g = 0 ∧ g < wr.heap.size) (fun g hg hz => ⟨hz, hg⟩)).upd (Upd.of_below HB4.out (fun _ => False)) (fun _ _ _ h => h)
              obtain ⟨Z, hZ⟩ : ∃ Z, Z = w4 := ⟨_, rfl⟩
              have hbZ : Below wr.heap.size wr Z := hZ ▸ HB4.out
              have gZ : Z.heap[gb]? = some (.cells (boolsA gone) 76 (0, 0)) := hZ ▸ g4
              have hnZ : notesIn Z (fun g => own3 g = 0 ∧ g < wr.heap.size) ⟨ta, R.length, tc⟩ (R.map (hN i)) := hZ ▸ hno5
              have hubZ := HG2.out.1.retag.keep hbZ
              have FZ := Lib.hid (And.intro hbZ (And.intro gZ (And.intro hnZ hubZ)))
              have hx : Z = Z := rfl
              clear g4 hno5 hbZ gZ hnZ hubZ hx
              rw [← hZ]
              clear hZ
              go_upto_region 33 with fail
              go_loopw [20] (fun v20 wx => ∃ j : Nat, j ≤ R.length ∧ v20 = .int .i64 j ∧ wx = Z) (fun v _ => R.length - (intOf v).toNat)
              case atStart => exact ⟨0, Nat.zero_le _, rfl, rfl⟩
              case round =>
                obtain ⟨j, hj, rfl, rfl⟩ := hrel
                by_cases hlt4 : j < R.length
                · have dlt4 : decide ((j : Int) < (R.length : Int)) = true := decide_eq_true (by omega)
                  have hRl : (R.map (hN i)).length = R.length := List.length_map _
                  obtain ⟨b8, o8, ha8, _, _, hr8⟩ := FZ.out.2.2.1.2.2.2 (by intro e; have := congrArg List.length e; rw [hRl] at this; simp at this; rw [this] at hlt4; simp at hlt4)
                  simp only at ha8
                  subst ha8
                  have hrj := hr8 j (by omega)
                  obtain ⟨m, hm⟩ : ∃ m, m = R[j] := ⟨_, rfl⟩
                  have hmem := (HLE.out.mem m).1 (hm ▸ List.getElem_mem hlt4)
                  rw [List.getElem_map, ← hm] at hrj
                  have c0 : wr.cell? ⟨b8, o8 + j * 36, none⟩ = some (.int .i64 m) := by have := row?_cellAt hrj 0 (by decide); rw [Note.arr_0] at this; exact this
                  have c3 : wr.cell? ⟨b8, o8 + j * 36 + 3, none⟩ = some (.int .i64 i) := by have := row?_cellAt hrj 3 (by decide); rw [Note.arr_3] at this; exact this
                  have cg : wr.cell? ⟨gb, m, none⟩ = some (.bool false) := by rw [(cells_known FZ.out.2.1).1, boolsA_get _ (by omega), hmem.2.2]
                  have m1 : decide ((m : Int) < 1) = false := decide_eq_false (by omega)
                  have m2 : decide ((n : Int) < (m : Int)) = false := decide_eq_false (by omega)
                  have m3 : (m : Int) < 21 := by omega
                  have m5 : ((i : Int) != (i : Int)) = false := by simp
                  have m6 : (m : Int) ≤ (n : Int) := by omega
                  have m7 : (1 : Int) ≤ (m : Int) := by omega
                  have m4 : (0 : Int) ≤ (m : Int) := by omega
                  clear hr8 hrj hm hmem hRl
                  go_wp2_with fail
                  exact ⟨⟨j + 1, by omega, rfl, by first | trivial | rfl⟩, by show R.length - (j + 1) < R.length - j; omega⟩
                · have hje : j = R.length := by omega
                  subst hje
                  have dlt4 : decide ((R.length : Int) < (R.length : Int)) = false := decide_eq_false (by omega)
                  have hl := last_HD (h := (i : Int)) (m := n) (R := R) (a := i) (by omega)
                  have hreg := FZ.out.2.2.2.register (by omega) (xH 0)
                  rw [hl.1, hl.2.1, hl.2.2] at hreg
                  have HREG := Lib.hid hreg
                  clear hl hreg
                  go_wp2_with fail
                  rw [show ({ kind := 3, tx := Reg.zero.tx, depth := Reg.zero.depth, point := Reg.zero.point, height := 0 } : Reg) = xH 0 from rfl]
                  refine HREG.out.mono ?_
                  rintro e w7 ⟨⟨ya, yn, yc⟩, own7, rfl, hno7, hub7, _⟩
                  have hyn : yn = 1 := hno7.1
                  subst hyn
                  have HB7 := Lib.hid hub7.below
                  have en : (((n + 1 : Nat) : Int) == (n : Int) + 1) = true := by simp
                  have en2 : ((n : Int) + 1 == (n : Int) + 1) = true := by simp
                  clear hno7 hub7
                  go_wp2_with fail
                  refine (HA.out _).mono ?_
                  rintro e w9 ⟨rfl, hb9⟩
                  have HB9 := Lib.hid hb9
                  clear hb9
                  go_wp2_with fail
                  go_ret
                  exact ⟨rfl, HB7.out.trans (HB9.out.mono HB7.out.size)⟩
theorem notifyDrops_any (n height : Int) (s : Sl) (l : List Int) (w : World) (hl : isInts w s l) (hw : ∀ x ∈ l, i64 x) : Calls Tryz.prog 7 #[.int .i64 n, .slice s.a s.n s.c, .int .i64 height] w fun e w' => e = .returned (.bool true) ∧ Below w.heap.size w w' := by
  by_cases h : 1 ≤ n ∧ n ≤ 20 ∧ (s.n : Int) ≤ 20 ∧ 1 ≤ height ∧ height ≤ 20
  · obtain ⟨h1, h2, h3, h4, h5⟩ := h
    obtain ⟨a, rfl⟩ := Int.eq_ofNat_of_zero_le (show 0 ≤ n by omega)
    obtain ⟨b, rfl⟩ := Int.eq_ofNat_of_zero_le (show 0 ≤ height by omega)
    exact notifyDrops_nf a b s l w hl hw (by omega) (by omega) (by have := hl.1; omega) (by omega) (by omega)
  · exact notifyDrops_out n s height w h
end Go.Proofs.YtlkojkjeklblkaaGreat
