/- Package coraclelaw12: NotifyDepth. -/
import Derived.Test.YtlkojkjeklblkaaGreatNfT
set_option linter.unusedSimpArgs false
set_option linter.unusedVariables false
namespace Go.Proofs.YtlkojkjeklblkaaGreat
open Go.RowKit Go.MapKept
attribute [local go_sem] Hash.ext_whole Hash.size_arr
section
variable {W0 Wb w w' : World} {own0 own : Nat → Nat} {q : Nat} {M : HubM} {n : Nat} {s : Sl} {l : List Note}
/-- A turn of the hub beside what was gathered. -/
def TurnPost (W0 Wb : World) (own0 : Nat → Nat) (q n : Nat) (s : Sl) (l : List Note) (M' : HubM) (O : List Note) (E : Int) (e : Ending) (w' : World) : Prop :=
  ∃ (t : Sl) (own' : Nat → Nat), e = .returned (.tuple #[.slice t.a t.n t.c, .int .i64 E]) ∧ notesIn w' (fun k => own' k = 0) t O ∧ Seen W0 Wb w' own0 own' q M' (n + 1) s l
theorem Seen.turned (h : Seen W0 Wb w own0 own q M n s l) {M' M2 : HubM} {O O2 : List Note} {E E2 : Int} {e : Ending} (hM : M' = M2) (hO : O = O2) (hE : E = E2) (hp : ConN W0 w own q n M' O E e w') : TurnPost W0 Wb own0 q n s l M2 O2 E2 e w' := by
  subst hM hO hE
  exact h.turn hp
theorem Seen.conTurn (h : Seen W0 Wb w own0 own q M n s l) (hn : n < 100000) {u : Sl} {vs : List TxV} {b : List Tx} (hs : txsIn w (fun k => own k = 0) u vs b) (hb : b.length ≤ 1000000) {M2 : HubM} {O : List Note} {E : Int} (hM : M.conM b = M2) (hO : M.conO b = O) (hE : conE M.L b = E) :
    Calls Tryz.prog 24 #[.pointer (some ⟨q, 0, none⟩), .slice u.a u.n u.c] w (TurnPost W0 Wb own0 q n s l M2 O E) :=
  (h.nub.connect hn u vs b hs hb).mono (fun e w' hp => h.turned hM hO hE hp)
theorem Seen.nilTurn (h : Seen W0 Wb w own0 own q M n s l) (hn : n < 100000) {M2 : HubM} {O : List Note} {E : Int} (hM : M.conM [] = M2) (hO : M.conO [] = O) (hE : conE M.L [] = E) :
    Calls Tryz.prog 24 #[.pointer (some ⟨q, 0, none⟩), .slice none 0 0] w (TurnPost W0 Wb own0 q n s l M2 O E) :=
  h.conTurn hn (u := ⟨none, 0, 0⟩) (vs := []) ⟨slIn_nil _ _ _ _, rfl, fun k h1 h2 => absurd h1 (by simp)⟩ (by decide) hM hO hE
theorem Seen.disTurn (h : Seen W0 Wb w own0 own q M n s l) (hn : n < 100000) {M2 : HubM} {O : List Note} (hM : M.disM = M2) (hO : M.disO = O) (hE : ¬ M.L = []) :
    Calls Tryz.prog 25 #[.pointer (some ⟨q, 0, none⟩)] w (TurnPost W0 Wb own0 q n s l M2 O 0) :=
  (h.nub.disconnect hn).mono (fun e w' hp => h.turned hM hO (if_neg hE) hp)
end
set_option maxRecDepth 100000 in
set_option maxHeartbeats 4000000 in
theorem notifyDepth_out (depth ahead back : Int) (w : World) (h : ¬ (1 ≤ depth ∧ depth ≤ 30 ∧ 0 ≤ ahead ∧ ahead ≤ 10 ∧ 0 ≤ back ∧ back ≤ 40)) : Calls Tryz.prog 5 #[.int .i64 depth, .int .i64 ahead, .int .i64 back] w fun e w' => e = .returned (.bool true) ∧ Below w.heap.size w w' := by
  have haw := awake12 w
  have split : decide (depth < 1) = true ∨ (decide (depth < 1) = false ∧ decide (30 < depth) = true) ∨ (decide (depth < 1) = false ∧ decide (30 < depth) = false ∧ decide (ahead < 0) = true) ∨ (decide (depth < 1) = false ∧ decide (30 < depth) = false ∧ decide (ahead < 0) = false ∧ decide (10 < ahead) = true) ∨ (decide (depth < 1) = false ∧ decide (30 < depth) = false ∧ decide (ahead < 0) = false ∧ decide (10 < ahead) = false ∧ decide (back < 0) = true) ∨ (decide (depth < 1) = false ∧ decide (30 < depth) = false ∧ decide (ahead < 0) = false ∧ decide (10 < ahead) = false ∧ decide (back < 0) = false ∧ decide (40 < back) = true) := by
    simp only [decide_eq_true_eq, decide_eq_false_iff_not]
    omega
  clear h
  rcases split with p1 | ⟨p1, p2⟩ | ⟨p1, p2, p3⟩ | ⟨p1, p2, p3, p4⟩ | ⟨p1, p2, p3, p4, p5⟩ | ⟨p1, p2, p3, p4, p5, p6⟩
  all_goals (go_enter Tryz.func5, Tryz.ntmps5; go_wp2_with fail; refine haw.mono ?_; rintro e w1 ⟨rfl, hb⟩; go_wp2_with fail; go_ret; exact ⟨rfl, hb⟩)
set_option maxRecDepth 100000 in
set_option maxHeartbeats 4000000 in
theorem notifyDepth_nf (depth ahead back : Nat) (w : World) (h1 : 1 ≤ depth) (h2 : depth ≤ 30) (h3 : ahead ≤ 10) (h4 : back ≤ 40) : Calls Tryz.prog 5 #[.int .i64 depth, .int .i64 ahead, .int .i64 back] w fun e w' => e = .returned (.bool true) ∧ Below w.heap.size w w' := by
  have haw := awake12
  have HA := Lib.hid haw
  clear haw
  have p1 : decide ((depth : Int) < 1) = false := decide_eq_false (by omega)
  have p2 : decide (30 < (depth : Int)) = false := decide_eq_false (by omega)
  have p3 : decide ((ahead : Int) < 0) = false := decide_eq_false (by omega)
  have p4 : decide (10 < (ahead : Int)) = false := decide_eq_false (by omega)
  have p5 : decide ((back : Int) < 0) = false := decide_eq_false (by omega)
  have p6 : decide (40 < (back : Int)) = false := decide_eq_false (by omega)
  have hnew := Nub.new 5 (by decide) w
  go_enter Tryz.func5, Tryz.ntmps5
  go_wp2_with fail
  refine hnew.mono ?_
  rintro e w1 ⟨q, own, rfl, hN⟩
  have hname := name_al 1 (by decide) w1
  have hN' := Lib.hid hN
  clear hnew hN
  go_wp2_with fail
  refine hname.mono ?_
  rintro e w2 ⟨rfl, hb2⟩
  clear hname
  go_wp2_with fail
  obtain ⟨v, hv⟩ : ∃ v : TxV, v = ⟨⟨some ⟨w2.heap.size, 0, none⟩, 1, 1⟩, TxV.zero.outs, TxV.zero.lock⟩ := ⟨_, rfl⟩
  obtain ⟨ci, hci⟩ : ∃ x : In, x = ⟨⟨nameS 1, Outpoint.zero.n⟩, In.zero.seq, ⟨1, Witness.zero.key, Witness.zero.pre⟩⟩ := ⟨_, rfl⟩
  obtain ⟨W, hW⟩ : ∃ W, W = (w2.alloc (.cells ci.arr 68)).alloc (.cells v.arr 72) := ⟨_, rfl⟩
  rw [← hci, ← hv, ← hW]
  have hbW : Below w2.heap.size w2 W := hW ▸ ((Below.refl w2.heap.size w2).alloc (Nat.le_refl _) _).alloc (by simp) _
  have hz : W.heap.size = w2.heap.size + 2 := by rw [hW]; simp
  have k0 : W.heap[w2.heap.size]? = some (.cells ci.arr 68 (0, 0)) := by
    rw [hW]; exact (heap_alloc_old _ _ (by simp)).trans (heap_alloc_new w2 _)
  have k1 : W.heap[w2.heap.size + 1]? = some (.cells v.arr 72 (0, 0)) := by rw [hW]; exact heap_second _ _ _ _
  have htW : txIn W (fun k => w2.heap.size ≤ k) v tM := by
    have hti : tM.ins = [ci] := by rw [hci]; rfl
    have hs : slIn W (fun k => w2.heap.size ≤ k) ⟨some ⟨w2.heap.size, 0, none⟩, 1, 1⟩ 37 In.arr tM.ins := by rw [hti]; exact slIn_one k0 (by simp) (Nat.le_refl _)
    rw [hv]; exact ⟨hs, slIn_nil _ _ _ _, rfl⟩
  have hgl0 : w2.heap.size < W.heap.size := by omega
  have hcp : ci.prev = ⟨nameS 1, 0⟩ := by rw [hci]; rfl
  obtain ⟨ga, hga⟩ : ∃ g, g = w2.heap.size := ⟨_, rfl⟩
  have hcv : v.arr[0]? = some (.slice (some ⟨ga, 0, none⟩) 1 1) := by rw [hv, hga]; exact TxV.arr_0 _
  have HCV := Lib.hid (And.intro hcv hcp)
  obtain ⟨g, hg⟩ : ∃ g, g = w2.heap.size + 1 := ⟨_, rfl⟩
  have r1 : row? W ⟨w2.heap.size + 1, 0, none⟩ 3 = some v.arr := row_of_block k1 (by simp)
  have hid := id_ref v tM W htW.isTx
  have hN0 := (hN'.out.keep hb2).retag.keep hbW
  have HN0 := Lib.hid hN0
  have HT := Lib.hid (htW.zone (Y := fun k => setO own w2.heap.size 0 k = 0) (fun k _ hk => setO_new hk))
  have hgl : g < W.heap.size := by omega
  have Z1 : setO own w2.heap.size 0 g = 0 := setO_new (by omega)
  have Z0 : setO own w2.heap.size 0 ga = 0 := setO_new (by omega)
  rw [← hga] at k0 hgl0
  have J1 := Lib.hid (And.intro k0 (And.intro hgl0 Z0))
  rw [← hg] at k1 r1
  rw [← hg]
  have K1 := Lib.hid (And.intro k1 (And.intro hgl Z1))
  have HID := Lib.hid hid
  clear hv hW hbW hz k0 k1 htW hid hN0 hN' Z1 Z0 hci hg hgl hb2 hcv hcp hga hgl0
  go_wp2_with fail
  refine HID.out.mono ?_
  rintro e W2 ⟨rfl, hb2a⟩
  obtain ⟨V, hV⟩ : ∃ V, V = W2.alloc (.cells (idS tM).arr 38) := ⟨_, rfl⟩
  have hb2 : Below W.heap.size W V := hV ▸ hb2a.alloc hb2a.size _
  have i2 : V.heap[W2.heap.size]? = some (.cells (idS tM).arr 38 (0, 0)) := hV ▸ heap_alloc_new W2 _
  obtain ⟨gi, hgi⟩ : ∃ g, g = W2.heap.size := ⟨_, rfl⟩
  have hgl2 : gi < V.heap.size := by rw [hV, hgi]; simp
  rw [← hgi] at i2
  have HV := Lib.hid (And.intro hV hgi)
  have hW2 := hb2a.size
  have hreg := (HN0.out.retag.keep hb2).register (by decide) (xM depth)
  have hrm := reg_M (d := depth) (by omega) (by omega)
  rw [hrm.1, hrm.2.1, hrm.2.2] at hreg
  have HREG := Lib.hid hreg
  have HT2 := Lib.hid ((Keep0.below (own := setO own w2.heap.size 0) hb2).tx HT.out)
  have K2 := Lib.hid (And.intro ((hb2.block _ K1.out.2.1).trans K1.out.1) (show setO (setO own w2.heap.size 0) W.heap.size 0 g = 0 from (setO_old K1.out.2.1).trans K1.out.2.2))
  have J2 := Lib.hid (And.intro ((hb2.block _ J1.out.2.1).trans J1.out.1) (show setO (setO own w2.heap.size 0) W.heap.size 0 ga = 0 from (setO_old J1.out.2.1).trans J1.out.2.2))
  have I2 := Lib.hid (And.intro i2 (show setO (setO own w2.heap.size 0) W.heap.size 0 gi = 0 from setO_new (by omega)))
  clear hreg hb2 hrm hb2a i2 hV hgi hgl2 hW2
  go_wp2_with fail
  rw [← HV.out.1, ← HV.out.2]
  rw [show ({ kind := 1, tx := idS tM, depth := (depth : Int), point := Reg.zero.point, height := Reg.zero.height } : Reg) = xM depth from rfl]
  refine HREG.out.mono ?_
  rintro e W3 ⟨⟨sa, sn, sc⟩, own3, rfl, _, hN3, hK3⟩
  have K3 := Lib.hid (hK3.block K2.out.2 K2.out.1)
  have I3 := Lib.hid (hK3.block I2.out.2 I2.out.1)
  have J3 := Lib.hid (hK3.block J2.out.2 J2.out.1)
  have HT3 := Lib.hid (hK3.tx HT2.out)
  have HN3 := Lib.hid hN3
  have c9 : W3.cell? ⟨g, 0, none⟩ = some (.slice (some ⟨ga, 0, none⟩) 1 1) := by rw [(cells_known K3.out.1).1]; exact HCV.out.1
  have r9 : row? W3 ⟨ga, 0, none⟩ 33 = some (Outpoint.mk (nameS 1) 0).arr := by rw [row_part J3.out.1 0 33 (by simp)]; simp only [Nat.zero_add]; rw [In.ext_0, HCV.out.2]
  have hreg := hN3.register (by decide) yM
  have hrm := reg_M2 (depth : Int)
  rw [hrm.1, hrm.2] at hreg
  have HREG2 := Lib.hid hreg
  clear hN3 hK3 hrm hreg
  go_wp2_with fail
  rw [show ({ kind := 2, tx := Reg.zero.tx, depth := Reg.zero.depth, point := { tx := nameS 1, n := 0 }, height := Reg.zero.height } : Reg) = yM from rfl]
  refine HREG2.out.mono ?_
  rintro e Wb ⟨⟨sb, sbn, sbc⟩, own0, rfl, _, hNb, hKb⟩
  have Kb := Lib.hid (hKb.block K3.out.2 K3.out.1)
  have Ib := Lib.hid (hKb.block I3.out.2 I3.out.1)
  have Tb := Lib.hid (hKb.tx HT3.out)
  have hs0 := Lib.hid (Seen.start hNb)
  clear hNb hKb c9 r9
  go_upto_region 11 with fail
  go_loopw [11] (fun v11 wr => ∃ (a : Nat) (own' : Nat → Nat) (n : Nat), a ≤ ahead ∧ v11 = .int .i64 a ∧ n ≤ 2 + a ∧ Seen w Wb wr own0 own' q (M2 depth none none (nils a)) n ⟨none, 0, 0⟩ []) (fun v _ => ahead - (intOf v).toNat)
  case atStart => exact ⟨0, own0, 2, Nat.zero_le _, rfl, by decide, hs0.out⟩
  case round =>
    obtain ⟨a, own2, n2, ha, rfl, hn2, hsee⟩ := hrel
    by_cases hlt2 : a < ahead
    · have dlt2 : decide ((a : Int) < (ahead : Int)) = true := decide_eq_true (by omega)
      have hc := con2_nils depth a
      have hcon := hsee.nilTurn (by omega) hc.1 rfl hc.2
      have HCON := Lib.hid hcon
      clear hc hcon hsee
      go_wp2_with fail
      refine HCON.out.mono ?_
      rintro e w5 ⟨t, own3, rfl, _, hsee⟩
      have HS3 := Lib.hid hsee
      clear hsee
      go_wp2_with fail
      exact ⟨⟨a + 1, own3, n2 + 1, by omega, rfl, by omega, HS3.out⟩, by show ahead - (a + 1) < ahead - a; omega⟩
    · have hae : a = ahead := by omega
      subst hae
      have dlt2 : decide ((a : Int) < (a : Int)) = false := decide_eq_false (by omega)
      have HS2 := Lib.hid hsee
      clear hsee
      go_upto_region 14 with fail
      have r4 : row? wr ⟨g, 0, none⟩ 3 = some v.arr := row_of_block (HS2.out.keep.block Kb.out.2 Kb.out.1).1 (by simp)
      obtain ⟨W5, hW5⟩ : ∃ W5, W5 = wr.alloc (.cells v.arr 72) := ⟨_, rfl⟩
      have hb5 : Below wr.heap.size wr W5 := hW5 ▸ (Below.refl _ _).alloc (Nat.le_refl _) _
      have g5 : W5.heap[wr.heap.size]? = some (.cells v.arr 72 (0, 0)) := hW5 ▸ heap_alloc_new wr _
      have hs5 := HS2.out.below hb5
      have ht5 := hs5.keep.tx Tb.out
      have hc := con2_tx depth a
      obtain ⟨O, hO⟩ : ∃ O, O = (sM depth a 0).toList ++ [kM a] := ⟨_, rfl⟩
      have hcon := hs5.conTurn (by omega) (u := ⟨some ⟨wr.heap.size, 0, none⟩, 1, 1⟩) (vs := [v]) (b := [tM]) ⟨slIn_one g5 (by simp) (setO_new (Nat.le_refl _)), rfl, fun k h1 h2 => by
        have : k = 0 := by simpa using h1
        subst this
        exact ht5⟩ (by decide) hc.1 (hc.2.1.trans hO.symm) hc.2.2
      have HCON := Lib.hid hcon
      have HW5 := Lib.hid hW5
      have HO := Lib.hid hO
      clear hW5 hb5 g5 hs5 ht5 hc hcon HS2 hO
      go_upto_region 15 with (rw [← HW5.out]; go_at_call 24; refine HCON.out.mono ?_; rintro e W6 ⟨⟨ta, tn, tc⟩, own3, rfl, hno, hsee⟩; have HS3 := Lib.hid hsee; have HNO := Lib.hid hno; clear hsee hno)
      obtain ⟨ka, hka⟩ : ∃ x : Note, x = kM a := ⟨_, rfl⟩
      have ri : row? W6 ⟨gi, 0, none⟩ 32 = some (idS tM).arr := row_of_block (HS3.out.keep.block Ib.out.2 Ib.out.1).1 (by simp)
      have rid : ∀ m, row? (W6.drewN m) ⟨gi, 0, none⟩ 32 = some (idS tM).arr := fun _ => ri
      have hfact : ∃ bb off, ta = some ⟨bb, off, none⟩ ∧ (tn : Int) = (if depth = 1 then 2 else 1) ∧ row? W6 ⟨bb, off + (if depth = 1 then 36 else 0), none⟩ 36 = some ka.arr := by
        have hn : tn = O.length := HNO.out.1
        have hOe := HO.out
        unfold sM at hOe
        by_cases hd : depth = 1
        · rw [if_pos (by omega)] at hOe
          obtain ⟨bb, off, e1, _, _, hr⟩ := HNO.out.2.2.2 (by rw [hOe]; simp)
          refine ⟨bb, off, e1, by rw [hn, hOe, if_pos hd]; rfl, ?_⟩
          rw [if_pos hd]
          have := hr 1 (by rw [hOe]; simp)
          simp only [hOe] at this
          rw [hka]
          simpa using this
        · rw [if_neg (by omega)] at hOe
          obtain ⟨bb, off, e1, _, _, hr⟩ := HNO.out.2.2.2 (by rw [hOe]; simp)
          refine ⟨bb, off, e1, by rw [hn, hOe, if_neg hd]; rfl, ?_⟩
          rw [if_neg hd]
          have := hr 0 (by rw [hOe]; simp)
          simp only [hOe] at this
          rw [hka]
          simpa using this
      obtain ⟨bb, off, rfl, htn, hrw⟩ := hfact
      have hke : ({ id := 2, back := Note.zero.back, kind := 2, height := (a : Int) + 1, tx := idS tM } : Note) = ka := by rw [hka]; rfl
      clear hka HO HNO ri
      have hrwd : ∀ m, row? (W6.drewN m) ⟨bb, off + (if depth = 1 then 36 else 0), none⟩ 36 = some ka.arr := fun _ => hrw
      by_cases hd : depth = 1
      case' pos =>
        have e1 : ((depth : Int) == 1) = true := by rw [hd]; rfl
        rw [if_pos hd] at hrw hrwd htn
        have htn2 : tn = 2 := by omega
        subst htn2
        clear htn
        go_upto_region 18 with fail
        go_big_quiet (fail)
        obtain ⟨W7, hW7⟩ : ∃ W, W = W6.drewN nq := ⟨_, rfl⟩
        rw [← hW7]
        have HS7 := Lib.hid (HS3.out.below (hW7 ▸ below_drewN (Below.refl W6.heap.size W6) nq))
        clear hW7
        go_upto_region 21 with fail
      case' neg =>
        have e1 : ((depth : Int) == 1) = false := by simp; omega
        rw [if_neg hd] at hrw htn
        simp only [if_neg hd, Nat.add_zero] at hrw hrwd
        have htn2 : tn = 1 := by omega
        subst htn2
        clear htn
        go_upto_region 18 with fail
        go_big_quiet (fail)
        obtain ⟨W7, hW7⟩ : ∃ W, W = W6.drewN nq := ⟨_, rfl⟩
        rw [← hW7]
        have HS7 := Lib.hid (HS3.out.below (hW7 ▸ below_drewN (Below.refl W6.heap.size W6) nq))
        clear hW7
        go_upto_region 21 with fail
      all_goals
        clear hrw hrwd rid e1 hke hd
        go_loopw [12, 13, 15] (fun _ _ v15 wr => ∃ (j : Nat) (own' : Nat → Nat) (n : Nat), 2 ≤ j ∧ j ≤ depth + 1 ∧ v15 = .int .i64 j ∧ n ≤ n2 + j ∧ Seen w Wb wr own0 own' q (M2 depth (sM depth a (j - 2)) (some (kM a)) (LT a (j - 2) tM)) n ⟨none, 0, 0⟩ []) (fun _ _ v _ => depth + 1 - (intOf v).toNat)
        case atStart => exact ⟨2, _, n2 + 1, Nat.le_refl _, by omega, rfl, by omega, HS7.out⟩
        case round =>
          obtain ⟨j, own4, n4, hj1, hj2, rfl, hn4, hsee⟩ := hrel
          by_cases hlt3 : j ≤ depth
          · have dlt3 : decide ((j : Int) ≤ (depth : Int)) = true := decide_eq_true (by omega)
            have hc := con2_LT depth a (j - 2)
            have hol := out_len depth a (j - 2)
            rw [show j - 2 + 1 = j - 1 by omega] at hc hol
            obtain ⟨O2, hO2⟩ : ∃ O, O = outR (sM depth a (j - 2)) (sM depth a (j - 1)) := ⟨_, rfl⟩
            rw [← hO2] at hc hol
            have hcon := hsee.nilTurn (by omega) hc.1 hc.2.1 hc.2.2
            have HCON2 := Lib.hid hcon
            have HOL := Lib.hid hol
            clear hc hcon hsee hol hO2
            go_wp2_with fail
            refine HCON2.out.mono ?_
            rintro e w5 ⟨⟨xa, xn, xc⟩, own5, rfl, hno5, hsee⟩
            have HS5 := Lib.hid hsee
            have hxn : xn = O2.length := hno5.1
            have hol := HOL.out
            clear hsee hno5
            by_cases hjd : j = depth
            · rw [if_pos (by omega)] at hol
              rw [hol] at hxn
              subst hxn
              have e2 : ((j : Int) == (depth : Int)) = true := by rw [hjd]; simp
              have HJD := Lib.hid hjd
              clear hol hjd
              go_wp2_with fail
              exact ⟨⟨j + 1, own5, n4 + 1, by omega, by omega, rfl, by omega, by rw [show j + 1 - 2 = j - 1 by omega]; exact HS5.out⟩, by show depth + 1 - (j + 1) < depth + 1 - j; omega⟩
            · rw [if_neg (by omega)] at hol
              rw [hol] at hxn
              subst hxn
              have e2 : ((j : Int) == (depth : Int)) = false := by simp; omega
              clear hol
              go_wp2_with fail
              exact ⟨⟨j + 1, own5, n4 + 1, by omega, by omega, rfl, by omega, by rw [show j + 1 - 2 = j - 1 by omega]; exact HS5.out⟩, by show depth + 1 - (j + 1) < depth + 1 - j; omega⟩
          · have hje : j = depth + 1 := by omega
            have dlt3 : decide ((j : Int) ≤ (depth : Int)) = false := decide_eq_false (by omega)
            rw [show j - 2 = depth - 1 by omega, zero2 a depth h1] at hsee
            have hst := hsee.nub.standing (by omega)
            rw [stand2 a depth h1] at hst
            have HST := Lib.hid hst
            have HS4 := Lib.hid hsee
            have HJE := Lib.hid hje
            clear hsee hst hje
            go_wp2_with fail
            refine HST.out.mono ?_
            rintro e w5 ⟨⟨xa, xn, xc⟩, rfl, hno5, hb5⟩
            have hxn : xn = 2 := hno5.1
            subst hxn
            obtain ⟨bb5, off5, hxa, _, _, hr5⟩ := hno5.2.2.2 (by simp)
            simp only at hxa
            subst hxa
            obtain ⟨na, hna⟩ : ∃ x : Note, x = nM a := ⟨_, rfl⟩
            have r5 : row? w5 ⟨bb5, off5, none⟩ 36 = some na.arr := by have := hr5 0 (by simp); rw [hna]; simpa using this
            have r5d : ∀ m, row? (w5.drewN m) ⟨bb5, off5, none⟩ 36 = some na.arr := fun _ => r5
            have hs5 := HS4.out.below hb5
            have r6 : row? w5 ⟨gi, 0, none⟩ 32 = some (idS tM).arr := row_of_block (hs5.keep.block Ib.out.2 Ib.out.1).1 (by simp)
            have r6d : ∀ m, row? (w5.drewN m) ⟨gi, 0, none⟩ 32 = some (idS tM).arr := fun _ => r6
            have HS5 := Lib.hid hs5
            have hke2 : ({ id := 1, back := Note.zero.back, kind := 1, height := (a : Int) + 1, tx := idS tM } : Note) = na := by rw [hna]; rfl
            clear hno5 hb5 hr5 hna hs5
            go_upto_region 27 with fail
            go_big_quiet (fail)
            obtain ⟨w6, hw6⟩ : ∃ W, W = w5.drewN nq := ⟨_, rfl⟩
            rw [← hw6]
            have HS6 := Lib.hid (HS5.out.below (hw6 ▸ below_drewN (Below.refl w5.heap.size w5) nq))
            clear hw6
            go_upto_region 30 with fail
            obtain ⟨m, hm⟩ : ∃ m, m = min back depth := ⟨_, rfl⟩
            have hmd : m ≤ depth := by omega
            have hmb : m ≤ back := by omega
            have hmi : min (back : Int) (depth : Int) = (m : Int) := by omega
            have HM := Lib.hid hm
            clear hm r5 r5d r6 r6d hke2
            go_loopw [12, 13, 17, 18, 19] (fun _ _ v17 _ _ wr => ∃ (i : Nat) (own' : Nat → Nat) (n : Nat), i ≤ m ∧ v17 = .int .i64 i ∧ n ≤ n4 + i ∧ Seen w Wb wr own0 own' q (M2 depth (sD a i) (yD a depth i) (LD a depth i)) n ⟨none, 0, 0⟩ []) (fun _ _ v _ _ _ => m - (intOf v).toNat)
            case atStart => exact ⟨0, _, n4, Nat.zero_le _, rfl, by omega, HS6.out⟩
            case round =>
              obtain ⟨i, own7, n7, hi, rfl, hn7, hsee⟩ := hrel
              by_cases hlt4 : i < m
              · have dl1 : decide ((i : Int) < (m : Int)) = true := decide_eq_true (by omega)
                have hd := dis2_LD (a := a) (d := depth) (k := i) h1 (by omega)
                obtain ⟨O3, hO3⟩ : ∃ O, O = bD a depth i := ⟨_, rfl⟩
                have hol := bD_len a depth i
                have hbk : ∀ n ∈ O3, n.back = true := by rw [hO3]; exact bD_back
                rw [← hO3] at hd hol
                have hdis := hsee.disTurn (by omega) hd.1 hd.2.1 hd.2.2
                have HDIS := Lib.hid hdis
                have HOL := Lib.hid hol
                have HBK := Lib.hid hbk
                clear hd hdis hsee hol hbk hO3
                go_wp2_with fail
                refine HDIS.out.mono ?_
                rintro e w8 ⟨⟨ya, yn, yc⟩, own8, rfl, hno8, hsee⟩
                have HS8 := Lib.hid hsee
                have hyn : yn = O3.length := hno8.1
                have HNO8 := Lib.hid hno8
                have hol := HOL.out
                clear hsee hno8
                have hsp : ((i : Int) == 0) = true ∧ ((i : Int) == (depth : Int) - 1) = true ∧ yn = 2 ∨ ((i : Int) == 0) = true ∧ ((i : Int) == (depth : Int) - 1) = false ∧ yn = 1 ∨ ((i : Int) == 0) = false ∧ ((i : Int) == (depth : Int) - 1) = true ∧ yn = 1 ∨ ((i : Int) == 0) = false ∧ ((i : Int) == (depth : Int) - 1) = false ∧ yn = 0 := by
                  by_cases x1 : i = 0
                  · have z1 : ((i : Int) == 0) = true := by rw [x1]; rfl
                    rw [if_pos x1] at hol
                    by_cases x2 : i + 1 = depth
                    · rw [if_pos x2] at hol; exact .inl ⟨z1, by simp; omega, by rw [hyn, hol]⟩
                    · rw [if_neg x2] at hol; exact .inr (.inl ⟨z1, by simp; omega, by rw [hyn, hol]⟩)
                  · have z1 : ((i : Int) == 0) = false := by simp; omega
                    rw [if_neg x1] at hol
                    by_cases x2 : i + 1 = depth
                    · rw [if_pos x2] at hol; exact .inr (.inr (.inl ⟨z1, by simp; omega, by rw [hyn, hol]⟩))
                    · rw [if_neg x2] at hol; exact .inr (.inr (.inr ⟨z1, by simp; omega, by rw [hyn, hol]⟩))
                clear hol
                rcases hsp with ⟨b1, b2, hy⟩ | ⟨b1, b2, hy⟩ | ⟨b1, b2, hy⟩ | ⟨b1, b2, hy⟩
                all_goals
                  have HYN := Lib.hid hyn
                  clear hyn
                  subst hy
                  go_upto_region 41 with fail
                  go_loopw [19] (fun v19 wx => ∃ k : Nat, k ≤ O3.length ∧ v19 = .int .i64 k ∧ wx = w8) (fun v _ => O3.length - (intOf v).toNat)
                  case atStart => exact ⟨0, Nat.zero_le _, rfl, rfl⟩
                  case round =>
                    obtain ⟨k, hk, rfl, rfl⟩ := hrel
                    by_cases hlt5 : k < O3.length
                    · first | (exfalso; have h0 := HYN.out; omega) | skip
                      all_goals
                        have dk : decide ((k : Int) < (O3.length : Int)) = true := decide_eq_true (by omega)
                        rw [← HYN.out] at dk
                        first | (have dk2 : decide ((k : Int) < 2) = true := dk) | (have dk2 : decide ((k : Int) < 1) = true := dk) | (have dk2 : decide ((k : Int) < 0) = true := dk)
                        have dk3 := of_decide_eq_true dk2
                        have dk4 : (0 : Int) ≤ (k : Int) := by omega
                        obtain ⟨bb8, off8, hya, _, _, hr8⟩ := HNO8.out.2.2.2 (by intro e; rw [e] at hlt5; simp at hlt5)
                        simp only at hya
                        subst hya
                        have c43 : wr.cell? ⟨bb8, off8 + k * 36 + 1, none⟩ = some (.bool true) := by
                          have := row?_cellAt (hr8 k hlt5) 1 (by decide)
                          rw [Note.arr_1, HBK.out _ (List.getElem_mem hlt5)] at this
                          exact this
                        clear hr8
                        go_wp2_with fail
                        exact ⟨⟨k + 1, by omega, rfl, by first | trivial | rfl⟩, by show O3.length - (k + 1) < O3.length - k; omega⟩
                    · have hke : k = O3.length := by omega
                      have dk : decide ((k : Int) < (O3.length : Int)) = false := decide_eq_false (by omega)
                      rw [← HYN.out] at dk
                      first | (have dk2 : decide ((k : Int) < 2) = false := dk) | (have dk2 : decide ((k : Int) < 1) = false := dk) | (have dk2 : decide ((k : Int) < 0) = false := dk)
                      clear hke
                      go_wp2_with fail
                      exact ⟨⟨i + 1, own8, n7 + 1, by omega, rfl, by omega, HS8.out⟩, by show m - (i + 1) < m - i; omega⟩
              · have hie : i = m := by omega
                have dl1 : decide ((i : Int) < (m : Int)) = false := decide_eq_false (by omega)
                have HS8 := Lib.hid hsee
                clear hsee hie
                go_wp2_with fail
                refine (HA.out _).mono ?_
                rintro e w9 ⟨rfl, hb9⟩
                have HB9 := Lib.hid hb9
                clear hb9
                go_wp2_with fail
                go_ret
                exact ⟨rfl, HS8.out.nub.below.trans (HB9.out.mono HS8.out.nub.below.size)⟩
theorem notifyDepth_any (depth ahead back : Int) (w : World) : Calls Tryz.prog 5 #[.int .i64 depth, .int .i64 ahead, .int .i64 back] w fun e w' => e = .returned (.bool true) ∧ Below w.heap.size w w' := by
  by_cases h : 1 ≤ depth ∧ depth ≤ 30 ∧ 0 ≤ ahead ∧ ahead ≤ 10 ∧ 0 ≤ back ∧ back ≤ 40
  · obtain ⟨h1, h2, h3, h4, h5, h6⟩ := h
    obtain ⟨a, rfl⟩ := Int.eq_ofNat_of_zero_le (show 0 ≤ depth by omega)
    obtain ⟨b, rfl⟩ := Int.eq_ofNat_of_zero_le h3
    obtain ⟨c, rfl⟩ := Int.eq_ofNat_of_zero_le h5
    exact notifyDepth_nf a b c w (by omega) (by omega) (by omega) (by omega)
  · exact notifyDepth_out depth ahead back w h
end Go.Proofs.YtlkojkjeklblkaaGreat
