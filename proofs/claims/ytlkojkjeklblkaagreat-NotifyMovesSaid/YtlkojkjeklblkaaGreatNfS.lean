/- Package coraclelaw12: NotifyMoves. -/
import Derived.Test.YtlkojkjeklblkaaGreatNfR
set_option linter.unusedSimpArgs false
set_option linter.unusedVariables false
namespace Go.Proofs.YtlkojkjeklblkaaGreat
open Go.RowKit Go.MapKept
attribute [local go_sem] Hash.ext_whole Hash.size_arr
set_option maxRecDepth 100000 in
set_option maxHeartbeats 4000000 in
theorem notifyMoves_out (depth high low : Int) (w : World) (h : ¬ (1 ≤ depth ∧ depth ≤ 5 ∧ 0 ≤ high ∧ high ≤ 8 ∧ 0 ≤ low ∧ low ≤ 8)) : Calls Tryz.prog 6 #[.int .i64 depth, .int .i64 high, .int .i64 low] w fun e w' => e = .returned (.bool true) ∧ Below w.heap.size w w' := by
  have haw := awake12 w
  have split : decide (depth < 1) = true ∨ (decide (depth < 1) = false ∧ decide (5 < depth) = true) ∨ (decide (depth < 1) = false ∧ decide (5 < depth) = false ∧ decide (high < 0) = true) ∨ (decide (depth < 1) = false ∧ decide (5 < depth) = false ∧ decide (high < 0) = false ∧ decide (8 < high) = true) ∨ (decide (depth < 1) = false ∧ decide (5 < depth) = false ∧ decide (high < 0) = false ∧ decide (8 < high) = false ∧ decide (low < 0) = true) ∨ (decide (depth < 1) = false ∧ decide (5 < depth) = false ∧ decide (high < 0) = false ∧ decide (8 < high) = false ∧ decide (low < 0) = false ∧ decide (8 < low) = true) := by
    simp only [decide_eq_true_eq, decide_eq_false_iff_not]
    omega
  clear h
  rcases split with p1 | ⟨p1, p2⟩ | ⟨p1, p2, p3⟩ | ⟨p1, p2, p3, p4⟩ | ⟨p1, p2, p3, p4, p5⟩ | ⟨p1, p2, p3, p4, p5, p6⟩
  all_goals (go_enter Tryz.func6, Tryz.ntmps6; go_wp2_with fail; refine haw.mono ?_; rintro e w1 ⟨rfl, hb⟩; go_wp2_with fail; go_ret; exact ⟨rfl, hb⟩)
def allsM (a b k : Nat) : List Note := if k = 0 then [] else if k = 1 then [nM a, { nM a with back := true }] else [nM a, { nM a with back := true }, nM b]
set_option maxRecDepth 100000 in
set_option maxHeartbeats 4000000 in
theorem notifyMoves_nf (depth high low : Nat) (w : World) (h1 : 1 ≤ depth) (h2 : depth ≤ 5) (h3 : high ≤ 8) (h4 : low ≤ 8) : Calls Tryz.prog 6 #[.int .i64 depth, .int .i64 high, .int .i64 low] w fun e w' => e = .returned (.bool true) ∧ Below w.heap.size w w' := by
  have haw := awake12
  have HA := Lib.hid haw
  clear haw
  have p1 : decide ((depth : Int) < 1) = false := decide_eq_false (by omega)
  have p2 : decide (5 < (depth : Int)) = false := decide_eq_false (by omega)
  have p3 : decide ((high : Int) < 0) = false := decide_eq_false (by omega)
  have p4 : decide (8 < (high : Int)) = false := decide_eq_false (by omega)
  have p5 : decide ((low : Int) < 0) = false := decide_eq_false (by omega)
  have p6 : decide (8 < (low : Int)) = false := decide_eq_false (by omega)
  have hnew := Nub.new 5 (by decide) w
  go_enter Tryz.func6, Tryz.ntmps6
  go_wp2_with fail
  refine hnew.mono ?_
  rintro e w1 ⟨q, own, rfl, hN⟩
  have hname := name_al 1 (by decide) w1
  have hN' := Lib.hid hN
  clear hnew hN
  go_wp2_with fail
  refine hname.mono ?_
  rintro e w2 ⟨rfl, hb2⟩
  clear hname
  go_wp2_with fail
  obtain ⟨v, hv⟩ : ∃ v : TxV, v = ⟨⟨some ⟨w2.heap.size, 0, none⟩, 1, 1⟩, TxV.zero.outs, TxV.zero.lock⟩ := ⟨_, rfl⟩
  obtain ⟨ci, hci⟩ : ∃ x : In, x = ⟨⟨nameS 1, Outpoint.zero.n⟩, In.zero.seq, ⟨1, Witness.zero.key, Witness.zero.pre⟩⟩ := ⟨_, rfl⟩
  obtain ⟨W, hW⟩ : ∃ W, W = (w2.alloc (.cells ci.arr 68)).alloc (.cells v.arr 72) := ⟨_, rfl⟩
  rw [← hci, ← hv, ← hW]
  have hbW : Below w2.heap.size w2 W := hW ▸ ((Below.refl w2.heap.size w2).alloc (Nat.le_refl _) _).alloc (by simp) _
  have hz : W.heap.size = w2.heap.size + 2 := by rw [hW]; simp
  have k0 : W.heap[w2.heap.size]? = some (.cells ci.arr 68 (0, 0)) := by
    rw [hW]; exact (heap_alloc_old _ _ (by simp)).trans (heap_alloc_new w2 _)
  have k1 : W.heap[w2.heap.size + 1]? = some (.cells v.arr 72 (0, 0)) := by rw [hW]; exact heap_second _ _ _ _
  have htW : txIn W (fun k => w2.heap.size ≤ k) v tM := by
    have hti : tM.ins = [ci] := by rw [hci]; rfl
    have hs : slIn W (fun k => w2.heap.size ≤ k) ⟨some ⟨w2.heap.size, 0, none⟩, 1, 1⟩ 37 In.arr tM.ins := by rw [hti]; exact slIn_one k0 (by simp) (Nat.le_refl _)
    rw [hv]; exact ⟨hs, slIn_nil _ _ _ _, rfl⟩
  obtain ⟨g, hg⟩ : ∃ g, g = w2.heap.size + 1 := ⟨_, rfl⟩
  have r1 : row? W ⟨w2.heap.size + 1, 0, none⟩ 3 = some v.arr := row_of_block k1 (by simp)
  have hid := id_ref v tM W htW.isTx
  have hN0 := (hN'.out.keep hb2).retag.keep hbW
  have HN0 := Lib.hid hN0
  have HT := Lib.hid (htW.zone (Y := fun k => setO own w2.heap.size 0 k = 0) (fun k _ hk => setO_new hk))
  have hgl : g < W.heap.size := by omega
  have Z1 : setO own w2.heap.size 0 g = 0 := setO_new (by omega)
  rw [← hg] at k1 r1
  rw [← hg]
  have K1 := Lib.hid (And.intro k1 (And.intro hgl Z1))
  have HID := Lib.hid hid
  clear hv hW hbW hz k0 k1 htW hid hN0 hN' Z1 hci hg hgl hb2
  go_wp2_with fail
  refine HID.out.mono ?_
  rintro e W2 ⟨rfl, hb2a⟩
  obtain ⟨V, hV⟩ : ∃ V, V = W2.alloc (.cells (idS tM).arr 38) := ⟨_, rfl⟩
  have hb2 : Below W.heap.size W V := hV ▸ hb2a.alloc hb2a.size _
  have i2 : V.heap[W2.heap.size]? = some (.cells (idS tM).arr 38 (0, 0)) := hV ▸ heap_alloc_new W2 _
  obtain ⟨gi, hgi⟩ : ∃ g, g = W2.heap.size := ⟨_, rfl⟩
  have hgl2 : gi < V.heap.size := by rw [hV, hgi]; simp
  rw [← hgi] at i2
  have HV := Lib.hid (And.intro hV hgi)
  have hW2 := hb2a.size
  have hreg := (HN0.out.retag.keep hb2).register (by decide) (xM depth)
  have hrm := reg_M (d := depth) (by omega) (by omega)
  rw [hrm.1, hrm.2.1, hrm.2.2] at hreg
  have HREG := Lib.hid hreg
  have HT2 := Lib.hid ((Keep0.below (own := setO own w2.heap.size 0) hb2).tx HT.out)
  have K2 := Lib.hid (And.intro ((hb2.block _ K1.out.2.1).trans K1.out.1) (show setO (setO own w2.heap.size 0) W.heap.size 0 g = 0 from (setO_old K1.out.2.1).trans K1.out.2.2))
  have I2 := Lib.hid (And.intro i2 (show setO (setO own w2.heap.size 0) W.heap.size 0 gi = 0 from setO_new (by omega)))
  clear hreg hb2 hrm hb2a i2 hV hgi hgl2 hW2
  go_wp2_with fail
  rw [← HV.out.1, ← HV.out.2]
  rw [show ({ kind := 1, tx := idS tM, depth := (depth : Int), point := Reg.zero.point, height := Reg.zero.height } : Reg) = xM depth from rfl]
  refine HREG.out.mono ?_
  rintro e W3 ⟨⟨sa, sn, sc⟩, own3, rfl, _, hN3, hK3⟩
  have K3 := Lib.hid (hK3.block K2.out.2 K2.out.1)
  have I3 := Lib.hid (hK3.block I2.out.2 I2.out.1)
  have HT3 := Lib.hid (hK3.tx HT2.out)
  have HN3 := Lib.hid hN3
  clear hN3 hK3
  go_wp2_with fail
  obtain ⟨Wb, hWb⟩ : ∃ W, W = W3.alloc (.cells #[.int .i64 (high : Int), .int .i64 (low : Int)] 3) := ⟨_, rfl⟩
  rw [← hWb]
  have hbb : Below W3.heap.size W3 Wb := hWb ▸ (Below.refl _ _).alloc (Nat.le_refl _) _
  obtain ⟨gw, hgw⟩ : ∃ g, g = W3.heap.size := ⟨_, rfl⟩
  have iw : Wb.heap[gw]? = some (.cells #[.int .i64 (high : Int), .int .i64 (low : Int)] 3 (0, 0)) := by rw [hWb, hgw]; exact heap_alloc_new W3 _
  obtain ⟨own0, ho0⟩ : ∃ o, o = setO own3 W3.heap.size 0 := ⟨_, rfl⟩
  have zw : own0 gw = 0 := by rw [ho0]; exact setO_new (by omega)
  have kb : Keep0 own3 own0 W3 Wb := ho0 ▸ Keep0.below hbb
  have Kb := Lib.hid (kb.block K3.out.2 K3.out.1)
  have Ib := Lib.hid (kb.block I3.out.2 I3.out.1)
  have Tb := Lib.hid (kb.tx HT3.out)
  have hNb : Nub w Wb own0 q (MM (xM depth) none []) 1 := ho0 ▸ HN3.out.retag.keep hbb
  have Iw := Lib.hid (And.intro iw zw)
  have hs0 := Seen.start hNb
  rw [← hgw]
  clear hWb hbb hgw iw ho0 zw kb hNb
  go_loopw [11, 13] (fun v11 v13 wr => ∃ (k : Nat) (own' : Nat → Nat) (s : Sl) (n : Nat) (M : HubM), k ≤ 2 ∧ v13 = .int .i64 k ∧ v11 = .slice s.a s.n s.c ∧ n ≤ 40 * k + 1 ∧ (k < 2 → M = MM (xM depth) none []) ∧ Seen w Wb wr own0 own' q M n s (allsM high low k)) (fun _ v _ => 2 - (intOf v).toNat)
  case atStart => exact ⟨0, own0, ⟨none, 0, 0⟩, 1, _, by decide, rfl, rfl, by decide, fun _ => rfl, hs0⟩
  case round =>
    obtain ⟨k, own1, s1, n1, M1, hk, rfl, rfl, hn1, hM1, hsee⟩ := hrel
    by_cases hlt : k < 2
    · have dlt : decide ((k : Int) < 2) = true := decide_eq_true (by omega)
      have hMe := hM1 hlt
      subst hMe
      obtain ⟨hh, hhd⟩ : ∃ h, h = (if k = 0 then high else low) := ⟨_, rfl⟩
      have hcw : wr.cell? ⟨gw, k, none⟩ = some (.int .i64 (hh : Int)) := by
        rw [(cells_known (hsee.keep.block Iw.out.2 Iw.out.1).1).1, hhd]
        rcases (show k = 0 ∨ k = 1 by omega) with rfl | rfl <;> rfl
      have hh8 : hh ≤ 8 := by rw [hhd]; split <;> omega
      have HHD := Lib.hid hhd
      clear hhd
      have HS := Lib.hid hsee
      have HC := Lib.hid hcw
      clear hsee hcw hM1 hs0
      go_upto_region 15 with fail
      go_loopw [11, 14] (fun v11 v14 wx => ∃ (a : Nat) (own' : Nat → Nat) (s : Sl) (n : Nat), a ≤ hh ∧ v14 = .int .i64 a ∧ v11 = .slice s.a s.n s.c ∧ n ≤ n1 + a ∧ Seen w Wb wx own0 own' q (MM (xM depth) none (nils a)) n s (allsM high low k)) (fun _ v _ => hh - (intOf v).toNat)
      case atStart => exact ⟨0, own1, s1, n1, Nat.zero_le _, rfl, rfl, Nat.le_refl _, HS.out⟩
      case round =>
        obtain ⟨a, own2, s2, n2, ha, rfl, rfl, hn2, hsee⟩ := hrel
        have hcw : wr.cell? ⟨gw, k, none⟩ = some (.int .i64 (hh : Int)) := by
          rw [(cells_known (hsee.keep.block Iw.out.2 Iw.out.1).1).1, HHD.out]
          rcases (show k = 0 ∨ k = 1 by omega) with rfl | rfl <;> rfl
        have hcz : ∀ W : World, wr.cell? ⟨gw, k, none⟩ = some (.int .i64 (hh : Int)) := fun _ => hcw
        by_cases hlt2 : a < hh
        · have dlt2 : decide ((a : Int) < (hh : Int)) = true := decide_eq_true (by omega)
          have hc := conM_nils depth a
          have hcon := hsee.nilApp (by omega) hc.1 (by rw [hc.2.1, List.append_nil]) hc.2.2 (by unfold allsM; split <;> (try split) <;> simp)
          have HCON := Lib.hid hcon
          clear hc hcon hsee hcz
          go_wp2_with fail
          refine HCON.out.mono ?_
          rintro e w5 ⟨t, rfl, s3, w6, own3, hr, hsee⟩
          have HR := Lib.hid (hr 47)
          have HS3 := Lib.hid hsee
          clear hr hsee
          go_wp2_with (at_builtin; refine wpList_runN rfl _ _ _ _ rfl _ _ rfl rfl HR.out ?_)
          exact ⟨⟨a + 1, own3, s3, n2 + 1, by omega, rfl, rfl, by omega, HS3.out⟩, by show hh - (a + 1) < hh - a; omega⟩
        · have hae : a = hh := by omega
          subst hae
          have dlt2 : decide ((a : Int) < (a : Int)) = false := decide_eq_false (by omega)
          have HS2 := Lib.hid hsee
          clear hsee hcz
          go_upto_region 19 with fail
          obtain ⟨B, hB⟩ : ∃ B, B = allsM high low k := ⟨_, rfl⟩
          have hBl : B.length ≤ 3 := by rw [hB]; unfold allsM; split <;> (try split) <;> simp
          have r4 : row? wr ⟨g, 0, none⟩ 3 = some v.arr := row_of_block (HS2.out.keep.block Kb.out.2 Kb.out.1).1 (by simp)
          obtain ⟨W5, hW5⟩ : ∃ W5, W5 = wr.alloc (.cells v.arr 72) := ⟨_, rfl⟩
          have hb5 : Below wr.heap.size wr W5 := hW5 ▸ (Below.refl _ _).alloc (Nat.le_refl _) _
          have g5 : W5.heap[wr.heap.size]? = some (.cells v.arr 72 (0, 0)) := hW5 ▸ heap_alloc_new wr _
          have hs5 := HS2.out.below hb5
          rw [← hB] at hs5
          have ht5 := hs5.keep.tx Tb.out
          have hc := conM_tx depth a
          have hcon := hs5.conApp (by omega) (u := ⟨some ⟨wr.heap.size, 0, none⟩, 1, 1⟩) (vs := [v]) (b := [tM]) ⟨slIn_one g5 (by simp) (setO_new (Nat.le_refl _)), rfl, fun k h1 h2 => by
            have : k = 0 := by simpa using h1
            subst this
            exact ht5⟩ (by decide) hc.1 (l2 := B ++ (sM depth a 0).toList) (by rw [hc.2.1]) hc.2.2 (by unfold sM; split <;> simp <;> omega)
          have HCON := Lib.hid hcon
          have HW5 := Lib.hid hW5
          have HB := Lib.hid hB
          clear hW5 hb5 g5 hs5 ht5 hc hcon HS2 hB
          go_upto_region 24 with (first | (rw [← HW5.out]; go_at_call 24; refine HCON.out.mono ?_; rintro e W6 ⟨t, rfl, s3, W7, own3, hr, hsee⟩; have HR := Lib.hid (hr 47); have HS3 := Lib.hid hsee; clear hr hsee) | (at_builtin; refine wpList_runN rfl _ _ _ _ rfl _ _ rfl rfl HR.out ?_))
          go_loopw [11, 19] (fun v11 v19 wy => ∃ (i : Nat) (own' : Nat → Nat) (s : Sl) (n : Nat), 1 ≤ i ∧ i ≤ depth ∧ v19 = .int .i64 i ∧ v11 = .slice s.a s.n s.c ∧ n ≤ n2 + i ∧ Seen w Wb wy own0 own' q (MM (xM depth) (sM depth a (i - 1)) (LT a (i - 1) tM)) n s (B ++ (sM depth a (i - 1)).toList)) (fun _ v _ => depth - (intOf v).toNat)
          case atStart => exact ⟨1, own3, s3, n2 + 1, Nat.le_refl _, h1, rfl, rfl, Nat.le_refl _, HS3.out⟩
          case round =>
            obtain ⟨i, own4, s4, n4, hi1, hi2, rfl, rfl, hn4, hsee⟩ := hrel
            by_cases hlt3 : i < depth
            · have dlt3 : decide ((i : Int) < (depth : Int)) = true := decide_eq_true (by omega)
              have hc := conM_LT depth a (i - 1)
              have hO := told_LT depth a (i - 1)
              rw [show i - 1 + 1 = i by omega] at hc hO
              have hcon := hsee.nilApp (by omega) hc.1 (l2 := B ++ (sM depth a i).toList) (by rw [hc.2.1, List.append_assoc, hO]) hc.2.2 (by unfold sM; split <;> simp <;> omega)
              have HCON := Lib.hid hcon
              clear hc hO hcon hsee
              go_wp2_with fail
              refine HCON.out.mono ?_
              rintro e w5 ⟨t, rfl, s5, w6, own5, hr, hsee⟩
              have HR := Lib.hid (hr 47)
              have HS5 := Lib.hid hsee
              clear hr hsee
              go_wp2_with (at_builtin; refine wpList_runN rfl _ _ _ _ rfl _ _ rfl rfl HR.out ?_)
              exact ⟨⟨i + 1, own5, s5, n4 + 1, by omega, by omega, rfl, rfl, by omega, HS5.out⟩, by show depth - (i + 1) < depth - i; omega⟩
            · have hie : i = depth := by omega
              subst hie
              have dlt3 : decide ((i : Int) < (i : Int)) = false := decide_eq_false (by omega)
              have hz := sD_zero a i h1
              rw [hz.1, hz.2] at hsee
              have HS4 := Lib.hid hsee
              clear hsee hz
              go_upto_region 29 with fail
              go_loopw [11, 20] (fun v11 v20 wz => ∃ (j : Nat) (own' : Nat → Nat) (s : Sl) (n : Nat), j ≤ (if k = 0 then a + i else 0) ∧ v20 = .int .i64 j ∧ v11 = .slice s.a s.n s.c ∧ n ≤ n4 + j ∧ Seen w Wb wz own0 own' q (MM (xM i) (sD a j) (LD a i j)) n s (B ++ [nM a] ++ (if j = 0 then [] else [{ nM a with back := true }]))) (fun _ v _ => a + i - (intOf v).toNat)
              case atStart => exact ⟨0, own4, s4, n4, Nat.zero_le _, rfl, rfl, Nat.le_refl _, by rw [if_pos rfl, List.append_nil]; exact HS4.out⟩
              case round =>
                obtain ⟨j, own6, s6, n6, hj, rfl, rfl, hn6, hsee⟩ := hrel
                have hcw0 : wr.cell? ⟨gw, 0, none⟩ = some (.int .i64 (high : Int)) := by
                  rw [(cells_known (hsee.keep.block Iw.out.2 Iw.out.1).1).1]; rfl
                have hBA := HB.out
                rcases (show k = 0 ∨ k = 1 by omega) with hk0 | hk1
                · have hah : a = high := by have := HHD.out; rw [if_pos hk0] at this; exact this
                  rw [← hah] at hcw0
                  rw [if_pos hk0] at hj
                  have hB0 : B = [] := by rw [hBA, hk0]; rfl
                  have HAH := Lib.hid (And.intro hah hB0)
                  have HK := Lib.hid hk0
                  have ek : ((k : Int) == 0) = true := by rw [hk0]; rfl
                  clear hah hB0 hBA hk0
                  by_cases hlt4 : j < a + i
                  · have dlt4 : decide ((j : Int) < (a : Int) + (i : Int)) = true := decide_eq_true (by omega)
                    have hd := disM_LD (a := a) (d := i) (k := j) h1 hlt4
                    have hdis := hsee.disApp (by omega) hd.1 (l2 := B ++ [nM a] ++ [{ nM a with back := true }]) (by rw [hd.2.1]; split <;> simp) hd.2.2 (by simp; omega)
                    have HDIS := Lib.hid hdis
                    clear hd hdis hsee
                    go_wp2_with fail
                    refine HDIS.out.mono ?_
                    rintro e w7 ⟨t, rfl, s7, w8, own7, hr, hsee⟩
                    have HR := Lib.hid (hr 47)
                    have HS7 := Lib.hid hsee
                    clear hr hsee
                    go_wp2_with (at_builtin; refine wpList_runN rfl _ _ _ _ rfl _ _ rfl rfl HR.out ?_)
                    exact ⟨⟨j + 1, own7, s7, n6 + 1, by rw [if_pos HK.out]; omega, rfl, rfl, by omega, by rw [if_neg (by omega)]; exact HS7.out⟩, by show a + i - (j + 1) < a + i - j; omega⟩
                  · have hje : j = a + i := by omega
                    have hk0 := HK.out
                    subst hk0
                    subst hje
                    have dlt4 : decide (((a + i : Nat) : Int) < (a : Int) + (i : Int)) = false := decide_eq_false (by omega)
                    have dlt5 : decide ((a : Int) + (i : Int) < (a : Int) + (i : Int)) = false := decide_eq_false (by omega)
                    rw [LD_end, sD_end a i h1, if_neg (by omega), HAH.out.2] at hsee
                    have HS6 := Lib.hid hsee
                    clear hsee
                    go_wp2_with fail
                    exact ⟨⟨1, own6, s6, n6, _, by decide, rfl, rfl, by omega, fun _ => rfl, by have := HS6.out; rw [HAH.out.1] at this; exact this⟩, by show 2 - 1 < 2 - 0; omega⟩
                · subst hk1
                  have hah : a = low := HHD.out
                  rw [if_neg (by decide)] at hj
                  have hj0 : j = 0 := by omega
                  subst hj0
                  have hB1 : B = [nM high, { nM high with back := true }] := hBA
                  rw [if_pos rfl, List.append_nil, hB1, hah] at hsee
                  have HS6 := Lib.hid hsee
                  clear hsee hah hB1 hBA hcw0
                  go_wp2_with fail
                  exact ⟨⟨2, own6, s6, n6, _, by decide, rfl, rfl, by omega, fun h => absurd h (by decide), HS6.out⟩, by show 2 - 2 < 2 - 1; omega⟩
    · have hk2 : k = 2 := by omega
      subst hk2
      have ri : row? wr ⟨gi, 0, none⟩ 32 = some (idS tM).arr := row_of_block (hsee.keep.block Ib.out.2 Ib.out.1).1 (by simp)
      have HS := Lib.hid hsee
      clear hsee hM1 hs0
      obtain ⟨an, han⟩ : ∃ x : Note, x = nM high := ⟨_, rfl⟩
      go_upto_region 36 with fail
      rw [show ({ id := 1, back := Note.zero.back, kind := 1, height := (high : Int) + 1, tx := idS tM } : Note) = an from han.symm]
      have HAN := Lib.hid han
      clear han
      obtain ⟨wa, hwa⟩ : ∃ W, W = wr.alloc (.cells an.arr 63) := ⟨_, rfl⟩
      rw [← hwa]
      have ga : wa.heap[wr.heap.size]? = some (.cells an.arr 63 (0, 0)) := by rw [hwa]; exact heap_alloc_new wr _
      have hsz : wa.heap.size = wr.heap.size + 1 := by rw [hwa]; simp
      have g22 : (((wa.alloc (.cells Note.zero.arr 63)).alloc (.cells Note.zero.arr 63)).drew).heap[wa.heap.size]? = some (.cells Note.zero.arr 63 (0, 0)) := by
        show ((wa.alloc (.cells Note.zero.arr 63)).alloc (.cells Note.zero.arr 63)).heap[wa.heap.size]? = _
        exact (heap_alloc_old _ _ (by simp)).trans (heap_alloc_new wa _)
      have g23 : (((wa.alloc (.cells Note.zero.arr 63)).alloc (.cells Note.zero.arr 63)).drew).heap[wa.heap.size + 1]? = some (.cells Note.zero.arr 63 (0, 0)) := by
        show ((wa.alloc (.cells Note.zero.arr 63)).alloc (.cells Note.zero.arr 63)).heap[wa.heap.size + 1]? = _
        exact heap_second _ _ _ _
      have gA : (((wa.alloc (.cells Note.zero.arr 63)).alloc (.cells Note.zero.arr 63)).drew).heap[wr.heap.size]? = some (.cells an.arr 63 (0, 0)) := by
        show ((wa.alloc (.cells Note.zero.arr 63)).alloc (.cells Note.zero.arr 63)).heap[wr.heap.size]? = _
        exact (heap_alloc_old _ _ (by simp; omega)).trans ((heap_alloc_old _ _ (by omega)).trans ga)
      obtain ⟨U1, st1, h1a, hu1⟩ := store_whole (P := Tryz.prog) (t := 63) size_Note _ _ an.arr Note.zero.arr (by simp) (fun u hu => one_Note an u hu) (by simp) g22
      have k23 := (hu1.block _ (cells_known g23).2.2 (by omega)).trans g23
      have kA := (hu1.block _ (cells_known gA).2.2 (by omega)).trans gA
      obtain ⟨U2, st2, h2a, hu2⟩ := store_whole (P := Tryz.prog) (t := 63) size_Note U1 _ an.arr Note.zero.arr (by simp) (fun u hu => one_Note an u hu) (by simp) k23
      obtain ⟨V1, st3, h3a, hu3⟩ := store_whole (P := Tryz.prog) (t := 63) size_Note _ _ an.arr Note.zero.arr (by simp) (fun u hu => one_Note an u hu) (by simp) g23
      have k22 := (hu3.block _ (cells_known g22).2.2 (by omega)).trans g22
      have kB := (hu3.block _ (cells_known gA).2.2 (by omega)).trans gA
      obtain ⟨V2, st4, h4a, hu4⟩ := store_whole (P := Tryz.prog) (t := 63) size_Note V1 _ an.arr Note.zero.arr (by simp) (fun u hu => one_Note an u hu) (by simp) k22
      have rB1 := row_of_block kB (n := 36) (by simp)
      have u1 : Upd wa U2 (fun k => k = wa.heap.size ∨ k = wa.heap.size + 1) := (((Upd.of_below ((((Below.refl wa.heap.size wa).alloc (Nat.le_refl _) (.cells Note.zero.arr 63)).alloc (by simp) (.cells Note.zero.arr 63)).drew) _).trans hu1 (fun _ _ e => .inl e))).trans hu2 (fun _ _ e => .inr e)
      have u2 : Upd wa V2 (fun k => k = wa.heap.size ∨ k = wa.heap.size + 1) := (((Upd.of_below ((((Below.refl wa.heap.size wa).alloc (Nat.le_refl _) (.cells Note.zero.arr 63)).alloc (by simp) (.cells Note.zero.arr 63)).drew) _).trans hu3 (fun _ _ e => .inr e))).trans hu4 (fun _ _ e => .inl e)
      have FU := Lib.hid (And.intro ((hu2.block _ (cells_known h1a).2.2 (by omega)).trans h1a) (And.intro h2a (u1.below (Nat.le_refl _) (fun k e => by omega))))
      have FV := Lib.hid (And.intro h4a (And.intro ((hu4.block _ (cells_known h3a).2.2 (by omega)).trans h3a) (u2.below (Nat.le_refl _) (fun k e => by omega))))
      clear u1 u2
      have GV := Lib.hid (And.intro k22 (And.intro kB (And.intro h3a (And.intro h4a (And.intro hu3 hu4)))))
      clear k22 kB h3a h4a hu3 hu4
      have rA := row_of_block gA (n := 36) (by simp)
      have rA1 := row_of_block kA (n := 36) (by simp)
      have r00 := row_of_block ga (n := 36) (by simp)
      have r0d : row? wa.drew ⟨wr.heap.size, 0, none⟩ 36 = some an.arr := r00
      have g01 : (wa.alloc (.cells Note.zero.arr 63)).heap[wr.heap.size]? = some (.cells an.arr 63 (0, 0)) := (heap_alloc_old _ _ (by omega)).trans ga
      have r01 := row_of_block g01 (n := 36) (by simp)
      have r01d : row? (wa.alloc (.cells Note.zero.arr 63)).drew ⟨wr.heap.size, 0, none⟩ 36 = some an.arr := r01
      have r02 : row? ((wa.alloc (.cells Note.zero.arr 63)).alloc (.cells Note.zero.arr 63)) ⟨wr.heap.size, 0, none⟩ 36 = some an.arr := rA
      clear g01
      have GS := Lib.hid (And.intro g22 (And.intro g23 (And.intro gA (And.intro k23 (And.intro kA (And.intro h1a (And.intro h2a (And.intro hu1 hu2))))))))
      have hba : Below wr.heap.size wr wa := hwa ▸ (Below.refl _ _).alloc (Nat.le_refl _) _
      have GA := Lib.hid (And.intro ga (And.intro hsz hba))
      clear ga hsz hba g22 g23 gA k23 kA h1a h2a hu1 hu2 hwa
      go_cut [22, 23] (fun v22 v23 wx => ∃ b c : Nat, v22 = .pointer (some ⟨b, 0, none⟩) ∧ v23 = .pointer (some ⟨c, 0, none⟩) ∧ wa.heap.size ≤ b ∧ wa.heap.size ≤ c ∧ b ≠ c ∧ wx.heap[b]? = some (.cells an.arr 63 (0, 0)) ∧ wx.heap[c]? = some (.cells an.arr 63 (0, 0)) ∧ Below wa.heap.size wa wx)
      case first =>
        go_region_law (fail)
        all_goals go_wp2_with fail
        all_goals go_meet
        all_goals first | exact ⟨_, _, rfl, rfl, by omega, by omega, by omega, FU.out.1, FU.out.2.1, FU.out.2.2⟩ | exact ⟨_, _, rfl, rfl, by omega, by omega, by omega, FU.out.2.1, FU.out.1, FU.out.2.2⟩ | exact ⟨_, _, rfl, rfl, by omega, by omega, by omega, FV.out.1, FV.out.2.1, FV.out.2.2⟩ | exact ⟨_, _, rfl, rfl, by omega, by omega, by omega, FV.out.2.1, FV.out.1, FV.out.2.2⟩
      case rest =>
        obtain ⟨b, c, rfl, rfl, hbl, hcl, hbc, hkb, hkc, hbw⟩ := hcut
        clear st1 st2 st3 st4 rA rA1 rB1 r00 r0d r01 r01d r02
        obtain ⟨nb, hnb⟩ : ∃ x : Note, x = { an with back := true } := ⟨_, rfl⟩
        obtain ⟨nc, hnc⟩ : ∃ x : Note, x = { an with height := (low : Int) + 1 } := ⟨_, rfl⟩
        have hal := HAN.out
        have hsl : allsM high low 2 = [an, nb, nc] := by
          rw [hnb, hnc, hal]
          show [nM high, { nM high with back := true }, nM low] = _
          congr 3
        have fb : wc.frozen? ⟨b, 1, none⟩ = false := (cells_known hkb).2.1 1
        have cb : wc.cell? ⟨b, 1, none⟩ = some (.bool an.back) := by rw [(cells_known hkb).1]; exact Note.arr_1 _
        obtain ⟨X1, hX1⟩ : ∃ X, X = wc.setCell ⟨b, 1, none⟩ (.bool true) := ⟨_, rfl⟩
        have hu1 : Upd wc X1 (fun k => k = b) := hX1 ▸ Upd.setCell wc ⟨b, 1, none⟩ _
        have hb1 : X1.heap[b]? = some (.cells nb.arr 63 (0, 0)) := by rw [hX1, heap_set hkb 1 _, Note.set_1, hnb]
        have hc1 := (hu1.block c (cells_known hkc).2.2 (fun e => hbc e.symm)).trans hkc
        have fc : X1.frozen? ⟨c, 3, none⟩ = false := (cells_known hc1).2.1 3
        have cc : X1.cell? ⟨c, 3, none⟩ = some (.int .i64 an.height) := by rw [(cells_known hc1).1]; exact Note.arr_3 _
        obtain ⟨X2, hX2⟩ : ∃ X, X = X1.setCell ⟨c, 3, none⟩ (.int .i64 ((low : Int) + 1)) := ⟨_, rfl⟩
        have hu2 : Upd X1 X2 (fun k => k = c) := hX2 ▸ Upd.setCell X1 ⟨c, 3, none⟩ _
        have hc2 : X2.heap[c]? = some (.cells nc.arr 63 (0, 0)) := by rw [hX2, heap_set hc1 3 _, Note.set_3, hnc]
        have hb2 := (hu2.block b (cells_known hb1).2.2 hbc).trans hb1
        have hbl2 : Below wa.heap.size wa X2 := hbw.trans (((hu1.below hbw.size (fun k e => by rw [e]; exact hbl)).mono (Nat.le_refl _)).trans (hu2.below (Nat.le_trans hbw.size hu1.size) (fun k e => by rw [e]; exact hcl)))
        have hbl3 : Below wr.heap.size wr X2 := GA.out.2.2.trans (hbl2.mono GA.out.2.2.size)
        have ha2 := (hbl2.block wr.heap.size (by have := GA.out.2.1; omega)).trans GA.out.1
        have hno := notesIn.of_own HS.out.row HS.out.len
        have hsn : s1.n = 3 := by rw [HS.out.len, hsl]; rfl
        rw [hsl] at hno
        obtain ⟨bb, off, hsa, _, hbb, hrr⟩ := hno.2.2.2 (by simp)
        have q0 : row? X2 ⟨bb, off, none⟩ 36 = some an.arr := by have := (row?_below hbl3 (a := ⟨bb, off + 0 * 36, none⟩) hbb 36).trans (hrr 0 (by simp)); simpa using this
        have q1 : row? X2 ⟨bb, off + 36, none⟩ 36 = some nb.arr := by have := (row?_below hbl3 (a := ⟨bb, off + 1 * 36, none⟩) hbb 36).trans (hrr 1 (by simp)); simpa using this
        have q2 : row? X2 ⟨bb, off + 72, none⟩ 36 = some nc.arr := by have := (row?_below hbl3 (a := ⟨bb, off + 2 * 36, none⟩) hbb 36).trans (hrr 2 (by simp)); simpa using this
        have ra := row_of_block ha2 (n := 36) (by simp)
        have rb := row_of_block hb2 (n := 36) (by simp)
        have rc := row_of_block hc2 (n := 36) (by simp)
        have q0d : ∀ m, row? (X2.drewN m) ⟨bb, off, none⟩ 36 = some an.arr := fun _ => q0
        have q1d : ∀ m, row? (X2.drewN m) ⟨bb, off + 36, none⟩ 36 = some nb.arr := fun _ => q1
        have q2d : ∀ m, row? (X2.drewN m) ⟨bb, off + 72, none⟩ 36 = some nc.arr := fun _ => q2
        have rad : ∀ m, row? (X2.drewN m) ⟨wr.heap.size, 0, none⟩ 36 = some an.arr := fun _ => ra
        have rbd : ∀ m, row? (X2.drewN m) ⟨b, 0, none⟩ 36 = some nb.arr := fun _ => rb
        have rcd : ∀ m, row? (X2.drewN m) ⟨c, 0, none⟩ 36 = some nc.arr := fun _ => rc
        rw [hsa, hsn]
        have HB3 := Lib.hid (And.intro hbl3 HS.out.nub.below)
        have HX := Lib.hid (And.intro hX1 hX2)
        clear hkb hkc hbw hnb hnc hal hsl hX1 hu1 hb1 hc1 hX2 hu2 hc2 hb2 hbl2 hbl3 ha2 hno hrr
        clear HREG
        go_upto_region 38 with fail
        rw [← HX.out.1]
        go_upto_region 39 with fail
        rw [← HX.out.2]
        refine wp_region_quiet_tail 25 (by kernel_rfl) (by kernel_rfl) ?_
        simp only [List.take_succ_cons, List.take_zero, List.drop_succ_cons, List.drop_zero]
        repeat (go_big_quiet_step (fail))
        refine wpQuiet_nil ?_
        intro nq
        obtain ⟨Z, hZ⟩ : ∃ Z, Z = X2.drewN nq := ⟨_, rfl⟩
        rw [← hZ]
        have HBZ := Lib.hid (show Below wr.heap.size wr Z from hZ ▸ below_drewN HB3.out.1 nq)
        clear hZ
        go_wp2_with fail
        refine (HA.out _).mono ?_
        rintro e w9 ⟨rfl, hb9⟩
        have HB9 := Lib.hid hb9
        clear hb9
        go_wp2_with fail
        go_ret
        exact ⟨rfl, HB3.out.2.trans ((HBZ.out.mono HB3.out.2.size).trans ((HB9.out).mono (Nat.le_trans HB3.out.2.size HBZ.out.size)))⟩
theorem notifyMoves_any (depth high low : Int) (w : World) : Calls Tryz.prog 6 #[.int .i64 depth, .int .i64 high, .int .i64 low] w fun e w' => e = .returned (.bool true) ∧ Below w.heap.size w w' := by
  by_cases h : 1 ≤ depth ∧ depth ≤ 5 ∧ 0 ≤ high ∧ high ≤ 8 ∧ 0 ≤ low ∧ low ≤ 8
  · obtain ⟨h1, h2, h3, h4, h5, h6⟩ := h
    obtain ⟨a, rfl⟩ := Int.eq_ofNat_of_zero_le (show 0 ≤ depth by omega)
    obtain ⟨b, rfl⟩ := Int.eq_ofNat_of_zero_le h3
    obtain ⟨c, rfl⟩ := Int.eq_ofNat_of_zero_le h5
    exact notifyMoves_nf a b c w (by omega) (by omega) (by omega) (by omega)
  · exact notifyMoves_out depth high low w h
end Go.Proofs.YtlkojkjeklblkaaGreat
