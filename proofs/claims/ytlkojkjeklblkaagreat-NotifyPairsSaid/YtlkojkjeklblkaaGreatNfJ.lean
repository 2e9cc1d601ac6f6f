/- Package coraclelaw12: NotifyPairs. -/
import Derived.Test.YtlkojkjeklblkaaGreatNfG
import Derived.Test.YtlkojkjeklblkaaGreatNfZ
set_option linter.unusedSimpArgs false
set_option linter.unusedVariables false
namespace Go.Proofs.YtlkojkjeklblkaaGreat
open Go.RowKit Go.MapKept
theorem ask_txs {w wr : World} {own : Nat → Nat} {s : Sl} {vs : List TxV} {l : List Tx} (h : txsIn w (fun _ => True) s vs l) (hb : Below w.heap.size w wr) {B : Nat} (hf : Fresh own B) (hB : w.heap.size ≤ B) : txsIn wr (fun k => own k = 0) s vs l :=
  ((h.zone (X := fun k => k < w.heap.size) (fun k hk _ => hk)).upd (Upd.of_below hb (fun _ => False)) (fun _ _ _ h => h)).zone (fun k _ hz => hf k (Nat.lt_of_lt_of_le hz hB))
theorem bn_alloc {w X : World} (h : Below w.heap.size w X) (o : Obj) : Below w.heap.size w (X.alloc o) := h.alloc h.size o
theorem ask_reg {w : World} {b off : Nat} {x : Ask} (h : row? w ⟨b, off, none⟩ 71 = some x.arr) : row? w ⟨b, off + 1, none⟩ 68 = some x.r.arr := by
  have := row?_part h 1 68 (by omega)
  rw [this]
  exact congrArg some (Ask.ext_1 x)
set_option maxRecDepth 100000 in
set_option maxHeartbeats 4000000 in
theorem notifyPairs_nf (s : Sl) (L : List (Ask × List Tx)) (w : World) (h : AsksAt w s L) (hl : L.length ≤ 9223372036854775807) : Calls Tryz.prog 4 #[.slice s.a s.n s.c] w fun e w' => e = .returned (.bool true) ∧ Below w.heap.size w w' := by
  have haw := awake12
  have HA := Lib.hid haw
  have hfew := few_nf s L w h hl
  obtain ⟨sa, sn, sc⟩ := s
  have hn : sn = L.length := by have := h.rows.1; rw [List.length_map] at this; exact this
  subst hn
  have HL := Lib.hid h
  have HFEW := Lib.hid hfew
  clear haw hfew h
  go_enter Tryz.func4, Tryz.ntmps4
  go_wp2_with fail
  refine HFEW.out.mono ?_
  rintro e w1 ⟨b, rfl, hfo, hb1⟩
  have HB1 := Lib.hid hb1
  cases b with
  | false =>
    clear hb1 hfo
    go_wp2_with fail
    refine (HA.out _).mono ?_
    rintro e w9 ⟨rfl, hb9⟩
    go_wp2_with fail
    go_ret
    exact ⟨rfl, HB1.out.trans (hb9.mono HB1.out.size)⟩
  | true =>
    have hF := hfo rfl
    have hF1 := hF.len
    have HF := Lib.hid hF
    have hnew := Nub.new 100 (by decide) w1
    clear hb1 hfo hF
    go_wp2_with fail
    refine hnew.mono ?_
    rintro e Wb ⟨q, own0, rfl, hN⟩
    have hs0 := Lib.hid (Seen.start hN)
    clear hnew hN
    go_upto_region 8 with fail
    go_loopw [5, 6] (fun v5 v6 wr => ∃ (k : Nat) (own' : Nat → Nat) (s : Sl) (S : List Note) (M : HubM) (n : Nat), k ≤ L.length ∧ v6 = .int .i64 k ∧ v5 = .slice s.a s.n s.c ∧ n ≤ k ∧ Hid (S.Perm M.stand) ∧ Hid (Seen w1 Wb wr own0 own' q M n s S)) (fun _ v _ => L.length - (intOf v).toNat)
    case atStart => exact ⟨0, own0, ⟨none, 0, 0⟩, [], _, 0, Nat.zero_le _, rfl, rfl, Nat.le_refl _, (show Hid (([] : List Note).Perm (HubM.new 100).stand) from List.Perm.refl []), hs0⟩
    case round =>
      obtain ⟨k, own1, ⟨ta, tn, tc⟩, S, M, n, hk, rfl, rfl, hn, HP, HS⟩ := hrel
      by_cases hlt : k < L.length
      · have dlt : decide ((k : Int) < (L.length : Int)) = true := decide_eq_true (by omega)
        obtain ⟨b0, off, e0, _, hb0, hr⟩ := HL.out.rows.2.2.2 (by intro e; have := congrArg List.length e; simp at this; rw [this] at hlt; simp at hlt)
        simp only at e0
        subst e0
        have hrk := hr k (by rw [List.length_map]; exact hlt)
        rw [List.getElem_map] at hrk
        obtain ⟨⟨x, tl⟩, hx⟩ : ∃ x, x = L[k] := ⟨_, rfl⟩
        rw [← hx] at hrk
        simp only at hrk
        obtain ⟨vs, hvs⟩ := HL.out.txs L[k] (List.getElem_mem hlt)
        have htl := HF.out.txs L[k] (List.getElem_mem hlt)
        rw [← hx] at hvs htl
        simp only at hvs htl
        have hbr : Below w.heap.size w wr := HB1.out.trans (HS.out.nub.below.mono HB1.out.size)
        have hrk2 := (row?_below hbr (a := ⟨b0, off + k * 71, none⟩) hb0 71).trans hrk
        have c0 : wr.cell? ⟨b0, off + k * 71, none⟩ = some (.int .i64 x.kind) := by
          have := row?_cellAt hrk2 0 (by decide)
          rw [Ask.arr_0] at this; exact this
        have c70 : wr.cell? ⟨b0, off + k * 71 + 70, none⟩ = some (.slice x.txs.a x.txs.n x.txs.c) := by
          have := row?_cellAt hrk2 70 (by decide)
          rw [Ask.arr_70] at this; exact this
        have d3 : (0 : Int) ≤ (k : Int) := by omega
        have d4 : (k : Int) < (L.length : Int) := by omega
        have HT := Lib.hid (ask_txs hvs hbr HS.out.nub.fresh HB1.out.size)
        clear hr hrk hvs hx
        have r1 : row? wr ⟨b0, off + k * 71 + 1, none⟩ 68 = some x.r.arr := ask_reg hrk2
        obtain ⟨kd, hkd⟩ : ∃ z, z = x.kind := ⟨_, rfl⟩
        rw [← hkd] at c0
        obtain ⟨xs, hxs⟩ : ∃ z, z = x.txs := ⟨_, rfl⟩
        rw [← hxs] at c70
        have HT2 := Lib.hid (show txsIn wr (fun k => own1 k = 0) xs vs tl from hxs ▸ HT.out)
        obtain ⟨xr, hxr⟩ : ∃ z, z = x.r := ⟨_, rfl⟩
        rw [← hxr] at r1
        have hn1 : n < 100000 := by omega
        clear hkd hxs hxr hrk2 hbr HT
        go_upto_block 2 with fail
        go_cut [7] (fun v7 wx => Hid (∃ (V : World) (t : Sl) (own' : Nat → Nat) (M' : HubM) (O S' : List Note), v7 = .slice t.a t.n t.c ∧ Told w1 Wb V own0 q n ⟨ta, tn, tc⟩ S own' M' t O S' wx ∧ wr.heap.size ≤ V.heap.size))
        case first =>
          by_cases h1 : kd = 1
          · subst h1
            have hrg := reg_nf xr wr
            go_wp2_with fail
            refine hrg.mono ?_
            rintro e w2 ⟨rfl, hb2⟩
            have hask := (HS.out.below hb2).askReg HP.out hn1 (toReg xr)
            have HASK := Lib.hid (And.intro hask hb2.size)
            clear hrg hask hb2
            go_wp2_with fail
            refine HASK.out.1.mono ?_
            rintro e w3 ⟨t, own2, M', O, S', rfl, hT⟩
            have HTD := Lib.hid hT
            clear hT
            go_wp2_with fail
            go_meet
            exact ⟨w2, t, own2, M', O, S', rfl, HTD.out, HASK.out.2⟩
          · have k1 : (kd == 1) = false := by simpa using h1
            by_cases h3 : kd = 3
            · subst h3
              have hask := HS.out.askCon HP.out hn1 HT2.out (by omega)
              have HASK := Lib.hid hask
              clear hask k1 h1
              go_wp2_with fail
              refine HASK.out.mono ?_
              rintro e w3 ⟨t, own2, M', O, S', rfl, hT⟩
              have HTD := Lib.hid hT
              clear hT
              go_wp2_with fail
              go_meet
              exact ⟨wr, t, own2, M', O, S', rfl, HTD.out, Nat.le_refl _⟩
            · have k3 : (kd == 3) = false := by simpa using h3
              by_cases h4 : kd = 4
              · subst h4
                have hask := HS.out.askDis HP.out hn1
                obtain ⟨E, hE⟩ : ∃ E : Int, E = (if M.L = [] then 5 else 0) := ⟨_, rfl⟩
                rw [← hE] at hask
                clear hE
                have HASK := Lib.hid hask
                clear hask k1 h1 k3 h3
                go_wp2_with fail
                refine HASK.out.mono ?_
                rintro e w3 ⟨t, own2, M', O, S', rfl, hT⟩
                have HTD := Lib.hid hT
                clear hT
                go_wp2_with fail
                go_meet
                exact ⟨wr, t, own2, M', O, S', rfl, HTD.out, Nat.le_refl _⟩
              · have k4 : (kd == 4) = false := by simpa using h4
                clear h1 h3 h4
                go_wp2_with fail
                go_meet
                exact ⟨wr, ⟨none, 0, 0⟩, own1, M, [], S, rfl, HS.out.idle HP.out, Nat.le_refl _⟩
        case rest =>
          have hcut2 := Hid.out hcut
          obtain ⟨V, ⟨oa, on, oc⟩, own2, M', O, S', rfl, hT, hV⟩ := hcut2
          have hon : on = O.length := hT.notes.1
          subst hon
          have hSl : S.length ≤ 60 := by
            have h1 := HP.out.length_eq
            have h2 := stand_len HS.out.nub.ok
            have h3 := HS.out.nub.rows
            omega
          have hOl := hT.few
          have HTD := Lib.hid hT
          have HV := Lib.hid hV
          clear hT hV hcut r1 c0 c70
          go_upto_region 19 with fail
          go_loopw [5, 8, 9, 10, 11] (fun v5 v8 _ _ _ wx => ∃ (j : Nat) (own' : Nat → Nat) (s : Sl) (S1 : List Note), j ≤ O.length ∧ v8 = .int .i64 j ∧ v5 = .slice s.a s.n s.c ∧ S1.length ≤ 60 + j ∧ Hid (Steps S1 (O.drop j) S') ∧ Hid (Seen w1 Wb wx own0 own' q M' (n + 1) s S1) ∧ Hid (Upd wc wx (fun g => ¬ (V.heap.size ≤ g ∧ g < wc.heap.size))) ∧ Hid (∀ g, s.v.ownBlock = some g → ¬ (V.heap.size ≤ g ∧ g < wc.heap.size))) (fun _ v _ _ _ _ => O.length - (intOf v).toNat)
          case atStart =>
            refine ⟨0, own2, ⟨ta, tn, tc⟩, S, Nat.zero_le _, rfl, rfl, by omega, HTD.out.steps, HTD.out.seen, Upd.refl _ _, fun g hg h => ?_⟩
            have h1 := (World.ownsRow.lt HS.out.row g hg).2
            have h2 := HV.out
            omega
          case round =>
            obtain ⟨j, own3, ⟨sa, sn, sc2⟩, S1, hj, rfl, rfl, hS1, HST, HS1, HU, HB⟩ := hrel
            have hsn : sn = S1.length := HS1.out.len
            subst hsn
            by_cases hlt2 : j < O.length
            · have dlt2 : decide ((j : Int) < (O.length : Int)) = true := decide_eq_true (by omega)
              have hlt2i : (j : Int) < (O.length : Int) := by omega
              have j0 : (0 : Int) ≤ (j : Int) := by omega
              obtain ⟨S2, hstep, hsteps⟩ := Steps.next hlt2 HST.out
              have hnt : notesIn wr (fun g => V.heap.size ≤ g ∧ g < wc.heap.size) ⟨oa, O.length, oc⟩ O := (slIn.zone HTD.out.notes (Y := fun g => V.heap.size ≤ g ∧ g < wc.heap.size) (fun g hg hz => ⟨hz, hg⟩)).upd HU.out (fun g hz _ hn => hn hz)
              obtain ⟨bo, oo, hoa, hzo, hlo, hro⟩ := hnt.2.2.2 (by intro e; rw [e] at hlt2; simp at hlt2)
              simp only at hoa
              subst hoa
              have hroj := hro j hlt2
              obtain ⟨N, hN⟩ : ∃ N, N = O[j] := ⟨_, rfl⟩
              rw [← hN] at hroj
              rw [← hN] at hstep
              have HSTP := Lib.hid (And.intro hstep hsteps)
              clear hstep
              have HN := Lib.hid hN
              have hroj2 := hroj
              clear hro hnt hN hsteps
              go_upto_region 22 with fail
              obtain ⟨gx, hgx⟩ : ∃ g, g = wr.heap.size := ⟨_, rfl⟩
              obtain ⟨X1, hX1⟩ : ∃ X, X = wr.alloc (.cells N.arr 63) := ⟨_, rfl⟩
              rw [← hX1, ← hgx]
              have g1 : X1.heap[gx]? = some (.cells N.arr 63 (0, 0)) := by rw [hX1, hgx]; exact heap_alloc_new wr _
              have hbX1 : Below wr.heap.size wr X1 := hX1 ▸ (Below.refl _ _).alloc (Nat.le_refl _) _
              have cx1 : X1.cell? ⟨gx, 1, none⟩ = some (.bool N.back) := by rw [(cells_known g1).1]; exact Note.arr_1 _
              have fx1 : X1.frozen? ⟨gx, 1, none⟩ = false := (cells_known g1).2.1 1
              obtain ⟨xn, hxn⟩ : ∃ x : Note, x = { N with back := false } := ⟨_, rfl⟩
              obtain ⟨X2, hX2⟩ : ∃ X, X = X1.setCell ⟨gx, 1, none⟩ (.bool false) := ⟨_, rfl⟩
              have hu2 : Upd X1 X2 (fun k => k = gx) := hX2 ▸ Upd.setCell X1 ⟨gx, 1, none⟩ _
              have g2 : X2.heap[gx]? = some (.cells xn.arr 63 (0, 0)) := by rw [hX2, heap_set g1 1 _, Note.set_1, hxn]
              have hbX2 : Below wr.heap.size wr X2 := hbX1.trans (hu2.below hbX1.size (fun k e => by have e2 : k = gx := e; omega))
              have hs2 := HS1.out.below hbX2
              have hno := notesIn.of_own hs2.row hs2.len
              have rx2 : row? X2 ⟨gx, 0, none⟩ 36 = some xn.arr := row_of_block g2 (by simp)
              have ro2 : row? X2 ⟨bo, oo + j * 36, none⟩ 36 = some N.arr := (row?_below hbX2 (a := ⟨bo, oo + j * 36, none⟩) hlo 36).trans hroj
              have cxi : X2.cell? ⟨gx, 0, none⟩ = some (.int .i64 xn.id) := by have := row?_cellAt rx2 0 (by decide); rw [Note.arr_0] at this; exact this
              have cob : X2.cell? ⟨bo, oo + j * 36 + 1, none⟩ = some (.bool N.back) := by have := row?_cellAt ro2 1 (by decide); rw [Note.arr_1] at this; exact this
              obtain ⟨xi, hxi⟩ : ∃ z, z = xn.id := ⟨_, rfl⟩
              rw [← hxi] at cxi
              have HNO := Lib.hid hno
              have HS2 := Lib.hid hs2
              have HXN := Lib.hid (And.intro hxn hxi)
              have HX2 := Lib.hid hX2
              have HB2 := Lib.hid hbX2
              have HG2 := Lib.hid g2
              clear hno hs2 hxn hxi hX1 g1 hbX1 hbX2 hu2 hroj hroj2 hgx g2
              go_upto_region 23 with fail
              rw [← HX2.out]
              clear cx1 fx1 hX2
              go_upto_region 25 with fail
              have cxi0 := cxi
              have ro20 := ro2
              have rx20 := rx2
              clear cxi ro2 rx2 cob
              go_loopw [10, 11] (fun v10 v11 wy => ∃ (i : Nat) (p : Int), i ≤ S1.length ∧ v11 = .int .i64 i ∧ v10 = .int .i64 p ∧ Hid (AtS S1 xi i p) ∧ Hid (Below X2.heap.size X2 wy)) (fun _ v _ => S1.length - (intOf v).toNat)
              case atStart => exact ⟨0, -1, Nat.zero_le _, rfl, rfl, AtS.start _ _, Below.refl _ _⟩
              case round =>
                obtain ⟨i, p, hi, rfl, rfl, HAT, HBZ⟩ := hrel
                have hgl : gx < X2.heap.size := (cells_known HG2.out).2.2
                by_cases hlt3 : i < S1.length
                · have dlt3 : decide ((i : Int) < (S1.length : Int)) = true := decide_eq_true (by omega)
                  have i0 : (0 : Int) ≤ (i : Int) := by omega
                  have i1 : (i : Int) < (S1.length : Int) := by omega
                  obtain ⟨bs, os, hsa, _, hls, hrs⟩ := HNO.out.2.2.2 (by intro e; rw [e] at hlt3; simp at hlt3)
                  simp only at hsa
                  subst hsa
                  obtain ⟨yi, hyi⟩ : ∃ z, z = (S1[i]).id := ⟨_, rfl⟩
                  have cyi : wr.cell? ⟨bs, os + i * 36, none⟩ = some (.int .i64 yi) := by have := row?_cellAt ((row?_below HBZ.out (a := ⟨bs, os + i * 36, none⟩) hls 36).trans (hrs i hlt3)) 0 (by decide); rw [Note.arr_0, ← hyi] at this; exact this
                  have cxi : wr.cell? ⟨gx, 0, none⟩ = some (.int .i64 xi) := (HBZ.out.cell (p := ⟨gx, 0, none⟩) hgl).trans cxi0
                  have HYI := Lib.hid hyi
                  clear hrs hyi cxi0 ro20 rx20
                  go_upto_region 27 with fail
                  go_big_quiet (fail)
                  obtain ⟨Z, hZ⟩ : ∃ W, W = wr.drewN nq := ⟨_, rfl⟩
                  rw [← hZ]
                  have HBZ2 := Lib.hid (show Below X2.heap.size X2 Z from hZ ▸ below_drewN HBZ.out nq)
                  clear hZ cyi cxi
                  by_cases he : yi = xi
                  · have eb : (yi == xi) = true := by simpa using he
                    have HE := Lib.hid he
                    clear he
                    go_wp2_with fail
                    exact ⟨⟨i + 1, (i : Int), by omega, rfl, rfl, AtS.hit (p := p) hlt3 (by rw [← HYI.out]; exact HE.out), HBZ2⟩, by show S1.length - (i + 1) < S1.length - i; omega⟩
                  · have eb : (yi == xi) = false := by simpa using he
                    have HE := Lib.hid he
                    clear he
                    go_wp2_with fail
                    exact ⟨⟨i + 1, p, by omega, rfl, rfl, HAT.out.miss hlt3 (by rw [← HYI.out]; exact HE.out), HBZ2⟩, by show S1.length - (i + 1) < S1.length - i; omega⟩
                · have hie : i = S1.length := by omega
                  subst hie
                  have dlt3 : decide ((S1.length : Int) < (S1.length : Int)) = false := decide_eq_false (by omega)
                  have cob : wr.cell? ⟨bo, oo + j * 36 + 1, none⟩ = some (.bool N.back) := by have := row?_cellAt ((row?_below HBZ.out (a := ⟨bo, oo + j * 36, none⟩) (Nat.lt_of_lt_of_le hlo HB2.out.size) 36).trans ro20) 1 (by decide); rw [Note.arr_1] at this; exact this
                  have rx2 : row? wr ⟨gx, 0, none⟩ 36 = some xn.arr := (row?_below HBZ.out (a := ⟨gx, 0, none⟩) hgl 36).trans rx20
                  obtain ⟨bk, hbk⟩ : ∃ b, b = N.back := ⟨_, rfl⟩
                  rw [← hbk] at cob
                  have hs3 := HS2.out.below HBZ.out
                  have hup : Upd wc wr (fun g => ¬ (V.heap.size ≤ g ∧ g < wc.heap.size)) := (HU.out.trans (Upd.of_below HB2.out (fun _ => False)) (fun _ _ h => h.elim)).trans (Upd.of_below HBZ.out (fun _ => False)) (fun _ _ h => h.elim)
                  have HS3 := Lib.hid hs3
                  have HUP := Lib.hid hup
                  have hatx : AtS S1 N.id S1.length p := by have := HAT.out; rw [HXN.out.2, HXN.out.1] at this; exact this
                  have HATX := Lib.hid hatx
                  have hC : wc.heap.size ≤ wr.heap.size := hup.size
                  clear hs3 hup hatx cxi0 ro20 rx20
                  have HBK := Lib.hid hbk
                  clear hbk
                  cases bk with
                  | true =>
                    obtain ⟨k0, hk0, hp0, hxk, hS2⟩ := HATX.out.gone HSTP.out.1 HBK.out.symm
                    subst hp0
                    obtain ⟨bs, os, hsa, _, hls, hrs⟩ := HNO.out.2.2.2 (by intro e; rw [e] at hk0; simp at hk0)
                    simp only at hsa
                    subst hsa
                    have rk : row? wr ⟨bs, os + k0 * 36, none⟩ 36 = some xn.arr := by
                      have := (row?_below HBZ.out (a := ⟨bs, os + k0 * 36, none⟩) hls 36).trans (hrs k0 hk0)
                      rw [hxk, ← HXN.out.1] at this
                      exact this
                    have rkd : ∀ m, row? (wr.drewN m) ⟨bs, os + k0 * 36, none⟩ 36 = some xn.arr := fun _ => rk
                    have rxd : ∀ m, row? (wr.drewN m) ⟨gx, 0, none⟩ 36 = some xn.arr := fun _ => rx2
                    have k1 : decide ((k0 : Int) < 0) = false := decide_eq_false (by omega)
                    have k2 : (0 : Int) ≤ (k0 : Int) := by omega
                    have k3 : (k0 : Int) < (S1.length : Int) := by omega
                    have HK := Lib.hid (And.intro hxk hS2)
                    clear hrs hxk hS2 rk rx2
                    go_wp2_with fail
                    go_big_quiet (fail)
                    obtain ⟨Z, hZ⟩ : ∃ W, W = wr.drewN nq := ⟨_, rfl⟩
                    rw [← hZ]
                    have HBZ2 := Lib.hid (show Below wr.heap.size wr Z from hZ ▸ below_drewN (Below.refl wr.heap.size wr) nq)
                    clear hZ rkd rxd
                    go_upto_region 32 with fail
                    have hsZ := HS3.out.below HBZ2.out
                    have hnZ := notesIn.of_own hsZ.row hsZ.len
                    obtain ⟨K, hK⟩ : ∃ K, K = k0 + 1 := ⟨_, rfl⟩
                    have hKi : (k0 : Int) + 1 = (K : Int) := by omega
                    have hKl : K ≤ S1.length := by omega
                    have hKli : (K : Int) ≤ (S1.length : Int) := by omega
                    have hK0 : (0 : Int) ≤ (K : Int) := by omega
                    have hsc : S1.length ≤ sc2 := hnZ.2.1
                    have q1 : (k0 : Int) ≤ (sc2 : Int) := by omega
                    have qK : IntKind.i64.wrap (K : Int) = (K : Int) := by rw [IntKind.wrap_i64]; omega
                    have qK1 : (1 : Int) ≤ (K : Int) := by omega
                    have q2 : (S1.length : Int) ≤ (sc2 : Int) := by omega
                    have q3 : k0 ≤ sc2 := by omega
                    have q4 : K ≤ sc2 := by omega
                    have HT1 := Lib.hid (notes_take hnZ k0 (by omega))
                    have HT2 := Lib.hid (notes_drop hnZ K hKl)
                    have HKE := Lib.hid hK
                    have HSZ := Lib.hid hsZ
                    have hcF : ((sc2 = K) = True) ∨ ((sc2 = K) = False) := by by_cases h : sc2 = K <;> simp [h]
                    have hZ0 : Below Z.heap.size Z Z := Below.refl _ _
                    clear hnZ hsZ hK hZ0
                    obtain ⟨⟨ya, yn, yc⟩, z1, hr1, y1, y2, y3⟩ := new_notes (w0 := Z) (X := (Z.alloc (.cells #[] 63)).drew) (((Below.refl Z.heap.size Z).alloc (Nat.le_refl _) _).drew) (show ((Z.alloc (.cells #[] 63)).drew).heap[Z.heap.size]? = _ from heap_alloc_new Z _) (Nat.le_refl _) HT1.out (by rw [List.length_take]; omega)
                    have hyn : yn = k0 := by have h : yn = (S1.take k0).length := y2; rw [h, List.length_take]; omega
                    subst hyn
                    have hz : ∃ (s2 : Sl) (z2 : World), (Builtin.append_ #[47, 47] 47 #[.slice ya yn yc, .slice (some (if sc2 = K then ⟨bs, os, none⟩ else ⟨bs, os + K * 36, none⟩)) (S1.length - K) (sc2 - K)]).run Tryz.prog z1 = .ok (.slice s2.a s2.n s2.c) z2 ∧ ownN z2 Z.heap.size s2 S2 ∧ s2.n = S2.length ∧ Below Z.heap.size Z z2 := by
                      have hS2e := HK.out.2
                      rw [← HKE.out] at hS2e
                      by_cases hck : sc2 = K
                      · obtain ⟨s2, z2, a1, a2, a3, a4⟩ := more_notes (w0 := Z) (s := ⟨ya, yn, yc⟩) y3 y1 y2 (HT2.out.2 hck) (by rw [List.length_take, List.length_drop]; omega)
                        exact ⟨s2, z2, by rw [if_pos hck]; exact a1, by rw [hS2e]; exact a2, by rw [hS2e]; exact a3, a4⟩
                      · obtain ⟨s3, z3, b1, b2, b3, b4⟩ := more_notes (w0 := Z) (s := ⟨ya, yn, yc⟩) y3 y1 y2 HT2.out.1 (by rw [List.length_take, List.length_drop]; omega)
                        exact ⟨s3, z3, by rw [if_neg hck]; exact b1, by rw [hS2e]; exact b2, by rw [hS2e]; exact b3, b4⟩
                    obtain ⟨⟨za, zn, zc⟩, z2, hr2, w1z, w2z, w3z⟩ := hz
                    rcases hcF with hcF | hcF
                    · have hr3 := hr2
                      rw [if_pos (of_eq_true hcF)] at hr3
                      have W1 := Lib.hid (And.intro w1z (And.intro w2z w3z))
                      clear y1 y2 y3 hr2 w1z w2z w3z
                      go_region_law (first | (refine stepN_run rfl (.tmp 115) (.tmp 118) _ _ rfl _ _ (by kernel_rfl) (by kernel_rfl) hr1 ?_) | (refine stepN_run rfl (.tmp 119) (.tmp 123) _ _ rfl _ _ (by kernel_rfl) (by kernel_rfl) hr3 ?_))
                      go_wp2_with fail
                      have hzn : zn = S2.length := W1.out.2.1
                      have hZw := HBZ2.out.size
                      refine ⟨⟨j + 1, _, ⟨za, zn, zc⟩, S2, by omega, rfl, rfl, by have := HSTP.out.1.len; omega, HSTP.out.2, HSZ.out.swap W1.out.2.2 W1.out.1 W1.out.2.1, (HUP.out.trans (Upd.of_below HBZ2.out (fun _ => False)) (fun _ _ h => h.elim)).trans (Upd.of_below W1.out.2.2 (fun _ => False)) (fun _ _ h => h.elim), fun g hg h => ?_⟩, by show O.length - (j + 1) < O.length - j; omega⟩
                      have h1 := (World.ownsRow.lt W1.out.1 g hg).1
                      omega
                    · have hr3 := hr2
                      rw [if_neg (of_eq_false hcF)] at hr3
                      have W1 := Lib.hid (And.intro w1z (And.intro w2z w3z))
                      clear y1 y2 y3 hr2 w1z w2z w3z
                      go_region_law (first | (refine stepN_run rfl (.tmp 115) (.tmp 118) _ _ rfl _ _ (by kernel_rfl) (by kernel_rfl) hr1 ?_) | (refine stepN_run rfl (.tmp 119) (.tmp 123) _ _ rfl _ _ (by kernel_rfl) (by kernel_rfl) hr3 ?_))
                      go_wp2_with fail
                      have hzn : zn = S2.length := W1.out.2.1
                      have hZw := HBZ2.out.size
                      refine ⟨⟨j + 1, _, ⟨za, zn, zc⟩, S2, by omega, rfl, rfl, by have := HSTP.out.1.len; omega, HSTP.out.2, HSZ.out.swap W1.out.2.2 W1.out.1 W1.out.2.1, (HUP.out.trans (Upd.of_below HBZ2.out (fun _ => False)) (fun _ _ h => h.elim)).trans (Upd.of_below W1.out.2.2 (fun _ => False)) (fun _ _ h => h.elim), fun g hg h => ?_⟩, by show O.length - (j + 1) < O.length - j; omega⟩
                      have h1 := (World.ownsRow.lt W1.out.1 g hg).1
                      omega
                  | false =>
                    obtain ⟨hp0, hS2⟩ := HATX.out.new HSTP.out.1 HBK.out.symm
                    subst hp0
                    have hxN : xn = N := by
                      have h1 := HXN.out.1
                      have h2 := HBK.out
                      cases N
                      simp only at h2
                      rw [h1]
                      simp [← h2]
                    obtain ⟨W4, hW4⟩ : ∃ W, W = wr.alloc (.cells xn.arr 63) := ⟨_, rfl⟩
                    have g4 : W4.heap[wr.heap.size]? = some (.cells xn.arr 63 (0, 0)) := hW4 ▸ heap_alloc_new wr _
                    have hb4 : Below wr.heap.size wr W4 := hW4 ▸ (Below.refl _ _).alloc (Nat.le_refl _) _
                    have hs4 := HS3.out.below hb4
                    obtain ⟨⟨za, zn, zc⟩, z2, hr2, hs5, hu5, hbl5⟩ := hs4.push (t := ⟨some ⟨wr.heap.size, 0, none⟩, 1, 1⟩) (m := [xn]) (Z := fun _ => True) (slIn_one g4 (by simp) trivial) (by simp; omega)
                    have HR := Lib.hid (hr2 47)
                    have HW4 := Lib.hid hW4
                    have HS5 := Lib.hid hs5
                    have HU5 := Lib.hid (And.intro hb4 (And.intro hu5 hbl5))
                    have HSE := Lib.hid (show S1 ++ [xn] = S2 by rw [hxN]; exact hS2.symm)
                    clear hS2 hxN hW4 g4 hb4 hs4 hr2 hs5 hu5 hbl5
                    go_wp2_with (first | (rw [← HW4.out]; at_builtin; refine wpList_runN rfl _ _ _ _ rfl _ _ rfl rfl HR.out ?_) | (at_builtin; refine wpList_runN rfl _ _ _ _ rfl _ _ rfl rfl HR.out ?_))
                    have hzs := HS5.out.len
                    have h4s := HU5.out.1.size
                    refine ⟨⟨j + 1, _, ⟨za, zn, zc⟩, S2, by omega, rfl, rfl, by have := HSTP.out.1.len; omega, HSTP.out.2, by rw [← HSE.out]; exact HS5.out, (HUP.out.trans (Upd.of_below HU5.out.1 (fun _ => False)) (fun _ _ h => h.elim)).trans HU5.out.2.1 (fun g hg h => HB.out g h), fun g hg h => ?_⟩, by show O.length - (j + 1) < O.length - j; omega⟩
                    rcases HU5.out.2.2 with e | e
                    · rw [e] at hg; exact HB.out g hg h
                    · rw [e] at hg; cases hg; omega
            · have hje : j = O.length := by omega
              subst hje
              have dlt2 : decide ((O.length : Int) < (O.length : Int)) = false := decide_eq_false (by omega)
              have hst := HST.out
              rw [List.drop_eq_nil_of_le (Nat.le_refl _)] at hst
              have hSe := hst.done
              subst hSe
              have hstd := HS1.out.nub.standing (by omega)
              obtain ⟨T, hT⟩ : ∃ T, T = M'.stand := ⟨_, rfl⟩
              have hperm := HTD.out.perm
              have hsrt := stand_sorted HS1.out.nub.ok
              rw [← hT] at hstd hperm hsrt
              have HSTD := Lib.hid hstd
              have HPM := Lib.hid (And.intro hperm (And.intro hsrt hT))
              clear hst hstd hperm hsrt hT
              go_wp2_with fail
              refine HSTD.out.mono ?_
              rintro e w5 ⟨⟨ua, un, uc⟩, rfl, hnu, hb5⟩
              have hun : un = S1.length := by have h1 : un = T.length := hnu.1; rw [h1]; exact HPM.out.1.length_eq.symm
              subst hun
              have HNU := Lib.hid hnu
              have hs5 := HS1.out.below hb5
              have HNS := Lib.hid (notesIn.of_own hs5.row hs5.len)
              have HS5 := Lib.hid hs5
              clear hnu hb5 hs5
              go_upto_region 40 with fail
              go_loopw [13, 14, 15] (fun v13 _ _ wx => ∃ i : Nat, i ≤ S1.length ∧ v13 = .int .i64 i ∧ Hid (Below w5.heap.size w5 wx)) (fun v _ _ _ => S1.length - (intOf v).toNat)
              case atStart => exact ⟨0, Nat.zero_le _, rfl, Below.refl _ _⟩
              case round =>
                obtain ⟨i, hi, rfl, HBI⟩ := hrel
                by_cases hlt3 : i < S1.length
                · have dlt3 : decide ((i : Int) < (S1.length : Int)) = true := decide_eq_true (by omega)
                  have i0 : (0 : Int) ≤ (i : Int) := by omega
                  have i1 : (i : Int) < (S1.length : Int) := by omega
                  have hTl : i < T.length := by have := HPM.out.1.length_eq; omega
                  obtain ⟨bu, ou, hua, _, hlu, hru⟩ := HNU.out.2.2.2 (by intro e; rw [e] at hTl; simp at hTl)
                  simp only at hua
                  subst hua
                  obtain ⟨bs, os, hsa, _, hls, hrs⟩ := HNS.out.2.2.2 (by intro e; rw [e] at hlt3; simp at hlt3)
                  simp only at hsa
                  subst hsa
                  obtain ⟨N, hN⟩ : ∃ N, N = T[i] := ⟨_, rfl⟩
                  have hmem : N ∈ S1 := HPM.out.1.symm.subset (hN ▸ List.getElem_mem hTl)
                  obtain ⟨m0, hm0, hm1⟩ := List.mem_iff_getElem.1 hmem
                  have hruN : row? w5 ⟨bu, ou + i * 36, none⟩ 36 = some N.arr := by rw [hN]; exact hru i hTl
                  have HRU := Lib.hid (And.intro hru hruN)
                  have HRS := Lib.hid hrs
                  have HM := Lib.hid hm1
                  have HN := Lib.hid hN
                  clear hru hrs hN hmem hm1 hruN
                  go_upto_region 44 with fail
                  go_loopw [14, 15] (fun v14 v15 wy => ∃ (y : Nat) (b : Bool), y ≤ S1.length ∧ v15 = .int .i64 y ∧ v14 = .bool b ∧ Hid (m0 < y → b = true) ∧ Hid (Below w5.heap.size w5 wy)) (fun _ v _ => S1.length - (intOf v).toNat)
                  case atStart => exact ⟨0, false, Nat.zero_le _, rfl, rfl, fun h => absurd h (by omega), HBI⟩
                  case round =>
                    obtain ⟨y, b, hy, rfl, rfl, HMB, HBY⟩ := hrel
                    by_cases hlt4 : y < S1.length
                    · have dlt4 : decide ((y : Int) < (S1.length : Int)) = true := decide_eq_true (by omega)
                      have y0 : (0 : Int) ≤ (y : Int) := by omega
                      have y1 : (y : Int) < (S1.length : Int) := by omega
                      cases b with
                      | true =>
                        go_upto_region 46 with fail
                        go_big_quiet (fail)
                        obtain ⟨Z, hZ⟩ : ∃ W, W = wr.drewN nq := ⟨_, rfl⟩
                        rw [← hZ]
                        have HBZ := Lib.hid (show Below w5.heap.size w5 Z from hZ ▸ below_drewN HBY.out nq)
                        clear hZ
                        go_wp2_with fail
                        exact ⟨⟨y + 1, true, by omega, rfl, rfl, fun _ => rfl, HBZ⟩, by show S1.length - (y + 1) < S1.length - y; omega⟩
                      | false =>
                        obtain ⟨R, hR⟩ : ∃ R, R = S1[y] := ⟨_, rfl⟩
                        have ry : ∀ m, row? (wr.drewN m) ⟨bs, os + y * 36, none⟩ 36 = some R.arr := fun _ => by rw [hR]; exact (row?_below HBY.out (a := ⟨bs, os + y * 36, none⟩) hls 36).trans (HRS.out y hlt4)
                        have rn : ∀ m, row? (wr.drewN m) ⟨bu, ou + i * 36, none⟩ 36 = some N.arr := fun _ => (row?_below HBY.out (a := ⟨bu, ou + i * 36, none⟩) hlu 36).trans HRU.out.2
                        have HR := Lib.hid hR
                        clear hR
                        go_upto_region 46 with fail
                        go_big_quiet (fail)
                        obtain ⟨Z, hZ⟩ : ∃ W, W = wr.drewN nq := ⟨_, rfl⟩
                        rw [← hZ]
                        have HBZ := Lib.hid (show Below w5.heap.size w5 Z from hZ ▸ below_drewN HBY.out nq)
                        clear hZ ry rn
                        go_wp2_with fail
                        refine ⟨⟨y + 1, decide (R = N), by omega, rfl, rfl, fun h => ?_, HBZ⟩, by show S1.length - (y + 1) < S1.length - y; omega⟩
                        by_cases e : m0 = y
                        · subst e; exact decide_eq_true (by rw [HR.out]; exact HM.out)
                        · exact absurd (HMB.out (by omega)) (by decide)
                    · have hye : y = S1.length := by omega
                      subst hye
                      have dlt4 : decide ((S1.length : Int) < (S1.length : Int)) = false := decide_eq_false (by omega)
                      have hb := HMB.out hm0
                      subst hb
                      have hwr : ∀ m, row? (wr.drewN m) ⟨bu, ou + i * 36, none⟩ 36 = some N.arr := fun _ => (row?_below HBY.out (a := ⟨bu, ou + i * 36, none⟩) hlu 36).trans HRU.out.2
                      have ci : ∀ m, (wr.drewN m).cell? ⟨bu, ou + i * 36, none⟩ = some (.int .i64 N.id) := fun m => by have := row?_cellAt (hwr m) 0 (by decide); rw [Note.arr_0] at this; exact this
                      clear hwr
                      by_cases hi0 : i = 0
                      · have g0 : decide (0 < (i : Int)) = false := decide_eq_false (by omega)
                        have g0n : decide (0 < i) = false := decide_eq_false (by omega)
                        have g0p : ¬ 0 < i := by omega
                        have HI0 := Lib.hid hi0
                        clear hi0
                        go_upto_region 47 with fail
                        go_big_quiet (fail)
                        obtain ⟨Z, hZ⟩ : ∃ W, W = wr.drewN nq := ⟨_, rfl⟩
                        rw [← hZ]
                        have HBZ := Lib.hid (show Below w5.heap.size w5 Z from hZ ▸ below_drewN HBY.out nq)
                        clear hZ ci
                        go_wp2_with fail
                        exact ⟨⟨i + 1, by omega, rfl, HBZ⟩, by show S1.length - (i + 1) < S1.length - i; omega⟩
                      · have g0 : decide (0 < (i : Int)) = true := decide_eq_true (by omega)
                        have g0n : decide (0 < i) = true := decide_eq_true (by omega)
                        have g0p : 0 < i := by omega
                        obtain ⟨p, hp⟩ : ∃ p, p = i - 1 := ⟨_, rfl⟩
                        have hpi : (i : Int) - 1 = (p : Int) := by omega
                        have p0 : (0 : Int) ≤ (p : Int) := by omega
                        have p1 : (p : Int) < (S1.length : Int) := by omega
                        have hpT : p < T.length := by omega
                        obtain ⟨P, hP⟩ : ∃ P, P = T[p] := ⟨_, rfl⟩
                        have cp : ∀ m, (wr.drewN m).cell? ⟨bu, ou + p * 36, none⟩ = some (.int .i64 P.id) := fun m => by
                          have h1 : row? (wr.drewN m) ⟨bu, ou + p * 36, none⟩ 36 = some P.arr := by rw [hP]; exact (row?_below HBY.out (a := ⟨bu, ou + p * 36, none⟩) hlu 36).trans (HRU.out.1 p hpT)
                          have := row?_cellAt h1 0 (by decide); rw [Note.arr_0] at this; exact this
                        have hlt5 : P.id < N.id := by
                          have h1 := List.pairwise_iff_getElem.1 HPM.out.2.1 p i (by simpa using hpT) (by simpa using hTl) (by omega)
                          simp only [List.getElem_map] at h1
                          rw [hP, HN.out]
                          exact h1
                        have g1 : decide (N.id ≤ P.id) = false := decide_eq_false (by omega)
                        have HP2 := Lib.hid (And.intro hi0 (And.intro hp hP))
                        clear hi0 hp hP
                        go_upto_region 47 with fail
                        go_big_quiet (fail)
                        obtain ⟨Z, hZ⟩ : ∃ W, W = wr.drewN nq := ⟨_, rfl⟩
                        rw [← hZ]
                        have HBZ := Lib.hid (show Below w5.heap.size w5 Z from hZ ▸ below_drewN HBY.out nq)
                        clear hZ ci cp
                        go_wp2_with fail
                        exact ⟨⟨i + 1, by omega, rfl, HBZ⟩, by show S1.length - (i + 1) < S1.length - i; omega⟩
                · have hie : i = S1.length := by omega
                  subst hie
                  have dlt3 : decide ((S1.length : Int) < (S1.length : Int)) = false := decide_eq_false (by omega)
                  have hs6 := HS5.out.below HBI.out
                  have HS6 := Lib.hid hs6
                  clear hs6
                  go_wp2_with fail
                  go_roundw
                  case rel => exact ⟨k + 1, _, ⟨sa, S1.length, sc2⟩, S1, M', n + 1, by omega, rfl, rfl, by omega, by rw [← HPM.out.2.2]; exact HPM.out.1, HS6⟩
                  case measure => show L.length - (k + 1) < L.length - k; omega
      · have hke : k = L.length := by omega
        subst hke
        have dlt : decide ((L.length : Int) < (L.length : Int)) = false := decide_eq_false (by omega)
        go_wp2_with fail
        refine (HA.out _).mono ?_
        rintro e w9 ⟨rfl, hb9⟩
        have HB9 := Lib.hid hb9
        clear hb9
        go_wp2_with fail
        go_ret
        exact ⟨rfl, HB1.out.trans ((HS.out.nub.below.mono HB1.out.size).trans (HB9.out.mono (Nat.le_trans HB1.out.size HS.out.nub.below.size)))⟩
theorem notifyPairs_any (s : Sl) (L : List (Ask × List Tx)) (w : World) (h : AsksAt w s L) : Calls Tryz.prog 4 #[.slice s.a s.n s.c] w fun e w' => e = .returned (.bool true) ∧ Below w.heap.size w w' := by
  refine notifyPairs_nf s L w h ?_
  have h1 := h.rows.1
  have h2 := h.rows.2.1
  have h3 := h.rows.2.2.1
  rw [List.length_map] at h1
  unfold maxLen at h3
  omega
end Go.Proofs.YtlkojkjeklblkaaGreat
