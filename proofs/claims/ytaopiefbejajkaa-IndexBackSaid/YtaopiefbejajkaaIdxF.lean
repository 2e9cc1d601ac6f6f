/- Package index: may a transaction come? -/
import Derived.Test.YtaopiefbejajkaaStNew
import Derived.Test.YtaopiefbejajkaaIdxE
set_option linter.unusedSimpArgs false
set_option linter.unusedVariables false
namespace Go.Proofs.Ytaopiefbejajkaa
open Go.RowKit
attribute [local go_sem] Hash.ext_whole In.ext_tx Hash.size_arr
theorem isTx.keep {w w' : World} {v : TxV} {t : Tx} (h : isTx w v t w.heap.size) (hb : Below w.heap.size w w') : isTx w' v t w'.heap.size := (h.below hb).mono hb.size
theorem entOf_some {T : Hash → TxV} {M : Maps} {z : Hash} {x : Tx × Nat} (h : M.txs z = some x) : entOf T M z = ⟨T z, (x.2 : Nat)⟩ := by unfold entOf; rw [h]
theorem entOf_none {T : Hash → TxV} {M : Maps} {z : Hash} (h : M.txs z = none) : entOf T M z = EntryV.zero := by unfold entOf; rw [h]
set_option maxRecDepth 100000 in
set_option maxHeartbeats 8000000 in
theorem may_ix (Z : Nat → Prop) (p : Nat) (r : IdxR) (M : Maps) (B : List (List Hash)) (v : TxV) (t : Tx) (w : World) (h : IdxAt w Z p r M B) (ht : isTx w v t w.heap.size) (hc : checkS t = 0) :
    Calls Try.prog 85 #[.pointer (some ⟨p, 0, none⟩), .agg v.arr] w fun e w' => e = .returned (.bool (mayS M t)) ∧ Below w.heap.size w w' := by
  obtain ⟨⟨ia, il, ic⟩, os, lk⟩ := v
  have hil : il = t.ins.length := ht.1.1
  subst hil
  have hil100 : t.ins.length ≤ 100 := (checkS_ok hc).1
  obtain ⟨v, hv⟩ : ∃ v, v = TxV.mk ⟨ia, t.ins.length, ic⟩ os lk := ⟨_, rfl⟩
  have hv0 : v.arr[0]? = some (.slice ia t.ins.length ic) := by rw [hv]; exact TxV.arr_0 _
  rw [← hv] at ht ⊢
  have hins : rowsAt w ia 37 In.arr t.ins w.heap.size := by have := ht.1.2.2; rw [hv] at this; exact this
  obtain ⟨W1, hW1⟩ : ∃ W1, W1 = w.alloc (.cells v.arr 51) := ⟨_, rfl⟩
  have hb1 : Below w.heap.size w W1 := hW1 ▸ (Below.refl _ _).alloc (Nat.le_refl _) _
  have h1 := h.keep hb1
  have ht1 := ht.keep hb1
  have hz1 : w.heap.size + 1 = W1.heap.size := by rw [hW1]; simp
  have hg1 : W1.heap[w.heap.size]? = some (.cells v.arr 51 (0, 0)) := hW1 ▸ heap_alloc_new w _
  have hid := id_tx v t W1.drew ht1
  obtain ⟨z, hz⟩ : ∃ z, z = idS t := ⟨_, rfl⟩
  rw [← hz] at hid
  have c1 : W1.drew.cell? ⟨p, 1, none⟩ = some (.map (some r.mt)) := h1.cell1
  have c2 : row? W1.drew ⟨w.heap.size, 0, none⟩ 3 = some v.arr := row_of_block hg1 (by simp)
  have c3 : W1.cell? ⟨p, 1, none⟩ = some (.map (some r.mt)) := h1.cell1
  have c4 : row? W1 ⟨w.heap.size, 0, none⟩ 3 = some v.arr := row_of_block hg1 (by simp)
  have H1 := Lib.hid h1
  have HT1 := Lib.hid ht1
  have HG1 := Lib.hid hg1
  have HZ := Lib.hid hz
  have HV0 := Lib.hid hv0
  have HIN := Lib.hid ((hins.below hb1).mono hb1.size)
  clear h1 ht1 hg1 h ht hz hv0 hins hv
  have hidB := id_tx v t (W1.alloc (.cells EntryV.zero.arr 151)).drew (HT1.out.keep ((Below.refl W1.heap.size W1).alloc (Nat.le_refl _) _).drew)
  rw [← HZ.out] at hidB
  have hlt1 : w.heap.size < W1.heap.size := by omega
  have hpl1 : p < W1.heap.size := H1.out.lt (.inl rfl)
  go_enter Try.func85, Try.ntmps85
  go_upto_region 1 with fail
  rw [← hW1]
  clear hW1
  go_cut [6] (fun v6 wx => v6 = .bool (M.txs z).isSome ∧ Below W1.heap.size W1 wx)
  case first =>
    go_region_law (first | (go_simp; go_at_call 66; refine hid.mono ?_; rintro e w2 ⟨rfl, hb2⟩; have hI2 := (H1.out.keep (Below.refl W1.heap.size W1).drew).keep hb2; have hc2 := hI2.cell1; have hp2 : p < w2.heap.size := hI2.lt (.inl rfl); have hlk := (hI2.look z).1; have HI2 := Lib.hid hI2; clear hI2; have hlk2 := ((HI2.out.keep ((Below.refl w2.heap.size w2).alloc (Nat.le_refl _) (.cells EntryV.zero.arr 151))).look z).1; have hbe := (((Below.refl W1.heap.size W1).drew.trans hb2).alloc hb2.size (.cells (entOf r.T M z).arr 151))) | (go_simp; go_at_call 66; refine hidB.mono ?_; rintro e w3 ⟨rfl, hb3⟩; have hI3 := (H1.out.keep ((Below.refl W1.heap.size W1).alloc (Nat.le_refl _) (.cells EntryV.zero.arr 151)).drew).keep hb3; have hc3 := hI3.cell1; have hlk := (hI3.look z).1; clear hI3; have hge : w3.heap[W1.heap.size]? = some (.cells EntryV.zero.arr 151 (0, 0)) := (hb3.block _ (by simp)).trans (heap_alloc_new W1 _); have hre : (row? w3 ⟨W1.heap.size, 0, none⟩ 4).isSome = true := by { rw [row_of_block hge (by simp)]; rfl }; have hfe : rowFree w3 ⟨W1.heap.size, 0, none⟩ 4 := fun j _ => (cells_known hge).2.1 _))
    all_goals
      go_wp2_with fail
      go_meet
      first
        | exact ⟨rfl, hbe⟩
        | exact ⟨rfl, (((Below.refl W1.heap.size W1).alloc (Nat.le_refl _) (.cells EntryV.zero.arr 151)).drew.trans (hb3.mono (by simp))).trans ((setCells_upd W1.heap.size _ 0 w3).below (by have := hb3.size; simp at this; omega) (fun k e => Nat.le_of_eq e.symm))⟩
  case rest =>
    obtain ⟨rfl, hbc⟩ := hcut
    clear c1 c2 c3 c4 hid hidB
    have hbwc : Below w.heap.size w wc := hb1.trans (hbc.mono hb1.size)
    obtain ⟨bz, hbz⟩ : ∃ bz, bz = (M.txs z).isSome := ⟨_, rfl⟩
    rw [← hbz]
    cases bz with
    | true =>
      have hfin : Hid (mayS M t = false) := by
        unfold Hid mayS
        rw [← HZ.out]
        cases hh : M.txs z with
        | none => rw [hh] at hbz; cases hbz
        | some x => rfl
      clear hbz
      go_wp2_with fail
      go_ret
      exact ⟨by rw [hfin.out]; rfl, hbwc⟩
    | false =>
      have hnone : Hid (M.txs (idS t) = none) := by
        unfold Hid
        rw [← HZ.out]
        cases hh : M.txs z with
        | none => rfl
        | some x => rw [hh] at hbz; cases hbz
      have c0 : wc.cell? ⟨w.heap.size, 0, none⟩ = some (.slice ia t.ins.length ic) := by
        have hgc : wc.heap[w.heap.size]? = some (.cells v.arr 51 (0, 0)) := (hbc.block _ hlt1).trans HG1.out
        rw [(cells_known hgc).1]; exact HV0.out
      clear hbz
      go_wp2_with fail
      go_loopw [27] (fun v wr => ∃ k : Nat, k ≤ t.ins.length ∧ v = .int .i64 k ∧ Hid (∀ j (h : j < t.ins.length), j < k → mayIn M t.ins[j] = true) ∧ Below W1.heap.size W1 wr) (fun v _ => t.ins.length - (intOf v).toNat)
      case atStart => exact ⟨0, Nat.zero_le _, rfl, fun j _ h => absurd h (by omega), hbc⟩
      case round =>
        clear hbc hbwc c0
        obtain ⟨k, hk, rfl, hok, hbr⟩ := hrel
        by_cases hlt : k < t.ins.length
        · obtain ⟨b, off, e0, hb, hrk⟩ := (HIN.out.below hbr).at hlt
          subst e0
          obtain ⟨x, hx⟩ : ∃ x, x = t.ins[k] := ⟨_, rfl⟩
          rw [← hx] at hrk
          have hq : i64 x.prev.n := by rw [hx]; exact prev_i64 hc hlt
          have HX := Lib.hid hx
          have k0 : (0 : Int) ≤ (k : Int) := by omega
          have k1 : (k : Int) < (t.ins.length : Int) := by omega
          have dlt : decide ((k : Int) < (t.ins.length : Int)) = true := decide_eq_true k1
          obtain ⟨Wx, hWx⟩ : ∃ Wx, Wx = wr.alloc (.cells x.arr 53) := ⟨_, rfl⟩
          have hbx : Below W1.heap.size W1 Wx := hWx ▸ hbr.alloc hbr.size _
          have hIx := H1.out.keep hbx
          have hgx : Wx.heap[wr.heap.size]? = some (.cells x.arr 53 (0, 0)) := hWx ▸ heap_alloc_new wr _
          have hxl : wr.heap.size < Wx.heap.size := by rw [hWx]; simp
          have hpx : p < Wx.heap.size := hIx.lt (.inl rfl)
          have d1 : Wx.cell? ⟨p, 2, none⟩ = some (.map (some r.ms)) := hIx.cell2
          have d2 : row? Wx ⟨wr.heap.size, 0, none⟩ 33 = some x.prev.arr := by rw [row_part hgx 0 33 (by simp)]; simp
          have d3 : Wx.drew.cell? ⟨p, 2, none⟩ = some (.map (some r.ms)) := hIx.cell2
          have d4 : row? Wx.drew ⟨wr.heap.size, 0, none⟩ 33 = some x.prev.arr := d2
          have l1 := (hIx.keep (Below.refl Wx.heap.size Wx).drew).lookSp x.prev hq
          have l2 := (hIx.keep ((Below.refl Wx.heap.size Wx).alloc (Nat.le_refl _) (.cells Hash.zero.arr 30)).drew).lookSp x.prev hq
          obtain ⟨y, hy⟩ : ∃ y, y = (M.sp x.prev).getD Hash.zero := ⟨_, rfl⟩
          obtain ⟨bs, hbs⟩ : ∃ bs, bs = (M.sp x.prev).isSome := ⟨_, rfl⟩
          rw [← hy, ← hbs] at l1 l2
          have HBS := Lib.hid hbs
          have HIX := Lib.hid hIx
          have HGX := Lib.hid hgx
          clear hx hIx hgx hy hbs
          go_upto_region 7 with fail
          rw [← hWx]
          clear hWx
          go_cut [10] (fun v10 wx => v10 = .bool bs ∧ Below Wx.heap.size Wx wx)
          case first =>
            go_region_law (fail)
            all_goals
              go_wp2_with fail
              go_meet
              exact ⟨rfl, ((Below.refl Wx.heap.size Wx).alloc (Nat.le_refl _) _).drew⟩
          case rest =>
            obtain ⟨rfl, hbd⟩ := hcut
            clear d1 d2 d3 d4 l1 l2 hbr hrk hb
            have hbe := hbx.trans (hbd.mono hbx.size)
            cases bs with
            | true =>
              have hfin : Hid (mayS M t = false) := by
                unfold Hid mayS
                rw [show t.ins.all (mayIn M) = false from by
                  rw [List.all_eq_false]
                  refine ⟨x, by rw [HX.out]; exact List.getElem_mem hlt, ?_⟩
                  unfold mayIn
                  have := HBS.out
                  cases hh : M.sp x.prev with
                  | none => rw [hh] at this; cases this
                  | some y => simp]
                simp
              have HBE := Lib.hid hbe
              clear hbe hbd
              go_wp2_with fail
              go_ret
              exact ⟨by rw [hfin.out]; rfl, hb1.trans (HBE.out.mono hb1.size)⟩
            | false =>
              obtain ⟨Wy, hWy⟩ : ∃ Wy, Wy = wc := ⟨_, rfl⟩
              rw [← hWy] at hbd hbe
              have hIy := HIX.out.keep hbd
              have hgy : Wy.heap[wr.heap.size]? = some (.cells x.arr 53 (0, 0)) := (hbd.block _ hxl).trans HGX.out
              have hyl : wr.heap.size < Wy.heap.size := Nat.lt_of_lt_of_le hxl hbd.size
              have hpy : p < Wy.heap.size := hIy.lt (.inl rfl)
              obtain ⟨E, hE⟩ : ∃ E, E = entOf r.T M x.prev.tx := ⟨_, rfl⟩
              obtain ⟨be, hbe2⟩ : ∃ be, be = (M.txs x.prev.tx).isSome := ⟨_, rfl⟩
              have d1 : Wy.cell? ⟨p, 1, none⟩ = some (.map (some r.mt)) := hIy.cell1
              have d2 : row? Wy ⟨wr.heap.size, 0, none⟩ 32 = some x.prev.tx.arr := by rw [row_part hgy 0 32 (by simp)]; simp only [Nat.zero_add]; rw [In.ext_tx]
              have d3 : Wy.drew.cell? ⟨p, 1, none⟩ = some (.map (some r.mt)) := d1
              have d4 : row? Wy.drew ⟨wr.heap.size, 0, none⟩ 32 = some x.prev.tx.arr := d2
              have l1 := ((hIy.keep (Below.refl Wy.heap.size Wy).drew).look x.prev.tx).1
              have l2 := ((hIy.keep ((Below.refl Wy.heap.size Wy).alloc (Nat.le_refl _) (.cells EntryV.zero.arr 151)).drew).look x.prev.tx).1
              rw [← hE, ← hbe2] at l1 l2
              have HE := Lib.hid (And.intro hE hbe2)
              have HBE := Lib.hid hbe
              have HIY := Lib.hid hIy
              have HGY := Lib.hid hgy
              clear hE hbe2 hIy hgy hbe hbd
              go_upto_region 10 with fail
              rw [← hWy]
              clear hWy
              go_cut [11, 12] (fun v11 v12 wx => v12 = .bool be ∧ v11 = .pointer (some ⟨Wy.heap.size, 0, none⟩) ∧ wx.cell? ⟨Wy.heap.size, 1, none⟩ = some (.slice E.t.outs.a E.t.outs.n E.t.outs.c) ∧ Below Wy.heap.size Wy wx)
              case first =>
                go_region_law (fail)
                all_goals
                  go_wp2_with fail
                  go_meet
                  exact ⟨rfl, rfl, (World.cell?_of_block (w := Wy.alloc (.cells E.arr 151)) rfl).trans (by rw [(cells_known (heap_alloc_new Wy (.cells E.arr 151))).1]; exact EntryV.arr_1 E), ((Below.refl Wy.heap.size Wy).alloc (Nat.le_refl _) _).drew⟩
              case rest =>
                obtain ⟨rfl, rfl, hce, hbf⟩ := hcut
                have hgz : wc.heap[wr.heap.size]? = some (.cells x.arr 53 (0, 0)) := (hbf.block _ hyl).trans HGY.out
                have c32 : wc.cell? ⟨wr.heap.size, 32, none⟩ = some (.int .i64 x.prev.n) := by rw [(cells_known hgz).1]; exact In.arr_32 x
                have hbz := HBE.out.trans (hbf.mono HBE.out.size)
                have HBZ := Lib.hid hbz
                clear d1 d2 d3 d4 l1 l2 hgz hbf hbz
                have hgo : mayIn M x = true → Hid (∀ j (h : j < t.ins.length), j < k + 1 → mayIn M t.ins[j] = true) := by
                  intro h j hj hjk
                  by_cases e : j = k
                  · subst e; rw [← HX.out]; exact h
                  · exact hok.out j hj (by omega)
                have hsp : Hid ((M.sp x.prev).isNone = true) := by
                  unfold Hid
                  have := HBS.out
                  cases hh : M.sp x.prev with
                  | none => rfl
                  | some y => rw [hh] at this; cases this
                cases hm : M.txs x.prev.tx with
                | none =>
                  have hbe0 : be = false := by rw [HE.out.2, hm]; rfl
                  subst hbe0
                  have hg := hgo (by unfold mayIn; rw [hsp.out, hm]; rfl)
                  clear hm hgo
                  go_wp2_with fail
                  exact ⟨⟨k + 1, by omega, by go_num, hg, HBZ.out⟩, by simp [intOf]; omega⟩
                | some u =>
                  have hbe0 : be = true := by rw [HE.out.2, hm]; rfl
                  subst hbe0
                  have hEn : E.t.outs.n = u.1.outs.length := by rw [HE.out.1, entOf_some hm]; exact (HIY.out.ent _ _ hm).1.2.1.1
                  rw [hEn] at hce
                  by_cases hge : (u.1.outs.length : Int) ≤ x.prev.n
                  · have hfin : Hid (mayS M t = false) := by
                      unfold Hid mayS
                      rw [show t.ins.all (mayIn M) = false from by
                        rw [List.all_eq_false]
                        refine ⟨x, by rw [HX.out]; exact List.getElem_mem hlt, ?_⟩
                        unfold mayIn
                        rw [hm]
                        simp
                        intro _
                        exact hge]
                      simp
                    have dge : decide ((u.1.outs.length : Int) ≤ x.prev.n) = true := decide_eq_true hge
                    clear hm hgo hEn
                    go_wp2_with fail
                    go_ret
                    exact ⟨by rw [hfin.out]; rfl, hb1.trans (HBZ.out.mono hb1.size)⟩
                  · have hg := hgo (by unfold mayIn; rw [hsp.out, hm]; simp; omega)
                    have dge : decide ((u.1.outs.length : Int) ≤ x.prev.n) = false := decide_eq_false hge
                    clear hm hgo hEn
                    go_wp2_with fail
                    exact ⟨⟨k + 1, by omega, by go_num, hg, HBZ.out⟩, by simp [intOf]; omega⟩
        · have dlt : decide ((k : Int) < (t.ins.length : Int)) = false := decide_eq_false (by omega)
          have hfin : Hid (mayS M t = true) := by
            unfold Hid mayS
            rw [hnone.out]
            simp only [Option.isNone_none, Bool.true_and, List.all_eq_true]
            intro x hx
            obtain ⟨j, hj, rfl⟩ := List.mem_iff_getElem.1 hx
            exact hok.out j hj (by omega)
          have HBR := Lib.hid hbr
          clear hbr
          go_wp2_with fail
          go_ret
          exact ⟨by rw [hfin.out]; rfl, hb1.trans (HBR.out.mono hb1.size)⟩
end Go.Proofs.Ytaopiefbejajkaa
