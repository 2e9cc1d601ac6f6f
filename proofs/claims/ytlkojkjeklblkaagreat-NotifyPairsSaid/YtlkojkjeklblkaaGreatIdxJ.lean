/- Package index: transactions let go. Package index: a block taken in. Package index: Connect. Package index: Disconnect; what an index tells. -/
import Derived.Test.YtlkojkjeklblkaaGreatIdxF
import Derived.Test.YtlkojkjeklblkaaGreatTxC
import Derived.Deep.AppendLies
set_option linter.unusedSimpArgs false
set_option linter.unusedVariables false
namespace Go.Proofs.YtlkojkjeklblkaaGreat
open Go.RowKit
attribute [local go_sem] Hash.ext_whole In.ext_tx Hash.size_arr
@[go_sem] theorem field_entry_t (E : EntryV) (w : World) : (Instr.field 188 (.agg E.arr) 0).run Tryz.prog w = .ok (.agg E.t.arr) w := by
  have h := run_part_agg (P := Tryz.prog) (n := 3) Tryz.underlying72 rfl size_TxV (xs := E.arr) (b := E.t.arr) (off := 0) (by rw [Nat.zero_add]; exact EntryV.ext_0 E) w
  simp only [Instr.field, Sem.run_bind, run_underlying Tryz.underlying188, Result.andThen_ok]
  simp [asAgg, h]
@[go_sem] theorem field_entry_h (E : EntryV) (w : World) : (Instr.field 188 (.agg E.arr) 1).run Tryz.prog w = .ok (.int .i64 E.height) w := by
  have h := run_part_one (P := Tryz.prog) Tryz.underlying3 rfl (xs := E.arr) (off := 3) (v := .int .i64 E.height) (by simp) w
  simp only [Instr.field, Sem.run_bind, run_underlying Tryz.underlying188, Result.andThen_ok]
  simp [asAgg, h]
@[go_sem] theorem field_tx_ins (E : TxV) (w : World) : (Instr.field 72 (.agg E.arr) 0).run Tryz.prog w = .ok (.slice E.ins.a E.ins.n E.ins.c) w := by
  have h := run_part_one (P := Tryz.prog) Tryz.underlying69 rfl (xs := E.arr) (off := 0) (v := .slice E.ins.a E.ins.n E.ins.c) (by simp) w
  simp only [Instr.field, Sem.run_bind, run_underlying Tryz.underlying72, Result.andThen_ok]
  simp [asAgg, h]
section
variable {w w' : World} {Z Y : Nat → Prop} {p : Nat} {r : IdxR} {M : Maps} {B : List (List Hash)}
theorem spV_upd (M : Maps) (q : Pt) (v : Option Hash) : upd (spV M) q (v.map hashV) = spV ⟨M.txs, updF M.sp q.1 v⟩ := by
  funext y
  unfold upd spV updF
  by_cases h : y = q
  · subst h; simp
  · have h2 : y.1 ≠ q.1 := fun e => h (Subtype.ext e)
    simp [h, h2]
/-- Who spent a place, changed. -/
theorem IdxAt.setSp (h : IdxAt w Z p r M B) (q : Pt) (v : Option Hash) {n : Nat} (hm : mapAt w' ptV r.ms n (upd (spV M) q (v.map hashV))) (hu : Upd w w' (fun k => k = r.ms)) :
    IdxAt w' Z p { r with ns := n } ⟨M.txs, updF M.sp q.1 v⟩ B := by
  have hne : ∀ k, r.rest p Z k → k ≠ r.ms := fun k hk e => hk.2 (.inr (.inr (.inl e)))
  have hp : p ≠ r.ms := fun e => by
    obtain ⟨es, clock, hb, _⟩ := h.sp
    rw [← e, h.hd] at hb
    cases hb
  refine ⟨(hu.block p (h.lt (.inl rfl)) hp).trans h.hd, h.txs.of_block (hu.block _ h.txs.lt h.two), by rw [← spV_upd]; exact hm, ?_, h.bn, h.il, fun k h1 h2 => (h.ids k h1 h2).upd hu (fun j hj _ => hne j hj), fun z x hx => ⟨((h.ent z x hx).1).upd hu (fun j hj _ => hne j hj), (h.ent z x hx).2⟩, h.zone, h.two⟩
  refine ownsRow_upd h.own hu (fun k hk e => ?_)
  have e2 : k = r.ms := e
  subst e2
  obtain ⟨es, clock, hb, _⟩ := h.sp
  rcases h.own.2 with ⟨hv, _⟩ | ⟨g, cap, cur, hv, _, hh, _⟩
  · unfold Sl.v at hk; rw [show (Value.slice r.bv.a r.bv.n r.bv.c) = .slice none 0 0 from hv] at hk; cases hk
  · rw [hv] at hk
    cases hk
    rw [hh] at hb
    cases hb
theorem IdxAt.apart_mt (h : IdxAt w Z p r M B) : p ≠ r.mt ∧ r.bv.v.ownBlock ≠ some r.mt := by
  obtain ⟨es, clock, hb, _⟩ := h.txs
  constructor
  · intro e
    rw [← e, h.hd] at hb
    cases hb
  · intro hk
    rcases h.own.2 with ⟨hv, _⟩ | ⟨g, cap, cur, hv, _, hh, _⟩
    · unfold Sl.v at hk; rw [show (Value.slice r.bv.a r.bv.n r.bv.c) = .slice none 0 0 from hv] at hk; cases hk
    · rw [hv] at hk
      cases hk
      rw [hh] at hb
      cases hb
/-- A transaction's entry, struck. -/
theorem IdxAt.dropTx (h : IdxAt w Z p r M B) (z : Hash) {n : Nat} (hm : mapAt w' hashV r.mt n (upd (entV r.T M) z none)) (hu : Upd w w' (fun k => k = r.mt)) :
    IdxAt w' Z p { r with nt := n } ⟨updF M.txs z none, M.sp⟩ B := by
  have hne : ∀ k, r.rest p Z k → k ≠ r.mt := fun k hk e => hk.2 (.inr (.inl e))
  have hap := h.apart_mt
  have he : upd (entV r.T M) z none = entV r.T ⟨updF M.txs z none, M.sp⟩ := by
    funext y
    unfold upd entV updF
    by_cases hy : y = z
    · subst hy; simp
    · simp [hy]
  refine ⟨(hu.block p (h.lt (.inl rfl)) hap.1).trans h.hd, by rw [← he]; exact hm, h.sp.of_block (hu.block _ h.sp.lt (Ne.symm h.two)), ownsRow_upd h.own hu (fun k hk e => hap.2 (by have e2 : k = r.mt := e; rw [← e2]; exact hk)), h.bn, h.il, fun k h1 h2 => (h.ids k h1 h2).upd hu (fun j hj _ => hne j hj), fun y x hx => ?_, h.zone, h.two⟩
  simp only [updF] at hx
  split at hx
  · cases hx
  · exact ⟨((h.ent y x hx).1).upd hu (fun j hj _ => hne j hj), (h.ent y x hx).2⟩
/-- A transaction's entry, put. -/
theorem IdxAt.putTx (h : IdxAt w Z p r M B) (z : Hash) (t : Tx) (k : Nat) (u : TxV) (hc : checkS t = 0) (ht : txIn w (r.rest p Z) u t) {n : Nat} (hm : mapAt w' hashV r.mt n (upd (entV r.T M) z (some (.agg (EntryV.mk u (k : Nat)).arr)))) (hu : Upd w w' (fun k => k = r.mt)) :
    IdxAt w' Z p { r with nt := n, T := fun y => if y = z then u else r.T y } ⟨updF M.txs z (some (t, k)), M.sp⟩ B := by
  have hne : ∀ k, r.rest p Z k → k ≠ r.mt := fun k hk e => hk.2 (.inr (.inl e))
  have hap := h.apart_mt
  have he : upd (entV r.T M) z (some (.agg (EntryV.mk u (k : Nat)).arr)) = entV (fun y => if y = z then u else r.T y) ⟨updF M.txs z (some (t, k)), M.sp⟩ := by
    funext y
    unfold upd entV updF
    by_cases hy : y = z
    · subst hy; simp
    · simp [hy]
  refine ⟨(hu.block p (h.lt (.inl rfl)) hap.1).trans h.hd, by rw [← he]; exact hm, h.sp.of_block (hu.block _ h.sp.lt (Ne.symm h.two)), ownsRow_upd h.own hu (fun k hk e => hap.2 (by have e2 : k = r.mt := e; rw [← e2]; exact hk)), h.bn, h.il, fun k h1 h2 => (h.ids k h1 h2).upd hu (fun j hj _ => hne j hj), fun y x hx => ?_, h.zone, h.two⟩
  simp only [updF] at hx
  by_cases hy : y = z
  · subst hy
    simp only [if_true, Option.some.injEq] at hx
    subst hx
    simp only [if_true]
    exact ⟨ht.upd hu (fun j hj _ => hne j hj), hc⟩
  · simp only [hy, if_false] at hx ⊢
    exact ⟨((h.ent y x hx).1).upd hu (fun j hj _ => hne j hj), (h.ent y x hx).2⟩
theorem IdxAt.entIns (h : IdxAt w Z p r M B) (z : Hash) : slIn w (r.rest p Z) (entOf r.T M z).t.ins 37 In.arr (insOf M z) ∧ (insOf M z).length ≤ 100 ∧ ∀ j (hj : j < (insOf M z).length), i64 (insOf M z)[j].prev.n := by
  unfold entOf insOf
  cases hx : M.txs z with
  | none => exact ⟨slIn_nil _ _ _ _, by simp, fun j hj => absurd hj (by simp)⟩
  | some x => exact ⟨(h.ent z x hx).1.1, (checkS_ok (h.ent z x hx).2).1, fun j hj => prev_i64 (h.ent z x hx).2 hj⟩
end
theorem mapDrop_all {P : Program} {k : TypeId} {κ : Type} [DecidableEq κ] {enc : κ → Value} {f : κ → Option Value} {w : World} {b n : Nat} {t e : TypeId} (KE : KeyEnc P k enc) (ht : P.underlying t = some (.map k e)) (h : mapAt w enc b n f) (x : κ) :
    ∃ w' n', (∀ ty, (Builtin.delete_ #[t, k] ty #[.map (some b), enc x]).run P w = .ok (.tuple #[]) w') ∧ mapAt w' enc b n' (upd f x none) ∧ Upd w w' (fun k => k = b) := by
  obtain ⟨w', h1, h2, h3⟩ := run_mapDrop (ty := 0) KE ht h x
  exact ⟨w', _, fun ty => h1, h2, (Upd.grown h3).mono (fun k _ e => (Option.some.inj e).symm)⟩
set_option maxRecDepth 100000 in
set_option maxHeartbeats 4000000 in
theorem undo_ix (Z Y : Nat → Prop) (p : Nat) (r : IdxR) (M : Maps) (B : List (List Hash)) (s : Sl) (ids : List Hash) (w : World) (h : IdxAt w Z p r M B) (hs : slIn w Y s 32 Hash.arr ids) (hY : ∀ k, Y k → k < w.heap.size → ¬ r.foot p k) (hl : ids.length ≤ 1000000) :
    Calls Tryz.prog 101 #[.pointer (some ⟨p, 0, none⟩), .slice s.a s.n s.c] w fun e w' => e = .returned (.tuple #[]) ∧ (∃ a b, IdxAt w' Z p { r with nt := a, ns := b } (undoS M ids) B) ∧ Upd w w' (fun k => k = r.mt ∨ k = r.ms) := by
  obtain ⟨sa, sn, sc⟩ := s
  obtain ⟨hn, hcc, hcm, hr⟩ := hs
  simp only at hn hcc hcm hr
  subst hn
  have HR := Lib.hid hr
  have H := Lib.hid h
  clear hr h hcm
  go_enter Tryz.func101, Tryz.ntmps101
  go_wp2_with fail
  go_loopw [10] (fun v wr => ∃ k a b : Nat, k ≤ ids.length ∧ v = .int .i64 k ∧ IdxAt wr Z p { r with nt := a, ns := b } (undoS M (ids.take k)) B ∧ Upd w wr (fun k => k = r.mt ∨ k = r.ms)) (fun v _ => ids.length - (intOf v).toNat)
  case atStart => exact ⟨0, r.nt, r.ns, Nat.zero_le _, rfl, H.out, Upd.refl _ _⟩
  case round =>
    obtain ⟨k, a, b, hk, rfl, hI, hu⟩ := hrel
    by_cases hlt : k < ids.length
    · obtain ⟨sb, off, e0, hzs, hsb, hrow⟩ := HR.out (by intro e; rw [e] at hlt; simp at hlt)
      subst e0
      have hnf := hY sb hzs hsb
      have hrk : row? wr ⟨sb, off + k * 32, none⟩ 32 = some ids[k].arr := (row?_of_block (hu.block sb hsb (fun e => hnf (by rcases e with e | e; exact .inr (.inl e); exact .inr (.inr (.inl e))))) 32).trans (hrow k hlt)
      obtain ⟨z, hz⟩ : ∃ z, z = ids[k] := ⟨_, rfl⟩
      rw [← hz] at hrk
      obtain ⟨Wx, hWx⟩ : ∃ Wx, Wx = wr.alloc (.cells z.arr 38) := ⟨_, rfl⟩
      have hbx : Below wr.heap.size wr Wx := hWx ▸ (Below.refl _ _).alloc (Nat.le_refl _) _
      have hIx := hI.keep hbx
      have hgx : Wx.heap[wr.heap.size]? = some (.cells z.arr 38 (0, 0)) := hWx ▸ heap_alloc_new wr _
      obtain ⟨Mk, hMk⟩ : ∃ Mk, Mk = undoS M (ids.take k) := ⟨_, rfl⟩
      rw [← hMk] at hIx
      obtain ⟨E, hE⟩ : ∃ E, E = entOf r.T Mk z := ⟨_, rfl⟩
      have hlk := ((hIx.keep (Below.refl Wx.heap.size Wx).drew).look z).2
      have c1 : Wx.drew.cell? ⟨p, 1, none⟩ = some (.map (some r.mt)) := hIx.cell1
      have c2 : row? Wx.drew ⟨wr.heap.size, 0, none⟩ 32 = some z.arr := row_of_block hgx (by simp)
      have hei := hIx.entIns z
      rw [show entOf ({ r with nt := a, ns := b } : IdxR).T Mk z = E from hE.symm] at hlk hei
      have HIX := Lib.hid hIx
      have HGX := Lib.hid hgx
      have HEI := Lib.hid hei
      have HU := Lib.hid (hu.trans (Upd.of_below hbx (fun k => k = r.mt ∨ k = r.ms)) (fun _ _ h => h))
      have HZK := Lib.hid (And.intro hz (And.intro hMk hE))
      have k0 : (0 : Int) ≤ (k : Int) := by omega
      have k1 : (k : Int) < (ids.length : Int) := by omega
      have dlt : decide ((k : Int) < (ids.length : Int)) = true := decide_eq_true k1
      clear hIx hgx hei hI hu hz hMk hE hnf hrow
      go_upto_region 3 with fail
      rw [← hWx]
      clear hWx
      go_cut [21, 22, 23] (fun v21 v22 v23 wx => v21 = .slice E.t.ins.a E.t.ins.n E.t.ins.c ∧ v22 = .int .i64 E.t.ins.n ∧ v23 = .int .i64 0 ∧ Below Wx.heap.size Wx wx)
      case first =>
        go_region_law (fail)
        all_goals
          go_wp2_with fail
          go_meet
          exact ⟨rfl, rfl, rfl, (Below.refl Wx.heap.size Wx).drew⟩
      case rest =>
        obtain ⟨rfl, rfl, rfl, hbc⟩ := hcut
        obtain ⟨L, hL⟩ : ∃ L, L = insOf Mk z := ⟨_, rfl⟩
        have hei := HEI.out
        rw [← hL] at hei
        obtain ⟨hsl, hL100, hLi⟩ := hei
        obtain ⟨⟨⟨ia, il, ic⟩, eo, el⟩, eh⟩ := E
        have hil : il = L.length := hsl.1
        subst hil
        have hIc := HIX.out.keep hbc
        have hzl : wr.heap.size < wc.heap.size := Nat.lt_of_lt_of_le (cells_known HGX.out).2.2 hbc.size
        have hgc : wc.heap[wr.heap.size]? = some (.cells z.arr 38 (0, 0)) := (hbc.block _ (cells_known HGX.out).2.2).trans HGX.out
        have HUC := Lib.hid (HU.out.trans (Upd.of_below hbc (fun k => k = r.mt ∨ k = r.ms)) (fun _ _ h => h))
        obtain ⟨zb, hzb⟩ : ∃ zb, zb = wr.heap.size := ⟨_, rfl⟩
        rw [← hzb] at hgc ⊢
        have hzms : zb ≠ r.ms ∧ zb ≠ r.mt := by
          obtain ⟨es, cl, hb, _⟩ := hIc.sp
          obtain ⟨es2, cl2, hb2, _⟩ := hIc.txs
          constructor
          · intro e
            rw [e] at hgc
            rw [hgc] at hb
            cases hb
          · intro e
            rw [e] at hgc
            rw [hgc] at hb2
            cases hb2
        have HSL := Lib.hid (hsl.below hbc (fun _ _ h => h))
        have HIC := Lib.hid hIc
        have HGC := Lib.hid hgc
        have HL := Lib.hid hL
        have HLi := Lib.hid hLi
        dsimp only
        clear hzl hsl hIc hgc hbc hbx hlk c1 c2 hrk hL hLi hzb
        go_wp2_with fail
        go_loopw [23] (fun v wi => ∃ j b' : Nat, j ≤ L.length ∧ v = .int .i64 j ∧ IdxAt wi Z p { r with nt := a, ns := b' } ⟨Mk.txs, dropIns Mk.sp (L.take j)⟩ B ∧ wi.heap[zb]? = some (.cells z.arr 38 (0, 0)) ∧ Upd w wi (fun k => k = r.mt ∨ k = r.ms) ∧ slIn wi (r.rest p Z) ⟨ia, L.length, ic⟩ 37 In.arr L) (fun v _ => L.length - (intOf v).toNat)
        case atStart => exact ⟨0, b, Nat.zero_le _, rfl, HIC.out, HGC.out, HUC.out, HSL.out⟩
        case round =>
          obtain ⟨j, b', hj, rfl, hI, hg, hu, hs⟩ := hrel
          by_cases hjl : j < L.length
          · obtain ⟨bl, offl, e1, hzl, hbl, hrl⟩ := hs.2.2.2 (by intro e; rw [e] at hjl; simp at hjl)
            simp only at e1
            subst e1
            obtain ⟨x, hx⟩ : ∃ x, x = L[j] := ⟨_, rfl⟩
            have hrj := hrl j hjl
            rw [← hx] at hrj
            have hq : i64 x.prev.n := by rw [hx]; exact HLi.out j hjl
            have hbx : Below wr.heap.size wr (wr.alloc (.cells x.arr 68)) := (Below.refl _ _).alloc (Nat.le_refl _) _
            have hIx : IdxAt (wr.alloc (.cells x.arr 68)).drew Z p { r with nt := a, ns := b' } ⟨Mk.txs, dropIns Mk.sp (L.take j)⟩ B := hI.keep hbx.drew
            obtain ⟨W2, n2, hdel, hm2, hu2⟩ := mapDrop_all pt_enc Tryz.underlying128 hIx.sp ⟨x.prev, hq⟩
            rw [show ptV ⟨x.prev, hq⟩ = .agg x.prev.arr from rfl] at hdel
            have hI2 := hIx.setSp ⟨x.prev, hq⟩ none hm2 hu2
            have c1 : (wr.alloc (.cells x.arr 68)).drew.cell? ⟨p, 2, none⟩ = some (.map (some r.ms)) := hIx.cell2
            have c2 : row? (wr.alloc (.cells x.arr 68)).drew ⟨wr.heap.size, 0, none⟩ 33 = some x.prev.arr := by rw [row_part (w := (wr.alloc (.cells x.arr 68)).drew) (heap_alloc_new wr _) 0 33 (by simp)]; simp
            have huu : Upd wr W2 (fun k => k = r.ms) := (Upd.of_below hbx.drew (fun k => k = r.ms)).trans hu2 (fun _ _ h => h)
            have hzw := (cells_known hg).2.2
            have HN := Lib.hid (And.intro hI2 (And.intro ((huu.block zb hzw hzms.1).trans hg) (And.intro (hu.trans (huu.mono (fun k _ h => .inr h)) (fun _ _ h => h)) (hs.upd huu (fun k hk _ e => hk.2 (.inr (.inr (.inl e))))))))
            have htake : dropIns Mk.sp (L.take (j + 1)) = updF (dropIns Mk.sp (L.take j)) x.prev none := by rw [List.take_succ_eq_append_getElem hjl, dropIns_snoc, ← hx]
            have HT := Lib.hid htake
            have k0 : (0 : Int) ≤ (j : Int) := by omega
            have k1 : (j : Int) < (L.length : Int) := by omega
            have djl : decide ((j : Int) < (L.length : Int)) = true := decide_eq_true k1
            clear hI hg hu hs hIx hm2 hu2 hI2 huu htake hrl hx
            go_wp2_with fail
            go_region_law (fail)
            all_goals
              go_wp2_with fail
              exact ⟨⟨j + 1, n2, by omega, by go_num, by rw [HT.out]; exact HN.out.1, HN.out.2.1, HN.out.2.2.1, HN.out.2.2.2⟩, by simp [intOf]; omega⟩
          · have djl : decide ((j : Int) < (L.length : Int)) = false := decide_eq_false (by omega)
            have hje : L.take j = L := by rw [show j = L.length by omega, List.take_length]
            rw [hje] at hI
            have hIx : IdxAt wr.drew Z p { r with nt := a, ns := b' } ⟨Mk.txs, dropIns Mk.sp L⟩ B := hI.keep (Below.refl wr.heap.size wr).drew
            obtain ⟨W2, n2, hdel, hm2, hu2⟩ := mapDrop_all hash_enc Tryz.underlying127 hIx.txs z
            rw [show hashV z = .agg z.arr from rfl] at hdel
            have hI2 := hIx.dropTx z hm2 hu2
            have c1 : wr.drew.cell? ⟨p, 1, none⟩ = some (.map (some r.mt)) := hIx.cell1
            have c2 : row? wr.drew ⟨zb, 0, none⟩ 32 = some z.arr := row_of_block (w := wr.drew) hg (by simp)
            have huu : Upd wr W2 (fun k => k = r.mt) := (Upd.of_below (Below.refl wr.heap.size wr).drew (fun k => k = r.mt)).trans hu2 (fun _ _ h => h)
            have hstep : undoS M (ids.take (k + 1)) = ⟨updF Mk.txs z none, dropIns Mk.sp L⟩ := by
              rw [List.take_succ_eq_append_getElem hlt, undoS_snoc, ← HZK.out.2.1, ← HZK.out.1, HL.out]
              rfl
            have HN := Lib.hid (And.intro hI2 (And.intro hstep (hu.trans (huu.mono (fun k _ h => .inl h)) (fun _ _ h => h))))
            clear hI hg hu hs hIx hm2 hu2 hI2 huu hje hstep
            go_wp2_with fail
            go_region_law (fail)
            all_goals
              go_wp2_with fail
              exact ⟨⟨k + 1, n2, b', by omega, by go_num, by rw [HN.out.2.1]; exact HN.out.1, HN.out.2.2⟩, by simp [intOf]; omega⟩
    · have dlt : decide ((k : Int) < (ids.length : Int)) = false := decide_eq_false (by omega)
      have hke : ids.take k = ids := by rw [show k = ids.length by omega, List.take_length]
      rw [hke] at hI
      have HI := Lib.hid hI
      clear hI hke
      go_wp2_with fail
      refine bodyPost_end (results_none rfl _ _ _) rfl ?_
      exact ⟨rfl, ⟨a, b, HI.out⟩, hu⟩
end Go.Proofs.YtlkojkjeklblkaaGreat
namespace Go.Proofs.YtlkojkjeklblkaaGreat
open Go.RowKit
attribute [local go_sem] Hash.ext_whole In.ext_tx Hash.size_arr
@[go_sem ↓] theorem execOp_bsl_Hash (parts : Array (Nat × Operand)) (ρ : Operand → Value) (dst : Option Tmp) (ty : TypeId) (pos : String) (after : Array Edge) (guard : Option (Nat × Bool)) : execOp ρ { dst := dst, op := .buildSlice 184 1 parts, type := ty, pos := pos, after := after, guard := guard } = (do pure (.value (← bslS 184 1 (parts.map fun (i, x) => (i, ρ x))))) := rfl
@[go_sem] theorem bsl_Hash (x : Hash) (w : World) : (bslS 184 1 #[(0, .agg x.arr)]).run Tryz.prog w = .ok (.slice (some ⟨w.heap.size, 0, none⟩) 1 1) (w.alloc (.cells x.arr 38)) :=
  run_buildSlice_one Tryz.underlying184 size_Hash zero_Hash (by simp) (by decide) (by decide) x.arr (by simp) w
section
variable {w w1 : World} {Z Y : Nat → Prop} {p : Nat} {r : IdxR} {M : Maps} {B : List (List Hash)}
theorem IdxAt.apart_own (h : IdxAt w Z p r M B) : r.bv.v.ownBlock ≠ some p ∧ r.bv.v.ownBlock ≠ some r.mt ∧ r.bv.v.ownBlock ≠ some r.ms := by
  have key : ∀ (k : Nat) (o : Obj), w.heap[k]? = some o → (∀ cur, o ≠ .cells cur 184 (0, 0)) → r.bv.v.ownBlock ≠ some k := by
    intro k o hb hne hk
    rcases h.own.2 with ⟨hv, _⟩ | ⟨g, cap, cur, hv, _, hh, _⟩
    · unfold Sl.v at hk; rw [show (Value.slice r.bv.a r.bv.n r.bv.c) = .slice none 0 0 from hv] at hk; cases hk
    · rw [hv] at hk
      cases hk
      rw [hh] at hb
      exact hne cur (Option.some.inj hb).symm
  obtain ⟨es, cl, hb, _⟩ := h.txs
  obtain ⟨es2, cl2, hb2, _⟩ := h.sp
  exact ⟨key p _ h.hd (fun cur e => by injection e with _ e2; exact absurd e2 (by decide)), key _ _ hb (fun cur e => by cases e), key _ _ hb2 (fun cur e => by cases e)⟩
theorem IdxAt.pushBlock (h : IdxAt w Z p r M B) (hfr : Fr Z w) (sids : Sl) (ids : List Hash) (hids : slIn w (r.rest p Z) sids 32 Hash.arr ids) (v' : Sl)
    (hown : w1.ownsRow 0 184 1 v'.v (B.length + 1) (r.ivs.map Sl.v ++ [sids.v])) (hg : w.grownBy w1 r.bv.v.ownBlock) (hnew : ∀ k, v'.v.ownBlock = some k → r.bv.v.ownBlock = some k ∨ w.heap.size ≤ k) (hvn : v'.n = B.length + 1) :
    IdxAt (w1.setCell ⟨p, 0, none⟩ (.slice v'.a v'.n v'.c)) Z p { r with bv := v', ivs := r.ivs ++ [sids] } M (B ++ [ids]) ∧ Upd w (w1.setCell ⟨p, 0, none⟩ (.slice v'.a v'.n v'.c)) (r.foot p) := by
  obtain ⟨a1, a2, a3⟩ := h.apart_own
  have hu1 := Upd.grown hg
  have hu2 := Upd.setCell w1 ⟨p, 0, none⟩ (.slice v'.a v'.n v'.c)
  have hpl := h.lt (.inl rfl)
  have hap := h.apart_mt
  have hps : p ≠ r.ms := fun e => by
    obtain ⟨es, clock, hb, _⟩ := h.sp
    rw [← e, h.hd] at hb
    cases hb
  have hu : Upd w (w1.setCell ⟨p, 0, none⟩ (.slice v'.a v'.n v'.c)) (r.foot p) := (hu1.mono (fun k _ e => .inr (.inr (.inr e)))).trans hu2 (fun k _ e => .inl e)
  have hp1 : w1.heap[p]? = some (.cells (IndexV.mk r.bv (some r.mt) (some r.ms)).arr 130 (0, 0)) := (hu1.block p hpl a1).trans h.hd
  have hzone : ∀ k, k < w.heap.size → r.rest p Z k → ({ r with bv := v', ivs := r.ivs ++ [sids] } : IdxR).rest p Z k := by
    intro k hk hz
    refine ⟨hz.1, ?_⟩
    rintro (e | e | e | e)
    · exact hz.2 (.inl e)
    · exact hz.2 (.inr (.inl e))
    · exact hz.2 (.inr (.inr (.inl e)))
    · rcases hnew k e with e2 | e2
      · exact hz.2 (.inr (.inr (.inr e2)))
      · omega
  have hzone2 : ∀ k, k < w.heap.size → r.rest p Z k → (r.rest p Z k ∧ ({ r with bv := v', ivs := r.ivs ++ [sids] } : IdxR).rest p Z k) := fun k hk hz => ⟨hz, hzone k hk hz⟩
  have hsl : ∀ {s : Sl} {l : List Hash}, slIn w (r.rest p Z) s 32 Hash.arr l → slIn (w1.setCell ⟨p, 0, none⟩ (.slice v'.a v'.n v'.c)) (({ r with bv := v', ivs := r.ivs ++ [sids] } : IdxR).rest p Z) s 32 Hash.arr l := fun hh => ((hh.zone hzone2).upd hu (fun k hk _ hf => hk.1.2 hf)).zone (fun _ _ hk => hk.2)
  have htx : ∀ {u : TxV} {t : Tx}, txIn w (r.rest p Z) u t → txIn (w1.setCell ⟨p, 0, none⟩ (.slice v'.a v'.n v'.c)) (({ r with bv := v', ivs := r.ivs ++ [sids] } : IdxR).rest p Z) u t := fun hh => ((hh.zone hzone2).upd hu (fun k hk _ hf => hk.1.2 hf)).zone (fun _ _ hk => hk.2)
  refine ⟨⟨?_, h.txs.of_block ((hu2.block _ (Nat.lt_of_lt_of_le h.txs.lt hu1.size) (fun e => hap.1 e.symm)).trans (hu1.block _ h.txs.lt a2)), h.sp.of_block ((hu2.block _ (Nat.lt_of_lt_of_le h.sp.lt hu1.size) (fun e => hps e.symm)).trans (hu1.block _ h.sp.lt a3)), ?_, by simp [hvn], by simp [h.il], ?_, fun z x hx => ⟨htx (h.ent z x hx).1, (h.ent z x hx).2⟩, ?_, h.two⟩, hu⟩
  · rw [heap_set hp1 0 (.slice v'.a v'.n v'.c), IndexV.set_0]
  · have e : (B ++ [ids]).length = B.length + 1 := by simp
    rw [e, List.map_append]
    refine ownsRow_upd hown hu2 (fun k hk e => ?_)
    have e2 : k = p := e
    subst e2
    rcases hnew k hk with e3 | e3
    · exact a1 e3
    · omega
  · intro k h1 h2
    by_cases hk : k < B.length
    · have hk2 : k < r.ivs.length := by rw [h.il]; exact hk
      have e1 : (B ++ [ids])[k] = B[k] := List.getElem_append_left hk
      have e2 : (r.ivs ++ [sids])[k] = r.ivs[k] := List.getElem_append_left hk2
      rw [e1]
      show slIn _ _ (r.ivs ++ [sids])[k] _ _ _
      rw [e2]
      exact hsl (h.ids k hk hk2)
    · have hk3 : k = B.length := by simp at h1; omega
      subst hk3
      have e1 : (B ++ [ids])[B.length] = ids := by simp
      have e2 : (r.ivs ++ [sids])[B.length]'h2 = sids := by simp [← h.il]
      rw [e1]
      show slIn _ _ ((r.ivs ++ [sids])[B.length]'h2) _ _ _
      rw [e2]
      exact hsl hids
  · rintro k (e | e | e | e)
    · exact h.zone k (.inl e)
    · exact h.zone k (.inr (.inl e))
    · exact h.zone k (.inr (.inr (.inl e)))
    · rcases hnew k e with e2 | e2
      · exact h.zone k (.inr (.inr (.inr e2)))
      · exact hfr k e2
/-- An entry, stored. -/
theorem IdxAt.storeTx (h : IdxAt w Z p r M B) (z : Hash) (t : Tx) (k : Nat) (u : TxV) (hc : checkS t = 0) (ht : txIn w (r.rest p Z) u t) (i : Int) (hi : i = (k : Nat)) :
    ∃ w6 n, (Instr.mapUpdate 127 (.map (some r.mt)) (.agg z.arr) (.agg (EntryV.mk u i).arr)).run Tryz.prog w = .ok () w6 ∧
      IdxAt w6 Z p { r with nt := n, T := fun y => if y = z then u else r.T y } ⟨updF M.txs z (some (t, k)), M.sp⟩ B ∧ Upd w w6 (fun j => j = r.mt) := by
  subst hi
  obtain ⟨w6, hrun, hm, hg⟩ := run_mapStore hash_enc Tryz.underlying127 h.txs z (.agg (EntryV.mk u (k : Nat)).arr)
  have hu : Upd w w6 (fun j => j = r.mt) := (Upd.grown hg).mono (fun j _ e => (Option.some.inj e).symm)
  exact ⟨w6, _, hrun, h.putTx z t k u hc ht hm hu, hu⟩
/-- Who spent a place, stored. -/
theorem IdxAt.storeSp (h : IdxAt w Z p r M B) (q : Outpoint) (hq : i64 q.n) (z : Hash) :
    ∃ w6 n, (Instr.mapUpdate 128 (.map (some r.ms)) (.agg q.arr) (.agg z.arr)).run Tryz.prog w = .ok () w6 ∧
      IdxAt w6 Z p { r with ns := n } ⟨M.txs, updF M.sp q (some z)⟩ B ∧ Upd w w6 (fun j => j = r.ms) := by
  obtain ⟨w6, hrun, hm, hg⟩ := run_mapStore pt_enc Tryz.underlying128 h.sp ⟨q, hq⟩ (.agg z.arr)
  have hu : Upd w w6 (fun j => j = r.ms) := (Upd.grown hg).mono (fun j _ e => (Option.some.inj e).symm)
  exact ⟨w6, _, hrun, h.setSp ⟨q, hq⟩ (some z) hm hu, hu⟩
end
end Go.Proofs.YtlkojkjeklblkaaGreat
namespace Go.Proofs.YtlkojkjeklblkaaGreat
open Go.RowKit
attribute [local go_sem] Hash.ext_whole In.ext_tx Hash.size_arr
/-- A slice's value that reads as transactions, in a zone. -/
def txsIn (w : World) (Y : Nat → Prop) (s : Sl) (vs : List TxV) (l : List Tx) : Prop :=
  slIn w Y s 3 TxV.arr vs ∧ vs.length = l.length ∧ ∀ k (h : k < vs.length) (h2 : k < l.length), txIn w Y vs[k] l[k]
theorem txsIn.txsAt {w : World} {Y : Nat → Prop} {s : Sl} {vs : List TxV} {l : List Tx} (h : txsIn w Y s vs l) : txsAt w s vs l := ⟨h.1.isSl, h.2.1, fun k h1 h2 => (h.2.2 k h1 h2).isTx⟩
theorem txsIn.upd {w w' : World} {Y S : Nat → Prop} {s : Sl} {vs : List TxV} {l : List Tx} (h : txsIn w Y s vs l) (hu : Upd w w' S) (hs : ∀ k, Y k → k < w.heap.size → ¬ S k) : txsIn w' Y s vs l :=
  ⟨h.1.upd hu hs, h.2.1, fun k h1 h2 => (h.2.2 k h1 h2).upd hu hs⟩
theorem txsIn.zone {w : World} {Y X : Nat → Prop} {s : Sl} {vs : List TxV} {l : List Tx} (h : txsIn w Y s vs l) (hY : ∀ k, k < w.heap.size → Y k → X k) : txsIn w X s vs l :=
  ⟨h.1.zone hY, h.2.1, fun k h1 h2 => (h.2.2 k h1 h2).zone hY⟩
theorem slIn.up {α : Type} {w w' : World} {Y S : Nat → Prop} {s : Sl} {sz : Nat} {enc : α → Array Value} {l : List α} (h : slIn w Y s sz enc l) (hu : Upd w w' S) (hs : ∀ k, Y k → k < w.heap.size → ¬ S k) : slIn w' Y s sz enc l := h.upd hu hs
theorem Tryz.info_Hash : (Tryz.prog.info? 38).map (fun i => (i.zero, i.size, i.bytes)) = some (some (.agg Hash.zero.arr), 32, 32) := by kernel_rfl
theorem Tryz.info_Hashes : (Tryz.prog.info? 184).map (fun i => (i.zero, i.size, i.bytes)) = some (some (.slice none 0 0), 1, 24) := by kernel_rfl
theorem ownsRow_ne {w : World} {base : Nat} {e : TypeId} {size : Nat} {v : Value} {n : Nat} {xs : List Value} (h : w.ownsRow base e size v n xs) {k : Nat} {o : Obj} (hb : w.heap[k]? = some o) (hne : ∀ cur, o ≠ .cells cur e (0, 0)) : v.ownBlock ≠ some k := by
  intro hk
  rcases h.2 with ⟨hv, _⟩ | ⟨g, cap, cur, hv, _, hh, _⟩
  · rw [hv] at hk; cases hk
  · rw [hv] at hk
    cases hk
    rw [hh] at hb
    exact hne cur (Option.some.inj hb).symm
/-- Beside an index a slice of its own grows. -/
theorem IdxAt.regrow {X w5 : World} {Z : Nat → Prop} {p : Nat} {r : IdxR} {M : Maps} {B : List (List Hash)} {u u' : Value} (h : IdxAt X (fun j => Z j ∧ u.ownBlock ≠ some j) p r M B) (hg : X.grownBy w5 u.ownBlock) (hn : ∀ j, u'.ownBlock = some j → u.ownBlock = some j ∨ X.heap.size ≤ j) :
    IdxAt w5 (fun j => Z j ∧ u'.ownBlock ≠ some j) p r M B := by
  have h1 : IdxAt X (fun j => (Z j ∧ u.ownBlock ≠ some j) ∧ u'.ownBlock ≠ some j) p r M B := h.zoned (fun j hj hz => ⟨hz, fun e => by
    rcases hn j e with e2 | e2
    · exact hz.2 e2
    · omega⟩)
  exact (h1.kept (Upd.grown hg) (fun j hj _ e => hj.1.2 e)).zoned (fun j _ hz => ⟨hz.1.1, hz.2⟩)
set_option maxRecDepth 100000 in
set_option maxHeartbeats 16000000 in
theorem con_in (Z Y : Nat → Prop) (p : Nat) (r : IdxR) (M : Maps) (B : List (List Hash)) (s : Sl) (vs : List TxV) (l : List Tx) (w : World) (h : IdxAt w Z p r M B) (hs : txsIn w Y s vs l) (hY : ∀ k, Y k → k < w.heap.size → ¬ r.foot p k) (hfr : Fr Z w) (hB : B.length ≤ 1000000) (hl : l.length ≤ 1000000) :
    Calls Tryz.prog 59 #[.pointer (some ⟨p, 0, none⟩), .slice s.a s.n s.c] w fun e w' => ∃ r' M' B', e = .returned (.int .i64 (if txsS l ≠ 0 then 1 else if mayAll (B.length + 1) M l then 0 else 10)) ∧
      (M' = if txsS l = 0 ∧ mayAll (B.length + 1) M l = true then addAll (B.length + 1) M l else M) ∧ (B' = if txsS l = 0 ∧ mayAll (B.length + 1) M l = true then B ++ [l.map idS] else B) ∧ IdxAt w' Z p r' M' B' ∧ Upd w w' (r.foot p) := by
  have hno := none_ix Z p r M B w h
  have htxs := txs_blk s vs l w hs.txsAt hl
  obtain ⟨sa, sn, sc⟩ := s
  have hn : sn = l.length := hs.1.1.trans hs.2.1
  subst hn
  have H := Lib.hid h
  have HS := Lib.hid (hs.zone (X := fun j => Y j ∧ j < w.heap.size) (fun j hj hy => ⟨hy, hj⟩))
  have hY : ∀ j, (Y j ∧ j < w.heap.size) → j < w.heap.size → ¬ r.foot p j := fun j hj hl => hY j hj.1 hl
  clear h hs
  obtain ⟨c, hc⟩ : ∃ c, c = txsS l := ⟨_, rfl⟩
  rw [← hc] at htxs
  by_cases hc0 : c = 0
  · subst hc0
    have hz := txsS_zero hc.symm
    have HC := Lib.hid (And.intro hc.symm hz)
    have hl100 : l.length ≤ 100 := hz.1
    clear hc hz
    obtain ⟨i0, hi0, hz0, hz1, hz2⟩ := info_parts Tryz.info_Hash
    obtain ⟨j0, hj0, jz0, jz1, jz2⟩ := info_parts Tryz.info_Hashes
    obtain ⟨hh, hhe⟩ : ∃ hh, hh = B.length + 1 := ⟨_, rfl⟩
    rw [← hhe]
    have HHE := Lib.hid hhe
    clear hhe
    go_enter Tryz.func59, Tryz.ntmps59
    go_wp2_with fail
    refine wp_scope_fwd 0 (by rfl) ?_
    go_wp2_with (first | (go_at_call 96; refine hno.mono ?_; rintro e w1 ⟨rfl, rfl⟩) | (go_at_call 97; refine htxs.mono ?_; rintro e w2 ⟨rfl, hb2⟩))
    have HB2 := Lib.hid hb2
    clear hno htxs hb2
    go_loopw [5, 20] (fun v5 v20 wr => ∃ (k nt ns : Nat) (T : Hash → TxV), k ≤ l.length ∧ v20 = .int .i64 k ∧ Hid (mayAll hh M (l.take k) = true) ∧ IdxAt wr (fun j => Z j ∧ v5.ownBlock ≠ some j) p { r with nt := nt, ns := ns, T := T } (addAll hh M (l.take k)) B ∧ wr.ownsRow w.heap.size 38 32 v5 k (vsOf Hash.arr ((l.take k).map idS)) ∧ Upd w wr (r.foot p)) (fun _ v20 _ => l.length - (intOf v20).toNat)
    case atStart => exact ⟨0, r.nt, r.ns, r.T, Nat.zero_le _, rfl, rfl, (H.out.keep HB2.out).zoned (fun j _ hj => ⟨hj, by simp [Value.ownBlock]⟩), World.ownsRow_nil _ _ _ _, Upd.of_below HB2.out _⟩
    case round =>
      obtain ⟨k, nt, ns, T, hk, rfl, hmay, hI, hown, hu⟩ := hrel
      by_cases hlt : k < l.length
      · have hlv : k < vs.length := by rw [HS.out.2.1]; exact hlt
        obtain ⟨sb, off, e0, hsz, hsb, hrow⟩ := HS.out.1.2.2.2 (by intro e; rw [e] at hlv; simp at hlv)
        simp only at e0
        subst e0
        obtain ⟨v, hv⟩ : ∃ v, v = vs[k] := ⟨_, rfl⟩
        obtain ⟨t, htt⟩ : ∃ t, t = l[k] := ⟨_, rfl⟩
        have htx := (HS.out.2.2 k hlv hlt).upd hu hY
        have hrk := (row?_of_block (a := ⟨sb, off + k * 3, none⟩) (hu.block sb hsb (hY sb hsz hsb)) 3).trans (hrow k hlv)
        rw [← hv] at htx hrk
        rw [← htt] at htx
        have hct : checkS t = 0 := by rw [htt]; exact HC.out.2.2.1 _ (List.getElem_mem hlt)
        obtain ⟨W1, hW1⟩ : ∃ W1, W1 = wr.alloc (.cells v.arr 72) := ⟨_, rfl⟩
        have hbW : Below wr.heap.size wr W1 := hW1 ▸ (Below.refl _ _).alloc (Nat.le_refl _) _
        obtain ⟨tb, htb⟩ : ∃ tb, tb = wr.heap.size := ⟨_, rfl⟩
        have hg1 : W1.heap[tb]? = some (.cells v.arr 72 (0, 0)) := by rw [hW1, htb]; exact heap_alloc_new wr _
        have hI1 := hI.keep hbW
        have htx1 := htx.upd (S := fun _ => False) (Upd.of_below hbW _) (fun _ _ _ h => h)
        obtain ⟨Mk, hMk⟩ : ∃ Mk, Mk = addAll hh M (l.take k) := ⟨_, rfl⟩
        rw [← hMk] at hI1
        have hmy := may_ix _ p _ Mk B v t W1 hI1 htx1.isTx hct
        obtain ⟨bm, hbm⟩ : ∃ bm, bm = mayS Mk t := ⟨_, rfl⟩
        rw [← hbm] at hmy
        have hu1 := hu.trans (Upd.of_below hbW (r.foot p)) (fun _ _ h => h)
        have hown1 := ownsRow_below hown hbW
        have hwt : w.heap.size ≤ tb := by rw [htb]; exact hu.size
        have HI1 := Lib.hid hI1
        have HTX := Lib.hid htx1
        have HG1 := Lib.hid hg1
        have HU1 := Lib.hid hu1
        have HOWN := Lib.hid hown1
        have HMK := Lib.hid (And.intro hMk (And.intro htt hbm))
        have k0 : (0 : Int) ≤ (k : Int) := by omega
        have k1 : (k : Int) < (l.length : Int) := by omega
        have dlt : decide ((k : Int) < (l.length : Int)) = true := decide_eq_true k1
        have c2 : row? W1 ⟨tb, 0, none⟩ 3 = some v.arr := row_of_block hg1 (by simp)
        clear hI hI1 htx htx1 hg1 hu hu1 hown hown1 hMk htt hbm hrow hv
        go_upto_region 7 with fail
        rw [← hW1, ← htb]
        clear hW1 htb
        cases bm with
        | false =>
          go_wp2_with (go_at_call 98; refine hmy.mono ?_; rintro e w2 ⟨rfl, hb2⟩)
          obtain ⟨ia, ic, rfl, hnc, -⟩ := ownsRow_slice HOWN.out
          have hids : slIn w2 (fun k => w.heap.size ≤ k) ⟨ia, k, ic⟩ 32 Hash.arr ((l.take k).map idS) := by
            have hlk : ((l.take k).map idS).length = k := by simp; omega
            have := ownsRow_below HOWN.out hb2
            exact slIn_own (by decide) (fun x => by simp) (by rw [hlk]; exact this) hlk.symm
          have hund := undo_ix _ _ p _ Mk B ⟨ia, k, ic⟩ _ w2 (HI1.out.keep hb2) hids (fun j hj _ hf => by have := H.out.lt hf; omega) (by simp; omega)
          rw [HMK.out.1, undo_add hh _ M hmay.out] at hund
          have hfin : Hid (mayAll hh M l = false) := mayAll_stop hlt HMK.out.2.1 (by rw [← HMK.out.1]; exact HMK.out.2.2.symm)
          have HU2 := Lib.hid (HU1.out.trans (Upd.of_below hb2 (r.foot p)) (fun _ _ h => h))
          clear hids hmy hb2 hnc
          go_step3
          refine ⟨rfl, ?_⟩
          show Code.wp _ _ _ _ _
          go_wp2_with (go_at_call 101; refine hund.mono ?_; rintro e w3 ⟨rfl, ⟨a, b, hI3⟩, hu3⟩)
          rw [Exit.noGoto_ret]
          go_ret
          have hne : ¬ (mayAll hh M l = true) := by rw [hfin.out]; simp
          exact ⟨_, M, B, by rw [if_neg (show ¬ (txsS l ≠ 0) from fun h => h HC.out.1), if_neg hne]; rfl, by rw [if_neg (fun h => hne h.2)], by rw [if_neg (fun h => hne h.2)], hI3.zoned (fun j _ hj => hj.1), HU2.out.trans (hu3.mono (fun k _ h => h.elim (fun e => .inr (.inl e)) (fun e => .inr (.inr (.inl e))))) (fun _ _ h => h)⟩
        | true =>
          obtain ⟨z, hz⟩ : ∃ z, z = idS t := ⟨_, rfl⟩
          go_wp2_with (go_at_call 98; refine hmy.mono ?_; rintro e w2 ⟨rfl, hb2⟩; have hg2 : w2.heap[tb]? = some (.cells v.arr 72 (0, 0)) := (hb2.block _ (cells_known HG1.out).2.2).trans HG1.out; have c3 : row? w2 ⟨tb, 0, none⟩ 3 = some v.arr := row_of_block hg2 (by simp); have htx2 := HTX.out.upd (S := fun _ => False) (Upd.of_below hb2 _) (fun _ _ _ h => h); have hid := id_tx v t w2 htx2.isTx; rw [← hz] at hid)
          have HZ := Lib.hid hz
          clear hmy c2 hz
          refine hid.mono ?_
          rintro e w3 ⟨rfl, hb3⟩
          have hb23 := hb2.trans (hb3.mono hb2.size)
          have hI3 := HI1.out.keep hb23
          have hown3 := ownsRow_below HOWN.out hb23
          have HI3 := Lib.hid hI3
          have HG2 := Lib.hid hg2
          have HTX2 := Lib.hid htx2
          have HB3 := Lib.hid (And.intro hb2 hb3)
          clear hid c3 hg2 htx2 hI3 hb2 hb3 hb23
          obtain ⟨X, hX⟩ : ∃ X, X = (w3.alloc (.cells z.arr 38)).alloc (.cells z.arr 38) := ⟨_, rfl⟩
          have hbX : Below w3.heap.size w3 X := hX ▸ ((Below.refl _ _).alloc (Nat.le_refl _) _).alloc (by simp) _
          have hXs : X.heap.size = w3.heap.size + 2 := by rw [hX]; simp
          have hgi : X.heap[w3.heap.size]? = some (.cells z.arr 38 (0, 0)) := by rw [hX]; exact (heap_alloc_old _ _ (by simp)).trans (heap_alloc_new w3 _)
          have hgi2 : X.heap[w3.heap.size + 1]? = some (.cells z.arr 38 (0, 0)) := by rw [hX, show w3.heap.size + 1 = (w3.alloc (.cells z.arr 38)).heap.size by simp]; exact heap_alloc_new _ _
          have hownX := ownsRow_below hown3 hbX
          have hnw := World.news_of_block hgi2
          have HX := Lib.hid (And.intro hbX (And.intro hXs hgi))
          have HOX := Lib.hid hownX
          have HWX := Lib.hid hX
          have hb1 : w.heap.size ≤ X.heap.size := Nat.le_trans (Nat.le_trans HU1.out.size (Nat.le_trans HB3.out.1.size HB3.out.2.size)) hbX.size
          clear hown3 hbX hXs hgi hgi2 hownX
          have hki : k < l.length := hlt
          go_upto_region 10 with fail
          go_wp2_with (rw [← HWX.out]; at_builtin; refine wpList_append_lies _ rfl (.tmp 30) (.tmp 32) 184 rfl w.heap.size 38 i0 (.agg Hash.zero.arr) 32 32 Tryz.underlying184 hi0 hz0 hz1 hz2 (by simp [Value.cells]) (by decide) u5 k (vsOf Hash.arr ((l.take k).map idS)) rfl HOX.out ⟨w3.heap.size + 1, 0, none⟩ 1 1 z.arr.toList rfl (by simp) hnw (one_Hash _) (by decide) (by unfold maxLen; omega) (by omega) hb1 _ rfl ?_; intro g cap w5 hown5 hgrow5 hg5 hlt5)
          have hnb : ∀ j, (Value.slice (some ⟨g, 0, none⟩) (k + 1) cap).ownBlock = some j → u5.ownBlock = some j ∨ X.heap.size ≤ j := fun j e => by
            cases e
            rcases hg5 with e | e
            · exact .inl e
            · exact .inr (by rw [e]; exact Nat.le_refl _)
          have hI5 := IdxAt.regrow (u' := .slice (some ⟨g, 0, none⟩) (k + 1) cap) (HI3.out.keep HX.out.1) hgrow5 hnb
          have hgr := Upd.grown hgrow5
          have htbl : tb < W1.heap.size := (cells_known HG1.out).2.2
          have h13 : W1.heap.size ≤ w3.heap.size := Nat.le_trans HB3.out.1.size HB3.out.2.size
          have hX2 : X.heap.size = w3.heap.size + 2 := HX.out.2.1
          have htb5 : w5.heap[tb]? = some (.cells v.arr 72 (0, 0)) := (hgr.block tb (by omega) (ownsRow_ne HOWN.out HG1.out (fun cur e => by injection e with _ e2; exact absurd e2 (by decide)))).trans ((HX.out.1.block tb (by omega)).trans ((HB3.out.2.block tb (by have := HB3.out.1.size; omega)).trans HG2.out))
          have hid5 : w5.heap[w3.heap.size]? = some (.cells z.arr 38 (0, 0)) := (hgr.block _ (by omega) (fun e => by have := (HOWN.out.lt _ e).2; omega)).trans HX.out.2.2
          have hW5 : Upd W1 w5 (fun j => u5.ownBlock = some j) := (Upd.of_below (HB3.out.1.trans (HB3.out.2.mono HB3.out.1.size)) (fun j => u5.ownBlock = some j)).trans ((Upd.of_below HX.out.1 (fun j => u5.ownBlock = some j)).trans hgr (fun _ _ h => h)) (fun _ _ h => h)
          have htx5 : txIn w5 (fun j => Y j ∧ j < w.heap.size) v t := HTX.out.upd hW5 (fun j hj _ e => by have := (HOWN.out.lt _ e).1; omega)
          have hu5 : Upd w w5 (r.foot p) := HU1.out.trans hW5 (fun j hj e => by have := (HOWN.out.lt _ e).1; omega)
          have hids : vsOf Hash.arr ((l.take (k + 1)).map idS) = vsOf Hash.arr ((l.take k).map idS) ++ z.arr.toList := by rw [List.take_succ_eq_append_getElem hlt, List.map_append, List.map_cons, List.map_nil, vsOf_snoc, ← HMK.out.2.1, ← HZ.out]
          rw [← hids] at hown5
          obtain ⟨u6, hu6⟩ : ∃ u6, u6 = Value.slice (some ⟨g, 0, none⟩) (k + 1) cap := ⟨_, rfl⟩
          have hrw : Value.slice (some ⟨g, 0, none⟩) (k + 1) cap = u6 := hu6.symm
          rw [hrw] at hI5 hown5
          have HU6 := Lib.hid hu6
          have HIDB0 := Lib.hid hrw
          clear hrw hu6
          obtain ⟨idb, hidb⟩ : ∃ idb, idb = w3.heap.size := ⟨_, rfl⟩
          rw [← hidb] at hid5 ⊢
          have HIDB := Lib.hid hidb
          clear hidb
          have hd0 : w5.drew.cell? ⟨p, 0, none⟩ = some (.slice r.bv.a B.length r.bv.c) := by have := hI5.cell0; have hb := hI5.bn; simp only at this hb; rw [hb] at this; exact this
          have hd1 : w5.drew.cell? ⟨p, 1, none⟩ = some (.map (some r.mt)) := hI5.cell1
          have hd2 : row? w5.drew ⟨idb, 0, none⟩ 32 = some z.arr := row_of_block (w := w5.drew) hid5 (by simp)
          have hd3 : row? w5.drew ⟨tb, 0, none⟩ 3 = some v.arr := row_of_block (w := w5.drew) htb5 (by simp)
          have hck := checkS_ok hct
          have hown := own_tx v t w5.drew htx5.isTx (by omega) (by omega)
          have hwrp : IntKind.i64.wrap ((B.length : Int) + 1) = (B.length : Int) + 1 := by rw [IntKind.wrap_i64]; omega
          have hfrw : Fr Z w5 := hfr.grow hu5.size
          have ho6 : ∀ j, u6.ownBlock = some j → j < w5.heap.size := fun j e => (hown5.lt j e).2
          have hfl : ∀ j, r.foot p j → j < w.heap.size := fun j hj => H.out.lt hj
          have h5 : w.heap.size ≤ w5.heap.size := hu5.size
          have HIN := Lib.hid (And.intro hI5 (And.intro hown5 (And.intro hu5 (And.intro htb5 (And.intro hid5 htx5)))))
          clear hI5 hown5 hu5 htb5 hid5 htx5 hgr hW5 hnw hgrow5 hg5 hnb hids hck hlt5 htbl h13 hX2
          go_cut [] (fun wx => ∃ (nt' : Nat) (T' : Hash → TxV), IdxAt wx (fun j => Z j ∧ u6.ownBlock ≠ some j) p { r with nt := nt', ns := ns, T := T' } ⟨updF Mk.txs z (some (t, hh)), Mk.sp⟩ B ∧ wx.ownsRow w.heap.size 38 32 u6 (k + 1) (vsOf Hash.arr ((l.take (k + 1)).map idS)) ∧ Upd w wx (r.foot p) ∧ wx.heap[tb]? = some (.cells v.arr 72 (0, 0)) ∧ wx.heap[idb]? = some (.cells z.arr 38 (0, 0)) ∧ txIn wx (fun j => Y j ∧ j < w.heap.size) v t)
          case first =>
            have hS0 : w5.drew.cell? ⟨p, 0, none⟩ = some (.slice r.bv.a B.length r.bv.c) ∧ w5.drew.cell? ⟨p, 1, none⟩ = some (.map (some r.mt)) ∧ w5.drew.rangeAt idb 0 z.arr.toList ∧ row? w5.drew ⟨tb, 0, none⟩ 3 = some v.arr := ⟨hd0, hd1, rangeAt_row hd2, hd3⟩
            have hSu : ∀ Q : World, (∃ nt' T' M', IdxAt Q (fun j => Z j ∧ u6.ownBlock ≠ some j) p { r with nt := nt', ns := ns, T := T' } M' B) → Q.heap[tb]? = some (.cells v.arr 72 (0, 0)) → Q.heap[idb]? = some (.cells z.arr 38 (0, 0)) → Q.cell? ⟨p, 0, none⟩ = some (.slice r.bv.a B.length r.bv.c) ∧ Q.cell? ⟨p, 1, none⟩ = some (.map (some r.mt)) ∧ Q.rangeAt idb 0 z.arr.toList ∧ row? Q ⟨tb, 0, none⟩ 3 = some v.arr := by
              rintro Q ⟨nt', T', M', hQ⟩ h1 h2
              have h3 := hQ.cell0
              have hb := hQ.bn
              simp only at h3 hb
              rw [hb] at h3
              exact ⟨h3, hQ.cell1, rangeAt_row (n := 32) (row_of_block h2 (by simp)), row_of_block h1 (by simp)⟩
            have hU : Tryz.prog.underlying 38 = some (.array 32 5) := Tryz.underlying38
            have hI : (Tryz.prog.info? 38).map (·.size) = some z.arr.toList.length := by simp [size_Hash]
            have HSU := Lib.hid hSu
            clear hd0 hd1 hd2 hd3 hSu
            have htbl := (cells_known HIN.out.2.2.2.1).2.2
            have hidl := (cells_known HIN.out.2.2.2.2.1).2.2
            have hmt : tb ≠ r.mt ∧ idb ≠ r.mt := by
              obtain ⟨es, cl, hb, _⟩ := HIN.out.1.txs
              constructor
              · intro e
                have := HIN.out.2.2.2.1
                rw [e] at this
                rw [show w5.heap[r.mt]? = _ from hb] at this
                cases this
              · intro e
                have := HIN.out.2.2.2.2.1
                rw [e] at this
                rw [show w5.heap[r.mt]? = _ from hb] at this
                cases this
            have hrest : ∀ j, w5.heap.size ≤ j → ({ r with nt := nt, ns := ns, T := T } : IdxR).rest p (fun j => Z j ∧ u6.ownBlock ≠ some j) j := fun j hj => ⟨⟨hfrw j hj, fun e => by have := ho6 j e; omega⟩, fun hf => by have := hfl j hf; omega⟩
            have hcast : ((B.length : Int) + 1) = ((hh : Nat) : Int) := by rw [HHE.out]; simp
            have HCA := Lib.hid hcast
            have HRE := Lib.hid hrest
            clear hcast hrest hfrw ho6 hfl
            go_region_held3 (fun Q : World => Q.cell? ⟨p, 0, none⟩ = some (.slice r.bv.a B.length r.bv.c) ∧ Q.cell? ⟨p, 1, none⟩ = some (.map (some r.mt)) ∧ Q.rangeAt idb 0 z.arr.toList ∧ row? Q ⟨tb, 0, none⟩ 3 = some v.arr) (first | exact hS0 | exact hS1 | exact hS2) (first | (go_at_call 100; refine hown.mono ?_; rintro e wA ⟨u, rfl, htu, hbA⟩; have hbA5 := (Below.refl w5.heap.size w5).drew.trans hbA; have hIA := HIN.out.1.keep hbA5; have htA := (hbA5.block _ htbl).trans HIN.out.2.2.2.1; have hdA := (hbA5.block _ hidl).trans HIN.out.2.2.2.2.1; have hS1 := HSU.out wA ⟨_, _, _, hIA⟩ htA hdA; obtain ⟨w6, n6, hrun6, hI6, hu6⟩ := hIA.storeTx z t hh u hct (htu.zone (fun j _ hj => HRE.out j hj)) _ HCA.out; have htB := (hu6.block _ (Nat.lt_of_lt_of_le htbl hbA5.size) hmt.1).trans htA; have hdB := (hu6.block _ (Nat.lt_of_lt_of_le hidl hbA5.size) hmt.2).trans hdA; have hS2 := HSU.out w6 ⟨_, _, _, hI6⟩ htB hdB; have HI6 := Lib.hid (And.intro hI6 (And.intro htB (And.intro hdB (And.intro hbA5 hu6)))); clear hIA hI6 htB hdB htA hdA hbA5 hu6))
            all_goals
              go_wp2_with fail
              go_meet
              have hI6 := HI6.out
              have hu56 : Upd w5 w6 (fun j => j = r.mt) := (Upd.of_below hI6.2.2.2.1 (fun j => j = r.mt)).trans hI6.2.2.2.2 (fun _ _ h => h)
              have hno : u6.ownBlock ≠ some r.mt := by
                obtain ⟨es, cl, hb, _⟩ := HIN.out.1.txs
                exact ownsRow_ne HIN.out.2.1 hb (fun cur e => by cases e)
              exact ⟨n6, _, hI6.1, ownsRow_upd HIN.out.2.1 hu56 (fun j hj e => hno (by have e2 : j = r.mt := e; rw [← e2]; exact hj)), HIN.out.2.2.1.trans hu56 (fun j _ e => .inr (.inl e)), hI6.2.1, hI6.2.2.1, HIN.out.2.2.2.2.2.upd hu56 (fun j hj _ e => hY j hj hj.2 (.inr (.inl e)))⟩
          case rest =>
            obtain ⟨nt', T', hIc, hownc, huc, htbc, hidc, htxc⟩ := hcut
            have hil100 : t.ins.length ≤ 100 := (checkS_ok hct).1
            have c0 : wc.cell? ⟨tb, 0, none⟩ = some (.slice v.ins.a t.ins.length v.ins.c) := by
              rw [(cells_known htbc).1, ← htxc.1.1]; exact TxV.arr_0 v
            have HC1 := Lib.hid (And.intro hIc (And.intro hownc (And.intro huc (And.intro hidc htxc))))
            clear hIc hownc huc htbc hidc htxc hd0 hd1 hd2 hd3 hown hb1 ho6
            go_wp2_with fail
            go_loopw [51] (fun v51 wi => ∃ j ns' : Nat, j ≤ t.ins.length ∧ v51 = .int .i64 j ∧ IdxAt wi (fun j => Z j ∧ u6.ownBlock ≠ some j) p { r with nt := nt', ns := ns', T := T' } ⟨updF Mk.txs z (some (t, hh)), putIns Mk.sp (t.ins.take j) z⟩ B ∧ wi.ownsRow w.heap.size 38 32 u6 (k + 1) (vsOf Hash.arr ((l.take (k + 1)).map idS)) ∧ Upd w wi (r.foot p) ∧ wi.heap[idb]? = some (.cells z.arr 38 (0, 0)) ∧ txIn wi (fun j => Y j ∧ j < w.heap.size) v t) (fun v51 _ => t.ins.length - (intOf v51).toNat)
            case atStart => exact ⟨0, ns, Nat.zero_le _, rfl, HC1.out.1, HC1.out.2.1, HC1.out.2.2.1, HC1.out.2.2.2.1, HC1.out.2.2.2.2⟩
            case round =>
              obtain ⟨j, ns', hj, rfl, hIc, hownc, huc, hidc, htxc⟩ := hrel
              by_cases hjl : j < t.ins.length
              · obtain ⟨bl, offl, e1, hzl, hbl, hrl⟩ := htxc.1.2.2.2 (by intro e; rw [e] at hjl; simp at hjl)
                obtain ⟨x, hx⟩ : ∃ x, x = t.ins[j] := ⟨_, rfl⟩
                have hrj := hrl j hjl
                rw [← hx] at hrj
                have hq : i64 x.prev.n := by rw [hx]; exact prev_i64 hct hjl
                have hbx : Below wr.heap.size wr (wr.alloc (.cells x.arr 68)).drew := ((Below.refl _ _).alloc (Nat.le_refl _) _).drew
                have hIx := hIc.keep hbx
                obtain ⟨w8, n8, hrun8, hI8, hu8⟩ := hIx.storeSp x.prev hq z
                have d1 : (wr.alloc (.cells x.arr 68)).drew.cell? ⟨p, 2, none⟩ = some (.map (some r.ms)) := hIx.cell2
                have d2 : row? (wr.alloc (.cells x.arr 68)).drew ⟨wr.heap.size, 0, none⟩ 33 = some x.prev.arr := by rw [row_part (w := (wr.alloc (.cells x.arr 68)).drew) (heap_alloc_new wr _) 0 33 (by simp)]; simp
                have d3 : row? (wr.alloc (.cells x.arr 68)).drew ⟨idb, 0, none⟩ 32 = some z.arr := row_of_block ((hbx.block _ (cells_known hidc).2.2).trans hidc) (by simp)
                have huu : Upd wr w8 (fun k => k = r.ms) := (Upd.of_below hbx (fun k => k = r.ms)).trans hu8 (fun _ _ h => h)
                have htake : putIns Mk.sp (t.ins.take (j + 1)) z = updF (putIns Mk.sp (t.ins.take j) z) x.prev (some z) := by rw [List.take_succ_eq_append_getElem hjl, putIns_snoc, ← hx]
                have hno : u6.ownBlock ≠ some r.ms ∧ idb ≠ r.ms := by
                  obtain ⟨es, cl, hb, _⟩ := hIc.sp
                  refine ⟨ownsRow_ne hownc hb (fun cur e => by cases e), fun e => ?_⟩
                  rw [e] at hidc
                  rw [show wr.heap[r.ms]? = _ from hb] at hidc
                  cases hidc
                have HN := Lib.hid (And.intro hI8 (And.intro (ownsRow_upd hownc huu (fun i hi e => hno.1 (by have e2 : i = r.ms := e; rw [← e2]; exact hi))) (And.intro (huc.trans huu (fun i _ e => .inr (.inr (.inl e)))) (And.intro ((huu.block idb (cells_known hidc).2.2 hno.2).trans hidc) (htxc.upd huu (fun i hi _ e => hY i hi hi.2 (.inr (.inr (.inl e)))))))))
                have HT := Lib.hid htake
                have k0 : (0 : Int) ≤ (j : Int) := by omega
                have k1 : (j : Int) < (t.ins.length : Int) := by omega
                have djl : decide ((j : Int) < (t.ins.length : Int)) = true := decide_eq_true k1
                have HE1 := Lib.hid e1
                rw [e1]
                clear hIc hownc huc hidc htxc hIx hI8 hu8 huu htake hrl hx hbx e1
                go_wp2_with fail
                go_region_law (fail)
                all_goals
                  go_wp2_with fail
                  exact ⟨⟨j + 1, n8, by omega, by go_num, by rw [HT.out]; exact HN.out.1, HN.out.2.1, HN.out.2.2.1, HN.out.2.2.2.1, HN.out.2.2.2.2⟩, by simp [intOf]; omega⟩
              · have djl : decide ((j : Int) < (t.ins.length : Int)) = false := decide_eq_false (by omega)
                have hje : t.ins.take j = t.ins := by rw [show j = t.ins.length by omega, List.take_length]
                rw [hje] at hIc
                have hstep : addAll hh M (l.take (k + 1)) = ⟨updF Mk.txs z (some (t, hh)), putIns Mk.sp t.ins z⟩ := by
                  rw [List.take_succ_eq_append_getElem hlt, addAll_snoc, ← HMK.out.1, ← HMK.out.2.1, HZ.out]
                  rfl
                rw [← hstep] at hIc
                have hmay2 : Hid (mayAll hh M (l.take (k + 1)) = true) := mayAll_step hlt HMK.out.2.1 hmay.out (by rw [← HMK.out.1]; exact HMK.out.2.2.symm)
                have HF := Lib.hid (And.intro hIc (And.intro hownc huc))
                clear hIc hownc huc hidc htxc hje hstep
                go_wp2_with fail
                exact ⟨⟨k + 1, nt', ns', T', by omega, by go_num, hmay2, by rw [HIDB0.out]; exact HF.out.1, by rw [HIDB0.out]; exact HF.out.2.1, HF.out.2.2⟩, by simp [intOf]; omega⟩
      · have dlt : decide ((k : Int) < (l.length : Int)) = false := decide_eq_false (by omega)
        have hke : l.take k = l := by rw [show k = l.length by omega, List.take_length]
        have hkl : k = l.length := by omega
        rw [hke] at hI hown
        have hmay2 : Hid (mayAll hh M l = true) := by have := hmay.out; rw [hke] at this; exact this
        obtain ⟨ia, ic, rfl, hnc, -⟩ := ownsRow_slice hown
        have hlk : (l.map idS).length = k := by simp; omega
        have hids : slIn wr (({ r with nt := nt, ns := ns, T := T } : IdxR).rest p Z) ⟨ia, k, ic⟩ 32 Hash.arr (l.map idS) :=
          (slIn_own (by decide) (fun x => by simp) (by rw [hlk]; exact hown) hlk.symm).zone (fun j _ hj => ⟨hfr j hj, fun hf => by have := H.out.lt hf; omega⟩)
        obtain ⟨X, hX⟩ : ∃ X, X = wr.alloc (.cells #[.slice ia k ic] 184) := ⟨_, rfl⟩
        have hbX : Below wr.heap.size wr X := hX ▸ (Below.refl _ _).alloc (Nat.le_refl _) _
        have hIX := (hI.zoned (Y := Z) (fun j _ hj => hj.1)).keep hbX
        have hidsX := hids.upd (S := fun _ => False) (Upd.of_below hbX _) (fun _ _ _ h => h)
        have hgX : X.heap[wr.heap.size]? = some (.cells #[.slice ia k ic] 184 (0, 0)) := hX ▸ heap_alloc_new wr _
        have hnw : ∀ j u, [Value.slice ia k ic][j]? = some u → X.cell? ((⟨wr.heap.size, 0, none⟩ : Addr).add j) = some u := fun j u hu => World.news_of_block hgX j u (by simpa using hu)
        have hbn := hIX.bn
        have hcb : wr.cell? ⟨p, 0, none⟩ = some (.slice r.bv.a B.length r.bv.c) := by have h1 := hI.cell0; have hb := hI.bn; simp only at h1 hb; rw [hb] at h1; exact h1
        have hbv : r.bv.v = .slice r.bv.a B.length r.bv.c := by have hb := hI.bn; simp only at hb; rw [← hb]; rfl
        have hownX := hIX.own
        simp only at hownX
        rw [hbv] at hownX
        have hap := hIX.apart_own
        simp only at hap
        rw [hbv] at hap
        have HIX := Lib.hid hIX
        have HOX := Lib.hid hownX
        have HIDX := Lib.hid hidsX
        have HUX := Lib.hid (hu.trans (Upd.of_below hbX (r.foot p)) (fun _ _ h => h))
        have HWX := Lib.hid hX
        have HAP := Lib.hid hap.1
        have HBV := Lib.hid hbv
        have HKL := Lib.hid hkl
        have hkm : k ≤ 1000000 := by omega
        clear hI hown hids hbX hIX hidsX hgX hX hbn hownX hap hbv hke hu hkl hlk
        go_upto_region 18 with fail
        go_wp2_with (rw [← HWX.out]; at_builtin; refine wpList_append_lies _ rfl (.tmp 68) (.tmp 70) 126 rfl 0 184 j0 (.slice none 0 0) 1 24 Tryz.underlying126 hj0 jz0 jz1 jz2 (by simp [Value.cells]) (by decide) (.slice r.bv.a B.length r.bv.c) B.length (r.ivs.map Sl.v) rfl HOX.out ⟨wr.heap.size, 0, none⟩ 1 1 [.slice ia k ic] rfl (by simp) hnw (by simp [Value.oneCell']) (by decide) (by unfold maxLen; omega) (by omega) (Nat.zero_le _) _ rfl ?_; intro g cap w9 hown9 hgrow9 hg9 hlt9; have hp9 : w9.heap[p]? = some (.cells (IndexV.mk r.bv (some r.mt) (some r.ms)).arr 130 (0, 0)) := (hgrow9.block p (HIX.out.lt (.inl rfl)) (fun e => HAP.out e.symm)).trans HIX.out.hd; have hc9 := (cells_known hp9).1 0; have hf9 := (cells_known hp9).2.1 0; simp only [IndexV.arr_0] at hc9)
        rw [jump_ret]
        go_ret
        have hm : txsS l = 0 ∧ mayAll hh M l = true := ⟨HC.out.1, hmay2.out⟩
        obtain ⟨q1, q2⟩ := HIX.out.pushBlock (w1 := w9) (hfr.grow HUX.out.size) ⟨ia, k, ic⟩ (l.map idS) HIDX.out ⟨some ⟨g, 0, none⟩, B.length + 1, cap⟩ hown9 (by rw [show ({ r with nt := nt, ns := ns, T := T } : IdxR).bv.v = _ from HBV.out]; exact hgrow9) (fun j e => by
          cases e
          rw [show ({ r with nt := nt, ns := ns, T := T } : IdxR).bv.v = _ from HBV.out]
          rcases hg9 with e | e
          · exact .inl e
          · exact .inr (by rw [e]; exact Nat.le_refl _)) rfl
        exact ⟨_, _, _, by rw [if_neg (show ¬ (txsS l ≠ 0) from fun h => h HC.out.1), if_pos hm.2]; rfl, by rw [if_pos hm], by rw [if_pos hm], q1, HUX.out.trans q2 (fun _ _ h => h)⟩
  · have d0 : (c != 0) = true := by simpa using hc0
    have HC := Lib.hid (And.intro hc hc0)
    clear hc hc0
    go_enter Tryz.func59, Tryz.ntmps59
    go_wp2_with fail
    refine wp_scope_fwd 0 (by rfl) ?_
    go_wp2_with (first | (go_at_call 96; refine hno.mono ?_; rintro e w1 ⟨rfl, rfl⟩) | (go_at_call 97; refine htxs.mono ?_; rintro e w2 ⟨rfl, hb2⟩))
    rw [jump_ret]
    go_ret
    have hne : ¬ (txsS l = 0) := by rw [← HC.out.1]; exact HC.out.2
    exact ⟨r, M, B, by rw [if_pos hne]; rfl, by rw [if_neg (fun h => hne h.1)], by rw [if_neg (fun h => hne h.1)], H.out.keep hb2, Upd.of_below hb2 _⟩
/-- A block taken in, or refused: what is new belongs to the index. -/
theorem con_ix (Z Y : Nat → Prop) (p : Nat) (r : IdxR) (L : List (List Tx)) (s : Sl) (vs : List TxV) (l : List Tx) (w : World) (h : IdxAt w Z p r (mapsOf L) (L.map (fun b => b.map idS))) (hs : txsIn w Y s vs l) (hY : ∀ k, Y k → k < w.heap.size → ¬ r.foot p k) (hL : L.length ≤ 1000000) (hl : l.length ≤ 1000000) :
    Calls Tryz.prog 59 #[.pointer (some ⟨p, 0, none⟩), .slice s.a s.n s.c] w fun e w' => ∃ r', e = .returned (.int .i64 (conE L l)) ∧ IdxAt w' (fun k => Z k ∨ w.heap.size ≤ k) p r' (mapsOf (conL L l)) ((conL L l).map (fun b => b.map idS)) ∧ Upd w w' (r.foot p) := by
  refine (con_in (fun k => Z k ∨ w.heap.size ≤ k) Y p r _ _ s vs l w (h.zoned (fun k _ hk => .inl hk)) hs hY (fun k hk => .inr hk) (by simpa using hL) hl).mono ?_
  rintro e w' ⟨r', M', B', rfl, hM, hB, hI, hu⟩
  have hlen : (L.map (fun b => b.map idS)).length = L.length := by simp
  rw [hlen] at hM hB
  refine ⟨r', ?_, ?_, hu⟩
  · rw [hlen]; rfl
  · unfold conL
    by_cases hc : conE L l = 0
    · have hc2 : txsS l = 0 ∧ mayAll (L.length + 1) (mapsOf L) l = true := conE_zero.1 hc
      rw [if_pos hc, mapsOf_snoc, List.map_append]
      rw [if_pos hc2] at hM hB
      subst hM hB
      exact hI
    · have hc2 : ¬ (txsS l = 0 ∧ mayAll (L.length + 1) (mapsOf L) l = true) := fun h => hc (conE_zero.2 h)
      rw [if_neg hc]
      rw [if_neg hc2] at hM hB
      subst hM hB
      exact hI
end Go.Proofs.YtlkojkjeklblkaaGreat
namespace Go.Proofs.YtlkojkjeklblkaaGreat
open Go.RowKit
attribute [local go_sem] Hash.ext_whole In.ext_tx Hash.size_arr
theorem own_n (a : Option Addr) (n n' c : Nat) : (Sl.v ⟨a, n, c⟩).ownBlock = (Sl.v ⟨a, n', c⟩).ownBlock := by cases a <;> rfl
section
variable {w : World} {Z : Nat → Prop} {p : Nat} {r : IdxR} {M : Maps} {B : List (List Hash)}
/-- The last block, gone. -/
theorem IdxAt.popBlock (h : IdxAt w Z p r M B) (hne : B ≠ []) :
    IdxAt (w.setCell ⟨p, 0, none⟩ (.slice r.bv.a (B.length - 1) r.bv.c)) Z p { r with bv := ⟨r.bv.a, B.length - 1, r.bv.c⟩, ivs := r.ivs.dropLast } M B.dropLast ∧ Upd w (w.setCell ⟨p, 0, none⟩ (.slice r.bv.a (B.length - 1) r.bv.c)) (r.foot p) := by
  have hB : 0 < B.length := List.length_pos_iff.2 hne
  have hu2 := Upd.setCell w ⟨p, 0, none⟩ (.slice r.bv.a (B.length - 1) r.bv.c)
  have hap := h.apart_mt
  obtain ⟨a1, a2, a3⟩ := h.apart_own
  have hps : p ≠ r.ms := fun e => by
    obtain ⟨es, clock, hb, _⟩ := h.sp
    rw [← e, h.hd] at hb
    cases hb
  have hil := h.il
  have hrest : ∀ k, r.rest p Z k → ({ r with bv := ⟨r.bv.a, B.length - 1, r.bv.c⟩, ivs := r.ivs.dropLast } : IdxR).rest p Z k := by
    intro k hz
    refine ⟨hz.1, ?_⟩
    rintro (e | e | e | e)
    · exact hz.2 (.inl e)
    · exact hz.2 (.inr (.inl e))
    · exact hz.2 (.inr (.inr (.inl e)))
    · refine hz.2 (.inr (.inr (.inr ?_)))
      rw [← e]
      exact own_n _ _ _ _
  have hne2 : ∀ k, r.rest p Z k → k ≠ p := fun k hk e => hk.2 (.inl e)
  refine ⟨⟨?_, h.txs.of_block (hu2.block _ h.txs.lt (fun e => hap.1 e.symm)), h.sp.of_block (hu2.block _ h.sp.lt (fun e => hps e.symm)), ?_, ?_, by simp [hil], ?_, fun z x hx => ⟨(((h.ent z x hx).1).upd hu2 (fun j hj _ => hne2 j hj)).zone (fun j _ hj => hrest j hj), (h.ent z x hx).2⟩, ?_, h.two⟩, hu2.mono (fun k _ e => .inl e)⟩
  · rw [heap_set h.hd 0 (.slice r.bv.a (B.length - 1) r.bv.c)]
    exact congrArg (fun x => some (Obj.cells x 130 (0, 0))) (IndexV.set_0 _ _ _ _)
  · have hl : B.dropLast.length = B.length - 1 := by simp
    rw [hl]
    have hown : w.ownsRow 0 184 1 (Sl.v ⟨r.bv.a, B.length - 1, r.bv.c⟩) (B.length - 1) (r.ivs.dropLast.map Sl.v) := by
      refine ⟨by simp [hil], ?_⟩
      rcases h.own.2 with ⟨hv, h0⟩ | ⟨g, cap, cur, hv, hg, hh, hnc, hm, hsz, ht⟩
      · omega
      · have hv2 := hv
        unfold Sl.v at hv2
        injection hv2 with q1 q2 q3
        refine .inr ⟨g, cap, cur, ?_, hg, hh, by omega, hm, hsz, ?_⟩
        · show Value.slice r.bv.a _ r.bv.c = _
          rw [q1, q3]
        · rw [Nat.mul_one] at ht ⊢
          have e : cur.toList.take (B.length - 1) = (cur.toList.take B.length).take (B.length - 1) := by rw [List.take_take, Nat.min_eq_left (by omega)]
          rw [e, ht, List.dropLast_eq_take, hil, List.map_take]
    refine ownsRow_upd hown hu2 (fun k hk e => ?_)
    have e2 : k = p := e
    subst e2
    apply a1
    rw [← hk]
    exact own_n _ _ _ _
  · simp
  · intro k h1 h2
    have hk : k < B.length := by simp at h1; omega
    have e1 : B.dropLast[k] = B[k] := List.getElem_dropLast h1
    have hk2 : k < r.ivs.length := by omega
    have e2 : (r.ivs.dropLast)[k]'h2 = r.ivs[k] := List.getElem_dropLast h2
    rw [e1]
    show slIn _ _ ((r.ivs.dropLast)[k]'h2) _ _ _
    rw [e2]
    exact ((h.ids k hk hk2).upd hu2 (fun j hj _ => hne2 j hj)).zone (fun j _ hj => hrest j hj)
  · rintro k (e | e | e | e)
    · exact h.zone k (.inl e)
    · exact h.zone k (.inr (.inl e))
    · exact h.zone k (.inr (.inr (.inl e)))
    · refine h.zone k (.inr (.inr (.inr ?_)))
      rw [← e]
      exact own_n _ _ _ _
/-- The cell that holds a block's list. -/
theorem IdxAt.blockCell (h : IdxAt w Z p r M B) {k : Nat} (hk : k < B.length) : ∃ g s, r.bv.a = some ⟨g, 0, none⟩ ∧ w.cell? ⟨g, k, none⟩ = some (.slice s.a s.n s.c) ∧ slIn w (r.rest p Z) s 32 Hash.arr B[k] ∧ B.length ≤ r.bv.c := by
  have hk2 : k < r.ivs.length := by rw [h.il]; exact hk
  rcases h.own.2 with ⟨hv, h0⟩ | ⟨g, cap, cur, hv, hg, hh, hnc, hm, hsz, ht⟩
  · omega
  · have hv2 := hv
    unfold Sl.v at hv2
    injection hv2 with q1 q2 q3
    refine ⟨g, r.ivs[k], q1, ?_, h.ids k hk hk2, by omega⟩
    rw [(cells_known hh).1, ← Array.getElem?_toList]
    have : (cur.toList.take (B.length * 1))[k]? = some (r.ivs[k].v) := by rw [ht]; simp [hk2]
    rw [List.getElem?_take, if_pos (by omega)] at this
    exact this
end
set_option maxRecDepth 100000 in
set_option maxHeartbeats 2000000 in
theorem dis_in (Z : Nat → Prop) (p : Nat) (r : IdxR) (M : Maps) (B : List (List Hash)) (w : World) (h : IdxAt w Z p r M B) (hne : B ≠ []) (hB : B.length ≤ 1000000) (hids : (B.getLast hne).length ≤ 1000000) :
    Calls Tryz.prog 61 #[.pointer (some ⟨p, 0, none⟩)] w fun e w' => ∃ r', e = .returned (.int .i64 0) ∧ IdxAt w' Z p r' (undoS M (B.getLast hne)) B.dropLast ∧ Upd w w' (r.foot p) := by
  have hlp : 0 < B.length := List.length_pos_iff.2 hne
  have hh := height_ix Z p r M B w h
  have e1 : B[B.length - 1]'(by omega) = B.getLast hne := by rw [List.getLast_eq_getElem]
  obtain ⟨g, s, hga, hgc, hsl, hcap⟩ := h.blockCell (k := B.length - 1) (by omega)
  rw [e1] at hsl
  have hund := undo_ix Z _ p r M B s _ w h hsl (fun k hk _ => hk.2) hids
  have hc0 : w.cell? ⟨p, 0, none⟩ = some (.slice (some ⟨g, 0, none⟩) B.length r.bv.c) := by have := h.cell0; rw [h.bn, hga] at this; exact this
  have d0 : ((B.length : Int) == 0) = false := by rw [beq_eq_false_iff_ne]; omega
  obtain ⟨m, hm⟩ : ∃ m, m = B.length - 1 := ⟨_, rfl⟩
  have hml : B.length = m + 1 := by omega
  rw [← hm] at hgc
  rw [hml] at hc0 d0 hh
  have HM := Lib.hid (And.intro hm (And.intro hml (And.intro hcap hga)))
  have H := Lib.hid h
  have hmc : (m : Int) ≤ (r.bv.c : Int) := by omega
  have hm0 : (0 : Int) ≤ (m : Int) := by omega
  have hm1 : (m : Int) < (m : Int) + 1 := by omega
  have hbd : m ≤ 1000000 := by omega
  clear h hsl e1 hm hml hcap hga hlp
  go_enter Tryz.func61, Tryz.ntmps61
  go_wp2_with (go_at_call 21; refine hh.mono ?_; rintro e w1 ⟨rfl, rfl⟩)
  refine hund.mono ?_
  rintro e w2 ⟨rfl, ⟨a, b, hI⟩, hu⟩
  have hcc := hI.cell0
  have hbn := hI.bn
  simp only at hcc hbn
  rw [hbn, HM.out.2.1, HM.out.2.2.2] at hcc
  have hff := (cells_known hI.hd).2.1 0
  have HI := Lib.hid hI
  clear hI hund hbn hgc hc0 hh d0
  go_wp2_with fail
  go_ret
  obtain ⟨q1, q2⟩ := HI.out.popBlock hne
  have hbc : ({ r with nt := a, ns := b } : IdxR).bv.a = some ⟨g, 0, none⟩ := HM.out.2.2.2
  rw [show B.length - 1 = m from HM.out.1.symm] at q1 q2
  simp only at q1 q2
  rw [HM.out.2.2.2] at q1 q2
  exact ⟨_, rfl, q1, (hu.mono (fun k _ e => e.elim (fun e => .inr (.inl e)) (fun e => .inr (.inr (.inl e))))).trans q2 (fun _ _ h => h)⟩
theorem dis_nil (Z : Nat → Prop) (p : Nat) (r : IdxR) (M : Maps) (w : World) (h : IdxAt w Z p r M []) :
    Calls Tryz.prog 61 #[.pointer (some ⟨p, 0, none⟩)] w fun e w' => e = .returned (.int .i64 5) ∧ w = w' := by
  have hh := height_ix Z p r M [] w h
  simp only [List.length_nil] at hh
  clear h
  go_enter Tryz.func61, Tryz.ntmps61
  go_wp2_with (go_at_call 21; refine hh.mono ?_; rintro e w1 ⟨rfl, rfl⟩)
  go_ret
  exact ⟨rfl, rfl⟩
/-- The last block taken back; none, if there is none. -/
theorem dis_ix (Z : Nat → Prop) (p : Nat) (r : IdxR) (L : List (List Tx)) (w : World) (hg : goodL L) (h : IdxAt w Z p r (mapsOf L) (L.map (fun b => b.map idS))) (hL : L.length ≤ 1000000) (hl : ∀ b ∈ L, b.length ≤ 1000000) :
    Calls Tryz.prog 61 #[.pointer (some ⟨p, 0, none⟩)] w fun e w' => ∃ r', e = .returned (.int .i64 (if L = [] then 5 else 0)) ∧ IdxAt w' Z p r' (mapsOf L.dropLast) (L.dropLast.map (fun b => b.map idS)) ∧ Upd w w' (r.foot p) := by
  by_cases hne : L = []
  · subst hne
    refine (dis_nil Z p r _ w h).mono ?_
    rintro e w' ⟨rfl, rfl⟩
    exact ⟨r, rfl, h, Upd.refl _ _⟩
  · have hne2 : L.map (fun b => b.map idS) ≠ [] := by simpa using hne
    have e1 : (L.map (fun b => b.map idS)).getLast hne2 = (L.getLast hne).map idS := by rw [List.getLast_map]
    refine (dis_in Z p r _ _ w h hne2 (by simpa using hL) (by rw [e1]; simp; exact hl _ (List.getLast_mem hne))).mono ?_
    rintro e w' ⟨r', rfl, hI, hu⟩
    rw [e1, hg.last hne, ← List.map_dropLast] at hI
    exact ⟨r', by rw [if_neg hne], hI, hu⟩
theorem dis_none (w : World) : Calls Tryz.prog 61 #[.pointer none] w fun e w' => e = .returned (.int .i64 5) ∧ w = w' := by
  have hh := height_nil w
  go_enter Tryz.func61, Tryz.ntmps61
  go_wp2_with (go_at_call 21; refine hh.mono ?_; rintro e w1 ⟨rfl, rfl⟩)
  go_ret
  exact ⟨rfl, rfl⟩
theorem con_none (s : Sl) (w : World) : Calls Tryz.prog 59 #[.pointer none, .slice s.a s.n s.c] w fun e w' => e = .returned (.int .i64 1) ∧ w = w' := by
  have hh := none_nil w
  go_enter Tryz.func59, Tryz.ntmps59
  go_wp2_with fail
  refine wp_scope_fwd 0 (by rfl) ?_
  go_wp2_with (go_at_call 96; refine hh.mono ?_; rintro e w1 ⟨rfl, rfl⟩)
  rw [jump_ret]
  go_ret
  exact ⟨rfl, rfl⟩
end Go.Proofs.YtlkojkjeklblkaaGreat
