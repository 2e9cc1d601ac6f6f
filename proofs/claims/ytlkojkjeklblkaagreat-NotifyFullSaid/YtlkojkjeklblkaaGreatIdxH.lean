/- Package index: transactions let go. Package index: a block taken in. -/
import Derived.Test.YtlkojkjeklblkaaGreatIdxF
import Derived.Test.YtlkojkjeklblkaaGreatSlc
import Derived.Deep.AppendLies
set_option linter.unusedSimpArgs false
set_option linter.unusedVariables false
namespace Go.Proofs.YtlkojkjeklblkaaGreat
open Go.RowKit
attribute [local go_sem] Hash.ext_whole In.ext_tx Hash.size_arr
@[go_sem] theorem field_entry_t (E : EntryV) (w : World) : (Instr.field 188 (.agg E.arr) 0).run Tryz.prog w = .ok (.agg E.t.arr) w := by
  have h := run_part_agg (P := Tryz.prog) (n := 3) Tryz.underlying72 rfl size_TxV (xs := E.arr) (b := E.t.arr) (off := 0) (by rw [Nat.zero_add]; exact EntryV.ext_0 E) w
  simp only [Instr.field, Sem.run_bind, run_underlying Tryz.underlying188, Result.andThen_ok]
  simp [asAgg, h]
@[go_sem] theorem field_entry_h (E : EntryV) (w : World) : (Instr.field 188 (.agg E.arr) 1).run Tryz.prog w = .ok (.int .i64 E.height) w := by
  have h := run_part_one (P := Tryz.prog) Tryz.underlying3 rfl (xs := E.arr) (off := 3) (v := .int .i64 E.height) (by simp) w
  simp only [Instr.field, Sem.run_bind, run_underlying Tryz.underlying188, Result.andThen_ok]
  simp [asAgg, h]
@[go_sem] theorem field_tx_ins (E : TxV) (w : World) : (Instr.field 72 (.agg E.arr) 0).run Tryz.prog w = .ok (.slice E.ins.a E.ins.n E.ins.c) w := by
  have h := run_part_one (P := Tryz.prog) Tryz.underlying69 rfl (xs := E.arr) (off := 0) (v := .slice E.ins.a E.ins.n E.ins.c) (by simp) w
  simp only [Instr.field, Sem.run_bind, run_underlying Tryz.underlying72, Result.andThen_ok]
  simp [asAgg, h]
section
variable {w w' : World} {Z Y : Nat → Prop} {p : Nat} {r : IdxR} {M : Maps} {B : List (List Hash)}
theorem spV_upd (M : Maps) (q : Pt) (v : Option Hash) : upd (spV M) q (v.map hashV) = spV ⟨M.txs, updF M.sp q.1 v⟩ := by
  funext y
  unfold upd spV updF
  by_cases h : y = q
  · subst h; simp
  · have h2 : y.1 ≠ q.1 := fun e => h (Subtype.ext e)
    simp [h, h2]
/-- Who spent a place, changed. -/
theorem IdxAt.setSp (h : IdxAt w Z p r M B) (q : Pt) (v : Option Hash) {n : Nat} (hm : mapAt w' ptV r.ms n (upd (spV M) q (v.map hashV))) (hu : Upd w w' (fun k => k = r.ms)) :
    IdxAt w' Z p { r with ns := n } ⟨M.txs, updF M.sp q.1 v⟩ B := by
  have hne : ∀ k, r.rest p Z k → k ≠ r.ms := fun k hk e => hk.2 (.inr (.inr (.inl e)))
  have hp : p ≠ r.ms := fun e => by
    obtain ⟨es, clock, hb, _⟩ := h.sp
    rw [← e, h.hd] at hb
    cases hb
  refine ⟨(hu.block p (h.lt (.inl rfl)) hp).trans h.hd, h.txs.of_block (hu.block _ h.txs.lt h.two), by rw [← spV_upd]; exact hm, ?_, h.bn, h.il, fun k h1 h2 => (h.ids k h1 h2).upd hu (fun j hj _ => hne j hj), fun z x hx => ⟨((h.ent z x hx).1).upd hu (fun j hj _ => hne j hj), (h.ent z x hx).2⟩, h.zone, h.two⟩
  refine ownsRow_upd h.own hu (fun k hk e => ?_)
  have e2 : k = r.ms := e
  subst e2
  obtain ⟨es, clock, hb, _⟩ := h.sp
  rcases h.own.2 with ⟨hv, _⟩ | ⟨g, cap, cur, hv, _, hh, _⟩
  · unfold Sl.v at hk; rw [show (Value.slice r.bv.a r.bv.n r.bv.c) = .slice none 0 0 from hv] at hk; cases hk
  · rw [hv] at hk
    cases hk
    rw [hh] at hb
    cases hb
theorem IdxAt.apart_mt (h : IdxAt w Z p r M B) : p ≠ r.mt ∧ r.bv.v.ownBlock ≠ some r.mt := by
  obtain ⟨es, clock, hb, _⟩ := h.txs
  constructor
  · intro e
    rw [← e, h.hd] at hb
    cases hb
  · intro hk
    rcases h.own.2 with ⟨hv, _⟩ | ⟨g, cap, cur, hv, _, hh, _⟩
    · unfold Sl.v at hk; rw [show (Value.slice r.bv.a r.bv.n r.bv.c) = .slice none 0 0 from hv] at hk; cases hk
    · rw [hv] at hk
      cases hk
      rw [hh] at hb
      cases hb
/-- A transaction's entry, struck. -/
theorem IdxAt.dropTx (h : IdxAt w Z p r M B) (z : Hash) {n : Nat} (hm : mapAt w' hashV r.mt n (upd (entV r.T M) z none)) (hu : Upd w w' (fun k => k = r.mt)) :
    IdxAt w' Z p { r with nt := n } ⟨updF M.txs z none, M.sp⟩ B := by
  have hne : ∀ k, r.rest p Z k → k ≠ r.mt := fun k hk e => hk.2 (.inr (.inl e))
  have hap := h.apart_mt
  have he : upd (entV r.T M) z none = entV r.T ⟨updF M.txs z none, M.sp⟩ := by
    funext y
    unfold upd entV updF
    by_cases hy : y = z
    · subst hy; simp
    · simp [hy]
  refine ⟨(hu.block p (h.lt (.inl rfl)) hap.1).trans h.hd, by rw [← he]; exact hm, h.sp.of_block (hu.block _ h.sp.lt (Ne.symm h.two)), ownsRow_upd h.own hu (fun k hk e => hap.2 (by have e2 : k = r.mt := e; rw [← e2]; exact hk)), h.bn, h.il, fun k h1 h2 => (h.ids k h1 h2).upd hu (fun j hj _ => hne j hj), fun y x hx => ?_, h.zone, h.two⟩
  simp only [updF] at hx
  split at hx
  · cases hx
  · exact ⟨((h.ent y x hx).1).upd hu (fun j hj _ => hne j hj), (h.ent y x hx).2⟩
/-- A transaction's entry, put. -/
theorem IdxAt.putTx (h : IdxAt w Z p r M B) (z : Hash) (t : Tx) (k : Nat) (u : TxV) (hc : checkS t = 0) (ht : txIn w (r.rest p Z) u t) {n : Nat} (hm : mapAt w' hashV r.mt n (upd (entV r.T M) z (some (.agg (EntryV.mk u (k : Nat)).arr)))) (hu : Upd w w' (fun k => k = r.mt)) :
    IdxAt w' Z p { r with nt := n, T := fun y => if y = z then u else r.T y } ⟨updF M.txs z (some (t, k)), M.sp⟩ B := by
  have hne : ∀ k, r.rest p Z k → k ≠ r.mt := fun k hk e => hk.2 (.inr (.inl e))
  have hap := h.apart_mt
  have he : upd (entV r.T M) z (some (.agg (EntryV.mk u (k : Nat)).arr)) = entV (fun y => if y = z then u else r.T y) ⟨updF M.txs z (some (t, k)), M.sp⟩ := by
    funext y
    unfold upd entV updF
    by_cases hy : y = z
    · subst hy; simp
    · simp [hy]
  refine ⟨(hu.block p (h.lt (.inl rfl)) hap.1).trans h.hd, by rw [← he]; exact hm, h.sp.of_block (hu.block _ h.sp.lt (Ne.symm h.two)), ownsRow_upd h.own hu (fun k hk e => hap.2 (by have e2 : k = r.mt := e; rw [← e2]; exact hk)), h.bn, h.il, fun k h1 h2 => (h.ids k h1 h2).upd hu (fun j hj _ => hne j hj), fun y x hx => ?_, h.zone, h.two⟩
  simp only [updF] at hx
  by_cases hy : y = z
  · subst hy
    simp only [if_true, Option.some.injEq] at hx
    subst hx
    simp only [if_true]
    exact ⟨ht.upd hu (fun j hj _ => hne j hj), hc⟩
  · simp only [hy, if_false] at hx ⊢
    exact ⟨((h.ent y x hx).1).upd hu (fun j hj _ => hne j hj), (h.ent y x hx).2⟩
theorem IdxAt.entIns (h : IdxAt w Z p r M B) (z : Hash) : slIn w (r.rest p Z) (entOf r.T M z).t.ins 37 In.arr (insOf M z) ∧ (insOf M z).length ≤ 100 ∧ ∀ j (hj : j < (insOf M z).length), i64 (insOf M z)[j].prev.n := by
  unfold entOf insOf
  cases hx : M.txs z with
  | none => exact ⟨slIn_nil _ _ _ _, by simp, fun j hj => absurd hj (by simp)⟩
  | some x => exact ⟨(h.ent z x hx).1.1, (checkS_ok (h.ent z x hx).2).1, fun j hj => prev_i64 (h.ent z x hx).2 hj⟩
end
theorem mapDrop_all {P : Program} {k : TypeId} {κ : Type} [DecidableEq κ] {enc : κ → Value} {f : κ → Option Value} {w : World} {b n : Nat} {t e : TypeId} (KE : KeyEnc P k enc) (ht : P.underlying t = some (.map k e)) (h : mapAt w enc b n f) (x : κ) :
    ∃ w' n', (∀ ty, (Builtin.delete_ #[t, k] ty #[.map (some b), enc x]).run P w = .ok (.tuple #[]) w') ∧ mapAt w' enc b n' (upd f x none) ∧ Upd w w' (fun k => k = b) := by
  obtain ⟨w', h1, h2, h3⟩ := run_mapDrop (ty := 0) KE ht h x
  exact ⟨w', _, fun ty => h1, h2, (Upd.grown h3).mono (fun k _ e => (Option.some.inj e).symm)⟩
set_option maxRecDepth 100000 in
set_option maxHeartbeats 4000000 in
theorem undo_ix (Z Y : Nat → Prop) (p : Nat) (r : IdxR) (M : Maps) (B : List (List Hash)) (s : Sl) (ids : List Hash) (w : World) (h : IdxAt w Z p r M B) (hs : slIn w Y s 32 Hash.arr ids) (hY : ∀ k, Y k → k < w.heap.size → ¬ r.foot p k) (hl : ids.length ≤ 1000000) :
    Calls Tryz.prog 101 #[.pointer (some ⟨p, 0, none⟩), .slice s.a s.n s.c] w fun e w' => e = .returned (.tuple #[]) ∧ (∃ a b, IdxAt w' Z p { r with nt := a, ns := b } (undoS M ids) B) ∧ Upd w w' (fun k => k = r.mt ∨ k = r.ms) := by
  obtain ⟨sa, sn, sc⟩ := s
  obtain ⟨hn, hcc, hcm, hr⟩ := hs
  simp only at hn hcc hcm hr
  subst hn
  have HR := Lib.hid hr
  have H := Lib.hid h
  clear hr h hcm
  go_enter Tryz.func101, Tryz.ntmps101
  go_wp2_with fail
  go_loopw [10] (fun v wr => ∃ k a b : Nat, k ≤ ids.length ∧ v = .int .i64 k ∧ IdxAt wr Z p { r with nt := a, ns := b } (undoS M (ids.take k)) B ∧ Upd w wr (fun k => k = r.mt ∨ k = r.ms)) (fun v _ => ids.length - (intOf v).toNat)
  case atStart => exact ⟨0, r.nt, r.ns, Nat.zero_le _, rfl, H.out, Upd.refl _ _⟩
  case round =>
    obtain ⟨k, a, b, hk, rfl, hI, hu⟩ := hrel
    by_cases hlt : k < ids.length
    · obtain ⟨sb, off, e0, hzs, hsb, hrow⟩ := HR.out (by intro e; rw [e] at hlt; simp at hlt)
      subst e0
      have hnf := hY sb hzs hsb
      have hrk : row? wr ⟨sb, off + k * 32, none⟩ 32 = some ids[k].arr := (row?_of_block (hu.block sb hsb (fun e => hnf (by rcases e with e | e; exact .inr (.inl e); exact .inr (.inr (.inl e))))) 32).trans (hrow k hlt)
      obtain ⟨z, hz⟩ : ∃ z, z = ids[k] := ⟨_, rfl⟩
      rw [← hz] at hrk
      obtain ⟨Wx, hWx⟩ : ∃ Wx, Wx = wr.alloc (.cells z.arr 38) := ⟨_, rfl⟩
      have hbx : Below wr.heap.size wr Wx := hWx ▸ (Below.refl _ _).alloc (Nat.le_refl _) _
      have hIx := hI.keep hbx
      have hgx : Wx.heap[wr.heap.size]? = some (.cells z.arr 38 (0, 0)) := hWx ▸ heap_alloc_new wr _
      obtain ⟨Mk, hMk⟩ : ∃ Mk, Mk = undoS M (ids.take k) := ⟨_, rfl⟩
      rw [← hMk] at hIx
      obtain ⟨E, hE⟩ : ∃ E, E = entOf r.T Mk z := ⟨_, rfl⟩
      have hlk := ((hIx.keep (Below.refl Wx.heap.size Wx).drew).look z).2
      have c1 : Wx.drew.cell? ⟨p, 1, none⟩ = some (.map (some r.mt)) := hIx.cell1
      have c2 : row? Wx.drew ⟨wr.heap.size, 0, none⟩ 32 = some z.arr := row_of_block hgx (by simp)
      have hei := hIx.entIns z
      rw [show entOf ({ r with nt := a, ns := b } : IdxR).T Mk z = E from hE.symm] at hlk hei
      have HIX := Lib.hid hIx
      have HGX := Lib.hid hgx
      have HEI := Lib.hid hei
      have HU := Lib.hid (hu.trans (Upd.of_below hbx (fun k => k = r.mt ∨ k = r.ms)) (fun _ _ h => h))
      have HZK := Lib.hid (And.intro hz (And.intro hMk hE))
      have k0 : (0 : Int) ≤ (k : Int) := by omega
      have k1 : (k : Int) < (ids.length : Int) := by omega
      have dlt : decide ((k : Int) < (ids.length : Int)) = true := decide_eq_true k1
      clear hIx hgx hei hI hu hz hMk hE hnf hrow
      go_upto_region 3 with fail
      rw [← hWx]
      clear hWx
      go_cut [21, 22, 23] (fun v21 v22 v23 wx => v21 = .slice E.t.ins.a E.t.ins.n E.t.ins.c ∧ v22 = .int .i64 E.t.ins.n ∧ v23 = .int .i64 0 ∧ Below Wx.heap.size Wx wx)
      case first =>
        go_region_law (fail)
        all_goals
          go_wp2_with fail
          go_meet
          exact ⟨rfl, rfl, rfl, (Below.refl Wx.heap.size Wx).drew⟩
      case rest =>
        obtain ⟨rfl, rfl, rfl, hbc⟩ := hcut
        obtain ⟨L, hL⟩ : ∃ L, L = insOf Mk z := ⟨_, rfl⟩
        have hei := HEI.out
        rw [← hL] at hei
        obtain ⟨hsl, hL100, hLi⟩ := hei
        obtain ⟨⟨⟨ia, il, ic⟩, eo, el⟩, eh⟩ := E
        have hil : il = L.length := hsl.1
        subst hil
        have hIc := HIX.out.keep hbc
        have hzl : wr.heap.size < wc.heap.size := Nat.lt_of_lt_of_le (cells_known HGX.out).2.2 hbc.size
        have hgc : wc.heap[wr.heap.size]? = some (.cells z.arr 38 (0, 0)) := (hbc.block _ (cells_known HGX.out).2.2).trans HGX.out
        have HUC := Lib.hid (HU.out.trans (Upd.of_below hbc (fun k => k = r.mt ∨ k = r.ms)) (fun _ _ h => h))
        obtain ⟨zb, hzb⟩ : ∃ zb, zb = wr.heap.size := ⟨_, rfl⟩
        rw [← hzb] at hgc ⊢
        have hzms : zb ≠ r.ms ∧ zb ≠ r.mt := by
          obtain ⟨es, cl, hb, _⟩ := hIc.sp
          obtain ⟨es2, cl2, hb2, _⟩ := hIc.txs
          constructor
          · intro e
            rw [e] at hgc
            rw [hgc] at hb
            cases hb
          · intro e
            rw [e] at hgc
            rw [hgc] at hb2
            cases hb2
        have HSL := Lib.hid (hsl.below hbc (fun _ _ h => h))
        have HIC := Lib.hid hIc
        have HGC := Lib.hid hgc
        have HL := Lib.hid hL
        have HLi := Lib.hid hLi
        dsimp only
        clear hzl hsl hIc hgc hbc hbx hlk c1 c2 hrk hL hLi hzb
        go_wp2_with fail
        go_loopw [23] (fun v wi => ∃ j b' : Nat, j ≤ L.length ∧ v = .int .i64 j ∧ IdxAt wi Z p { r with nt := a, ns := b' } ⟨Mk.txs, dropIns Mk.sp (L.take j)⟩ B ∧ wi.heap[zb]? = some (.cells z.arr 38 (0, 0)) ∧ Upd w wi (fun k => k = r.mt ∨ k = r.ms) ∧ slIn wi (r.rest p Z) ⟨ia, L.length, ic⟩ 37 In.arr L) (fun v _ => L.length - (intOf v).toNat)
        case atStart => exact ⟨0, b, Nat.zero_le _, rfl, HIC.out, HGC.out, HUC.out, HSL.out⟩
        case round =>
          obtain ⟨j, b', hj, rfl, hI, hg, hu, hs⟩ := hrel
          by_cases hjl : j < L.length
          · obtain ⟨bl, offl, e1, hzl, hbl, hrl⟩ := hs.2.2.2 (by intro e; rw [e] at hjl; simp at hjl)
            simp only at e1
            subst e1
            obtain ⟨x, hx⟩ : ∃ x, x = L[j] := ⟨_, rfl⟩
            have hrj := hrl j hjl
            rw [← hx] at hrj
            have hq : i64 x.prev.n := by rw [hx]; exact HLi.out j hjl
            have hbx : Below wr.heap.size wr (wr.alloc (.cells x.arr 68)) := (Below.refl _ _).alloc (Nat.le_refl _) _
            have hIx : IdxAt (wr.alloc (.cells x.arr 68)).drew Z p { r with nt := a, ns := b' } ⟨Mk.txs, dropIns Mk.sp (L.take j)⟩ B := hI.keep hbx.drew
            obtain ⟨W2, n2, hdel, hm2, hu2⟩ := mapDrop_all pt_enc Tryz.underlying128 hIx.sp ⟨x.prev, hq⟩
            rw [show ptV ⟨x.prev, hq⟩ = .agg x.prev.arr from rfl] at hdel
            have hI2 := hIx.setSp ⟨x.prev, hq⟩ none hm2 hu2
            have c1 : (wr.alloc (.cells x.arr 68)).drew.cell? ⟨p, 2, none⟩ = some (.map (some r.ms)) := hIx.cell2
            have c2 : row? (wr.alloc (.cells x.arr 68)).drew ⟨wr.heap.size, 0, none⟩ 33 = some x.prev.arr := by rw [row_part (w := (wr.alloc (.cells x.arr 68)).drew) (heap_alloc_new wr _) 0 33 (by simp)]; simp
            have huu : Upd wr W2 (fun k => k = r.ms) := (Upd.of_below hbx.drew (fun k => k = r.ms)).trans hu2 (fun _ _ h => h)
            have hzw := (cells_known hg).2.2
            have HN := Lib.hid (And.intro hI2 (And.intro ((huu.block zb hzw hzms.1).trans hg) (And.intro (hu.trans (huu.mono (fun k _ h => .inr h)) (fun _ _ h => h)) (hs.upd huu (fun k hk _ e => hk.2 (.inr (.inr (.inl e))))))))
            have htake : dropIns Mk.sp (L.take (j + 1)) = updF (dropIns Mk.sp (L.take j)) x.prev none := by rw [List.take_succ_eq_append_getElem hjl, dropIns_snoc, ← hx]
            have HT := Lib.hid htake
            have k0 : (0 : Int) ≤ (j : Int) := by omega
            have k1 : (j : Int) < (L.length : Int) := by omega
            have djl : decide ((j : Int) < (L.length : Int)) = true := decide_eq_true k1
            clear hI hg hu hs hIx hm2 hu2 hI2 huu htake hrl hx
            go_wp2_with fail
            go_region_law (fail)
            all_goals
              go_wp2_with fail
              exact ⟨⟨j + 1, n2, by omega, by go_num, by rw [HT.out]; exact HN.out.1, HN.out.2.1, HN.out.2.2.1, HN.out.2.2.2⟩, by simp [intOf]; omega⟩
          · have djl : decide ((j : Int) < (L.length : Int)) = false := decide_eq_false (by omega)
            have hje : L.take j = L := by rw [show j = L.length by omega, List.take_length]
            rw [hje] at hI
            have hIx : IdxAt wr.drew Z p { r with nt := a, ns := b' } ⟨Mk.txs, dropIns Mk.sp L⟩ B := hI.keep (Below.refl wr.heap.size wr).drew
            obtain ⟨W2, n2, hdel, hm2, hu2⟩ := mapDrop_all hash_enc Tryz.underlying127 hIx.txs z
            rw [show hashV z = .agg z.arr from rfl] at hdel
            have hI2 := hIx.dropTx z hm2 hu2
            have c1 : wr.drew.cell? ⟨p, 1, none⟩ = some (.map (some r.mt)) := hIx.cell1
            have c2 : row? wr.drew ⟨zb, 0, none⟩ 32 = some z.arr := row_of_block (w := wr.drew) hg (by simp)
            have huu : Upd wr W2 (fun k => k = r.mt) := (Upd.of_below (Below.refl wr.heap.size wr).drew (fun k => k = r.mt)).trans hu2 (fun _ _ h => h)
            have hstep : undoS M (ids.take (k + 1)) = ⟨updF Mk.txs z none, dropIns Mk.sp L⟩ := by
              rw [List.take_succ_eq_append_getElem hlt, undoS_snoc, ← HZK.out.2.1, ← HZK.out.1, HL.out]
              rfl
            have HN := Lib.hid (And.intro hI2 (And.intro hstep (hu.trans (huu.mono (fun k _ h => .inl h)) (fun _ _ h => h))))
            clear hI hg hu hs hIx hm2 hu2 hI2 huu hje hstep
            go_wp2_with fail
            go_region_law (fail)
            all_goals
              go_wp2_with fail
              exact ⟨⟨k + 1, n2, b', by omega, by go_num, by rw [HN.out.2.1]; exact HN.out.1, HN.out.2.2⟩, by simp [intOf]; omega⟩
    · have dlt : decide ((k : Int) < (ids.length : Int)) = false := decide_eq_false (by omega)
      have hke : ids.take k = ids := by rw [show k = ids.length by omega, List.take_length]
      rw [hke] at hI
      have HI := Lib.hid hI
      clear hI hke
      go_wp2_with fail
      refine bodyPost_end (results_none rfl _ _ _) rfl ?_
      exact ⟨rfl, ⟨a, b, HI.out⟩, hu⟩
end Go.Proofs.YtlkojkjeklblkaaGreat
namespace Go.Proofs.YtlkojkjeklblkaaGreat
open Go.RowKit
attribute [local go_sem] Hash.ext_whole In.ext_tx Hash.size_arr
@[go_sem ↓] theorem execOp_bsl_Hash (parts : Array (Nat × Operand)) (ρ : Operand → Value) (dst : Option Tmp) (ty : TypeId) (pos : String) (after : Array Edge) (guard : Option (Nat × Bool)) : execOp ρ { dst := dst, op := .buildSlice 184 1 parts, type := ty, pos := pos, after := after, guard := guard } = (do pure (.value (← bslS 184 1 (parts.map fun (i, x) => (i, ρ x))))) := rfl
@[go_sem] theorem bsl_Hash (x : Hash) (w : World) : (bslS 184 1 #[(0, .agg x.arr)]).run Tryz.prog w = .ok (.slice (some ⟨w.heap.size, 0, none⟩) 1 1) (w.alloc (.cells x.arr 38)) :=
  run_buildSlice_one Tryz.underlying184 size_Hash zero_Hash (by simp) (by decide) (by decide) x.arr (by simp) w
section
variable {w w1 : World} {Z Y : Nat → Prop} {p : Nat} {r : IdxR} {M : Maps} {B : List (List Hash)}
theorem IdxAt.apart_own (h : IdxAt w Z p r M B) : r.bv.v.ownBlock ≠ some p ∧ r.bv.v.ownBlock ≠ some r.mt ∧ r.bv.v.ownBlock ≠ some r.ms := by
  have key : ∀ (k : Nat) (o : Obj), w.heap[k]? = some o → (∀ cur, o ≠ .cells cur 184 (0, 0)) → r.bv.v.ownBlock ≠ some k := by
    intro k o hb hne hk
    rcases h.own.2 with ⟨hv, _⟩ | ⟨g, cap, cur, hv, _, hh, _⟩
    · unfold Sl.v at hk; rw [show (Value.slice r.bv.a r.bv.n r.bv.c) = .slice none 0 0 from hv] at hk; cases hk
    · rw [hv] at hk
      cases hk
      rw [hh] at hb
      exact hne cur (Option.some.inj hb).symm
  obtain ⟨es, cl, hb, _⟩ := h.txs
  obtain ⟨es2, cl2, hb2, _⟩ := h.sp
  exact ⟨key p _ h.hd (fun cur e => by injection e with _ e2; exact absurd e2 (by decide)), key _ _ hb (fun cur e => by cases e), key _ _ hb2 (fun cur e => by cases e)⟩
theorem IdxAt.pushBlock (h : IdxAt w Z p r M B) (hfr : Fr Z w) (sids : Sl) (ids : List Hash) (hids : slIn w (r.rest p Z) sids 32 Hash.arr ids) (v' : Sl)
    (hown : w1.ownsRow 0 184 1 v'.v (B.length + 1) (r.ivs.map Sl.v ++ [sids.v])) (hg : w.grownBy w1 r.bv.v.ownBlock) (hnew : ∀ k, v'.v.ownBlock = some k → r.bv.v.ownBlock = some k ∨ w.heap.size ≤ k) (hvn : v'.n = B.length + 1) :
    IdxAt (w1.setCell ⟨p, 0, none⟩ (.slice v'.a v'.n v'.c)) Z p { r with bv := v', ivs := r.ivs ++ [sids] } M (B ++ [ids]) ∧ Upd w (w1.setCell ⟨p, 0, none⟩ (.slice v'.a v'.n v'.c)) (r.foot p) := by
  obtain ⟨a1, a2, a3⟩ := h.apart_own
  have hu1 := Upd.grown hg
  have hu2 := Upd.setCell w1 ⟨p, 0, none⟩ (.slice v'.a v'.n v'.c)
  have hpl := h.lt (.inl rfl)
  have hap := h.apart_mt
  have hps : p ≠ r.ms := fun e => by
    obtain ⟨es, clock, hb, _⟩ := h.sp
    rw [← e, h.hd] at hb
    cases hb
  have hu : Upd w (w1.setCell ⟨p, 0, none⟩ (.slice v'.a v'.n v'.c)) (r.foot p) := (hu1.mono (fun k _ e => .inr (.inr (.inr e)))).trans hu2 (fun k _ e => .inl e)
  have hp1 : w1.heap[p]? = some (.cells (IndexV.mk r.bv (some r.mt) (some r.ms)).arr 130 (0, 0)) := (hu1.block p hpl a1).trans h.hd
  have hzone : ∀ k, k < w.heap.size → r.rest p Z k → ({ r with bv := v', ivs := r.ivs ++ [sids] } : IdxR).rest p Z k := by
    intro k hk hz
    refine ⟨hz.1, ?_⟩
    rintro (e | e | e | e)
    · exact hz.2 (.inl e)
    · exact hz.2 (.inr (.inl e))
    · exact hz.2 (.inr (.inr (.inl e)))
    · rcases hnew k e with e2 | e2
      · exact hz.2 (.inr (.inr (.inr e2)))
      · omega
  have hzone2 : ∀ k, k < w.heap.size → r.rest p Z k → (r.rest p Z k ∧ ({ r with bv := v', ivs := r.ivs ++ [sids] } : IdxR).rest p Z k) := fun k hk hz => ⟨hz, hzone k hk hz⟩
  have hsl : ∀ {s : Sl} {l : List Hash}, slIn w (r.rest p Z) s 32 Hash.arr l → slIn (w1.setCell ⟨p, 0, none⟩ (.slice v'.a v'.n v'.c)) (({ r with bv := v', ivs := r.ivs ++ [sids] } : IdxR).rest p Z) s 32 Hash.arr l := fun hh => ((hh.zone hzone2).upd hu (fun k hk _ hf => hk.1.2 hf)).zone (fun _ _ hk => hk.2)
  have htx : ∀ {u : TxV} {t : Tx}, txIn w (r.rest p Z) u t → txIn (w1.setCell ⟨p, 0, none⟩ (.slice v'.a v'.n v'.c)) (({ r with bv := v', ivs := r.ivs ++ [sids] } : IdxR).rest p Z) u t := fun hh => ((hh.zone hzone2).upd hu (fun k hk _ hf => hk.1.2 hf)).zone (fun _ _ hk => hk.2)
  refine ⟨⟨?_, h.txs.of_block ((hu2.block _ (Nat.lt_of_lt_of_le h.txs.lt hu1.size) (fun e => hap.1 e.symm)).trans (hu1.block _ h.txs.lt a2)), h.sp.of_block ((hu2.block _ (Nat.lt_of_lt_of_le h.sp.lt hu1.size) (fun e => hps e.symm)).trans (hu1.block _ h.sp.lt a3)), ?_, by simp [hvn], by simp [h.il], ?_, fun z x hx => ⟨htx (h.ent z x hx).1, (h.ent z x hx).2⟩, ?_, h.two⟩, hu⟩
  · rw [heap_set hp1 0 (.slice v'.a v'.n v'.c), IndexV.set_0]
  · have e : (B ++ [ids]).length = B.length + 1 := by simp
    rw [e, List.map_append]
    refine ownsRow_upd hown hu2 (fun k hk e => ?_)
    have e2 : k = p := e
    subst e2
    rcases hnew k hk with e3 | e3
    · exact a1 e3
    · omega
  · intro k h1 h2
    by_cases hk : k < B.length
    · have hk2 : k < r.ivs.length := by rw [h.il]; exact hk
      have e1 : (B ++ [ids])[k] = B[k] := List.getElem_append_left hk
      have e2 : (r.ivs ++ [sids])[k] = r.ivs[k] := List.getElem_append_left hk2
      rw [e1]
      show slIn _ _ (r.ivs ++ [sids])[k] _ _ _
      rw [e2]
      exact hsl (h.ids k hk hk2)
    · have hk3 : k = B.length := by simp at h1; omega
      subst hk3
      have e1 : (B ++ [ids])[B.length] = ids := by simp
      have e2 : (r.ivs ++ [sids])[B.length]'h2 = sids := by simp [← h.il]
      rw [e1]
      show slIn _ _ ((r.ivs ++ [sids])[B.length]'h2) _ _ _
      rw [e2]
      exact hsl hids
  · rintro k (e | e | e | e)
    · exact h.zone k (.inl e)
    · exact h.zone k (.inr (.inl e))
    · exact h.zone k (.inr (.inr (.inl e)))
    · rcases hnew k e with e2 | e2
      · exact h.zone k (.inr (.inr (.inr e2)))
      · exact hfr k e2
/-- An entry, stored. -/
theorem IdxAt.storeTx (h : IdxAt w Z p r M B) (z : Hash) (t : Tx) (k : Nat) (u : TxV) (hc : checkS t = 0) (ht : txIn w (r.rest p Z) u t) (i : Int) (hi : i = (k : Nat)) :
    ∃ w6 n, (Instr.mapUpdate 127 (.map (some r.mt)) (.agg z.arr) (.agg (EntryV.mk u i).arr)).run Tryz.prog w = .ok () w6 ∧
      IdxAt w6 Z p { r with nt := n, T := fun y => if y = z then u else r.T y } ⟨updF M.txs z (some (t, k)), M.sp⟩ B ∧ Upd w w6 (fun j => j = r.mt) := by
  subst hi
  obtain ⟨w6, hrun, hm, hg⟩ := run_mapStore hash_enc Tryz.underlying127 h.txs z (.agg (EntryV.mk u (k : Nat)).arr)
  have hu : Upd w w6 (fun j => j = r.mt) := (Upd.grown hg).mono (fun j _ e => (Option.some.inj e).symm)
  exact ⟨w6, _, hrun, h.putTx z t k u hc ht hm hu, hu⟩
/-- Who spent a place, stored. -/
theorem IdxAt.storeSp (h : IdxAt w Z p r M B) (q : Outpoint) (hq : i64 q.n) (z : Hash) :
    ∃ w6 n, (Instr.mapUpdate 128 (.map (some r.ms)) (.agg q.arr) (.agg z.arr)).run Tryz.prog w = .ok () w6 ∧
      IdxAt w6 Z p { r with ns := n } ⟨M.txs, updF M.sp q (some z)⟩ B ∧ Upd w w6 (fun j => j = r.ms) := by
  obtain ⟨w6, hrun, hm, hg⟩ := run_mapStore pt_enc Tryz.underlying128 h.sp ⟨q, hq⟩ (.agg z.arr)
  have hu : Upd w w6 (fun j => j = r.ms) := (Upd.grown hg).mono (fun j _ e => (Option.some.inj e).symm)
  exact ⟨w6, _, hrun, h.setSp ⟨q, hq⟩ (some z) hm hu, hu⟩
end
end Go.Proofs.YtlkojkjeklblkaaGreat
