/- A log in memory; whether there is one, whether it is dead; what fails. A record put behind the others. What a log tells: its records, its length; no log; are these its records? -/
import Derived.Test.YtkiindgcbpkddaaWalE
import Derived.Deep.RegionHeld3
import Derived.Deep.DeepCutAuto
import Derived.Deep.CutBlock
import Derived.Test.YtkiindgcbpkddaaWalF
import Derived.Test.YtkiindgcbpkddaaQTail
set_option linter.unusedSimpArgs false
set_option linter.unusedVariables false
namespace Go.Proofs.Ytkiindgcbpkddaa
open Go.RowKit
/-- A log. -/
structure LogM where
  name : Nm
  recs : List (List UInt8)
  size : Nat
  dead : Bool
def LogM.head (L : LogM) (p : Nat) (s : Sl) : LogV := { f := some ⟨p, 0, none⟩, name := L.name.1, records := s, size := L.size, dead := L.dead }
/-- As it lies: its head at q, its records in a row of their own, all of it in the zone. -/
structure LogAt (w : World) (Z : Nat → Prop) (q p : Nat) (s : Sl) (vs : List Sl) (L : LogM) : Prop where
  hd : w.heap[q]? = some (.cells (L.head p s).arr 167 (0, 0))
  recs : RecsAt w (fun k => Z k ∧ k ≠ q) s vs L.recs
  zone : Z q
section
variable {w w' : World} {Z Y S : Nat → Prop} {q p : Nat} {s : Sl} {vs : List Sl} {L : LogM}
theorem LogAt.lt (h : LogAt w Z q p s vs L) : q < w.heap.size := (cells_known h.hd).2.2
theorem LogAt.upd (h : LogAt w Z q p s vs L) (hu : Upd w w' S) (hs : ∀ k, Z k → k < w.heap.size → ¬ S k) : LogAt w' Z q p s vs L :=
  ⟨(hu.block _ h.lt (hs q h.zone h.lt)).trans h.hd, h.recs.upd hu (fun k hk hl => hs k hk.1 hl), h.zone⟩
theorem LogAt.keep (h : LogAt w Z q p s vs L) (hb : Below w.heap.size w w') : LogAt w' Z q p s vs L := h.upd (S := fun _ => False) (Upd.of_below hb _) (fun _ _ _ hf => hf)
theorem LogAt.zoned (h : LogAt w Z q p s vs L) (hY : ∀ k, k < w.heap.size → Z k → Y k) : LogAt w Y q p s vs L :=
  ⟨h.hd, h.recs.zoned (fun k hk hz => ⟨hY k hk hz.1, hz.2⟩), hY q h.lt h.zone⟩
theorem LogAt.cell (h : LogAt w Z q p s vs L) : w.cell? ⟨q, 0, none⟩ = some (.pointer (some ⟨p, 0, none⟩)) ∧ w.cell? ⟨q, 1, none⟩ = some (.string L.name.1) ∧ w.cell? ⟨q, 2, none⟩ = some (.slice s.a s.n s.c) ∧ w.cell? ⟨q, 3, none⟩ = some (.int .i64 L.size) ∧ w.cell? ⟨q, 4, none⟩ = some (.bool L.dead) := by
  have hk := (cells_known h.hd).1
  exact ⟨by rw [hk]; exact LogV.arr_0 _, by rw [hk]; exact LogV.arr_1 _, by rw [hk]; exact LogV.arr_2 _, by rw [hk]; exact LogV.arr_3 _, by rw [hk]; exact LogV.arr_4 _⟩
theorem none_log (h : LogAt w Z q p s vs L) : Calls Try.prog 101 #[.pointer (some ⟨q, 0, none⟩)] w fun e w' => e = .returned (.bool false) ∧ w = w' := by
  have c0 := h.cell.1
  clear h
  go_enter Try.func101, Try.ntmps101
  go_wp2_with fail
  go_ret
  exact ⟨rfl, rfl⟩
theorem none_nolog (w : World) : Calls Try.prog 101 #[.pointer none] w fun e w' => e = .returned (.bool true) ∧ w = w' := by
  go_enter Try.func101, Try.ntmps101
  go_wp2_with fail
  go_ret
  exact ⟨rfl, rfl⟩
theorem dead_log (h : LogAt w Z q p s vs L) : Calls Try.prog 49 #[.pointer (some ⟨q, 0, none⟩)] w fun e w' => e = .returned (.bool L.dead) ∧ w = w' := by
  have hn := none_log h
  have c4 := h.cell.2.2.2.2
  clear h
  go_enter Try.func49, Try.ntmps49
  go_wp2_with (go_at_call 101; refine hn.mono ?_; rintro e w1 ⟨rfl, rfl⟩)
  go_ret
  exact ⟨rfl, rfl⟩
theorem dead_nolog (w : World) : Calls Try.prog 49 #[.pointer none] w fun e w' => e = .returned (.bool true) ∧ w = w' := by
  have hn := none_nolog w
  go_enter Try.func49, Try.ntmps49
  go_wp2_with (go_at_call 101; refine hn.mono ?_; rintro e w1 ⟨rfl, rfl⟩)
  go_ret
  exact ⟨rfl, rfl⟩
def LogM.fail (L : LogM) (e : Int) : LogM := { L with dead := L.dead || e == 7 }
/-- A log's head stored anew. -/
theorem LogAt.head {L' : LogM} (h : LogAt w Z q p s vs L) (hu : Upd w w' (fun k => k = q)) (hd : w'.heap[q]? = some (.cells (L'.head p s).arr 167 (0, 0))) (hr : L'.recs = L.recs) : LogAt w' Z q p s vs L' :=
  ⟨hd, by rw [hr]; exact h.recs.upd hu (fun k hk _ e => hk.2 e), h.zone⟩
theorem fails_log (e : Int) (h : LogAt w Z q p s vs L) : Calls Try.prog 98 #[.pointer (some ⟨q, 0, none⟩), .int .i64 e] w fun r w' => r = .returned (.int .i64 e) ∧ LogAt w' Z q p s vs (L.fail e) ∧ Upd w w' (fun k => k = q) := by
  have c4 := h.cell.2.2.2.2
  have hf := (cells_known h.hd).2.1
  have f4 := hf 4
  obtain ⟨name, recs, size, dead⟩ := L
  have H := Lib.hid h
  clear h hf
  cases dead
  all_goals
    simp only at c4
    go_enter Try.func98, Try.ntmps98
    go_wp2_with fail
    go_ret
    refine ⟨rfl, H.out.head (Upd.setCell w ⟨q, 4, none⟩ _) ?_ rfl, Upd.setCell w ⟨q, 4, none⟩ _⟩
    rw [heap_set H.out.hd, LogM.head, LogV.set_4]
    rfl
end
end Go.Proofs.Ytkiindgcbpkddaa
namespace Go.Proofs.Ytkiindgcbpkddaa
open Go.RowKit
theorem step_run {P : Program} {w : World} {ops : Array Oper} {o : Oper} {a : Act} {K : Act → World → Prop} {Q : Exit → Act → World → Prop} {E : Prop} (hgd : o.guard = none) (s x : Operand) (t tx : TypeId)
    (ho : o.op = .call { callee := .builtin .append, args := #[s, x], argTypes := #[t, tx] }) (v u : Value) (hs : a.eval s = v) (hx : a.eval x = u) {v' : Value} {w' : World} (hr : (Builtin.append_ #[t, tx] o.type #[v, u]).run P w = .ok v' w')
    (hK : K (a.put o.dst v') w') : if Region.wanted o (yielded ops a.tmps) = true then Oper.wp P o a w K Q else E := by
  have hw : Region.wanted o (yielded ops a.tmps) = true := by simp [Region.wanted, hgd]
  rw [if_pos hw]
  unfold Oper.wp execOp
  simp only [ho, resolve, invoke, builtin, Sem.run_bind, Sem.run_pure, Result.andThen_ok, List.map_toArray, List.map_cons, List.map_nil, hs, hx, hr]
  exact hK
/-- The blocks of a thing, by their owner. -/
def zn (own : Nat → Nat) (i : Nat) (k : Nat) : Prop := own k = i
/-- From a block on the owner is another one. -/
def setO (own : Nat → Nat) (n i : Nat) (k : Nat) : Nat := if k < n then own k else i
theorem setO_old {own : Nat → Nat} {n i k : Nat} (h : k < n) : setO own n i k = own k := if_pos h
theorem setO_new {own : Nat → Nat} {n i k : Nat} (h : n ≤ k) : setO own n i k = i := if_neg (by omega)
def SameO (own own' : Nat → Nat) (n : Nat) : Prop := ∀ k, k < n → own' k = own k
theorem SameO.trans {a b c : Nat → Nat} {n m : Nat} (h : SameO a b n) (g : SameO b c m) (hm : n ≤ m) : SameO a c n := fun k hk => (g k (by omega)).trans (h k hk)
def bigB (b : List UInt8) : Bool := decide (1048576 < b.length)
def wapM (M : FsM) (L : LogM) (b : List UInt8) : FsM := if appE M L.name (frameS b).length = 0 then syncM (appM M L.name (frameS b)) L.name else appM M L.name (frameS b)
def wapE (M : FsM) (L : LogM) (b : List UInt8) : Int := if appE M L.name (frameS b).length = 0 then hasE (appM M L.name (frameS b)) L.name [] else appE M L.name (frameS b).length
def wapL (M : FsM) (L : LogM) (b : List UInt8) : LogM := if wapE M L b = 0 then { L with recs := L.recs ++ [b], size := L.size + (frameS b).length } else L.fail (wapE M L b)
section
variable {w w' : World} {own : Nat → Nat} {i j q p : Nat} {s : Sl} {vs : List Sl} {L : LogM} {M : FsM}
/-- Files in a zone that another thing is not in. -/
theorem fsAt.upd {w w' : World} {Z S : Nat → Prop} {p : Nat} {M : FsM} (h : fsAt w Z p M) (hu : Upd w w' S) (hs : ∀ k, Z k → k < w.heap.size → ¬ S k) : fsAt w' Z p M := by
  obtain ⟨mb, F, h⟩ := h
  exact ⟨mb, F, h.upd hu (hs _ h.hp h.lt.1) (hs _ h.hm h.lt.2) (fun t r e => ⟨hs _ (h.file t r e).above (h.file t r e).lt, fun k hk => hs _ ((h.file t r e).own.lt hk).1 ((h.file t r e).own.lt hk).2⟩)⟩
theorem fail_end {w2 : World} (e : Int) {Z2 : Nat → Prop} {M2 : FsM} (hij : i ≠ j) (hS : fsAt w2 Z2 p M2) (hZ : ∀ k, Z2 k → own k = i ∨ w.heap.size ≤ k) (hL : LogAt w2 (fun k => own k = j ∧ k < w.heap.size) q p s vs L) (hu : Upd w w2 (fun k => own k = i ∨ own k = j)) :
    Calls Try.prog 98 #[.pointer (some ⟨q, 0, none⟩), .int .i64 e] w2 fun r w' => r = .returned (.int .i64 e) ∧ ∃ (own' : Nat → Nat), SameO own own' w.heap.size ∧ fsAt w' (zn own' i) p M2 ∧ LogAt w' (zn own' j) q p s vs (L.fail e) ∧ Upd w w' (fun k => own k = i ∨ own k = j) := by
  refine (fails_log e hL).mono ?_
  rintro r w3 ⟨rfl, hL3, hu3⟩
  have hq := hL.zone
  refine ⟨rfl, setO own w.heap.size i, fun k hk => setO_old hk, ?_, ?_, hu.trans hu3 (fun k _ e => .inr (by rw [show k = q from e]; exact hq.1))⟩
  · refine (hS.upd hu3 (fun k hz hk e => ?_)).zone (fun k hk hz => ?_)
    · have e2 : k = q := e
      subst e2
      rcases hZ k hz with g | g
      · exact hij (g.symm.trans hq.1)
      · omega
    · show setO own w.heap.size i k = i
      by_cases hlt : k < w.heap.size
      · rw [setO_old hlt]; exact (hZ k hz).resolve_right (by omega)
      · rw [setO_new (by omega)]
  · exact hL3.zoned (fun k hk hz => by show setO own w.heap.size i k = j; rw [setO_old hz.2]; exact hz.1)
/-- What a record cloned and put behind the others comes to, ahead of the stores. -/
structure Pushed (w3 z : World) (q p : Nat) (s : Sl) (vs : List Sl) (L : LogM) (Zb : Nat → Prop) (b : List UInt8) (x s2 : Sl) (w4 : World) : Prop where
  run : (Builtin.append_ #[95, 95] 95 #[.slice s.a s.n s.c, .slice (some ⟨z.heap.size, 0, none⟩) 1 1]).run Try.prog (z.alloc (.cells #[.slice x.a x.n x.c] 102)) = .ok (.slice s2.a s2.n s2.c) w4
  lt : q < z.heap.size
  cz : z.cell? ⟨q, 2, none⟩ = some (.slice s.a s.n s.c)
  hd : w4.heap[q]? = some (.cells (L.head p s).arr 167 (0, 0))
  recs : RecsAt w4 (fun k => (Zb k ∧ k ≠ q) ∨ w3.heap.size ≤ k) s2 (vs ++ [x]) (L.recs ++ [b])
  upd : Upd w3 w4 (fun k => s.v.ownBlock = some k)
theorem push_log {w3 : World} {Zb : Nat → Prop} (v : Sl) (b : List UInt8) (hL : LogAt w3 Zb q p s vs L) (hv : bytesAt w3 v b w3.heap.size) (hb : b.length ≤ 1000000000) (hrn : L.recs.length ≤ 100000000) :
    Calls Try.prog 100 #[.slice v.a v.n v.c] w3.drew fun e z => ∃ x s2 w4, e = .returned (.slice x.a x.n x.c) ∧ Pushed w3 z q p s vs L Zb b x s2 w4 := by
  have hbd : Below w3.heap.size w3 w3.drew := (Below.refl _ w3).drew
  refine (clone_bytes v b w3.heap.size w3.drew (hv.below hbd) (by omega)).mono ?_
  rintro e z ⟨x, rfl, hx, hbz⟩
  have hb3 : Below w3.heap.size w3 z := hbd.trans hbz
  have hbW : Below z.heap.size z (z.alloc (.cells #[.slice x.a x.n x.c] 102)) := (Below.refl _ _).alloc (Nat.le_refl _) _
  have hLz := hL.keep hb3
  have hRW := hLz.recs.keep hbW
  have hxW := hx.z.keep hbW
  obtain ⟨s2, w4, hrun, ho, hn, hu, hnw⟩ := own_sl1 (c := 1) hRW.own (heap_alloc_new z _) (Nat.zero_le _) (by omega)
  have hs3 : ∀ k, s.v.ownBlock = some k → k < w3.heap.size := fun k hk => (hL.recs.own.lt k hk).2
  have hR := hRW.push hxW (fun j hj e => by have := hs3 j e; have : w3.heap.size ≤ j := hj; omega) ho hn hu hnw
  have hbA := hb3.trans (hbW.mono hb3.size)
  have hq2 : q < (z.alloc (.cells #[.slice x.a x.n x.c] 102)).heap.size := Nat.lt_of_lt_of_le hL.lt hbA.size
  refine ⟨x, s2, w4, rfl, hrun _, Nat.lt_of_lt_of_le hL.lt hb3.size, hLz.cell.2.2.1, ?_, ?_, (Upd.of_below hbA _).trans hu (fun k _ e => e)⟩
  · rw [hu.block q hq2 (fun e => (hL.recs.zone q e).2 rfl), hbW.block q hLz.lt]; exact hLz.hd
  · refine hR.zoned (fun k hk hz => ?_)
    rcases hz with hz | hz | hz
    · exact .inl hz
    · exact .inr hz
    · exact .inr (by rw [hz]; exact hbA.size)
/-- And behind them. -/
theorem Pushed.log {w3 z w4 : World} {Zb : Nat → Prop} {b : List UInt8} {x s2 : Sl} (h : Pushed w3 z q p s vs L Zb b x s2 w4) (hq : Zb q) (hlt : q < w3.heap.size) (n : Nat) (m : Int) (hm : m = (n : Int)) :
    LogAt ((w4.setCell ⟨q, 2, none⟩ (.slice s2.a s2.n s2.c)).setCell ⟨q, 3, none⟩ (.int .i64 m)) (fun k => Zb k ∨ w3.heap.size ≤ k) q p s2 (vs ++ [x]) { L with recs := L.recs ++ [b], size := n } ∧ Upd w3 ((w4.setCell ⟨q, 2, none⟩ (.slice s2.a s2.n s2.c)).setCell ⟨q, 3, none⟩ (.int .i64 m)) (fun k => s.v.ownBlock = some k ∨ k = q) := by
  subst hm
  have hu : Upd w4 ((w4.setCell ⟨q, 2, none⟩ (.slice s2.a s2.n s2.c)).setCell ⟨q, 3, none⟩ (.int .i64 n)) (fun k => k = q) := (Upd.setCell w4 ⟨q, 2, none⟩ _).trans (Upd.setCell _ ⟨q, 3, none⟩ _) (fun _ _ h => h)
  refine ⟨⟨?_, ?_, .inl hq⟩, (h.upd.mono (fun k _ e => .inl e)).trans hu (fun k _ e => .inr e)⟩
  · rw [heap_set (heap_set h.hd 2 _) 3 _, LogM.head, LogV.set_2, LogV.set_3]
    rfl
  · have h2 : RecsAt w4 (fun k => (Zb k ∨ w3.heap.size ≤ k) ∧ k ≠ q) s2 (vs ++ [x]) (L.recs ++ [b]) := h.recs.zoned (fun k hk hz => hz.elim (fun hz => ⟨.inl hz.1, hz.2⟩) (fun hz => ⟨.inr hz, fun e => by omega⟩))
    exact h2.upd hu (fun k hk _ e => hk.2 e)
theorem append_big (v : Sl) (b : List UInt8) (hv : v.n = b.length) (hb : bigB b = true) (hb2 : b.length ≤ 1000000000) (x : Value) : Calls Try.prog 43 #[x, .slice v.a v.n v.c] w fun e w' => e = .returned (.int .i64 3) ∧ w = w' := by
  have hd : decide ((1048576 : Int) < (v.n : Int)) = true := decide_eq_true (by have := of_decide_eq_true hb; omega)
  clear hb hv
  go_enter Try.func43, Try.ntmps43
  go_wp2_with fail
  go_ret
  exact ⟨rfl, rfl⟩
theorem append_dead (v : Sl) (b : List UInt8) (hv : v.n = b.length) (hb : bigB b = false) (x : Value) (hx : Calls Try.prog 49 #[x] w fun e w' => e = .returned (.bool true) ∧ w = w') : Calls Try.prog 43 #[x, .slice v.a v.n v.c] w fun e w' => e = .returned (.int .i64 7) ∧ w = w' := by
  have hd : decide ((1048576 : Int) < (v.n : Int)) = false := decide_eq_false (by have := of_decide_eq_false hb; omega)
  clear hb hv
  go_enter Try.func43, Try.ntmps43
  go_wp2_with (go_at_call 49; refine hx.mono ?_; rintro e w1 ⟨rfl, rfl⟩)
  go_ret
  exact ⟨rfl, rfl⟩
set_option maxRecDepth 100000 in
set_option maxHeartbeats 2000000 in
theorem append_log (v : Sl) (b : List UInt8) (V : Nat → Prop) (hij : i ≠ j) (hS : fsAt w (zn own i) p M) (hM : M.small) (hM2 : (appM M L.name (frameS b)).small) (hL : LogAt w (zn own j) q p s vs L) (hd : L.dead = false) (hsz : L.size ≤ 1000000000) (hrn : L.recs.length ≤ 100000000)
    (hv : bytesZ w V v b) (hV : ∀ k, V k → own k ≠ i ∧ own k ≠ j) (hb : bigB b = false) :
    Calls Try.prog 43 #[.pointer (some ⟨q, 0, none⟩), .slice v.a v.n v.c] w fun e w' => ∃ (own' : Nat → Nat) (s' : Sl) (vs' : List Sl), e = .returned (.int .i64 (wapE M L b)) ∧ SameO own own' w.heap.size ∧ fsAt w' (zn own' i) p (wapM M L b) ∧ LogAt w' (zn own' j) q p s' vs' (wapL M L b) ∧ Upd w w' (fun k => own k = i ∨ own k = j) := by
  have hbl : b.length ≤ 1048576 := by have := of_decide_eq_false hb; omega
  have hfl : (frameS b).length ≤ 2000000 := by rw [frameS_length]; have := putS_le b.length; omega
  have hdead := dead_log hL
  rw [hd] at hdead
  have hvn : v.n = b.length := hv.1
  have d1 : decide ((1048576 : Int) < (v.n : Int)) = false := decide_eq_false (by omega)
  have hfr := framed_wal v b w hv.at (by omega)
  have HV := Lib.hid hv
  have HS := Lib.hid hS
  have HL := Lib.hid hL
  have HD := Lib.hid hd
  have HVN := Lib.hid hvn
  clear hv hS hL hd hb hvn
  go_enter Try.func43, Try.ntmps43
  go_wp2_with (go_at_call 49; refine hdead.mono ?_; rintro e w1 ⟨rfl, rfl⟩)
  refine hfr.mono ?_
  rintro e w1 ⟨⟨xa, xn, xc⟩, rfl, hx, hb1⟩
  have hL1 := HL.out.keep hb1
  have hS1 := HS.out.below hb1
  have hc := hL1.cell
  have hx1 := hx.bytes
  have hxc := hx.2.1
  have hxn : xn = (frameS b).length := hx.1
  have HX := Lib.hid hx1
  have hxn2 : xn ≤ 2000000 := by omega
  have HXN := Lib.hid hxn
  have HXC := Lib.hid hxc
  have HL1 := Lib.hid hL1
  have HS1 := Lib.hid hS1
  have HB1 := Lib.hid hb1
  obtain ⟨c0, c1, c2, c3, c4⟩ := hc
  clear hx hx1 hxc hxn hL1 hS1 hb1 hfr hdead d1
  go_upto_region 6 with fail
  refine wp_region_quiet_tail 9 (by kernel_rfl) (by kernel_rfl) ?_
  simp only [List.take_succ_cons, List.take_zero, List.drop_succ_cons, List.drop_zero]
  repeat (go_big_quiet_step (fail))
  refine wpQuiet_nil ?_
  intro nq
  obtain ⟨Y, hY⟩ : ∃ Y, Y = w1.drewN nq := ⟨_, rfl⟩
  rw [← hY]
  have hbY : Below w1.heap.size w1 Y := hY ▸ below_drewN (Below.refl _ _) nq
  clear hY c0 c1 c2 c3 c4
  have hap := append_fsZ L.name ⟨xa, xn, xc⟩ (frameS b) (HS1.out.below hbY) hM ((HX.out.below hbY).mono hbY.size) HXC.out (by omega)
  have hLY : LogAt Y (fun k => own k = j ∧ k < w.heap.size) q p s vs L := ((HL.out.zoned (fun k hk hz => ⟨hz, hk⟩)).keep HB1.out).keep hbY
  have huY : Upd w Y (fun k => own k = i ∨ own k = j) := Upd.of_below (HB1.out.trans (hbY.mono HB1.out.size)) _
  have HLY := Lib.hid hLY
  have HUY := Lib.hid huY
  obtain ⟨E1, hE1⟩ : ∃ E1, E1 = appE M L.name (frameS b).length := ⟨_, rfl⟩
  rw [← hE1] at hap
  have HE1 := Lib.hid hE1
  clear hbY hLY huY HX HL1 HS1 hE1
  by_cases h1 : E1 = 0
  · subst h1
    obtain ⟨M1, hM1⟩ : ∃ M1, M1 = appM M L.name (frameS b) := ⟨_, rfl⟩
    rw [← hM1] at hap hM2
    obtain ⟨E2, hE2⟩ : ∃ E2, E2 = hasE M1 L.name [] := ⟨_, rfl⟩
    have hwE : Hid (wapE M L b = E2) := by unfold Hid wapE; rw [← HE1.out, if_pos rfl, ← hM1, hE2]
    have hwM : Hid (wapM M L b = syncM M1 L.name) := by unfold Hid wapM; rw [← HE1.out, if_pos rfl, ← hM1]
    have HE2 := Lib.hid hE2
    clear hE2 hM1 HE1
    go_wp2_with (go_at_call 97; refine hap.mono ?_; rintro e w2 ⟨rfl, hS2, hu2⟩)
    have hL2 := HLY.out.upd hu2 (fun k hz _ e => hij ((show own k = i from e).symm.trans hz.1))
    have huw2 := HUY.out.trans hu2 (fun k _ e => .inl e)
    obtain ⟨c0, c1, c2, c3, c4⟩ := hL2.cell
    have HL2 := Lib.hid hL2
    have HU2 := Lib.hid huw2
    have HS2 := Lib.hid hS2
    clear hL2 huw2 hS2 hu2 hap
    refine wp_region_quiet_tail 8 (by kernel_rfl) (by kernel_rfl) ?_
    simp only [List.take_succ_cons, List.take_zero, List.drop_succ_cons, List.drop_zero]
    repeat (go_big_quiet_step (fail))
    refine wpQuiet_nil ?_
    intro nq2
    obtain ⟨Y2, hY2⟩ : ∃ Y2, Y2 = w2.drewN nq2 := ⟨_, rfl⟩
    rw [← hY2]
    have hbY2 : Below w2.heap.size w2 Y2 := hY2 ▸ below_drewN (Below.refl _ _) nq2
    clear hY2 c0 c1 c2 c3 c4
    have hsy := sync_fsZ L.name (HS2.out.below hbY2) hM2
    rw [← HE2.out] at hsy
    have hLY2 := HL2.out.keep hbY2
    have huY2 := HU2.out.trans (Upd.of_below hbY2 (fun _ => False)) (fun k _ hf => hf.elim)
    have hwY : w.heap.size ≤ Y.heap.size := HUY.out.size
    have HLY2 := Lib.hid hLY2
    have HUY2 := Lib.hid huY2
    clear hbY2 hLY2 huY2 HL2 HS2 HU2
    by_cases h2 : E2 = 0
    · subst h2
      have hwL : Hid (wapL M L b = { L with recs := L.recs ++ [b], size := L.size + (frameS b).length }) := by unfold Hid wapL; rw [hwE.out, if_pos rfl]
      go_wp2_with (go_at_call 99; refine hsy.mono ?_; rintro e w3 ⟨rfl, hS3, hu3⟩)
      have hZ2 : ∀ k, more (zn own i) Y k → own k = i ∨ w.heap.size ≤ k := fun k hz => hz.imp id (fun h => Nat.le_trans hwY h)
      have hL3 := HLY2.out.upd hu3 (fun k hz _ e => (hZ2 k e).elim (fun g => hij (g.symm.trans hz.1)) (fun g => by have := hz.2; omega))
      have hU3 := HUY2.out.trans hu3 (fun k hk e => .inl ((hZ2 k e).resolve_right (by omega)))
      have hv3 := (HV.out.upd hU3 (fun k hk _ e => e.elim (hV k hk).1 (hV k hk).2)).at
      have hcl := push_log v b hL3 hv3 (by omega) hrn
      obtain ⟨c0, c1, c2, c3, c4⟩ := hL3.cell
      have hq3 := hL3.lt
      have HL3 := Lib.hid hL3
      have HU3 := Lib.hid hU3
      have HS3 := Lib.hid hS3
      have HZ2 := Lib.hid hZ2
      clear hsy hS3 hu3 hL3 hU3 hv3 hZ2 c0 c1 c4
      go_region_law (first | (refine step_run rfl (.tmp 50) (.tmp 53) _ _ rfl _ _ (by simp [Act.eval, Act.put]) (by simp [Act.eval, Act.put]) HP.out.run ?_) | (go_simp; go_at_call 100; refine hcl.mono ?_; rintro e z ⟨x, s2, w4, rfl, hP⟩; have hz1 := hP.lt; have hz2 := hP.cz; have hc42 : w4.cell? ⟨q, 2, none⟩ = some (.slice s.a s.n s.c) := ((cells_known hP.hd).1 2).trans (LogV.arr_2 _); have hc43 : w4.cell? ⟨q, 3, none⟩ = some (.int .i64 L.size) := ((cells_known hP.hd).1 3).trans (LogV.arr_3 _); have hf42 := (cells_known hP.hd).2.1 2; have hf43 := (cells_known hP.hd).2.1 3; have HP := Lib.hid hP; clear hP))
      all_goals
        go_wp2_with fail
        go_ret
        have hqz := (HLY2.out.zone)
        obtain ⟨hLX, hUX⟩ := HP.out.log hqz hq3 (L.size + (frameS b).length) ((L.size : Int) + (xn : Int)) (by rw [HXN.out]; simp)
        refine ⟨setO (setO own w.heap.size i) w3.heap.size j, s2, vs ++ [x], by rw [hwE.out]; rfl, fun k hk => ?_, ?_, ?_, HU3.out.trans hUX (fun k hk e => ?_)⟩
        · have := HU3.out.size
          rw [setO_old (by omega), setO_old hk]
        · rw [hwM.out]
          have hS4 : fsAt w3 (fun k => setO (setO own w.heap.size i) w3.heap.size j k = i) p (syncM M1 L.name) := HS3.out.zone (fun k hk hz => by
            have hz3 := hz.elim (HZ2.out k) (fun h => .inr (Nat.le_trans HUY2.out.size h))
            rw [setO_old hk]
            by_cases hlt : k < w.heap.size
            · rw [setO_old hlt]; exact hz3.resolve_right (by omega)
            · rw [setO_new (by omega)])
          refine hS4.upd hUX (fun k hz hk e => ?_)
          have hw3 := HU3.out.size
          rcases e with e | e
          · have := (HL3.out.recs.zone k e).1
            rw [setO_old hk, setO_old this.2] at hz
            exact hij (hz.symm.trans this.1)
          · rw [e, setO_old hq3, setO_old hqz.2] at hz
            exact hij (hz.symm.trans hqz.1)
        · rw [hwL.out]
          refine hLX.zoned (fun k hk hz => ?_)
          show setO (setO own w.heap.size i) w3.heap.size j k = j
          rcases hz with hz | hz
          · have := HU3.out.size
            rw [setO_old (by have := hz.2; omega), setO_old hz.2]; exact hz.1
          · rw [setO_new hz]
        · rcases e with e | e
          · exact .inr (HL3.out.recs.zone k e).1.1
          · rw [e]; exact .inr hqz.1
    · have t1 : (E2 == 0) = false := by rw [beq_eq_false_iff_ne]; exact h2
      have hwL : Hid (wapL M L b = L.fail E2) := by unfold Hid wapL; rw [hwE.out, if_neg h2]
      have H2 := Lib.hid h2
      clear h2
      go_wp2_with (go_at_call 99; refine hsy.mono ?_; rintro e w3 ⟨rfl, hS3, hu3⟩)
      have hZ2 : ∀ k, more (zn own i) Y k → own k = i ∨ w.heap.size ≤ k := fun k hz => hz.imp id (fun h => Nat.le_trans hwY h)
      have hfe := fail_end (w := w) (own := own) (i := i) (j := j) (q := q) (s := s) (vs := vs) (L := L) E2 hij hS3 (fun k hz => hz.elim (hZ2 k) (fun h => .inr (Nat.le_trans HUY2.out.size h))) (HLY2.out.upd hu3 (fun k hz _ e => (hZ2 k e).elim (fun g => hij (g.symm.trans hz.1)) (fun g => by have := hz.2; omega))) (HUY2.out.trans hu3 (fun k hk e => .inl ((hZ2 k e).resolve_right (by omega))))
      clear hsy hS3 hu3
      go_wp2_with (go_at_call 98; refine hfe.mono ?_; rintro e w4 ⟨rfl, own', a1, a2, a3, a4⟩)
      go_ret
      exact ⟨own', s, vs, by rw [hwE.out]; rfl, a1, by rw [hwM.out]; exact a2, by rw [hwL.out]; exact a3, a4⟩
  · have t1 : (E1 == 0) = false := by rw [beq_eq_false_iff_ne]; exact h1
    have hwE : Hid (wapE M L b = E1) := by unfold Hid wapE; rw [← HE1.out, if_neg h1]
    have hwM : Hid (wapM M L b = appM M L.name (frameS b)) := by unfold Hid wapM; rw [← HE1.out, if_neg h1]
    have hwL : Hid (wapL M L b = L.fail E1) := by unfold Hid wapL; rw [hwE.out, if_neg h1]
    have H1 := Lib.hid h1
    clear h1
    go_wp2_with (go_at_call 97; refine hap.mono ?_; rintro e w2 ⟨rfl, hS2, hu2⟩)
    have hfe := fail_end (w := w) (own := own) (i := i) (j := j) (q := q) (s := s) (vs := vs) (L := L) E1 hij hS2 (fun k hz => hz.imp id (fun h => Nat.le_trans HUY.out.size h)) (HLY.out.upd hu2 (fun k hz _ e => hij ((show own k = i from e).symm.trans hz.1))) (HUY.out.trans hu2 (fun k _ e => .inl e))
    clear hap hS2 hu2
    go_wp2_with (go_at_call 98; refine hfe.mono ?_; rintro e w3 ⟨rfl, own', a1, a2, a3, a4⟩)
    go_ret
    exact ⟨own', s, vs, by rw [hwE.out]; rfl, a1, by rw [hwM.out]; exact a2, by rw [hwL.out]; exact a3, a4⟩
end
end Go.Proofs.Ytkiindgcbpkddaa
namespace Go.Proofs.Ytkiindgcbpkddaa
open Go.RowKit Go.Sort
section
variable {w w' : World} {Z : Nat → Prop} {q p : Nat} {s : Sl} {vs : List Sl} {L : LogM}
theorem records_log (h : LogAt w Z q p s vs L) (hr : L.recs.length ≤ 100000000) (hl : ∀ b ∈ L.recs, b.length ≤ 100000000) : Calls Try.prog 44 #[.pointer (some ⟨q, 0, none⟩)] w fun e w' => ∃ (s' : Sl) (vs' : List Sl), e = .returned (.slice s'.a s'.n s'.c) ∧ RecsAt w' (fun k => w.heap.size ≤ k) s' vs' L.recs ∧ Below w.heap.size w w' := by
  have hn := none_log h
  have c2 := h.cell.2.2.1
  have ho := own_wal _ s vs L.recs w h.recs.lists hr hl
  clear h
  go_enter Try.func44, Try.ntmps44
  go_wp2_with (first | (go_at_call 101; refine hn.mono ?_; rintro e w1 ⟨rfl, rfl⟩) | (go_at_call 102; refine ho.mono ?_; rintro e w2 ⟨s', vs', rfl, a1, a2⟩))
  go_ret
  exact ⟨s', vs', rfl, a1, a2⟩
theorem bytes_log (h : LogAt w Z q p s vs L) : Calls Try.prog 47 #[.pointer (some ⟨q, 0, none⟩)] w fun e w' => e = .returned (.int .i64 L.size) ∧ w = w' := by
  have hn := none_log h
  have c3 := h.cell.2.2.2.1
  clear h
  go_enter Try.func47, Try.ntmps47
  go_wp2_with (go_at_call 101; refine hn.mono ?_; rintro e w1 ⟨rfl, rfl⟩)
  go_ret
  exact ⟨rfl, rfl⟩
theorem records_nolog (w : World) : Calls Try.prog 44 #[.pointer none] w fun e w' => e = .returned (.slice none 0 0) ∧ w = w' := by
  have hn := none_nolog w
  go_enter Try.func44, Try.ntmps44
  go_wp2_with (go_at_call 101; refine hn.mono ?_; rintro e w1 ⟨rfl, rfl⟩)
  go_ret
  exact ⟨rfl, rfl⟩
theorem append_nolog (w : World) : Calls Try.prog 43 #[.pointer none, .slice none 0 0] w fun e w' => e = .returned (.int .i64 7) ∧ w = w' :=
  append_dead ⟨none, 0, 0⟩ [] rfl rfl (.pointer none) (dead_nolog w)
theorem takes_eq {A B : List (List UInt8)} {k : Nat} (hl : A.length = B.length) (h : A.take k = B.take k) (hk : A.length ≤ k) : A = B := by
  rw [List.take_of_length_le hk, List.take_of_length_le (by omega)] at h; exact h
theorem takes_succ {A B : List (List UInt8)} {k : Nat} (h : A.take k = B.take k) (ha : k < A.length) (hb : k < B.length) (he : A[k] = B[k]) : A.take (k + 1) = B.take (k + 1) := by
  rw [List.take_succ_eq_append_getElem ha, List.take_succ_eq_append_getElem hb, h, he]
set_option maxRecDepth 100000 in
set_option maxHeartbeats 1000000 in
theorem has_log {Y : Nat → Prop} (ws : Sl) (wvs : List Sl) (want : List (List UInt8)) (h : LogAt w Z q p s vs L) (hr : L.recs.length ≤ 100000000) (hl : ∀ b ∈ L.recs, b.length ≤ 100000000) (hw : listsZ w Y ws wvs want) :
    Calls Try.prog 42 #[.pointer (some ⟨q, 0, none⟩), .slice ws.a ws.n ws.c] w fun e w' => e = .returned (.bool (decide (L.recs = want))) ∧ Below w.heap.size w w' := by
  have hrc := records_log h hr hl
  obtain ⟨wa, wn, wc⟩ := ws
  have hwn : wn = want.length := hw.n
  subst hwn
  have hwl := hw.len
  have HW := Lib.hid hw
  clear h hw
  go_enter Try.func42, Try.ntmps42
  go_wp2_with fail
  refine hrc.mono ?_
  rintro e W ⟨⟨ra, rn, rc⟩, rvs, rfl, hR, hbW⟩
  have hrn : rn = L.recs.length := hR.n
  subst hrn
  have hRl := hR.lists
  have hrl := hRl.len
  have HR := Lib.hid hRl
  have HBW := Lib.hid hbW
  clear hrc hR hRl hbW
  by_cases hne : L.recs.length = want.length
  · have de : ((L.recs.length : Int) == (want.length : Int)) = true := by rw [beq_iff_eq, hne]
    have HNE := Lib.hid hne
    have hle : want.length ≤ L.recs.length := by omega
    have hle2 : L.recs.length ≤ want.length := by omega
    clear hne
    go_wp2_with fail
    go_loopw [6] (fun v wr => ∃ k : Nat, k ≤ L.recs.length ∧ v = .int .i64 k ∧ Hid (L.recs.take k = want.take k) ∧ Below W.heap.size W wr) (fun v _ => L.recs.length - (intOf v).toNat)
    case atStart => exact ⟨0, Nat.zero_le _, rfl, rfl, Below.refl _ _⟩
    case round =>
      obtain ⟨k, hk, rfl, htk, hb⟩ := hrel
      by_cases hlt : k < L.recs.length
      · have hlt2 : k < want.length := by omega
        obtain ⟨b1, o1, ha1, _, hb1, hc1⟩ := HR.out.cells (by intro e; rw [e] at hlt; simp at hlt)
        obtain ⟨b2, o2, ha2, _, hb2, hc2⟩ := HW.out.cells (by intro e; rw [e] at hlt2; simp at hlt2)
        simp only at ha1 ha2
        subst ha1 ha2
        have e1 := (HR.out.el k hlt (by omega)).keep hb
        have e2 := ((HW.out.el k hlt2 (by omega)).keep HBW.out).keep hb
        have cc1 := (hb.cell (p := ⟨b1, o1 + k, none⟩) hb1).trans (hc1 k (by omega))
        have cc2 := (hb.cell (p := ⟨b2, o2 + k, none⟩) (Nat.lt_of_lt_of_le hb2 HBW.out.size)).trans ((HBW.out.cell (p := ⟨b2, o2 + k, none⟩) hb2).trans (hc2 k (by omega)))
        obtain ⟨u1, hu1⟩ : ∃ u, u = rvs[k]'(by omega) := ⟨_, rfl⟩
        obtain ⟨u2, hu2⟩ : ∃ u, u = wvs[k]'(by omega) := ⟨_, rfl⟩
        obtain ⟨x1, hx1⟩ : ∃ x, x = L.recs[k] := ⟨_, rfl⟩
        obtain ⟨x2, hx2⟩ : ∃ x, x = want[k] := ⟨_, rfl⟩
        rw [← hu1] at cc1 e1
        rw [← hu2] at cc2 e2
        rw [← hx1] at e1
        rw [← hx2] at e2
        have hlb1 : b1 < wr.heap.size := Nat.lt_of_lt_of_le hb1 hb.size
        have hlb2 : b2 < wr.heap.size := Nat.lt_of_lt_of_le (Nat.lt_of_lt_of_le hb2 HBW.out.size) hb.size
        have hs1 : ∀ (d : Nat) (os : Array Obj), (convert 102 9 (.slice u1.a u1.n u1.c)).run Try.prog (grow (redrawn wr d) os) = .ok (.string ⟨x1.toArray⟩) (grow (redrawn wr d) os) := fun d os => bytesAt_str (e1.keep (below_regrown wr d os)).at
        have hs2 : ∀ (d : Nat) (os : Array Obj), (convert 102 9 (.slice u2.a u2.n u2.c)).run Try.prog (grow (redrawn wr d) os) = .ok (.string ⟨x2.toArray⟩) (grow (redrawn wr d) os) := fun d os => bytesAt_str (e2.keep (below_regrown wr d os)).at
        have HX1 := Lib.hid hx1
        have HX2 := Lib.hid hx2
        have dlt : decide ((k : Int) < (L.recs.length : Int)) = true := decide_eq_true (by omega)
        clear hx1 hx2 hu1 hu2 e1 e2 hc1 hc2
        by_cases hx : x1 = x2
        · have hxb : (x1 == x2) = true := by rw [beq_iff_eq]; exact hx
          have HX := Lib.hid hx
          clear hx
          go_wp2_with fail
          refine wp_region_below (by kernel_rfl) (by kernel_rfl) ?_
          repeat (go_big_quiet_step ((fail)))
          refine wpQuiet_nil ?_
          intro w2 hb_w2
          obtain ⟨hc_w2, hf_w2, hr_w2⟩ := bcell hb_w2
          go_wp2_with fail
          go_roundw
          case rel => exact ⟨k + 1, by omega, by go_num, takes_succ htk.out hlt hlt2 (by rw [← HX1.out, ← HX2.out, HX.out]), hb.trans (hb_w2.mono hb.size)⟩
          case measure => simp [intOf]; omega
        · have hxb : (x1 == x2) = false := by rw [beq_eq_false_iff_ne]; exact hx
          have HX := Lib.hid hx
          clear hx
          go_wp2_with fail
          refine wp_region_below (by kernel_rfl) (by kernel_rfl) ?_
          repeat (go_big_quiet_step ((fail)))
          refine wpQuiet_nil ?_
          intro w2 hb_w2
          obtain ⟨hc_w2, hf_w2, hr_w2⟩ := bcell hb_w2
          have hne : Hid (¬ L.recs = want) := fun e => HX.out (by rw [HX1.out, HX2.out]; simp only [e])
          go_wp2_with fail
          go_ret
          exact ⟨by rw [decide_eq_false hne.out]; rfl, HBW.out.trans ((hb.trans (hb_w2.mono hb.size)).mono HBW.out.size)⟩
      · have HE : Hid (L.recs = want) := takes_eq HNE.out htk.out (by omega)
        go_wp2_with fail
        go_ret
        exact ⟨by rw [decide_eq_true HE.out]; rfl, HBW.out.trans (hb.mono HBW.out.size)⟩
  · have de : ((L.recs.length : Int) == (want.length : Int)) = false := by rw [beq_eq_false_iff_ne]; omega
    have HE : Hid (¬ L.recs = want) := fun e => hne (by rw [e])
    clear hne
    go_wp2_with fail
    go_ret
    exact ⟨by rw [decide_eq_false HE.out]; rfl, HBW.out⟩
end
end Go.Proofs.Ytkiindgcbpkddaa
