/- WalCrash: a place of files behind crashes. -/
import Derived.Test.YtkiindgcbpkddaaWalH
set_option linter.unusedSimpArgs false
set_option linter.unusedVariables false
namespace Go.Proofs.Ytkiindgcbpkddaa
open Go.RowKit Go.Sort
theorem wpList_run8 {P : Program} {w : World} {ops : Array Oper} {rest : List Oper} {o : Oper} {a : Act} {Q : Exit → Act → World → Prop} (hgd : o.guard = none) (s x : Operand) (t tx : TypeId)
    (ho : o.op = .call { callee := .builtin .append, args := #[s, x], argTypes := #[t, tx] }) (v u : Value) (hs : a.eval s = v) (hx : a.eval x = u) {v' : Value} {w' : World} (hr : (Builtin.append_ #[t, tx] o.type #[v, u]).run P w = .ok v' w')
    (hK : wpList P ops Q rest (a.put o.dst v') w') : wpList P ops Q (o :: rest) a w := by
  refine wpList_plain hgd fun K' hK' => ?_
  unfold Oper.wp execOp
  simp only [ho, resolve, invoke, builtin, Sem.run_bind, Sem.run_pure, Result.andThen_ok, List.map_toArray, List.map_cons, List.map_nil, hs, hx, hr]
  exact hK' _ _ hK
def onB : List UInt8 := [111, 110]
theorem on_const (w : World) (fr : Nat × Nat) (C : Array Value) (hC : C = (byteVs onB).toArray) : bytesZ (w.alloc (.cells C 5 fr)) (fun k => k = w.heap.size) ⟨some ⟨w.heap.size, 0, none⟩, 2, 2⟩ onB := by
  have h := bytes_const w C fr onB 2 2 rfl hC
  refine ⟨h.1, Nat.le_refl _, fun hl => ?_⟩
  obtain ⟨b, off, ha, hb, hc⟩ := h.2 hl
  simp only [Option.some.injEq, Addr.mk.injEq, and_true] at ha
  exact ⟨b, off, by rw [ha.1, ha.2], ha.1.symm, hb, hc⟩
theorem Few.on {r : List (List UInt8)} (h : Few 1000 r) : Few 1001 (r ++ [onB]) := by
  refine ⟨by have := h.1; simp; omega, fun b hb => ?_⟩
  rcases List.mem_append.1 hb with h2 | h2
  · exact h.2 b h2
  · rw [List.mem_singleton.1 h2]; decide
/-- Files in a place, the power going or not. -/
structure Plc (W0 w : World) (own : Nat → Nat) (i p : Nat) (M : FsM) (n : Nat) : Prop where
  fs : fsAt w (zn own i) p M
  lit : Lit M n
  i : i ≠ 0
  fresh : Fresh own W0.heap.size
  below : Below W0.heap.size W0 w
section
variable {W0 w w' : World} {own : Nat → Nat} {i p : Nat} {M : FsM} {n j q : Nat} {L : LogM}
theorem ints_num {s : Sl} {l : List Int} (h : s.n = l.length ∧ s.n ≤ s.c ∧ (l ≠ [] → ∃ b off, s.a = some ⟨b, off, none⟩ ∧ b < W0.heap.size ∧ ∀ k (h : k < l.length), W0.cell? ⟨b, off + k, none⟩ = some (.int .i64 l[k]))) (hb : Below W0.heap.size W0 w) : numsAt w s l w.heap.size :=
  ⟨h.1, h.2.1, fun hne => by
    obtain ⟨b, off, e, hlt, hc⟩ := h.2.2 hne
    exact ⟨b, off, e, Nat.lt_of_lt_of_le hlt hb.size, fun k hk => (hb.cell (p := ⟨b, off + k, none⟩) hlt).trans (hc k hk)⟩⟩
theorem Uno.plc (h : Uno W0 w own p M n j q L) : Plc W0 w own 1 p M n := ⟨h.fs, h.lit, by decide, h.fresh, h.below⟩
theorem Plc.keep (h : Plc W0 w own i p M n) (hb : Below w.heap.size w w') : Plc W0 w' own i p M n := ⟨h.fs.below hb, h.lit, h.i, h.fresh, h.below.trans (hb.mono h.below.size)⟩
theorem Plc.retag (h : Plc W0 w own i p M n) : Plc W0 w (setO own w.heap.size 0) i p M n := ⟨h.fs.retag (Nat.le_refl _) 0, h.lit, h.i, h.fresh.setO h.below.size 0, h.below⟩
theorem Plc.crash (h : Plc W0 w own i p M n) (i' : Nat) (hi : i' ≠ 0) (hn : n ≤ 1000000000) (pv : Sl) (ps : List Int) (hps : numsAt w pv ps w.heap.size) (hpw : ∀ q ∈ ps, i64 q) :
    Calls Try.prog 46 #[.pointer (some ⟨p, 0, none⟩), .slice pv.a pv.n pv.c] w fun e w' => ∃ q ns, e = .returned (.pointer (some ⟨q, 0, none⟩)) ∧ NamesOf M ns ∧ ∃ own', Plc W0 w' own' i' q (crashM M ns ps) n ∧ Pow (crashM M ns ps) n ∧ Keep0 own own' w w' := by
  refine (crash_file _ p M pv ps w h.fs (h.lit.small hn) hps hpw).mono ?_
  rintro e w' ⟨q, ns, rfl, hns, hF, hb⟩
  have hP : Pow (crashM M ns ps) n := (Pow.crash hns).mono (Nat.le_trans hns.few h.lit.few)
  exact ⟨q, ns, rfl, hns, setO own w.heap.size i', ⟨hF.zone (fun k _ hz => setO_new hz), hP.lit, hi, h.fresh.setO h.below.size i', h.below.trans (hb.mono h.below.size)⟩, hP, ⟨fun g hg => setO_old hg, Upd.of_below hb _⟩⟩
theorem Plc.cut (h : Plc W0 w own i p M n) (x : Int) (hx : x ≤ 9223372036854775807) :
    Calls Try.prog 48 #[.pointer (some ⟨p, 0, none⟩), .int .i64 x] w fun e w' => e = .returned (.tuple #[]) ∧ ∃ own', Plc W0 w' own' i p (cutM M x) n ∧ Keep0 own own' w w' := by
  refine (cut_fsZ x h.fs).mono ?_
  rintro e w' ⟨rfl, b2, b4⟩
  have b1 : SameO own (setO own w.heap.size i) w.heap.size := fun g hg => setO_old hg
  have b5 : Upd w w' (fun k => own k = i) := b4
  exact ⟨rfl, setO own w.heap.size i, ⟨b2.zone (fun g _ hz => setO_more hz), h.lit.cut x hx, h.i, h.fresh.same b1 h.below.size, h.below.trans (h.fresh.below b5 h.i h.below.size)⟩,
    b1, b5.mono (fun k _ e => by rw [e]; exact h.i)⟩
theorem Plc.open_any (h : Plc W0 w own i p M n) (s : Nm) (h40 : s.1.size ≤ 40) (h1 : 1 ≤ s.1.size) (hn : n + 1 ≤ 1000000000) :
    Calls Try.prog 39 #[.pointer (some ⟨p, 0, none⟩), .string s.1] w fun e w' => ∃ x y, e = .returned (.tuple #[.pointer x, .int .i64 y]) ∧ ∃ own', Plc W0 w' own' i p (opM M s h40) (n + 2) ∧ Keep0 own own' w w' := by
  obtain ⟨c1, c2⟩ := h.lit.opn s h40
  refine (open_wal (j := i + 1) s h40 h1 (by omega) h.fs (h.lit.small (by omega)) (c1.small (by omega))).mono ?_
  rintro e w' ⟨own', b1, b2, b3, b4⟩
  have hK : ∃ own', Plc W0 w' own' i p (opM M s h40) (n + 2) ∧ Keep0 own own' w w' :=
    ⟨own', ⟨b2, c2, h.i, h.fresh.same b1 h.below.size, h.below.trans (h.fresh.below b3 h.i h.below.size)⟩, b1, b3.mono (fun k _ e => by rw [e]; exact h.i)⟩
  rcases b4 with ⟨_, q, sl, vs, rfl, _⟩ | ⟨_, rfl⟩
  · exact ⟨_, _, rfl, hK⟩
  · exact ⟨_, _, rfl, hK⟩
theorem Plc.open_torn (h : Plc W0 w own i p M n) (hP : Pow M n) (j : Nat) (hij : i ≠ j) (s : Nm) (h40 : s.1.size ≤ 40) (h1 : 1 ≤ s.1.size) (hn : n + 1 ≤ 1000000000) {r : List (List UInt8)} (ht : TornAt M s r) (hr : ∀ b ∈ r, b.length ≤ 1048576) :
    Calls Try.prog 39 #[.pointer (some ⟨p, 0, none⟩), .string s.1] w fun e w' => ∃ q, e = .returned (.tuple #[.pointer (some ⟨q, 0, none⟩), .int .i64 0]) ∧ ∃ own' M', Plc W0 w' own' i p M' (n + 2) ∧ Pow M' (n + 2) ∧ OneLog w' own' j q p ⟨s, r, (framesS r).length, false⟩ ∧ LogOk M' ⟨s, r, (framesS r).length, false⟩ ∧ Keep0 own own' w w' := by
  obtain ⟨a1, a2, a3, a4, a5⟩ := ht.open_ok hP h40 h1 hr
  refine (open_wal (j := j) s h40 h1 hij h.fs (h.lit.small (by omega)) (a2.lit.small (by omega))).mono ?_
  rintro e w' ⟨own', b1, b2, b3, b4⟩
  rcases b4 with ⟨_, q, sl, vs, rfl, b5⟩ | ⟨hne, _⟩
  · rw [a4] at b5
    exact ⟨q, rfl, own', opM M s h40, ⟨b2, a3.lit, h.i, h.fresh.same b1 h.below.size, h.below.trans (h.fresh.below b3 h.i h.below.size)⟩, a3, ⟨sl, vs, b5⟩, a5, b1, b3.mono (fun k _ e => by rw [e]; exact h.i)⟩
  · exact absurd a1 hne
theorem Plc.append {V : Nat → Prop} {v : Sl} {b : List UInt8} (h : Plc W0 w own i p M n) (hP : Pow M n) (hj : j ≠ 0) (hij : i ≠ j) (hL : OneLog w own j q p L) (hO : LogOk M L) (hn : n + 2 ≤ 1000000000) (hv : bytesZ w V v b) (hV : ∀ k, V k → own k = 0) (hb : b.length ≤ 1048576) (hsz : (framesS (L.recs ++ [b])).length ≤ 16777216) :
    Calls Try.prog 43 #[.pointer (some ⟨q, 0, none⟩), .slice v.a v.n v.c] w fun e w' => e = .returned (.int .i64 0) ∧ ∃ own', Plc W0 w' own' i p (wapM M L b) (n + 2) ∧ OneLog w' own' j q p (L.put b) ∧ Keep0 own own' w w' := by
  refine (log_append hij h.fs hP hL hO hn hv (fun k hk => by rw [hV k hk]; exact ⟨h.i.symm, hj.symm⟩) hb hsz).mono ?_
  rintro e w' ⟨rfl, own', b1, b2, b3, b4⟩
  exact ⟨rfl, own', ⟨b2, h.lit.wap L b, h.i, h.fresh.same b1 h.below.size, h.below.trans (h.fresh.below2 b4 h.i hj h.below.size)⟩, b3, b1, b4.mono (fun k _ e => e.elim (fun e => by rw [e]; exact h.i) (fun e => by rw [e]; exact hj))⟩
end
end Go.Proofs.Ytkiindgcbpkddaa
