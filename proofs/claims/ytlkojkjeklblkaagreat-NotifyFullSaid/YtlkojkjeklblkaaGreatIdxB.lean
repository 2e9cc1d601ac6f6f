/- Places as keys of maps; lists of structs in memory, in a zone. Copies: lists of structs in memory of their own; a transaction in memory of its own. -/
import Derived.Test.YtlkojkjeklblkaaGreatKeys
import Derived.Test.YtlkojkjeklblkaaGreatMapE
import Derived.Test.YtlkojkjeklblkaaGreatBytes
import Derived.Test.YtlkojkjeklblkaaGreatTxC
import Derived.Test.YtlkojkjeklblkaaGreatTxJ
import Derived.Test.YtlkojkjeklblkaaGreatStore
import Derived.Maps.AppendAt
import Derived.Deep.DeepCutAuto
import Derived.Deep.CutBlock
import Derived.Deep.RegionHeld3
import Derived.Deep.RegionLaw
set_option linter.unusedSimpArgs false
set_option linter.unusedVariables false
namespace Go.Proofs.YtlkojkjeklblkaaGreat
open Go.RowKit
open Go.Maps (Keyed)
theorem ptLt : (40 : TypeId) < Tryz.prog.types.size := of_decide_eq_true (by kernel_rfl)
theorem keyTypePt : Tryz.prog.keyType 40 = true := by kernel_rfl
theorem cellsPt : Tryz.prog.cellsOf 40 = 33 := by kernel_rfl
theorem cellsInt : Tryz.prog.cellsOf 3 = 1 := by kernel_rfl
theorem pt_keyed : Keyed Tryz.prog 40 := .of_law (deep_law_laid laid_out (m := 3) (by omega) ptLt (by kernel_rfl) (by rw [Tryz.underlying40]))
/-- A place, as Go may have it. -/
abbrev Pt := { q : Outpoint // i64 q.n }
def ptV (q : Pt) : Value := .agg q.1.arr
theorem int_lits (d : Nat) (n : Int) (h : i64 n) : Tryz.prog.keyLits (d + 1) 3 [.int .i64 n] = some [.int .i64 n] := by
  have hw : (Lit.int .i64 n).wf = true := by
    obtain ⟨h1, h2⟩ := h
    simp [Lit.wf, IntKind.min, IntKind.max, IntKind.bits, IntKind.signed]; omega
  simp only [Program.keyLits, Tryz.underlying3]
  rw [if_pos ⟨trivial, hw⟩]
theorem keyLits_struct {P : Program} {t : TypeId} {fs : Array Field} (hu : P.underlying t = some (.struct fs)) (d : Nat) (cs : List Value) (h : cs.length = P.cellsOf t) (hn : fs.all (·.name != "_") = true) :
    P.keyLits (d + 1) t cs = (fs.toList.mapM fun f => P.keyLits d f.type ((cs.drop f.offset).take (P.cellsOf f.type))).map List.flatten := by
  rw [Program.keyLits.eq_def]; simp only [hu, h, hn, and_self, if_true]
theorem pt_reads (q : Pt) : ∃ l, keyOf Tryz.prog 40 (ptV q) = some l := by
  obtain ⟨d, hd⟩ : ∃ d, Tryz.prog.types.size = d + 2 := ⟨Tryz.prog.types.size - 2, by have : (2 : Nat) < Tryz.prog.types.size := of_decide_eq_true (by kernel_rfl); omega⟩
  obtain ⟨l, hl⟩ := hash_lits (d + 1) d rfl q.1.tx
  have hn := int_lits (d + 1) q.1.n q.2
  have hf : (Value.agg q.1.arr).formed Tryz.prog 40 = true := by
    simp only [Value.formed, Tryz.underlying40, cellsPt]
    simp
  have hlen : q.1.arr.toList.length = 33 := by simp
  have e1 : (q.1.arr.toList.drop 0).take 32 = q.1.tx.arr.toList := by
    show ((q.1.tx.arr.toList ++ [Value.int .i64 q.1.n]).drop 0).take 32 = _
    rw [List.drop_zero, List.take_left' (by simp)]
  have e2 : (q.1.arr.toList.drop 32).take 1 = [Value.int .i64 q.1.n] := by
    show ((q.1.tx.arr.toList ++ [Value.int .i64 q.1.n]).drop 32).take 1 = _
    rw [List.drop_left' (by simp)]
    rfl
  refine ⟨.string (keyBytes (l ++ [.int .i64 q.1.n])), ?_⟩
  rw [keyOf, Tryz.underlying40]
  simp only [ptV, keyTypePt, hf, Bool.and_self, if_true, Value.cells]
  have : Tryz.prog.keyLits (Tryz.prog.types.size + 1) 40 q.1.arr.toList = some (l ++ [.int .i64 q.1.n]) := by
    rw [hd, keyLits_struct Tryz.underlying40 (d + 2) _ (by rw [cellsPt]; exact hlen) (by kernel_rfl)]
    simp only [List.mapM_cons, List.mapM_nil, cells30, cellsInt, e1, e2, hl, hn, show d + 2 = (d + 1) + 1 from rfl]
    simp
  rw [this]
  rfl
theorem ptV_inj {x y : Pt} (h : ptV x = ptV y) : x = y := by
  unfold ptV at h
  have h1 : x.1.arr = y.1.arr := by injection h
  have h2 : x.1.arr.toList = y.1.arr.toList := by rw [h1]
  change (x.1.tx.arr.toList ++ [Value.int .i64 x.1.n] : List Value) = y.1.tx.arr.toList ++ [Value.int .i64 y.1.n] at h2
  have h3 := List.append_inj h2 (by simp)
  have h4 : x.1.tx = y.1.tx := hashV_inj (by unfold hashV; congr 1; exact Array.ext' h3.1)
  have h5 : x.1.n = y.1.n := by have := h3.2; simpa using this
  apply Subtype.ext
  obtain ⟨⟨a, b⟩, _⟩ := x
  obtain ⟨⟨c, d⟩, _⟩ := y
  simp only at h4 h5
  subst h4 h5
  rfl
theorem pt_enc : KeyEnc Tryz.prog 40 ptV := ⟨pt_keyed, pt_reads, ptV_inj⟩
/-! ### lists of structs, in a zone -/
/-- A slice's value that reads as l, all of it in the zone. -/
def slIn {α : Type} (w : World) (Z : Nat → Prop) (s : Sl) (sz : Nat) (enc : α → Array Value) (l : List α) : Prop :=
  s.n = l.length ∧ s.n ≤ s.c ∧ s.c ≤ maxLen ∧ (l ≠ [] → ∃ b off, s.a = some ⟨b, off, none⟩ ∧ Z b ∧ b < w.heap.size ∧ ∀ k (h : k < l.length), row? w ⟨b, off + k * sz, none⟩ sz = some (enc l[k]))
section
variable {α : Type} {w w' : World} {Z Y : Nat → Prop} {s : Sl} {sz : Nat} {enc : α → Array Value} {l : List α}
theorem slIn.upd {S : Nat → Prop} (h : slIn w Z s sz enc l) (hu : Upd w w' S) (hs : ∀ k, Z k → k < w.heap.size → ¬ S k) : slIn w' Z s sz enc l := by
  refine ⟨h.1, h.2.1, h.2.2.1, fun hne => ?_⟩
  obtain ⟨b, off, ha, hz, hb, hr⟩ := h.2.2.2 hne
  exact ⟨b, off, ha, hz, Nat.lt_of_lt_of_le hb hu.size, fun k hk => (row?_of_block (hu.block b hb (hs b hz hb)) sz).trans (hr k hk)⟩
theorem slIn.below {B : Nat} (h : slIn w Z s sz enc l) (hb : Below B w w') (hZ : ∀ k, Z k → k < w.heap.size → k < B) : slIn w' Z s sz enc l := by
  refine ⟨h.1, h.2.1, h.2.2.1, fun hne => ?_⟩
  obtain ⟨b, off, ha, hz, hl, hr⟩ := h.2.2.2 hne
  exact ⟨b, off, ha, hz, Nat.lt_of_lt_of_le hl hb.size, fun k hk => (row?_below hb (a := ⟨b, _, none⟩) (hZ b hz hl) sz).trans (hr k hk)⟩
theorem slIn.zone (h : slIn w Z s sz enc l) (hY : ∀ k, k < w.heap.size → Z k → Y k) : slIn w Y s sz enc l := by
  refine ⟨h.1, h.2.1, h.2.2.1, fun hne => ?_⟩
  obtain ⟨b, off, ha, hz, hl, hr⟩ := h.2.2.2 hne
  exact ⟨b, off, ha, hY b hl hz, hl, hr⟩
theorem slIn.isSl (h : slIn w Z s sz enc l) : isSl w s sz enc l w.heap.size := by
  refine ⟨h.1, h.2.1, fun hne => ?_⟩
  obtain ⟨b, off, ha, hz, hl, hr⟩ := h.2.2.2 hne
  exact ⟨b, off, ha, hl, hr⟩
theorem slIn_nil (w : World) (Z : Nat → Prop) (sz : Nat) (enc : α → Array Value) : slIn w Z ⟨none, 0, 0⟩ sz enc ([] : List α) := ⟨rfl, Nat.le_refl _, Nat.zero_le _, fun h => absurd rfl h⟩
theorem isSl.slIn (h : Go.Proofs.YtlkojkjeklblkaaGreat.isSl w s sz enc l w.heap.size) (hc : s.c ≤ maxLen) : slIn w (fun _ => True) s sz enc l := by
  refine ⟨h.1, h.2.1, hc, fun hne => ?_⟩
  obtain ⟨b, off, ha, hl, hr⟩ := h.2.2 hne
  exact ⟨b, off, ha, trivial, hl, hr⟩
end
/-- A value that reads as a transaction, its lists in the zone. -/
def txIn (w : World) (Z : Nat → Prop) (v : TxV) (t : Tx) : Prop := slIn w Z v.ins 37 In.arr t.ins ∧ slIn w Z v.outs 39 Out.arr t.outs ∧ v.lock = t.lock
section
variable {w w' : World} {Z Y : Nat → Prop} {v : TxV} {t : Tx}
theorem txIn.upd {S : Nat → Prop} (h : txIn w Z v t) (hu : Upd w w' S) (hs : ∀ k, Z k → k < w.heap.size → ¬ S k) : txIn w' Z v t := ⟨h.1.upd hu hs, h.2.1.upd hu hs, h.2.2⟩
theorem txIn.below {B : Nat} (h : txIn w Z v t) (hb : Below B w w') (hZ : ∀ k, Z k → k < w.heap.size → k < B) : txIn w' Z v t := ⟨h.1.below hb hZ, h.2.1.below hb hZ, h.2.2⟩
theorem txIn.keep (h : txIn w Z v t) (hb : Below w.heap.size w w') : txIn w' Z v t := h.below hb (fun _ _ h => h)
theorem txIn.zone (h : txIn w Z v t) (hY : ∀ k, k < w.heap.size → Z k → Y k) : txIn w Y v t := ⟨h.1.zone hY, h.2.1.zone hY, h.2.2⟩
theorem txIn.isTx (h : txIn w Z v t) : isTx w v t w.heap.size := ⟨h.1.isSl, h.2.1.isSl, h.2.2⟩
end
end Go.Proofs.YtlkojkjeklblkaaGreat
namespace Go.Proofs.YtlkojkjeklblkaaGreat
open Go.RowKit
theorem wpList_app {P : Program} {w : World} {ops : Array Oper} {rest : List Oper} {o : Oper} {a : Act} {Q : Exit → Act → World → Prop} (hgd : o.guard = none) (s x : Operand) (t tx : TypeId)
    (ho : o.op = .call { callee := .builtin .append, args := #[s, x], argTypes := #[t, tx] }) (v u : Value) (hs : a.eval s = v) (hx : a.eval x = u) {v' : Value} {w' : World} (hr : (Builtin.append_ #[t, tx] o.type #[v, u]).run P w = .ok v' w')
    (hK : wpList P ops Q rest (a.put o.dst v') w') : wpList P ops Q (o :: rest) a w := by
  refine wpList_plain hgd fun K' hK' => ?_
  unfold Oper.wp execOp
  simp only [ho, resolve, invoke, builtin, Sem.run_bind, Sem.run_pure, Result.andThen_ok, List.map_toArray, List.map_cons, List.map_nil, hs, hx, hr]
  exact hK' _ _ hK
/-- A list that a slice has for its own lies in its zone. -/
theorem slIn_own {α : Type} {w : World} {base : Nat} {e : TypeId} {n : Nat} {enc : α → Array Value} {s : Sl} {l : List α} (hn : 0 < n) (he : ∀ x, (enc x).size = n) (h : w.ownsRow base e n s.v l.length (vsOf enc l)) (hl : s.n = l.length) : slIn w (fun k => base ≤ k) s n enc l := by
  have h1 := isSl_own hn he h hl
  obtain ⟨sa, sn, sc⟩ := s
  rcases h.2 with ⟨hv, h0⟩ | ⟨g, cap, cur, hv, hg, hh, hnc, hm, hsz, ht⟩
  · unfold Sl.v at hv
    injection hv with q1 q2 q3
    subst q1 q3
    exact ⟨h1.1, h1.2.1, Nat.zero_le _, fun hne => absurd (List.eq_nil_of_length_eq_zero h0) hne⟩
  · unfold Sl.v at hv
    injection hv with q1 q2 q3
    subst q1 q3
    refine ⟨h1.1, h1.2.1, hm, fun hne => ?_⟩
    obtain ⟨b, off, ha, hl, hr⟩ := h1.2.2 hne
    cases ha
    exact ⟨g, 0, rfl, hg, hl, hr⟩
theorem vsOf_get {α : Type} (enc : α → Array Value) (n : Nat) (hn : 0 < n) (he : ∀ x, (enc x).size = n) (l : List α) (j : Nat) (u : Value) (h : (vsOf enc l)[j]? = some u) : ∃ (hk : j / n < l.length), (enc l[j / n])[j % n]? = some u := by
  have hj : j < l.length * n := by
    have := (List.getElem?_eq_some_iff.1 h).1
    rwa [vsOf_length enc n he] at this
  have hk : j / n < l.length := Nat.div_lt_of_lt_mul (by rw [Nat.mul_comm]; exact hj)
  refine ⟨hk, ?_⟩
  have h2 := vsOf_at enc n he l (j / n) hk
  have h3 : (((vsOf enc l).drop (j / n * n)).take n)[j % n]? = some u := by
    rw [List.getElem?_take, if_pos (Nat.mod_lt _ hn), List.getElem?_drop]
    rw [show j / n * n + j % n = j by rw [Nat.mul_comm]; exact Nat.div_add_mod j n]
    exact h
  rw [h2] at h3
  rw [← Array.getElem?_toList]
  exact h3
section
variable {P : Program}
theorem run_buildSlice_nil {t e : TypeId} {n : Nat} (hu : P.underlying t = some (.slice e)) (hi : (P.info? e).map (·.size) = some n) (w : World) : (Instr.buildSlice t 0 #[]).run P w = .ok (.slice (some ⟨w.heap.size, 0, none⟩) 0 0) (w.alloc (.cells #[] e)) := by
  have hs := sizeOf_run (P := P) (t := e) (n := n) hi
  unfold Instr.buildSlice
  have e0 : Array.range 0 = #[] := rfl
  simp only [Sem.run_bind, run_underlying hu, Result.andThen_ok, hs, Nat.zero_mul, show ¬ (0 > 2 ^ 24) by omega, if_false, if_true, Sem.run_pure, e0, Array.map_empty, Instr.fill, newRow, run_newObj_alloc]
/-- 'append' of a whole list onto an empty slice that was just made. -/
theorem run_clone {α : Type} (enc : α → Array Value) (n bytes : Nat) (hn : 0 < n) (he : ∀ x, (enc x).size = n) (h1 : ∀ x, ∀ v ∈ (enc x).toList, v.oneCell' = true) (t ty e : TypeId) (i : TypeInfo) (z : Value) (ht : P.underlying t = some (.slice e))
    (hi : P.info? e = some i) (hz : i.zero = some z) (hsize : i.size = n) (hby : i.bytes = bytes) (hzs : z.cells.size = n) (hbb : bytes ≤ 1000) (a : Addr) (c : Nat) (l : List α) (w : World) (h : isSl w ⟨some a, l.length, c⟩ n enc l w.heap.size) (hlen : l.length ≤ 1000000) :
    ∃ (s' : Sl) (w' : World), (Builtin.append_ #[t, t] ty #[.slice (some ⟨w.heap.size, 0, none⟩) 0 0, .slice (some a) l.length c]).run P (w.alloc (.cells #[] e)) = .ok (.slice s'.a s'.n s'.c) w' ∧ slIn w' (fun k => w.heap.size ≤ k) s' n enc l ∧ Below w.heap.size w w' := by
  have hbV : Below w.heap.size w (w.alloc (.cells #[] e)) := (Below.refl _ _).alloc (Nat.le_refl _) _
  have hown : (w.alloc (.cells #[] e)).ownsRow w.heap.size e n (.slice (some ⟨w.heap.size, 0, none⟩) 0 0) 0 [] :=
    ⟨by simp, .inr ⟨w.heap.size, 0, #[], rfl, Nat.le_refl _, heap_alloc_new w _, Nat.le_refl _, Nat.zero_le _, by simp, by simp⟩⟩
  have hnews : ∀ j u, (vsOf enc l)[j]? = some u → (w.alloc (.cells #[] e)).cell? (a.add j) = some u := by
    intro j u hu
    obtain ⟨hk, hv⟩ := vsOf_get enc n hn he l j u hu
    obtain ⟨b, off, ha, hb, hr⟩ := h.2.2 (by intro e0; rw [e0] at hk; simp at hk)
    simp only at ha
    cases ha
    have hc := row?_cellAt (hr (j / n) hk) (j % n) (Nat.mod_lt _ hn)
    rw [hv] at hc
    have ea : (⟨b, off, none⟩ : Addr).add j = ⟨b, off + j, none⟩ := by unfold Addr.add; split <;> simp_all
    rw [ea, World.cell?_alloc_past _ _ _ hb, ← hc]
    congr 2
    have := Nat.div_add_mod j n
    rw [Nat.mul_comm] at this
    omega
  have hone : ∀ u ∈ vsOf enc l, u.oneCell' = true := by
    intro u hu
    obtain ⟨x, _, hx⟩ := List.mem_flatMap.1 hu
    exact h1 x u hx
  have hml : l.length * bytes ≤ l.length * 1000 := Nat.mul_le_mul_left _ hbb
  obtain ⟨v', w', hr, h2, h3, h4, h5⟩ := run_append_own_at (P := P) (w.alloc (.cells #[] e)) w.heap.size t ty e i z n bytes ht hi hz hsize hby hzs hn _ 0 [] hown a l.length c (vsOf enc l) (vsOf_length enc n he l) hnews hone (by unfold maxLen; omega) (by rw [Nat.zero_add]; omega) (by simp)
  obtain ⟨sa, sc, rfl, hnc, _⟩ := ownsRow_slice h2
  rw [Nat.zero_add, List.nil_append] at h2
  refine ⟨⟨sa, 0 + l.length, sc⟩, w', hr, slIn_own hn he (by rw [Nat.zero_add]; exact h2) (by simp), hbV.grown h3 hbV.size (fun k hk => by simp [Value.ownBlock] at hk; omega)⟩
end
set_option maxRecDepth 100000 in
set_option maxHeartbeats 1000000 in
theorem clone_ins (v : Sl) (l : List In) (w : World) (h : isSl w v 37 In.arr l w.heap.size) (hl : l.length ≤ 1000000) :
    Calls Tryz.prog 151 #[.slice v.a v.n v.c] w fun e w' => ∃ s : Sl, e = .returned (.slice s.a s.n s.c) ∧ slIn w' (fun k => w.heap.size ≤ k) s 37 In.arr l ∧ Below w.heap.size w w' := by
  obtain ⟨a, n, c⟩ := v
  have hn : n = l.length := h.1
  subst hn
  have heq := Lib.run_eql_slice_nil w (P := Tryz.prog) 69 _ a l.length c 0 0 Tryz.underlying69
  cases a with
  | none =>
    simp only [Option.isNone_none] at heq
    have hln : l = [] := by
      by_cases hl : l = []
      · exact hl
      · obtain ⟨b, off, e, _⟩ := h.2.2 hl
        cases e
    subst hln
    simp only [List.length_nil] at heq ⊢
    clear h
    go_enter Tryz.func151, Tryz.ntmps151
    go_wp2_with fail
    go_ret
    exact ⟨⟨none, 0, 0⟩, rfl, slIn_nil _ _ _ _, Below.refl _ _⟩
  | some a =>
    simp only [Option.isNone_some] at heq
    obtain ⟨i0, hi0, hz0, hz1, hz2⟩ := info_parts Tryz.infoIn
    obtain ⟨s', w', hrun, hs, hb⟩ := run_clone (P := Tryz.prog) In.arr 37 80 (by decide) (fun x => by simp) one_In 69 69 68 i0 _ Tryz.underlying69 hi0 hz0 hz1 hz2 (by simp [Value.cells]) (by decide) a c l w h hl
    have HRUN := Lib.hid hrun
    have HS := Lib.hid hs
    have HB := Lib.hid hb
    have hbn := run_buildSlice_nil (P := Tryz.prog) Tryz.underlying69 size_In
    clear hrun hs hb hi0 hz0 hz1 hz2 hl h
    go_enter Tryz.func151, Tryz.ntmps151
    go_wp2_with (refine wpList_app rfl _ _ _ _ rfl _ _ rfl rfl HRUN.out ?_)
    go_ret
    exact ⟨s', rfl, HS.out, HB.out⟩
set_option maxRecDepth 100000 in
set_option maxHeartbeats 1000000 in
theorem clone_outs (v : Sl) (l : List Out) (w : World) (h : isSl w v 39 Out.arr l w.heap.size) (hl : l.length ≤ 1000000) :
    Calls Tryz.prog 152 #[.slice v.a v.n v.c] w fun e w' => ∃ s : Sl, e = .returned (.slice s.a s.n s.c) ∧ slIn w' (fun k => w.heap.size ≤ k) s 39 Out.arr l ∧ Below w.heap.size w w' := by
  obtain ⟨a, n, c⟩ := v
  have hn : n = l.length := h.1
  subst hn
  have heq := Lib.run_eql_slice_nil w (P := Tryz.prog) 70 _ a l.length c 0 0 Tryz.underlying70
  cases a with
  | none =>
    simp only [Option.isNone_none] at heq
    have hln : l = [] := by
      by_cases hl : l = []
      · exact hl
      · obtain ⟨b, off, e, _⟩ := h.2.2 hl
        cases e
    subst hln
    simp only [List.length_nil] at heq ⊢
    clear h
    go_enter Tryz.func152, Tryz.ntmps152
    go_wp2_with fail
    go_ret
    exact ⟨⟨none, 0, 0⟩, rfl, slIn_nil _ _ _ _, Below.refl _ _⟩
  | some a =>
    simp only [Option.isNone_some] at heq
    obtain ⟨i0, hi0, hz0, hz1, hz2⟩ := info_parts Tryz.infoOut
    obtain ⟨s', w', hrun, hs, hb⟩ := run_clone (P := Tryz.prog) Out.arr 39 88 (by decide) (fun x => by simp) one_Out 70 70 196 i0 _ Tryz.underlying70 hi0 hz0 hz1 hz2 (by simp [Value.cells]) (by decide) a c l w h hl
    have HRUN := Lib.hid hrun
    have HS := Lib.hid hs
    have HB := Lib.hid hb
    have hbn := run_buildSlice_nil (P := Tryz.prog) Tryz.underlying70 size_Out
    clear hrun hs hb hi0 hz0 hz1 hz2 hl h
    go_enter Tryz.func152, Tryz.ntmps152
    go_wp2_with (refine wpList_app rfl _ _ _ _ rfl _ _ rfl rfl HRUN.out ?_)
    go_ret
    exact ⟨s', rfl, HS.out, HB.out⟩
set_option maxRecDepth 100000 in
set_option maxHeartbeats 2000000 in
theorem own_tx (v : TxV) (t : Tx) (w : World) (ht : isTx w v t w.heap.size) (h1 : t.ins.length ≤ 1000000) (h2 : t.outs.length ≤ 1000000) :
    Calls Tryz.prog 100 #[.agg v.arr] w fun e w' => ∃ u : TxV, e = .returned (.agg u.arr) ∧ txIn w' (fun k => w.heap.size ≤ k) u t ∧ Below w.heap.size w w' := by
  obtain ⟨W, hW⟩ : ∃ W, W = (w.alloc (.cells v.arr 72)).alloc (.cells TxV.zero.arr 72) := ⟨_, rfl⟩
  have hbW : Below w.heap.size w W := hW ▸ ((Below.refl _ _).alloc (Nat.le_refl _) _).alloc (by simp) _
  have htW := (ht.below hbW).mono hbW.size
  have g1 : W.heap[w.heap.size]? = some (.cells v.arr 72 (0, 0)) := by rw [hW]; exact (heap_alloc_old _ _ (by simp)).trans (heap_alloc_new w _)
  have g2 : W.heap[w.heap.size + 1]? = some (.cells TxV.zero.arr 72 (0, 0)) := by rw [hW, show w.heap.size + 1 = (w.alloc (.cells v.arr 72)).heap.size by simp]; exact heap_alloc_new _ _
  have hz : w.heap.size + 2 = W.heap.size := by rw [hW]; simp
  have hS0 : W.drew.cell? ⟨w.heap.size, 0, none⟩ = some (.slice v.ins.a v.ins.n v.ins.c) ∧ W.drew.cell? ⟨w.heap.size, 1, none⟩ = some (.slice v.outs.a v.outs.n v.outs.c) := ⟨by show W.cell? _ = _; rw [(cells_known g1).1]; exact TxV.arr_0 v, by show W.cell? _ = _; rw [(cells_known g1).1]; exact TxV.arr_1 v⟩
  have hc1 := clone_ins v.ins t.ins W.drew htW.1 h1
  have hcz : w.heap.size < W.heap.size := by omega
  have HTW := Lib.hid htW
  have G1 := Lib.hid g1
  have G2 := Lib.hid g2
  clear htW g1 g2
  go_enter Tryz.func100, Tryz.ntmps100
  go_wp2_with fail
  rw [← hW]
  clear hW
  have hL0 : W.drew.cell? ⟨w.heap.size, 0, none⟩ = some (.slice v.ins.a v.ins.n v.ins.c) := hS0.1
  have hL1 : W.drew.cell? ⟨w.heap.size, 1, none⟩ = some (.slice v.outs.a v.outs.n v.outs.c) := hS0.2
  clear hS0
  go_region_law (first | (go_simp; go_at_call 151; refine hc1.mono ?_; rintro e wA ⟨sA, rfl, hsA, hbA⟩; have hA1 : wA.cell? ⟨w.heap.size, 1, none⟩ = some (.slice v.outs.a v.outs.n v.outs.c) := (hbA.cell (p := ⟨w.heap.size, 1, none⟩) hcz).trans hL1; have hc2 := clone_outs v.outs t.outs wA ((HTW.out.2.1.below ((Below.refl W.heap.size W).drew.trans hbA)).mono hbA.size) h2) | (go_simp; go_at_call 152; refine hc2.mono ?_; rintro e wB ⟨sB, rfl, hsB, hbB⟩; have hgB : wB.heap[w.heap.size]? = some (.cells v.arr 72 (0, 0)) := (hbB.block _ (Nat.lt_of_lt_of_le hcz hbA.size)).trans ((hbA.block _ hcz).trans G1.out); obtain ⟨kcB, kfB, klB⟩ := cells_known hgB; have hcB0 := kcB 0; have hcB1 := kcB 1; have hfB0 := kfB 0; have hfB1 := kfB 1; simp only [TxV.arr_0, TxV.arr_1] at hcB0 hcB1; have HGB := Lib.hid hgB; clear hgB kcB kfB))
  all_goals
    obtain ⟨X, hX⟩ : ∃ X, X = ((wB.setCell ⟨w.heap.size, 0, none⟩ (.slice sA.a sA.n sA.c)).setCell ⟨w.heap.size, 1, none⟩ (.slice sB.a sB.n sB.c)) := ⟨_, rfl⟩
    rw [← hX]
    have hu : Upd wB X (fun k => k = w.heap.size) := hX ▸ ((Upd.setCell wB ⟨w.heap.size, 0, none⟩ _).trans (Upd.setCell _ ⟨w.heap.size, 1, none⟩ _) (fun _ _ h => h))
    have hX1 : X.heap[w.heap.size]? = some (.cells (TxV.mk sA sB v.lock).arr 72 (0, 0)) := by
      rw [hX, heap_set (heap_set HGB.out 0 (.slice sA.a sA.n sA.c)) 1 (.slice sB.a sB.n sB.c)]
      simp only [TxV.set_0, TxV.set_1]
    have hbWB : Below W.heap.size W wB := (Below.refl W.heap.size W).drew.trans (hbA.trans (hbB.mono hbA.size))
    have hX2 : X.heap[w.heap.size + 1]? = some (.cells TxV.zero.arr 72 (0, 0)) := (hu.block _ (Nat.lt_of_lt_of_le (by omega) hbWB.size) (by omega)).trans ((hbWB.block _ (by omega)).trans G2.out)
    have hrow : row? X ⟨w.heap.size, 0, none⟩ 3 = some (TxV.mk sA sB v.lock).arr := row_of_block hX1 (by simp)
    have q1 : slIn X (fun k => W.heap.size ≤ k) sA 37 In.arr t.ins := (hsA.below hbB (fun _ _ h => h)).upd hu (fun k hk _ e => by
      have hk2 : W.heap.size ≤ k := hk
      omega)
    have q2 : slIn X (fun k => W.heap.size ≤ k) sB 39 Out.arr t.outs := (hsB.zone (fun k _ hk => Nat.le_trans hbA.size hk)).upd hu (fun k hk _ e => by
      have hk2 : W.heap.size ≤ k := hk
      omega)
    have HX2 := Lib.hid hX2
    have HQ := Lib.hid (And.intro q1 q2)
    have HB := Lib.hid ((hbW.trans (hbWB.mono hbW.size)).trans (hu.below (Nat.le_trans hbW.size hbWB.size) (fun k e => Nat.le_of_eq e.symm)))
    have hlk : v.lock = t.lock := ht.2.2
    have HL := Lib.hid hlk
    clear hX hX1 hX2 q1 q2 hu hsA hsB hL0 hL1 hA1 hcB0 hcB1 hfB0 hfB1 hc1 hc2 hlk
    go_wp2_with (refine wpList_storeRow size_TxV (.tmp 2) (.tmp 11) rfl rfl (w.heap.size + 1) (TxV.mk sA sB v.lock).arr TxV.zero.arr rfl rfl (by simp) (one_TxV _) (by simp) HX2.out ?_; intro wz hhz huz)
    refine bodyPost_ret (results_cell_row rfl _ _ (w.heap.size + 1) 72 (TxV.mk sA sB v.lock).arr (0, 0) _ rfl hhz Tryz.underlying72 rfl (by rw [size_TxV]; simp)) rfl ⟨_, rfl, ?_, ?_⟩
    · refine ⟨(HQ.out.1.upd huz (fun k hk _ e => ?_)).zone (fun k _ hk => Nat.le_trans hbW.size hk), (HQ.out.2.upd huz (fun k hk _ e => ?_)).zone (fun k _ hk => Nat.le_trans hbW.size hk), HL.out⟩
      all_goals
        have hk2 : W.heap.size ≤ k := hk
        have e2 : k = w.heap.size + 1 := e
        omega
    · exact HB.out.trans (huz.below HB.out.size (fun k e => by have e2 : k = w.heap.size + 1 := e; omega))
end Go.Proofs.YtlkojkjeklblkaaGreat
