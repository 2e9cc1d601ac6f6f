/- Maps whose keys are ints: their keys, collected and sorted by the library (the kit's shelf, laid at this program). Package notify: what lies in memory. Package notify: what may be, with its own fields alone. Package notify: what is due. Package notify: what stands of one registration, changed. Package notify: what stands of a registration is brought up to date. -/
import Derived.Test.YtlkojkjeklblkaaGreatNfP
import Derived.Test.YtlkojkjeklblkaaGreatShelfI
import Derived.Test.YtlkojkjeklblkaaGreatKeys
import Derived.Test.YtlkojkjeklblkaaGreatShaB2
import Derived.Test.YtlkojkjeklblkaaGreatNumB
import Derived.Deep.AppendSrc
import Derived.Deep.RegionHeld3
import Derived.Deep.DeepCutAuto
import Derived.Deep.CutBlock
import Derived.Deep.RegionLaw
set_option linter.unusedSimpArgs false
set_option linter.unusedVariables false
namespace Go.Proofs.YtlkojkjeklblkaaGreat
open Go.RowKit Go.Maps Go.Sort Go.MapKept Go.Shelf
abbrev Z64 : Type := { n : Int // i64 n }
def intV (x : Z64) : Value := .int .i64 x.1
theorem Z64.wf (x : Z64) : (Lit.int .i64 x.1).wf = true := by
  have h := x.2
  unfold i64 at h
  simp [Lit.wf, IntKind.min, IntKind.max, IntKind.bits, IntKind.signed]; omega
theorem int_reads (x : Z64) : keyOf Tryz.prog 3 (intV x) = some (.int .i64 x.1) := by
  simp [keyOf, Tryz.underlying3, mapKey, intV, x.wf]
theorem intV_inj {x y : Z64} (h : intV x = intV y) : x = y := by
  unfold intV at h
  injection h with _ h
  exact Subtype.ext h
theorem int_enc : KeyEnc Tryz.prog 3 intV := ⟨int_keyed Tryz.underlying3, fun x => ⟨_, int_reads x⟩, intV_inj⟩
def readZ : Value → Option (DataW Unit × List MemPlace) := fun _ => some (.nil, [])
set_option maxRecDepth 100000 in
/-- The keys of a map, as the library's contract reads them. -/
theorem ints_of {w : World} {mb N : Nat} {f : Z64 → Option Value} (h : mapAt w intV mb N f) (hN : N ≤ 1000000000) :
    ∃ D0 nn, w.ownsMap Tryz.prog 3 readZ mb nn D0 ∧ Maps.size D0 = N ∧ (intKeys D0).length = N ∧ (intKeys D0).Nodup ∧ ∀ i, i ∈ intKeys D0 ↔ ∃ hi : i64 i, (f ⟨i, hi⟩).isSome = true := by
  obtain ⟨es, clock, hb, M, rfl⟩ := h
  have hrg : ∀ e ∈ es.toList, ∃ x : Z64, e.key = intV x ∧ WideElems.rg Tryz.prog 3 readZ e = (.int .i64 x.1, .nil) ∧ WideElems.rd Tryz.prog 3 readZ e = some (.int .i64 x.1, .nil) := by
    intro e he
    obtain ⟨x, hx⟩ := M.keys e he
    have hk : keyOf Tryz.prog 3 e.key = some (.int .i64 x.1) := by rw [hx]; exact int_reads x
    have hrd : WideElems.rd Tryz.prog 3 readZ e = some (.int .i64 x.1, .nil) := by unfold WideElems.rd; rw [hk]; rfl
    exact ⟨x, hx, by unfold WideElems.rg; rw [hrd]; rfl, hrd⟩
  obtain ⟨D0, hD0⟩ : ∃ D0, D0 = DataW.map ((es.toList.map (WideElems.rg Tryz.prog 3 readZ)).foldr DataW.insert []) := ⟨_, rfl⟩
  have hkeys : (intKeys D0).Perm (es.toList.map fun e => Go.intOf (WideElems.rg Tryz.prog 3 readZ e).1) := by
    rw [hD0]
    show (((es.toList.map (WideElems.rg Tryz.prog 3 readZ)).foldr DataW.insert []).map fun p => Go.intOf p.1).Perm _
    refine ((WideShapes.sorted_perm _).map _).trans ?_
    rw [List.map_map]
    exact List.Perm.refl _
  refine ⟨D0, es.size, ⟨es, clock, hb, ⟨by unfold maxLen; omega, M.stamped, fun e he => by obtain ⟨x, _, _, h⟩ := hrg e he; exact ⟨_, h⟩⟩, Nat.le_refl _, hD0⟩, ?_, ?_, ?_, ?_⟩
  · rw [hD0]
    show ((es.toList.map (WideElems.rg Tryz.prog 3 readZ)).foldr DataW.insert []).length = es.size
    rw [(WideShapes.sorted_perm _).length_eq]
    simp
  · rw [hkeys.length_eq]; simp
  · refine hkeys.nodup_iff.2 ?_
    have hp := ((stamped_iff es clock).1 M.stamped).2.2
    refine List.Pairwise.map _ (fun a b hab => ?_) (List.Pairwise.and_mem.1 hp)
    obtain ⟨ha, hb, hne⟩ := hab
    intro e
    obtain ⟨x, hx, hr, _⟩ := hrg a ha
    obtain ⟨y, hy, hs, _⟩ := hrg b hb
    rw [hr, hs] at e
    simp only [Go.intOf] at e
    exact hne (by rw [hx, hy]; unfold intV; rw [e])
  · intro i
    rw [hkeys.mem_iff, List.mem_map]
    constructor
    · rintro ⟨e, he, rfl⟩
      obtain ⟨x, hx, hr, _⟩ := hrg e he
      rw [hr]
      refine ⟨x.2, ?_⟩
      have hf := (M.has x e.val).2 ⟨e, he, hx, rfl⟩
      show (f x).isSome = true
      rw [hf]; rfl
    · rintro ⟨hi, hs⟩
      obtain ⟨v, hv⟩ := Option.isSome_iff_exists.1 hs
      obtain ⟨e, he, hk, _⟩ := (M.has ⟨i, hi⟩ v).1 hv
      refine ⟨e, he, ?_⟩
      obtain ⟨x, hx, hr, _⟩ := hrg e he
      rw [hr]
      have : x = ⟨i, hi⟩ := intV_inj (hx.symm.trans hk)
      rw [this]
      rfl
/-- The keys, sorted: the one list in order that holds them. -/
theorem sorted_ints {ss l : List Int} {D0 : DataW Unit} {f : Z64 → Option Value} (hs : ss.Perm (intKeys D0)) (hn : (intKeys D0).Nodup) (hm : ∀ i, i ∈ intKeys D0 ↔ ∃ hi : i64 i, (f ⟨i, hi⟩).isSome = true) (hl : l.Pairwise (· < ·)) (hi : ∀ i ∈ l, i64 i) (hf : ∀ i (hi : i64 i), (f ⟨i, hi⟩).isSome = true ↔ i ∈ l) :
    ss.mergeSort (fun x y => decide (x ≤ y)) = l ∧ ss.length = l.length := by
  have hp : ss.Perm l := by
    refine (List.perm_ext_iff_of_nodup (hs.nodup_iff.2 hn) (hl.imp (fun h => by omega))).2 (fun i => ?_)
    rw [hs.mem_iff, hm]
    constructor
    · rintro ⟨h1, h2⟩; exact (hf i h1).1 h2
    · intro h; exact ⟨hi i h, (hf i (hi i h)).2 h⟩
  have tr : ∀ a b c : Int, decide (a ≤ b) = true → decide (b ≤ c) = true → decide (a ≤ c) = true := fun a b c h1 h2 => by simp only [decide_eq_true_eq] at *; exact Int.le_trans h1 h2
  have hto : ∀ a b : Int, (decide (a ≤ b) || decide (b ≤ a)) = true := fun a b => by simp only [Bool.or_eq_true, decide_eq_true_eq]; exact Int.le_total a b
  refine ⟨List.Perm.eq_of_pairwise (le := fun a b => decide (a ≤ b) = true) (fun a b _ _ h1 h2 => ?_) (List.pairwise_mergeSort tr hto ss) (hl.imp (fun h => by simp; omega)) ((List.mergeSort_perm ss _).trans hp), hp.length_eq⟩
  simp only [decide_eq_true_eq] at h1 h2
  exact Int.le_antisymm h1 h2
theorem sortsI_lib (m : Nat) : AnyZI.SortsIn Tryz.prog Tryz.sorted54_ren Fence.wide m :=
  ⟨fun blk off cap ss W hH hblk hsz => callsIn_wide.2 (Any.slices_Sort_int Tryz.sort93 blk off cap ss W hH hblk hsz),
   fun p cap W => callsIn_wide.2 (Any.slices_Sort_int_none Tryz.sort93 p cap W)⟩
theorem keysR_lib (mb : Option Nat) (W : World) : Calls Tryz.prog 102 #[.map mb] W fun e w' => e = .returned (.func (.func 153) #[] #[.pointer (some ⟨W.heap.size, 0, none⟩)]) ∧ w' = W.alloc (.cells #[.map mb] 109) :=
  callsIn_wide.1 (AnyZI.keys_in Tryz.keys102 Fence.wide 5 trivial rfl mb W)
set_option maxHeartbeats 1000000 in
theorem sortedR_raw {H : Type} (b nn : Nat) (D0 : DataW H) (R : Value → Option (DataW H × List MemPlace)) (w : World) (hown : w.ownsMap Tryz.prog 3 R b nn D0) (hmax : Maps.size D0 ≤ maxLen) (hbytes : Maps.size D0 * 8 ≤ 140737488355328) :
    Calls Tryz.prog 54 #[.func (.func 153) #[] #[.pointer (some ⟨w.heap.size, 0, none⟩)]] (w.alloc (.cells #[.map (some b)] 109)) fun e w' => ∃ (v : Value) (ss : List Int), e = .returned v ∧ ss.Perm (intKeys D0) ∧
      w'.ownsRow (w.alloc (.cells #[.map (some b)] 109)).heap.size 3 1 v ss.length ((ss.mergeSort (fun x y => decide (x ≤ y))).map encZ) ∧ (v = .slice none 0 0 ↔ ss = []) ∧ Below (w.alloc (.cells #[.map (some b)] 109)).heap.size (w.alloc (.cells #[.map (some b)] 109)) w' := by
  refine (callsIn_wide (n := 5)).1 ?_
  have hbl := hown.lt
  have hseq : SeqGives Fence.wide 2 Tryz.prog 153 #[.pointer (some ⟨w.heap.size, 0, none⟩)] encZ (fun ss => ss.Perm (intKeys D0)) (Maps.size D0) (w.alloc (.cells #[.map (some b)] 109)) :=
    AnyZI.keys_gives (ρ := Tryz.keys102_ren) { Tryz.keys102 with } Fence.wide _ trivial rfl (by omega) w.heap.size b nn D0 _ (by simp) (by simp) (by
      obtain ⟨es, clock, hb, Ft, hs, hD⟩ := hown
      exact ⟨es, clock, (Below.heap_alloc _ _ b hbl).trans hb, Ft, hs, hD⟩)
  exact AnyZI.sorted_in Tryz.sorted54 Fence.wide 5 trivial trivial trivial trivial rfl (by omega) (sortsI_lib _) (enters_of Tryz.func93 (by kernel_rfl) rfl) 153 #[.pointer (some ⟨w.heap.size, 0, none⟩)] trivial (enters_of Tryz.func153 (by kernel_rfl) rfl) _ _ hmax hbytes _ hseq
/-- The numbers of a map, in order. -/
theorem sortedR_lib {b N : Nat} {f : Z64 → Option Value} {w : World} (h : mapAt w intV b N f) (hN : N ≤ 1000000) (l : List Int) (hl : l.Pairwise (· < ·)) (hi : ∀ i ∈ l, i64 i) (hf : ∀ i (hi : i64 i), (f ⟨i, hi⟩).isSome = true ↔ i ∈ l) :
    Calls Tryz.prog 54 #[.func (.func 153) #[] #[.pointer (some ⟨w.heap.size, 0, none⟩)]] (w.alloc (.cells #[.map (some b)] 109)) fun e w' => ∃ s : Sl, e = .returned (.slice s.a s.n s.c) ∧ s.n = l.length ∧ N = l.length ∧ (∀ k (h : k < l.length), ∃ g, s.a = some ⟨g, 0, none⟩ ∧ w.heap.size < g ∧ g < w'.heap.size ∧ w'.cell? ⟨g, k, none⟩ = some (.int .i64 l[k])) ∧ Below w.heap.size w w' := by
  obtain ⟨D0, nn, hown, hsz, hln, hnd, hmem⟩ := ints_of h (by omega)
  refine (sortedR_raw b nn D0 readZ w hown (by unfold maxLen; omega) (by omega)).mono ?_
  rintro e w' ⟨v, ss, rfl, hs, hrow, hnil, hb⟩
  obtain ⟨hso, hlen⟩ := sorted_ints hs hnd hmem hl hi hf
  rw [hso] at hrow
  obtain ⟨a, c, rfl, hc, hg⟩ := ownsRow_slice hrow
  refine ⟨⟨a, ss.length, c⟩, rfl, hlen, by rw [← hln, ← hs.length_eq, hlen], fun k hk => ?_, ((Below.refl _ w).alloc (Nat.le_refl _) _).trans (hb.mono (by simp))⟩
  obtain ⟨g, rfl, hg1, hg2⟩ := hg (by omega)
  refine ⟨g, rfl, Nat.lt_of_lt_of_le (by simp) hg1, hg2, ?_⟩
  have := hrow.cells (g := g) rfl k (.int .i64 l[k]) (by simp [hk])
  have e : (⟨g, 0, none⟩ : Addr).add k = ⟨g, k, none⟩ := by unfold Addr.add; split <;> simp_all
  rw [e] at this
  exact this
theorem keysN_lib (mb : Option Nat) (W : World) : Calls Tryz.prog 55 #[.map mb] W fun e w' => e = .returned (.func (.func 94) #[] #[.pointer (some ⟨W.heap.size, 0, none⟩)]) ∧ w' = W.alloc (.cells #[.map mb] 110) :=
  callsIn_wide.1 (AnyZI.keys_in Tryz.keys55 Fence.wide 5 trivial rfl mb W)
set_option maxHeartbeats 1000000 in
theorem sortedN_raw {H : Type} (b nn : Nat) (D0 : DataW H) (R : Value → Option (DataW H × List MemPlace)) (w : World) (hown : w.ownsMap Tryz.prog 3 R b nn D0) (hmax : Maps.size D0 ≤ maxLen) (hbytes : Maps.size D0 * 8 ≤ 140737488355328) :
    Calls Tryz.prog 54 #[.func (.func 94) #[] #[.pointer (some ⟨w.heap.size, 0, none⟩)]] (w.alloc (.cells #[.map (some b)] 110)) fun e w' => ∃ (v : Value) (ss : List Int), e = .returned v ∧ ss.Perm (intKeys D0) ∧
      w'.ownsRow (w.alloc (.cells #[.map (some b)] 110)).heap.size 3 1 v ss.length ((ss.mergeSort (fun x y => decide (x ≤ y))).map encZ) ∧ (v = .slice none 0 0 ↔ ss = []) ∧ Below (w.alloc (.cells #[.map (some b)] 110)).heap.size (w.alloc (.cells #[.map (some b)] 110)) w' := by
  refine (callsIn_wide (n := 5)).1 ?_
  have hbl := hown.lt
  have hseq : SeqGives Fence.wide 2 Tryz.prog 94 #[.pointer (some ⟨w.heap.size, 0, none⟩)] encZ (fun ss => ss.Perm (intKeys D0)) (Maps.size D0) (w.alloc (.cells #[.map (some b)] 110)) :=
    AnyZI.keys_gives (ρ := Tryz.keys55_ren) { Tryz.keys55 with } Fence.wide _ trivial rfl (by omega) w.heap.size b nn D0 _ (by simp) (by simp) (by
      obtain ⟨es, clock, hb, Ft, hs, hD⟩ := hown
      exact ⟨es, clock, (Below.heap_alloc _ _ b hbl).trans hb, Ft, hs, hD⟩)
  exact AnyZI.sorted_in Tryz.sorted54 Fence.wide 5 trivial trivial trivial trivial rfl (by omega) (sortsI_lib _) (enters_of Tryz.func93 (by kernel_rfl) rfl) 94 #[.pointer (some ⟨w.heap.size, 0, none⟩)] trivial (enters_of Tryz.func94 (by kernel_rfl) rfl) _ _ hmax hbytes _ hseq
/-- The numbers of a map, in order. -/
theorem sortedN_lib {b N : Nat} {f : Z64 → Option Value} {w : World} (h : mapAt w intV b N f) (hN : N ≤ 1000000) (l : List Int) (hl : l.Pairwise (· < ·)) (hi : ∀ i ∈ l, i64 i) (hf : ∀ i (hi : i64 i), (f ⟨i, hi⟩).isSome = true ↔ i ∈ l) :
    Calls Tryz.prog 54 #[.func (.func 94) #[] #[.pointer (some ⟨w.heap.size, 0, none⟩)]] (w.alloc (.cells #[.map (some b)] 110)) fun e w' => ∃ s : Sl, e = .returned (.slice s.a s.n s.c) ∧ s.n = l.length ∧ N = l.length ∧ (∀ k (h : k < l.length), ∃ g, s.a = some ⟨g, 0, none⟩ ∧ w.heap.size < g ∧ g < w'.heap.size ∧ w'.cell? ⟨g, k, none⟩ = some (.int .i64 l[k])) ∧ Below w.heap.size w w' := by
  obtain ⟨D0, nn, hown, hsz, hln, hnd, hmem⟩ := ints_of h (by omega)
  refine (sortedN_raw b nn D0 readZ w hown (by unfold maxLen; omega) (by omega)).mono ?_
  rintro e w' ⟨v, ss, rfl, hs, hrow, hnil, hb⟩
  obtain ⟨hso, hlen⟩ := sorted_ints hs hnd hmem hl hi hf
  rw [hso] at hrow
  obtain ⟨a, c, rfl, hc, hg⟩ := ownsRow_slice hrow
  refine ⟨⟨a, ss.length, c⟩, rfl, hlen, by rw [← hln, ← hs.length_eq, hlen], fun k hk => ?_, ((Below.refl _ w).alloc (Nat.le_refl _) _).trans (hb.mono (by simp))⟩
  obtain ⟨g, rfl, hg1, hg2⟩ := hg (by omega)
  refine ⟨g, rfl, Nat.lt_of_lt_of_le (by simp) hg1, hg2, ?_⟩
  have := hrow.cells (g := g) rfl k (.int .i64 l[k]) (by simp [hk])
  have e : (⟨g, 0, none⟩ : Addr).add k = ⟨g, k, none⟩ := by unfold Addr.add; split <;> simp_all
  rw [e] at this
  exact this
end Go.Proofs.YtlkojkjeklblkaaGreat
namespace Go.Proofs.YtlkojkjeklblkaaGreat
open Go.RowKit Go.MapKept
theorem info_Note : ∃ i, Tryz.prog.info? 63 = some i ∧ i.zero = some (.agg Note.zero.arr) ∧ i.size = 36 ∧ i.bytes = 64 := by
  have h : (Tryz.prog.info? 63).map (fun i => (i.zero, i.size, i.bytes)) = some (some (.agg Note.zero.arr), 36, 64) := by kernel_rfl
  obtain ⟨i0, hi, hz0, hz1, hz2⟩ := info_parts h
  exact ⟨i0, hi, hz0, hz1, hz2⟩
/-- Notes of one's own. -/
def ownN (w : World) (base : Nat) (s : Sl) (l : List Note) : Prop := w.ownsRow base 63 36 s.v l.length (vsOf Note.arr l)
theorem own_notes {w : World} {base : Nat} {v : Value} {n : Nat} {l : List Note} (h : w.ownsRow base 63 36 v n (vsOf Note.arr l)) {a : Addr} {k c : Nat} {m : List Note} (hk : k = m.length) (hnews : ∀ j u, (vsOf Note.arr m)[j]? = some u → w.cell? (a.add j) = some u) (hbase : base ≤ w.heap.size) (hl : n + k ≤ 1000000) :
    ∃ v' w', (∀ ty, (Builtin.append_ #[47, 47] ty #[v, .slice (some a) k c]).run Tryz.prog w = .ok v' w') ∧ w'.ownsRow base 63 36 v' (n + k) (vsOf Note.arr (l ++ m)) ∧ Upd w w' (fun j => v.ownBlock = some j) := by
  obtain ⟨i0, hi0, hz0, hz1, hz2⟩ := info_Note
  subst hk
  obtain ⟨v', w', hr, h2, h3, h4, h5⟩ := run_append_own_at (P := Tryz.prog) w base 47 0 63 i0 (.agg Note.zero.arr) 36 64 Tryz.underlying47 hi0 hz0 hz1 hz2 (by simp [Value.cells]) (by decide) v n _ h a m.length c (vsOf Note.arr m) (vsOf_length Note.arr 36 (fun x => by simp) m) hnews (fun u hu => by obtain ⟨x, _, hx⟩ := List.mem_flatMap.1 hu; exact one_Note x u hx) (by unfold maxLen; omega) (by omega) hbase
  exact ⟨v', w', fun ty => hr, by rw [show vsOf Note.arr (l ++ m) = vsOf Note.arr l ++ vsOf Note.arr m by simp [vsOf]]; exact h2, Upd.grown h3⟩
@[go_sem ↓] theorem execOp_bsl_Note (parts : Array (Nat × Operand)) (ρ : Operand → Value) (dst : Option Tmp) (ty : TypeId) (pos : String) (after : Array Edge) (guard : Option (Nat × Bool)) : execOp ρ { dst := dst, op := .buildSlice 47 1 parts, type := ty, pos := pos, after := after, guard := guard } = (do pure (.value (← bslS 47 1 (parts.map fun (i, x) => (i, ρ x))))) := rfl
@[go_sem] theorem bsl_Note (x : Note) (w : World) : (bslS 47 1 #[(0, .agg x.arr)]).run Tryz.prog w = .ok (.slice (some ⟨w.heap.size, 0, none⟩) 1 1) (w.alloc (.cells x.arr 63)) :=
  run_buildSlice_one Tryz.underlying47 size_Note zero_Note (by simp) (by decide) (by decide) x.arr (by simp) w
/-- One note put behind notes of one's own. -/
theorem own_note1 {w : World} {base : Nat} {v : Value} {n : Nat} {l : List Note} (h : w.ownsRow base 63 36 v n (vsOf Note.arr l)) {b c : Nat} {x : Note} (hb : w.heap[b]? = some (.cells x.arr 63 (0, 0))) (hbase : base ≤ w.heap.size) (hl : n + 1 ≤ 1000000) :
    ∃ s' : Sl, ∃ w', (∀ ty, (Builtin.append_ #[47, 47] ty #[v, .slice (some ⟨b, 0, none⟩) 1 c]).run Tryz.prog w = .ok (.slice s'.a s'.n s'.c) w') ∧ s'.n = n + 1 ∧ w'.ownsRow base 63 36 s'.v (n + 1) (vsOf Note.arr (l ++ [x])) ∧ Upd w w' (fun j => v.ownBlock = some j) := by
  obtain ⟨v', w', hr, ho, hu⟩ := own_notes (c := c) (m := [x]) (k := 1) h rfl (by rw [show vsOf Note.arr [x] = x.arr.toList by simp [vsOf]]; exact World.news_of_block hb) hbase hl
  obtain ⟨a', c', rfl, _, _⟩ := ownsRow_slice ho
  exact ⟨⟨a', n + 1, c'⟩, w', hr, rfl, ho, hu⟩
/-- A list of one's own put behind another one. -/
theorem own_notes2 {w : World} {base base2 : Nat} {v : Value} {n : Nat} {l m : List Note} {s : Sl} (h : w.ownsRow base 63 36 v n (vsOf Note.arr l)) (h2 : w.ownsRow base2 63 36 s.v m.length (vsOf Note.arr m)) (hbase : base ≤ w.heap.size) (hl : n + m.length ≤ 1000000) :
    ∃ s' : Sl, ∃ w', (∀ ty, (Builtin.append_ #[47, 47] ty #[v, .slice s.a s.n s.c]).run Tryz.prog w = .ok (.slice s'.a s'.n s'.c) w') ∧ s'.n = n + m.length ∧ w'.ownsRow base 63 36 s'.v (n + m.length) (vsOf Note.arr (l ++ m)) ∧ Upd w w' (fun j => v.ownBlock = some j) := by
  obtain ⟨sa, sn, sc⟩ := s
  rcases h2.2 with ⟨hv, h0⟩ | ⟨g, cap, cur, hv, hg, hh, hnc, hm, hsz, ht⟩
  · unfold Sl.v at hv
    injection hv with e1 e2 e3
    simp only at e1 e2 e3
    subst e1 e2 e3
    have hm0 : m = [] := List.eq_nil_of_length_eq_zero h0
    subst hm0
    obtain ⟨i0, hi0, hz0, hz1, hz2⟩ := info_Note
    obtain ⟨a', c', rfl, _, _⟩ := ownsRow_slice h
    refine ⟨⟨a', n, c'⟩, w, fun ty => run_append_owned_none w base 47 ty 63 i0 36 Tryz.underlying47 hi0 _ n _ h, rfl, ?_, Upd.refl _ _⟩
    rw [List.append_nil]; exact h
  · unfold Sl.v at hv
    injection hv with e1 e2 e3
    simp only at e1 e2 e3
    subst e1 e2 e3
    obtain ⟨v', w', hr, ho, hu⟩ := own_notes (c := sc) h rfl (fun j u hu => by
      have hj : j < m.length * 36 := by
        have := (List.getElem?_eq_some_iff.1 hu).1
        rwa [vsOf_length Note.arr 36 (fun x => by simp)] at this
      have e : (⟨g, 0, none⟩ : Addr).add j = ⟨g, j, none⟩ := by unfold Addr.add; split <;> simp_all
      rw [e, (World.ownsRow.cellAt h2 j hj)]
      exact hu) hbase hl
    obtain ⟨a', c', rfl, _, _⟩ := ownsRow_slice ho
    exact ⟨⟨a', n + m.length, c'⟩, w', hr, rfl, ho, hu⟩
/-- Where a hub's parts lie. -/
structure HubR where
  mr : Nat
  ms : Nat
  ns : Nat
  px : Nat
  ir : IdxR
def HubM.regW (M : HubM) (i : Z64) : Option Value := (M.regF i.1).map fun x => .agg x.arr
def HubM.stW (M : HubM) (i : Z64) : Option Value := (M.stF i.1).map fun x => .agg x.arr
structure HubAt (w : World) (Z : Nat → Prop) (q : Nat) (r : HubR) (M : HubM) : Prop where
  hd : w.heap[q]? = some (.cells (HubV.mk M.most M.last (some r.mr) (some r.ms) (some ⟨r.px, 0, none⟩)).arr 112 (0, 0))
  regs : mapAt w intV r.mr M.rows.length M.regW
  st : mapAt w intV r.ms r.ns M.stW
  ix : IdxAt w (fun k => Z k ∧ k ≠ q ∧ k ≠ r.mr ∧ k ≠ r.ms) r.px r.ir (mapsOf M.L) (M.L.map (fun b => b.map idS))
  zone : Z q ∧ Z r.mr ∧ Z r.ms
  two : r.mr ≠ r.ms
  ok : M.Ok
section
variable {w w' : World} {Z Y S : Nat → Prop} {q : Nat} {r : HubR} {M : HubM}
theorem HubAt.lt (h : HubAt w Z q r M) : q < w.heap.size := (cells_known h.hd).2.2
theorem HubAt.kept (h : HubAt w Z q r M) (hu : Upd w w' S) (hs : ∀ k, Z k → k < w.heap.size → ¬ S k) : HubAt w' Z q r M := by
  have f : ∀ k, Z k → k < w.heap.size → w'.heap[k]? = w.heap[k]? := fun k hz hk => hu.block k hk (hs k hz hk)
  exact ⟨(f q h.zone.1 h.lt).trans h.hd, h.regs.of_block (f _ h.zone.2.1 h.regs.lt), h.st.of_block (f _ h.zone.2.2 h.st.lt), h.ix.kept hu (fun k hz hk => hs k hz.1 hk), h.zone, h.two, h.ok⟩
theorem HubAt.keep (h : HubAt w Z q r M) (hb : Below w.heap.size w w') : HubAt w' Z q r M := h.kept (S := fun _ => False) (Upd.of_below hb _) (fun _ _ _ hf => hf)
theorem HubAt.zoned (h : HubAt w Z q r M) (hY : ∀ k, k < w.heap.size → Z k → Y k) : HubAt w Y q r M :=
  ⟨h.hd, h.regs, h.st, h.ix.zoned (fun k hk hz => ⟨hY k hk hz.1, hz.2⟩), ⟨hY _ h.lt h.zone.1, hY _ h.regs.lt h.zone.2.1, hY _ h.st.lt h.zone.2.2⟩, h.two, h.ok⟩
theorem HubAt.cells (h : HubAt w Z q r M) : w.cell? ⟨q, 0, none⟩ = some (.int .i64 M.most) ∧ w.cell? ⟨q, 1, none⟩ = some (.int .i64 M.last) ∧ w.cell? ⟨q, 2, none⟩ = some (.map (some r.mr)) ∧ w.cell? ⟨q, 3, none⟩ = some (.map (some r.ms)) ∧ w.cell? ⟨q, 4, none⟩ = some (.pointer (some ⟨r.px, 0, none⟩)) := by
  have h1 := (cells_known h.hd).1
  exact ⟨(h1 0).trans (HubV.arr_0 _), (h1 1).trans (HubV.arr_1 _), (h1 2).trans (HubV.arr_2 _), (h1 3).trans (HubV.arr_3 _), (h1 4).trans (HubV.arr_4 _)⟩
/-- The registration at a number, and what stands. -/
theorem HubAt.lookR (h : HubAt w Z q r M) (i : Int) (hi : i64 i) : (Instr.lookup 109 (.map (some r.mr)) (.int .i64 i) false).run Tryz.prog w = .ok (.agg ((M.regF i).getD Reg.zero).arr) w ∧ (Instr.lookup 109 (.map (some r.mr)) (.int .i64 i) true).run Tryz.prog w = .ok (.tuple #[.agg ((M.regF i).getD Reg.zero).arr, .bool (M.regF i).isSome]) w := by
  have h1 := run_lookup int_enc Tryz.underlying109 (zeroValue_run zero_Reg w) h.regs ⟨i, hi⟩ false
  have h2 := run_lookup int_enc Tryz.underlying109 (zeroValue_run zero_Reg w) h.regs ⟨i, hi⟩ true
  rw [show intV ⟨i, hi⟩ = .int .i64 i from rfl] at h1 h2
  rw [h1, h2]
  unfold Go.Proofs.YtlkojkjeklblkaaGreat.look HubM.regW
  simp only
  cases M.regF i <;> exact ⟨rfl, rfl⟩
theorem HubAt.lookN (h : HubAt w Z q r M) (i : Int) (hi : i64 i) : (Instr.lookup 110 (.map (some r.ms)) (.int .i64 i) false).run Tryz.prog w = .ok (.agg ((M.stF i).getD Note.zero).arr) w ∧ (Instr.lookup 110 (.map (some r.ms)) (.int .i64 i) true).run Tryz.prog w = .ok (.tuple #[.agg ((M.stF i).getD Note.zero).arr, .bool (M.stF i).isSome]) w := by
  have h1 := run_lookup int_enc Tryz.underlying110 (zeroValue_run zero_Note w) h.st ⟨i, hi⟩ false
  have h2 := run_lookup int_enc Tryz.underlying110 (zeroValue_run zero_Note w) h.st ⟨i, hi⟩ true
  rw [show intV ⟨i, hi⟩ = .int .i64 i from rfl] at h1 h2
  rw [h1, h2]
  unfold Go.Proofs.YtlkojkjeklblkaaGreat.look HubM.stW
  simp only
  cases M.stF i <;> exact ⟨rfl, rfl⟩
end
end Go.Proofs.YtlkojkjeklblkaaGreat
namespace Go.Proofs.YtlkojkjeklblkaaGreat
open Go.RowKit
set_option maxRecDepth 100000 in
set_option maxHeartbeats 1000000 in
theorem may_nf (r : Reg) (w : World) : Calls Tryz.prog 56 #[.agg r.arr] w fun e w' => e = .returned (.bool (mayR r)) ∧ Below w.heap.size w w' := by
  go_enter Tryz.func56, Tryz.ntmps56
  go_wp2_with fail
  all_goals go_ret
  all_goals refine ⟨?_, (Below.refl _ _).alloc (Nat.le_refl _) _⟩
  all_goals unfold mayR
  all_goals simp_all
  all_goals (intros; omega)
theorem heap_second (w : World) (a b : Obj) (n : Nat) (hn : n = w.heap.size + 1 := by rfl) : ((w.alloc a).alloc b).heap[n]? = some b := by
  subst hn
  rw [show w.heap.size + 1 = (w.alloc a).heap.size by simp]
  exact heap_alloc_new _ _
theorem store_part {P : Program} {t t' : TypeId} {n : Nat} (hi : (P.info? t).map (·.size) = some n) (w : World) (b o : Nat) (A mid C : List Value) (cs : Array Value) (hn : cs.size = n) (h1 : ∀ v ∈ cs.toList, v.oneCell' = true) (hA : A.length = o) (hm : mid.length = n) (h : w.heap[b]? = some (.cells (A ++ (mid ++ C)).toArray t' (0, 0))) :
    ∃ w', (storeS t (.pointer (some ⟨b, o, none⟩)) (.agg cs)).run P w = .ok () w' ∧ w'.heap[b]? = some (.cells (A ++ (cs.toList ++ C)).toArray t' (0, 0)) ∧ Upd w w' (fun k => k = b) := by
  have hrow : (row? w ⟨b, o, none⟩ n).isSome = true := by
    rw [row_part h o n (by simp; omega)]; rfl
  have hrun : (Instr.storeAt t (.pointer (some ⟨b, o, none⟩)) (.agg cs)).run P w = .ok () (putRow w ⟨b, o, none⟩ cs) := run_storeAt_row hi w b o cs hn h1 hrow (fun j _ => (cells_known h).2.1 _)
  refine ⟨_, hrun, ?_, setCells_upd b _ o w⟩
  have hh := heap_setCells cs.toList o w _ h
  have e := putRow_eq o A mid C cs.toList hA (by simp; omega)
  rw [e] at hh
  exact hh
theorem store_reg_tx (w : World) (b : Nat) (x : Reg) (y : Hash) (h : w.heap[b]? = some (.cells x.arr 57 (0, 0))) :
    ∃ w', (storeS 38 (.pointer (some ⟨b, 1, none⟩)) (.agg y.arr)).run Tryz.prog w = .ok () w' ∧ w'.heap[b]? = some (.cells ({ x with tx := y } : Reg).arr 57 (0, 0)) ∧ Upd w w' (fun k => k = b) := by
  have e : ∀ z : Hash, ({ x with tx := z } : Reg).arr = ([Value.int .i64 x.kind] ++ (z.arr.toList ++ ([Value.int .i64 x.depth] ++ x.point.arr.toList ++ [Value.int .i64 x.height]))).toArray := fun z => by simp [Reg.arr]
  obtain ⟨w', h1, h2, h3⟩ := store_part (P := Tryz.prog) (t := 38) size_Hash w b 1 [Value.int .i64 x.kind] x.tx.arr.toList ([Value.int .i64 x.depth] ++ x.point.arr.toList ++ [Value.int .i64 x.height]) y.arr (by simp) (one_Hash _) rfl (by simp) (by rw [h]; congr 2; exact e x.tx)
  exact ⟨w', h1, by rw [h2, e y], h3⟩
set_option maxRecDepth 100000 in
set_option maxHeartbeats 1000000 in
theorem plain_nf (r : Reg) (w : World) : Calls Tryz.prog 57 #[.agg r.arr] w fun e w' => e = .returned (.agg (plainR r).arr) ∧ Below w.heap.size w w' := by
  by_cases h1 : r.kind = 1
  · obtain ⟨V, hV⟩ : ∃ V, V = ((w.alloc (.cells r.arr 57)).alloc (.cells Reg.zero.arr 57)).alloc (.cells (Reg.mk 1 Reg.zero.tx Reg.zero.depth Reg.zero.point Reg.zero.height).arr 57) := ⟨_, rfl⟩
    have hbV : Below w.heap.size w V := hV ▸ (((Below.refl _ _).alloc (Nat.le_refl _) _).alloc (by simp) _).alloc (by simp; omega) _
    have g0 : V.heap[w.heap.size]? = some (.cells r.arr 57 (0, 0)) := by rw [hV]; exact (heap_alloc_old _ _ (by simp; omega)).trans ((heap_alloc_old _ _ (by simp)).trans (heap_alloc_new w _))
    have g1 : V.heap[w.heap.size + 1]? = some (.cells Reg.zero.arr 57 (0, 0)) := by
      rw [hV]
      refine (heap_alloc_old _ _ (by simp)).trans ?_
      rw [show w.heap.size + 1 = (w.alloc (.cells r.arr 57)).heap.size by simp]
      exact heap_alloc_new _ _
    have g2 : V.heap[w.heap.size + 1 + 1]? = some (.cells (Reg.mk 1 Hash.zero 0 Outpoint.zero 0).arr 57 (0, 0)) := by
      rw [hV, show w.heap.size + 1 + 1 = ((w.alloc (.cells r.arr 57)).alloc (.cells Reg.zero.arr 57)).heap.size by simp]
      exact heap_alloc_new _ _
    have e1 : row? V.drew ⟨w.heap.size, 1, none⟩ 32 = some r.tx.arr := by rw [row_part (w := V.drew) g0 1 32 (by simp)]; simp only [Nat.reduceAdd]; rw [Reg.ext_1]
    have e2 : V.drew.cell? ⟨w.heap.size, 33, none⟩ = some (.int .i64 r.depth) := ((cells_known (w := V.drew) g0).1 33).trans (Reg.arr_33 _)
    obtain ⟨W1, hst, hW1, hu1⟩ := store_reg_tx V.drew (w.heap.size + 1 + 1) _ r.tx (show V.drew.heap[w.heap.size + 1 + 1]? = _ from g2)
    obtain ⟨kc, kf, kl⟩ := cells_known hW1
    have k33 := kc 33
    rw [Reg.arr_33] at k33
    have f33 := kf 33
    obtain ⟨W2, hW2⟩ : ∃ W2, W2 = W1.setCell ⟨w.heap.size + 1 + 1, 33, none⟩ (.int .i64 r.depth) := ⟨_, rfl⟩
    have hu2 : Upd W1 W2 (fun k => k = w.heap.size + 1 + 1) := hW2 ▸ Upd.setCell W1 ⟨w.heap.size + 1 + 1, 33, none⟩ _
    have q2 : W2.heap[w.heap.size + 1 + 1]? = some (.cells (Reg.mk 1 r.tx r.depth Outpoint.zero 0).arr 57 (0, 0)) := by rw [hW2, heap_set hW1 33 _, Reg.set_33]
    have hu : Upd V W2 (fun k => k = w.heap.size + 1 + 1) := (Upd.of_below (Below.refl V.heap.size V).drew _).trans (hu1.trans hu2 (fun _ _ h => h)) (fun _ _ h => h)
    have q1 : W2.heap[w.heap.size + 1]? = some (.cells Reg.zero.arr 57 (0, 0)) := (hu.block _ (cells_known g1).2.2 (by omega)).trans g1
    have r2 : row? W2 ⟨w.heap.size + 1 + 1, 0, none⟩ 68 = some (Reg.mk 1 r.tx r.depth Outpoint.zero 0).arr := row_of_block q2 (by simp)
    obtain ⟨W3, hst3, hW3, hu3⟩ := store_whole (P := Tryz.prog) (t := 57) size_Reg W2 (w.heap.size + 1) (Reg.mk 1 r.tx r.depth Outpoint.zero 0).arr Reg.zero.arr (by simp) (one_Reg _) (by simp) q1
    have hp : Hid (plainR r = Reg.mk 1 r.tx r.depth Outpoint.zero 0) := by unfold Hid plainR; rw [if_pos h1]
    have HB := Lib.hid (hbV.trans ((hu.below hbV.size (fun k e => by have h2 : k = w.heap.size + 1 + 1 := e; omega)).trans (hu3.below (Nat.le_trans hbV.size hu.size) (fun k e => by have h2 : k = w.heap.size + 1 := e; omega))))
    have HW3 := Lib.hid hW3
    have HW2 := Lib.hid hW2
    have HV := Lib.hid hV
    -- the other order: the depth first
    obtain ⟨vc, vf, vl⟩ := cells_known (show V.drew.heap[w.heap.size + 1 + 1]? = some (.cells (Reg.mk 1 Reg.zero.tx Reg.zero.depth Reg.zero.point Reg.zero.height).arr 57 (0, 0)) from g2)
    have v33 := vc 33
    rw [Reg.arr_33] at v33
    have vf33 := vf 33
    have e2' : W1.cell? ⟨w.heap.size, 33, none⟩ = some (.int .i64 r.depth) := (hu1.cell (show w.heap.size < V.drew.heap.size from (cells_known g0).2.2) (by intro e; have h2 : w.heap.size = w.heap.size + 1 + 1 := e; omega) 33).trans e2
    have huB1 := Upd.setCell V.drew ⟨w.heap.size + 1 + 1, 33, none⟩ (.int .i64 r.depth)
    have e1' : row? (V.drew.setCell ⟨w.heap.size + 1 + 1, 33, none⟩ (.int .i64 r.depth)) ⟨w.heap.size, 1, none⟩ 32 = some r.tx.arr := (huB1.row (show w.heap.size < V.drew.heap.size from (cells_known g0).2.2) (by intro e; have h2 : w.heap.size = w.heap.size + 1 + 1 := e; omega) 1 32).trans e1
    have qB1 : (V.drew.setCell ⟨w.heap.size + 1 + 1, 33, none⟩ (.int .i64 r.depth)).heap[w.heap.size + 1 + 1]? = some (.cells (Reg.mk 1 Reg.zero.tx r.depth Reg.zero.point Reg.zero.height).arr 57 (0, 0)) := by rw [heap_set (show V.drew.heap[w.heap.size + 1 + 1]? = _ from g2) 33 _, Reg.set_33]; rfl
    obtain ⟨U2, hstB, hUB, huB2⟩ := store_reg_tx (V.drew.setCell ⟨w.heap.size + 1 + 1, 33, none⟩ (.int .i64 r.depth)) (w.heap.size + 1 + 1) _ r.tx qB1
    have huB : Upd V U2 (fun k => k = w.heap.size + 1 + 1) := (Upd.of_below (Below.refl V.heap.size V).drew _).trans (huB1.trans huB2 (fun _ _ h => h)) (fun _ _ h => h)
    have qB2 : U2.heap[w.heap.size + 1]? = some (.cells Reg.zero.arr 57 (0, 0)) := (huB.block _ (cells_known g1).2.2 (by omega)).trans g1
    have rB2 : row? U2 ⟨w.heap.size + 1 + 1, 0, none⟩ 68 = some (Reg.mk 1 r.tx r.depth Outpoint.zero 0).arr := row_of_block hUB (by simp)
    obtain ⟨U3, hstB3, hUB3, huB3⟩ := store_whole (P := Tryz.prog) (t := 57) size_Reg U2 (w.heap.size + 1) (Reg.mk 1 r.tx r.depth Outpoint.zero 0).arr Reg.zero.arr (by simp) (one_Reg _) (by simp) qB2
    have HBB := Lib.hid (hbV.trans ((huB.below hbV.size (fun k e => by have h2 : k = w.heap.size + 1 + 1 := e; omega)).trans (huB3.below (Nat.le_trans hbV.size huB.size) (fun k e => by have h2 : k = w.heap.size + 1 := e; omega))))
    have HUB3 := Lib.hid hUB3
    clear huB1 huB2 huB huB3 qB1 qB2 hUB hUB3 vc vf vl
    clear hu hu1 hu2 hu3 hbV g0 g1 g2 hW1 kc kf kl hW2 q1 q2 hW3 hV
    go_enter Tryz.func57, Tryz.ntmps57
    go_upto_region 4 with fail
    rw [← HV.out]
    go_region_law (fail)
    all_goals try rw [← HW2.out]
    all_goals go_wp2_with fail
    all_goals first | exact bodyPost_ret (results_cell_row rfl _ _ (w.heap.size + 1) 57 _ (0, 0) _ rfl HW3.out Tryz.underlying57 rfl (by rw [size_Reg]; simp)) rfl ⟨by rw [hp.out], HB.out⟩ | exact bodyPost_ret (results_cell_row rfl _ _ (w.heap.size + 1) 57 _ (0, 0) _ rfl HUB3.out Tryz.underlying57 rfl (by rw [size_Reg]; simp)) rfl ⟨by rw [hp.out], HBB.out⟩
  · have y1 : (r.kind == 1) = false := by simpa using h1
    go_enter Tryz.func57, Tryz.ntmps57
    go_wp2_with fail
    all_goals refine bodyPost_ret (results_cell_row rfl _ _ (w.heap.size + 1) 57 (plainR r).arr (0, 0) _ rfl ?_ Tryz.underlying57 rfl (by rw [size_Reg]; simp)) rfl ⟨rfl, (((Below.refl _ _).alloc (Nat.le_refl _) _).alloc (by simp) _).alloc (by simp; omega) _⟩
    all_goals refine (heap_alloc_old _ _ (by simp)).trans ?_
    all_goals refine (heap_second _ _ _ _).trans ?_
    all_goals congr 2
    all_goals unfold plainR
    all_goals simp_all
    all_goals rfl
end Go.Proofs.YtlkojkjeklblkaaGreat
namespace Go.Proofs.YtlkojkjeklblkaaGreat
open Go.RowKit
attribute [local go_sem] Hash.ext_whole In.ext_tx Hash.size_arr
theorem results_cell1 {P : Program} {fn : Func} {p q : Tmp} {ty : TypeId} (h : fn.results = #[.cell p ty, .tmp q]) (tmps : Array Value) (w : World) (g : Nat) (t : TypeId) (cs : Array Value) (fr : Nat × Nat) (d : TypeDesc) (v : Value)
    (hp : tmps.getD p undef = .pointer (some ⟨g, 0, none⟩)) (hq : tmps.getD q undef = v) (hg : w.heap[g]? = some (.cells cs t fr))
    (hu : P.underlying ty = some d) (hd : (match d with | .struct _ | .array _ _ => true | _ => false) = true) (hi : (P.info? ty).map (·.size) = some cs.size) :
    (results fn tmps).run P w = .ok (.tuple #[.agg cs, v]) w := by
  have hp' : tmps[p]?.getD undef = .pointer (some ⟨g, 0, none⟩) := by simpa using hp
  have hq' : tmps[q]?.getD undef = v := by simpa using hq
  simp [results, h, hp', hq', asAddr, run_loadVar_row w g t ty cs fr d hg hu hd hi]
theorem store_note_tx (w : World) (b : Nat) (x : Note) (y : Hash) (h : w.heap[b]? = some (.cells x.arr 63 (0, 0))) :
    (storeS 38 (.pointer (some ⟨b, 4, none⟩)) (.agg y.arr)).run Tryz.prog w = .ok () (w.setCells b 4 y.arr.toList) ∧ (w.setCells b 4 y.arr.toList).heap[b]? = some (.cells ({ x with tx := y } : Note).arr 63 (0, 0)) ∧ Upd w (w.setCells b 4 y.arr.toList) (fun k => k = b) := by
  have e : ∀ z : Hash, ({ x with tx := z } : Note).arr = ([Value.int .i64 x.id, Value.bool x.back, Value.int .i64 x.kind, Value.int .i64 x.height] ++ (z.arr.toList ++ [])).toArray := fun z => by simp [Note.arr]
  have hrow : (row? w ⟨b, 4, none⟩ 32).isSome = true := by rw [row_part h 4 32 (by simp)]; rfl
  have hrun := run_storeAt_row (P := Tryz.prog) size_Hash w b 4 y.arr (by simp) (one_Hash _) hrow (fun j _ => (cells_known h).2.1 _)
  refine ⟨hrun, ?_, setCells_upd b _ 4 w⟩
  rw [show x.arr = _ from e x.tx] at h
  have hh := heap_setCells y.arr.toList 4 w _ h
  have e2 := putRow_eq 4 [Value.int .i64 x.id, Value.bool x.back, Value.int .i64 x.kind, Value.int .i64 x.height] x.tx.arr.toList [] y.arr.toList rfl (by simp)
  rw [e2] at hh
  rw [e y]
  exact hh
theorem there_note {w : World} {b : Nat} {x : Note} {y : Hash} (h : w.heap[b]? = some (.cells x.arr 63 (0, 0))) : w.there b 4 y.arr.toList.length := fun j hj => by
  have hj2 : j < 32 := by simpa using hj
  obtain ⟨k1, k2, _⟩ := cells_known h
  refine ⟨?_, k2 _⟩
  rw [k1, Array.getElem?_eq_getElem (by simp; omega)]
  rfl
theorem addAll_high (k : Nat) : ∀ (l : List Tx) (M : Maps), (∀ z y, M.txs z = some y → y.2 ≤ k) → ∀ z y, (addAll k M l).txs z = some y → y.2 ≤ k
  | [], M, h => h
  | t :: l, M, h => addAll_high k l (addTx k M t) (fun z y hz => by
    simp only [addTx] at hz
    by_cases e : z = idS t
    · subst e; rw [updF_same] at hz; cases hz; exact Nat.le_refl _
    · rw [updF_other e] at hz; exact h z y hz)
theorem maps_high (L : List (List Tx)) : ∀ z y, (mapsOf L).txs z = some y → y.2 ≤ L.length := by
  have key : ∀ n (L : List (List Tx)), L.length = n → ∀ z y, (mapsOf L).txs z = some y → y.2 ≤ L.length := by
    intro n
    induction n with
    | zero => intro L hL z y h; rw [List.eq_nil_of_length_eq_zero hL] at h; cases h
    | succ n ih =>
      intro L hL z y h
      have hne : L ≠ [] := by intro e; rw [e] at hL; cases hL
      have e := List.dropLast_concat_getLast hne
      have hl : L.dropLast.length = n := by simp; omega
      rw [← e, mapsOf_snoc] at h
      have h2 := addAll_high (L.dropLast.length + 1) (L.getLast hne) (mapsOf L.dropLast) (fun z y hz => Nat.le_succ_of_le (ih _ hl z y hz)) z y h
      omega
  exact key _ L rfl
theorem wrap_i64 {n : Int} (h1 : -9223372036854775808 ≤ n) (h2 : n ≤ 9223372036854775807) : IntKind.i64.wrap n = n := by
  unfold IntKind.wrap
  simp [IntKind.bits, IntKind.signed]
  omega
theorem due1_no {L : List (List Tx)} {i : Int} {x : Reg} (hk : x.kind = 1) (h : false = (txM (mapsOf L) x.tx).2) : dueR L i x = none := by
  unfold dueR
  rw [if_pos hk]
  unfold txM at h
  cases hx : (mapsOf L).txs x.tx with
  | none => rfl
  | some y => rw [hx] at h; cases h
theorem due1_yes {L : List (List Tx)} {i : Int} {x : Reg} {hh : Int} (hk : x.kind = 1) (h : true = (txM (mapsOf L) x.tx).2) (h1 : hh = (txM (mapsOf L) x.tx).1) : dueR L i x = if x.depth ≤ (L.length : Int) - hh + 1 then some ⟨i, false, 1, hh, x.tx⟩ else none := by
  unfold dueR
  rw [if_pos hk]
  unfold txM at h h1
  cases hx : (mapsOf L).txs x.tx with
  | none => rw [hx] at h; cases h
  | some y => rw [hx] at h1; simp only at h1; rw [h1]
theorem due2_eq {L : List (List Tx)} {i : Int} {x : Reg} {hh : Int} {zz : Hash} {bb : Bool} (hk : x.kind = 2) (h1 : zz = (spM (mapsOf L) x.point).1) (h2 : hh = (spM (mapsOf L) x.point).2.1) (h3 : bb = (spM (mapsOf L) x.point).2.2) : dueR L i x = if bb then some ⟨i, false, 2, hh, zz⟩ else none := by
  unfold dueR
  rw [if_neg (by omega), if_pos hk, h1, h2, h3]
theorem due3_eq {L : List (List Tx)} {i : Int} {x : Reg} (hk : x.kind = 3) : dueR L i x = if x.height ≤ (L.length : Int) then some ⟨i, false, 3, x.height, Hash.zero⟩ else none := by
  unfold dueR
  rw [if_neg (by omega), if_neg (by omega), if_pos hk]
theorem due_else {L : List (List Tx)} {i : Int} {x : Reg} (h1 : x.kind ≠ 1) (h2 : x.kind ≠ 2) (h3 : x.kind ≠ 3) : dueR L i x = none := by
  unfold dueR
  rw [if_neg h1, if_neg h2, if_neg h3]
section
variable {w : World} {Z : Nat → Prop} {q : Nat} {r : HubR} {M : HubM}
set_option maxRecDepth 100000 in
set_option maxHeartbeats 4000000 in
theorem due_nf (h : HubAt w Z q r M) (hL : M.L.length ≤ 1000000) (i : Int) (x : Reg) (hx : i64 x.point.n) :
    Calls Tryz.prog 95 #[.pointer (some ⟨q, 0, none⟩), .int .i64 i, .agg x.arr] w fun e w' => e = .returned (.tuple #[.agg ((dueR M.L i x).getD Note.zero).arr, .bool (dueR M.L i x).isSome]) ∧ Below w.heap.size w w' := by
  obtain ⟨V, hV⟩ : ∃ V, V = (w.alloc (.cells x.arr 57)).alloc (.cells Note.zero.arr 63) := ⟨_, rfl⟩
  have hbV : Below w.heap.size w V := hV ▸ ((Below.refl _ _).alloc (Nat.le_refl _) _).alloc (by simp) _
  have hz : V.heap.size = w.heap.size + 2 := by rw [hV]; simp
  have v1 : V.heap[w.heap.size]? = some (.cells x.arr 57 (0, 0)) := by rw [hV]; exact (heap_alloc_old _ _ (by simp)).trans (heap_alloc_new w _)
  have v2 : V.heap[w.heap.size + 1]? = some (.cells Note.zero.arr 63 (0, 0)) := by rw [hV]; exact heap_second _ _ _ _
  obtain ⟨X, hst, g2, huX⟩ := store_whole (P := Tryz.prog) (t := 63) size_Note V (w.heap.size + 1) (Note.mk i Note.zero.back x.kind Note.zero.height Note.zero.tx).arr Note.zero.arr (by simp) (one_Note _) (by simp) v2
  have g1 : X.heap[w.heap.size]? = some (.cells x.arr 57 (0, 0)) := (huX.block _ (cells_known v1).2.2 (fun e => by have e2 : w.heap.size = w.heap.size + 1 := e; omega)).trans v1
  have hbX : Below w.heap.size w X := hbV.trans (huX.below hbV.size (fun k e => by have e2 : k = w.heap.size + 1 := e; omega))
  have hzX : X.heap.size = w.heap.size + 2 ∨ w.heap.size + 2 ≤ X.heap.size := .inr (by have := huX.size; omega)
  have hHV := h.keep hbV
  have hHX := (h.zoned (Y := fun k => Z k ∧ k < w.heap.size) (fun k hk hz => ⟨hz, hk⟩)).keep hbX
  have hht := height_ix _ _ _ _ _ V hHV.ix
  rw [List.length_map] at hht
  have cv4 := hHV.cells.2.2.2.2
  have ck : V.cell? ⟨w.heap.size, 0, none⟩ = some (.int .i64 x.kind) := ((cells_known v1).1 0).trans (Reg.arr_0 _)
  have ckX : X.cell? ⟨w.heap.size, 0, none⟩ = some (.int .i64 x.kind) := ((cells_known g1).1 0).trans (Reg.arr_0 _)
  have hz2 : w.heap.size + 1 < X.heap.size := (cells_known g2).2.2
  have HHX := Lib.hid hHX
  have HG := Lib.hid (And.intro g1 g2)
  have HBX := Lib.hid hbX
  have hql : q < w.heap.size := h.lt
  have HV := Lib.hid hV
  clear hHV hHX g1 g2 hbX hbV hz h hzX huX v1 v2 hV
  by_cases hk1 : x.kind = 1
  · -- a transaction
    have y1 : (x.kind == 1) = true := by simp [hk1]
    have hI := HHX.out.ix.keep (Below.refl X.heap.size X).drew
    have htx := tx_ix _ _ _ _ _ x.tx X.drew hI
    have e1 : row? X.drew ⟨w.heap.size, 1, none⟩ 32 = some x.tx.arr := by rw [row_part (w := X.drew) HG.out.1 1 32 (by simp)]; simp only [Nat.reduceAdd]; rw [Reg.ext_1]
    have e2 : X.drew.cell? ⟨q, 4, none⟩ = some (.pointer (some ⟨r.px, 0, none⟩)) := HHX.out.cells.2.2.2.2
    obtain ⟨hh, hhe⟩ : ∃ hh, hh = (txM (mapsOf M.L) x.tx).1 := ⟨_, rfl⟩
    obtain ⟨bb, hbe⟩ : ∃ bb, bb = (txM (mapsOf M.L) x.tx).2 := ⟨_, rfl⟩
    rw [← hhe, ← hbe] at htx
    have HHE := Lib.hid (And.intro hhe hbe)
    have HK := Lib.hid hk1
    clear hI hhe hbe hk1
    go_enter Tryz.func95, Tryz.ntmps95
    go_upto_region 1 with fail
    rw [← HV.out]
    go_wp2_with (go_at_call 21; refine hht.mono ?_; rintro e w1 ⟨rfl, rfl⟩)
    clear hst ck cv4 hht
    go_cut [7] (fun v7 wx => v7 = .bool bb ∧ wx.heap[w.heap.size + 1]? = some (.cells (Note.mk i false x.kind hh Hash.zero).arr 63 (0, 0)) ∧ Upd X wx (fun k => k = w.heap.size + 1))
    case first =>
      go_region_law (first | (go_simp; go_at_call 145; refine htx.mono ?_; rintro e wA ⟨u, rfl, huA, hbA⟩; have hA1 : wA.heap[w.heap.size + 1]? = some (.cells (Note.mk i Note.zero.back x.kind Note.zero.height Note.zero.tx).arr 63 (0, 0)) := (hbA.block _ hz2).trans HG.out.2; obtain ⟨kA, fA, lA⟩ := cells_known hA1; have kA3 := kA 3; rw [Note.arr_3] at kA3; have fA3 := fA 3; have HA1 := Lib.hid hA1; have HBA := Lib.hid hbA; clear hA1 kA fA hbA huA))
      all_goals go_wp2_with fail
      all_goals go_meet
      all_goals exact ⟨rfl, by rw [heap_set HA1.out 3 _, Note.set_3]; rfl, ((Upd.of_below (Below.refl X.heap.size X).drew _).trans ((Upd.of_below HBA.out _).trans (Upd.setCell wA _ _) (fun _ _ h => h)) (fun _ _ h => h))⟩
    case rest =>
      obtain ⟨rfl, hg, hu⟩ := hcut
      have hgx : wc.heap[w.heap.size]? = some (.cells x.arr 57 (0, 0)) := (hu.block _ (by omega) (fun e => by have e2 : w.heap.size = w.heap.size + 1 := e; omega)).trans HG.out.1
      obtain ⟨W4, hE4⟩ : ∃ W4, W4 = wc.drew.setCells (w.heap.size + 1) 4 x.tx.arr.toList := ⟨_, rfl⟩
      obtain ⟨hst4, hW4, hu4⟩ := store_note_tx wc.drew (w.heap.size + 1) _ x.tx (show wc.drew.heap[w.heap.size + 1]? = _ from hg)
      rw [← hE4] at hst4 hW4 hu4
      have hth : wc.drew.there (w.heap.size + 1) 4 x.tx.arr.toList.length := there_note (show wc.drew.heap[w.heap.size + 1]? = _ from hg)
      have HE4 := Lib.hid hE4
      have hgx4 : W4.heap[w.heap.size]? = some (.cells x.arr 57 (0, 0)) := (hu4.block _ (show w.heap.size < wc.heap.size from (cells_known hgx).2.2) (fun e => by have e2 : w.heap.size = w.heap.size + 1 := e; omega)).trans hgx
      have f1 : row? wc.drew ⟨w.heap.size, 1, none⟩ 32 = some x.tx.arr := by rw [row_part (w := wc.drew) hgx 1 32 (by simp)]; simp only [Nat.reduceAdd]; rw [Reg.ext_1]
      have f2 : wc.drew.cell? ⟨w.heap.size, 33, none⟩ = some (.int .i64 x.depth) := ((cells_known (w := wc.drew) hgx).1 33).trans (Reg.arr_33 _)
      have f3 : wc.drew.cell? ⟨w.heap.size + 1, 3, none⟩ = some (.int .i64 hh) := ((cells_known (w := wc.drew) hg).1 3).trans (Note.arr_3 _)
      have f4 : W4.cell? ⟨w.heap.size, 33, none⟩ = some (.int .i64 x.depth) := ((cells_known hgx4).1 33).trans (Reg.arr_33 _)
      have f5 : W4.cell? ⟨w.heap.size + 1, 3, none⟩ = some (.int .i64 hh) := ((cells_known hW4).1 3).trans (Note.arr_3 _)
      have f6 : W4.rangeAt w.heap.size 1 x.tx.arr.toList := rangeAt_row (n := 32) (by rw [row_part hgx4 1 32 (by simp)]; simp only [Nat.reduceAdd]; rw [Reg.ext_1])
      have hb4 : Below w.heap.size w W4 := HBX.out.trans ((hu.below HBX.out.size (fun k e => by have e2 : k = w.heap.size + 1 := e; omega)).trans ((Below.refl w.heap.size wc).drew.trans (hu4.below (Nat.le_trans HBX.out.size hu.size) (fun k e => by have e2 : k = w.heap.size + 1 := e; omega))))
      obtain ⟨Y1, hs1, hY1, hu1⟩ := store_whole (P := Tryz.prog) (t := 63) size_Note W4 (w.heap.size + 1) (Note.mk i false x.kind hh x.tx).arr (Note.mk i false x.kind hh x.tx).arr (by simp) (one_Note _) (by simp) hW4
      obtain ⟨Y2, hs2, hY2, hu2⟩ := store_whole (P := Tryz.prog) (t := 63) size_Note W4 (w.heap.size + 1) Note.zero.arr (Note.mk i false x.kind hh x.tx).arr (by simp) (one_Note _) (by simp) hW4
      have rr : row? W4 ⟨w.heap.size + 1, 0, none⟩ 36 = some (Note.mk i false x.kind hh x.tx).arr := row_of_block hW4 (by simp)
      have HY1 := Lib.hid (And.intro hY1 (hb4.trans (hu1.below hb4.size (fun k e => by have e2 : k = w.heap.size + 1 := e; omega))))
      have HY2 := Lib.hid (And.intro hY2 (hb4.trans (hu2.below hb4.size (fun k e => by have e2 : k = w.heap.size + 1 := e; omega))))
      have hone := one_Hash x.tx
      clear hE4 hg hu hgx hW4 hu4 hgx4 e1 e2 htx hY1 hu1 hY2 hu2 ckX
      have hS0 : wc.drew.rangeAt w.heap.size 1 x.tx.arr.toList ∧ wc.drew.cell? ⟨w.heap.size, 33, none⟩ = some (.int .i64 x.depth) ∧ wc.drew.cell? ⟨w.heap.size + 1, 3, none⟩ = some (.int .i64 hh) := ⟨rangeAt_row f1, f2, f3⟩
      have hS1 : W4.rangeAt w.heap.size 1 x.tx.arr.toList ∧ W4.cell? ⟨w.heap.size, 33, none⟩ = some (.int .i64 x.depth) ∧ W4.cell? ⟨w.heap.size + 1, 3, none⟩ = some (.int .i64 hh) := ⟨f6, f4, f5⟩
      have hU : Tryz.prog.underlying 38 = some (.array 32 5) := Tryz.underlying38
      have hI : (Tryz.prog.info? 38).map (·.size) = some x.tx.arr.toList.length := by simp [size_Hash]
      cases bb with
      | false =>
        clear f4 f5 f6 hS0 hS1
        go_upto_region 6 with fail
        go_region
        all_goals go_wp2_with fail
        all_goals exact bodyPost_ret (results_cell1 rfl _ _ (w.heap.size + 1) 63 Note.zero.arr (0, 0) _ (.bool false) rfl rfl HY2.out.1 Tryz.underlying63 rfl (by rw [size_Note]; simp)) rfl ⟨by rw [due1_no HK.out HHE.out.2]; rfl, HY2.out.2⟩
      | true =>
        clear f1 f2 f3 f4 f5 f6
        have hle : hh ≤ (M.L.length : Int) ∧ 0 ≤ hh := by
          rw [HHE.out.1]; unfold txM
          cases hy : (mapsOf M.L).txs x.tx with
          | none => exact ⟨by simp, by simp⟩
          | some y => have := maps_high M.L _ _ hy; exact ⟨by simp only; omega, by simp only; omega⟩
        have hwr1 : IntKind.i64.wrap ((M.L.length : Int) - hh) = (M.L.length : Int) - hh := wrap_i64 (by omega) (by omega)
        have hwr2 : IntKind.i64.wrap ((M.L.length : Int) - hh + 1) = (M.L.length : Int) - hh + 1 := wrap_i64 (by omega) (by omega)
        have hdue := Lib.hid (due1_yes (i := i) HK.out HHE.out.2 HHE.out.1)
        have hkk := HK.out
        clear hle
        by_cases hdp : x.depth ≤ (M.L.length : Int) - hh + 1
        · have dd : decide (x.depth ≤ (M.L.length : Int) - hh + 1) = true := decide_eq_true hdp
          have hd2 := hdue.out
          rw [if_pos hdp] at hd2
          have hdue := Lib.hid hd2
          have HY1' : Hid (Y1.heap[w.heap.size + 1]? = some (.cells (Note.mk i false 1 hh x.tx).arr 63 (0, 0))) := by rw [← hkk]; exact HY1.out.1
          clear hd2 hdp hkk
          go_upto_region 6 with fail
          go_region_held3 (fun Q : World => Q.rangeAt w.heap.size 1 x.tx.arr.toList ∧ Q.cell? ⟨w.heap.size, 33, none⟩ = some (.int .i64 x.depth) ∧ Q.cell? ⟨w.heap.size + 1, 3, none⟩ = some (.int .i64 hh)) (first | exact hS0 | (rw [← HE4.out]; exact hS1)) (fail)
          all_goals rw [← HE4.out]
          all_goals go_wp2_with fail
          all_goals exact bodyPost_ret (results_cell1 rfl _ _ (w.heap.size + 1) 63 (Note.mk i false 1 hh x.tx).arr (0, 0) _ (.bool true) rfl rfl HY1'.out Tryz.underlying63 rfl (by rw [size_Note]; simp)) rfl ⟨by rw [hdue.out]; rfl, HY1.out.2⟩
        · have dd : decide (x.depth ≤ (M.L.length : Int) - hh + 1) = false := decide_eq_false hdp
          have hd2 := hdue.out
          rw [if_neg hdp] at hd2
          have hdue := Lib.hid hd2
          clear hd2 hdp hkk
          go_upto_region 6 with fail
          go_region_held3 (fun Q : World => Q.rangeAt w.heap.size 1 x.tx.arr.toList ∧ Q.cell? ⟨w.heap.size, 33, none⟩ = some (.int .i64 x.depth) ∧ Q.cell? ⟨w.heap.size + 1, 3, none⟩ = some (.int .i64 hh)) (first | exact hS0 | (rw [← HE4.out]; exact hS1)) (fail)
          all_goals rw [← HE4.out]
          all_goals go_wp2_with fail
          all_goals exact bodyPost_ret (results_cell1 rfl _ _ (w.heap.size + 1) 63 Note.zero.arr (0, 0) _ (.bool false) rfl rfl HY2.out.1 Tryz.underlying63 rfl (by rw [size_Note]; simp)) rfl ⟨by rw [hdue.out]; rfl, HY2.out.2⟩
  · by_cases hk2 : x.kind = 2
    · -- a place
      have y1 : (x.kind == 1) = false := by simp [hk1]
      have y2 : (x.kind == 2) = true := by simp [hk2]
      have hI := HHX.out.ix.keep (Below.refl X.heap.size X).drew
      have hsp := spender_ix _ _ _ _ _ x.point hx X.drew hI
      have e1 : row? X.drew ⟨w.heap.size, 34, none⟩ 33 = some x.point.arr := by rw [row_part (w := X.drew) HG.out.1 34 33 (by simp)]; simp only [Nat.reduceAdd]; rw [Reg.ext_34]
      have e2 : X.drew.cell? ⟨q, 4, none⟩ = some (.pointer (some ⟨r.px, 0, none⟩)) := HHX.out.cells.2.2.2.2
      obtain ⟨zz, hze⟩ : ∃ zz, zz = (spM (mapsOf M.L) x.point).1 := ⟨_, rfl⟩
      obtain ⟨hh, hhe⟩ : ∃ hh, hh = (spM (mapsOf M.L) x.point).2.1 := ⟨_, rfl⟩
      obtain ⟨bb, hbe⟩ : ∃ bb, bb = (spM (mapsOf M.L) x.point).2.2 := ⟨_, rfl⟩
      rw [← hze, ← hhe, ← hbe] at hsp
      have HDU := Lib.hid (due2_eq (i := i) hk2 hze hhe hbe)
      have HK := Lib.hid hk2
      clear hI hze hhe hbe hk1 hk2
      go_enter Tryz.func95, Tryz.ntmps95
      go_upto_region 1 with fail
      rw [← HV.out]
      go_wp2_with (go_at_call 21; refine hht.mono ?_; rintro e w1 ⟨rfl, rfl⟩)
      clear hst ck cv4 hht
      go_region_law (first | (go_simp; go_at_call 146; refine hsp.mono ?_; rintro e wA ⟨rfl, hbA⟩; have hA1 : wA.heap[w.heap.size + 1]? = some (.cells (Note.mk i Note.zero.back x.kind Note.zero.height Note.zero.tx).arr 63 (0, 0)) := (hbA.block _ hz2).trans HG.out.2; obtain ⟨kA, fA, lA⟩ := cells_known hA1; have kA3 := kA 3; rw [Note.arr_3] at kA3; have fA3 := fA 3; obtain ⟨sA, gA, uA⟩ := store_note_tx wA (w.heap.size + 1) _ zz hA1; obtain ⟨kB, fB, lB⟩ := cells_known gA; have kB3 := kB 3; rw [Note.arr_3] at kB3; have fB3 := fB 3; have hC1 : (wA.setCell ⟨w.heap.size + 1, 3, none⟩ (.int .i64 hh)).heap[w.heap.size + 1]? = some (.cells (Note.mk i Note.zero.back x.kind hh Note.zero.tx).arr 63 (0, 0)) := (by rw [heap_set hA1 3 _, Note.set_3]); obtain ⟨sC, gC, uC⟩ := store_note_tx _ (w.heap.size + 1) _ zz hC1; have HGA := Lib.hid (And.intro gA uA); have HGC := Lib.hid (And.intro gC uC); have HBA := Lib.hid hbA; clear hA1 kA fA hbA gA uA kB fB hC1 gC uC))
      all_goals first | (obtain ⟨wc, hwc⟩ : ∃ wc, wc = (wA.setCells (w.heap.size + 1) 4 zz.arr.toList).setCell ⟨w.heap.size + 1, 3, none⟩ (.int .i64 hh) := ⟨_, rfl⟩; rw [← hwc]; have hgb : wc.heap[w.heap.size + 1]? = some (.cells (Note.mk i false x.kind hh zz).arr 63 (0, 0)) ∧ Below w.heap.size w wc := ⟨by rw [hwc, heap_set HGA.out.1 3 _, Note.set_3]; rfl, by rw [hwc]; exact HBX.out.trans ((Below.refl w.heap.size X).drew.trans ((HBA.out.mono HBX.out.size).trans ((HGA.out.2.trans (Upd.setCell _ _ _) (fun _ _ h => h)).below (Nat.le_trans HBX.out.size HBA.out.size) (fun k e => by have e2 : k = w.heap.size + 1 := e; omega))))⟩) | (obtain ⟨wc, hwc⟩ : ∃ wc, wc = (wA.setCell ⟨w.heap.size + 1, 3, none⟩ (.int .i64 hh)).setCells (w.heap.size + 1) 4 zz.arr.toList := ⟨_, rfl⟩; rw [← hwc]; have hgb : wc.heap[w.heap.size + 1]? = some (.cells (Note.mk i false x.kind hh zz).arr 63 (0, 0)) ∧ Below w.heap.size w wc := ⟨by rw [hwc]; exact HGC.out.1, by rw [hwc]; exact HBX.out.trans ((Below.refl w.heap.size X).drew.trans ((HBA.out.mono HBX.out.size).trans (((Upd.setCell wA _ _).trans HGC.out.2 (fun _ _ h => h)).below (Nat.le_trans HBX.out.size HBA.out.size) (fun k e => by have e2 : k = w.heap.size + 1 := e; omega))))⟩)
      all_goals
        obtain ⟨hg, hb⟩ := hgb
        clear hwc
        obtain ⟨Y1, hs1, hY1, hu1⟩ := store_whole (P := Tryz.prog) (t := 63) size_Note wc (w.heap.size + 1) (Note.mk i false x.kind hh zz).arr (Note.mk i false x.kind hh zz).arr (by simp) (one_Note _) (by simp) hg
        obtain ⟨Y2, hs2, hY2, hu2⟩ := store_whole (P := Tryz.prog) (t := 63) size_Note wc (w.heap.size + 1) Note.zero.arr (Note.mk i false x.kind hh zz).arr (by simp) (one_Note _) (by simp) hg
        have rr : row? wc ⟨w.heap.size + 1, 0, none⟩ 36 = some (Note.mk i false x.kind hh zz).arr := row_of_block hg (by simp)
        have HY1 := Lib.hid (And.intro hY1 (hb.trans (hu1.below hb.size (fun k e => by have e2 : k = w.heap.size + 1 := e; omega))))
        have HY2 := Lib.hid (And.intro hY2 (hb.trans (hu2.below hb.size (fun k e => by have e2 : k = w.heap.size + 1 := e; omega))))
        have HY1' : Hid (Y1.heap[w.heap.size + 1]? = some (.cells (Note.mk i false 2 hh zz).arr 63 (0, 0)) ∧ Below w.heap.size w Y1) := by rw [← HK.out]; exact HY1.out
        clear hg hb hY1 hu1 hY2 hu2 ckX e1 e2 hsp
        cases bb with
        | false =>
          go_wp2_with fail
          exact bodyPost_ret (results_cell1 rfl _ _ (w.heap.size + 1) 63 Note.zero.arr (0, 0) _ (.bool false) rfl rfl HY2.out.1 Tryz.underlying63 rfl (by rw [size_Note]; simp)) rfl ⟨by rw [HDU.out]; rfl, HY2.out.2⟩
        | true =>
          go_wp2_with fail
          exact bodyPost_ret (results_cell1 rfl _ _ (w.heap.size + 1) 63 (Note.mk i false 2 hh zz).arr (0, 0) _ (.bool true) rfl rfl HY1'.out.1 Tryz.underlying63 rfl (by rw [size_Note]; simp)) rfl ⟨by rw [HDU.out]; rfl, HY1'.out.2⟩
    · by_cases hk3 : x.kind = 3
      · -- a height
        have y1 : (x.kind == 1) = false := by simp [hk1]
        have y2 : (x.kind == 2) = false := by simp [hk2]
        have y3 : (x.kind == 3) = true := by simp [hk3]
        have e1 : X.drew.cell? ⟨w.heap.size, 67, none⟩ = some (.int .i64 x.height) := ((cells_known (w := X.drew) HG.out.1).1 67).trans (Reg.arr_67 _)
        have e3 : X.cell? ⟨w.heap.size, 67, none⟩ = some (.int .i64 x.height) := e1
        obtain ⟨kA, fA, lA⟩ := cells_known (show X.drew.heap[w.heap.size + 1]? = _ from HG.out.2)
        have kA3 := kA 3
        rw [Note.arr_3] at kA3
        have fA3 := fA 3
        have e2 : (X.drew.setCell ⟨w.heap.size + 1, 3, none⟩ (.int .i64 x.height)).cell? ⟨w.heap.size, 67, none⟩ = some (.int .i64 x.height) := ((Upd.setCell X.drew ⟨w.heap.size + 1, 3, none⟩ (.int .i64 x.height)).cell (show w.heap.size < X.drew.heap.size from Nat.lt_of_succ_lt hz2) (by intro e; have e2 : w.heap.size = w.heap.size + 1 := e; omega) 67).trans e1
        have HDU := Lib.hid (due3_eq (L := M.L) (i := i) hk3)
        have HK := Lib.hid hk3
        have HF := Lib.hid (And.intro kA fA)
        clear kA fA lA hk1 hk2 hk3
        go_enter Tryz.func95, Tryz.ntmps95
        go_upto_region 1 with fail
        rw [← HV.out]
        go_wp2_with (go_at_call 21; refine hht.mono ?_; rintro e w1 ⟨rfl, rfl⟩)
        clear hst ck cv4 hht
        go_region_law (fail)
        all_goals
          obtain ⟨wc, hwc⟩ : ∃ wc, wc = (X.setCell ⟨w.heap.size + 1, 3, none⟩ (.int .i64 x.height)).drew := ⟨_, rfl⟩
          rw [← hwc]
          have hg : wc.heap[w.heap.size + 1]? = some (.cells (Note.mk i false x.kind x.height Hash.zero).arr 63 (0, 0)) := by rw [hwc]; show (X.setCell _ _).heap[_]? = _; rw [heap_set HG.out.2 3 _, Note.set_3]; rfl
          have hb : Below w.heap.size w wc := by rw [hwc]; exact (HBX.out.trans ((Upd.setCell X _ _).below HBX.out.size (fun k e => by have e2 : k = w.heap.size + 1 := e; omega))).drew
          clear hwc
          obtain ⟨Y1, hs1, hY1, hu1⟩ := store_whole (P := Tryz.prog) (t := 63) size_Note wc (w.heap.size + 1) (Note.mk i false x.kind x.height Hash.zero).arr (Note.mk i false x.kind x.height Hash.zero).arr (by simp) (one_Note _) (by simp) hg
          obtain ⟨Y2, hs2, hY2, hu2⟩ := store_whole (P := Tryz.prog) (t := 63) size_Note wc (w.heap.size + 1) Note.zero.arr (Note.mk i false x.kind x.height Hash.zero).arr (by simp) (one_Note _) (by simp) hg
          have rr : row? wc ⟨w.heap.size + 1, 0, none⟩ 36 = some (Note.mk i false x.kind x.height Hash.zero).arr := row_of_block hg (by simp)
          have HY1 := Lib.hid (And.intro hY1 (hb.trans (hu1.below hb.size (fun k e => by have e2 : k = w.heap.size + 1 := e; omega))))
          have HY2 := Lib.hid (And.intro hY2 (hb.trans (hu2.below hb.size (fun k e => by have e2 : k = w.heap.size + 1 := e; omega))))
          have HY1' : Hid (Y1.heap[w.heap.size + 1]? = some (.cells (Note.mk i false 3 x.height Hash.zero).arr 63 (0, 0)) ∧ Below w.heap.size w Y1) := by rw [← HK.out]; exact HY1.out
          clear hg hb hY1 hu1 hY2 hu2 ckX e1 e2 kA3 fA3
          by_cases hd : x.height ≤ (M.L.length : Int)
          · have dd : decide (x.height ≤ (M.L.length : Int)) = true := decide_eq_true hd
            have hdu := HDU.out
            rw [if_pos hd] at hdu
            have HDU := Lib.hid hdu
            clear hdu hd
            go_wp2_with fail
            exact bodyPost_ret (results_cell1 rfl _ _ (w.heap.size + 1) 63 (Note.mk i false 3 x.height Hash.zero).arr (0, 0) _ (.bool true) rfl rfl HY1'.out.1 Tryz.underlying63 rfl (by rw [size_Note]; simp)) rfl ⟨by rw [HDU.out]; rfl, HY1'.out.2⟩
          · have dd : decide (x.height ≤ (M.L.length : Int)) = false := decide_eq_false hd
            have hdu := HDU.out
            rw [if_neg hd] at hdu
            have HDU := Lib.hid hdu
            clear hdu hd
            go_wp2_with fail
            exact bodyPost_ret (results_cell1 rfl _ _ (w.heap.size + 1) 63 Note.zero.arr (0, 0) _ (.bool false) rfl rfl HY2.out.1 Tryz.underlying63 rfl (by rw [size_Note]; simp)) rfl ⟨by rw [HDU.out]; rfl, HY2.out.2⟩
      · have y1 : (x.kind == 1) = false := by simp [hk1]
        have y2 : (x.kind == 2) = false := by simp [hk2]
        have y3 : (x.kind == 3) = false := by simp [hk3]
        have HDU := Lib.hid (due_else (L := M.L) (i := i) hk1 hk2 hk3)
        obtain ⟨hg, hb⟩ : X.heap[w.heap.size + 1]? = some (.cells (Note.mk i Note.zero.back x.kind Note.zero.height Note.zero.tx).arr 63 (0, 0)) ∧ Below w.heap.size w X := ⟨HG.out.2, HBX.out⟩
        obtain ⟨Y1, hs1, hY1, hu1⟩ := store_whole (P := Tryz.prog) (t := 63) size_Note X (w.heap.size + 1) (Note.mk i Note.zero.back x.kind Note.zero.height Note.zero.tx).arr (Note.mk i Note.zero.back x.kind Note.zero.height Note.zero.tx).arr (by simp) (one_Note _) (by simp) hg
        obtain ⟨Y2, hs2, hY2, hu2⟩ := store_whole (P := Tryz.prog) (t := 63) size_Note X (w.heap.size + 1) Note.zero.arr (Note.mk i Note.zero.back x.kind Note.zero.height Note.zero.tx).arr (by simp) (one_Note _) (by simp) hg
        have rr : row? X ⟨w.heap.size + 1, 0, none⟩ 36 = some (Note.mk i Note.zero.back x.kind Note.zero.height Note.zero.tx).arr := row_of_block hg (by simp)
        have HY1 := Lib.hid (And.intro hY1 (hb.trans (hu1.below hb.size (fun k e => by have e2 : k = w.heap.size + 1 := e; omega))))
        have HY2 := Lib.hid (And.intro hY2 (hb.trans (hu2.below hb.size (fun k e => by have e2 : k = w.heap.size + 1 := e; omega))))
        clear hg hb hY1 hu1 hY2 hu2 hk1 hk2 hk3
        go_enter Tryz.func95, Tryz.ntmps95
        go_upto_region 1 with fail
        rw [← HV.out]
        go_wp2_with (go_at_call 21; refine hht.mono ?_; rintro e w1 ⟨rfl, rfl⟩)
        exact bodyPost_ret (results_cell1 rfl _ _ (w.heap.size + 1) 63 Note.zero.arr (0, 0) _ (.bool false) rfl rfl HY2.out.1 Tryz.underlying63 rfl (by rw [size_Note]; simp)) rfl ⟨by rw [HDU.out]; rfl, HY2.out.2⟩
end
end Go.Proofs.YtlkojkjeklblkaaGreat
namespace Go.Proofs.YtlkojkjeklblkaaGreat
open Go.RowKit Go.MapKept
/-- What stands of one is something else. -/
def HubM.setSt (M : HubM) (i : Int) (v : Option Note) : HubM := { M with rows := M.rows.map fun x => if x.id = i then { x with st := v } else x }
section
variable {M : HubM} {i : Int} {v : Option Note}
theorem setSt_ids : (M.setSt i v).ids = M.ids := by
  unfold HubM.setSt HubM.ids
  simp only [List.map_map]
  refine List.map_congr_left (fun x _ => ?_)
  simp only [Function.comp]
  split <;> rfl
theorem setSt_len : (M.setSt i v).rows.length = M.rows.length := by simp [HubM.setSt]
theorem setSt_find (j : Int) : (M.setSt i v).rows.find? (fun y => y.id == j) = (M.rows.find? (fun y => y.id == j)).map (fun x => if x.id = i then { x with st := v } else x) := by
  unfold HubM.setSt
  simp only
  induction M.rows with
  | nil => rfl
  | cons y l ih =>
    have e : (if y.id = i then { y with st := v } else y).id = y.id := by split <;> rfl
    by_cases hy : y.id = j
    · rw [List.map_cons, List.find?_cons_of_pos (by rw [e]; simp [hy]), List.find?_cons_of_pos (by simp [hy])]; rfl
    · rw [List.map_cons, List.find?_cons_of_neg (by rw [e]; simp [hy]), List.find?_cons_of_neg (by simp [hy]), ih]
theorem setSt_regF : (M.setSt i v).regF = M.regF := by
  funext j
  unfold HubM.regF
  rw [setSt_find]
  cases M.rows.find? (fun y => y.id == j) with
  | none => rfl
  | some x => simp only [Option.map_some]; split <;> rfl
theorem setSt_stF (hi : i ∈ M.ids) : (M.setSt i v).stF = updF M.stF i v := by
  obtain ⟨x, hx, rfl⟩ := List.mem_map.1 hi
  funext j
  unfold updF
  by_cases hj : j = x.id
  · subst hj
    rw [if_pos rfl]
    unfold HubM.stF
    rw [setSt_find]
    obtain ⟨y, hy⟩ : ∃ y, M.rows.find? (fun y => y.id == x.id) = some y := Option.isSome_iff_exists.1 (List.find?_isSome.2 ⟨x, hx, by simp⟩)
    rw [hy]
    have := (find_mem hy).2
    simp [this]
  · rw [if_neg hj]
    unfold HubM.stF
    rw [setSt_find]
    cases hf : M.rows.find? (fun y => y.id == j) with
    | none => rfl
    | some y =>
      have := (find_mem hf).2
      simp only [Option.map_some, Option.bind_some]
      rw [if_neg (by omega)]
theorem HubM.Ok.setSt (h : M.Ok) (hv : ∀ n, v = some n → n.id = i ∧ n.back = false) : (M.setSt i v).Ok := by
  refine ⟨by rw [setSt_ids]; exact h.sorted, ?_, h.last, ?_, ?_, h.good⟩
  · intro x hx
    obtain ⟨y, hy, rfl⟩ := List.mem_map.1 hx
    have := h.low y hy
    split <;> exact this
  · intro x hx n hn
    obtain ⟨y, hy, rfl⟩ := List.mem_map.1 hx
    split at hn
    · rename_i e; rw [if_pos e, e]; exact hv n hn
    · rename_i e; rw [if_neg e]; exact h.mine y hy n hn
  · intro x hx
    obtain ⟨y, hy, rfl⟩ := List.mem_map.1 hx
    have := h.may y hy
    split <;> exact this
theorem setSt_twice {u : Option Note} : (M.setSt i u).setSt i v = M.setSt i v := by
  unfold HubM.setSt
  simp only [List.map_map]
  congr 1
  refine List.map_congr_left (fun x _ => ?_)
  simp only [Function.comp]
  by_cases e : x.id = i
  · rw [if_pos e, if_pos e, if_pos (by exact e)]
  · rw [if_neg e, if_neg e]
theorem setSt_one (h : M.Ok) {x : NRow} (hx : x ∈ M.rows) : M.setSt x.id (M.due x) = M.one x.id := by
  unfold HubM.setSt HubM.one
  congr 1
  refine List.map_congr_left (fun y hy => ?_)
  by_cases e : y.id = x.id
  · have h1 := find_of h.sorted hx
    have h2 := find_of h.sorted hy
    rw [e, h1] at h2
    cases h2
    rfl
  · rw [if_neg e, if_neg e]
theorem setSt_same (h : M.Ok) {x : NRow} (hx : x ∈ M.rows) : M.setSt x.id x.st = M := by
  unfold HubM.setSt
  have : (M.rows.map fun y => if y.id = x.id then { y with st := x.st } else y) = M.rows := by
    conv => rhs; rw [← List.map_id M.rows]
    refine List.map_congr_left (fun y hy => ?_)
    by_cases e : y.id = x.id
    · have h1 := find_of h.sorted hx
      have h2 := find_of h.sorted hy
      rw [e, h1] at h2
      cases h2
      rw [if_pos rfl]; rfl
    · rw [if_neg e]; rfl
  rw [this]
end
section
variable {w w' : World} {Z : Nat → Prop} {q : Nat} {r : HubR} {M : HubM}
theorem stW_upd (i : Int) (hi : i64 i) (hm : i ∈ M.ids) (v : Option Note) : upd M.stW ⟨i, hi⟩ (v.map fun n => .agg n.arr) = (M.setSt i v).stW := by
  funext y
  unfold upd HubM.stW
  rw [setSt_stF hm]
  unfold updF
  by_cases e : y = ⟨i, hi⟩
  · subst e; rw [if_pos rfl, if_pos rfl]
  · rw [if_neg e, if_neg (fun e2 => e (Subtype.ext e2))]
/-- Only the map of what stands has changed. -/
theorem HubAt.newSt (h : HubAt w Z q r M) (i : Int) (v : Option Note) (hv : ∀ n, v = some n → n.id = i ∧ n.back = false) {n' : Nat} (hm : mapAt w' intV r.ms n' (M.setSt i v).stW) (hu : Upd w w' (fun k => k = r.ms)) : HubAt w' Z q { r with ns := n' } (M.setSt i v) := by
  have hqm : q ≠ r.ms := fun e => by
    obtain ⟨es, cl, hb, _⟩ := h.st
    rw [← e, h.hd] at hb
    cases hb
  refine ⟨(hu.block _ h.lt hqm).trans h.hd, ?_, hm, h.ix.kept hu (fun k hk _ e => hk.2.2.2 e), h.zone, h.two, h.ok.setSt hv⟩
  have := h.regs.of_block (hu.block _ h.regs.lt h.two)
  rw [setSt_len]
  unfold HubM.regW
  rw [setSt_regF]
  exact this
theorem HubAt.dropSt (h : HubAt w Z q r M) (i : Int) (hi : i64 i) (hm : i ∈ M.ids) : ∃ w' n', (∀ ty, (Builtin.delete_ #[110, 3] ty #[.map (some r.ms), .int .i64 i]).run Tryz.prog w = .ok (.tuple #[]) w') ∧ HubAt w' Z q { r with ns := n' } (M.setSt i none) ∧ Upd w w' (fun k => k = r.ms) := by
  obtain ⟨w', n', h1, h2, h3⟩ := mapDrop_all int_enc Tryz.underlying110 h.st ⟨i, hi⟩
  refine ⟨w', n', h1, h.newSt i none (by simp) ?_ h3, h3⟩
  have := stW_upd i hi hm none
  simp only [Option.map_none] at this
  rw [this] at h2
  exact h2
theorem HubAt.putSt (h : HubAt w Z q r M) (i : Int) (hi : i64 i) (hm : i ∈ M.ids) (n : Note) (hn : n.id = i ∧ n.back = false) : ∃ w' n', (Instr.mapUpdate 110 (.map (some r.ms)) (.int .i64 i) (.agg n.arr)).run Tryz.prog w = .ok () w' ∧ HubAt w' Z q { r with ns := n' } (M.setSt i (some n)) ∧ Upd w w' (fun k => k = r.ms) := by
  obtain ⟨w', h1, h2, h3⟩ := run_mapStore int_enc Tryz.underlying110 h.st ⟨i, hi⟩ (.agg n.arr)
  have hu : Upd w w' (fun k => k = r.ms) := (Upd.grown h3).mono (fun k _ e => (Option.some.inj e).symm)
  have := stW_upd i hi hm (some n)
  simp only [Option.map_some] at this
  rw [this] at h2
  exact ⟨w', _, h1, h.newSt i (some n) (fun m e => by cases e; exact hn) h2 hu, hu⟩
end
end Go.Proofs.YtlkojkjeklblkaaGreat
namespace Go.Proofs.YtlkojkjeklblkaaGreat
open Go.RowKit Go.MapKept
theorem jump_gotoN {Q : Exit → Act → World → Prop} {a : Act} {w : World} (l : Nat) (J : Act → World → Prop) : Exit.jump l J Q (.goto l) a w = J a w := by simp [Exit.jump]
theorem noGoto_retN {Q : Exit → Act → World → Prop} {a : Act} {w : World} : Exit.noGoto Q .ret a w = Q .ret a w := rfl
theorem wpList_runN {P : Program} {w : World} {ops : Array Oper} {rest : List Oper} {o : Oper} {a : Act} {Q : Exit → Act → World → Prop} (hgd : o.guard = none) (s x : Operand) (t tx : TypeId)
    (ho : o.op = .call { callee := .builtin .append, args := #[s, x], argTypes := #[t, tx] }) (v u : Value) (hs : a.eval s = v) (hx : a.eval x = u) {v' : Value} {w' : World} (hr : (Builtin.append_ #[t, tx] o.type #[v, u]).run P w = .ok v' w')
    (hK : wpList P ops Q rest (a.put o.dst v') w') : wpList P ops Q (o :: rest) a w := by
  refine wpList_plain hgd fun K' hK' => ?_
  unfold Oper.wp execOp
  simp only [ho, resolve, invoke, builtin, Sem.run_bind, Sem.run_pure, Result.andThen_ok, List.map_toArray, List.map_cons, List.map_nil, hs, hx, hr]
  exact hK' _ _ hK
section
variable {w w' : World} {Z : Nat → Prop} {q : Nat} {r : HubR} {M : HubM}
/-- What tells comes to. -/
def TellsPost (w : World) (Z : Nat → Prop) (q : Nat) (r : HubR) (M : HubM) (x : NRow) (e : Ending) (w' : World) : Prop :=
  ∃ (s : Sl) (n' : Nat), e = .returned (.slice s.a s.n s.c) ∧ s.n = (outR x.st (M.due x)).length ∧ ownN w' w.heap.size s (outR x.st (M.due x)) ∧ HubAt w' Z q { r with ns := n' } (M.one x.id) ∧ Upd w w' (fun k => k = r.ms)
set_option maxRecDepth 100000 in
set_option maxHeartbeats 4000000 in
theorem tells_nf (h : HubAt w Z q r M) (hL : M.L.length ≤ 1000000) (x : NRow) (hx : x ∈ M.rows) (hi : i64 x.id) :
    Calls Tryz.prog 58 #[.pointer (some ⟨q, 0, none⟩), .int .i64 x.id] w (TellsPost w Z q r M x) := by
  obtain ⟨st, hst⟩ : ∃ st, st = x.st := ⟨_, rfl⟩
  obtain ⟨nw, hnw⟩ : ∃ nw, nw = M.due x := ⟨_, rfl⟩
  have hids : x.id ∈ M.ids := List.mem_map.2 ⟨x, hx, rfl⟩
  have l1 := (h.lookN x.id hi).2
  rw [h.ok.stF hx, ← hst] at l1
  obtain ⟨W1, hW1⟩ : ∃ W1, W1 = w.alloc (.cells (st.getD Note.zero).arr 63) := ⟨_, rfl⟩
  have hb1 : Below w.heap.size w W1 := hW1 ▸ (Below.refl _ _).alloc (Nat.le_refl _) _
  have h1 := (h.zoned (Y := fun k => Z k ∧ k < w.heap.size) (fun k hk hz => ⟨hz, hk⟩)).keep hb1
  have g1 : W1.heap[w.heap.size]? = some (.cells (st.getD Note.zero).arr 63 (0, 0)) := hW1 ▸ heap_alloc_new w _
  have l2 := (h1.lookR x.id hi).1
  rw [h.ok.regF hx] at l2
  have hdue := due_nf h1 hL x.id x.r (h.ok.may x hx).2
  rw [show dueR M.L x.id x.r = M.due x from rfl, ← hnw] at hdue
  have c0 := h.cells.2.2.2.1
  have c1 := h1.cells.2.2.1
  have hqw := h.lt
  have H := Lib.hid h
  have H1 := Lib.hid h1
  have G1 := Lib.hid g1
  have B1 := Lib.hid hb1
  have HW1 := Lib.hid hW1
  have HX := Lib.hid (And.intro hx (And.intro hst hnw))
  have hids := Lib.hid hids
  have hw1 : w.heap.size < W1.heap.size := (cells_known g1).2.2
  clear h h1 g1 hb1 hW1 hx hst hnw
  go_enter Tryz.func58, Tryz.ntmps58
  go_wp2_with fail
  refine wp_scope_fwd 0 (by rfl) ?_
  go_upto_region 2 with fail
  rw [← HW1.out]
  go_upto_region 3 with (go_at_call 95; refine hdue.mono ?_; rintro e W2 ⟨rfl, hb2⟩)
  obtain ⟨W3, hW3⟩ : ∃ W3, W3 = W2.alloc (.cells (nw.getD Note.zero).arr 63) := ⟨_, rfl⟩
  rw [← hW3]
  have hb23 : Below W2.heap.size W2 W3 := hW3 ▸ (Below.refl _ _).alloc (Nat.le_refl _) _
  have hb13 : Below W1.heap.size W1 W3 := hb2.trans (hb23.mono hb2.size)
  have g3b : W3.heap[W2.heap.size]? = some (.cells (nw.getD Note.zero).arr 63 (0, 0)) := hW3 ▸ heap_alloc_new W2 _
  have g3a := (hb13.block _ hw1).trans G1.out
  have H3 := Lib.hid (H1.out.keep hb13)
  have B3 := Lib.hid (B1.out.trans (hb13.mono B1.out.size))
  have G3 := Lib.hid (And.intro g3a g3b)
  have hw3 : W2.heap.size < W3.heap.size := (cells_known g3b).2.2
  have hw2 : w.heap.size < W2.heap.size := Nat.lt_of_lt_of_le hw1 hb2.size
  have r5 : row? W3 ⟨w.heap.size, 0, none⟩ 36 = some (st.getD Note.zero).arr := row_of_block g3a (by simp)
  have r7 : row? W3 ⟨W2.heap.size, 0, none⟩ 36 = some (nw.getD Note.zero).arr := row_of_block g3b (by simp)
  have HXX := HX
  clear hdue l1 l2 c0 c1 hb2 hb23 hb13 g3a g3b hW3
  by_cases he : st = nw
  · have ho := Lib.hid he
    subst he
    have hone : Hid (M.one x.id = M) := by unfold Hid; rw [← setSt_one H.out.ok HX.out.1, ← HX.out.2.2, HX.out.2.1]; exact setSt_same H.out.ok HX.out.1
    have hout : Hid (outR x.st (M.due x) = []) := by unfold Hid outR; rw [← HX.out.2.1, ← HX.out.2.2, if_pos rfl]
    cases st with
    | none =>
      go_wp2_with fail
      go_step3
      go_wp2_with fail
      rw [jump_gotoN]
      go_wp2_with fail
      rw [noGoto_retN]
      go_ret
      exact ⟨⟨none, 0, 0⟩, r.ns, rfl, by rw [hout.out]; rfl, by rw [hout.out]; exact World.ownsRow_nil _ _ _ _, by rw [hone.out]; exact H3.out.zoned (fun k _ hk => hk.1), Upd.of_below B3.out _⟩
    | some a =>
      go_wp2_with fail
      go_step3
      go_wp2_with fail
      rw [jump_gotoN]
      go_wp2_with fail
      rw [noGoto_retN]
      go_ret
      exact ⟨⟨none, 0, 0⟩, r.ns, rfl, by rw [hout.out]; rfl, by rw [hout.out]; exact World.ownsRow_nil _ _ _ _, by rw [hone.out]; exact H3.out.zoned (fun k _ hk => hk.1), Upd.of_below B3.out _⟩
  · cases st with
    | none =>
      cases nw with
      | none => exact absurd rfl he
      | some b =>
        have hbid : b.id = x.id ∧ b.back = false := dueR_id (show dueR M.L x.id x.r = some b from HX.out.2.2.symm)
        have IDX : x.id ∈ M.ids := hids.out
        have UX := Lib.hid (Upd.of_below B3.out (fun k => k = r.ms))
        have GX := Lib.hid G3.out.2
        have OX := Lib.hid (show W3.ownsRow W3.heap.size 63 36 (.slice none 0 0) 0 (vsOf Note.arr []) from World.ownsRow_nil _ _ _ _)
        have HXX := H3
        have hWX : W3.heap.size ≤ W3.heap.size := Nat.le_refl _
        have hlX := hw3
        have hone : Hid (M.one x.id = M.setSt x.id (some b)) := by unfold Hid; rw [← setSt_one H.out.ok HX.out.1, ← HX.out.2.2]
        have hout : Hid (outR x.st (M.due x) = [b]) := by unfold Hid; rw [← HX.out.2.1, ← HX.out.2.2]; rfl
        clear he
        obtain ⟨W8, hW8⟩ : ∃ W8, W8 = W3.alloc (.cells b.arr 63) := ⟨_, rfl⟩
        have hb8 : Below W3.heap.size W3 W8 := hW8 ▸ (Below.refl _ _).alloc (Nat.le_refl _) _
        have g8 : W8.heap[W3.heap.size]? = some (.cells b.arr 63 (0, 0)) := hW8 ▸ heap_alloc_new W3 _
        have hu08 : Upd w W8 (fun k => k = r.ms) := UX.out.trans (Upd.of_below hb8 _) (fun _ _ h => h)
        have r9 : row? W3 ⟨W2.heap.size, 0, none⟩ 36 = some b.arr := row_of_block GX.out (by simp)
        obtain ⟨s2, W9, hr9, hn9, ho9, hu9⟩ := own_note1 (c := 1) (ownsRow_below OX.out hb8) g8 (Nat.le_trans hWX hb8.size) (by simp)
        have hu9' : Upd W8 W9 (fun k => W3.heap.size ≤ k) := hu9.mono (fun k _ e => (OX.out.lt k e).1)
        have hws : w.heap.size ≤ W3.heap.size := B3.out.size
        have h9 := (HXX.out.keep hb8).kept hu9' (fun k hk _ e => by have := hk.2; omega)
        have hms : r.ms < w.heap.size := H3.out.zone.2.2.2
        have hu09 : Upd w W9 (fun k => k = r.ms) := ⟨hu9'.os.trans hu08.os, hu9'.tape.trans hu08.tape, hu9'.output.trans hu08.output, Nat.le_trans hu08.size hu9'.size, fun k hk hs => (hu9'.block k (Nat.lt_of_lt_of_le hk hu08.size) (fun e => by omega)).trans (hu08.block k hk hs)⟩
        have g9 : W9.heap[W2.heap.size]? = some (.cells b.arr 63 (0, 0)) := (hu9'.block _ (Nat.lt_of_lt_of_le hlX hb8.size) (fun e => by have e2 : W3.heap.size ≤ W2.heap.size := e; omega)).trans ((hb8.block _ hlX).trans GX.out)
        obtain ⟨W10, n10, hp10, h10, hu10⟩ := (h9.keep (Below.refl W9.heap.size W9).drew).putSt x.id hi IDX b hbid
        have c9 : W9.drew.cell? ⟨q, 3, none⟩ = some (.map (some r.ms)) := h9.cells.2.2.2.1
        have r10 : row? W9.drew ⟨W2.heap.size, 0, none⟩ 36 = some b.arr := row_of_block (w := W9.drew) g9 (by simp)
        have ho10 := ownsRow_upd (show W9.drew.ownsRow W3.heap.size 63 36 s2.v _ _ from ho9) hu10 (fun k hk e => by
          have := (ho9.lt k hk).1
          have e2 : k = r.ms := e
          omega)
        have hu010 : Upd w W10 (fun k => k = r.ms) := ⟨hu10.os.trans hu09.os, hu10.tape.trans hu09.tape, hu10.output.trans hu09.output, Nat.le_trans hu09.size hu10.size, fun k hk hs => (hu10.block k (Nat.lt_of_lt_of_le hk hu09.size) hs).trans (hu09.block k hk hs)⟩
        have HR9 := Lib.hid (hr9 47)
        have HW8 := Lib.hid hW8
        have FIN := Lib.hid (And.intro ho10 (And.intro h10 hu010))
        obtain ⟨s2a, s2n, s2c⟩ := s2
        simp only at hn9
        subst hn9
        clear hr9 hu9 hu9' hb8 g8 hu08 h9 hu09 g9 h10 hu10 ho9 ho10 hu010 hW8
        go_upto_region 9 with fail
        go_upto_region 10 with (at_builtin; rw [← HW8.out]; refine wpList_runN rfl _ _ _ _ rfl _ _ rfl rfl HR9.out ?_)
        go_region_law (fail)
        all_goals go_wp2_with fail
        all_goals go_step3
        all_goals go_wp2_with fail
        all_goals rw [jump_ret]
        all_goals go_ret
        all_goals exact ⟨⟨s2a, 0 + 1, s2c⟩, n10, rfl, by rw [hout.out]; rfl, by rw [hout.out]; exact World.ownsRow.mono FIN.out.1 B3.out.size, by rw [hone.out]; exact FIN.out.2.1.zoned (fun k _ hk => hk.1), FIN.out.2.2⟩
    | some a =>
      cases nw with
      | none =>
        go_upto_region 5 with fail
        have k4 : W3.cell? ⟨w.heap.size, 1, none⟩ = some (.bool a.back) := ((cells_known G3.out.1).1 1).trans (Note.arr_1 _)
        have f4 : W3.frozen? ⟨w.heap.size, 1, none⟩ = false := (cells_known G3.out.1).2.1 1
        obtain ⟨a', ha'⟩ : ∃ a' : Note, a' = { a with back := true } := ⟨_, rfl⟩
        obtain ⟨W4, hW4⟩ : ∃ W4, W4 = W3.setCell ⟨w.heap.size, 1, none⟩ (.bool true) := ⟨_, rfl⟩
        have hu4 : Upd W3 W4 (fun k => k = w.heap.size) := hW4 ▸ Upd.setCell W3 ⟨w.heap.size, 1, none⟩ _
        have g4 : W4.heap[w.heap.size]? = some (.cells a'.arr 63 (0, 0)) := by rw [hW4, ha', heap_set G3.out.1 1 _, Note.set_1]; rfl
        have h4 := H3.out.kept hu4 (fun k hk _ e => by have e2 : k = w.heap.size := e; have := hk.2; omega)
        have r4 : row? W4 ⟨w.heap.size, 0, none⟩ 36 = some a'.arr := row_of_block g4 (by simp)
        obtain ⟨W5, hW5⟩ : ∃ W5, W5 = W4.alloc (.cells a'.arr 63) := ⟨_, rfl⟩
        have hb5 : Below W4.heap.size W4 W5 := hW5 ▸ (Below.refl _ _).alloc (Nat.le_refl _) _
        have g5 : W5.heap[W4.heap.size]? = some (.cells a'.arr 63 (0, 0)) := hW5 ▸ heap_alloc_new W4 _
        have hbW4 : Below w.heap.size w W4 := B3.out.trans (hu4.below B3.out.size (fun k e => by have e2 : k = w.heap.size := e; omega))
        have hbW5 : Below w.heap.size w W5 := hbW4.trans (hb5.mono hbW4.size)
        obtain ⟨s1, W6, hr6, hn6, ho6, hu6⟩ := own_note1 (l := []) (c := 1) (show W5.ownsRow W3.heap.size 63 36 (.slice none 0 0) 0 [] from World.ownsRow_nil _ _ _ _) g5 (Nat.le_trans hu4.size hb5.size) (by omega)
        have hu6' : Upd W5 W6 (fun _ => False) := hu6.mono (fun k _ e => by simp [Value.ownBlock] at e)
        have hbW6 : Below w.heap.size w W6 := hbW5.trans (hu6'.below hbW5.size (fun k e => e.elim))
        have h6 := (h4.keep hb5).kept hu6' (fun k _ _ e => e)
        have hl6 : W2.heap.size < W6.heap.size := by have := hu6.size; have := hb5.size; have := hu4.size; have := hw3; omega
        have g6 : W6.heap[W2.heap.size]? = some (.cells ((none : Option Note).getD Note.zero).arr 63 (0, 0)) := (hu6'.block _ (by have := hb5.size; have := hu4.size; omega) (fun e => e)).trans ((hb5.block _ (by have := hu4.size; omega)).trans ((hu4.block _ hw3 (by omega)).trans G3.out.2))
        have c6 := h6.cells.2.2.2.1
        obtain ⟨W7, n7, hd7, h7, hu7⟩ := h6.dropSt x.id hi hids.out
        have ho7 : ownN W7 W3.heap.size s1 [a'] := ownsRow_upd ho6 hu7 (fun k hk e => by
          have := (ho6.lt k hk).1
          have e2 : k = r.ms := e
          have := H3.out.zone.2.2.2
          omega)
        have hms : r.ms < w.heap.size := H3.out.zone.2.2.2
        have g7 : W7.heap[W2.heap.size]? = some (.cells ((none : Option Note).getD Note.zero).arr 63 (0, 0)) := (hu7.block _ hl6 (fun e => by have e2 : W2.heap.size = r.ms := e; omega)).trans g6
        have hu07 : Upd w W7 (fun k => k = r.ms) := (Upd.of_below hbW6 _).trans hu7 (fun _ _ h => h)
        have HR6 := Lib.hid (hr6 47)
        have HW4 := Lib.hid hW4
        have HW5 := Lib.hid hW5
        have H7 := Lib.hid h7
        have O7 := Lib.hid ho7
        have U7 := Lib.hid hu07
        have HA := Lib.hid ha'
        have HG7 := Lib.hid g7
        have hl7 : W2.heap.size < W7.heap.size := Nat.lt_of_lt_of_le hl6 hu7.size
        have hw37 : W3.heap.size ≤ W7.heap.size := Nat.le_trans hu4.size (Nat.le_trans hb5.size (Nat.le_trans hu6.size hu7.size))
        obtain ⟨s1a, s1n, s1c⟩ := s1
        simp only at hn6
        subst hn6
        clear hr6 hu6 hu6' hu4 g4 h4 hb5 g5 hbW4 hbW5 hbW6 h6 hl6 g6 h7 hu7 ho6 ho7 g7 hu07 hW4 hW5 ha'
        go_upto_region 6 with fail
        rw [← HW4.out]
        go_upto_region 7 with (at_builtin; rw [← HW5.out]; refine wpList_runN rfl _ _ _ _ rfl _ _ rfl rfl HR6.out ?_)
        have hone : Hid (M.one x.id = M.setSt x.id none) := by unfold Hid; rw [← setSt_one H.out.ok HX.out.1, ← HX.out.2.2]
        have hout : Hid (outR x.st (M.due x) = [a']) := by unfold Hid; rw [← HX.out.2.1, ← HX.out.2.2, HA.out]; rfl
        go_wp2_with fail
        go_step3
        go_wp2_with fail
        rw [jump_ret]
        go_ret
        exact ⟨⟨s1a, 0 + 1, s1c⟩, n7, rfl, by rw [hout.out]; rfl, by rw [hout.out]; exact World.ownsRow.mono O7.out B3.out.size, by rw [hone.out]; exact H7.out.zoned (fun k _ hk => hk.1), U7.out⟩
      | some b =>
        have de : decide (a = b) = false := decide_eq_false (fun e => he (congrArg some e))
        clear he
        go_upto_region 5 with fail
        have k4 : W3.cell? ⟨w.heap.size, 1, none⟩ = some (.bool a.back) := ((cells_known G3.out.1).1 1).trans (Note.arr_1 _)
        have f4 : W3.frozen? ⟨w.heap.size, 1, none⟩ = false := (cells_known G3.out.1).2.1 1
        obtain ⟨a', ha'⟩ : ∃ a' : Note, a' = { a with back := true } := ⟨_, rfl⟩
        obtain ⟨W4, hW4⟩ : ∃ W4, W4 = W3.setCell ⟨w.heap.size, 1, none⟩ (.bool true) := ⟨_, rfl⟩
        have hu4 : Upd W3 W4 (fun k => k = w.heap.size) := hW4 ▸ Upd.setCell W3 ⟨w.heap.size, 1, none⟩ _
        have g4 : W4.heap[w.heap.size]? = some (.cells a'.arr 63 (0, 0)) := by rw [hW4, ha', heap_set G3.out.1 1 _, Note.set_1]; rfl
        have h4 := H3.out.kept hu4 (fun k hk _ e => by have e2 : k = w.heap.size := e; have := hk.2; omega)
        have r4 : row? W4 ⟨w.heap.size, 0, none⟩ 36 = some a'.arr := row_of_block g4 (by simp)
        obtain ⟨W5, hW5⟩ : ∃ W5, W5 = W4.alloc (.cells a'.arr 63) := ⟨_, rfl⟩
        have hb5 : Below W4.heap.size W4 W5 := hW5 ▸ (Below.refl _ _).alloc (Nat.le_refl _) _
        have g5 : W5.heap[W4.heap.size]? = some (.cells a'.arr 63 (0, 0)) := hW5 ▸ heap_alloc_new W4 _
        have hbW4 : Below w.heap.size w W4 := B3.out.trans (hu4.below B3.out.size (fun k e => by have e2 : k = w.heap.size := e; omega))
        have hbW5 : Below w.heap.size w W5 := hbW4.trans (hb5.mono hbW4.size)
        obtain ⟨s1, W6, hr6, hn6, ho6, hu6⟩ := own_note1 (l := []) (c := 1) (show W5.ownsRow W3.heap.size 63 36 (.slice none 0 0) 0 [] from World.ownsRow_nil _ _ _ _) g5 (Nat.le_trans hu4.size hb5.size) (by omega)
        have hu6' : Upd W5 W6 (fun _ => False) := hu6.mono (fun k _ e => by simp [Value.ownBlock] at e)
        have hbW6 : Below w.heap.size w W6 := hbW5.trans (hu6'.below hbW5.size (fun k e => e.elim))
        have h6 := (h4.keep hb5).kept hu6' (fun k _ _ e => e)
        have hl6 : W2.heap.size < W6.heap.size := by have := hu6.size; have := hb5.size; have := hu4.size; have := hw3; omega
        have g6 : W6.heap[W2.heap.size]? = some (.cells ((some b : Option Note).getD Note.zero).arr 63 (0, 0)) := (hu6'.block _ (by have := hb5.size; have := hu4.size; omega) (fun e => e)).trans ((hb5.block _ (by have := hu4.size; omega)).trans ((hu4.block _ hw3 (by omega)).trans G3.out.2))
        have c6 := h6.cells.2.2.2.1
        obtain ⟨W7, n7, hd7, h7, hu7⟩ := h6.dropSt x.id hi hids.out
        have ho7 : ownN W7 W3.heap.size s1 [a'] := ownsRow_upd ho6 hu7 (fun k hk e => by
          have := (ho6.lt k hk).1
          have e2 : k = r.ms := e
          have := H3.out.zone.2.2.2
          omega)
        have hms : r.ms < w.heap.size := H3.out.zone.2.2.2
        have g7 : W7.heap[W2.heap.size]? = some (.cells ((some b : Option Note).getD Note.zero).arr 63 (0, 0)) := (hu7.block _ hl6 (fun e => by have e2 : W2.heap.size = r.ms := e; omega)).trans g6
        have hu07 : Upd w W7 (fun k => k = r.ms) := (Upd.of_below hbW6 _).trans hu7 (fun _ _ h => h)
        have HR6 := Lib.hid (hr6 47)
        have HW4 := Lib.hid hW4
        have HW5 := Lib.hid hW5
        have H7 := Lib.hid h7
        have O7 := Lib.hid ho7
        have U7 := Lib.hid hu07
        have HA := Lib.hid ha'
        have HG7 := Lib.hid g7
        have hl7 : W2.heap.size < W7.heap.size := Nat.lt_of_lt_of_le hl6 hu7.size
        have hw37 : W3.heap.size ≤ W7.heap.size := Nat.le_trans hu4.size (Nat.le_trans hb5.size (Nat.le_trans hu6.size hu7.size))
        obtain ⟨s1a, s1n, s1c⟩ := s1
        simp only at hn6
        subst hn6
        clear hr6 hu6 hu6' hu4 g4 h4 hb5 g5 hbW4 hbW5 hbW6 h6 hl6 g6 h7 hu7 ho6 ho7 g7 hu07 hW4 hW5 ha'
        go_upto_region 6 with fail
        rw [← HW4.out]
        go_upto_region 7 with (at_builtin; rw [← HW5.out]; refine wpList_runN rfl _ _ _ _ rfl _ _ rfl rfl HR6.out ?_)
        go_upto_region 8 with fail
        have hbid : b.id = x.id ∧ b.back = false := dueR_id (show dueR M.L x.id x.r = some b from HX.out.2.2.symm)
        have IDX : x.id ∈ (M.setSt x.id none).ids := by rw [setSt_ids]; exact hids.out
        have UX := U7
        have GX := HG7
        have OX := O7
        have HXX := H7
        have hWX : W3.heap.size ≤ W7.heap.size := hw37
        have hlX := hl7
        have hone : Hid (M.one x.id = (M.setSt x.id none).setSt x.id (some b)) := by unfold Hid; rw [← setSt_one H.out.ok HX.out.1, ← HX.out.2.2, setSt_twice]
        have hout : Hid (outR x.st (M.due x) = [a', b]) := by unfold Hid; rw [← HX.out.2.1, ← HX.out.2.2, HA.out]; unfold outR; rw [if_neg (fun e => by cases e; simp at de)]; rfl
        clear c6 hd7
        obtain ⟨W8, hW8⟩ : ∃ W8, W8 = W7.alloc (.cells b.arr 63) := ⟨_, rfl⟩
        have hb8 : Below W7.heap.size W7 W8 := hW8 ▸ (Below.refl _ _).alloc (Nat.le_refl _) _
        have g8 : W8.heap[W7.heap.size]? = some (.cells b.arr 63 (0, 0)) := hW8 ▸ heap_alloc_new W7 _
        have hu08 : Upd w W8 (fun k => k = r.ms) := UX.out.trans (Upd.of_below hb8 _) (fun _ _ h => h)
        have r9 : row? W7 ⟨W2.heap.size, 0, none⟩ 36 = some b.arr := row_of_block GX.out (by simp)
        obtain ⟨s2, W9, hr9, hn9, ho9, hu9⟩ := own_note1 (c := 1) (ownsRow_below OX.out hb8) g8 (Nat.le_trans hWX hb8.size) (by simp)
        have hu9' : Upd W8 W9 (fun k => W3.heap.size ≤ k) := hu9.mono (fun k _ e => (OX.out.lt k e).1)
        have hws : w.heap.size ≤ W3.heap.size := B3.out.size
        have h9 := (HXX.out.keep hb8).kept hu9' (fun k hk _ e => by have := hk.2; omega)
        have hms : r.ms < w.heap.size := H3.out.zone.2.2.2
        have hu09 : Upd w W9 (fun k => k = r.ms) := ⟨hu9'.os.trans hu08.os, hu9'.tape.trans hu08.tape, hu9'.output.trans hu08.output, Nat.le_trans hu08.size hu9'.size, fun k hk hs => (hu9'.block k (Nat.lt_of_lt_of_le hk hu08.size) (fun e => by omega)).trans (hu08.block k hk hs)⟩
        have g9 : W9.heap[W2.heap.size]? = some (.cells b.arr 63 (0, 0)) := (hu9'.block _ (Nat.lt_of_lt_of_le hlX hb8.size) (fun e => by have e2 : W3.heap.size ≤ W2.heap.size := e; omega)).trans ((hb8.block _ hlX).trans GX.out)
        obtain ⟨W10, n10, hp10, h10, hu10⟩ := (h9.keep (Below.refl W9.heap.size W9).drew).putSt x.id hi IDX b hbid
        have c9 : W9.drew.cell? ⟨q, 3, none⟩ = some (.map (some r.ms)) := h9.cells.2.2.2.1
        have r10 : row? W9.drew ⟨W2.heap.size, 0, none⟩ 36 = some b.arr := row_of_block (w := W9.drew) g9 (by simp)
        have ho10 := ownsRow_upd (show W9.drew.ownsRow W3.heap.size 63 36 s2.v _ _ from ho9) hu10 (fun k hk e => by
          have := (ho9.lt k hk).1
          have e2 : k = r.ms := e
          omega)
        have hu010 : Upd w W10 (fun k => k = r.ms) := ⟨hu10.os.trans hu09.os, hu10.tape.trans hu09.tape, hu10.output.trans hu09.output, Nat.le_trans hu09.size hu10.size, fun k hk hs => (hu10.block k (Nat.lt_of_lt_of_le hk hu09.size) hs).trans (hu09.block k hk hs)⟩
        have HR9 := Lib.hid (hr9 47)
        have HW8 := Lib.hid hW8
        have FIN := Lib.hid (And.intro ho10 (And.intro h10 hu010))
        obtain ⟨s2a, s2n, s2c⟩ := s2
        simp only at hn9
        subst hn9
        clear hr9 hu9 hu9' hb8 g8 hu08 h9 hu09 g9 h10 hu10 ho9 ho10 hu010 hW8
        go_upto_region 9 with fail
        go_upto_region 10 with (at_builtin; rw [← HW8.out]; refine wpList_runN rfl _ _ _ _ rfl _ _ rfl rfl HR9.out ?_)
        go_region_law (fail)
        all_goals go_wp2_with fail
        all_goals go_step3
        all_goals go_wp2_with fail
        all_goals rw [jump_ret]
        all_goals go_ret
        all_goals exact ⟨⟨s2a, [a'].length + 1, s2c⟩, n10, rfl, by rw [hout.out]; rfl, by rw [hout.out]; exact World.ownsRow.mono FIN.out.1 B3.out.size, by rw [hone.out]; exact FIN.out.2.1.zoned (fun k _ hk => hk.1), FIN.out.2.2⟩
end
end Go.Proofs.YtlkojkjeklblkaaGreat
