/- Package file: what is held, and the head's count. Package file: files in memory, and the deeds that find a file first. -/
import Derived.Test.YtkiindgcbpkddaaBytes
import Derived.Test.YtkiindgcbpkddaaKeys
import Derived.Test.YtkiindgcbpkddaaStore
import Derived.Test.YtkiindgcbpkddaaQTail
import Derived.BigGuardPart
import Derived.Test.YtkiindgcbpkddaaSlc
set_option linter.unusedSimpArgs false
set_option linter.unusedVariables false
namespace Go.Proofs.Ytkiindgcbpkddaa
open Go.RowKit
open Go.Maps (Keyed)
theorem bytes_ne {s : ByteArray} (h : 0 < s.size) : s.toList ≠ [] := by
  rw [ByteArray.toList_eq]
  intro e
  have h2 : s.data.toList.length = 0 := by rw [e]; rfl
  rw [Array.length_toList] at h2
  have h3 : s.size = 0 := h2
  omega
theorem bytes_nil {s : ByteArray} (h : s.size = 0) : s.toList = [] := by
  rw [ByteArray.toList_eq]
  exact List.eq_nil_of_length_eq_zero (by rw [Array.length_toList]; exact h)
/-- A name, as Go may have it. -/
abbrev Nm := { s : ByteArray // s.size ≤ maxLen }
def nmV (s : Nm) : Value := .string s.1
theorem nm_enc : KeyEnc Try.prog 9 nmV := ⟨Go.Maps.string_keyed Try.underlying9, fun s => ⟨_, Go.WideMaps.keyOf_string_mk Try.underlying9 s.2⟩, fun {x y} h => Subtype.ext (by unfold nmV at h; injection h)⟩
/-- Files by their names, and the power's state. -/
structure FsM where
  files : Nm → Option (List UInt8 × Nat)
  cut : Bool
  off : Bool
  left : Int
  ops : Int
  n : Nat
def FsM.head (M : FsM) (mb : Nat) : FSV := { m := some mb, cut := M.cut, off := M.off, left := M.left, ops := M.ops }
def FsM.dark (M : FsM) : Bool := M.off || (M.cut && M.left == 0)
def FsM.asked (M : FsM) : FsM := { M with ops := M.ops + 1, off := M.dark, left := if M.dark then M.left else M.left - 1 }
def okNm (s : Nm) : Bool := decide (1 ≤ s.1.size ∧ s.1.size ≤ 50)
def askE (M : FsM) (ns : List Nm) : Int := if M.dark then 7 else if ns.all okNm then 0 else 1
def FsM.small (M : FsM) : Prop := 0 ≤ M.ops ∧ M.ops ≤ 1000000000 ∧ -M.ops ≤ M.left ∧ M.left ≤ 9223372036854775807 ∧ M.n ≤ 1000000000
theorem FsM.asked_small {M : FsM} (h : M.small) (h2 : M.ops + 1 ≤ 1000000000) : M.asked.small := by
  obtain ⟨a, b, c, d, e⟩ := h
  unfold FsM.small FsM.asked
  simp only
  refine ⟨by omega, h2, ?_, ?_, e⟩ <;> split <;> omega
theorem new_file (w : World) : Calls Try.prog 38 #[] w fun e w' => ∃ p mb, e = .returned (.pointer (some ⟨p, 0, none⟩)) ∧ w'.heap[p]? = some (.cells (FsM.head ⟨fun _ => none, false, false, 0, 0, 0⟩ mb).arr 165 (0, 0)) ∧ mapAt w' nmV mb 0 (fun _ => none) ∧ w.heap.size ≤ p ∧ w.heap.size ≤ mb ∧ Below w.heap.size w w' := by
  have hmm := @run_makeMap Try.prog
  go_enter Try.func38, Try.ntmps38
  go_wp2_with fail
  go_ret
  exact ⟨w.heap.size + 1, w.heap.size, rfl, by rw [show w.heap.size + 1 = (w.alloc (.map #[] 0)).heap.size by simp]; exact heap_alloc_new (w.alloc (.map #[] 0)) _, (mapAt_made w nmV).of_block (heap_alloc_old (w.alloc (.map #[] 0)) _ (by simp)), by omega, by omega, ((Below.refl _ _).alloc (Nat.le_refl _) _).alloc (by simp) _⟩
set_option maxRecDepth 100000 in
set_option maxHeartbeats 1000000 in
theorem asked_file (p mb b c : Nat) (M : FsM) (ns : List Nm) (w : World) (hM : M.small) (hl : ns.length ≤ 1000) (hp : w.heap[p]? = some (.cells (M.head mb).arr 165 (0, 0))) (hb : w.heap[b]? = some (.cells (ns.map nmV).toArray 9 (0, 0))) (hbp : b ≠ p) :
    Calls Try.prog 146 #[.pointer (some ⟨p, 0, none⟩), .slice (some ⟨b, 0, none⟩) ns.length c] w fun e w' => e = .returned (.int .i64 (askE M ns)) ∧ w'.heap[p]? = some (.cells (M.asked.head mb).arr 165 (0, 0)) ∧ Upd w w' (fun k => k = p) := by
  have hnil := run_eql_map_nil w (P := Try.prog) 163 _ _ (some mb) Try.underlying163
  obtain ⟨files, cut, off, left, ops, nn⟩ := M
  obtain ⟨m1, m2, m3, m4, m5⟩ := hM
  simp only at m1 m2 m3 m4 m5
  change w.heap[p]? = some (.cells (FSV.mk (some mb) cut off left ops).arr 165 (0, 0)) at hp
  have hpl := (cells_known hp).2.2
  have hcp := (cells_known hp).1
  have hfp := (cells_known hp).2.1
  by_cases hd : FsM.dark ⟨files, cut, off, left, ops, nn⟩ = true
  · have hcl : off = true ∨ off = false ∧ cut = true ∧ (left == 0) = true := by
      unfold FsM.dark at hd
      cases off
      · right; simp at hd; simp [hd]
      · exact .inl rfl
    have HP := Lib.hid hp
    have hE : Hid (askE ⟨files, cut, off, left, ops, nn⟩ ns = 7) := by unfold Hid askE; rw [hd]; rfl
    have hA : Hid (FsM.head (FsM.asked ⟨files, cut, off, left, ops, nn⟩) mb = FSV.mk (some mb) cut true left (ops + 1)) := by unfold Hid FsM.asked FsM.head; simp only; rw [hd]; rfl
    have hXA : Hid (∀ X, X = ((w.setCell ⟨p, 4, none⟩ (.int .i64 (ops + 1))).setCell ⟨p, 2, none⟩ (.bool true)) → X.heap[p]? = some (.cells (FsM.head (FsM.asked ⟨files, cut, off, left, ops, nn⟩) mb).arr 165 (0, 0)) ∧ Upd w X (fun k => k = p)) := by
      unfold Hid
      rintro X hX
      refine ⟨?_, hX ▸ ((Upd.setCell w ⟨p, 4, none⟩ _).trans (Upd.setCell _ ⟨p, 2, none⟩ _) (fun _ _ h => h))⟩
      rw [hA.out, hX, heap_set (heap_set HP.out 4 (.int .i64 (ops + 1))) 2 (.bool true)]
      simp only [FSV.set_4, FSV.set_2]
    clear hp hd hA
    rcases hcl with rfl | ⟨rfl, rfl, hl0⟩
    all_goals
      go_enter Try.func146, Try.ntmps146
      go_wp2_with fail
      refine wp_scope_fwd 0 (by rfl) ?_
      go_wp2_with fail
      rw [jump_ret]
      go_ret
      obtain ⟨hXp, hu⟩ := hXA.out _ rfl
      refine ⟨?_, hXp, hu⟩
      rw [hE.out]
      rfl
  · have hd2 : FsM.dark ⟨files, cut, off, left, ops, nn⟩ = false := by simpa using hd
    have hoff : off = false := by unfold FsM.dark at hd2; simp at hd2; exact hd2.1
    subst hoff
    have hcl : cut = false ∨ cut = true ∧ (left == 0) = false := by
      unfold FsM.dark at hd2
      cases cut
      · exact .inl rfl
      · right; simp at hd2; simp [hd2]
    have HP := Lib.hid hp
    have hE0 : Hid (ns.all okNm = true → askE ⟨files, cut, false, left, ops, nn⟩ ns = 0) := by unfold Hid askE; intro hx; rw [hd2, hx]; rfl
    have hE1 : Hid (ns.all okNm = false → askE ⟨files, cut, false, left, ops, nn⟩ ns = 1) := by unfold Hid askE; intro hx; rw [hd2, hx]; rfl
    have hA : Hid (FsM.head (FsM.asked ⟨files, cut, false, left, ops, nn⟩) mb = FSV.mk (some mb) cut false (left - 1) (ops + 1)) := by unfold Hid FsM.asked FsM.head; simp only; rw [hd2]; rfl
    have hXA : Hid (∀ X, X = (((w.setCell ⟨p, 4, none⟩ (.int .i64 (ops + 1))).setCell ⟨p, 2, none⟩ (.bool false)).setCell ⟨p, 3, none⟩ (.int .i64 (left - 1))) → X.heap[p]? = some (.cells (FsM.head (FsM.asked ⟨files, cut, false, left, ops, nn⟩) mb).arr 165 (0, 0)) ∧ Upd w X (fun k => k = p)) := by
      unfold Hid
      rintro X hX
      refine ⟨?_, hX ▸ ((Upd.setCell w ⟨p, 4, none⟩ _).trans (Upd.setCell _ ⟨p, 2, none⟩ _) (fun _ _ h => h)).trans (Upd.setCell _ ⟨p, 3, none⟩ _) (fun _ _ h => h)⟩
      rw [hA.out, hX, heap_set (heap_set (heap_set HP.out 4 (.int .i64 (ops + 1))) 2 (.bool false)) 3 (.int .i64 (left - 1))]
      simp only [FSV.set_4, FSV.set_2, FSV.set_3]
    clear hp hd hd2 hA
    rcases hcl with rfl | ⟨rfl, hl0⟩
    all_goals
      go_enter Try.func146, Try.ntmps146
      go_wp2_with fail
      refine wp_scope_fwd 0 (by rfl) ?_
      go_wp2_with fail
    all_goals
      obtain ⟨X, hX⟩ : ∃ X, X = (((w.setCell ⟨p, 4, none⟩ (.int .i64 (ops + 1))).setCell ⟨p, 2, none⟩ (.bool false)).setCell ⟨p, 3, none⟩ (.int .i64 (left - 1))) := ⟨_, rfl⟩
      rw [← hX]
      obtain ⟨hXp, hu⟩ := hXA.out X hX
      have hbX : X.heap[b]? = some (.cells (ns.map nmV).toArray 9 (0, 0)) := (hu.block b (cells_known hb).2.2 hbp).trans hb
      have HX := Lib.hid (And.intro hXp hu)
      clear hX hXp hu hcp hfp hnil HP hpl hb
      go_loop [4, 56] (fun e i => ∃ k : Nat, k ≤ ns.length ∧ e = .int .i64 0 ∧ i = .int .i64 k ∧ Hid (∀ j (h : j < ns.length), j < k → okNm ns[j] = true)) (fun _ i => ns.length - (intOf i).toNat)
      case atStart => exact ⟨0, Nat.zero_le _, rfl, rfl, fun j _ h => by omega⟩
      case round =>
        obtain ⟨k, hk, rfl, rfl, hok⟩ := hrel
        by_cases hlt : k < ns.length
        · obtain ⟨nm, hnm⟩ : ∃ nm, nm = ns[k] := ⟨_, rfl⟩
          have ck : X.cell? ⟨b, k, none⟩ = some (.string nm.1) := by
            rw [(cells_known hbX).1, hnm]
            simp [hlt, nmV]
          have hsz := nm.2
          unfold maxLen at hsz
          by_cases ho : okNm nm = true
          · have ho2 : 1 ≤ nm.1.size ∧ nm.1.size ≤ 50 := by simpa [okNm] using ho
            have hne : nm.1.toList.isEmpty = false := by rw [List.isEmpty_eq_false_iff]; exact bytes_ne (by omega)
            have HN := Lib.hid hnm
            have HO := Lib.hid ho
            clear hnm ho
            go_wp2
            refine ⟨⟨k + 1, by omega, rfl, by go_num, ?_⟩, by simp [intOf]; omega⟩
            unfold Hid
            intro j hj hjk
            by_cases e : j = k
            · subst e; rw [← HN.out]; exact HO.out
            · exact hok.out j hj (by omega)
          · have hall : Hid (ns.all okNm = false) := by unfold Hid; rw [List.all_eq_false]; exact ⟨nm, hnm ▸ List.getElem_mem hlt, ho⟩
            clear hnm
            by_cases h0 : nm.1.size = 0
            · have he : nm.1.toList.isEmpty = true := by rw [bytes_nil h0]; rfl
              clear h0
              go_wp2
              go_step3
              refine ⟨rfl, ?_⟩
              show Code.wp _ _ _ _ _
              go_wp2
              rw [Exit.noGoto_ret]
              go_ret
              exact ⟨ret_int (hE1.out hall.out).symm, HX.out.1, HX.out.2⟩
            · have h50 : 50 < nm.1.size := by
                rcases Nat.lt_or_ge 50 nm.1.size with g | g
                · exact g
                · exact absurd (by simp [okNm]; omega) ho
              have hne : nm.1.toList.isEmpty = false := by rw [List.isEmpty_eq_false_iff]; exact bytes_ne (by omega)
              clear ho
              go_wp2
              go_step3
              refine ⟨rfl, ?_⟩
              show Code.wp _ _ _ _ _
              go_wp2
              rw [Exit.noGoto_ret]
              go_ret
              exact ⟨ret_int (hE1.out hall.out).symm, HX.out.1, HX.out.2⟩
        · have hall : Hid (ns.all okNm = true) := by unfold Hid; rw [List.all_eq_true]; intro x hx; obtain ⟨j, hj, rfl⟩ := List.mem_iff_getElem.1 hx; exact hok.out j hj (by omega)
          go_wp2
          go_step3
          go_wp2
          rw [jump_ret]
          go_ret
          refine ⟨?_, HX.out.1, HX.out.2⟩
          rw [hE0.out hall.out]
          rfl
end Go.Proofs.Ytkiindgcbpkddaa
namespace Go.Proofs.Ytkiindgcbpkddaa
open Go.RowKit
/-- A file as it lies: its block, its bytes, how many are safe. -/
structure FileR where
  blk : Nat
  b : Sl
  l : List UInt8
  safe : Nat
def FileR.arr (r : FileR) : Array Value := (FileV.mk r.b r.safe).arr
/-- One file's blocks. -/
structure FileAt (w : World) (base : Nat → Prop) (r : FileR) : Prop where
  above : base r.blk
  cells : w.heap[r.blk]? = some (.cells r.arr 185 (0, 0))
  own : ownB w base r.b r.l
  safe : r.safe ≤ r.l.length
  size : r.l.length ≤ 16777216
/-- A map of at most so many entries. -/
def mapEx {κ : Type} (w : World) (enc : κ → Value) (b N : Nat) (f : κ → Option Value) : Prop := ∃ n, n ≤ N ∧ mapAt w enc b n f
theorem mapEx.lt {κ : Type} {w : World} {enc : κ → Value} {b N : Nat} {f : κ → Option Value} (h : mapEx w enc b N f) : b < w.heap.size := h.choose_spec.2.lt
theorem mapEx.of_block {κ : Type} {w w' : World} {enc : κ → Value} {b N : Nat} {f : κ → Option Value} (h : mapEx w enc b N f) (hb : w'.heap[b]? = w.heap[b]?) : mapEx w' enc b N f := ⟨h.choose, h.choose_spec.1, h.choose_spec.2.of_block hb⟩
theorem mapEx.mono {κ : Type} {w : World} {enc : κ → Value} {b N N' : Nat} {f : κ → Option Value} (h : mapEx w enc b N f) (hN : N ≤ N') : mapEx w enc b N' f := ⟨h.choose, Nat.le_trans h.choose_spec.1 hN, h.choose_spec.2⟩
/-- The files of a system, as they lie. -/
structure FsRep (w : World) (base : Nat → Prop) (p mb : Nat) (F : Nm → Option FileR) (M : FsM) : Prop where
  hp : base p
  hm : base mb
  hd : w.heap[p]? = some (.cells (M.head mb).arr 165 (0, 0))
  map : mapEx w nmV mb M.n (fun s => (F s).map fun r => .pointer (some ⟨r.blk, 0, none⟩))
  files : ∀ s, M.files s = (F s).map fun r => (r.l, r.safe)
  file : ∀ s r, F s = some r → FileAt w base r
  apart : ∀ s t r q, F s = some r → F t = some q → s ≠ t → r.blk ≠ q.blk ∧ ∀ k, r.b.own = some k → q.b.own ≠ some k
theorem apart_type {w : World} {a b : Nat} {c d : Array Value} {t u : TypeId} {fr gr : Nat × Nat} (h1 : w.heap[a]? = some (.cells c t fr)) (h2 : w.heap[b]? = some (.cells d u gr)) (h : t ≠ u) : a ≠ b := by
  rintro rfl
  rw [h1] at h2
  have := Option.some.inj h2
  injection this with e1 e2
  exact h e2
theorem apart_map {κ : Type} {w : World} {a b N : Nat} {c : Array Value} {t : TypeId} {fr : Nat × Nat} {enc : κ → Value} {f : κ → Option Value} (h1 : w.heap[a]? = some (.cells c t fr)) (h2 : mapEx w enc b N f) : a ≠ b := by
  rintro rfl
  obtain ⟨n, hn, es, clock, hb, _⟩ := h2
  rw [h1] at hb
  cases hb
theorem ownB.block {w : World} {base : Nat → Prop} {s : Sl} {l : List UInt8} (h : ownB w base s l) {k : Nat} (hk : s.own = some k) : ∃ cur, w.heap[k]? = some (.cells cur 5 (0, 0)) := by
  unfold Sl.own at hk
  split at hk
  · cases hk
  · rename_i hc
    obtain ⟨g, cur, ha, hg, hh, _⟩ := h.2.2.2 hc
    rw [ha] at hk
    cases hk
    exact ⟨cur, hh⟩
theorem FileAt.lt {w : World} {base : Nat → Prop} {r : FileR} (h : FileAt w base r) : r.blk < w.heap.size := (cells_known h.cells).2.2
theorem FileAt.upd {w w' : World} {base : Nat → Prop} {r : FileR} {S : Nat → Prop} (h : FileAt w base r) (hu : Upd w w' S) (h1 : ¬ S r.blk) (h2 : ∀ k, r.b.own = some k → ¬ S k) : FileAt w' base r :=
  ⟨h.above, (hu.block _ h.lt h1).trans h.cells, h.own.upd hu h2, h.safe, h.size⟩
section
variable {w w' : World} {base : Nat → Prop} {p mb : Nat} {F : Nm → Option FileR} {M : FsM}
theorem FsRep.lt (h : FsRep w base p mb F M) : p < w.heap.size ∧ mb < w.heap.size := ⟨(cells_known h.hd).2.2, h.map.lt⟩
theorem FsRep.upd {S : Nat → Prop} (h : FsRep w base p mb F M) (hu : Upd w w' S) (h1 : ¬ S p) (h2 : ¬ S mb) (h3 : ∀ s r, F s = some r → ¬ S r.blk ∧ ∀ k, r.b.own = some k → ¬ S k) : FsRep w' base p mb F M :=
  ⟨h.hp, h.hm, (hu.block _ h.lt.1 h1).trans h.hd, h.map.of_block (hu.block _ h.lt.2 h2), h.files, fun s r e => (h.file s r e).upd hu (h3 s r e).1 (h3 s r e).2, h.apart⟩
theorem FsRep.below (h : FsRep w base p mb F M) (hb : Below w.heap.size w w') : FsRep w' base p mb F M := h.upd (Upd.of_below hb (fun _ => False)) (fun h => h) (fun h => h) (fun _ _ _ => ⟨fun h => h, fun _ _ h => h⟩)
theorem FsRep.ne_blk (h : FsRep w base p mb F M) {s : Nm} {r : FileR} (e : F s = some r) : r.blk ≠ p ∧ r.blk ≠ mb ∧ ∀ k, r.b.own = some k → k ≠ p ∧ k ≠ mb ∧ ∀ t q, F t = some q → k ≠ q.blk := by
  have h1 := h.file s r e
  refine ⟨apart_type h1.cells h.hd (by decide), apart_map h1.cells h.map, fun k hk => ?_⟩
  obtain ⟨cur, hcur⟩ := h1.own.block hk
  exact ⟨apart_type hcur h.hd (by decide), apart_map hcur h.map, fun t q eq => apart_type hcur (h.file t q eq).cells (by decide)⟩
/-- Another head. -/
theorem FsRep.head {M' : FsM} (h : FsRep w base p mb F M) (hu : Upd w w' (fun k => k = p)) (hd : w'.heap[p]? = some (.cells (M'.head mb).arr 165 (0, 0))) (hf : M'.files = M.files) (hn : M'.n = M.n) : FsRep w' base p mb F M' := by
  have hne : p ≠ mb := apart_map h.hd h.map
  refine ⟨h.hp, h.hm, hd, ?_, fun s => by rw [hf]; exact h.files s, fun s r e => (h.file s r e).upd hu (h.ne_blk e).1 (fun k hk => ((h.ne_blk e).2.2 k hk).1), h.apart⟩
  rw [hn]
  exact h.map.of_block (hu.block _ h.lt.2 (fun e => hne e.symm))
theorem FsRep.looks (h : FsRep w base p mb F M) (s : Nm) : (Instr.lookup 163 (.map (some mb)) (.string s.1) false).run Try.prog w = .ok (.pointer ((F s).map fun r => ⟨r.blk, 0, none⟩)) w := by
  have hz : (Try.prog.info? 183).map (·.zero) = some (some (.pointer none)) := by kernel_rfl
  have := run_lookup nm_enc Try.underlying163 (zeroValue_run hz w) h.map.choose_spec.2 s false
  rw [show nmV s = .string s.1 from rfl] at this
  rw [this]
  cases hf : F s <;> simp [look, hf]
end
/-- What comes of it when a file is asked for. -/
def hasE (M : FsM) (s : Nm) (ns : List Nm) : Int := if askE M (s :: ns) = 0 then (if (M.files s).isSome then 0 else 5) else askE M (s :: ns)
def hasR (F : Nm → Option FileR) (M : FsM) (s : Nm) (ns : List Nm) : Value := .tuple #[.pointer (if hasE M s ns = 0 then (F s).map fun r => ⟨r.blk, 0, none⟩ else none), .int .i64 (hasE M s ns)]
set_option maxRecDepth 100000 in
set_option maxHeartbeats 1000000 in
theorem has_file (base : Nat → Prop) (p mb b c : Nat) (F : Nm → Option FileR) (M : FsM) (s : Nm) (ns : List Nm) (w : World) (h : FsRep w base p mb F M) (hM : M.small) (hl : (s :: ns).length ≤ 1000) (hb : w.heap[b]? = some (.cells ((s :: ns).map nmV).toArray 9 (0, 0))) :
    Calls Try.prog 139 #[.pointer (some ⟨p, 0, none⟩), .slice (some ⟨b, 0, none⟩) (s :: ns).length c] w fun e w' => e = .returned (hasR F M s ns) ∧ FsRep w' base p mb F M.asked ∧ Upd w w' (fun k => k = p) := by
  have hbp : b ≠ p := apart_type hb h.hd (by decide)
  have hask := asked_file p mb b c M (s :: ns) w hM hl h.hd hb hbp
  obtain ⟨L, hL⟩ : ∃ L, L = (s :: ns).length := ⟨_, rfl⟩
  rw [← hL] at hask ⊢
  have hL0 : 0 < L := by rw [hL]; simp
  have hL1 : (0 : Int) < (L : Int) := by omega
  obtain ⟨E, hE⟩ : ∃ E, E = askE M (s :: ns) := ⟨_, rfl⟩
  rw [← hE] at hask
  have hbl := (cells_known hb).2.2
  have HRep := Lib.hid h
  by_cases h0 : E = 0
  · have hE0 := Lib.hid (hE.symm.trans h0)
    subst h0
    clear hE h hL
    go_enter Try.func139, Try.ntmps139
    go_wp2_with fail
    refine hask.mono ?_
    rintro e w1 ⟨rfl, hd1, hu1⟩
    have hr1 := HRep.out.head hu1 hd1 rfl rfl
    have c0 : w1.cell? ⟨p, 0, none⟩ = some (.map (some mb)) := by rw [(cells_known hd1).1]; simp [FsM.head]
    have cb : w1.cell? ⟨b, 0, none⟩ = some (.string s.1) := by
      rw [(cells_known ((hu1.block b hbl hbp).trans hb)).1]; simp [nmV]
    have hlk : ∀ m, (Instr.lookup 163 (.map (some mb)) (.string s.1) false).run Try.prog (w1.drewN m) = .ok (.pointer ((F s).map fun r => ⟨r.blk, 0, none⟩)) (w1.drewN m) := fun m => FsRep.looks (w := w1.drewN m) (hr1.below (below_drewN (Below.refl _ _) m)) s
    have HR1 := Lib.hid hr1
    have HU1 := Lib.hid hu1
    clear hask hr1 hd1 hu1 hb
    cases hF : F s with
    | none =>
      have hv : Hid (hasR F M s ns = .tuple #[.pointer none, .int .i64 5]) := by
        unfold Hid hasR hasE
        rw [hE0.out, HRep.out.files s, hF]; rfl
      rw [hF] at hlk
      simp only [Option.map_none] at hlk
      clear hF
      go_wp2_with fail
      go_quiet (fail)
      go_wp2_with fail
      go_ret2
      exact ⟨by rw [hv.out]; rfl, HR1.out.below (below_drewN (Below.refl _ _) _), HU1.out.trans (Upd.of_below (below_drewN (Below.refl _ _) _) (fun _ => False)) (fun _ _ h => h.elim)⟩
    | some r =>
      have hv : Hid (hasR F M s ns = .tuple #[.pointer (some ⟨r.blk, 0, none⟩), .int .i64 0]) := by
        unfold Hid hasR hasE
        rw [hE0.out, HRep.out.files s, hF]; rfl
      rw [hF] at hlk
      simp only [Option.map_some] at hlk
      clear hF
      go_wp2_with fail
      go_quiet (fail)
      go_wp2_with fail
      go_ret2
      exact ⟨by rw [hv.out]; rfl, HR1.out.below (below_drewN (Below.refl _ _) _), HU1.out.trans (Upd.of_below (below_drewN (Below.refl _ _) _) (fun _ => False)) (fun _ _ h => h.elim)⟩
  · have hv : Hid (hasR F M s ns = .tuple #[.pointer none, .int .i64 E]) := by
      unfold Hid hasR hasE
      rw [← hE, if_neg h0, if_neg h0]
    have hE0 : (E != 0) = true := by simp [h0]
    clear hE h hL h0
    go_enter Try.func139, Try.ntmps139
    go_wp2_with fail
    refine hask.mono ?_
    rintro e w1 ⟨rfl, hd1, hu1⟩
    have HR1 := Lib.hid (HRep.out.head hu1 hd1 rfl rfl)
    have HU1 := Lib.hid hu1
    clear hask hd1 hu1 hb
    go_wp2_with fail
    go_ret2
    exact ⟨by rw [hv.out]; rfl, HR1.out, HU1.out⟩
end Go.Proofs.Ytkiindgcbpkddaa
