/- The model's operations on [8]uint32 and [16]uint32, at this program's numbers. Contracts of the document's own sums: a block. -/
import Derived.Test.YtlkojkjeklblkaaGreatQTail
import Derived.Test.YtlkojkjeklblkaaGreatRefQ
import Derived.BigQuiet
import Derived.Deep.DeepCutAuto
import Derived.Deep.RegionLaw
import Derived.Deep.CutBlock
set_option linter.unusedSimpArgs false
set_option linter.unusedVariables false
namespace Go.Proofs.YtlkojkjeklblkaaGreat
open Go.RowKit
/-- Eight words. -/
structure W8 where
  l : List Nat
  len : l.length = 8
def W8.arr (x : W8) : Array Value := (x.l.map w32).toArray
@[simp] theorem W8.size_arr (x : W8) : x.arr.size = 8 := by simp [W8.arr, x.len]
@[simp] theorem W8.length_arr (x : W8) : x.arr.toList.length = 8 := by simp [W8.arr, x.len]
def W8.zero : W8 := ⟨List.replicate 8 0, by simp⟩
def St.w8 (s : St) : W8 := ⟨s.l, rfl⟩
theorem one_W8 (x : W8) : ∀ v ∈ x.arr.toList, v.oneCell' = true := by
  intro v hv; simp [W8.arr] at hv; obtain ⟨b, _, rfl⟩ := hv; rfl
@[simp] theorem W8.ext_all (x : W8) : x.arr.extract 0 8 = x.arr := by rw [show 8 = x.arr.size by simp]; exact Array.extract_size
theorem zero_W8 : (Tryz.prog.info? 255).map (·.zero) = some (some (.agg W8.zero.arr)) := by kernel_rfl
theorem size_W8 : (Tryz.prog.info? 255).map (·.size) = some 8 := by kernel_rfl
@[go_sem ↓] theorem execOp_alloc_W8 (ρ : Operand → Value) (dst : Option Tmp) (ty : TypeId) (pos : String) (after : Array Edge) (guard : Option (Nat × Bool)) : execOp ρ { dst := dst, op := .alloc 255, type := ty, pos := pos, after := after, guard := guard } = (do pure (.value (← allocS 255))) := rfl
@[go_sem] theorem alloc_W8 (w : World) : (allocS 255).run Tryz.prog w = .ok (.pointer (some ⟨w.heap.size, 0, none⟩)) (w.alloc (.cells W8.zero.arr 255)) := run_alloc zero_W8 _ w
@[go_sem ↓] theorem execOp_load_W8 (x : Operand) (ρ : Operand → Value) (dst : Option Tmp) (ty : TypeId) (pos : String) (after : Array Edge) (guard : Option (Nat × Bool)) : execOp ρ { dst := dst, op := .load 255 x, type := ty, pos := pos, after := after, guard := guard } = (do pure (.value (← loadS 255 (ρ x)))) := rfl
@[go_sem] theorem loads_W8 (a : Addr) (w : World) (h : (row? w a 8).isSome = true) : (loadS 255 (.pointer (some a))).run Tryz.prog w = .ok (.agg ((row? w a 8).getD #[])) w := aggLoad_row Tryz.underlying255 rfl size_W8 a w h
@[go_sem ↓] theorem execOp_store_W8 (x v : Operand) (ρ : Operand → Value) (dst : Option Tmp) (ty : TypeId) (pos : String) (after : Array Edge) (guard : Option (Nat × Bool)) : execOp ρ { dst := dst, op := .store 255 x v, type := ty, pos := pos, after := after, guard := guard } = (do storeS 255 (ρ x) (ρ v); pure .skip) := rfl
@[go_sem] theorem stores_W8 (b off : Nat) (y : W8) (w : World) (h : (row? w ⟨b, off, none⟩ 8).isSome = true) (hf : rowFree w ⟨b, off, none⟩ 8) : (storeS 255 (.pointer (some ⟨b, off, none⟩)) (.agg y.arr)).run Tryz.prog w = .ok () (putRow w ⟨b, off, none⟩ y.arr) := aggStore_row size_W8 b off y.arr (by simp) (one_W8 y) w h hf
@[go_sem] theorem put_W8 (w : World) (m : Nat) (hm : m = w.heap.size) (x y : W8) (t : TypeId) (fr : Nat × Nat) : putRow (w.alloc (.cells x.arr t fr)) ⟨m, 0, none⟩ y.arr = w.alloc (.cells y.arr t fr) := putRow_alloc w m 0 hm _ t fr [] x.arr.toList [] _ _ (by simp) rfl (by simp) (by simp)
/-- Sixteen words, none of them set. -/
def W16z : Array Value := (List.replicate 16 (w32 0)).toArray
theorem zero_W16 : (Tryz.prog.info? 290).map (·.zero) = some (some (.agg W16z)) := by kernel_rfl
@[go_sem ↓] theorem execOp_alloc_W16 (ρ : Operand → Value) (dst : Option Tmp) (ty : TypeId) (pos : String) (after : Array Edge) (guard : Option (Nat × Bool)) : execOp ρ { dst := dst, op := .alloc 290, type := ty, pos := pos, after := after, guard := guard } = (do pure (.value (← allocS 290))) := rfl
@[go_sem] theorem alloc_W16 (w : World) : (allocS 290).run Tryz.prog w = .ok (.pointer (some ⟨w.heap.size, 0, none⟩)) (w.alloc (.cells W16z 290)) := run_alloc zero_W16 _ w
/-- Block b holds words. -/
def wordsAt (X : World) (b : Nat) (t : TypeId) (l : List Nat) : Prop := X.heap[b]? = some (.cells (l.map w32).toArray t (0, 0))
theorem wordsAt.get {X : World} {b : Nat} {t : TypeId} {l : List Nat} (h : wordsAt X b t l) {k : Nat} (hk : k < l.length) : X.cell? ⟨b, k, none⟩ = some (.int .u32 ((l.getD k 0 : Nat) : Int)) := by
  rw [(cells_known h).1]
  simp [hk, List.getD, w32]
theorem wordsAt.set {X : World} {b : Nat} {t : TypeId} {l : List Nat} (h : wordsAt X b t l) (k x : Nat) : wordsAt (X.setCell ⟨b, k, none⟩ (.int .u32 (x : Nat))) b t (l.set k x) := by
  unfold wordsAt
  rw [heap_set h]
  simp [List.map_set, w32]
theorem wordsAt.lt {X : World} {b : Nat} {t : TypeId} {l : List Nat} (h : wordsAt X b t l) : b < X.heap.size := (cells_known h).2.2
theorem wordsAt.upd {X Y : World} {b : Nat} {t : TypeId} {l : List Nat} {S : Nat → Prop} (h : wordsAt X b t l) (hu : Upd X Y S) (hb : ¬ S b) : wordsAt Y b t l := (hu.block b h.lt hb).trans h
theorem wordsAt.row {X : World} {b : Nat} {t : TypeId} {x : W8} (h : wordsAt X b t x.l) : row? X ⟨b, 0, none⟩ 8 = some x.arr := by
  have h1 : X.heap[b]? = some (.cells x.arr t (0, 0)) := h
  unfold row?
  simp only [h1]
  rw [if_pos (And.intro trivial (by simp))]
  simp
/-- The words of the round-going schedule ahead of step t. -/
def ringS (ws : List Nat) (t : Nat) : List Nat := (List.range 16).map fun j => if t ≤ j then 0 else wordS ws (j + 16 * ((t - 1 - j) / 16))
theorem ringS_length (ws : List Nat) (t : Nat) : (ringS ws t).length = 16 := by simp [ringS]
theorem ringS_get? (ws : List Nat) (t j : Nat) (h : j < 16) : (ringS ws t)[j]? = some (if t ≤ j then 0 else wordS ws (j + 16 * ((t - 1 - j) / 16))) := by
  simp only [ringS, List.getElem?_map, List.getElem?_range h, Option.map_some]
theorem ringS_get (ws : List Nat) (t j : Nat) (h : j < 16) : (ringS ws t).getD j 0 = if t ≤ j then 0 else wordS ws (j + 16 * ((t - 1 - j) / 16)) := by
  rw [List.getD, ringS_get? ws t j h, Option.getD_some]
theorem ringS_zero (ws : List Nat) : ringS ws 0 = List.replicate 16 0 := by
  apply List.ext_getElem?
  intro j
  by_cases hj : j < 16
  · rw [ringS_get? ws 0 j hj, List.getElem?_replicate, if_pos hj, if_pos (Nat.zero_le _)]
  · rw [List.getElem?_eq_none (by rw [ringS_length]; omega), List.getElem?_eq_none (by simp; omega)]
theorem ringS_next (ws : List Nat) (t : Nat) : ringS ws (t + 1) = (ringS ws t).set (t % 16) (wordS ws t) := by
  apply List.ext_getElem?
  intro j
  by_cases hj : j < 16
  · rw [ringS_get? _ _ j hj, List.getElem?_set, ringS_length, ringS_get? _ _ j hj]
    by_cases e : t % 16 = j
    · subst e
      rw [if_pos rfl, if_pos hj, if_neg (by omega)]
      congr 2
      omega
    · rw [if_neg e]
      congr 1
      by_cases h : t ≤ j
      · rw [if_pos h, if_pos (by omega)]
      · rw [if_neg h, if_neg (by omega)]
        congr 1
        omega
  · rw [List.getElem?_eq_none (by rw [ringS_length]; omega), List.getElem?_eq_none (by rw [List.length_set, ringS_length]; omega)]
/-- An elder word in the ring. -/
theorem ringS_old (ws : List Nat) (n t : Nat) (h1 : n < t) (h2 : t ≤ n + 16) : (ringS ws t).getD (n % 16) 0 = wordS ws n := by
  rw [ringS_get ws t _ (Nat.mod_lt _ (by decide)), if_neg (by omega)]
  congr 1
  omega
theorem wordsB_get (l : List UInt8) (t : Nat) (h : t < 16) : wordS (wordsB l) t = wordB l t 4 := by
  rw [wordS_low (wordsB_length l) t h, wordsB, List.getD, List.getElem?_map, List.getElem?_range h]
  rfl
theorem ringS_at (ws : List Nat) (t : Nat) (h : t < 16) : (ringS ws t).set t 0 = ringS ws t := by
  apply List.ext_getElem?
  intro j
  rw [List.getElem?_set, ringS_length]
  by_cases e : t = j
  · subst e
    rw [if_pos rfl, if_pos h, ringS_get? ws t t h, if_pos (Nat.le_refl _)]
  · rw [if_neg e]
theorem ringS_low (l : List UInt8) (t : Nat) (h : t < 16) : (ringS (wordsB l) t).set t (wordB l t 4) = ringS (wordsB l) (t + 1) := by
  rw [ringS_next, wordsB_get l t h, Nat.mod_eq_of_lt h]
/-- Eight words of which those above place i are moved up. -/
def shiftS (s : St) (i : Nat) : List Nat := (List.range 8).map fun j => if i < j then s.l.getD (j - 1) 0 else s.l.getD j 0
theorem shiftS_top (s : St) : shiftS s 7 = s.l := rfl
theorem shiftS_end (s : St) : shiftS s 0 = [s.a, s.a, s.b, s.c, s.d, s.e, s.f, s.g] := rfl
theorem shiftS_length (s : St) (i : Nat) : (shiftS s i).length = 8 := by simp [shiftS]
theorem shiftS_step (s : St) (i : Nat) (h : i < 7) : (shiftS s (i + 1)).set (i + 1) ((shiftS s (i + 1)).getD i 0) = shiftS s i := by
  match i, h with
  | 0, _ | 1, _ | 2, _ | 3, _ | 4, _ | 5, _ | 6, _ => rfl
theorem wraps_62 (n : Int) (h₀ : 0 ≤ n) (h₁ : n < 2 ^ 62) : IntKind.i64.wrap n = n := by rw [IntKind.wrap_i64]; omega
theorem and15 (n : Nat) (h : n < 4611686018427387904) : bits .and .i64 (n : Int) 15 = ((n % 16 : Nat) : Int) := by
  have h1 := (bits_nat .i64 62 (by decide) wraps_62 n 15 h (by decide)).1
  rw [← Nat.and_two_pow_sub_one_eq_mod n 4]
  exact h1
/-- Eight words stored over a block that holds one, at the operation. -/
theorem wpList_storeW8 {w : World} {ops : Array Oper} {rest : List Oper} {o : Oper} {a : Act} {Q : Exit → Act → World → Prop} (x v : Operand) (hop : o.op = Op.store 255 x v) (hg : o.guard = none)
    (b : Nat) (y z : W8) (hx : a.eval x = .pointer (some ⟨b, 0, none⟩)) (hv : a.eval v = .agg y.arr) (h : w.heap[b]? = some (.cells z.arr 255 (0, 0)))
    (hK : ∀ w', w'.heap[b]? = some (.cells y.arr 255 (0, 0)) → Upd w w' (fun k => k = b) → wpList Tryz.prog ops Q rest (a.put o.dst undef) w') : wpList Tryz.prog ops Q (o :: rest) a w := by
  refine wpList_plain hg fun K' hK' => ?_
  have hrow : row? w ⟨b, 0, none⟩ 8 = some z.arr := by
    unfold row?
    simp only [h]
    rw [if_pos (And.intro trivial (by simp))]
    congr 1
    rw [show 0 + 8 = z.arr.size by simp]
    exact Array.extract_size
  have hrun : (Instr.storeAt 255 (.pointer (some ⟨b, 0, none⟩)) (.agg y.arr)).run Tryz.prog w = .ok () (putRow w ⟨b, 0, none⟩ y.arr) := stores_W8 b 0 y w (by rw [hrow]; rfl) (fun j _ => (cells_known h).2.1 _)
  unfold Oper.wp
  obtain ⟨dst, op, ty, pos, after, guard⟩ := o
  simp only at hop
  subst hop
  rw [execOp_store_W8]
  unfold storeS
  rw [hx, hv]
  simp only [Sem.run_bind, hrun, Result.andThen_ok, Sem.run_pure]
  refine hK' _ _ (hK _ ?_ (setCells_upd b _ 0 w))
  have hh := heap_setCells y.arr.toList 0 w _ h
  have e := putRow_eq 0 [] z.arr.toList [] y.arr.toList rfl (by simp)
  simp only [List.nil_append, List.append_nil, Array.toArray_toList] at e
  rw [e] at hh
  exact hh
theorem mixH_setL (a b : St) (k : Nat) (hk : k < 8) : (mixH a b k).l.set k ((a.l.getD k 0 + b.l.getD k 0) % 4294967296) = (mixH a b (k + 1)).l := by
  match k, hk with
  | 0, _ | 1, _ | 2, _ | 3, _ | 4, _ | 5, _ | 6, _ | 7, _ => rfl
theorem St.l_length (s : St) : s.l.length = 8 := rfl
end Go.Proofs.YtlkojkjeklblkaaGreat
namespace Go.Proofs.YtlkojkjeklblkaaGreat
open Go.RowKit
set_option maxRecDepth 100000 in
set_option maxHeartbeats 4000000 in
theorem chunk_ref (s : St) (hs : ∀ x ∈ s.l, x < 4294967296) (b off c : Nat) (l : List UInt8) (hl : l.length = 64) (w : World) (hb : b < w.heap.size) (hc : ∀ k (h : k < l.length), w.cell? ⟨b, off + k, none⟩ = some (byteV l[k])) :
    Calls Tryz.prog 156 #[.agg s.w8.arr, .slice (some ⟨b, off, none⟩) 64 c] w fun e w' => e = .returned (.agg (compressS s (wordsB l)).w8.arr) ∧ Below w.heap.size w w' := by
  go_enter Tryz.func156, Tryz.ntmps156
  go_wp2_with (go_at_call 194; refine (steps_ref _).mono ?_; rintro e w1 ⟨rfl, rfl⟩)
  obtain ⟨V, hV⟩ : ∃ V, V = (((w.alloc (.cells s.w8.arr 255)).alloc (.cells W8.zero.arr 255)).alloc (.cells W64.roots.arr 254)).alloc (.cells W16z 290) := ⟨_, rfl⟩
  rw [← hV]
  obtain ⟨sb, hsb⟩ : ∃ n, n = w.heap.size := ⟨_, rfl⟩
  rw [← hsb]
  have hh : ∀ o : Nat, o < 4 → V.heap[w.heap.size + o]? = [Obj.cells s.w8.arr 255 (0, 0), .cells W8.zero.arr 255 (0, 0), .cells W64.roots.arr 254 (0, 0), .cells W16z 290 (0, 0)][o]? := by
    intro o ho
    rw [hV]
    simp only [World.alloc, Array.getElem?_push, Array.size_push]
    match o, ho with
    | 0, _ => rw [if_neg (by omega), if_neg (by omega), if_neg (by omega), if_pos (by omega)]; rfl
    | 1, _ => rw [if_neg (by omega), if_neg (by omega), if_pos (by omega)]; rfl
    | 2, _ => rw [if_neg (by omega), if_pos (by omega)]; rfl
    | 3, _ => rw [if_pos (by omega)]; rfl
  have hS : wordsAt V sb 255 s.w8.l := by have := hh 0 (by omega); rw [hsb]; exact this
  have hR : wordsAt V (sb + 1) 255 W8.zero.l := by have := hh 1 (by omega); rw [hsb]; exact this
  have hK : wordsAt V (sb + 1 + 1) 254 shaK := by have := hh 2 (by omega); rw [hsb]; exact this
  have hW : wordsAt V (sb + 1 + 1 + 1) 290 (ringS (wordsB l) 0) := by have := hh 3 (by omega); rw [hsb, ringS_zero]; exact this
  have hVs : V.heap.size = sb + 1 + 1 + 1 + 1 := by rw [hV, hsb]; simp
  have hbV : Below w.heap.size w V := hV ▸ ((((Below.refl _ _).alloc (Nat.le_refl _) _).alloc (by simp) _).alloc (by simp; omega) _).alloc (by simp; omega) _
  have hcV : ∀ k (h : k < l.length), V.cell? ⟨b, off + k, none⟩ = some (byteV l[k]) := fun k h => by
    rw [← hc k h]; exact hbV.cell (p := ⟨b, off + k, none⟩) hb
  have rS := hS.row
  have HSB := Lib.hid hsb
  have HVS := Lib.hid hVs
  clear hV hh hsb hVs
  go_wp2_with fail
  simp only [loads_W8, rS, Option.isSome_some]
  simp only [Option.getD_some, Result.andThen_ok]
  go_wp2_with fail
  obtain ⟨U, hU⟩ : ∃ U, U = V.alloc (.cells s.w8.arr 255) := ⟨_, rfl⟩
  obtain ⟨ab, hab⟩ : ∃ n, n = V.heap.size := ⟨_, rfl⟩
  obtain ⟨wb, hwb⟩ : ∃ n, n = sb + 1 + 1 + 1 := ⟨_, rfl⟩
  obtain ⟨kb, hkb⟩ : ∃ n, n = sb + 1 + 1 := ⟨_, rfl⟩
  obtain ⟨rb, hrb⟩ : ∃ n, n = sb + 1 := ⟨_, rfl⟩
  have hs0 := HSB.out
  have hVs := HVS.out
  rw [← hwb] at hW
  rw [← hkb] at hK
  rw [← hrb] at hR
  rw [← hU, ← hab, ← hwb, ← hkb, ← hrb]
  have hVU : Upd V U (fun _ => False) := hU ▸ Upd.of_below ((Below.refl V.heap.size V).alloc (Nat.le_refl _) _) _
  have hAU : wordsAt U ab 255 s.l := by rw [hU, hab]; show (V.heap.push _)[V.heap.size]? = _; rw [Array.getElem?_push_size]; rfl
  have hSU := hS.upd hVU (fun h => h)
  have hRU := hR.upd hVU (fun h => h)
  have hKU := hK.upd hVU (fun h => h)
  have hWU := hW.upd hVU (fun h => h)
  have hbU : Below w.heap.size w U := hU ▸ hbV.alloc (by omega) _
  have hcU : ∀ k (h : k < l.length), U.cell? ⟨b, off + k, none⟩ = some (byteV l[k]) := fun k h => by
    rw [← hc k h]; exact hbU.cell (p := ⟨b, off + k, none⟩) hb
  have D : Hid (sb ≠ rb ∧ sb ≠ wb ∧ sb ≠ ab ∧ rb ≠ wb ∧ rb ≠ ab ∧ kb ≠ wb ∧ kb ≠ ab ∧ wb ≠ ab ∧ w.heap.size ≤ sb ∧ w.heap.size ≤ rb ∧ w.heap.size ≤ kb ∧ w.heap.size ≤ wb ∧ w.heap.size ≤ ab ∧ b ≠ wb ∧ b ≠ ab) := by unfold Hid; omega
  clear rS hS hR hK hW hcV hbV hVU hVs hU hs0 HSB HVS hwb hkb hrb hab
  go_loopw [8, 9, 10, 11, 12, 13, 14] (fun v _ _ _ _ _ _ wr => ∃ t : Nat, t ≤ 64 ∧ v = .int .i64 t ∧ Upd U wr (fun k => k = wb ∨ k = ab) ∧ wordsAt wr wb 290 (ringS (wordsB l) t) ∧ wordsAt wr ab 255 (stN (wordsB l) s t).l) (fun v _ _ _ _ _ _ _ => 64 - (intOf v).toNat)
  case atStart => exact ⟨0, by omega, rfl, Upd.refl _ _, hWU, hAU⟩
  case round =>
    obtain ⟨t, ht, rfl, hur, hWr, hAr⟩ := hrel
    by_cases hlt : t < 64
    · have dlt : decide ((t : Int) < 64) = true := decide_eq_true (by omega)
      go_upto_if 23 with fail
      go_cut [] (fun wx => Upd U wx (fun k => k = wb ∨ k = ab) ∧ wordsAt wx wb 290 (ringS (wordsB l) (t + 1)) ∧ wordsAt wx ab 255 (stN (wordsB l) s t).l)
      case first =>
        by_cases h16 : t < 16
        · have d16 : decide ((t : Int) < 16) = true := decide_eq_true (by omega)
          go_wp2_with fail
          go_loopw [9] (fun v wx => ∃ i : Nat, i ≤ 4 ∧ v = .int .i64 i ∧ Upd U wx (fun k => k = wb ∨ k = ab) ∧ wordsAt wx wb 290 ((ringS (wordsB l) t).set t (wordB l t i)) ∧ wordsAt wx ab 255 (stN (wordsB l) s t).l) (fun v _ => 4 - (intOf v).toNat)
          case atStart => exact ⟨0, by omega, rfl, hur, by rw [show wordB l t 0 = 0 from rfl, ringS_at _ t h16]; exact hWr, hAr⟩
          case round =>
            obtain ⟨i, hi, rfl, hui, hWi, hAi⟩ := hrel
            by_cases h4 : i < 4
            · have d4 : decide ((i : Int) < 4) = true := decide_eq_true (by omega)
              obtain ⟨m, hm⟩ : ∃ m, m = 4 * t + i := ⟨_, rfl⟩
              have hml : m < l.length := by omega
              obtain ⟨x, hx⟩ : ∃ x, x = wordB l t i := ⟨_, rfl⟩
              obtain ⟨y, hy⟩ : ∃ y, y = (l[m]).toNat := ⟨_, rfl⟩
              have cW : wr.cell? ⟨wb, t, none⟩ = some (.int .u32 (x : Nat)) := by
                have := hWi.get (k := t) (by simp [ringS_length]; omega)
                rw [List.getD, List.getElem?_set, if_pos rfl, ringS_length, if_pos h16, Option.getD_some, ← hx] at this
                exact this
              have cB : wr.cell? ⟨b, off + m, none⟩ = some (.int .u8 (y : Nat)) := by
                rw [hy]
                have h1 := hcU m hml
                obtain ⟨_, _, _, _, _, _, _, _, _, _, _, _, _, n1, n2⟩ := D.out
                rw [← show wr.cell? ⟨b, off + m, none⟩ = U.cell? ⟨b, off + m, none⟩ from hui.cell (b := b) (Nat.lt_of_lt_of_le hb hbU.size) (fun h => by rcases h with h | h; exact n1 h; exact n2 h) (off + m)] at h1
                exact h1
              have fW := (cells_known hWi).2.1
              have z1 : 4 * (t : Int) + (i : Int) = (m : Int) := by omega
              have z2 : IntKind.i64.wrap (4 * (t : Int)) = 4 * (t : Int) := by rw [IntKind.wrap_i64]; omega
              have z3 : IntKind.i64.wrap (4 * (t : Int) + (i : Int)) = (m : Int) := by rw [z1, IntKind.wrap_i64]; omega
              have y0 : (0 : Int) ≤ (m : Int) := by omega
              have y1 : (m : Int) < 64 := by omega
              have yt0 : (0 : Int) ≤ (t : Int) := by omega
              have yt1 : (t : Int) < 16 := by omega
              have hbit : bits .or .u32 ((x : Int) * 256 % 4294967296) ((y : Int) % 4294967296) = ((wordB l t (i + 1) : Nat) : Int) := by
                have hy2 : y < 256 := hy ▸ byte_lt _
                have e1 : (x : Int) * 256 % 4294967296 = ((x * 256 % 4294967296 : Nat) : Int) := by rw [Int.natCast_emod, Int.natCast_mul]; rfl
                have e2 : (y : Int) % 4294967296 = ((y : Nat) : Int) := by omega
                rw [e1, e2, bits_or_u32 _ _ (Nat.mod_lt _ (by decide)) (by omega), wordB_succ, ← hm, ← hx, hy]
                simp [List.getD, hml]
              clear hx hy hm
              go_wp2_with fail
              go_region
              all_goals go_wp2_with fail
              all_goals go_roundw
              case rel =>
                refine ⟨i + 1, by omega, by go_num, ?_, ?_, ?_⟩
                · exact hui.trans (Upd.setCell_drew wr wb t (.int .u32 ((wordB l t (i + 1) : Nat) : Int))) (fun k _ h => .inl h)
                · have := hWi.set t (wordB l t (i + 1))
                  rw [List.set_set] at this
                  exact this
                · exact hAi.upd (Upd.setCell_drew wr wb t (.int .u32 ((wordB l t (i + 1) : Nat) : Int))) (fun h => D.out.2.2.2.2.2.2.2.1 h.symm)
              case measure => simp [intOf]; omega
            · have d4 : decide ((i : Int) < 4) = false := decide_eq_false (by omega)
              have hi4 : Hid (i = 4) := by unfold Hid; omega
              go_wp2_with fail
              go_meet
              refine ⟨hui, ?_, hAi⟩
              have h4i := hi4.out
              rw [h4i, ringS_low l t h16] at hWi
              exact hWi
        · have d16 : decide ((t : Int) < 16) = false := decide_eq_false (by omega)
          obtain ⟨n, hn⟩ : ∃ n, t = n + 16 := ⟨t - 16, by omega⟩
          have hwl := wordsB_length l
          have hltW := fun k => wordS_lt (wordsB l) (wordsB_lt l) k
          obtain ⟨j0, j1, j9, j14, hj0, hj1, hj9, hj14⟩ : ∃ j0 j1 j9 j14, j0 = t % 16 ∧ j1 = (t + 1) % 16 ∧ j9 = (t + 9) % 16 ∧ j14 = (t + 14) % 16 := ⟨_, _, _, _, rfl, rfl, rfl, rfl⟩
          obtain ⟨w0, hw0⟩ : ∃ k, k = wordS (wordsB l) n := ⟨_, rfl⟩
          obtain ⟨w1, hw1⟩ : ∃ k, k = wordS (wordsB l) (n + 1) := ⟨_, rfl⟩
          obtain ⟨w9, hw9⟩ : ∃ k, k = wordS (wordsB l) (n + 9) := ⟨_, rfl⟩
          obtain ⟨w14, hw14⟩ : ∃ k, k = wordS (wordsB l) (n + 14) := ⟨_, rfl⟩
          have hrl := ringS_length (wordsB l) t
          have d0 : wr.cell? ⟨wb, j0, none⟩ = some (.int .u32 (w0 : Nat)) := by
            have := hWr.get (k := j0) (by omega)
            rwa [show j0 = n % 16 by omega, ringS_old _ n t (by omega) (by omega), ← hw0, show n % 16 = j0 by omega] at this
          have d1 : wr.cell? ⟨wb, j1, none⟩ = some (.int .u32 (w1 : Nat)) := by
            have := hWr.get (k := j1) (by omega)
            rwa [show j1 = (n + 1) % 16 by omega, ringS_old _ (n + 1) t (by omega) (by omega), ← hw1, show (n + 1) % 16 = j1 by omega] at this
          have d9 : wr.cell? ⟨wb, j9, none⟩ = some (.int .u32 (w9 : Nat)) := by
            have := hWr.get (k := j9) (by omega)
            rwa [show j9 = (n + 9) % 16 by omega, ringS_old _ (n + 9) t (by omega) (by omega), ← hw9, show (n + 9) % 16 = j9 by omega] at this
          have d14 : wr.cell? ⟨wb, j14, none⟩ = some (.int .u32 (w14 : Nat)) := by
            have := hWr.get (k := j14) (by omega)
            rwa [show j14 = (n + 14) % 16 by omega, ringS_old _ (n + 14) t (by omega) (by omega), ← hw14, show (n + 14) % 16 = j14 by omega] at this
          have q1 : w1 < 4294967296 := hw1 ▸ hltW _
          have q14 : w14 < 4294967296 := hw14 ▸ hltW _
          obtain ⟨r1, hr1⟩ : ∃ n, n = threeS w1 7 18 3 true := ⟨_, rfl⟩
          obtain ⟨r2, hr2⟩ : ∃ n, n = threeS w14 17 19 10 true := ⟨_, rfl⟩
          obtain ⟨m1, hm1⟩ : ∃ n, n = (w0 + r1) % 4294967296 := ⟨_, rfl⟩
          obtain ⟨m2, hm2⟩ : ∃ n, n = (m1 + w9) % 4294967296 := ⟨_, rfl⟩
          obtain ⟨Wc, hm3⟩ : ∃ n, n = (m2 + r2) % 4294967296 := ⟨_, rfl⟩
          have hWc : Wc = wordS (wordsB l) t := by rw [hn, wordS_next hwl, nextV, ← hw0, ← hw1, ← hw9, ← hw14, ← hr1, ← hr2, ← hm1, ← hm2, hm3]
          have g1 := add32 w0 r1 m1 hm1
          have g2 := add32 m1 w9 m2 hm2
          have g3 := add32 m2 r2 Wc hm3
          have g4 := add32w w0 r1 m1 hm1
          have g5 := add32w m1 w9 m2 hm2
          have g6 := add32w m2 r2 Wc hm3
          have HR1 := Lib.hid hr1
          have HR2 := Lib.hid hr2
          have a0 : bits .and .i64 (t : Int) 15 = (j0 : Int) := by rw [and15 t (by omega), hj0]
          have a1 : bits .and .i64 ((t : Int) + 1) 15 = (j1 : Int) := by have := and15 (t + 1) (by omega); rw [hj1]; exact this
          have a9 : bits .and .i64 ((t : Int) + 9) 15 = (j9 : Int) := by have := and15 (t + 9) (by omega); rw [hj9]; exact this
          have a14 : bits .and .i64 ((t : Int) + 14) 15 = (j14 : Int) := by have := and15 (t + 14) (by omega); rw [hj14]; exact this
          have z1 : IntKind.i64.wrap ((t : Int) + 1) = (t : Int) + 1 := by rw [IntKind.wrap_i64]; omega
          have z9 : IntKind.i64.wrap ((t : Int) + 9) = (t : Int) + 9 := by rw [IntKind.wrap_i64]; omega
          have z14 : IntKind.i64.wrap ((t : Int) + 14) = (t : Int) + 14 := by rw [IntKind.wrap_i64]; omega
          have y0 : (j0 : Int) < 16 := by omega
          have y1 : (j1 : Int) < 16 := by omega
          have y9 : (j9 : Int) < 16 := by omega
          have y14 : (j14 : Int) < 16 := by omega
          have x0 : (0 : Int) ≤ (j0 : Int) := by omega
          have x1 : (0 : Int) ≤ (j1 : Int) := by omega
          have x9 : (0 : Int) ≤ (j9 : Int) := by omega
          have x14 : (0 : Int) ≤ (j14 : Int) := by omega
          have fW := (cells_known hWr).2.1
          have HJ := Lib.hid hj0
          have HWC := Lib.hid hWc
          clear hj0 hj1 hj9 hj14 hw0 hw1 hw9 hw14 hr1 hr2 hm1 hm2 hm3 hWc hn hwl hltW hrl
          go_wp2_with fail
          refine wp_region_quiet_tail 27 (by kernel_rfl) (by kernel_rfl) ?_
          simp only [List.take_succ_cons, List.take_zero, List.drop_succ_cons, List.drop_zero]
          repeat (go_big_quiet_step (first | (go_at_call 195; with_reducible exact Calls.quiet_of (drawn_w1 w1 r1 HR1.out q1 _)) | (go_at_call 195; with_reducible exact Calls.quiet_of (drawn_w2 w14 r2 HR2.out q14 _))))
          refine wpQuiet_nil ?_
          intro nq
          obtain ⟨Z, hZ⟩ : ∃ Z, Z = wr.drewN nq := ⟨_, rfl⟩
          rw [← hZ]
          have hWZ : wordsAt Z wb 290 (ringS (wordsB l) t) := hZ ▸ hWr
          have hAZ : wordsAt Z ab 255 (stN (wordsB l) s t).l := hZ ▸ hAr
          have huZ : Upd U Z (fun k => k = wb ∨ k = ab) := hZ ▸ hur.trans (c := wr.drewN nq) (T := fun _ => False) ⟨rfl, rfl, rfl, Nat.le_refl _, fun _ _ _ => rfl⟩ (fun _ _ h => h.elim)
          have fZ := (cells_known hWZ).2.1
          have cZ : Z.cell? ⟨wb, j0, none⟩ = some (.int .u32 (w0 : Nat)) := hZ ▸ d0
          clear hZ
          go_wp2_with fail
          go_meet
          have hs1 := hWZ.set j0 Wc
          rw [HWC.out, HJ.out, ← ringS_next] at hs1
          rw [HWC.out, HJ.out]
          exact ⟨huZ.trans (Upd.setCell Z ⟨wb, t % 16, none⟩ _) (fun k _ h => .inl h), hs1, hAZ.upd (Upd.setCell Z ⟨wb, t % 16, none⟩ _) (fun h => D.out.2.2.2.2.2.2.2.1 h.symm)⟩
      case rest =>
        obtain ⟨huc, hWc, hAc⟩ := hcut
        have hltS := stN_lt (wordsB l) s hs t
        obtain ⟨st, hst⟩ : ∃ x, x = stN (wordsB l) s t := ⟨_, rfl⟩
        have hst1 : st.step (shaK.getD t 0) (wordS (wordsB l) t) = stN (wordsB l) s (t + 1) := by rw [stN_succ, ← hst]
        rw [← hst] at hltS hAc
        obtain ⟨j0, hj0⟩ : ∃ j, j = t % 16 := ⟨_, rfl⟩
        have cK : wc.cell? ⟨kb, t, none⟩ = some (.int .u32 (shaK.getD t 0 : Nat)) :=
          (hKU.upd huc (fun h => by rcases h with h | h; exact D.out.2.2.2.2.2.1 h; exact D.out.2.2.2.2.2.2.1 h)).get (by rw [shaK_length]; exact hlt)
        have cW : wc.cell? ⟨wb, j0, none⟩ = some (.int .u32 (wordS (wordsB l) t : Nat)) := by
          have := hWc.get (k := j0) (by rw [ringS_length]; omega)
          rwa [hj0, ringS_old _ t (t + 1) (by omega) (by omega), ← hj0] at this
        have a0 : bits .and .i64 (t : Int) 15 = (j0 : Int) := by rw [and15 t (by omega), hj0]
        have y0 : (j0 : Int) < 16 := by omega
        have x0 : (0 : Int) ≤ (j0 : Int) := by omega
        have yt0 : (0 : Int) ≤ (t : Int) := by omega
        have yt1 : (t : Int) < 64 := by omega
        have lm : ∀ x, x ∈ st.l → x < 4294967296 := hltS
        obtain ⟨A, B, C, D', E, F, G, H⟩ := st
        simp only [St.l, List.mem_cons, List.not_mem_nil, or_false, forall_eq_or_imp, forall_eq] at lm
        obtain ⟨lA, lB, lC, lD, lE, lF, lG, lH⟩ := lm
        obtain ⟨x1, hx1⟩ : ∃ n, n = F ^^^ G := ⟨_, rfl⟩
        obtain ⟨x2, hx2⟩ : ∃ n, n = E &&& x1 := ⟨_, rfl⟩
        obtain ⟨x3, hx3⟩ : ∃ n, n = G ^^^ x2 := ⟨_, rfl⟩
        obtain ⟨x4, hx4⟩ : ∃ n, n = A &&& B := ⟨_, rfl⟩
        obtain ⟨x5, hx5⟩ : ∃ n, n = A ||| B := ⟨_, rfl⟩
        obtain ⟨x6, hx6⟩ : ∃ n, n = C &&& x5 := ⟨_, rfl⟩
        obtain ⟨x7, hx7⟩ : ∃ n, n = x4 ||| x6 := ⟨_, rfl⟩
        have l1 : x1 < 4294967296 := hx1 ▸ Nat.xor_lt_two_pow (n := 32) lF lG
        have l2 : x2 < 4294967296 := hx2 ▸ Nat.and_lt_two_pow (n := 32) _ l1
        have l4 : x4 < 4294967296 := hx4 ▸ Nat.and_lt_two_pow (n := 32) _ lB
        have l5 : x5 < 4294967296 := hx5 ▸ Nat.or_lt_two_pow (n := 32) lA lB
        have l6 : x6 < 4294967296 := hx6 ▸ Nat.and_lt_two_pow (n := 32) _ l5
        have b1 : bits .xor .u32 (F : Int) (G : Int) = (x1 : Int) := hx1 ▸ bits_xor_u32 F G lF lG
        have b2 : bits .and .u32 (E : Int) (x1 : Int) = (x2 : Int) := hx2 ▸ bits_and_u32 E x1 lE l1
        have b3 : bits .xor .u32 (G : Int) (x2 : Int) = (x3 : Int) := hx3 ▸ bits_xor_u32 G x2 lG l2
        have b4 : bits .and .u32 (A : Int) (B : Int) = (x4 : Int) := hx4 ▸ bits_and_u32 A B lA lB
        have b5 : bits .or .u32 (A : Int) (B : Int) = (x5 : Int) := hx5 ▸ bits_or_u32 A B lA lB
        have b6 : bits .and .u32 (C : Int) (x5 : Int) = (x6 : Int) := hx6 ▸ bits_and_u32 C x5 lC l5
        have b7 : bits .or .u32 (x4 : Int) (x6 : Int) = (x7 : Int) := hx7 ▸ bits_or_u32 x4 x6 l4 l6
        obtain ⟨t1, ht1⟩ : ∃ n, n = threeS E 6 11 25 false := ⟨_, rfl⟩
        obtain ⟨t2, ht2⟩ : ∃ n, n = threeS A 2 13 22 false := ⟨_, rfl⟩
        obtain ⟨Kc, hKc⟩ : ∃ n, n = shaK.getD t 0 := ⟨_, rfl⟩
        obtain ⟨Wc, hWcc⟩ : ∃ n, n = wordS (wordsB l) t := ⟨_, rfl⟩
        obtain ⟨n1, hn1⟩ : ∃ n, n = (H + t1) % 4294967296 := ⟨_, rfl⟩
        obtain ⟨n2, hn2⟩ : ∃ n, n = (n1 + x3) % 4294967296 := ⟨_, rfl⟩
        obtain ⟨n3, hn3⟩ : ∃ n, n = (n2 + Kc) % 4294967296 := ⟨_, rfl⟩
        obtain ⟨one, hU⟩ : ∃ n, n = (n3 + Wc) % 4294967296 := ⟨_, rfl⟩
        obtain ⟨d1, hd1⟩ : ∃ n, n = (t2 + x7) % 4294967296 := ⟨_, rfl⟩
        obtain ⟨A', hA'⟩ : ∃ n, n = (one + d1) % 4294967296 := ⟨_, rfl⟩
        obtain ⟨E', hE'⟩ : ∃ n, n = (D' + one) % 4294967296 := ⟨_, rfl⟩
        have hstep : (⟨A', A, B, C, E', E, F, G⟩ : St) = stN (wordsB l) s (t + 1) := by
          rw [← hst1]
          simp only [St.step, upS, downS]
          rw [hA', hE', hd1, hU, hn3, hn2, hn1, hKc, hWcc, ht1, ht2, hx7, hx6, hx5, hx4, hx3, hx2, hx1]
        rw [← hKc] at cK
        rw [← hWcc] at cW
        have e1 := add32 H t1 n1 hn1
        have e2 := add32 n1 x3 n2 hn2
        have e3 := add32 n2 Kc n3 hn3
        have e4 := add32 n3 Wc one hU
        have e5 := add32 t2 x7 d1 hd1
        have e6 := add32 one d1 A' hA'
        have e7 := add32 D' one E' hE'
        have hl8 : (⟨A, B, C, D', E, F, G, H⟩ : St).l.length = 8 := rfl
        have c0 : wc.cell? ⟨ab, 0, none⟩ = some (.int .u32 (A : Nat)) := hAc.get (k := 0) (by rw [hl8]; decide)
        have c1 : wc.cell? ⟨ab, 1, none⟩ = some (.int .u32 (B : Nat)) := hAc.get (k := 1) (by rw [hl8]; decide)
        have c2 : wc.cell? ⟨ab, 2, none⟩ = some (.int .u32 (C : Nat)) := hAc.get (k := 2) (by rw [hl8]; decide)
        have c4 : wc.cell? ⟨ab, 4, none⟩ = some (.int .u32 (E : Nat)) := hAc.get (k := 4) (by rw [hl8]; decide)
        have c5 : wc.cell? ⟨ab, 5, none⟩ = some (.int .u32 (F : Nat)) := hAc.get (k := 5) (by rw [hl8]; decide)
        have c6 : wc.cell? ⟨ab, 6, none⟩ = some (.int .u32 (G : Nat)) := hAc.get (k := 6) (by rw [hl8]; decide)
        have c7 : wc.cell? ⟨ab, 7, none⟩ = some (.int .u32 (H : Nat)) := hAc.get (k := 7) (by rw [hl8]; decide)
        have HST := Lib.hid hstep
        have HT1 := Lib.hid ht1
        have HT2 := Lib.hid ht2
        clear hst hst1 hltS hstep ht1 ht2 hx1 hx2 hx3 hx4 hx5 hx6 hx7 hKc hWcc hn1 hn2 hn3 hU hd1 hA' hE' l1 l2 l4 l5 l6 lB lC lD lF lG lH hj0 hl8
        go_wp2_with fail
        go_quiet ((go_at_call 196; exact Calls.quiet_of (mixed_w1 E t1 HT1.out lE _)))
        go_wp2_with (go_at_call 196; refine (mixed_w2 A t2 HT2.out lA _).mono ?_; rintro e w' ⟨rfl, nC, rfl⟩)
        rw [e5]
        obtain ⟨Y, hY⟩ : ∃ Y, Y = wc.drewN (nq + nC) := ⟨_, rfl⟩
        rw [← hY]
        have huY : Upd U Y (fun k => k = wb ∨ k = ab) := hY ▸ huc.trans (c := wc.drewN (nq + nC)) (T := fun _ => False) ⟨rfl, rfl, rfl, Nat.le_refl _, fun _ _ _ => rfl⟩ (fun _ _ h => h.elim)
        have hWY : wordsAt Y wb 290 (ringS (wordsB l) (t + 1)) := hY ▸ hWc
        have hAY : wordsAt Y ab 255 (shiftS ⟨A, B, C, D', E, F, G, H⟩ 7) := hY ▸ hAc
        obtain ⟨sv, hsv⟩ : ∃ x : St, x = ⟨A, B, C, D', E, F, G, H⟩ := ⟨_, rfl⟩
        rw [← hsv] at hAY
        have HSV := Lib.hid hsv
        clear hY hAc hWc huc c0 c1 c2 c4 c5 c6 c7 cK cW b1 b2 b3 b4 b5 b6 b7 e1 e2 e3 e4 e5 HT1 HT2 lA lE hsv
        go_loopw [14] (fun v wr => ∃ i : Nat, i ≤ 7 ∧ v = .int .i64 i ∧ Upd U wr (fun k => k = wb ∨ k = ab) ∧ wordsAt wr wb 290 (ringS (wordsB l) (t + 1)) ∧ wordsAt wr ab 255 (shiftS sv i)) (fun v _ => (intOf v).toNat)
        case atStart => exact ⟨7, by omega, rfl, huY, hWY, hAY⟩
        case round =>
          obtain ⟨i, hi, rfl, hui, hWi, hAi⟩ := hrel
          clear huY hWY hAY
          by_cases h0 : 0 < i
          · have d0 : decide ((0 : Int) < (i : Int)) = true := decide_eq_true (by omega)
            obtain ⟨k, hk⟩ : ∃ k, i = k + 1 := ⟨i - 1, by omega⟩
            have zk : (i : Int) - 1 = (k : Int) := by omega
            have yk0 : (0 : Int) ≤ (k : Int) := by omega
            have yk1 : (k : Int) < 8 := by omega
            have yi0 : (0 : Int) ≤ (i : Int) := by omega
            have yi1 : (i : Int) < 8 := by omega
            obtain ⟨x, hx⟩ : ∃ x, x = (shiftS sv i).getD k 0 := ⟨_, rfl⟩
            have cA := hAi.get (k := k) (by rw [shiftS_length]; omega)
            rw [← hx] at cA
            have cI := hAi.get (k := i) (by rw [shiftS_length]; omega)
            have fA := (cells_known hAi).2.1
            have hk7 : k ≤ 7 := by omega
            have hn : Hid (wordsAt (wr.setCell ⟨ab, i, none⟩ (.int .u32 (x : Nat))) ab 255 (shiftS sv k)) := by
              have := hAi.set i x
              unfold Hid
              rw [hx, hk, shiftS_step sv k (by omega), ← hk] at this
              rw [hx]
              exact this
            have hmu : Hid (k < i) := by unfold Hid; omega
            clear hx hk
            go_wp2_with fail
            go_roundw
            case rel => exact ⟨k, hk7, by go_num, hui.trans (Upd.setCell wr ⟨ab, i, none⟩ _) (fun k _ h => .inr h), hWi.upd (Upd.setCell wr ⟨ab, i, none⟩ _) (fun h => D.out.2.2.2.2.2.2.2.1 h), hn.out⟩
            case measure => have := hmu.out; simp [intOf]; omega
          · have d0 : decide ((0 : Int) < (i : Int)) = false := decide_eq_false (by omega)
            have hi0 : i = 0 := by omega
            rw [hi0, shiftS_end, HSV.out] at hAi
            simp only at hAi
            clear hi0
            have c4 : wr.cell? ⟨ab, 4, none⟩ = some (.int .u32 (D' : Nat)) := hAi.get (k := 4) (by simp)
            have c0 : wr.cell? ⟨ab, 0, none⟩ = some (.int .u32 (A : Nat)) := hAi.get (k := 0) (by simp)
            have fA := (cells_known hAi).2.1
            have hA4 := hAi.set 4 E'
            have hA0 := Lib.hid (hA4.set 0 A')
            have c02 := hA4.get (k := 0) (by simp)
            have fA2 := (cells_known hA4).2.1
            go_wp2_with fail
            go_roundw
            case rel =>
              have hu4 : Upd wr ((wr.setCell ⟨ab, 4, none⟩ (.int .u32 (E' : Nat))).setCell ⟨ab, 0, none⟩ (.int .u32 (A' : Nat))) (fun k => k = ab) :=
                (Upd.setCell wr ⟨ab, 4, none⟩ _).trans (Upd.setCell _ ⟨ab, 0, none⟩ _) (fun _ _ h => h)
              refine ⟨t + 1, by omega, by go_num, hui.trans hu4 (fun k _ h => .inr h), hWi.upd hu4 (fun h => D.out.2.2.2.2.2.2.2.1 h), ?_⟩
              rw [← HST.out]
              exact hA0.out
            case measure => simp [intOf]; omega
    · have dlt : decide ((t : Int) < 64) = false := decide_eq_false (by omega)
      have ht64 : Hid (t = 64) := by unfold Hid; omega
      obtain ⟨sn, hsn⟩ : ∃ x, x = stN (wordsB l) s t := ⟨_, rfl⟩
      rw [← hsn] at hAr
      have HSN := Lib.hid hsn
      have hSr := hSU.upd hur (fun h => by rcases h with h | h; exact D.out.2.1 h; exact D.out.2.2.1 h)
      clear hsn
      go_wp2_with fail
      go_loopw [15] (fun v wx => ∃ k : Nat, k ≤ 8 ∧ v = .int .i64 k ∧ Upd U wx (fun k => k = wb ∨ k = ab ∨ k = sb) ∧ wordsAt wx ab 255 sn.l ∧ wordsAt wx sb 255 (mixH s sn k).l) (fun v _ => 8 - (intOf v).toNat)
      case atStart => exact ⟨0, by omega, rfl, hur.mono (fun k _ h => by rcases h with h | h; exact .inl h; exact .inr (.inl h)), hAr, hSr⟩
      case round =>
        obtain ⟨k, hk, rfl, huk, hAk, hSk⟩ := hrel
        clear hSr hAr hur hWr
        by_cases h8 : k < 8
        · have d8 : decide ((k : Int) < 8) = true := decide_eq_true (by omega)
          obtain ⟨x, hx⟩ : ∃ x, x = s.l.getD k 0 := ⟨_, rfl⟩
          obtain ⟨y, hy⟩ : ∃ y, y = sn.l.getD k 0 := ⟨_, rfl⟩
          obtain ⟨z, hz⟩ : ∃ z, z = (x + y) % 4294967296 := ⟨_, rfl⟩
          have cS := hSk.get (k := k) (by rw [St.l_length]; exact h8)
          rw [mixH_get _ _ _ h8, ← hx] at cS
          have cA := hAk.get (k := k) (by rw [St.l_length]; exact h8)
          rw [← hy] at cA
          have fS := (cells_known hSk).2.1
          have hn := hSk.set k z
          rw [hz, hx, hy, mixH_setL _ _ _ h8, ← hx, ← hy, ← hz] at hn
          have HN := Lib.hid hn
          have g1 := add32 x y z hz
          have g2 := add32w x y z hz
          have yk0 : (0 : Int) ≤ (k : Int) := by omega
          have yk1 : (k : Int) < 8 := by omega
          clear hx hy hz hn
          go_wp2_with fail
          go_region
          all_goals go_wp2_with fail
          all_goals go_roundw
          case rel => exact ⟨k + 1, by omega, by go_num, huk.trans (Upd.setCell_drew wr sb k _) (fun k _ h => .inr (.inr h)), hAk.upd (Upd.setCell_drew wr sb k _) (fun h => D.out.2.2.1 h.symm), HN.out⟩
          case measure => simp [intOf]; omega
        · have d8 : decide ((k : Int) < 8) = false := decide_eq_false (by omega)
          have hk8 : k = 8 := by omega
          have hSe : wordsAt wr sb 255 (compressS s (wordsB l)).w8.l := by
            rw [hk8, mixH_all, HSN.out, ht64.out, ← compressS_eq] at hSk
            exact hSk
          have rS := hSe.row
          have hRe := hRU.upd huk (fun h => by rcases h with h | h | h; exact D.out.2.2.2.1 h; exact D.out.2.2.2.2.1 h; exact D.out.1 h.symm)
          clear hk8
          have hRe2 : wr.heap[rb]? = some (.cells W8.zero.arr 255 (0, 0)) := hRe
          go_wp2_with (refine wpList_storeW8 (.tmp 4) (.tmp 150) rfl rfl rb (compressS s (wordsB l)).w8 W8.zero rfl rfl hRe2 ?_; intro w2 hr2 hu2)
          have D2 := D.out
          have hbr : Below w.heap.size w wr := hbU.trans (huk.below hbU.size (fun i e => by omega))
          have hbu : Below w.heap.size wr w2 := hu2.below hbr.size (fun i e => by omega)
          exact bodyPost_ret (results_cell_row rfl _ _ rb 255 (compressS s (wordsB l)).w8.arr (0, 0) _ rfl hr2 Tryz.underlying255 rfl (by rw [size_W8]; rfl)) rfl ⟨rfl, hbr.trans hbu⟩
end Go.Proofs.YtlkojkjeklblkaaGreat
