/- Contracts of the document's own sums: the sum of bytes. Contracts of the document's own sums: a sum twice, the image of a preimage. -/
import Derived.Test.YtlkojkjeklblkaaGreatRefB
import Derived.Test.YtlkojkjeklblkaaGreatShaH
import Derived.Deep.RegionWith
import Derived.Deep.RegionLaw
import Derived.Deep.DeepCutAuto
import Derived.Deep.CutBlock
import Derived.Test.YtlkojkjeklblkaaGreatConv
set_option linter.unusedSimpArgs false
set_option linter.unusedVariables false
namespace Go.Proofs.YtlkojkjeklblkaaGreat
open Go.RowKit
theorem putW8_at {w : World} {b : Nat} {y z : W8} (h : wordsAt w b 255 z.l) : wordsAt (putRow w ⟨b, 0, none⟩ y.arr) b 255 y.l ∧ Upd w (putRow w ⟨b, 0, none⟩ y.arr) (fun k => k = b) := by
  have h1 : w.heap[b]? = some (.cells z.arr 255 (0, 0)) := h
  refine ⟨?_, setCells_upd b _ 0 w⟩
  have hh := heap_setCells y.arr.toList 0 w _ h1
  have e := putRow_eq 0 [] z.arr.toList [] y.arr.toList rfl (by simp)
  simp only [List.nil_append, List.append_nil, Array.toArray_toList] at e
  rw [e] at hh
  exact hh
theorem free_at {w : World} {b : Nat} {t : TypeId} {l : List Nat} (h : wordsAt w b t l) : rowFree w ⟨b, 0, none⟩ 8 := fun j _ => (cells_known h).2.1 _
theorem info_u8C : (Tryz.prog.info? 5).map (fun i => (i.zero, i.size, i.bytes)) = some (some (.int .u8 0), 1, 1) := by kernel_rfl
/-- Block b holds bytes. -/
def bytesIn (X : World) (b : Nat) (l : List UInt8) : Prop := X.heap[b]? = some (.cells (l.map byteV).toArray 5 (0, 0))
theorem bytesIn.lt {X : World} {b : Nat} {l : List UInt8} (h : bytesIn X b l) : b < X.heap.size := (Array.getElem?_eq_some_iff.1 h).1
theorem bytesIn.upd {X Y : World} {b : Nat} {l : List UInt8} {S : Nat → Prop} (h : bytesIn X b l) (hu : Upd X Y S) (hb : ¬ S b) : bytesIn Y b l := (hu.block b h.lt hb).trans h
theorem bytesIn.set {X : World} {b : Nat} {l : List UInt8} (h : bytesIn X b l) (k : Nat) (x : UInt8) : bytesIn (X.setCell ⟨b, k, none⟩ (byteV x)) b (l.set k x) := by
  unfold bytesIn
  rw [heap_set h]
  simp [List.map_set]
theorem bytesIn.get {X : World} {b : Nat} {l : List UInt8} (h : bytesIn X b l) {k : Nat} (hk : k < l.length) : X.cell? ⟨b, k, none⟩ = some (byteV l[k]) := by
  rw [(cells_known h).1]; simp [hk]
theorem bytesIn.at {X : World} {b : Nat} {l : List UInt8} (h : bytesIn X b l) (n c : Nat) (hn : n = l.length) : bytesAt X ⟨some ⟨b, 0, none⟩, n, c⟩ l X.heap.size :=
  ⟨hn, fun _ => ⟨b, 0, rfl, h.lt, fun k hk => by rw [Nat.zero_add]; exact h.get hk⟩⟩
theorem Upd.then_below {a b c : World} {S : Nat → Prop} {B : Nat} (h : Upd a b S) (k : Below B b c) (hB : a.heap.size ≤ B) : Upd a c S :=
  ⟨k.os.trans h.os, k.tape.trans h.tape, k.output.trans h.output, Nat.le_trans h.size k.size, fun i hi hs => (k.block i (Nat.lt_of_lt_of_le hi hB)).trans (h.block i hi hs)⟩
def zerosV (n : Nat) : Array Value := ((List.replicate n (0 : UInt8)).map byteV).toArray
theorem run_copy_u8 {w : World} {g L B : Nat} {cur : List UInt8} (h : bytesIn w g cur) (hL : cur.length = L) {u : Sl} {r : List UInt8} (hu : bytesAt w u r B) (hle : r.length ≤ L) :
    ∃ w', (Builtin.copy_ #[137, 137] 3 #[.slice (some ⟨g, 0, none⟩) L L, .slice u.a u.n u.c]).run Tryz.prog w = .ok (.int .i64 (u.n : Int)) w' ∧ bytesIn w' g (r ++ cur.drop r.length) ∧ Upd w w' (fun k => k = g) := by
  obtain ⟨ua, un, uc⟩ := u
  have hun : un = r.length := hu.1
  simp only
  by_cases h0 : r = []
  · subst h0
    have hr := run_copy_none (P := Tryz.prog) w 137 137 3 5 (some ⟨g, 0, none⟩) ua L L un uc Tryz.underlying137 (by kernel_rfl) (by rw [hun]; exact Nat.min_eq_left (Nat.zero_le _))
    exact ⟨w, by rw [hr, hun]; rfl, by simpa using h, Upd.refl _ _⟩
  · obtain ⟨b, off, ha, _, hcc⟩ := hu.2 h0
    simp only at ha
    subst ha
    have hr := run_copy_row (P := Tryz.prog) w 137 137 3 5 g 0 L L ⟨b, off, none⟩ un uc (cur.map byteV).toArray 5 (byteVs r) Tryz.underlying137 (by kernel_rfl) h (by rw [byteVs_length, hun]; exact (Nat.min_eq_left hle).symm)
      (fun j x hx => by
        have hj : j < r.length := by have := (List.getElem?_eq_some_iff.1 hx).1; rwa [byteVs_length] at this
        have e : (⟨b, off, none⟩ : Addr).add j = ⟨b, off + j, none⟩ := by unfold Addr.add; split <;> simp_all
        rw [e, hcc j hj]
        rw [byteVs_get hj] at hx
        exact hx) (by rw [byteVs_length]; simp; omega) (by intro x hx; simp only [byteVs, List.mem_map] at hx; obtain ⟨c, _, rfl⟩ := hx; rfl)
    refine ⟨w.setRow g ((cur.map byteV).toArray.toList.take 0 ++ byteVs r ++ (cur.map byteV).toArray.toList.drop (0 + (byteVs r).length)).toArray, hr.trans (by rw [byteVs_length, hun]; rfl), ?_, ⟨rfl, rfl, rfl, by simp [World.setRow], fun k _ hk => setRow_other w g k _ hk⟩⟩
    unfold bytesIn
    rw [setRow_heap w g _ _ _ _ h]
    refine congrArg (fun c => some (Obj.cells c 5 (0, 0))) (Array.ext' ?_)
    simp [byteVs]
theorem make_u8 (n : Nat) (hn : n ≤ 1000000) (w : World) : (Instr.makeSlice 137 (.int .i64 (n : Int)) (.int .i64 (n : Int))).run Tryz.prog w = .ok (.slice (some ⟨w.heap.size, 0, none⟩) n n) (w.alloc (.cells (zerosV n) 5)) := by
  obtain ⟨i0, hi, hz0, hz1, hz2⟩ := info_parts info_u8C
  have hr := run_makeSlice (P := Tryz.prog) w 137 5 i0 (.int .u8 0) Tryz.underlying137 hi hz0 .i64 .i64 n n (by omega) (by omega) (by rw [hz1]; simp; omega) (by rw [hz2]; omega) (by omega)
  have e : madeCells (Value.int .u8 0).cells (n * 1) = zerosV n := by
    apply Array.ext'
    rw [show (Value.int .u8 0).cells = #[Value.int .u8 0] from rfl, toList_madeCells_one]
    simp [zerosV, byteV]
  rw [hr, hz1, Int.toNat_natCast, e]
@[go_sem] theorem make_64 (w : World) : (Instr.makeSlice 137 (.int .i64 64) (.int .i64 64)).run Tryz.prog w = .ok (.slice (some ⟨w.heap.size, 0, none⟩) 64 64) (w.alloc (.cells (zerosV 64) 5)) := make_u8 64 (by decide) w
@[go_sem] theorem make_128 (w : World) : (Instr.makeSlice 137 (.int .i64 128) (.int .i64 128)).run Tryz.prog w = .ok (.slice (some ⟨w.heap.size, 0, none⟩) 128 128) (w.alloc (.cells (zerosV 128) 5)) := make_u8 128 (by decide) w
theorem bytesAt.cut {w : World} {b off n c B : Nat} {l : List UInt8} (k : Nat) (h : bytesAt w ⟨some ⟨b, off, none⟩, n, c⟩ l B) (hk : k ≤ n) (hc : n ≤ c) :
    bytesAt w ⟨if c = k then some ⟨b, off, none⟩ else some ⟨b, off + k, none⟩, n - k, c - k⟩ (l.drop k) B := by
  obtain ⟨h1, h2⟩ := h
  simp only at h1 h2
  refine ⟨by simp [h1], fun hne => ?_⟩
  have hlt : k < l.length := by
    rcases Nat.lt_or_ge k l.length with g | g
    · exact g
    · exact absurd (List.drop_eq_nil_of_le g) hne
  obtain ⟨b', off', e, hb, hcc⟩ := h2 (by intro e; rw [e] at hlt; simp at hlt)
  cases e
  refine ⟨b, off + k, by simp only; rw [if_neg (by omega)], hb, fun j hj => ?_⟩
  rw [List.length_drop] at hj
  rw [show off + k + j = off + (k + j) by omega, hcc (k + j) (by omega)]
  simp
section
variable {P : Program} {ops : Array Oper} {C : World → Prop}
/-- One operation of a quiet walk, its value given. -/
theorem wpQuiet_op {Q : Act → Prop} {a : Act} {o : Oper} {rest : List Oper} (v : Value) (hg : o.guard = none) (h : ∀ w, C w → (execOp a.eval o).run P w = .ok (.value v) w) (hK : wpQuiet P ops C Q rest (a.put o.dst v)) : wpQuiet P ops C Q (o :: rest) a := by
  unfold wpQuiet
  rw [if_pos (by simp [Region.wanted, hg])]
  exact ⟨v, fun w hC => by unfold Oper.quietAt; rw [h w hC]; exact ⟨rfl, rfl⟩, hK⟩
end
theorem run_load_W8 {w : World} {a : Act} {o : Oper} (x : Operand) (y : W8) {b : Nat} (hop : o.op = Op.load 255 x) (hx : a.eval x = .pointer (some ⟨b, 0, none⟩)) (h : row? w ⟨b, 0, none⟩ 8 = some y.arr) :
    (execOp a.eval o).run Tryz.prog w = .ok (.value (.agg y.arr)) w := by
  obtain ⟨dst, op, ty, pos, after, guard⟩ := o
  simp only at hop
  subst hop
  rw [execOp_load_W8, hx]
  simp only [Sem.run_bind, loads_W8 _ w (by rw [h]; rfl), h, Option.getD_some, Result.andThen_ok, Sem.run_pure]
set_option maxRecDepth 100000 in
set_option maxHeartbeats 4000000 in
theorem sum_ref (v : Sl) (l : List UInt8) (w : World) (hv : bytesAt w v l w.heap.size) (hcap : v.n ≤ v.c) (hlen : l.length < 1000000000000000) :
    Calls Tryz.prog 106 #[.slice v.a v.n v.c] w fun e w' => e = .returned (.agg (shaS l).arr) ∧ Below w.heap.size w w' := by
  have hvn : v.n < 1000000000000000 := by rw [hv.1]; exact hlen
  have HVN : Hid (v.n = l.length) := by unfold Hid; exact hv.1
  go_enter Tryz.func106, Tryz.ntmps106
  have hiv : (#[.int .u32 1779033703, .int .u32 3144134277, .int .u32 1013904242, .int .u32 2773480762, .int .u32 1359893119, .int .u32 2600822924, .int .u32 528734635, .int .u32 1541459225] : Array Value) = (St.w8 ivS).arr := rfl
  go_wp2_with fail
  obtain ⟨V, hV⟩ : ∃ V, V = (w.alloc (.cells Hash.zero.arr 38)).alloc (.cells (St.w8 ivS).arr 255) := ⟨_, rfl⟩
  obtain ⟨hb, hhb⟩ : ∃ n, n = w.heap.size := ⟨_, rfl⟩
  obtain ⟨sb, hsb⟩ : ∃ n, n = hb + 1 := ⟨_, rfl⟩
  rw [← hV, ← hhb, ← hsb]
  have hH : V.heap[hb]? = some (.cells Hash.zero.arr 38 (0, 0)) := by
    rw [hV, hhb]; show ((w.heap.push _).push _)[w.heap.size]? = _
    rw [Array.getElem?_push, if_neg (by simp), Array.getElem?_push_size]
  have hS : wordsAt V sb 255 ivS.l := by
    rw [hV, hsb, hhb]; show ((w.heap.push _).push _)[w.heap.size + 1]? = _
    rw [Array.getElem?_push, if_pos (by simp)]; rfl
  have hbV : Below w.heap.size w V := hV ▸ ((Below.refl _ _).alloc (Nat.le_refl _) _).alloc (by simp) _
  have D : Hid (hb ≠ sb ∧ w.heap.size ≤ hb ∧ w.heap.size ≤ sb) := by unfold Hid; omega
  clear hV hhb hsb hiv
  go_loopw [4] (fun x wr => ∃ (k : Nat) (u : Sl), 64 * k ≤ l.length ∧ x = .slice u.a u.n u.c ∧ u.n ≤ u.c ∧ bytesAt w u (l.drop (64 * k)) w.heap.size ∧ Upd V wr (fun k => k = sb) ∧ wordsAt wr sb 255 (blocksN ivS l k).l) (fun x _ => match x with | .slice _ n _ => n | _ => 0)
  case atStart => exact ⟨0, v, by omega, rfl, hcap, by simpa using hv, Upd.refl _ _, hS⟩
  case round =>
    obtain ⟨k, u, hk, rfl, huc, hub, hur, hSr⟩ := hrel
    have hun := hub.1
    rw [List.length_drop] at hun
    by_cases h64 : 64 ≤ u.n
    · have d64 : decide ((64 : Int) ≤ (u.n : Int)) = true := decide_eq_true (by omega)
      have hne : l.drop (64 * k) ≠ [] := by
        intro h
        have : (l.drop (64 * k)).length = 0 := by rw [h]; rfl
        rw [List.length_drop] at this
        omega
      obtain ⟨b, off, hua, hb1, hcc⟩ := hub.2 hne
      obtain ⟨ua, un, uc⟩ := u
      simp only at hua huc hun h64 d64
      subst hua
      obtain ⟨st, hst⟩ : ∃ st, st = blocksN ivS l k := ⟨_, rfl⟩
      obtain ⟨m, hm⟩ : ∃ m, m = (l.drop (64 * k)).take 64 := ⟨_, rfl⟩
      have hml : m.length = 64 := by rw [hm, List.length_take, List.length_drop]; omega
      have hbr : Below w.heap.size w wr := hbV.trans (hur.below hbV.size (fun i e => by have := D.out; omega))
      have hbs : b < wr.heap.size := Nat.lt_of_lt_of_le hb1 hbr.size
      have hcm : ∀ j (h : j < m.length), wr.cell? ⟨b, off + j, none⟩ = some (byteV m[j]) := by
        intro j hj
        rw [hbr.cell (p := ⟨b, off + j, none⟩) hb1, hcc j (by rw [List.length_drop]; omega)]
        subst hm
        simp
      have hstlt : ∀ x ∈ st.l, x < 4294967296 := hst ▸ blocksN_lt ivS ivS_lt l k
      rw [← hst] at hSr
      have rS : row? wr ⟨sb, 0, none⟩ 8 = some st.w8.arr := wordsAt.row (x := st.w8) hSr
      have hcr := chunk_ref st hstlt b off uc m hml
      have HCM := Lib.hid hcm
      have HST := Lib.hid hst
      have HM := Lib.hid hm
      clear hst hm hcm
      have hu64 : 64 ≤ uc := by omega
      have hu65 : (64 : Int) ≤ (uc : Int) := by omega
      have HUN := Lib.hid hun
      clear hun
      have hSr2 : wordsAt wr.drew sb 255 st.w8.l := hSr
      go_wp2_with fail
      refine wp_region_quiet_tail 3 (by kernel_rfl) (by kernel_rfl) ?_
      simp only [List.take_succ_cons, List.take_zero, List.drop_succ_cons, List.drop_zero]
      refine wpQuiet_op (.agg st.w8.arr) rfl (fun w' hC => ?_) ?_
      · obtain ⟨m, rfl⟩ := hC
        exact run_load_W8 (.tmp 3) st.w8 rfl rfl rS
      go_frame
      repeat (go_big_quiet_step (fail))
      refine wpQuiet_nil ?_
      intro nq
      obtain ⟨Z, hZ⟩ : ∃ Z, Z = wr.drewN nq := ⟨_, rfl⟩
      rw [← hZ]
      have hSZ : Z.heap[sb]? = some (.cells st.w8.arr 255 (0, 0)) := hZ ▸ hSr
      have hzr : Z.heap.size = wr.heap.size := hZ ▸ rfl
      have hbZ : b < Z.heap.size := hzr ▸ hbs
      have hcZ : ∀ j (h : j < m.length), Z.cell? ⟨b, off + j, none⟩ = some (byteV m[j]) := fun j h => hZ ▸ HCM.out j h
      have huZ : Upd V Z (fun k => k = sb) := hZ ▸ hur.trans (c := wr.drewN nq) (T := fun _ => False) ⟨rfl, rfl, rfl, Nat.le_refl _, fun _ _ _ => rfl⟩ (fun _ _ h => h.elim)
      have HCZ := Lib.hid hcZ
      clear hZ hzr hcZ rS hSr hSr2 hur
      go_wp2_with (first | (go_at_call 156; refine (hcr Z hbZ HCZ.out).mono ?_; rintro e w1 ⟨rfl, hb1⟩; have hS1 : w1.heap[sb]? = some (.cells st.w8.arr 255 (0, 0)) := (hb1.block sb (Array.getElem?_eq_some_iff.1 hSZ).1).trans hSZ) | (refine wpList_storeW8 (.tmp 3) (.tmp 18) rfl rfl sb (compressS st (wordsB m)).w8 st.w8 rfl rfl hS1 ?_; intro w2 hr2 hu2))
      have huw : Upd V w2 (fun k => k = sb) := huZ.trans ((Upd.of_below hb1 (fun k => k = sb)).trans hu2 (fun _ _ h => h)) (fun _ _ h => h)
      have hun := HUN.out
      refine ⟨⟨k + 1, ⟨if uc = 64 then some ⟨b, off, none⟩ else some ⟨b, off + 64, none⟩, un - 64, uc - 64⟩, by omega, rfl, by simp only; omega, ?_, huw, ?_⟩, ?_⟩
      · have hh := bytesAt.cut 64 hub h64 huc
        rw [List.drop_drop] at hh
        exact hh
      · have e : compressS st (wordsB m) = blocksN ivS l (k + 1) := by rw [HST.out, HM.out]; rfl
        rw [← e]
        exact hr2
      · show un - 64 < un
        omega
    · clear hv
      have d64 : decide ((64 : Int) ≤ (u.n : Int)) = false := decide_eq_false (by omega)
      have hkk : k = l.length / 64 := by omega
      obtain ⟨r, hr⟩ : ∃ r, r = l.drop (64 * k) := ⟨_, rfl⟩
      rw [← hr] at hub
      have hrl : r.length = u.n := by rw [hr, List.length_drop]; exact hun.symm
      obtain ⟨L, hL⟩ : ∃ L, L = (tailD l).length := ⟨_, rfl⟩
      have hL2 : L = if u.n ≤ 55 then 64 else 128 := by rw [hL, tailD_length, show l.length % 64 = u.n by omega]
      have hst : Hid ((r ++ List.replicate (L - r.length) 0).set r.length 128 = lastJ (tailD l) 0) := tailD_start l r (by rw [hr, hkk]) L hL
      obtain ⟨st, hse⟩ : ∃ st, st = blocksN ivS l k := ⟨_, rfl⟩
      rw [← hse] at hSr
      have HSE := Lib.hid hse
      have HK := Lib.hid hkk
      have HR := Lib.hid hr
      have HL := Lib.hid hL
      have HL2 := Lib.hid hL2
      have HRL := Lib.hid hrl
      have HUN := Lib.hid hun
      clear hse hkk hr hL hL2 hrl hun
      go_upto_if 24 with fail
      go_cut [5] (fun x wx => ∃ lb, x = .slice (some ⟨lb, 0, none⟩) L L ∧ bytesIn wx lb (List.replicate L 0) ∧ Upd V wx (fun k => k = sb) ∧ wordsAt wx sb 255 st.l ∧ V.heap.size ≤ lb)
      case first =>
        have hVr : V.heap.size ≤ wr.heap.size := hur.size
        by_cases h55 : u.n ≤ 55
        · have d55 : decide ((55 : Int) < (u.n : Int)) = false := decide_eq_false (by omega)
          have hL64 : Hid (L = 64) := by have := HL2.out; unfold Hid; rw [this, if_pos h55]
          go_wp2_with fail
          go_meet
          rw [hL64.out]
          exact ⟨wr.heap.size, rfl, heap_alloc_new wr _, hur.trans (Upd.of_below ((Below.refl wr.heap.size wr).alloc (Nat.le_refl _) _) (fun _ => False)) (fun _ _ h => h.elim), (Below.block ((Below.refl wr.heap.size wr).alloc (Nat.le_refl _) _) sb hSr.lt).trans hSr, hVr⟩
        · have d55 : decide ((55 : Int) < (u.n : Int)) = true := decide_eq_true (by omega)
          have hL64 : Hid (L = 128) := by have := HL2.out; unfold Hid; rw [this, if_neg h55]
          go_wp2_with fail
          go_meet
          rw [hL64.out]
          have hb2 : Below wr.heap.size wr ((wr.alloc (.cells (zerosV 64) 5)).alloc (.cells (zerosV 128) 5)) := ((Below.refl wr.heap.size wr).alloc (Nat.le_refl _) _).alloc (by simp) _
          exact ⟨(wr.alloc (.cells (zerosV 64) 5)).heap.size, by simp, heap_alloc_new _ _, hur.trans (Upd.of_below hb2 (fun _ => False)) (fun _ _ h => h.elim), (hb2.block sb hSr.lt).trans hSr, by simp; omega⟩
      case rest =>
        obtain ⟨lb, rfl, hBc, huc, hSc, hlb⟩ := hcut
        have hLu : u.n < L := by have := HL2.out; have h3 := HUN.out; have h4 := HK.out; split at this <;> omega
        have hub2 : bytesAt wc u r w.heap.size := hub.upd (B := w.heap.size) (S := fun _ => False) (Upd.of_below (Below.refl w.heap.size w) _) (Nat.le_refl _) (fun _ h => h.elim) |>.below (hbV.trans (huc.below hbV.size (fun i e => by have := D.out; omega)))
        obtain ⟨w3, hrun, hB3, hu3⟩ := run_copy_u8 (L := L) hBc (by simp) hub2 (by rw [HRL.out]; omega)
        have hne : lb ≠ sb := by have := hSc.lt; have h2 := D.out; have h3 := hS.lt; omega
        have hS3 := hSc.upd hu3 (fun e => hne e.symm)
        have hB3' : Hid (bytesIn (w3.setCell ⟨lb, u.n, none⟩ (.int .u8 128)) lb (lastJ (tailD l) 0)) := by
          unfold Hid
          have := hB3.set r.length 128
          rw [List.drop_replicate, hst.out, HRL.out] at this
          exact this
        have h3u : Upd V w3 (fun k => k = sb) := ⟨hu3.os.trans huc.os, hu3.tape.trans huc.tape, hu3.output.trans huc.output, Nat.le_trans huc.size hu3.size, fun i hi hs => (hu3.block i (Nat.lt_of_lt_of_le hi huc.size) (fun e => by omega)).trans (huc.block i hi hs)⟩
        have hc3 : (w3.cell? ⟨lb, u.n, none⟩).isSome = true := by
          rw [(cells_known hB3).1]; simp [HRL.out]; omega
        obtain ⟨x3, hx3⟩ := Option.isSome_iff_exists.1 hc3
        have f3 := (cells_known hB3).2.1
        have HNE := Lib.hid hne
        clear hub hur hSr hBc hub2 hu3 hB3 huc hSc hc3 hne
        have y0 : (0 : Int) ≤ (u.n : Int) := by omega
        have y1 : (u.n : Int) < (L : Int) := by omega
        have hL1 : (L : Int) ≤ 128 := by have := HL2.out; split at this <;> omega
        have hL0 : (64 : Int) ≤ (L : Int) := by have := HL2.out; split at this <;> omega
        go_wp2_with fail
        obtain ⟨w4, hw4⟩ : ∃ w4, w4 = w3.setCell ⟨lb, u.n, none⟩ (.int .u8 128) := ⟨_, rfl⟩
        rw [← hw4] at hB3' ⊢
        have hu4 : Upd w3 w4 (fun k => k = lb) := hw4 ▸ Upd.setCell w3 ⟨lb, u.n, none⟩ _
        have hS4 := hS3.upd hu4 (fun e => HNE.out e.symm)
        have h4u : Upd V w4 (fun k => k = sb) := ⟨hu4.os.trans h3u.os, hu4.tape.trans h3u.tape, hu4.output.trans h3u.output, Nat.le_trans h3u.size hu4.size, fun i hi hs => (hu4.block i (Nat.lt_of_lt_of_le hi h3u.size) (fun e => by omega)).trans (h3u.block i hi hs)⟩
        have hB4 := hB3'.out
        clear hB3' hS3 h3u hx3 f3 hu4 hw4 hrun
        go_loopw [6, 7] (fun x y wx => ∃ j : Nat, j ≤ 8 ∧ x = .int .i64 ((8 * l.length / 256 ^ j : Nat) : Int) ∧ y = .int .i64 ((L - 1 - j : Nat) : Int) ∧ bytesIn wx lb (lastJ (tailD l) j) ∧ Upd V wx (fun k => k = sb) ∧ wordsAt wx sb 255 st.l) (fun x _ _ => (intOf x).toNat)
        case atStart =>
          refine ⟨0, by omega, ?_, ?_, hB4, h4u, hS4⟩
          · refine congrArg (Value.int .i64) ?_
            have := HVN.out
            rw [Nat.pow_zero, Nat.div_one]; omega
          · exact congrArg (Value.int .i64) (by omega)
        case round =>
          obtain ⟨j, hj, rfl, rfl, hBj, huj, hSj⟩ := hrel
          clear hB4 h4u hS4
          obtain ⟨x, hx⟩ : ∃ x, x = 8 * l.length / 256 ^ j := ⟨_, rfl⟩
          rw [← hx]
          obtain ⟨q, hq⟩ : ∃ q, q = L - 1 - j := ⟨_, rfl⟩
          rw [← hq]
          have hxl : x < 8000000000000000 := by have := Nat.div_le_self (8 * l.length) (256 ^ j); omega
          by_cases h0 : 0 < x
          · have d0 : decide ((0 : Int) < (x : Int)) = true := decide_eq_true (by omega)
            have hj8 : j < 8 := by
              rcases Nat.lt_or_ge j 8 with g | g
              · exact g
              · have : j = 8 := by omega
                subst this
                omega
            have hlast : 8 ≤ (tailD l).length := by rw [← HL.out]; omega
            have hnx : Hid (x / 256 = 8 * l.length / 256 ^ (j + 1)) := by unfold Hid; rw [hx, Nat.div_div_eq_div_mul, Nat.pow_succ]
            have hBn := hBj.set q (UInt8.ofNat x)
            rw [hq, HL.out, lastJ_set (tailD l) j hlast hj8 _ (by rw [tailD_bits l hlen j hj8, hx]), ← HL.out, ← hq, byteV_ofNat] at hBn
            obtain ⟨oc, cq⟩ : ∃ oc, wr.cell? ⟨lb, q, none⟩ = some oc := ⟨_, hBj.get (k := q) (by rw [lastJ_length _ _ hlast (by omega), ← HL.out]; omega)⟩
            have fq := (cells_known hBj).2.1
            have y2 : (0 : Int) ≤ (q : Int) := by omega
            have y3 : (q : Int) < (L : Int) := by omega
            have HQ := Lib.hid hq
            have HX := Lib.hid hx
            have HBN := Lib.hid hBn
            have hq1 : 1 ≤ q := by omega
            clear hx hq hBn
            go_wp2_with fail
            go_roundw
            case rel =>
              have e1 : (Value.int .u8 ((x : Int) % 256)) = .int .u8 ((x % 256 : Nat) : Int) := by rw [Int.natCast_emod]; rfl
              rw [e1]
              have huq := Upd.setCell wr ⟨lb, q, none⟩ (.int .u8 ((x % 256 : Nat) : Int))
              refine ⟨j + 1, by omega, ?_, ?_, HBN.out, ⟨huq.os.trans huj.os, huq.tape.trans huj.tape, huq.output.trans huj.output, Nat.le_trans huj.size huq.size, fun i hi hs => (huq.block i (Nat.lt_of_lt_of_le hi huj.size) (fun e => by have e2 : i = lb := e; omega)).trans (huj.block i hi hs)⟩, hSj.upd huq (fun e => HNE.out (show sb = lb from e).symm)⟩
              · rw [← hnx.out, Int.natCast_ediv]; rfl
              · exact congrArg (Value.int .i64) (by have := HQ.out; omega)
            case measure => simp [intOf]; omega
          · have d0 : decide ((0 : Int) < (x : Int)) = false := decide_eq_false (by omega)
            have hD : lastJ (tailD l) j = tailD l := tailD_end l hlen j hj (by omega)
            rw [hD] at hBj
            have HQ := Lib.hid hq
            have HX := Lib.hid hx
            clear hq hx hD hst
            obtain ⟨W5, hW5⟩ : ∃ W, W = wr := ⟨_, rfl⟩
            rw [← hW5] at hBj huj hSj ⊢
            clear hW5
            go_wp2_with fail
            go_loopw [5] (fun y wx => ∃ k2 o c : Nat, 64 * k2 ≤ L ∧ y = .slice (some ⟨lb, o, none⟩) (L - 64 * k2) c ∧ L - 64 * k2 ≤ c ∧ (64 * k2 < L → o = 64 * k2) ∧ Upd W5 wx (fun k => k = sb) ∧ wordsAt wx sb 255 (blocksN ivS (l ++ padS l.length) (k + k2)).l) (fun y _ => match y with | .slice _ n _ => n | _ => 0)
            case atStart =>
              refine ⟨0, 0, L, by omega, rfl, by omega, fun _ => rfl, Upd.refl _ _, ?_⟩
              rw [Nat.add_zero, blocksN_append ivS l _ k hk, ← HSE.out]
              exact hSj
            case round =>
              obtain ⟨k2, o, c, hk2, rfl, hnc, ho, hu2, hS2⟩ := hrel
              clear hSj
              obtain ⟨n2, hn2⟩ : ∃ n, n = L - 64 * k2 := ⟨_, rfl⟩
              rw [← hn2] at hnc ⊢
              by_cases hlt : 64 * k2 < L
              · have hL64 : L = 64 ∨ L = 128 := by have := HL2.out; split at this <;> omega
                have d1 : decide ((0 : Int) < (n2 : Int)) = true := decide_eq_true (by omega)
                obtain rfl := ho hlt
                obtain ⟨st2, hst2⟩ : ∃ st2, st2 = blocksN ivS (l ++ padS l.length) (k + k2) := ⟨_, rfl⟩
                rw [← hst2] at hS2
                obtain ⟨m, hm⟩ : ∃ m, m = ((tailD l).drop (64 * k2)).take 64 := ⟨_, rfl⟩
                have hml : m.length = 64 := by rw [hm, List.length_take, List.length_drop, ← HL.out]; omega
                have hlbr : bytesIn wr lb (tailD l) := hBj.upd hu2 (fun e => HNE.out e)
                have hcm : ∀ j (h : j < m.length), wr.cell? ⟨lb, 64 * k2 + j, none⟩ = some (byteV m[j]) := by
                  intro j hj
                  rw [hlbr.get (k := 64 * k2 + j) (by rw [← HL.out]; omega)]
                  subst hm
                  simp
                have hst2lt : ∀ x ∈ st2.l, x < 4294967296 := hst2 ▸ blocksN_lt ivS ivS_lt _ _
                have rS : row? wr ⟨sb, 0, none⟩ 8 = some st2.w8.arr := wordsAt.row (x := st2.w8) hS2
                have hnxt : Hid (compressS st2 (wordsB m) = blocksN ivS (l ++ padS l.length) (k + (k2 + 1))) := by
                  unfold Hid
                  rw [hm, ← tailD_eq l k2, hst2, ← Nat.add_assoc, HK.out]; rfl
                have hc64 : 64 ≤ c := by omega
                have hn64 : 64 ≤ n2 := by omega
                have hc65 : (64 : Int) ≤ (c : Int) := by omega
                have hn65 : (64 : Int) ≤ (n2 : Int) := by omega
                have hcr := chunk_ref st2 hst2lt lb (64 * k2) c m hml
                have HCM := Lib.hid hcm
                have HN2 := Lib.hid hn2
                clear hst2 hm hcm hst2lt hn2 hL64 ho
                go_wp2_with fail
                refine wp_region_quiet_tail 3 (by kernel_rfl) (by kernel_rfl) ?_
                simp only [List.take_succ_cons, List.take_zero, List.drop_succ_cons, List.drop_zero]
                refine wpQuiet_op (.agg st2.w8.arr) rfl (fun w' hC => ?_) ?_
                · obtain ⟨m, rfl⟩ := hC
                  exact run_load_W8 (.tmp 3) st2.w8 rfl rfl rS
                go_frame
                repeat (go_big_quiet_step (fail))
                refine wpQuiet_nil ?_
                intro nq
                obtain ⟨Z, hZ⟩ : ∃ Z, Z = wr.drewN nq := ⟨_, rfl⟩
                rw [← hZ]
                have hSZ : Z.heap[sb]? = some (.cells st2.w8.arr 255 (0, 0)) := hZ ▸ hS2
                have hzr : Z.heap.size = wr.heap.size := hZ ▸ rfl
                have hbZ : lb < Z.heap.size := hzr ▸ hlbr.lt
                have hcZ : ∀ j (h : j < m.length), Z.cell? ⟨lb, 64 * k2 + j, none⟩ = some (byteV m[j]) := fun j h => hZ ▸ HCM.out j h
                have huZ : Upd W5 Z (fun k => k = sb) := hZ ▸ hu2.trans (c := wr.drewN nq) (T := fun _ => False) ⟨rfl, rfl, rfl, Nat.le_refl _, fun _ _ _ => rfl⟩ (fun _ _ h => h.elim)
                have HCZ := Lib.hid hcZ
                clear hZ hzr hcZ rS hS2 hu2 hlbr
                go_wp2_with (first | (go_at_call 156; refine (hcr Z hbZ HCZ.out).mono ?_; rintro e w1 ⟨rfl, hb1⟩; have hS1 : w1.heap[sb]? = some (.cells st2.w8.arr 255 (0, 0)) := (hb1.block sb (Array.getElem?_eq_some_iff.1 hSZ).1).trans hSZ) | (refine wpList_storeW8 (.tmp 3) (.tmp 56) rfl rfl sb (compressS st2 (wordsB m)).w8 st2.w8 rfl rfl hS1 ?_; intro w2 hr2 hu2))
                have huw : Upd W5 w2 (fun k => k = sb) := huZ.trans ((Upd.of_below hb1 (fun k => k = sb)).trans hu2 (fun _ _ h => h)) (fun _ _ h => h)
                have hn2 := HN2.out
                have e : n2 - 64 = L - 64 * (k2 + 1) := by omega
                refine ⟨⟨k2 + 1, if c = 64 then 64 * k2 else 64 * k2 + 64, c - 64, by omega, ?_, by omega, ?_, huw, ?_⟩, ?_⟩
                · rw [e]; split <;> rfl
                · intro h; rw [if_neg (by omega)]; omega
                · rw [← hnxt.out]; exact hr2
                · show n2 - 64 < n2
                  omega
              · have d1 : decide ((0 : Int) < (n2 : Int)) = false := decide_eq_false (by omega)
                have hk2L : 64 * k2 = L := by omega
                obtain ⟨st3, hst3⟩ : ∃ x, x = blocksN ivS (l ++ padS l.length) (k + k2) := ⟨_, rfl⟩
                rw [← hst3] at hS2
                have hsum : Hid ((shaS l).l = hashB st3) := by
                  unfold Hid
                  rw [hst3]
                  refine shaS_blocks l (k + k2) ?_
                  have h1 := HK.out
                  have h2 := HL.out
                  rw [tailD] at h2
                  simp only [List.length_append, List.length_drop] at h2 ⊢
                  omega
                have hz0 : n2 = 0 := by omega
                clear hst3 hk2L hn2 hnc ho hlt d1
                subst hz0
                go_wp2_with fail
                obtain ⟨X, hX⟩ : ∃ X, X = wr.alloc (.cells Hash.zero.arr 38) := ⟨_, rfl⟩
                obtain ⟨p, hp⟩ : ∃ p, p = wr.heap.size := ⟨_, rfl⟩
                rw [← hX, ← hp]
                have huX : Upd wr X (fun _ => False) := hX ▸ Upd.of_below ((Below.refl wr.heap.size wr).alloc (Nat.le_refl _) _) _
                have hVX : Upd V X (fun k => k = sb) := (huj.trans hu2 (fun _ _ h => h)).trans huX (fun _ _ h => h.elim)
                have hSX := hS2.upd huX (fun h => h)
                have hPX : X.heap[p]? = some (.cells (partH (hashB st3) (hashB_length _) 0).arr 38 (0, 0)) := by rw [partH_zero, hX, hp]; exact heap_alloc_new wr _
                have hVr : V.heap.size ≤ wr.heap.size := Nat.le_trans huj.size hu2.size
                have hps : p ≠ sb := by have := hS2.lt; omega
                have hpV : V.heap.size ≤ p := by omega
                have HPS := Lib.hid hps
                clear hX hp hS2 hBj huj hu2 huX hps hVr
                go_wp2_with fail
                go_loopw [9] (fun y wx => ∃ k : Nat, k ≤ 32 ∧ y = .int .i64 k ∧ wordsAt wx sb 255 st3.l ∧ Upd V wx (fun k => k = sb) ∧ wx.heap[p]? = some (.cells (partH (hashB st3) (hashB_length _) k).arr 38 (0, 0))) (fun y _ => 32 - (intOf y).toNat)
                case atStart => exact ⟨0, by omega, rfl, hSX, hVX, hPX⟩
                case round =>
                  obtain ⟨i, hi, rfl, hSi, hui, hPi⟩ := hrel
                  clear hSX hVX hPX
                  by_cases hlt : i < 32
                  · obtain ⟨g, hg⟩ : ∃ q, q = i / 4 := ⟨_, rfl⟩
                    obtain ⟨f, hf⟩ : ∃ j, j = i % 4 := ⟨_, rfl⟩
                    obtain ⟨sh, hsh⟩ : ∃ sh, sh = 24 - 8 * f := ⟨_, rfl⟩
                    obtain ⟨x0, hx0⟩ : ∃ x, x = st3.l.getD g 0 := ⟨_, rfl⟩
                    have f1 : (i : Int) / 4 = (g : Int) := by omega
                    have f2 : (i : Int) % 4 = (f : Int) := by omega
                    have f3 : 24 - 8 * (f : Int) = (sh : Int) := by omega
                    have f4 : wrap64 (24 - 8 * (f : Int)) = (sh : Int) := by unfold wrap64; omega
                    have q8 : g < 8 := by omega
                    have cq : wr.cell? ⟨sb, g, none⟩ = some (.int .u32 (x0 : Nat)) := hx0 ▸ hSi.get (k := g) (by rw [St.l_length]; exact q8)
                    have ch := (cells_known hPi).1
                    have fh := (cells_known hPi).2.1
                    have hset := partH_set (hashB st3) (hashB_length _) i hlt (byteV (UInt8.ofNat (x0 / 2 ^ sh))) (by rw [hashB_get _ _ hlt, hx0, hg, hsh, hf])
                    have HSET := Lib.hid hset
                    have g0 : (0 : Int) ≤ (g : Int) := by omega
                    have g1 : (g : Int) < 8 := by omega
                    clear hset hx0 hg hsh hf
                    go_wp2_with fail
                    go_roundw
                    case rel =>
                      have hset2 : wr.setCell ⟨p, i, none⟩ (.int .u8 ((x0 : Int) / 2 ^ sh % 256)) = wr.setCell ⟨p, i, none⟩ (byteV (UInt8.ofNat (x0 / 2 ^ sh))) := by
                        rw [byteV_ofNat, Int.natCast_emod, Int.natCast_ediv, Int.natCast_pow]; rfl
                      rw [hset2]
                      have huh := Upd.setCell wr ⟨p, i, none⟩ (byteV (UInt8.ofNat (x0 / 2 ^ sh)))
                      refine ⟨i + 1, by omega, by go_num, hSi.upd huh (fun e => HPS.out (show sb = p from e).symm), hui.trans huh (fun j hj e => by have e2 : j = p := e; omega), ?_⟩
                      rw [heap_set hPi, HSET.out]
                    case measure => simp [intOf]; omega
                  · have hk32 : i = 32 := by omega
                    subst hk32
                    rw [partH_all] at hPi
                    obtain ⟨hz, hze⟩ : ∃ hz : Hash, hz = ⟨hashB st3, hashB_length _⟩ := ⟨_, rfl⟩
                    rw [← hze] at hPi
                    have hrow := row_hash hPi
                    have HZE : Hid (hz = shaS l) := by
                      unfold Hid
                      apply Hash.ext'
                      rw [hze, hsum.out]
                    clear hze
                    have HHQ := Lib.hid hPi
                    have HUQ := Lib.hid hui
                    have hHi : wr.heap[hb]? = some (.cells Hash.zero.arr 38 (0, 0)) := (hui.block hb (Array.getElem?_eq_some_iff.1 hH).1 (fun e => D.out.1 e)).trans hH
                    have HHI := Lib.hid hHi
                    clear hPi hui hSi hHi
                    go_wp2_with (refine wpList_storeHash (.tmp 2) (.tmp 75) rfl rfl hb hz Hash.zero rfl (by first | rfl | (simp [Act.eval, Act.put, hrow])) HHI.out ?_; intro wz hhz huz)
                    refine bodyPost_ret (results_cell_row rfl _ _ hb 38 hz.arr (0, 0) _ rfl hhz Tryz.underlying38 rfl (by rw [size_Hash]; simp)) rfl ⟨by rw [HZE.out], ?_⟩
                    have D2 := D.out
                    have hbe : Below w.heap.size w wr := hbV.trans (HUQ.out.below hbV.size (fun i e => by have e2 : i = sb := e; omega))
                    exact hbe.trans (huz.below hbe.size (fun i e => by have e2 : i = hb := e; omega))
end Go.Proofs.YtlkojkjeklblkaaGreat
namespace Go.Proofs.YtlkojkjeklblkaaGreat
open Go.RowKit
set_option maxRecDepth 100000 in
set_option maxHeartbeats 1000000 in
theorem twice_ref (v : Sl) (l : List UInt8) (w : World) (hv : bytesAt w v l w.heap.size) (hcap : v.n ≤ v.c) (hl : l.length < 1000000000000000) :
    Calls Tryz.prog 63 #[.slice v.a v.n v.c] w fun e w' => e = .returned (.agg (twiceS l).arr) ∧ Below w.heap.size w w' := by
  go_enter Tryz.func63, Tryz.ntmps63
  go_wp2_with fail
  obtain ⟨V, hV⟩ : ∃ V, V = w.alloc (.cells Hash.zero.arr 38) := ⟨_, rfl⟩
  obtain ⟨hb, hhb⟩ : ∃ hb, hb = w.heap.size := ⟨_, rfl⟩
  rw [← hV, ← hhb]
  have hbV : Below w.heap.size w V := hV ▸ (Below.refl w.heap.size w).alloc (Nat.le_refl _) _
  have hVs : V.heap.size = w.heap.size + 1 := by rw [hV]; simp
  have hHV : V.heap[hb]? = some (.cells Hash.zero.arr 38 (0, 0)) := by rw [hV, hhb]; exact heap_alloc_new w _
  refine (sum_ref v l V ((hv.below hbV).mono (by omega)) hcap hl).mono ?_
  rintro e W ⟨rfl, hbW⟩
  have hbw : Below w.heap.size w W := hbV.trans (hbW.mono (by omega))
  have hHW : W.heap[hb]? = some (.cells Hash.zero.arr 38 (0, 0)) := by rw [hbW.block hb (by omega)]; exact hHV
  have hWs := hbW.size
  have hbWl : hb < W.heap.size := by omega
  have hwW : w.heap.size ≤ W.heap.size := by omega
  have hge : w.heap.size ≤ hb := by omega
  clear hV hhb hVs hHV hbV hbW hv hWs
  go_wp2_with fail
  refine (sum_ref ⟨some ⟨W.heap.size, 0, none⟩, 32, 32⟩ (shaS l).l _ (bytesAt_hash (heap_alloc_new W _) 32 32 rfl) (Nat.le_refl _) (by rw [(shaS l).len]; decide)).mono ?_
  rintro e Y ⟨rfl, hbY⟩
  have hb2 : Below W.heap.size W (W.alloc (.cells (shaS l).arr 38)) := (Below.refl W.heap.size W).alloc (Nat.le_refl _) _
  have hbWY : Below W.heap.size W Y := hb2.trans (hbY.mono (by simp))
  have hHY : Y.heap[hb]? = some (.cells Hash.zero.arr 38 (0, 0)) := by rw [hbWY.block hb hbWl]; exact hHW
  have HHY := Lib.hid hHY
  clear hHY hHW hb2 hbY
  go_wp2_with (refine wpList_storeHash (.tmp 2) (.tmp 7) rfl rfl hb (shaS (shaS l).l) Hash.zero rfl rfl HHY.out ?_; intro wz hhz huz)
  refine bodyPost_ret (results_cell_row rfl _ _ hb 38 (shaS (shaS l).l).arr (0, 0) _ rfl hhz Tryz.underlying38 rfl (by rw [size_Hash]; simp)) rfl ⟨rfl, ?_⟩
  have hsY := hbWY.size
  exact hbw.trans ((hbWY.mono hwW).trans (huz.below (by omega) (fun i e => by have e2 : i = hb := e; omega)))
end Go.Proofs.YtlkojkjeklblkaaGreat
