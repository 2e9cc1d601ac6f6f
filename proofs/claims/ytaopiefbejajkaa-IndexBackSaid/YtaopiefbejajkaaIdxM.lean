/- Package index's law: what the document fixes. -/
import Derived.Test.YtaopiefbejajkaaIdxL
import Derived.Test.YtaopiefbejajkaaRfF
set_option linter.unusedSimpArgs false
set_option linter.unusedVariables false
namespace Go.Proofs.Ytaopiefbejajkaa
open Go.RowKit
/-- A transaction of one input, and outputs of nine. -/
def t11 : Tx := { ins := [⟨⟨Hash.zero, 0⟩, 0, ⟨1, 0, ByteArray.empty⟩⟩], outs := [⟨9, ⟨1, 0, 0, 0, 0, 0, Hash.zero⟩⟩], lock := 0 }
theorem c_t11 : checkS t11 = 0 := by decide +kernel
theorem id_t11 : idS t11 ≠ Hash.zero := by decide +kernel
theorem slIn_one {α : Type} {w : World} {Z : Nat → Prop} {b sz : Nat} {enc : α → Array Value} {x : α} {t : TypeId} (h : w.heap[b]? = some (.cells (enc x) t (0, 0))) (hs : (enc x).size = sz) (hZ : Z b) : slIn w Z ⟨some ⟨b, 0, none⟩, 1, 1⟩ sz enc [x] := by
  refine ⟨rfl, Nat.le_refl _, by show 1 ≤ maxLen; unfold maxLen; omega, fun _ => ⟨b, 0, rfl, hZ, (cells_known h).2.2, fun k hk => ?_⟩⟩
  have : k = 0 := by simpa using hk
  subst this
  unfold row?
  simp only [h]
  rw [if_pos (And.intro trivial (by simp [hs]))]
  simp [← hs]
theorem txs_one {t : Tx} (hc : checkS t = 0) (hn : (t.ins.map (·.prev)).Nodup) (hp : ∀ i ∈ t.ins, i.prev.tx ≠ idS t) : txsS [t] = 0 := by
  unfold txsS
  rw [if_neg (by simp), if_neg (by simp [firstErr, hc])]
  rw [if_pos]
  refine apartS_true (by simp) (by simpa [pointsOf] using hn) (fun k hk j hj => ?_)
  have hk0 : k = 0 := by simpa using hk
  subst hk0
  unfold inOkAt
  rw [(posS_none (ids := [t].map idS)).2 (by simpa using hp _ (List.getElem_mem hj))]
theorem may_one (L : List (List Tx)) (t : Tx) : mayBlock L [t] = mayS (mapsOf L) t := by simp [mayBlock, mayAll]
theorem con_t11 : conE [] [t11] = 0 := by
  refine conE_zero.2 ⟨txs_one c_t11 (by simp [t11]) (fun i hi => ?_), by rw [may_one]; simp [mayS, mayIn, mapsOf_nil, Maps.zero]⟩
  have e : i = ⟨⟨Hash.zero, 0⟩, 0, ⟨1, 0, ByteArray.empty⟩⟩ := by simpa [t11] using hi
  subst e
  exact fun h => id_t11 h.symm
theorem maps_one (t : Tx) : mapsOf [[t]] = addTx 1 Maps.zero t := by rw [show [[t]] = [] ++ [[t]] from rfl, mapsOf_snoc]; rfl
theorem con_t11' : conE [[t11]] [t11] = 10 := by
  have h := (conE_zero.1 con_t11).1
  have h2 : mayBlock [[t11]] [t11] = false := by rw [may_one, maps_one]; simp [mayS, addTx, updF_same]
  unfold conE
  rw [if_neg (by simpa using h), if_neg (by simp [h2])]
theorem conL_t11 : conL [] [t11] = [[t11]] := by unfold conL; rw [if_pos con_t11]; rfl
theorem conL_t11' : conL [[t11]] [t11] = [[t11]] := by unfold conL; rw [con_t11']; rfl
def o11 : Out := ⟨9, ⟨1, 0, 0, 0, 0, 0, Hash.zero⟩⟩
theorem out_t11 : outM (mapsOf [[t11]]) ⟨idS t11, 0⟩ = (o11, 1, true) := by
  rw [maps_one]; unfold outM addTx; simp only [updF_same]; rfl
theorem good_t11 : goodL [[t11]] := by have := goodL_nil.con [t11]; rwa [conL_t11] at this
/-- A block of one transaction comes. -/
theorem con_one (Z : Nat → Prop) {p : Nat} {r : IdxR} {L : List (List Tx)} {w : World} {v : TxV} {t : Tx} {b : Nat} (h : IdxAt w Z p r (mapsOf L) (L.map (fun b => b.map idS))) (hb : w.heap[b]? = some (.cells v.arr 51 (0, 0))) (hf : ¬ r.foot p b) (hv : txIn w (fun k => ¬ r.foot p k) v t) (hL : L.length ≤ 1000000) :
    Calls Try.prog 31 #[.pointer (some ⟨p, 0, none⟩), .slice (some ⟨b, 0, none⟩) 1 1] w fun e w' => ∃ r', e = .returned (.int .i64 (conE L [t])) ∧ IdxAt w' (fun k => Z k ∨ w.heap.size ≤ k) p r' (mapsOf (conL L [t])) ((conL L [t]).map (fun b => b.map idS)) ∧ Upd w w' (r.foot p) :=
  con_ix Z (fun k => ¬ r.foot p k) p r L ⟨some ⟨b, 0, none⟩, 1, 1⟩ [v] [t] w h ⟨slIn_one hb (by simp) hf, rfl, fun k h1 h2 => by
    have : k = 0 := by simpa using h1
    subst this
    exact hv⟩ (fun k hk _ => hk) hL (by simp)
set_option maxRecDepth 100000 in
set_option maxHeartbeats 1000000 in
theorem awake11 (w : World) : Calls Try.prog 29 #[] w fun e w' => e = .returned (.bool true) ∧ Below w.heap.size w w' := by
  have hnew := new_ix w
  go_enter Try.func29, Try.ntmps29
  go_wp2_with fail
  refine hnew.mono ?_
  rintro e w1 ⟨p, r, rfl, hI, hb1⟩
  clear hnew
  have HI := Lib.hid hI
  clear hI
  go_upto_region 5 with fail
  obtain ⟨v, hv⟩ : ∃ v : TxV, v = ⟨⟨some ⟨w1.heap.size, 0, none⟩, 1, 1⟩, ⟨some ⟨w1.heap.size + 1, 0, none⟩, 1, 1⟩, TxV.zero.lock⟩ := ⟨_, rfl⟩
  obtain ⟨W, hW⟩ : ∃ W, W = ((w1.alloc (.cells (In.mk In.zero.prev In.zero.seq ⟨1, Witness.zero.key, Witness.zero.pre⟩).arr 53)).alloc (.cells (Out.mk 9 ⟨1, Script.zero.key, Script.zero.other, Script.zero.rev, Script.zero.delay, Script.zero.expiry, Script.zero.hash⟩).arr 55)).alloc (.cells v.arr 51) := ⟨_, rfl⟩
  rw [← hv, ← hW]
  have hbW : Below w1.heap.size w1 W := hW ▸ ((((Below.refl w1.heap.size w1).alloc (Nat.le_refl _) _).alloc (by simp) _).alloc (by simp; omega) _)
  have hz : W.heap.size = w1.heap.size + 3 := by rw [hW]; simp
  have k0 : W.heap[w1.heap.size]? = some (.cells (In.mk In.zero.prev In.zero.seq ⟨1, Witness.zero.key, Witness.zero.pre⟩).arr 53 (0, 0)) := by
    rw [hW]; exact ((heap_alloc_old _ _ (by simp; omega)).trans (heap_alloc_old _ _ (by simp))).trans (heap_alloc_new w1 _)
  have k1 : W.heap[w1.heap.size + 1]? = some (.cells (Out.mk 9 ⟨1, Script.zero.key, Script.zero.other, Script.zero.rev, Script.zero.delay, Script.zero.expiry, Script.zero.hash⟩).arr 55 (0, 0)) := by
    rw [hW]; refine (heap_alloc_old _ _ (by simp)).trans ?_
    rw [show w1.heap.size + 1 = (w1.alloc (.cells (In.mk In.zero.prev In.zero.seq ⟨1, Witness.zero.key, Witness.zero.pre⟩).arr 53)).heap.size by simp]; exact heap_alloc_new _ _
  have k2 : W.heap[w1.heap.size + 1 + 1]? = some (.cells v.arr 51 (0, 0)) := by
    rw [hW, show w1.heap.size + 1 + 1 = ((w1.alloc (.cells (In.mk In.zero.prev In.zero.seq ⟨1, Witness.zero.key, Witness.zero.pre⟩).arr 53)).alloc (.cells (Out.mk 9 ⟨1, Script.zero.key, Script.zero.other, Script.zero.rev, Script.zero.delay, Script.zero.expiry, Script.zero.hash⟩).arr 55)).heap.size by simp]; exact heap_alloc_new _ _
  have htW : txIn W (fun k => w1.heap.size ≤ k ∧ k < W.heap.size) v t11 := by
    rw [hv]; exact ⟨slIn_one k0 (by simp) ⟨Nat.le_refl _, by omega⟩, slIn_one k1 (by simp) ⟨by omega, by omega⟩, rfl⟩
  have HV := Lib.hid hv
  clear hv hW
  have hb1s := hb1.size
  have con1 : ∀ X b, Below W.heap.size W X → X.heap[b]? = some (.cells v.arr 51 (0, 0)) → W.heap.size ≤ b → Calls Try.prog 31 #[.pointer (some ⟨p, 0, none⟩), .slice (some ⟨b, 0, none⟩) 1 1] X fun e w' => e = .returned (.int .i64 0) ∧ ∃ r', IdxAt w' (fun k => (w.heap.size ≤ k ∧ k < w1.heap.size) ∨ X.heap.size ≤ k) p r' (mapsOf [[t11]]) [[idS t11]] ∧ Upd X w' (fun k => w.heap.size ≤ k ∧ k < w1.heap.size) := by
    intro X b hX hb hge
    have hIX : IdxAt X (fun k => w.heap.size ≤ k ∧ k < w1.heap.size) p r (mapsOf []) [] := (HI.out.zoned (fun k hk h => ⟨h, hk⟩)).keep (hbW.trans (hX.mono hbW.size))
    have htX : txIn X (fun k => ¬ r.foot p k) v t11 := (htW.below hX (fun k hk _ => hk.2)).zone (fun k _ hk hf => by have := HI.out.lt hf; omega)
    refine (con_one (fun k => w.heap.size ≤ k ∧ k < w1.heap.size) (L := []) hIX hb (fun hf => by have := HI.out.lt hf; omega) htX (by simp)).mono ?_
    rintro e w' ⟨r', rfl, hI', hu⟩
    rw [conL_t11] at hI'
    exact ⟨by rw [con_t11], r', hI', hu.mono (fun k _ hk => hIX.zone k hk)⟩
  have con2 : ∀ X b r' Z, W.heap.size ≤ X.heap.size → IdxAt X Z p r' (mapsOf [[t11]]) [[idS t11]] → (∀ k, Z k → (w.heap.size ≤ k ∧ k < w1.heap.size) ∨ W.heap.size ≤ k) → X.heap[b]? = some (.cells v.arr 51 (0, 0)) → ¬ r'.foot p b → txIn X (fun k => w1.heap.size ≤ k ∧ k < W.heap.size) v t11 → Calls Try.prog 31 #[.pointer (some ⟨p, 0, none⟩), .slice (some ⟨b, 0, none⟩) 1 1] X fun e w' => e = .returned (.int .i64 10) ∧ ∃ r'', IdxAt w' (fun k => (w.heap.size ≤ k ∧ k < w1.heap.size) ∨ W.heap.size ≤ k) p r'' (mapsOf [[t11]]) [[idS t11]] ∧ Upd X w' (fun k => (w.heap.size ≤ k ∧ k < w1.heap.size) ∨ W.heap.size ≤ k) := by
    intro X b r' Z hXs hIX hZ hb hf htX
    have hnf : ∀ k, w1.heap.size ≤ k ∧ k < W.heap.size → ¬ r'.foot p k := fun k hk hf => by rcases hZ k (hIX.zone k hf) with h | h <;> omega
    refine (con_one Z (L := [[t11]]) hIX hb hf (htX.zone (fun k _ hk => hnf k hk)) (by simp)).mono ?_
    rintro e w' ⟨r'', rfl, hI', hu⟩
    rw [conL_t11'] at hI'
    refine ⟨by rw [con_t11'], r'', hI'.zoned (fun k _ hk => ?_), hu.mono (fun k _ hk => hZ k (hIX.zone k hk))⟩
    rcases hk with hk | hk
    · exact hZ k hk
    · exact .inr (by omega)
  have G : ∀ X, Below W.heap.size W X → (row? X ⟨w1.heap.size + 1 + 1, 0, none⟩ 3 = some v.arr) := fun X hX => by
    rw [row?_below hX (by show w1.heap.size + 1 + 1 < _; omega)]; exact row_of_block k2 (by simp)
  -- what stands behind a call
  have P : ∀ X Y, Below W.heap.size W X → Upd X Y (fun k => (w.heap.size ≤ k ∧ k < w1.heap.size) ∨ W.heap.size ≤ k) → row? Y ⟨w1.heap.size + 1 + 1, 0, none⟩ 3 = some v.arr ∧ txIn Y (fun k => w1.heap.size ≤ k ∧ k < W.heap.size) v t11 ∧ Below w.heap.size w Y := by
    intro X Y hX hu
    have hXs := hX.size
    refine ⟨?_, (htW.below hX (fun k hk _ => hk.2)).upd hu (fun k hk _ h => by omega), ?_⟩
    · rw [hu.row (by omega) (by omega)]; exact G X hX
    · exact (hb1.trans (hbW.mono hb1s)).trans ((hX.mono (by omega)).trans (hu.below (by omega) (fun k hk => by omega)))
  obtain ⟨o, ho⟩ : ∃ o : Obj, o = .cells v.arr 51 (0, 0) := ⟨_, rfl⟩
  have b1 : Below W.heap.size W (W.alloc o).drew := ((Below.refl _ _).alloc (Nat.le_refl _) _).drew
  have b2 : Below W.heap.size W ((W.alloc o).alloc o).drew := (((Below.refl W.heap.size W).alloc (Nat.le_refl _) _).alloc (by simp) _).drew
  have o1 : (W.alloc o).drew.heap[W.heap.size]? = some o := heap_alloc_new W _
  have o2 : ((W.alloc o).alloc o).drew.heap[W.heap.size]? = some o := (heap_alloc_old (W.alloc o) _ (by simp)).trans o1
  have o3 : ((W.alloc o).alloc o).drew.heap[W.heap.size + 1]? = some o := by
    rw [show W.heap.size + 1 = (W.alloc o).heap.size by simp]; exact heap_alloc_new (W.alloc o) _
  have kA := con1 (W.alloc o).drew W.heap.size b1 (ho ▸ o1) (Nat.le_refl _)
  have kB := con1 ((W.alloc o).alloc o).drew W.heap.size b2 (ho ▸ o2) (Nat.le_refl _)
  have kC := con1 ((W.alloc o).alloc o).drew (W.heap.size + 1) b2 (ho ▸ o3) (by omega)
  have s2 : ((W.alloc o).alloc o).drew.heap.size = W.heap.size + 2 := by simp
  -- behind the first call: the second one, its list laid behind the call, or ahead of it
  have late : ∀ X wA r', Below W.heap.size W X → IdxAt wA (fun k => (w.heap.size ≤ k ∧ k < w1.heap.size) ∨ X.heap.size ≤ k) p r' (mapsOf [[t11]]) [[idS t11]] → Upd X wA (fun k => w.heap.size ≤ k ∧ k < w1.heap.size) →
      Calls Try.prog 31 #[.pointer (some ⟨p, 0, none⟩), .slice (some ⟨wA.heap.size, 0, none⟩) 1 1] (wA.alloc o) fun e w' => e = .returned (.int .i64 10) ∧ ∃ r'', IdxAt w' (fun k => (w.heap.size ≤ k ∧ k < w1.heap.size) ∨ W.heap.size ≤ k) p r'' (mapsOf [[t11]]) [[idS t11]] ∧ Upd X w' (fun k => (w.heap.size ≤ k ∧ k < w1.heap.size) ∨ W.heap.size ≤ k) := by
    intro X wA r' hX hI' hu
    have hXs := hX.size
    have hus := hu.size
    have hu1 : Upd X wA (fun k => (w.heap.size ≤ k ∧ k < w1.heap.size) ∨ W.heap.size ≤ k) := hu.mono (fun k _ hk => .inl hk)
    have hb : Below wA.heap.size wA (wA.alloc o) := (Below.refl _ _).alloc (Nat.le_refl _) _
    refine (con2 (wA.alloc o) wA.heap.size r' _ (by simp; omega) (hI'.keep hb) (fun k hk => hk.imp id (fun h => by omega)) (ho ▸ heap_alloc_new wA _) (fun hf => Nat.lt_irrefl _ (hI'.lt hf)) ((P X wA hX hu1).2.1.keep hb)).mono ?_
    rintro e w' ⟨rfl, r'', h1, h2⟩
    exact ⟨rfl, r'', h1, (hu1.trans (Upd.of_below hb _) (fun _ _ h => h)).trans h2 (fun _ _ h => h)⟩
  have early : ∀ X wA r' b, Below W.heap.size W X → W.heap.size ≤ b → b < X.heap.size → X.heap[b]? = some o → IdxAt wA (fun k => (w.heap.size ≤ k ∧ k < w1.heap.size) ∨ X.heap.size ≤ k) p r' (mapsOf [[t11]]) [[idS t11]] → Upd X wA (fun k => w.heap.size ≤ k ∧ k < w1.heap.size) →
      Calls Try.prog 31 #[.pointer (some ⟨p, 0, none⟩), .slice (some ⟨b, 0, none⟩) 1 1] wA fun e w' => e = .returned (.int .i64 10) ∧ ∃ r'', IdxAt w' (fun k => (w.heap.size ≤ k ∧ k < w1.heap.size) ∨ W.heap.size ≤ k) p r'' (mapsOf [[t11]]) [[idS t11]] ∧ Upd X w' (fun k => (w.heap.size ≤ k ∧ k < w1.heap.size) ∨ W.heap.size ≤ k) := by
    intro X wA r' b hX hge hlt hbX hI' hu
    have hXs := hX.size
    have hus := hu.size
    have hu1 : Upd X wA (fun k => (w.heap.size ≤ k ∧ k < w1.heap.size) ∨ W.heap.size ≤ k) := hu.mono (fun k _ hk => .inl hk)
    refine (con2 wA b r' _ (by omega) hI' (fun k hk => hk.imp id (fun h => by omega)) (ho ▸ ((hu.block b hlt (by omega)).trans hbX)) (fun hf => by rcases hI'.zone b hf with h | h <;> omega) (P X wA hX hu1).2.1).mono ?_
    rintro e w' ⟨rfl, r'', h1, h2⟩
    exact ⟨rfl, r'', h1, hu1.trans h2 (fun _ _ h => h)⟩
  rw [ho] at late early o2 o3 s2 b1 b2
  have PL := Lib.hid P
  have LT := Lib.hid late
  have ER := Lib.hid early
  have B1 := Lib.hid b1
  have B2 := Lib.hid b2
  have O2 := Lib.hid o2
  have O3 := Lib.hid o3
  have S2 := Lib.hid s2
  have hS0 : row? W.drew ⟨w1.heap.size + 1 + 1, 0, none⟩ 3 = some v.arr := G W.drew (Below.refl _ _).drew
  have hS1 := G _ b1
  have hS2 := G _ b2
  have HK2 := Lib.hid k2
  have HZ := Lib.hid hz
  have BX := Lib.hid (show w1.heap.size + 1 + 1 < W.heap.size by omega)
  have HTW := Lib.hid htW
  have HBW := Lib.hid hbW
  rw [ho] at kA kB kC
  clear con1 con2 P late early G b1 b2 o1 o2 o3 s2 k0 k1 k2 htW hbW ho hz
  go_cut [3, 4] (fun a b wx => a = .int .i64 0 ∧ b = .int .i64 10 ∧ Hid (∃ rz, IdxAt wx (fun k => (w.heap.size ≤ k ∧ k < w1.heap.size) ∨ W.heap.size ≤ k) p rz (mapsOf [[t11]]) [[idS t11]] ∧ row? wx ⟨w1.heap.size + 1 + 1, 0, none⟩ 3 = some v.arr ∧ txIn wx (fun k => w1.heap.size ≤ k ∧ k < W.heap.size) v t11 ∧ Below w.heap.size w wx))
  case first =>
    go_region_held3 (fun X : World => row? X ⟨w1.heap.size + 1 + 1, 0, none⟩ 3 = some v.arr) (first | exact hS0 | exact hS1 | exact hS2 | exact hS3 | exact hS4 | exact hS5) ((go_at_call 31; first | (with_reducible refine kA.mono ?_; rintro e wA ⟨rfl, rA, hIA, huA⟩; have hS3 : row? wA ⟨w1.heap.size + 1 + 1, 0, none⟩ 3 = some v.arr := (PL.out (W.alloc (.cells v.arr 51 (0, 0))).drew wA B1.out (huA.mono (fun k _ hk => .inl hk))).1; have hS4 : row? (wA.alloc (.cells v.arr 51 (0, 0))) ⟨w1.heap.size + 1 + 1, 0, none⟩ 3 = some v.arr := (row?_below (a := ⟨w1.heap.size + 1 + 1, 0, none⟩) ((Below.refl wA.heap.size wA).alloc (Nat.le_refl _) _) (Nat.lt_of_lt_of_le (Nat.lt_of_lt_of_le BX.out B1.out.size) huA.size) 3).trans hS3; have qA := LT.out (W.alloc (.cells v.arr 51 (0, 0))).drew wA rA B1.out hIA huA) | (with_reducible refine kB.mono ?_; rintro e wB ⟨rfl, rB, hIB, huB⟩; have hS3 : row? wB ⟨w1.heap.size + 1 + 1, 0, none⟩ 3 = some v.arr := (PL.out ((W.alloc (.cells v.arr 51 (0, 0))).alloc (.cells v.arr 51 (0, 0))).drew wB B2.out (huB.mono (fun k _ hk => .inl hk))).1; have qB := ER.out ((W.alloc (.cells v.arr 51 (0, 0))).alloc (.cells v.arr 51 (0, 0))).drew wB rB (W.heap.size + 1) B2.out (by omega) (by rw [S2.out]; omega) O3.out hIB huB) | (with_reducible refine kC.mono ?_; rintro e wC ⟨rfl, rC, hIC, huC⟩; have hS3 : row? wC ⟨w1.heap.size + 1 + 1, 0, none⟩ 3 = some v.arr := (PL.out ((W.alloc (.cells v.arr 51 (0, 0))).alloc (.cells v.arr 51 (0, 0))).drew wC B2.out (huC.mono (fun k _ hk => .inl hk))).1; have qC := ER.out ((W.alloc (.cells v.arr 51 (0, 0))).alloc (.cells v.arr 51 (0, 0))).drew wC rC W.heap.size B2.out (by omega) (by rw [S2.out]; omega) O2.out hIC huC) | (with_reducible refine qA.mono ?_; rintro e wz ⟨rfl, rz, hIz, huz⟩; have hpz := PL.out (W.alloc (.cells v.arr 51 (0, 0))).drew wz B1.out huz; have hS5 : row? wz ⟨w1.heap.size + 1 + 1, 0, none⟩ 3 = some v.arr := hpz.1) | (with_reducible refine qB.mono ?_; rintro e wz ⟨rfl, rz, hIz, huz⟩; have hpz := PL.out ((W.alloc (.cells v.arr 51 (0, 0))).alloc (.cells v.arr 51 (0, 0))).drew wz B2.out huz; have hS5 : row? wz ⟨w1.heap.size + 1 + 1, 0, none⟩ 3 = some v.arr := hpz.1) | (with_reducible refine qC.mono ?_; rintro e wz ⟨rfl, rz, hIz, huz⟩; have hpz := PL.out ((W.alloc (.cells v.arr 51 (0, 0))).alloc (.cells v.arr 51 (0, 0))).drew wz B2.out huz; have hS5 : row? wz ⟨w1.heap.size + 1 + 1, 0, none⟩ 3 = some v.arr := hpz.1)))
    all_goals
      go_wp2_with fail
      go_meet
      exact ⟨rfl, rfl, ⟨rz, hIz, hpz⟩⟩
  case rest =>
    obtain ⟨rfl, rfl, hx⟩ := hcut
    obtain ⟨rz, hIz, hrow, htx, hbz⟩ := hx.out
    have hid := id_ref v t11 wc htx.isTx
    obtain ⟨H, hH⟩ : ∃ H, H = idS t11 := ⟨_, rfl⟩
    rw [← hH] at hid
    have HX := Lib.hid (And.intro hIz hbz)
    have HH := Lib.hid hH
    clear hx hIz htx hbz hH
    go_wp2_with fail
    refine hid.mono ?_
    rintro e w3 ⟨rfl, hb3⟩
    have hI3 := HX.out.1.keep hb3
    have hout := out_ix _ p rz _ _ ⟨H, Outpoint.zero.n⟩ (by show i64 0; unfold i64; decide) w3 hI3
    rw [show (⟨H, Outpoint.zero.n⟩ : Outpoint) = ⟨idS t11, 0⟩ by rw [← HH.out]; rfl, out_t11, ← HH.out] at hout
    have HI3 := Lib.hid hI3
    clear hI3
    go_wp2_with fail
    refine hout.mono ?_
    rintro e w4 ⟨rfl, hb4⟩
    clear hout
    obtain ⟨W5, hW5⟩ : ∃ W5, W5 = w4.alloc (.cells o11.arr 55) := ⟨_, rfl⟩
    have hb5 : Below w4.heap.size w4 W5 := hW5 ▸ (Below.refl _ _).alloc (Nat.le_refl _) _
    have g5 : W5.heap[w4.heap.size]? = some (.cells o11.arr 55 (0, 0)) := by rw [hW5]; exact heap_alloc_new w4 _
    have hI4 := HI3.out.keep hb4
    have hI5 : IdxAt W5 (fun k => w.heap.size ≤ k ∧ k < w4.heap.size) p rz (mapsOf [[t11]]) ([[t11]].map (fun b => b.map idS)) := (hI4.zoned (fun k hk h => ⟨by have := hb1.size; have := BX.out; rcases h with h | h <;> omega, hk⟩)).keep hb5
    have hd1 := dis_ix _ p rz [[t11]] W5 good_t11 hI5 (by simp) (by simp)
    have hbx : Below w.heap.size w W5 := HX.out.2.trans ((hb3.trans ((hb4.trans (hb5.mono hb4.size)).mono hb3.size)).mono HX.out.2.size)
    have HX5 := Lib.hid (And.intro hI5 hbx)
    have hs4 : w4.heap.size < W5.heap.size := (cells_known g5).2.2
    have G5 := Lib.hid g5
    clear hI4 hI5 hbx g5
    go_upto_region 7 with fail
    rw [← hW5]
    clear hW5
    go_wp2_with fail
    refine hd1.mono ?_
    rintro e w6 ⟨r6, rfl, hI6, hu6⟩
    have hd2 := dis_ix _ p r6 [] w6 goodL_nil hI6 (by simp) (by simp)
    clear hd1
    simp only [if_true, reduceCtorEq, if_false] at hd2
    go_wp2_with fail
    refine hd2.mono ?_
    rintro e w7 ⟨r7, rfl, hI7, hu7⟩
    clear hd2
    have h7 : Upd W5 w7 (fun k => w.heap.size ≤ k ∧ k < w4.heap.size) := (hu6.mono (fun k _ hk => HX5.out.1.zone k hk)).trans (hu7.mono (fun k _ hk => hI6.zone k hk)) (fun _ _ h => h)
    have g7 : w7.heap[w4.heap.size]? = some (.cells o11.arr 55 (0, 0)) := (h7.block _ hs4 (by omega)).trans G5.out
    have c7 : w7.cell? ⟨w4.heap.size, 0, none⟩ = some (.int .i64 9) := by rw [(cells_known g7).1]; exact Out.arr_0 o11
    have hbz : Below w.heap.size w w7 := HX5.out.2.trans (h7.below HX5.out.2.size (fun k hk => hk.1))
    have n1 := con_none ⟨none, 0, 0⟩ w7
    have n2 := dis_none w7
    have n3 := unspent_nil ⟨Hash.zero, 0⟩ w7
    clear hu6 hu7 hI6 hI7 h7 g7
    go_wp2_with (first | (go_at_call 31; refine n1.mono ?_; rintro e w8 ⟨rfl, rfl⟩) | (go_at_call 33; refine n2.mono ?_; rintro e w8 ⟨rfl, rfl⟩) | (go_at_call 37; refine n3.mono ?_; rintro e w8 ⟨rfl, hb8⟩; have n4 := height_nil w8) | (go_at_call 32; refine n4.mono ?_; rintro e w9 ⟨rfl, rfl⟩))
    go_ret
    exact ⟨rfl, hbz.trans (hb8.mono hbz.size)⟩
end Go.Proofs.Ytaopiefbejajkaa
