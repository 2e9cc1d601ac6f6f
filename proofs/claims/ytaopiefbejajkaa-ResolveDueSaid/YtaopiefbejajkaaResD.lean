/- The law ResolveDue, at every input. -/
import Derived.Test.YtaopiefbejajkaaResC
import Derived.Deep.DeepCutAuto
import Derived.Deep.CutBlock
set_option linter.unusedSimpArgs false
set_option linter.unusedVariables false
namespace Go.Proofs.Ytaopiefbejajkaa
open Go.RowKit
theorem wf_bounds {a : Int} (h : (Lit.int .i64 a).wf = true) : -9223372036854775808 ≤ a ∧ a ≤ 9223372036854775807 := by
  simp [Lit.wf, IntKind.min, IntKind.max, IntKind.bits, IntKind.signed] at h
  exact h
theorem image_p : shaS [112] ≠ Hash.zero := by
  intro h
  have : (shaS [112]).l.head? = some 0 := by rw [h]; rfl
  revert this
  decide +kernel
def bookP : Hash → Option ByteArray := fun z => if z = shaS [112] then some { data := #[112] } else none
def keysD : Keys := { wallet := 1, own := 2, rev := 3 }
/-- An item that lies ready, how it may be spent, and by when. -/
structure DueOk (w wx : World) (ib p mb : Nat) (conf since delta value E : Int) (i : Item) (c : Claim) : Prop where
  item : wx.heap[ib]? = some (.cells i.arr 36 (0, 0))
  book : bookAt wx p mb 1 bookP
  keys : wx.heap[w.heap.size]? = some (.cells keysD.arr 24 (0, 0))
  below : Below w.heap.size w wx
  state : i.state = 2
  value : i.value = value
  conf : i.conf = conf
  delay : 0 ≤ i.script.delay ∧ i.script.delay ≤ 65535
  claim : ∀ i' : Item, i'.script = i.script → i'.role = i.role → ∀ W, bookAt W p mb 1 bookP → Calls Try.prog 62 #[.agg i'.arr, .pointer (some ⟨p, 0, none⟩), .agg keysD.arr] W fun e w' => e = .returned (.tuple #[.agg c.arr, .int .i64 0]) ∧ Below W.heap.size W w'
  due : dueS i c since delta = max E since
theorem due_start {w X : World} {p mb : Nat} {conf since delta value E : Int} {i : Item} {c : Claim} (hb : bookAt X p mb 1 bookP) (hk : X.heap[w.heap.size]? = some (.cells keysD.arr 24 (0, 0))) (hbX : Below w.heap.size w X)
    (h1 : i.state = 2) (h2 : i.value = value) (h3 : i.conf = conf) (h4 : 0 ≤ i.script.delay ∧ i.script.delay ≤ 65535)
    (h5 : ∀ i' : Item, i'.script = i.script → i'.role = i.role → ∀ W, bookAt W p mb 1 bookP → Calls Try.prog 62 #[.agg i'.arr, .pointer (some ⟨p, 0, none⟩), .agg keysD.arr] W fun e w' => e = .returned (.tuple #[.agg c.arr, .int .i64 0]) ∧ Below W.heap.size W w')
    (h6 : dueS i c since delta = max E since) : DueOk w (X.alloc (.cells i.arr 36)) X.heap.size p mb conf since delta value E i c := by
  have hba : Below X.heap.size X (X.alloc (.cells i.arr 36)) := (Below.refl _ _).alloc (Nat.le_refl _) _
  exact ⟨heap_alloc_new X _, hb.below hba hb.lt.1 hb.lt.2, (hba.block _ (Array.getElem?_eq_some_iff.1 hk).1).trans hk, hbX.trans (hba.mono hbX.size), h1, h2, h3, h4, h5, h6⟩
theorem bookP_zero : bookP Hash.zero = none := by unfold bookP; rw [if_neg image_p.symm]
theorem bookP_p : bookP (shaS [112]) = some { data := #[112] } := by unfold bookP; rw [if_pos rfl]
theorem claim0 (n : Int) (i' : Item) (p mb : Nat) (h : i'.script = { Script.zero with kind := 3, key := 2 }) (hr : i'.role = 1) (W : World) (hb : bookAt W p mb 1 bookP) :
    Calls Try.prog 62 #[.agg i'.arr, .pointer (some ⟨p, 0, none⟩), .agg keysD.arr] W fun e w' => e = .returned (.tuple #[.agg ({ sigC 2 with seq := 1, wait := 1 } : Claim).arr, .int .i64 0]) ∧ Below W.heap.size W w' := by
  refine claim_mine i' keysD p mb 1 bookP _ 0 (by rw [hr]; decide) (fun Y => ?_) W hb
  rw [h, show ({ Script.zero with kind := 3, key := 2 } : Script).hash = Hash.zero from rfl, bookP_zero]
  exact mine_remote _ keysD ByteArray.empty (by decide) rfl rfl Y
theorem claim1 (n : Int) (h0 : 0 ≤ n) (h6 : n ≤ 60000) (i' : Item) (p mb : Nat) (h : i'.script = { Script.zero with kind := 2, key := 4, rev := 3, delay := n }) (hr : i'.role = 2) (W : World) :
    Calls Try.prog 62 #[.agg i'.arr, .pointer (some ⟨p, 0, none⟩), .agg keysD.arr] W fun e w' => e = .returned (.tuple #[.agg (revC 3).arr, .int .i64 0]) ∧ Below W.heap.size W w' := by
  refine claim_just i' keysD _ hr ?_ W
  rw [h]
  simp [justiceS, validS, liesB, keysD, Script.zero]
  omega
theorem claim2 (n : Int) (h0 : 0 ≤ n) (h6 : n ≤ 60000) (i' : Item) (p mb : Nat) (h : i'.script = { Script.zero with kind := 5, key := 4, other := 2, rev := 3, expiry := n }) (hr : i'.role = 2) (W : World) :
    Calls Try.prog 62 #[.agg i'.arr, .pointer (some ⟨p, 0, none⟩), .agg keysD.arr] W fun e w' => e = .returned (.tuple #[.agg (revC 3).arr, .int .i64 0]) ∧ Below W.heap.size W w' := by
  refine claim_just i' keysD _ hr ?_ W
  rw [h]
  simp [justiceS, validS, liesB, keysD, Script.zero]
  omega
theorem claim3 (n : Int) (h0 : 0 ≤ n) (h6 : n ≤ 60000) (i' : Item) (p mb : Nat) (h : i'.script = { Script.zero with kind := 5, key := 4, other := 2, rev := 9, expiry := n, hash := shaS [112] }) (hr : i'.role = 1) (W : World) (hb : bookAt W p mb 1 bookP) :
    Calls Try.prog 62 #[.agg i'.arr, .pointer (some ⟨p, 0, none⟩), .agg keysD.arr] W fun e w' => e = .returned (.tuple #[.agg ({ Claim.zero with wit := { kind := 2, key := 2, pre := { data := #[112] } } } : Claim).arr, .int .i64 0]) ∧ Below W.heap.size W w' := by
  refine claim_mine i' keysD p mb 1 bookP _ 0 (by rw [hr]; decide) (fun Y => ?_) W hb
  rw [h, show ({ Script.zero with kind := 5, key := 4, other := 2, rev := 9, expiry := n, hash := shaS [112] } : Script).hash = shaS [112] from rfl, bookP_p]
  refine mine_told _ keysD { data := #[112] } (by decide) ?_ rfl rfl rfl Y
  simp [validS, liesB, Script.zero]
  omega
theorem claim4 (n : Int) (h0 : 0 ≤ n) (h6 : n ≤ 60000) (i' : Item) (p mb : Nat) (h : i'.script = { Script.zero with kind := 5, key := 2, other := 4, rev := 9, expiry := n }) (hr : i'.role = 1) (W : World) (hb : bookAt W p mb 1 bookP) :
    Calls Try.prog 62 #[.agg i'.arr, .pointer (some ⟨p, 0, none⟩), .agg keysD.arr] W fun e w' => e = .returned (.tuple #[.agg ({ sigC 2 with lock := n } : Claim).arr, .int .i64 0]) ∧ Below W.heap.size W w' := by
  refine claim_mine i' keysD p mb 1 bookP _ 0 (by rw [hr]; decide) (fun Y => ?_) W hb
  rw [h, show ({ Script.zero with kind := 5, key := 2, other := 4, rev := 9, expiry := n } : Script).hash = Hash.zero from rfl, bookP_zero]
  refine mine_time _ keysD ByteArray.empty ?_ rfl rfl (by simp [keysD]) Y
  simp [validS, liesB, Script.zero]
  omega
set_option maxRecDepth 100000 in
set_option maxHeartbeats 4000000 in
theorem due_in (kind conf number since delta share value : Int) (hk : -9223372036854775808 ≤ kind ∧ kind ≤ 9223372036854775807) (h1 : 0 ≤ conf) (h2 : conf ≤ 100000) (h3 : 0 ≤ number) (h4 : number ≤ 60000) (h5 : 0 ≤ since) (h6 : since ≤ 100000)
    (h7 : 0 ≤ delta) (h8 : delta ≤ 100000) (h9 : 1 ≤ share) (h10 : share ≤ 100) (h11 : 1 ≤ value) (h12 : value ≤ 2100000000000000) (w : World) :
    Calls Try.prog 3 #[.int .i64 kind, .int .i64 conf, .int .i64 number, .int .i64 since, .int .i64 delta, .int .i64 share, .int .i64 value] w fun e w' => e = .returned (.bool true) ∧ Below w.heap.size w w' := by
  have g1 : decide (conf < 0) = false := decide_eq_false (by omega)
  have g2 : decide (100000 < conf) = false := decide_eq_false (by omega)
  have g3 : decide (number < 0) = false := decide_eq_false (by omega)
  have g4 : decide (60000 < number) = false := decide_eq_false (by omega)
  have g5 : decide (since < 0) = false := decide_eq_false (by omega)
  have g6 : decide (100000 < since) = false := decide_eq_false (by omega)
  have g7 : decide (delta < 0) = false := decide_eq_false (by omega)
  have g8 : decide (100000 < delta) = false := decide_eq_false (by omega)
  have g9 : decide (share < 1) = false := decide_eq_false (by omega)
  have g10 : decide (100 < share) = false := decide_eq_false (by omega)
  have g11 : decide (value < 1) = false := decide_eq_false (by omega)
  have g12 : decide (2100000000000000 < value) = false := decide_eq_false (by omega)
  go_enter Try.func3, Try.ntmps3
  go_wp2_with fail
  clear g1 g2 g3 g4 g5 g6 g7 g8 g9 g10 g11 g12
  obtain ⟨V, hV⟩ : ∃ V, V = w.alloc (.cells keysD.arr 24) := ⟨_, rfl⟩
  rw [show (w.alloc (.cells ({ wallet := 1, own := 2, rev := 3 } : Keys).arr 24)) = V from hV.symm]
  have hbV : Below w.heap.size w V := hV ▸ (Below.refl _ _).alloc (Nat.le_refl _) _
  have hKV : V.heap[w.heap.size]? = some (.cells keysD.arr 24 (0, 0)) := hV ▸ heap_alloc_new w _
  clear hV
  refine (new_book V).mono ?_
  rintro e W ⟨p, mb, rfl, hbk, hp, hmb, hbW⟩
  have hKW := (hbW.block _ (Array.getElem?_eq_some_iff.1 hKV).1).trans hKV
  have hbw : Below w.heap.size w W := hbV.trans (hbW.mono hbV.size)
  have hkl : w.heap.size < V.heap.size := (Array.getElem?_eq_some_iff.1 hKV).1
  have HK := Lib.hid hKW
  clear hbV hKV hbW hKW
  go_wp2_with fail
  refine (learn_book p mb 0 (fun _ => none) { data := #[112] } W hbk (by decide) (by decide) rfl).mono ?_
  rintro e X ⟨rfl, hbk2, hu⟩
  have hKX := (hu.block w.heap.size (Array.getElem?_eq_some_iff.1 HK.out).1 (by omega)).trans HK.out
  have hbX : Below w.heap.size w X := hbw.trans (hu.below hbw.size (fun i e => by omega))
  have hbook : bookAt X p mb 1 bookP := hbk2
  clear hbk hbk2 hu hbw HK hp hmb hkl
  obtain ⟨r, hr⟩ : ∃ r, r = roundS kind 5 := ⟨_, rfl⟩
  have hr5 : r = 0 ∨ r = 1 ∨ r = 2 ∨ r = 3 ∨ r = 4 := by
    have h0 := Int.emod_nonneg kind (show (5 : Int) ≠ 0 by decide)
    have h1 := Int.emod_lt_of_pos kind (show (0 : Int) < 5 by decide)
    rw [roundS] at hr
    omega
  have HRD := Lib.hid (round_al kind 5 hk (by decide) (by decide))
  have HR := Lib.hid hr
  have HR5 := Lib.hid hr5
  clear hr hr5
  go_upto_block 0 with (go_at_call 16; refine (HRD.out _).mono ?_; rintro e w' ⟨rfl, rfl⟩; rw [← HR.out])
  go_cut [18] (fun x wx => ∃ E i c, x = .int .i64 E ∧ DueOk w wx X.heap.size p mb conf since delta value E i c)
  case first =>
    rcases HR5.out with e | e | e | e | e
    all_goals
      subst e
      clear HR HR5 HRD
    · go_wp2_with fail
      go_meet
      refine ⟨since + delta, _, _, rfl, due_start hbook hKX hbX rfl rfl rfl (by simp [Script.zero]) (fun i' hs hr W hb => claim0 number i' p mb hs hr W hb) ?_⟩
      simp [dueS, sigC]
      omega
    · go_wp2_with fail
      all_goals
        go_meet
        refine ⟨_, _, _, rfl, due_start hbook hKX hbX rfl rfl rfl (by simp; omega) (fun i' hs hr W hb => claim1 number h3 h4 i' p mb hs hr W) ?_⟩
        simp [dueS, revC]
        omega
    · go_wp2_with fail
      all_goals
        go_meet
        refine ⟨_, _, _, rfl, due_start hbook hKX hbX rfl rfl rfl (by simp [Script.zero]) (fun i' hs hr W hb => claim2 number h3 h4 i' p mb hs hr W) ?_⟩
        simp [dueS, revC]
        omega
    · go_wp2_with fail
      refine (image_ref { data := #[112] } (by decide) _).mono ?_
      rintro e Y ⟨rfl, hbY⟩
      obtain ⟨i0, hi0⟩ : ∃ i0 : Item, i0 = { Item.zero with value := value, conf := conf, state := 2, role := 1 } := ⟨_, rfl⟩
      have hba : Below X.heap.size X (X.alloc (.cells i0.arr 36)) := (Below.refl _ _).alloc (Nat.le_refl _) _
      have hbY' : Below (X.alloc (.cells i0.arr 36)).heap.size (X.alloc (.cells i0.arr 36)) Y := by rw [hi0]; exact hbY
      have hXY : Below X.heap.size X Y := hba.trans (hbY'.mono hba.size)
      have hI : Y.heap[X.heap.size]? = some (.cells (([Value.int .i64 i0.channel] ++ i0.point.arr.toList ++ [Value.int .i64 i0.value]) ++ (i0.script.arr.toList ++ ([Value.int .i64 i0.role, Value.int .i64 i0.conf, Value.int .i64 i0.state] ++ i0.by_.arr.toList ++ [Value.int .i64 i0.at_]))).toArray 36 (0, 0)) := by
        rw [hbY'.block _ (by simp), heap_alloc_new X _]
        simp [Item.arr]
      have HI := Lib.hid hI
      have HI0 := Lib.hid hi0
      have HXY := Lib.hid hXY
      clear hbY hba hbY' hI hi0 hXY
      go_wp2_with (refine wpList_storePart size_Script _ _ rfl rfl _ 35 (Script.arr _) _ _ _ rfl rfl (by simp) (one_Script _) (by simp) (by simp) HI.out ?_; intro w5 hr5 hu5)
      all_goals
        go_meet
        refine ⟨_, { i0 with script := { Script.zero with kind := 5, key := 4, other := 2, rev := 9, expiry := number, hash := shaS [112] } }, { Claim.zero with wit := { kind := 2, key := 2, pre := { data := #[112] } } }, rfl, ?_⟩
        have hX := HXY.out
        have hu6 : Below X.heap.size X w5 := hX.trans (hu5.below hX.size (fun i e => by have e2 : i = X.heap.size := e; omega))
        refine ⟨?_, hbook.below hu6 hbook.lt.1 hbook.lt.2, (hu6.block _ (Array.getElem?_eq_some_iff.1 hKX).1).trans hKX, hbX.trans (hu6.mono hbX.size), by rw [HI0.out], by rw [HI0.out], by rw [HI0.out], by simp [Script.zero], fun i' hs hr W hb => claim3 number h3 h4 i' p mb hs (by rw [hr, HI0.out]) W hb, ?_⟩
        · rw [hr5]
          simp [Item.arr]
        · simp [dueS, HI0.out]
          omega
    · go_wp2_with fail
      go_meet
      refine ⟨since + delta, _, _, rfl, due_start hbook hKX hbX rfl rfl rfl (by simp [Script.zero]) (fun i' hs hr W hb => claim4 number h3 h4 i' p mb hs hr W hb) ?_⟩
      simp [dueS, sigC]
      omega
  case rest =>
    obtain ⟨E, i, c, rfl, D⟩ := hcut
    have hil := (Array.getElem?_eq_some_iff.1 D.item).1
    have hkl := (Array.getElem?_eq_some_iff.1 D.keys).1
    have rI := row_of_block (n := 109) D.item (by simp)
    have rK := row_of_block (n := 3) D.keys (by simp)
    have hin := input_ok i keysD p mb 1 bookP c since delta share D.state ⟨h5, by omega⟩ ⟨h7, by omega⟩ ⟨h9, h10⟩ (by rw [D.value]; omega) D.delay (D.claim i rfl rfl) wc D.book
    have HD := Lib.hid D
    have HRI := Lib.hid HRD
    have hwX := hbX.size
    clear D hKX hbX hbook HR HR5 HRD HRI
    go_wp2_with fail
    refine hin.mono ?_
    rintro e Y ⟨rfl, hbY⟩
    obtain ⟨r1, hr1⟩ : ∃ r1, r1 = inputS i c since delta share := ⟨_, rfl⟩
    rw [← hr1]
    have HR1 := Lib.hid hr1
    clear hr1 hin
    have hiY := (hbY.block _ hil).trans HD.out.item
    have hkY := (hbY.block _ hkl).trans HD.out.keys
    have hbkY := HD.out.book.below hbY HD.out.book.lt.1 HD.out.book.lt.2
    have hzY := hbY.size
    clear rI rK
    have cY := (cells_known hiY).1
    have fY := (cells_known hiY).2.1
    have hilY : X.heap.size < Y.heap.size := by omega
    have hklY : w.heap.size < Y.heap.size := by omega
    have hiYS : (i.arr[75]?).isSome = true := by simp
    go_upto_region 27 with fail
    clear cY fY hiYS
    obtain ⟨Y2, hY2⟩ : ∃ Z, Z = Y.setCell ⟨X.heap.size, 75, none⟩ (.int .i64 3) := ⟨_, rfl⟩
    rw [← hY2]
    have hi2 : Y2.heap[X.heap.size]? = some (.cells ({ i with state := 3 } : Item).arr 36 (0, 0)) := by
      rw [hY2, heap_set hiY]
      simp
    have hu2 : Upd Y Y2 (fun k => k = X.heap.size) := hY2 ▸ Upd.setCell Y ⟨X.heap.size, 75, none⟩ _
    have hne : w.heap.size ≠ X.heap.size := by
      intro e
      have h1 := HD.out.item
      rw [← e, HD.out.keys] at h1
      have : (Obj.cells keysD.arr 24 (0, 0)) = .cells i.arr 36 (0, 0) := Option.some.inj h1
      injection this with e1 e2
      cases e2
    have hk2 := (hu2.block _ hklY hne).trans hkY
    have hs2 : Y2.heap.size = Y.heap.size := by rw [hY2]; simp
    have hb2 : bookAt Y2 p mb 1 bookP := by
      refine ⟨(hu2.block p hbkY.lt.1 ?_).trans hbkY.1, hbkY.2.of_block (hu2.block mb hbkY.lt.2 ?_)⟩
      · intro e
        have h1 := hbkY.1
        rw [show p = X.heap.size from e, hiY] at h1
        have := Option.some.inj h1
        injection this with e1 e2
        cases e2
      · intro e
        obtain ⟨es, clock, hb, _⟩ := hbkY.2
        rw [show mb = X.heap.size from e, hiY] at hb
        cases hb
    obtain ⟨Z, hZ⟩ : ∃ Z, Z = Y2.alloc (.cells r1.arr 44) := ⟨_, rfl⟩
    rw [← hZ]
    have hba : Below Y2.heap.size Y2 Z := hZ ▸ (Below.refl _ _).alloc (Nat.le_refl _) _
    have hiZ := (hba.block _ (Array.getElem?_eq_some_iff.1 hi2).1).trans hi2
    have hkZ := (hba.block _ (Array.getElem?_eq_some_iff.1 hk2).1).trans hk2
    have hbZ := hb2.below hba hb2.lt.1 hb2.lt.2
    have hrZ : Z.heap[Y.heap.size]? = some (.cells r1.arr 44 (0, 0)) := by rw [hZ, ← hs2]; exact heap_alloc_new Y2 _
    have hbeZ : Below w.heap.size w Z := (HD.out.below.trans (hbY.mono HD.out.below.size)).trans ((hu2.below (B := w.heap.size) (by omega) (fun k e => by have e2 : k = X.heap.size := e; have := HD.out.below.size; omega)).trans (hba.mono (by omega)))
    have rI := row_of_block (n := 109) hiZ (by simp)
    have rK := row_of_block (n := 3) hkZ (by simp)
    have hrl := (Array.getElem?_eq_some_iff.1 hrZ).1
    have hin2 := input_no { i with state := 3 } keysD p mb 1 bookP c since delta share (by simp) (HD.out.claim { i with state := 3 } rfl rfl) Z hbZ
    have HBE := Lib.hid hbeZ
    have HRZ := Lib.hid hrZ
    clear hZ hba hiZ hkZ hbZ hrZ hbeZ hi2 hu2 hne hk2 hb2 hY2 hiY hkY hbkY
    go_wp2_with fail
    refine hin2.mono ?_
    rintro e U ⟨rfl, hbU⟩
    have hrU := (hbU.block _ hrl).trans HRZ.out
    have hbeU := HBE.out.trans (hbU.mono HBE.out.size)
    have cU := (cells_known hrU).1
    have hlU := (cells_known hrU).2.2
    have d1 : r1.deadline = max E since := by rw [HR1.out]; exact HD.out.due
    have d2 : r1.since = since := by rw [HR1.out]; rfl
    have d3 : r1.conf = conf := by rw [HR1.out]; exact HD.out.conf
    have d4 : r1.value = value := by rw [HR1.out]; exact HD.out.value
    have d5 : r1.budget = value * share / 100 := by rw [HR1.out, ← HD.out.value]; rfl
    obtain ⟨rp, rv, rc, rcf, rs, rd, rb⟩ := r1
    simp only at d1 d2 d3 d4 d5
    subst d1 d2 d3 d4 d5
    have hv0 : 0 ≤ rv * share := Int.mul_nonneg (by omega) (by omega)
    have hv1 : rv * share ≤ 2100000000000000 * 100 := Int.mul_le_mul h12 h10 (by omega) (by decide)
    have w1 : wrap64 (rv * share) = rv * share := by unfold wrap64; omega
    clear rI rK hin2 HBE HRZ hbU hrl hs2
    go_wp2_with (go_at_call 13; refine (awake23 _).mono ?_; rintro e W9 ⟨rfl, hb9⟩)
    all_goals
      go_ret
      exact ⟨rfl, hbeU.trans ((((Below.refl U.heap.size U).alloc (Nat.le_refl _) _).trans (hb9.mono (by simp))).mono hbeU.size)⟩
set_option maxRecDepth 100000 in
set_option maxHeartbeats 4000000 in
theorem due_any (kind conf number since delta share value : Int) (hk : -9223372036854775808 ≤ kind ∧ kind ≤ 9223372036854775807) (w : World) :
    Calls Try.prog 3 #[.int .i64 kind, .int .i64 conf, .int .i64 number, .int .i64 since, .int .i64 delta, .int .i64 share, .int .i64 value] w fun e w' => e = .returned (.bool true) ∧ Below w.heap.size w w' := by
  by_cases g1 : conf < 0
  · have d1 : decide (conf < 0) = true := decide_eq_true g1
    clear g1
    go_enter Try.func3, Try.ntmps3
    go_wp2_with (go_at_call 13; refine (awake23 _).mono ?_; rintro e w8 ⟨rfl, hb8⟩)
    go_ret
    exact ⟨rfl, hb8⟩
  have d1 : decide (conf < 0) = false := decide_eq_false g1
  by_cases g2 : 100000 < conf
  · have d2 : decide (100000 < conf) = true := decide_eq_true g2
    clear g2
    go_enter Try.func3, Try.ntmps3
    go_wp2_with (go_at_call 13; refine (awake23 _).mono ?_; rintro e w8 ⟨rfl, hb8⟩)
    go_ret
    exact ⟨rfl, hb8⟩
  have d2 : decide (100000 < conf) = false := decide_eq_false g2
  by_cases g3 : number < 0
  · have d3 : decide (number < 0) = true := decide_eq_true g3
    clear g3
    go_enter Try.func3, Try.ntmps3
    go_wp2_with (go_at_call 13; refine (awake23 _).mono ?_; rintro e w8 ⟨rfl, hb8⟩)
    go_ret
    exact ⟨rfl, hb8⟩
  have d3 : decide (number < 0) = false := decide_eq_false g3
  by_cases g4 : 60000 < number
  · have d4 : decide (60000 < number) = true := decide_eq_true g4
    clear g4
    go_enter Try.func3, Try.ntmps3
    go_wp2_with (go_at_call 13; refine (awake23 _).mono ?_; rintro e w8 ⟨rfl, hb8⟩)
    go_ret
    exact ⟨rfl, hb8⟩
  have d4 : decide (60000 < number) = false := decide_eq_false g4
  by_cases g5 : since < 0
  · have d5 : decide (since < 0) = true := decide_eq_true g5
    clear g5
    go_enter Try.func3, Try.ntmps3
    go_wp2_with (go_at_call 13; refine (awake23 _).mono ?_; rintro e w8 ⟨rfl, hb8⟩)
    go_ret
    exact ⟨rfl, hb8⟩
  have d5 : decide (since < 0) = false := decide_eq_false g5
  by_cases g6 : 100000 < since
  · have d6 : decide (100000 < since) = true := decide_eq_true g6
    clear g6
    go_enter Try.func3, Try.ntmps3
    go_wp2_with (go_at_call 13; refine (awake23 _).mono ?_; rintro e w8 ⟨rfl, hb8⟩)
    go_ret
    exact ⟨rfl, hb8⟩
  have d6 : decide (100000 < since) = false := decide_eq_false g6
  by_cases g7 : delta < 0
  · have d7 : decide (delta < 0) = true := decide_eq_true g7
    clear g7
    go_enter Try.func3, Try.ntmps3
    go_wp2_with (go_at_call 13; refine (awake23 _).mono ?_; rintro e w8 ⟨rfl, hb8⟩)
    go_ret
    exact ⟨rfl, hb8⟩
  have d7 : decide (delta < 0) = false := decide_eq_false g7
  by_cases g8 : 100000 < delta
  · have d8 : decide (100000 < delta) = true := decide_eq_true g8
    clear g8
    go_enter Try.func3, Try.ntmps3
    go_wp2_with (go_at_call 13; refine (awake23 _).mono ?_; rintro e w8 ⟨rfl, hb8⟩)
    go_ret
    exact ⟨rfl, hb8⟩
  have d8 : decide (100000 < delta) = false := decide_eq_false g8
  by_cases g9 : share < 1
  · have d9 : decide (share < 1) = true := decide_eq_true g9
    clear g9
    go_enter Try.func3, Try.ntmps3
    go_wp2_with (go_at_call 13; refine (awake23 _).mono ?_; rintro e w8 ⟨rfl, hb8⟩)
    go_ret
    exact ⟨rfl, hb8⟩
  have d9 : decide (share < 1) = false := decide_eq_false g9
  by_cases g10 : 100 < share
  · have d10 : decide (100 < share) = true := decide_eq_true g10
    clear g10
    go_enter Try.func3, Try.ntmps3
    go_wp2_with (go_at_call 13; refine (awake23 _).mono ?_; rintro e w8 ⟨rfl, hb8⟩)
    go_ret
    exact ⟨rfl, hb8⟩
  have d10 : decide (100 < share) = false := decide_eq_false g10
  by_cases g11 : value < 1
  · have d11 : decide (value < 1) = true := decide_eq_true g11
    clear g11
    go_enter Try.func3, Try.ntmps3
    go_wp2_with (go_at_call 13; refine (awake23 _).mono ?_; rintro e w8 ⟨rfl, hb8⟩)
    go_ret
    exact ⟨rfl, hb8⟩
  have d11 : decide (value < 1) = false := decide_eq_false g11
  by_cases g12 : 2100000000000000 < value
  · have d12 : decide (2100000000000000 < value) = true := decide_eq_true g12
    clear g12
    go_enter Try.func3, Try.ntmps3
    go_wp2_with (go_at_call 13; refine (awake23 _).mono ?_; rintro e w8 ⟨rfl, hb8⟩)
    go_ret
    exact ⟨rfl, hb8⟩
  have d12 : decide (2100000000000000 < value) = false := decide_eq_false g12
  exact due_in kind conf number since delta share value hk (by omega) (by omega) (by omega) (by omega) (by omega) (by omega) (by omega) (by omega) (by omega) (by omega) (by omega) (by omega) w
end Go.Proofs.Ytaopiefbejajkaa
