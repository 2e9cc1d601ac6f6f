/- Contracts of package tx, continued: are two transactions alike? Contracts of package tx, continued: are two transactions alike? What the document fixes of chapter 5. What the document fixes of chapter 5. -/
import Derived.Test.YtlkojkjeklblkaaGreatTxF
import Derived.Test.YtlkojkjeklblkaaGreatSlc
set_option linter.unusedSimpArgs false
set_option linter.unusedVariables false
namespace Go.Proofs.YtlkojkjeklblkaaGreat
open Go.RowKit
attribute [local go_sem] row?_drewN
theorem Below.drewN_ {B : Nat} {w w' : World} (h : Below B w w') (n : Nat) : Below B w (w'.drewN n) := ⟨h.os, h.tape, h.output, h.size, h.block⟩
end Go.Proofs.YtlkojkjeklblkaaGreat
namespace Go.Proofs.YtlkojkjeklblkaaGreat
open Go.RowKit
def sameS (a b : Tx) : Bool := decide (a.lock = b.lock) && decide (a.ins = b.ins) && decide (a.outs = b.outs)
/-! ### what the document fixes -/
def t5 : Tx := { ins := [{ In.zero with wit := { kind := 1, key := 1, pre := ByteArray.empty } }], outs := [{ value := 5, script := { Script.zero with kind := 1, key := 1 } }], lock := 0 }
def u5 : Tx := { t5 with ins := [{ In.zero with wit := { kind := 3, key := 9, pre := ByteArray.empty } }] }
def tz : Tx := { ins := [], outs := [], lock := 0 }
theorem c_t5 : checkS t5 = 0 := by decide +kernel
theorem c_u5 : checkS u5 = 0 := by decide +kernel
theorem c_tz : checkS tz = 1 := by decide +kernel
theorem w_t5 : weightS t5 = 414 := by decide +kernel
theorem id_t5u5 : idS t5 = idS u5 := by unfold idS; rw [c_t5, c_u5]; rfl
theorem id_t5 : idS t5 ≠ Hash.zero := by decide +kernel
theorem same5 : sameS t5 u5 = false := by decide +kernel
end Go.Proofs.YtlkojkjeklblkaaGreat
namespace Go.Proofs.YtlkojkjeklblkaaGreat
open Go.RowKit
open Go.Sort
theorem isTx.regrown {W : World} {v : TxV} {t : Tx} (h : isTx W v t W.heap.size) (d : Nat) (os : Array Obj) : isTx (grow (redrawn W d) os) v t (grow (redrawn W d) os).heap.size :=
  ⟨h.1.regrown (Nat.le_refl _) d os, h.2.1.regrown (Nat.le_refl _) d os, h.2.2⟩
theorem isSl_one {α : Type} {w : World} {b sz c : Nat} {enc : α → Array Value} {x : α} {t : TypeId} (h : w.heap[b]? = some (.cells (enc x) t (0, 0))) (hs : (enc x).size = sz) (hc : 1 ≤ c) : isSl w ⟨some ⟨b, 0, none⟩, 1, c⟩ sz enc [x] w.heap.size := by
  refine ⟨rfl, hc, fun _ => ⟨b, 0, rfl, (cells_known h).2.2, fun k hk => ?_⟩⟩
  have : k = 0 := by simpa using hk
  subst this
  unfold row?
  simp only [h]
  rw [if_pos (And.intro trivial (by simp [hs]))]
  congr 1
  rw [show 0 + 0 * sz + sz = (enc x).size by omega, show 0 + 0 * sz = 0 by omega]
  exact Array.extract_size
theorem isSl_nil {α : Type} (w : World) (sz : Nat) (enc : α → Array Value) (B : Nat) : isSl w ⟨none, 0, 0⟩ sz enc [] B := ⟨rfl, Nat.le_refl _, fun h => absurd rfl h⟩
theorem isTx_zero (w : World) (B : Nat) : isTx w TxV.zero tz B := ⟨isSl_nil _ _ _ _, isSl_nil _ _ _ _, rfl⟩
theorem check5 {v : TxV} {w : World} (h : isTx w v t5 w.heap.size) : Calls Tryz.prog 147 #[.agg v.arr] w fun e w' => e = .returned (.int .i64 0) ∧ Below w.heap.size w w' := by
  have := check_tx v t5 w h; rwa [c_t5] at this
theorem checkz (w : World) : Calls Tryz.prog 147 #[.agg TxV.zero.arr] w fun e w' => e = .returned (.int .i64 1) ∧ Below w.heap.size w w' := by
  have := check_tx TxV.zero tz w (isTx_zero _ _); rwa [c_tz] at this
theorem idu5 {v : TxV} {w : World} (h : isTx w v u5 w.heap.size) : Calls Tryz.prog 99 #[.agg v.arr] w fun e w' => e = .returned (.agg (idS t5).arr) ∧ Below w.heap.size w w' := by
  rw [id_t5u5]; exact id_tx v u5 w h
end Go.Proofs.YtlkojkjeklblkaaGreat
