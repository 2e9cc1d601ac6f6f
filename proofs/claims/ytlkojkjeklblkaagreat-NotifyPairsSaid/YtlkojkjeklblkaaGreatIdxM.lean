/- Package index's law: what the document fixes. -/
import Derived.Test.YtlkojkjeklblkaaGreatIdxL
import Derived.Test.YtlkojkjeklblkaaGreatRfF
set_option linter.unusedSimpArgs false
set_option linter.unusedVariables false
namespace Go.Proofs.YtlkojkjeklblkaaGreat
open Go.RowKit
/-- A transaction of one input, and outputs of nine. -/
def t11 : Tx := { ins := [⟨⟨Hash.zero, 0⟩, 0, ⟨1, 0, ByteArray.empty⟩⟩], outs := [⟨9, ⟨1, 0, 0, 0, 0, 0, Hash.zero⟩⟩], lock := 0 }
theorem c_t11 : checkS t11 = 0 := by decide +kernel
theorem id_t11 : idS t11 ≠ Hash.zero := by decide +kernel
theorem slIn_one {α : Type} {w : World} {Z : Nat → Prop} {b sz : Nat} {enc : α → Array Value} {x : α} {t : TypeId} (h : w.heap[b]? = some (.cells (enc x) t (0, 0))) (hs : (enc x).size = sz) (hZ : Z b) : slIn w Z ⟨some ⟨b, 0, none⟩, 1, 1⟩ sz enc [x] := by
  refine ⟨rfl, Nat.le_refl _, by show 1 ≤ maxLen; unfold maxLen; omega, fun _ => ⟨b, 0, rfl, hZ, (cells_known h).2.2, fun k hk => ?_⟩⟩
  have : k = 0 := by simpa using hk
  subst this
  unfold row?
  simp only [h]
  rw [if_pos (And.intro trivial (by simp [hs]))]
  simp [← hs]
theorem txs_one {t : Tx} (hc : checkS t = 0) (hn : (t.ins.map (·.prev)).Nodup) (hp : ∀ i ∈ t.ins, i.prev.tx ≠ idS t) : txsS [t] = 0 := by
  unfold txsS
  rw [if_neg (by simp), if_neg (by simp [firstErr, hc])]
  rw [if_pos]
  refine apartS_true (by simp) (by simpa [pointsOf] using hn) (fun k hk j hj => ?_)
  have hk0 : k = 0 := by simpa using hk
  subst hk0
  unfold inOkAt
  rw [(posS_none (ids := [t].map idS)).2 (by simpa using hp _ (List.getElem_mem hj))]
theorem may_one (L : List (List Tx)) (t : Tx) : mayBlock L [t] = mayS (mapsOf L) t := by simp [mayBlock, mayAll]
theorem con_t11 : conE [] [t11] = 0 := by
  refine conE_zero.2 ⟨txs_one c_t11 (by simp [t11]) (fun i hi => ?_), by rw [may_one]; simp [mayS, mayIn, mapsOf_nil, Maps.zero]⟩
  have e : i = ⟨⟨Hash.zero, 0⟩, 0, ⟨1, 0, ByteArray.empty⟩⟩ := by simpa [t11] using hi
  subst e
  exact fun h => id_t11 h.symm
theorem maps_one (t : Tx) : mapsOf [[t]] = addTx 1 Maps.zero t := by rw [show [[t]] = [] ++ [[t]] from rfl, mapsOf_snoc]; rfl
theorem con_t11' : conE [[t11]] [t11] = 10 := by
  have h := (conE_zero.1 con_t11).1
  have h2 : mayBlock [[t11]] [t11] = false := by rw [may_one, maps_one]; simp [mayS, addTx, updF_same]
  unfold conE
  rw [if_neg (by simpa using h), if_neg (by simp [h2])]
theorem conL_t11 : conL [] [t11] = [[t11]] := by unfold conL; rw [if_pos con_t11]; rfl
theorem conL_t11' : conL [[t11]] [t11] = [[t11]] := by unfold conL; rw [con_t11']; rfl
def o11 : Out := ⟨9, ⟨1, 0, 0, 0, 0, 0, Hash.zero⟩⟩
theorem out_t11 : outM (mapsOf [[t11]]) ⟨idS t11, 0⟩ = (o11, 1, true) := by
  rw [maps_one]; unfold outM addTx; simp only [updF_same]; rfl
theorem good_t11 : goodL [[t11]] := by have := goodL_nil.con [t11]; rwa [conL_t11] at this
/-- A block of one transaction comes. -/
theorem con_one (Z : Nat → Prop) {p : Nat} {r : IdxR} {L : List (List Tx)} {w : World} {v : TxV} {t : Tx} {b : Nat} (h : IdxAt w Z p r (mapsOf L) (L.map (fun b => b.map idS))) (hb : w.heap[b]? = some (.cells v.arr 72 (0, 0))) (hf : ¬ r.foot p b) (hv : txIn w (fun k => ¬ r.foot p k) v t) (hL : L.length ≤ 1000000) :
    Calls Tryz.prog 59 #[.pointer (some ⟨p, 0, none⟩), .slice (some ⟨b, 0, none⟩) 1 1] w fun e w' => ∃ r', e = .returned (.int .i64 (conE L [t])) ∧ IdxAt w' (fun k => Z k ∨ w.heap.size ≤ k) p r' (mapsOf (conL L [t])) ((conL L [t]).map (fun b => b.map idS)) ∧ Upd w w' (r.foot p) :=
  con_ix Z (fun k => ¬ r.foot p k) p r L ⟨some ⟨b, 0, none⟩, 1, 1⟩ [v] [t] w h ⟨slIn_one hb (by simp) hf, rfl, fun k h1 h2 => by
    have : k = 0 := by simpa using h1
    subst this
    exact hv⟩ (fun k hk _ => hk) hL (by simp)
end Go.Proofs.YtlkojkjeklblkaaGreat
