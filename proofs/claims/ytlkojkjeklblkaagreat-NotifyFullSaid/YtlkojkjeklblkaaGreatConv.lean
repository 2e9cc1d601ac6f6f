/- Strings out of bytes, and bytes out of strings, at the operation. -/
import Derived.Test.YtlkojkjeklblkaaGreatShaH
import Derived.Laws.IdiomStrings
import Derived.OwnWalk
set_option linter.unusedSimpArgs false
set_option linter.unusedVariables false
namespace Go.Proofs.YtlkojkjeklblkaaGreat
open Go.RowKit
theorem bytesAt_str {w : World} {v : Sl} {l : List UInt8} {B : Nat} (h : bytesAt w v l B) : (convert 137 9 (.slice v.a v.n v.c)).run Tryz.prog w = .ok (.string ⟨l.toArray⟩) w := by
  obtain ⟨va, vn, vc⟩ := v
  obtain ⟨hn, hc⟩ := h
  simp only at hn hc
  subst hn
  by_cases hl : l = []
  · subst hl
    cases va with
    | none => rw [run_convert_bytes_string w _ _ 5 none _ vc Tryz.underlying137 Tryz.underlying5 Tryz.underlying9]; rfl
    | some a => exact run_convert_bytes_back w _ _ 5 a vc [] Tryz.underlying137 Tryz.underlying5 Tryz.underlying9 (by simp)
  · obtain ⟨b, off, rfl, hb, hcc⟩ := hc hl
    refine run_convert_bytes_back w _ _ 5 ⟨b, off, none⟩ vc l Tryz.underlying137 Tryz.underlying5 Tryz.underlying9 (fun j hj => ?_)
    have e : (⟨b, off, none⟩ : Addr).add j = ⟨b, off + j, none⟩ := by unfold Addr.add; split <;> simp_all
    rw [e]
    exact hcc j hj
theorem wpList_str {w : World} {ops : Array Oper} {rest : List Oper} {o : Oper} {a : Act} {Q : Exit → Act → World → Prop} (x : Operand) (hop : o.op = Op.convert 137 9 x) (hg : o.guard = none)
    (v : Sl) (l : List UInt8) (B : Nat) (hx : a.eval x = .slice v.a v.n v.c) (h : bytesAt w v l B) (hK : wpList Tryz.prog ops Q rest (a.put o.dst (.string ⟨l.toArray⟩)) w) : wpList Tryz.prog ops Q (o :: rest) a w := by
  refine wpList_plain hg fun K' hK' => ?_
  have hrun := bytesAt_str h
  unfold Oper.wp
  simp [execOp, hop, hx, hrun, Result.andThen]
  exact hK' _ _ hK
theorem run_bytes (w : World) (s : ByteArray) : ∃ w' c, (convert 9 137 (.string s)).run Tryz.prog w = .ok (.slice (some ⟨w.heap.size, 0, none⟩) s.size c) w' ∧ Below w.heap.size w w' ∧ w'.heap.size = w.heap.size + 1 ∧ s.size ≤ c ∧ bytesAt w' ⟨some ⟨w.heap.size, 0, none⟩, s.size, c⟩ s.data.toList w'.heap.size := by
  refine ⟨_, _, run_bytes_of_string w _ _ 5 s Tryz.underlying9 Tryz.underlying137 Tryz.underlying5, ?_, by simp, grownCap_ge _ _ _ _, ?_⟩
  · exact ((Below.refl w.heap.size w).drew).alloc (by simp) _
  · refine ⟨by simp, fun hl => ⟨w.heap.size, 0, rfl, by simp, fun k hk => ?_⟩⟩
    have h1 := World.cell?_alloc_mark w.drew (bytesRow s (grownCap w s.size 0 5)) 5 ((bytesRow s (grownCap w s.size 0 5)).size, (bytesRow s (grownCap w s.size 0 5)).size + 1) (0 + k)
    have h2 : w.drew.heap.size = w.heap.size := rfl
    rw [h2] at h1
    rw [h1, Nat.zero_add]
    have hk2 : k < s.data.size := by simpa using hk
    have hk3 : k < s.size := hk2
    simp [bytesRow, Array.getElem?_append, byteV, hk3, Array.getElem?_eq_getElem hk2]
theorem wpList_bytes {w : World} {ops : Array Oper} {rest : List Oper} {o : Oper} {a : Act} {Q : Exit → Act → World → Prop} (x : Operand) (hop : o.op = Op.convert 9 137 x) (hg : o.guard = none)
    (s : ByteArray) (hx : a.eval x = .string s)
    (hK : ∀ w' c, Below w.heap.size w w' → w'.heap.size = w.heap.size + 1 → s.size ≤ c → bytesAt w' ⟨some ⟨w.heap.size, 0, none⟩, s.size, c⟩ s.data.toList w'.heap.size → wpList Tryz.prog ops Q rest (a.put o.dst (.slice (some ⟨w.heap.size, 0, none⟩) s.size c)) w') : wpList Tryz.prog ops Q (o :: rest) a w := by
  refine wpList_plain hg fun K' hK' => ?_
  obtain ⟨w', c, hrun, h1, h2, h3, h4⟩ := run_bytes w s
  unfold Oper.wp
  simp [execOp, hop, hx, hrun, Result.andThen]
  exact hK' _ _ (hK w' c h1 h2 h3 h4)
end Go.Proofs.YtlkojkjeklblkaaGreat
