/- A map's names, collected and sorted by the library: its contracts at this program (the kit's lay-iter wrote them). -/
import Derived.Test.YtkiindgcbpkddaaShelfP
import Derived.Test.YtkiindgcbpkddaaFileG
set_option linter.unusedSimpArgs false
set_option linter.unusedVariables false
namespace Go.Proofs.Ytkiindgcbpkddaa
open Go.RowKit Go.Maps Go.Sort Go.Shelf
theorem sorts_lib (m : Nat) : AnyZ.SortsIn Try.prog Try.sorted147_ren Fence.wide m :=
  ⟨fun blk off cap ss W hH hblk hsz => callsIn_wide.2 (AnyM.slices_Sort_string Try.sort167 blk off cap ss W hH hblk hsz),
   fun p cap W => callsIn_wide.2 (AnyM.slices_Sort_string_none Try.sort167 p cap W)⟩
theorem keys_lib (mb : Option Nat) (W : World) : Calls Try.prog 148 #[.map mb] W fun e w' => e = .returned (.func (.func 168) #[] #[.pointer (some ⟨W.heap.size, 0, none⟩)]) ∧ w' = W.alloc (.cells #[.map mb] 163) :=
  callsIn_wide.1 (AnyZ.keys_in Try.keys148 Fence.wide 5 trivial rfl mb W)
set_option maxHeartbeats 1000000 in
theorem sorted_lib {H : Type} (b nn : Nat) (D0 : DataW H) (R : Value → Option (DataW H × List MemPlace)) (w : World) (hown : w.ownsMap Try.prog 9 R b nn D0) (hmax : Maps.size D0 ≤ maxLen) (hbytes : Maps.size D0 * 16 ≤ 140737488355328) :
    Calls Try.prog 147 #[.func (.func 168) #[] #[.pointer (some ⟨w.heap.size, 0, none⟩)]] (w.alloc (.cells #[.map (some b)] 163)) fun e w' => ∃ (v : Value) (ss : List (List UInt8)), e = .returned v ∧ ss.Perm (strKeys D0) ∧
      w'.ownsRow (w.alloc (.cells #[.map (some b)] 163)).heap.size 9 1 v ss.length ((ss.mergeSort (fun x y => decide (x ≤ y))).map encStr) ∧ (v = .slice none 0 0 ↔ ss = []) ∧ Below (w.alloc (.cells #[.map (some b)] 163)).heap.size (w.alloc (.cells #[.map (some b)] 163)) w' := by
  refine (callsIn_wide (n := 5)).1 ?_
  have hbl := hown.lt
  have hseq : SeqGives Fence.wide 2 Try.prog 168 #[.pointer (some ⟨w.heap.size, 0, none⟩)] encStr (fun ss => ss.Perm (strKeys D0)) (Maps.size D0) (w.alloc (.cells #[.map (some b)] 163)) :=
    AnyZ.keys_gives (ρ := Try.keys148_ren) { Try.keys148 with } Fence.wide _ trivial rfl (by omega) w.heap.size b nn D0 _ (by simp) (by simp) (by
      obtain ⟨es, clock, hb, Ft, hs, hD⟩ := hown
      exact ⟨es, clock, (Below.heap_alloc _ _ b hbl).trans hb, Ft, hs, hD⟩)
  exact AnyZ.sorted_in Try.sorted147 Fence.wide 5 trivial trivial trivial trivial rfl (by omega) (sorts_lib _) (enters_of Try.func167 (by kernel_rfl) rfl) 168 #[.pointer (some ⟨w.heap.size, 0, none⟩)] trivial (enters_of Try.func168 (by kernel_rfl) rfl) _ _ hmax hbytes _ hseq
end Go.Proofs.Ytkiindgcbpkddaa
