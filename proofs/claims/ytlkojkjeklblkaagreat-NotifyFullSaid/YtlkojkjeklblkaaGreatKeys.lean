/- The keys of the program's maps: names (32 bytes) and places (a name and a number), as maps take them. -/
import Derived.Test.YtlkojkjeklblkaaGreatMapL
import Derived.Test.YtlkojkjeklblkaaGreatOps
import Derived.DeepKeys4
import Derived.ProofKit
import Derived.KernelRfl
set_option linter.unusedSimpArgs false
set_option linter.unusedVariables false
namespace Go.Proofs.YtlkojkjeklblkaaGreat
open Go.RowKit
open Go.Maps (Keyed)
theorem laid_out : laidOutB Tryz.prog = true := by kernel_rfl
theorem mapM_isSome {α β : Type} (f : α → Option β) : ∀ l : List α, (∀ x ∈ l, ∃ y, f x = some y) → ∃ ys, l.mapM f = some ys
  | [], _ => ⟨[], rfl⟩
  | x :: l, h => by
    obtain ⟨y, hy⟩ := h x (by simp)
    obtain ⟨ys, hys⟩ := mapM_isSome f l (fun z hz => h z (by simp [hz]))
    exact ⟨y :: ys, by simp [List.mapM_cons, hy, hys]⟩
theorem row30 : (38 : TypeId) < Tryz.prog.types.size := of_decide_eq_true (by kernel_rfl)
theorem keyType30 : Tryz.prog.keyType 38 = true := by kernel_rfl
theorem cells30 : Tryz.prog.cellsOf 38 = 32 := by kernel_rfl
theorem cells5 : Tryz.prog.cellsOf 5 = 1 := by kernel_rfl
theorem hash_keyed : Keyed Tryz.prog 38 := .of_law (deep_law_laid laid_out (m := 3) (by omega) row30 (by kernel_rfl) (by rw [Tryz.underlying38]))
theorem byte_lits (d : Nat) (b : UInt8) : Tryz.prog.keyLits (d + 1) 5 [byteV b] = some [.int .u8 b.toNat] := by
  have h := b.toNat_lt
  have hw : (Lit.int .u8 (b.toNat : Int)).wf = true := by
    simp [Lit.wf, IntKind.min, IntKind.max, IntKind.bits, IntKind.signed]; omega
  simp only [Program.keyLits, Tryz.underlying5, byteV]
  rw [if_pos ⟨trivial, hw⟩]
theorem hash_lits (m d : Nat) (hm : m = d + 1) (z : Hash) : ∃ l, Tryz.prog.keyLits (m + 1) 38 z.arr.toList = some l := by
  have hz : z.arr.toList.length = Tryz.prog.cellsOf 38 := by rw [cells30]; simp
  simp only [Program.keyLits, Tryz.underlying38, hz, if_true]
  obtain ⟨ys, hys⟩ := mapM_isSome (fun i => Tryz.prog.keyLits m 5 (List.take (Tryz.prog.cellsOf 5) (List.drop (i * Tryz.prog.cellsOf 5) z.arr.toList))) (List.range 32) (by
    intro i hi
    have hi' : i < z.l.length := by rw [z.len]; exact List.mem_range.1 hi
    have ht : List.take 1 (List.drop i z.arr.toList) = [byteV z.l[i]] := by
      rw [List.take_one, List.head?_drop]
      simp [Hash.arr, hi']
    refine ⟨[.int .u8 z.l[i].toNat], ?_⟩
    rw [cells5, Nat.mul_one, ht, hm]
    exact byte_lits d _)
  exact ⟨ys.flatten, by rw [hys]; rfl⟩
def hashV (z : Hash) : Value := .agg z.arr
theorem hash_reads (z : Hash) : ∃ l, keyOf Tryz.prog 38 (hashV z) = some l := by
  obtain ⟨d, hd⟩ : ∃ d, Tryz.prog.types.size = d + 1 := ⟨Tryz.prog.types.size - 1, by have : 0 < Tryz.prog.types.size := Nat.lt_of_le_of_lt (Nat.zero_le _) row30; omega⟩
  obtain ⟨l, hl⟩ := hash_lits _ d hd z
  refine ⟨.string (keyBytes l), ?_⟩
  have hf : (Value.agg z.arr).formed Tryz.prog 38 = true := by
    simp only [Value.formed, Tryz.underlying38, cells30]
    simp
  rw [keyOf, Tryz.underlying38]
  simp only [hashV, keyType30, hf, Bool.and_self, if_true, Value.cells, hl, Option.map_some]
theorem hashV_inj {x y : Hash} (h : hashV x = hashV y) : x = y := by
  unfold hashV at h
  have h1 : x.arr = y.arr := by injection h
  have h2 : x.arr.toList = y.arr.toList := by rw [h1]
  apply Hash.ext'
  apply List.ext_getElem (by rw [x.len, y.len])
  intro i hx hy
  have h3 : x.arr.toList[i]? = y.arr.toList[i]? := by rw [h2]
  simp only [Hash.arr, List.toList_toArray, List.getElem?_map, List.getElem?_eq_getElem hx, List.getElem?_eq_getElem hy, Option.map_some, Option.some.injEq, byteV] at h3
  have h4 : (x.l[i].toNat : Int) = (y.l[i].toNat : Int) := by injection h3
  exact UInt8.toNat_inj.1 (by omega)
theorem hash_enc : KeyEnc Tryz.prog 38 hashV := ⟨hash_keyed, hash_reads, hashV_inj⟩
end Go.Proofs.YtlkojkjeklblkaaGreat
