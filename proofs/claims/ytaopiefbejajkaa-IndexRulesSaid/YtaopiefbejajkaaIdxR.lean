/- A transaction of so many outputs, and its number, written out (by gen_rules.py). -/
import Derived.Test.YtaopiefbejajkaaTxF
import Derived.Test.YtaopiefbejajkaaAlike
set_option linter.unusedSimpArgs false
set_option linter.unusedVariables false
namespace Go.Proofs.Ytaopiefbejajkaa
def wR : Witness := ⟨1, 0, ByteArray.empty⟩
/-- A transaction of so many outputs. -/
def tR (m : Nat) : Tx := { ins := [⟨⟨nameS 1, 0⟩, 0, wR⟩], outs := List.replicate m ⟨9, ⟨1, 0, 0, 0, 0, 0, Hash.zero⟩⟩, lock := 0 }
/-- One that spends an output. -/
def uL (h : Hash) (n lock : Int) : Tx := { ins := [⟨⟨h, n⟩, 0, wR⟩], outs := [], lock := lock }
def tl0 : Hash := ⟨[219, 119, 91, 204, 67, 5, 72, 169, 194, 171, 33, 206, 181, 194, 152, 21, 159, 15, 251, 101, 194, 23, 9, 100, 40, 203, 240, 224, 83, 160, 205, 18], by decide⟩
theorem tn0 : idS (tR 0) = tl0 := by decide +kernel
theorem tc0 : checkS (tR 0) = 0 := by decide +kernel
theorem tk0 : tl0 ≠ nameS 1 := by decide +kernel
def tl1 : Hash := ⟨[30, 80, 15, 114, 236, 66, 104, 49, 135, 42, 17, 97, 243, 225, 251, 30, 20, 44, 61, 199, 140, 21, 143, 82, 121, 183, 17, 193, 172, 90, 117, 88], by decide⟩
theorem tn1 : idS (tR 1) = tl1 := by decide +kernel
theorem tc1 : checkS (tR 1) = 0 := by decide +kernel
theorem tk1 : tl1 ≠ nameS 1 := by decide +kernel
def tl2 : Hash := ⟨[110, 158, 155, 174, 120, 232, 106, 27, 83, 20, 230, 4, 42, 174, 203, 18, 115, 239, 231, 132, 70, 163, 232, 250, 45, 181, 185, 162, 197, 79, 165, 195], by decide⟩
theorem tn2 : idS (tR 2) = tl2 := by decide +kernel
theorem tc2 : checkS (tR 2) = 0 := by decide +kernel
theorem tk2 : tl2 ≠ nameS 1 := by decide +kernel
def tl3 : Hash := ⟨[215, 197, 28, 182, 16, 77, 194, 233, 53, 10, 106, 77, 139, 219, 255, 130, 59, 109, 83, 231, 208, 113, 207, 236, 70, 7, 47, 240, 96, 135, 27, 99], by decide⟩
theorem tn3 : idS (tR 3) = tl3 := by decide +kernel
theorem tc3 : checkS (tR 3) = 0 := by decide +kernel
theorem tk3 : tl3 ≠ nameS 1 := by decide +kernel
def tl4 : Hash := ⟨[130, 49, 53, 63, 186, 64, 47, 162, 167, 246, 25, 253, 7, 242, 98, 120, 134, 247, 118, 176, 182, 169, 184, 50, 141, 45, 50, 226, 77, 82, 53, 95], by decide⟩
theorem tn4 : idS (tR 4) = tl4 := by decide +kernel
theorem tc4 : checkS (tR 4) = 0 := by decide +kernel
theorem tk4 : tl4 ≠ nameS 1 := by decide +kernel
def tl5 : Hash := ⟨[7, 207, 57, 191, 226, 225, 226, 110, 4, 254, 1, 110, 193, 60, 87, 20, 144, 49, 35, 11, 142, 251, 165, 235, 112, 129, 242, 109, 254, 89, 195, 157], by decide⟩
theorem tn5 : idS (tR 5) = tl5 := by decide +kernel
theorem tc5 : checkS (tR 5) = 0 := by decide +kernel
theorem tk5 : tl5 ≠ nameS 1 := by decide +kernel
def tl6 : Hash := ⟨[65, 39, 28, 170, 168, 133, 187, 36, 189, 254, 60, 157, 5, 61, 76, 128, 207, 34, 12, 160, 147, 137, 50, 241, 55, 148, 54, 11, 203, 153, 20, 208], by decide⟩
theorem tn6 : idS (tR 6) = tl6 := by decide +kernel
theorem tc6 : checkS (tR 6) = 0 := by decide +kernel
theorem tk6 : tl6 ≠ nameS 1 := by decide +kernel
def tl7 : Hash := ⟨[24, 179, 145, 176, 196, 12, 103, 25, 102, 103, 206, 121, 8, 229, 143, 0, 123, 4, 202, 193, 54, 177, 176, 246, 221, 4, 17, 158, 86, 44, 250, 139], by decide⟩
theorem tn7 : idS (tR 7) = tl7 := by decide +kernel
theorem tc7 : checkS (tR 7) = 0 := by decide +kernel
theorem tk7 : tl7 ≠ nameS 1 := by decide +kernel
def tl8 : Hash := ⟨[230, 42, 239, 106, 235, 196, 86, 4, 170, 241, 173, 5, 76, 225, 89, 192, 28, 234, 230, 81, 205, 86, 238, 214, 75, 47, 145, 113, 68, 173, 76, 137], by decide⟩
theorem tn8 : idS (tR 8) = tl8 := by decide +kernel
theorem tc8 : checkS (tR 8) = 0 := by decide +kernel
theorem tk8 : tl8 ≠ nameS 1 := by decide +kernel
def tl9 : Hash := ⟨[73, 184, 191, 202, 138, 35, 201, 139, 162, 230, 121, 28, 106, 38, 147, 198, 25, 60, 107, 129, 89, 155, 82, 215, 189, 134, 214, 35, 21, 136, 218, 156], by decide⟩
theorem tn9 : idS (tR 9) = tl9 := by decide +kernel
theorem tc9 : checkS (tR 9) = 0 := by decide +kernel
theorem tk9 : tl9 ≠ nameS 1 := by decide +kernel
def tl10 : Hash := ⟨[191, 245, 107, 204, 232, 254, 201, 2, 209, 8, 193, 160, 174, 252, 235, 115, 74, 61, 29, 54, 19, 99, 197, 206, 13, 136, 4, 250, 104, 59, 12, 112], by decide⟩
theorem tn10 : idS (tR 10) = tl10 := by decide +kernel
theorem tc10 : checkS (tR 10) = 0 := by decide +kernel
theorem tk10 : tl10 ≠ nameS 1 := by decide +kernel
def tl11 : Hash := ⟨[20, 58, 75, 166, 254, 177, 203, 40, 238, 56, 206, 120, 28, 204, 90, 157, 28, 77, 37, 145, 197, 168, 155, 147, 106, 182, 132, 225, 84, 78, 248, 139], by decide⟩
theorem tn11 : idS (tR 11) = tl11 := by decide +kernel
theorem tc11 : checkS (tR 11) = 0 := by decide +kernel
theorem tk11 : tl11 ≠ nameS 1 := by decide +kernel
def tl12 : Hash := ⟨[82, 21, 36, 250, 7, 207, 194, 146, 240, 86, 231, 1, 33, 86, 111, 195, 232, 118, 162, 69, 106, 103, 50, 112, 125, 126, 227, 148, 208, 1, 35, 10], by decide⟩
theorem tn12 : idS (tR 12) = tl12 := by decide +kernel
theorem tc12 : checkS (tR 12) = 0 := by decide +kernel
theorem tk12 : tl12 ≠ nameS 1 := by decide +kernel
def tl13 : Hash := ⟨[117, 32, 233, 113, 169, 59, 192, 176, 199, 16, 94, 239, 162, 149, 180, 189, 123, 184, 53, 110, 223, 79, 61, 197, 15, 111, 191, 230, 143, 97, 40, 28], by decide⟩
theorem tn13 : idS (tR 13) = tl13 := by decide +kernel
theorem tc13 : checkS (tR 13) = 0 := by decide +kernel
theorem tk13 : tl13 ≠ nameS 1 := by decide +kernel
def tl14 : Hash := ⟨[140, 200, 225, 21, 188, 233, 201, 247, 113, 110, 145, 144, 227, 84, 37, 120, 227, 56, 71, 11, 103, 141, 239, 153, 251, 121, 0, 172, 251, 193, 22, 227], by decide⟩
theorem tn14 : idS (tR 14) = tl14 := by decide +kernel
theorem tc14 : checkS (tR 14) = 0 := by decide +kernel
theorem tk14 : tl14 ≠ nameS 1 := by decide +kernel
def tl15 : Hash := ⟨[164, 147, 160, 233, 199, 81, 29, 92, 35, 100, 33, 37, 26, 92, 127, 72, 229, 255, 169, 69, 121, 211, 23, 87, 131, 200, 0, 43, 206, 44, 66, 132], by decide⟩
theorem tn15 : idS (tR 15) = tl15 := by decide +kernel
theorem tc15 : checkS (tR 15) = 0 := by decide +kernel
theorem tk15 : tl15 ≠ nameS 1 := by decide +kernel
def tl16 : Hash := ⟨[25, 40, 46, 61, 80, 109, 117, 116, 163, 142, 111, 138, 110, 58, 198, 135, 95, 146, 250, 254, 128, 118, 240, 181, 42, 161, 6, 240, 55, 36, 85, 158], by decide⟩
theorem tn16 : idS (tR 16) = tl16 := by decide +kernel
theorem tc16 : checkS (tR 16) = 0 := by decide +kernel
theorem tk16 : tl16 ≠ nameS 1 := by decide +kernel
def tl17 : Hash := ⟨[120, 105, 144, 232, 179, 123, 55, 27, 135, 55, 50, 49, 110, 159, 90, 55, 133, 214, 23, 105, 59, 102, 195, 129, 10, 239, 84, 227, 2, 222, 28, 230], by decide⟩
theorem tn17 : idS (tR 17) = tl17 := by decide +kernel
theorem tc17 : checkS (tR 17) = 0 := by decide +kernel
theorem tk17 : tl17 ≠ nameS 1 := by decide +kernel
def tl18 : Hash := ⟨[170, 36, 250, 243, 145, 42, 180, 234, 254, 62, 71, 248, 10, 99, 40, 72, 38, 105, 20, 239, 131, 27, 144, 78, 208, 87, 164, 88, 107, 115, 4, 70], by decide⟩
theorem tn18 : idS (tR 18) = tl18 := by decide +kernel
theorem tc18 : checkS (tR 18) = 0 := by decide +kernel
theorem tk18 : tl18 ≠ nameS 1 := by decide +kernel
def tl19 : Hash := ⟨[159, 221, 70, 209, 4, 240, 208, 85, 16, 249, 249, 196, 226, 115, 144, 251, 75, 101, 246, 37, 14, 199, 120, 67, 219, 13, 17, 210, 151, 67, 190, 169], by decide⟩
theorem tn19 : idS (tR 19) = tl19 := by decide +kernel
theorem tc19 : checkS (tR 19) = 0 := by decide +kernel
theorem tk19 : tl19 ≠ nameS 1 := by decide +kernel
def tl20 : Hash := ⟨[19, 60, 138, 215, 18, 255, 144, 1, 193, 253, 180, 0, 196, 174, 50, 182, 3, 253, 22, 163, 69, 201, 116, 26, 149, 254, 130, 226, 1, 38, 226, 189], by decide⟩
theorem tn20 : idS (tR 20) = tl20 := by decide +kernel
theorem tc20 : checkS (tR 20) = 0 := by decide +kernel
theorem tk20 : tl20 ≠ nameS 1 := by decide +kernel
theorem t_all {m : Nat} (h : m ≤ 20) : checkS (tR m) = 0 ∧ idS (tR m) ≠ nameS 1 := by
  have : m = 0 ∨ m = 1 ∨ m = 2 ∨ m = 3 ∨ m = 4 ∨ m = 5 ∨ m = 6 ∨ m = 7 ∨ m = 8 ∨ m = 9 ∨ m = 10 ∨ m = 11 ∨ m = 12 ∨ m = 13 ∨ m = 14 ∨ m = 15 ∨ m = 16 ∨ m = 17 ∨ m = 18 ∨ m = 19 ∨ m = 20 := by omega
  rcases this with rfl | rfl | rfl | rfl | rfl | rfl | rfl | rfl | rfl | rfl | rfl | rfl | rfl | rfl | rfl | rfl | rfl | rfl | rfl | rfl | rfl
  · exact ⟨tc0, by rw [tn0]; exact tk0⟩
  · exact ⟨tc1, by rw [tn1]; exact tk1⟩
  · exact ⟨tc2, by rw [tn2]; exact tk2⟩
  · exact ⟨tc3, by rw [tn3]; exact tk3⟩
  · exact ⟨tc4, by rw [tn4]; exact tk4⟩
  · exact ⟨tc5, by rw [tn5]; exact tk5⟩
  · exact ⟨tc6, by rw [tn6]; exact tk6⟩
  · exact ⟨tc7, by rw [tn7]; exact tk7⟩
  · exact ⟨tc8, by rw [tn8]; exact tk8⟩
  · exact ⟨tc9, by rw [tn9]; exact tk9⟩
  · exact ⟨tc10, by rw [tn10]; exact tk10⟩
  · exact ⟨tc11, by rw [tn11]; exact tk11⟩
  · exact ⟨tc12, by rw [tn12]; exact tk12⟩
  · exact ⟨tc13, by rw [tn13]; exact tk13⟩
  · exact ⟨tc14, by rw [tn14]; exact tk14⟩
  · exact ⟨tc15, by rw [tn15]; exact tk15⟩
  · exact ⟨tc16, by rw [tn16]; exact tk16⟩
  · exact ⟨tc17, by rw [tn17]; exact tk17⟩
  · exact ⟨tc18, by rw [tn18]; exact tk18⟩
  · exact ⟨tc19, by rw [tn19]; exact tk19⟩
  · exact ⟨tc20, by rw [tn20]; exact tk20⟩
end Go.Proofs.Ytaopiefbejajkaa
