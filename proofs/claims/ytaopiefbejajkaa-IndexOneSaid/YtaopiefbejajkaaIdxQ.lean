/- A chain of thirty transactions, each of which spends the one ahead: their numbers, written out (by gen_chain.py), and that no two are alike. What a chain of thirty transactions, in two blocks, is to an index: in plain words. Law IndexOne: the walk. -/
import Derived.Test.YtaopiefbejajkaaTxF
import Derived.Test.YtaopiefbejajkaaAlike
import Derived.Test.YtaopiefbejajkaaIdxM
set_option linter.unusedSimpArgs false
set_option linter.unusedVariables false
namespace Go.Proofs.Ytaopiefbejajkaa
def oneT (i : Nat) (h : Hash) : Tx := { ins := [⟨⟨h, 0⟩, 0, ⟨1, 0, ByteArray.empty⟩⟩], outs := [⟨100 - (i : Int), ⟨1, 0, 0, 0, 0, 0, Hash.zero⟩⟩], lock := 0 }
def chainP : Nat → Hash
  | 0 => nameS 3
  | i + 1 => idS (oneT i (chainP i))
def lit0 : Hash := ⟨[3, 0, 0, 0, 0, 0, 0, 0, 0, 0, 0, 0, 0, 0, 0, 0, 0, 0, 0, 0, 0, 0, 0, 0, 0, 0, 0, 0, 0, 0, 0, 1], by decide⟩
def lit1 : Hash := ⟨[7, 250, 26, 188, 125, 204, 161, 11, 36, 30, 109, 31, 36, 16, 110, 128, 180, 108, 91, 108, 127, 168, 140, 42, 232, 66, 79, 11, 40, 59, 156, 4], by decide⟩
def lit2 : Hash := ⟨[199, 185, 144, 236, 89, 237, 200, 56, 181, 107, 41, 48, 48, 76, 114, 228, 31, 115, 191, 149, 154, 0, 68, 93, 99, 13, 35, 144, 243, 216, 96, 158], by decide⟩
def lit3 : Hash := ⟨[60, 1, 198, 205, 127, 167, 28, 13, 205, 212, 247, 117, 31, 1, 29, 197, 82, 87, 131, 189, 141, 115, 80, 178, 106, 104, 209, 135, 184, 183, 191, 227], by decide⟩
def lit4 : Hash := ⟨[210, 80, 151, 19, 129, 213, 47, 6, 19, 191, 47, 98, 8, 118, 191, 98, 213, 255, 197, 186, 52, 75, 44, 85, 166, 177, 166, 54, 111, 47, 208, 138], by decide⟩
def lit5 : Hash := ⟨[121, 101, 94, 6, 175, 48, 215, 47, 27, 35, 184, 196, 52, 28, 15, 209, 125, 21, 64, 131, 189, 209, 65, 172, 201, 90, 35, 50, 8, 224, 154, 119], by decide⟩
def lit6 : Hash := ⟨[59, 181, 250, 135, 19, 137, 154, 210, 13, 48, 126, 10, 37, 144, 191, 185, 38, 33, 62, 138, 235, 166, 176, 217, 234, 224, 105, 94, 202, 178, 180, 51], by decide⟩
def lit7 : Hash := ⟨[89, 169, 29, 219, 147, 237, 77, 79, 89, 138, 21, 83, 147, 108, 166, 96, 77, 49, 244, 221, 184, 135, 157, 189, 212, 79, 163, 177, 220, 17, 92, 188], by decide⟩
def lit8 : Hash := ⟨[58, 173, 150, 39, 32, 156, 127, 71, 45, 204, 253, 114, 238, 198, 143, 16, 5, 188, 186, 101, 143, 71, 140, 236, 110, 108, 238, 26, 208, 27, 41, 16], by decide⟩
def lit9 : Hash := ⟨[252, 127, 79, 254, 90, 118, 130, 104, 6, 219, 244, 208, 18, 0, 186, 199, 101, 154, 62, 42, 246, 28, 51, 39, 81, 99, 163, 125, 170, 36, 13, 230], by decide⟩
def lit10 : Hash := ⟨[49, 51, 220, 176, 23, 8, 59, 223, 152, 50, 40, 111, 182, 56, 71, 184, 147, 98, 158, 176, 219, 34, 48, 94, 206, 17, 28, 50, 242, 176, 219, 235], by decide⟩
def lit11 : Hash := ⟨[38, 44, 204, 66, 154, 89, 226, 122, 88, 53, 109, 68, 142, 92, 187, 66, 1, 68, 177, 230, 59, 48, 112, 12, 191, 110, 199, 111, 136, 52, 42, 255], by decide⟩
def lit12 : Hash := ⟨[85, 119, 24, 101, 0, 90, 124, 174, 126, 230, 107, 44, 244, 165, 225, 88, 192, 81, 145, 237, 253, 101, 234, 217, 128, 155, 63, 128, 106, 0, 37, 34], by decide⟩
def lit13 : Hash := ⟨[78, 57, 72, 56, 126, 68, 7, 122, 47, 137, 136, 195, 92, 51, 27, 32, 237, 11, 0, 186, 24, 13, 24, 212, 119, 159, 115, 150, 189, 253, 45, 120], by decide⟩
def lit14 : Hash := ⟨[102, 90, 234, 31, 73, 113, 143, 99, 42, 146, 97, 200, 18, 124, 232, 160, 21, 48, 244, 207, 242, 214, 53, 226, 185, 111, 236, 94, 103, 104, 154, 80], by decide⟩
def lit15 : Hash := ⟨[16, 93, 68, 100, 51, 162, 21, 22, 13, 132, 8, 34, 65, 24, 136, 167, 170, 238, 203, 193, 251, 89, 204, 179, 236, 87, 17, 127, 70, 241, 146, 174], by decide⟩
def lit16 : Hash := ⟨[29, 95, 178, 11, 179, 240, 92, 35, 79, 204, 206, 156, 4, 246, 33, 18, 233, 173, 166, 85, 32, 51, 19, 111, 180, 120, 101, 30, 243, 191, 152, 38], by decide⟩
def lit17 : Hash := ⟨[87, 50, 56, 148, 130, 112, 251, 98, 22, 192, 66, 124, 218, 95, 182, 246, 30, 36, 198, 100, 195, 147, 198, 122, 140, 73, 236, 119, 169, 187, 72, 125], by decide⟩
def lit18 : Hash := ⟨[46, 138, 123, 68, 1, 191, 203, 118, 11, 29, 9, 195, 102, 173, 137, 140, 47, 233, 38, 254, 150, 216, 100, 136, 155, 176, 183, 64, 44, 50, 76, 217], by decide⟩
def lit19 : Hash := ⟨[239, 204, 169, 120, 187, 230, 220, 31, 131, 203, 42, 3, 97, 180, 6, 161, 41, 208, 222, 191, 218, 111, 117, 44, 9, 110, 129, 108, 206, 220, 0, 1], by decide⟩
def lit20 : Hash := ⟨[187, 64, 4, 180, 249, 73, 132, 230, 226, 226, 220, 160, 250, 233, 162, 246, 6, 94, 143, 244, 28, 39, 120, 34, 206, 47, 85, 9, 246, 232, 34, 202], by decide⟩
def lit21 : Hash := ⟨[16, 30, 202, 190, 176, 28, 0, 55, 144, 117, 44, 38, 133, 18, 94, 136, 255, 0, 74, 127, 152, 80, 158, 71, 140, 183, 146, 98, 194, 200, 74, 103], by decide⟩
def lit22 : Hash := ⟨[110, 10, 171, 94, 106, 194, 165, 107, 209, 130, 96, 125, 118, 248, 167, 227, 175, 213, 43, 138, 189, 31, 82, 168, 79, 69, 14, 151, 14, 198, 225, 162], by decide⟩
def lit23 : Hash := ⟨[207, 129, 163, 161, 41, 153, 149, 145, 48, 169, 56, 117, 182, 184, 170, 152, 132, 72, 219, 22, 128, 247, 187, 184, 85, 7, 239, 145, 30, 29, 112, 71], by decide⟩
def lit24 : Hash := ⟨[93, 162, 199, 48, 213, 138, 203, 149, 57, 34, 161, 14, 60, 255, 32, 155, 136, 98, 80, 209, 56, 143, 81, 126, 192, 45, 241, 182, 227, 89, 126, 192], by decide⟩
def lit25 : Hash := ⟨[163, 24, 114, 212, 189, 222, 196, 87, 25, 192, 5, 16, 109, 83, 157, 30, 107, 166, 114, 80, 117, 167, 52, 215, 68, 240, 78, 112, 71, 117, 115, 104], by decide⟩
def lit26 : Hash := ⟨[58, 10, 179, 222, 105, 178, 119, 160, 69, 226, 226, 27, 139, 28, 37, 37, 252, 13, 28, 221, 43, 75, 47, 237, 111, 244, 108, 98, 114, 64, 206, 92], by decide⟩
def lit27 : Hash := ⟨[8, 205, 216, 3, 86, 27, 100, 55, 32, 54, 194, 191, 178, 90, 23, 210, 115, 13, 233, 207, 147, 176, 89, 160, 230, 154, 144, 211, 117, 35, 220, 25], by decide⟩
def lit28 : Hash := ⟨[21, 69, 80, 221, 215, 255, 175, 235, 39, 97, 226, 100, 15, 123, 172, 243, 251, 200, 89, 162, 84, 253, 98, 188, 76, 91, 64, 215, 157, 228, 34, 218], by decide⟩
def lit29 : Hash := ⟨[120, 29, 4, 182, 154, 32, 231, 170, 8, 85, 193, 236, 42, 18, 130, 92, 46, 208, 149, 253, 174, 252, 15, 145, 109, 47, 113, 36, 158, 130, 73, 14], by decide⟩
def lit30 : Hash := ⟨[220, 242, 223, 226, 165, 9, 92, 73, 148, 27, 69, 86, 183, 153, 208, 77, 129, 70, 44, 130, 183, 181, 90, 28, 222, 117, 40, 34, 221, 100, 251, 192], by decide⟩
theorem ch0 : chainP 0 = lit0 := by decide +kernel
theorem ch1 : chainP 1 = lit1 := by
  show idS (oneT 0 (chainP 0)) = lit1
  rw [ch0]; decide +kernel
theorem ch2 : chainP 2 = lit2 := by
  show idS (oneT 1 (chainP 1)) = lit2
  rw [ch1]; decide +kernel
theorem ch3 : chainP 3 = lit3 := by
  show idS (oneT 2 (chainP 2)) = lit3
  rw [ch2]; decide +kernel
theorem ch4 : chainP 4 = lit4 := by
  show idS (oneT 3 (chainP 3)) = lit4
  rw [ch3]; decide +kernel
theorem ch5 : chainP 5 = lit5 := by
  show idS (oneT 4 (chainP 4)) = lit5
  rw [ch4]; decide +kernel
theorem ch6 : chainP 6 = lit6 := by
  show idS (oneT 5 (chainP 5)) = lit6
  rw [ch5]; decide +kernel
theorem ch7 : chainP 7 = lit7 := by
  show idS (oneT 6 (chainP 6)) = lit7
  rw [ch6]; decide +kernel
theorem ch8 : chainP 8 = lit8 := by
  show idS (oneT 7 (chainP 7)) = lit8
  rw [ch7]; decide +kernel
theorem ch9 : chainP 9 = lit9 := by
  show idS (oneT 8 (chainP 8)) = lit9
  rw [ch8]; decide +kernel
theorem ch10 : chainP 10 = lit10 := by
  show idS (oneT 9 (chainP 9)) = lit10
  rw [ch9]; decide +kernel
theorem ch11 : chainP 11 = lit11 := by
  show idS (oneT 10 (chainP 10)) = lit11
  rw [ch10]; decide +kernel
theorem ch12 : chainP 12 = lit12 := by
  show idS (oneT 11 (chainP 11)) = lit12
  rw [ch11]; decide +kernel
theorem ch13 : chainP 13 = lit13 := by
  show idS (oneT 12 (chainP 12)) = lit13
  rw [ch12]; decide +kernel
theorem ch14 : chainP 14 = lit14 := by
  show idS (oneT 13 (chainP 13)) = lit14
  rw [ch13]; decide +kernel
theorem ch15 : chainP 15 = lit15 := by
  show idS (oneT 14 (chainP 14)) = lit15
  rw [ch14]; decide +kernel
theorem ch16 : chainP 16 = lit16 := by
  show idS (oneT 15 (chainP 15)) = lit16
  rw [ch15]; decide +kernel
theorem ch17 : chainP 17 = lit17 := by
  show idS (oneT 16 (chainP 16)) = lit17
  rw [ch16]; decide +kernel
theorem ch18 : chainP 18 = lit18 := by
  show idS (oneT 17 (chainP 17)) = lit18
  rw [ch17]; decide +kernel
theorem ch19 : chainP 19 = lit19 := by
  show idS (oneT 18 (chainP 18)) = lit19
  rw [ch18]; decide +kernel
theorem ch20 : chainP 20 = lit20 := by
  show idS (oneT 19 (chainP 19)) = lit20
  rw [ch19]; decide +kernel
theorem ch21 : chainP 21 = lit21 := by
  show idS (oneT 20 (chainP 20)) = lit21
  rw [ch20]; decide +kernel
theorem ch22 : chainP 22 = lit22 := by
  show idS (oneT 21 (chainP 21)) = lit22
  rw [ch21]; decide +kernel
theorem ch23 : chainP 23 = lit23 := by
  show idS (oneT 22 (chainP 22)) = lit23
  rw [ch22]; decide +kernel
theorem ch24 : chainP 24 = lit24 := by
  show idS (oneT 23 (chainP 23)) = lit24
  rw [ch23]; decide +kernel
theorem ch25 : chainP 25 = lit25 := by
  show idS (oneT 24 (chainP 24)) = lit25
  rw [ch24]; decide +kernel
theorem ch26 : chainP 26 = lit26 := by
  show idS (oneT 25 (chainP 25)) = lit26
  rw [ch25]; decide +kernel
theorem ch27 : chainP 27 = lit27 := by
  show idS (oneT 26 (chainP 26)) = lit27
  rw [ch26]; decide +kernel
theorem ch28 : chainP 28 = lit28 := by
  show idS (oneT 27 (chainP 27)) = lit28
  rw [ch27]; decide +kernel
theorem ch29 : chainP 29 = lit29 := by
  show idS (oneT 28 (chainP 28)) = lit29
  rw [ch28]; decide +kernel
theorem ch30 : chainP 30 = lit30 := by
  show idS (oneT 29 (chainP 29)) = lit30
  rw [ch29]; decide +kernel
def lits : List Hash := [lit0, lit1, lit2, lit3, lit4, lit5, lit6, lit7, lit8, lit9, lit10, lit11, lit12, lit13, lit14, lit15, lit16, lit17, lit18, lit19, lit20, lit21, lit22, lit23, lit24, lit25, lit26, lit27, lit28, lit29, lit30]
theorem lits_nodup : lits.Nodup := by decide +kernel
theorem lits_eq : (List.range 31).map chainP = lits := by
  show [chainP 0, chainP 1, chainP 2, chainP 3, chainP 4, chainP 5, chainP 6, chainP 7, chainP 8, chainP 9, chainP 10, chainP 11, chainP 12, chainP 13, chainP 14, chainP 15, chainP 16, chainP 17, chainP 18, chainP 19, chainP 20, chainP 21, chainP 22, chainP 23, chainP 24, chainP 25, chainP 26, chainP 27, chainP 28, chainP 29, chainP 30] = lits
  rw [ch0, ch1, ch2, ch3, ch4, ch5, ch6, ch7, ch8, ch9, ch10, ch11, ch12, ch13, ch14, ch15, ch16, ch17, ch18, ch19, ch20, ch21, ch22, ch23, ch24, ch25, ch26, ch27, ch28, ch29, ch30]; rfl
theorem chain_ne_lt {i j : Nat} (hj : j ≤ 30) (h : i < j) : chainP i ≠ chainP j := by
  have hn := lits_nodup
  rw [← lits_eq] at hn
  have := List.pairwise_iff_getElem.1 hn i j (by simp; omega) (by simp; omega) h
  simpa using this
theorem chain_inj {i j : Nat} (hi : i ≤ 30) (hj : j ≤ 30) (h : chainP i = chainP j) : i = j := by
  rcases Nat.lt_trichotomy i j with hl | hl | hl
  · exact absurd h (chain_ne_lt hj hl)
  · exact hl
  · exact absurd h.symm (chain_ne_lt hi hl)
theorem chain_ne {i j : Nat} (hi : i ≤ 30) (hj : j ≤ 30) (h : i ≠ j) : chainP i ≠ chainP j := fun e => h (chain_inj hi hj e)
end Go.Proofs.Ytaopiefbejajkaa
namespace Go.Proofs.Ytaopiefbejajkaa
def tOne (i : Nat) : Tx := oneT i (chainP i)
theorem chain_succ (i : Nat) : idS (tOne i) = chainP (i + 1) := rfl
theorem ins_tOne (i : Nat) : (tOne i).ins = [⟨⟨chainP i, 0⟩, 0, ⟨1, 0, ByteArray.empty⟩⟩] := rfl
theorem check_oneT (i : Nat) (hi : i < 30) (h : Hash) : checkS (oneT i h) = 0 := by
  have h1 : inGood [⟨⟨h, 0⟩, 0, ⟨1, 0, ByteArray.empty⟩⟩] 0 = true := by
    show ((wth 0 0 99 && wth 0 0 65535 && witOk ⟨1, 0, ByteArray.empty⟩) && decide (spendsAt [] _ < 0)) = true
    rw [show (wth 0 0 99 && wth 0 0 65535 && witOk ⟨1, 0, ByteArray.empty⟩) = true by decide +kernel]
    rfl
  have h2 : insOk [⟨⟨h, 0⟩, 0, ⟨1, 0, ByteArray.empty⟩⟩] = true := by
    refine insOk_true (fun k hk => ?_)
    have : k = 0 := by simpa using hk
    subst this
    exact h1
  have hall : ∀ i < 30, (oneT i Hash.zero).outs.all (fun o => scriptOk o.script) = true ∧ (totalS 0 (valsOf (oneT i Hash.zero).outs)).2 = 0 := by decide +kernel
  obtain ⟨h3, h4⟩ := hall i hi
  unfold checkS
  rw [if_neg (by simp [oneT]), if_neg]
  · exact h4
  · rintro (e | e | e | e)
    · simp [oneT] at e
    · exact absurd (e.symm.trans h2) (by decide)
    · exact absurd (e.symm.trans h3) (by decide)
    · exact absurd (e.symm.trans (show wth 0 0 1000000 = true by decide)) (by decide)
theorem check_tOne {i : Nat} (hi : i < 30) : checkS (tOne i) = 0 := check_oneT i hi _
/-- So many of the chain, from one on. -/
def segT (a m : Nat) : List Tx := (List.range' a m).map tOne
theorem segT_len (a m : Nat) : (segT a m).length = m := by simp [segT]
theorem segT_get (a m k : Nat) (h : k < (segT a m).length) : (segT a m)[k] = tOne (a + k) := by simp [segT]
theorem seg_ids (a m : Nat) : (segT a m).map idS = (List.range' a m).map (fun i => chainP (i + 1)) := by simp [segT, chain_succ]
theorem seg_nodup {a m : Nat} (h : a + m ≤ 30) : ((segT a m).map idS).Nodup := by
  rw [seg_ids, List.nodup_iff_pairwise_ne, List.pairwise_iff_getElem]
  intro i j hi hj hij
  simp only [List.length_map, List.length_range'] at hi hj
  simp only [List.getElem_map, List.getElem_range', Nat.one_mul]
  exact chain_ne (by omega) (by omega) (by omega)
theorem seg_txs {a m : Nat} (h : a + m ≤ 30) : txsS (segT a m) = 0 := by
  unfold txsS
  rw [if_neg (by rw [segT_len]; omega), if_neg, if_pos]
  · refine apartS_true (seg_nodup h) ?_ (fun k hk j hj => ?_)
    · have e : pointsOf (segT a m) = (List.range' a m).map (fun i => (⟨chainP i, 0⟩ : Outpoint)) := by
        unfold pointsOf segT
        rw [List.flatMap_map]
        simp only [ins_tOne, List.map_cons, List.map_nil]
        induction (List.range' a m) with
        | nil => rfl
        | cons x l ih => simp [List.flatMap_cons, ih]
      rw [e, List.nodup_iff_pairwise_ne, List.pairwise_iff_getElem]
      intro i j hi hj hij
      simp only [List.length_map, List.length_range'] at hi hj
      simp only [List.getElem_map, List.getElem_range', Nat.one_mul]
      intro he
      exact chain_ne (i := a + i) (j := a + j) (by omega) (by omega) (by omega) (by injection he)
    · rw [segT_len] at hk
      have hj0 : j = 0 := by simp only [segT_get, ins_tOne, List.length_cons, List.length_nil] at hj; omega
      subst hj0
      have e : ((segT a m)[k]'(by rw [segT_len]; exact hk)).ins[0] = ⟨⟨chainP (a + k), 0⟩, 0, ⟨1, 0, ByteArray.empty⟩⟩ := by simp only [segT_get, ins_tOne, List.getElem_cons_zero]
      rw [e]
      unfold inOkAt
      show (match posS ((segT a m).map idS) (chainP (a + k)) with | some q => decide (q < k) | none => true) = true
      by_cases hk0 : k = 0
      · subst hk0
        have : posS ((segT a m).map idS) (chainP (a + 0)) = none := posS_none.2 (by
          rw [seg_ids]; intro hm
          obtain ⟨i, hi, he⟩ := List.mem_map.1 hm
          rw [List.mem_range'] at hi
          obtain ⟨q, hq, rfl⟩ := hi
          exact chain_ne (i := a + 1 * q + 1) (j := a + 0) (by omega) (by omega) (by omega) he)
        rw [this]
      · have hl : k - 1 < ((segT a m).map idS).length := by simp [segT_len]; omega
        have hg : ((segT a m).map idS)[k - 1] = chainP (a + k) := by
          simp only [seg_ids, List.getElem_map, List.getElem_range', Nat.one_mul]
          congr 1; omega
        have : posS ((segT a m).map idS) (chainP (a + k)) = some (k - 1) := by
          unfold posS
          rw [if_pos (by rw [← hg]; exact List.getElem_mem hl), ← hg]
          rw [List.Nodup.idxOf_getElem (seg_nodup h)]
        rw [this]
        simp; omega
  · have : firstErr (segT a m) = 0 := by
      unfold firstErr
      rw [List.find?_eq_none.2]
      intro t ht
      obtain ⟨i, hi, rfl⟩ := List.mem_map.1 ht
      rw [List.mem_range'] at hi
      obtain ⟨q, hq, rfl⟩ := hi
      rw [check_tOne (by omega)]; decide
    simp [this]
/-- The first j of the chain are in, each at its height. -/
structure ChainAt (M : Maps) (j : Nat) (f : Nat → Nat) : Prop where
  tx : ∀ i, i < j → M.txs (chainP (i + 1)) = some (tOne i, f i)
  nt : ∀ z, (∀ i, i < j → z ≠ chainP (i + 1)) → M.txs z = none
  sp : ∀ i, i < j → M.sp ⟨chainP i, 0⟩ = some (chainP (i + 1))
  ns : ∀ q, (∀ i, i < j → q ≠ ⟨chainP i, 0⟩) → M.sp q = none
theorem chain_zero : ChainAt Maps.zero 0 (fun _ => 0) := ⟨fun i h => by omega, fun _ _ => rfl, fun i h => by omega, fun _ _ => rfl⟩
theorem chain_step {M : Maps} {j : Nat} {f : Nat → Nat} (h : Nat) (hc : ChainAt M j f) (hj : j < 30) : mayS M (tOne j) = true ∧ ChainAt (addTx h M (tOne j)) (j + 1) (fun i => if i < j then f i else h) := by
  have hp : ∀ {a b : Nat}, a ≤ 30 → b ≤ 30 → a ≠ b → (⟨chainP a, 0⟩ : Outpoint) ≠ ⟨chainP b, 0⟩ := fun ha hb hab e => chain_ne ha hb hab (by injection e)
  refine ⟨?_, ?_, ?_, ?_, ?_⟩
  · rw [mayS_spec]
    refine ⟨hc.nt _ (fun i hi => by rw [chain_succ]; exact chain_ne (by omega) (by omega) (by omega)), fun x hx => ?_⟩
    have e : x = ⟨⟨chainP j, 0⟩, 0, ⟨1, 0, ByteArray.empty⟩⟩ := by rw [ins_tOne] at hx; simpa using hx
    subst e
    refine ⟨hc.ns _ (fun i hi => hp (by omega) (by omega) (by omega)), fun y hy => ?_⟩
    cases j with
    | zero =>
      rw [show (⟨⟨chainP 0, 0⟩, 0, ⟨1, 0, ByteArray.empty⟩⟩ : In).prev.tx = chainP 0 from rfl, hc.nt _ (fun i hi => by omega)] at hy
      cases hy
    | succ j =>
      rw [show (⟨⟨chainP (j + 1), 0⟩, 0, ⟨1, 0, ByteArray.empty⟩⟩ : In).prev.tx = chainP (j + 1) from rfl, hc.tx j (by omega)] at hy
      injection hy with hy
      subst hy
      show (0 : Int) < ((tOne j).outs.length : Int)
      simp [tOne, oneT]
  · intro i hi
    show updF M.txs (chainP (j + 1)) _ _ = _
    by_cases e : i = j
    · subst e; rw [updF_same]; simp
    · rw [updF_other (chain_ne (by omega) (by omega) (by omega)), hc.tx i (by omega)]
      simp [show i < j by omega]
  · intro z hz
    show updF M.txs (chainP (j + 1)) _ _ = _
    rw [updF_other (hz j (by omega))]
    exact hc.nt z (fun i hi => hz i (by omega))
  · intro i hi
    show putIns M.sp (tOne j).ins (idS (tOne j)) _ = _
    rw [putIns_eq, ins_tOne, chain_succ]
    by_cases e : i = j
    · subst e; simp
    · rw [if_neg (by simpa using hp (a := i) (b := j) (by omega) (by omega) e)]
      exact hc.sp i (by omega)
  · intro q hq
    show putIns M.sp (tOne j).ins (idS (tOne j)) _ = _
    rw [putIns_eq, ins_tOne, if_neg (by simpa using hq j (by omega))]
    exact hc.ns q (fun i hi => hq i (by omega))
theorem seg_cons (a m : Nat) : segT a (m + 1) = tOne a :: segT (a + 1) m := by simp [segT, List.range'_succ]
theorem chain_all (h : Nat) : ∀ (m : Nat) (M : Maps) (j : Nat) (f : Nat → Nat), ChainAt M j f → j + m ≤ 30 → mayAll h M (segT j m) = true ∧ ChainAt (addAll h M (segT j m)) (j + m) (fun i => if i < j then f i else h)
  | 0, M, j, f, hc, hj => ⟨rfl, ⟨fun i hi => by rw [if_pos (show i < j by omega)]; exact hc.tx i hi, hc.nt, hc.sp, hc.ns⟩⟩
  | m + 1, M, j, f, hc, hj => by
    obtain ⟨h1, h2⟩ := chain_step h hc (by omega)
    obtain ⟨h3, h4⟩ := chain_all h m _ _ _ h2 (by omega)
    rw [seg_cons]
    refine ⟨by simp [mayAll, h1, h3], ?_⟩
    show ChainAt (addAll h (addTx h M (tOne j)) (segT (j + 1) m)) _ _
    rw [show j + (m + 1) = j + 1 + m by omega]
    have e : (fun i => if i < j then f i else h) = fun i => if i < j + 1 then (if i < j then f i else h) else h := by
      funext i
      by_cases h1 : i < j
      · simp [h1, show i < j + 1 by omega]
      · simp [h1]
    rw [e]; exact h4
theorem con_seg1 {k : Nat} (hk : k ≤ 30) : conE [] (segT 0 k) = 0 := conE_zero.2 ⟨seg_txs (by omega), (chain_all 1 k Maps.zero 0 _ chain_zero (by omega)).1⟩
theorem con_seg2 {k m : Nat} (hk : k + m ≤ 30) : conE [segT 0 k] (segT k m) = 0 ∧ ChainAt (mapsOf [segT 0 k, segT k m]) (k + m) (fun i => if i < k then 1 else 2) := by
  have h1 := (chain_all 1 k Maps.zero 0 _ chain_zero (by omega)).2
  rw [Nat.zero_add] at h1
  obtain ⟨h2, h3⟩ := chain_all 2 m _ k _ h1 (by omega)
  have e1 : mapsOf [segT 0 k] = addAll 1 Maps.zero (segT 0 k) := by rw [show [segT 0 k] = [] ++ [segT 0 k] from rfl, mapsOf_snoc]; rfl
  have e2 : mapsOf [segT 0 k, segT k m] = addAll 2 (mapsOf [segT 0 k]) (segT k m) := by rw [show [segT 0 k, segT k m] = [segT 0 k] ++ [segT k m] from rfl, mapsOf_snoc]; rfl
  refine ⟨conE_zero.2 ⟨seg_txs hk, by unfold mayBlock; rw [e1]; exact h2⟩, ?_⟩
  rw [e2, e1]
  have e : (fun i => if i < k then (if i < 0 then 0 else 1) else 2) = fun i => if i < k then 1 else 2 := by funext i; simp
  rw [← e]; exact h3
theorem out_chain {M : Maps} {n : Nat} {f : Nat → Nat} (hc : ChainAt M n f) {i : Nat} (hi : i < n) : ∃ o, outM M ⟨chainP (i + 1), 0⟩ = (o, (f i : Int), true) := by
  unfold outM
  rw [hc.tx i hi]
  refine ⟨⟨100 - (i : Int), ⟨1, 0, 0, 0, 0, 0, Hash.zero⟩⟩, ?_⟩
  simp [tOne, oneT]
theorem sp_chain {M : Maps} {n : Nat} {f : Nat → Nat} (hc : ChainAt M n f) (hn : n ≤ 30) {i : Nat} (hi : i < n) : (i + 1 < n → spM M ⟨chainP (i + 1), 0⟩ = (chainP (i + 2), (f (i + 1) : Int), true)) ∧ (i + 1 = n → ∃ z x, spM M ⟨chainP (i + 1), 0⟩ = (z, x, false)) := by
  constructor
  · intro h
    unfold spM
    rw [hc.sp (i + 1) h]
    show (chainP (i + 1 + 1), (match M.txs (chainP (i + 1 + 1)) with | some x => ((x.2 : Nat) : Int) | none => 0), true) = _
    rw [hc.tx (i + 1) h]
  · intro h
    unfold spM
    rw [hc.ns ⟨chainP (i + 1), 0⟩ (fun q hq e => chain_ne (i := i + 1) (j := q) (by omega) (by omega) (by omega) (by injection e))]
    exact ⟨_, _, rfl⟩
end Go.Proofs.Ytaopiefbejajkaa
namespace Go.Proofs.Ytaopiefbejajkaa
open Go.RowKit
open Go.Sort
theorem wf_i64 {a : Int} (h : (Lit.int .i64 a).wf = true) : -9223372036854775808 ≤ a ∧ a ≤ 9223372036854775807 := by
  simp [Lit.wf, IntKind.min, IntKind.max, IntKind.bits, IntKind.signed] at h
  exact h
theorem info_TxV' : ∃ i, Try.prog.info? 51 = some i ∧ i.zero = some (.agg TxV.zero.arr) ∧ i.size = 3 ∧ i.bytes = 56 := by
  have h : (Try.prog.info? 51).map (fun i => (i.zero, i.size, i.bytes)) = some (some (.agg TxV.zero.arr), 3, 56) := by kernel_rfl
  obtain ⟨i0, hi, hz0, hz1, hz2⟩ := info_parts h
  exact ⟨i0, hi, hz0, hz1, hz2⟩
/-- A transaction put behind transactions of one's own. -/
theorem own_tx1 {w : World} {base : Nat} {v : Value} {n : Nat} {l : List TxV} (h : w.ownsRow base 51 3 v n (vsOf TxV.arr l)) {b c : Nat} {x : TxV} (hb : w.heap[b]? = some (.cells x.arr 51 (0, 0))) (hbase : base ≤ w.heap.size) (hl : n ≤ 1000000) :
    ∃ v' w', (∀ ty, (Builtin.append_ #[72, 72] ty #[v, .slice (some ⟨b, 0, none⟩) 1 c]).run Try.prog w = .ok v' w') ∧ w'.ownsRow base 51 3 v' (n + 1) (vsOf TxV.arr (l ++ [x])) ∧ Upd w w' (fun j => v.ownBlock = some j) ∧ (∀ j, v'.ownBlock = some j → v.ownBlock = some j ∨ w.heap.size ≤ j) := by
  obtain ⟨i0, hi0, hz0, hz1, hz2⟩ := info_TxV'
  obtain ⟨v', w', hr, h2, h3, h4, h5⟩ := run_append_own_at (P := Try.prog) w base 72 0 51 i0 (.agg TxV.zero.arr) 3 56 Try.underlying72 hi0 hz0 hz1 hz2 (by simp [Value.cells]) (by decide) v n _ h ⟨b, 0, none⟩ 1 c x.arr.toList (by simp) (World.news_of_block hb) (one_TxV x) (by unfold maxLen; omega) (by omega) hbase
  refine ⟨v', w', fun ty => hr, by rw [vsOf_snoc]; exact h2, Upd.grown h3, fun j e => ?_⟩
  rcases h5 with e2 | e2
  · exact .inl (e2 ▸ e)
  · rw [e2] at e; cases e; exact .inr (Nat.le_refl _)
/-- The chain so far: the list is one's own, the place that comes next lies in block pb. -/
structure ChainL (w0 w : World) (pb k : Nat) (v : Value) (vs : List TxV) : Prop where
  len : vs.length = k
  own : w.ownsRow (pb + 1) 51 3 v k (vsOf TxV.arr vs)
  prev : w.heap[pb]? = some (.cells (Outpoint.mk (chainP k) 0).arr 32 (0, 0))
  txs : ∀ j (h : j < vs.length), txIn w (fun q => pb < q ∧ v.ownBlock ≠ some q) vs[j] (tOne j)
  low : w0.heap.size ≤ pb
  below : Below w0.heap.size w0 w
theorem slIn_sub {α : Type} {w : World} {Z : Nat → Prop} {sz : Nat} {enc : α → Array Value} {l : List α} {b off n c : Nat} (h : slIn w Z ⟨some ⟨b, off, none⟩, n, c⟩ sz enc l) {a m : Nat} (hm : a + m ≤ l.length) : slIn w Z ⟨some ⟨b, off + a * sz, none⟩, m, c - a⟩ sz enc ((l.drop a).take m) := by
  obtain ⟨h1, h2, h3, h4⟩ := h
  simp only at h1 h2 h3 h4
  refine ⟨by simp; omega, by show m ≤ c - a; omega, by show c - a ≤ maxLen; omega, fun hne => ?_⟩
  have hl : l ≠ [] := by rintro rfl; simp at hne
  obtain ⟨b', off', e, hz, hlt, hr⟩ := h4 hl
  cases e
  refine ⟨b, off + a * sz, rfl, hz, hlt, fun k hk => ?_⟩
  have hk2 : k < m ∧ a + k < l.length := by simp at hk; omega
  have := hr (a + k) hk2.2
  rw [show off + a * sz + k * sz = off + (a + k) * sz by rw [Nat.add_mul]; omega, this]
  simp
theorem txsIn_sub {w : World} {Z : Nat → Prop} {b off n c : Nat} {vs : List TxV} {k : Nat} (h : slIn w Z ⟨some ⟨b, off, none⟩, n, c⟩ 3 TxV.arr vs) (hl : vs.length = k) (ht : ∀ j (h : j < vs.length), txIn w Z vs[j] (tOne j)) {a m : Nat} (hm : a + m ≤ k) : txsIn w Z ⟨some ⟨b, off + a * 3, none⟩, m, c - a⟩ ((vs.drop a).take m) (segT a m) := by
  refine ⟨slIn_sub h (by omega), by rw [segT_len]; simp; omega, fun j h1 h2 => ?_⟩
  have hj : j < m ∧ a + j < vs.length := by simp at h1; omega
  have := ht (a + j) hj.2
  rw [segT_get]
  simpa using this
set_option maxRecDepth 100000 in
set_option maxHeartbeats 1000000 in
theorem one_walk (n : Nat) (hn1 : 1 ≤ n) (hn2 : n ≤ 30) (split : Int) (hsp : i64 split) (w : World) :
    Calls Try.prog 8 #[.int .i64 n, .int .i64 split] w fun e w' => e = .returned (.bool true) ∧ Below w.heap.size w w' := by
  have t1 : decide ((n : Int) < 1) = false := decide_eq_false (by omega)
  have t2 : decide ((30 : Int) < (n : Int)) = false := decide_eq_false (by omega)
  have hnm := name_al 3 (by omega) w
  go_enter Try.func8, Try.ntmps8
  go_wp2_with fail
  refine hnm.mono ?_
  rintro e w1 ⟨rfl, hb1⟩
  clear hnm
  go_wp2_with fail
  obtain ⟨W, hW⟩ : ∃ W, W = w1.alloc (.cells (Outpoint.mk (nameS 3) Outpoint.zero.n).arr 32) := ⟨_, rfl⟩
  rw [← hW]
  have hbW : Below w1.heap.size w1 W := hW ▸ (Below.refl _ _).alloc (Nat.le_refl _) _
  have gW : W.heap[w1.heap.size]? = some (.cells (Outpoint.mk (chainP 0) 0).arr 32 (0, 0)) := hW ▸ heap_alloc_new w1 _
  have c0 : ChainL w W w1.heap.size 0 (.slice none 0 0) [] := ⟨rfl, World.ownsRow_nil _ _ _ _, gW, fun j h => absurd h (by simp), hb1.size, hb1.trans (hbW.mono hb1.size)⟩
  have C0 := Lib.hid c0
  obtain ⟨pb, hpb⟩ : ∃ pb, pb = w1.heap.size := ⟨_, rfl⟩
  rw [← hpb] at C0 ⊢
  clear hW hbW gW c0 hb1 hpb
  go_loopw [5, 7] (fun l i wr => ∃ (k : Nat) (vs : List TxV), k ≤ n ∧ i = .int .i64 k ∧ ChainL w wr pb k l vs) (fun _ i _ => n - (intOf i).toNat)
  case atStart => exact ⟨0, [], by omega, rfl, C0.out⟩
  case round =>
    clear C0
    obtain ⟨k, vs, hk, rfl, hC⟩ := hrel
    by_cases hlt : k < n
    · have r0 : row? wr ⟨pb, 0, none⟩ 33 = some (Outpoint.mk (chainP k) 0).arr := row_of_block hC.prev (by simp)
      have e1 : decide ((k : Int) < (n : Int)) = true := decide_eq_true (by omega)
      have HC := Lib.hid hC
      obtain ⟨h, hh⟩ : ∃ h, h = chainP k := ⟨_, rfl⟩
      rw [← hh] at r0
      have HH := Lib.hid hh
      have k0 : (0 : Int) ≤ (k : Int) := by omega
      have k1 : (k : Int) < 30 := by omega
      clear hC hh
      go_upto_region 9 with fail
      obtain ⟨v, hv⟩ : ∃ v : TxV, v = ⟨⟨some ⟨wr.heap.size, 0, none⟩, 1, 1⟩, ⟨some ⟨wr.heap.size + 1, 0, none⟩, 1, 1⟩, TxV.zero.lock⟩ := ⟨_, rfl⟩
      obtain ⟨W1, hW1⟩ : ∃ W1, W1 = ((wr.alloc (.cells (In.mk ⟨h, 0⟩ In.zero.seq ⟨1, Witness.zero.key, Witness.zero.pre⟩).arr 53)).alloc (.cells (Out.mk (100 - (k : Int)) ⟨1, Script.zero.key, Script.zero.other, Script.zero.rev, Script.zero.delay, Script.zero.expiry, Script.zero.hash⟩).arr 55)).alloc (.cells v.arr 51) := ⟨_, rfl⟩
      rw [← hv, ← hW1]
      have hb1 : Below wr.heap.size wr W1 := hW1 ▸ ((((Below.refl wr.heap.size wr).alloc (Nat.le_refl _) _).alloc (by simp) _).alloc (by simp; omega) _)
      have hz : W1.heap.size = wr.heap.size + 3 := by rw [hW1]; simp
      have g0 : W1.heap[wr.heap.size]? = some (.cells (In.mk ⟨h, 0⟩ In.zero.seq ⟨1, Witness.zero.key, Witness.zero.pre⟩).arr 53 (0, 0)) := by
        rw [hW1]; exact ((heap_alloc_old _ _ (by simp; omega)).trans (heap_alloc_old _ _ (by simp))).trans (heap_alloc_new wr _)
      have g1 : W1.heap[wr.heap.size + 1]? = some (.cells (Out.mk (100 - (k : Int)) ⟨1, Script.zero.key, Script.zero.other, Script.zero.rev, Script.zero.delay, Script.zero.expiry, Script.zero.hash⟩).arr 55 (0, 0)) := by
        rw [hW1]; refine (heap_alloc_old _ _ (by simp)).trans ?_
        rw [show wr.heap.size + 1 = (wr.alloc (.cells (In.mk ⟨h, 0⟩ In.zero.seq ⟨1, Witness.zero.key, Witness.zero.pre⟩).arr 53)).heap.size by simp]; exact heap_alloc_new _ _
      have g2 : W1.heap[wr.heap.size + 1 + 1]? = some (.cells v.arr 51 (0, 0)) := by
        rw [hW1, show wr.heap.size + 1 + 1 = ((wr.alloc (.cells (In.mk ⟨h, 0⟩ In.zero.seq ⟨1, Witness.zero.key, Witness.zero.pre⟩).arr 53)).alloc (.cells (Out.mk (100 - (k : Int)) ⟨1, Script.zero.key, Script.zero.other, Script.zero.rev, Script.zero.delay, Script.zero.expiry, Script.zero.hash⟩).arr 55)).heap.size by simp]; exact heap_alloc_new _ _
      have hpbl : pb < wr.heap.size := (cells_known HC.out.prev).2.2
      have hown := HC.out.own
      have hownlt : ∀ j, u5.ownBlock = some j → j < wr.heap.size := fun j e => (hown.lt j e).2
      have htv : txIn W1 (fun q => pb < q ∧ u5.ownBlock ≠ some q) v (tOne k) := by
        rw [hv]
        refine ⟨slIn_one (by rw [show (⟨⟨chainP k, 0⟩, 0, ⟨1, 0, ByteArray.empty⟩⟩ : In) = (In.mk ⟨h, 0⟩ In.zero.seq ⟨1, Witness.zero.key, Witness.zero.pre⟩) by rw [HH.out]; rfl]; exact g0) (by simp) ⟨hpbl, fun e => Nat.lt_irrefl _ (hownlt _ e)⟩, slIn_one g1 (by simp) ⟨by omega, fun e => by have := hownlt _ e; omega⟩, rfl⟩
      obtain ⟨W2, hW2⟩ : ∃ W2, W2 = W1.alloc (.cells v.arr 51) := ⟨_, rfl⟩
      have hb2 : Below W1.heap.size W1 W2 := hW2 ▸ (Below.refl _ _).alloc (Nat.le_refl _) _
      have g3 : W2.heap[W1.heap.size]? = some (.cells v.arr 51 (0, 0)) := hW2 ▸ heap_alloc_new W1 _
      have hb12 : Below wr.heap.size wr W2 := hb1.trans (hb2.mono hb1.size)
      obtain ⟨v', w3, hr3, ho3, hu3, hn3⟩ := own_tx1 (c := 1) (ownsRow_below hown hb12) g3 (by have := hb12.size; omega) (by omega)
      rw [hW2] at hr3
      have r1 : row? W1 ⟨wr.heap.size + 1 + 1, 0, none⟩ 3 = some v.arr := row_of_block g2 (by simp)
      have g23 : w3.heap[wr.heap.size + 1 + 1]? = some (.cells v.arr 51 (0, 0)) := (hu3.block _ (by have := hb2.size; omega) (fun e => by have := hownlt _ e; omega)).trans ((hb2.block _ (by omega)).trans g2)
      have r3 : row? w3 ⟨wr.heap.size + 1 + 1, 0, none⟩ 3 = some v.arr := row_of_block g23 (by simp)
      have hpb3 : w3.heap[pb]? = some (.cells (Outpoint.mk (chainP k) 0).arr 32 (0, 0)) := (hu3.block _ (by have := hb12.size; omega) (fun e => by have := (hown.lt _ e).1; omega)).trans ((hb12.block _ hpbl).trans HC.out.prev)
      have hs3 := hu3.size
      have hz2 : W2.heap.size = wr.heap.size + 4 := by rw [hW2]; simp; omega
      have htx3 : ∀ (x : TxV) (t : Tx), txIn W2 (fun q => pb < q ∧ u5.ownBlock ≠ some q) x t → txIn w3 (fun q => pb < q ∧ v'.ownBlock ≠ some q) x t := fun x t hx => by
        have hx1 := hx.zone (Y := fun q => pb < q ∧ u5.ownBlock ≠ some q ∧ q < W2.heap.size) (fun q hq h => ⟨h.1, h.2, hq⟩)
        exact (hx1.upd hu3 (fun q hq _ e => hq.2.1 e)).zone (fun q _ hq => ⟨hq.1, fun e => by rcases hn3 q e with e | e; exact hq.2.1 e; omega⟩)
      have htv3 := htx3 v (tOne k) (htv.keep hb2)
      have htvs : ∀ j (hj : j < (vs ++ [v]).length), txIn w3 (fun q => pb < q ∧ v'.ownBlock ≠ some q) (vs ++ [v])[j] (tOne j) := by
        intro j hj
        by_cases hjl : j < vs.length
        · rw [List.getElem_append_left hjl]; exact htx3 _ _ (((HC.out.txs j hjl).keep hb12))
        · have hje : j = k := by have := HC.out.len; simp at hj; omega
          subst hje
          rw [List.getElem_append_right (by omega)]
          simpa using htv3
      have hid := id_ref v (tOne k) w3 htv3.isTx
      rw [chain_succ] at hid
      have hbl3 : Below w.heap.size w w3 := HC.out.below.trans ((hb12.mono HC.out.below.size).trans (hu3.below (by have := HC.out.below.size; omega) (fun q e => by have := (hown.lt q e).1; have := HC.out.low; omega)))
      have H3 := Lib.hid (And.intro ho3 (And.intro hpb3 (And.intro htvs hbl3)))
      have HR3 := Lib.hid (hr3 72)
      obtain ⟨hk1, hhk1⟩ : ∃ q, q = chainP (k + 1) := ⟨_, rfl⟩
      rw [← hhk1] at hid
      have HHK := Lib.hid hhk1
      have hlen := Lib.hid HC.out.len
      have hlow := Lib.hid HC.out.low
      clear hW1 hW2 hv g0 g1 g2 g3 g23 hr3 ho3 hpb3 htvs hbl3 htv htv3 htx3 hu3 hn3 hz hz2 hs3 hb1 hb2 hb12 hhk1 hown hownlt r0
      go_wp2_with (at_builtin; refine wpList_run rfl _ _ _ _ rfl _ _ rfl rfl HR3.out ?_)
      refine hid.mono ?_
      rintro e w4 ⟨rfl, hb4⟩
      clear hid
      have hpl3 : pb < w3.heap.size := (cells_known H3.out.2.1).2.2
      have hpb4 := (hb4.block _ hpl3).trans H3.out.2.1
      obtain ⟨w5, hst5, hpb5, hu5⟩ := store_whole (P := Try.prog) (t := 32) size_Outpoint w4 pb (Outpoint.mk hk1 Outpoint.zero.n).arr (Outpoint.mk (chainP k) 0).arr (by simp) (one_Outpoint _) (by simp) hpb4
      have HP5 := Lib.hid hpb5
      clear hpb4 hpb5
      go_wp2_with fail
      refine ⟨⟨k + 1, vs ++ [v], by omega, by go_num, ⟨by simp [hlen.out], ?_, ?_, fun j hj => ?_, hlow.out, ?_⟩⟩, by simp [intOf]; omega⟩
      · exact ownsRow_upd (ownsRow_below H3.out.1 hb4) hu5 (fun q e e2 => by have := (H3.out.1.lt q e).1; omega)
      · rw [← HHK.out]; exact HP5.out
      · exact ((H3.out.2.2.1 j hj).keep hb4).upd hu5 (fun q hq _ e => by omega)
      · exact H3.out.2.2.2.trans ((hb4.mono H3.out.2.2.2.size).trans (hu5.below (by have := H3.out.2.2.2.size; have := hb4.size; omega) (fun q e => by have := hlow.out; omega)))
    · have hkn : k = n := by omega
      subst hkn
      clear hk hlt
      obtain ⟨sa, sc, hu5, hsc, hsg⟩ := ownsRow_slice hC.own
      obtain ⟨g, rfl, hg1, hg2⟩ := hsg (by omega)
      subst hu5
      have hrd := round_al split ((k : Int) + 1) (by unfold i64 at hsp; omega) (by omega) (by omega) wr
      have hr0 : 0 ≤ roundS split ((k : Int) + 1) := Int.emod_nonneg _ (by omega)
      have hr1 : roundS split ((k : Int) + 1) < (k : Int) + 1 := Int.emod_lt_of_pos _ (by omega)
      obtain ⟨k0, hk0⟩ := Int.eq_ofNat_of_zero_le hr0
      rw [hk0] at hrd hr1
      have hk0k : k0 ≤ k := by omega
      have hnew := new_ix wr
      have HC := Lib.hid hC
      clear hC hr0 hr1 hk0 hg1 hg2 hsg
      go_wp2_with (go_at_call 16; refine hrd.mono ?_; rintro e w5 ⟨rfl, rfl⟩)
      refine hnew.mono ?_
      rintro e w6 ⟨p, r, rfl, hI, hb6⟩
      clear hnew hrd
      have j0 : (0 : Int) ≤ (k0 : Int) := by omega
      have j1 : (k0 : Int) ≤ (k : Int) := by omega
      have j2 : (k0 : Int) ≤ (sc : Int) := by omega
      have j3 : (k : Int) ≤ (sc : Int) := by omega
      have hw : slIn wr (fun q => pb < q ∧ q < wr.heap.size) ⟨some ⟨g, 0, none⟩, k, sc⟩ 3 TxV.arr vs := (slIn_own (s := ⟨some ⟨g, 0, none⟩, k, sc⟩) (by decide) (fun x => by simp) (by have := HC.out.own; rw [← HC.out.len] at this; rw [← HC.out.len]; exact this) HC.out.len.symm).zone (fun q hq h => ⟨h, hq⟩)
      have htt : ∀ j (h : j < vs.length), txIn wr (fun q => pb < q ∧ q < wr.heap.size) vs[j] (tOne j) := fun j hj => (HC.out.txs j hj).zone (fun q hq h => ⟨h.1, hq⟩)
      have ht1 := (txsIn_sub hw HC.out.len htt (a := 0) (m := k0) (by omega)).upd (Upd.of_below hb6 (fun _ => False)) (fun _ _ _ h => h)
      rw [show (⟨some ⟨g, 0 + 0 * 3, none⟩, k0, sc - 0⟩ : Sl) = ⟨some ⟨g, 0, none⟩, k0, sc⟩ from rfl] at ht1
      have hT : ∀ q, pb < q ∧ q < wr.heap.size → q < w6.heap.size → ¬ r.foot p q := fun q hq _ hf => by have := hI.zone q hf; omega
      have hcon1 := con_ix (fun q => wr.heap.size ≤ q) _ p r [] ⟨some ⟨g, 0, none⟩, k0, sc⟩ _ (segT 0 k0) w6 hI ht1 hT (by simp) (by rw [segT_len]; omega)
      rw [con_seg1 (by omega), show conL [] (segT 0 k0) = [segT 0 k0] by unfold conL; rw [if_pos (con_seg1 (by omega))]; rfl] at hcon1
      have HI := Lib.hid hI
      have HW := Lib.hid (And.intro hw htt)
      have hlow := HC.out.low
      have hs6 := hb6.size
      clear ht1 hT hI hw htt
      have hbl := HC.out.below
      have HBL := Lib.hid hbl
      clear hbl
      go_upto_region 13 with fail
      go_cut [78] (fun b wx => b = .bool false ∧ Hid (∃ r8, IdxAt wx (fun q => wr.heap.size ≤ q) p r8 (mapsOf [segT 0 k0, segT k0 (k - k0)]) ([segT 0 k0, segT k0 (k - k0)].map (fun b => b.map idS)) ∧ slIn wx (fun q => pb < q ∧ q < wr.heap.size) ⟨some ⟨g, 0, none⟩, k, sc⟩ 3 TxV.arr vs ∧ (∀ j (h : j < vs.length), txIn wx (fun q => pb < q ∧ q < wr.heap.size) vs[j] (tOne j)) ∧ Below w.heap.size w wx))
      case first =>
        go_wp2_with fail
        refine hcon1.mono ?_
        rintro e w7 ⟨r7, rfl, hI7, hu7⟩
        clear hcon1
        have hu7' : Upd w6 w7 (fun q => wr.heap.size ≤ q) := hu7.mono (fun q _ hq => HI.out.zone q hq)
        have hu07 : Upd wr w7 (fun q => wr.heap.size ≤ q) := (Upd.of_below hb6 _).trans hu7' (fun _ _ h => h)
        have hI7' := hI7.zoned (Y := fun q => wr.heap.size ≤ q) (fun q _ h => by rcases h with h | h <;> omega)
        have hw7 := HW.out.1.upd hu07 (fun q hq _ h => by omega)
        have htt7 : ∀ j (h : j < vs.length), txIn w7 (fun q => pb < q ∧ q < wr.heap.size) vs[j] (tOne j) := fun j hj => (HW.out.2 j hj).upd hu07 (fun q hq _ h => by omega)
        have hc2 := con_seg2 (k := k0) (m := k - k0) (by omega)
        have hcon2 : ∀ s2, txsIn w7 (fun q => pb < q ∧ q < wr.heap.size) s2 ((vs.drop k0).take (k - k0)) (segT k0 (k - k0)) → Calls Try.prog 31 #[.pointer (some ⟨p, 0, none⟩), .slice s2.a s2.n s2.c] w7 fun e w' => e = .returned (.int .i64 0) ∧ ∃ r8, IdxAt w' (fun q => wr.heap.size ≤ q) p r8 (mapsOf [segT 0 k0, segT k0 (k - k0)]) ([segT 0 k0, segT k0 (k - k0)].map (fun b => b.map idS)) ∧ Upd w7 w' (fun q => wr.heap.size ≤ q) := by
          intro s2 hs2
          refine (con_ix (fun q => wr.heap.size ≤ q) _ p r7 [segT 0 k0] s2 _ (segT k0 (k - k0)) w7 hI7' hs2 (fun q hq _ hf => by have := hI7'.zone q hf; omega) (by simp) (by rw [segT_len]; omega)).mono ?_
          rintro e w' ⟨r8, rfl, hI8, hu8⟩
          rw [show conL [segT 0 k0] (segT k0 (k - k0)) = [segT 0 k0, segT k0 (k - k0)] by unfold conL; rw [if_pos hc2.1]; rfl] at hI8
          exact ⟨by rw [hc2.1], r8, hI8.zoned (fun q _ h => by rcases h with h | h; exact h; exact Nat.le_trans hu07.size h), hu8.mono (fun q _ hq => hI7'.zone q hq)⟩
        have hA : txsIn w7 (fun q => pb < q ∧ q < wr.heap.size) ⟨some ⟨g, k0 * 3, none⟩, k - k0, sc - k0⟩ ((vs.drop k0).take (k - k0)) (segT k0 (k - k0)) := by
          have := txsIn_sub hw7 HC.out.len htt7 (a := k0) (m := k - k0) (by omega)
          rwa [Nat.zero_add] at this
        have hB : (sc = k0) = True → txsIn w7 (fun q => pb < q ∧ q < wr.heap.size) ⟨some ⟨g, 0, none⟩, k - k0, sc - k0⟩ ((vs.drop k0).take (k - k0)) (segT k0 (k - k0)) := by
          intro h
          have h := of_eq_true h
          have e : k - k0 = 0 := by omega
          have e2 : sc - k0 = 0 := by omega
          rw [e, e2]
          exact ⟨⟨by simp, Nat.le_refl _, Nat.zero_le _, fun h => absurd (by simp) h⟩, by simp [segT], fun j h1 => absurd h1 (by simp)⟩
        have hq : ((sc = k0) = True) ∨ ((sc = k0) = False) := by
          by_cases h : sc = k0
          · exact .inl (eq_true h)
          · exact .inr (eq_false h)
        have H7 := Lib.hid (And.intro hu07 (And.intro hw7 htt7))
        have HCN := Lib.hid hcon2
        have HA := Lib.hid hA
        have HB := Lib.hid hB
        clear hu7 hu7' hu07 hI7 hI7' hw7 htt7 hc2 hcon2 hA hB
        rcases hq with hq | hq
        all_goals go_wp2_with fail
        · refine (HCN.out ⟨some ⟨g, 0, none⟩, k - k0, sc - k0⟩ (HB.out hq)).mono ?_
          rintro e w8 ⟨rfl, r8, hI8, hu8⟩
          have hh := height_ix _ p r8 _ _ w8 hI8
          rw [show (([segT 0 k0, segT k0 (k - k0)].map (fun b => b.map idS)).length : Nat) = 2 from rfl] at hh
          have HI8 := Lib.hid (And.intro hI8 hu8)
          clear hI8 hu8
          go_wp2_with (go_at_call 32; refine hh.mono ?_; rintro e w9 ⟨rfl, rfl⟩)
          go_meet
          exact ⟨rfl, r8, HI8.out.1, H7.out.2.1.upd HI8.out.2 (fun q hq _ h => by omega), fun j hj => (H7.out.2.2 j hj).upd HI8.out.2 (fun q hq _ h => by omega), HBL.out.trans ((H7.out.1.trans HI8.out.2 (fun _ _ h => h)).below HBL.out.size (fun q hq => Nat.le_trans HBL.out.size hq))⟩
        · refine (HCN.out ⟨some ⟨g, k0 * 3, none⟩, k - k0, sc - k0⟩ HA.out).mono ?_
          rintro e w8 ⟨rfl, r8, hI8, hu8⟩
          have hh := height_ix _ p r8 _ _ w8 hI8
          rw [show (([segT 0 k0, segT k0 (k - k0)].map (fun b => b.map idS)).length : Nat) = 2 from rfl] at hh
          have HI8 := Lib.hid (And.intro hI8 hu8)
          clear hI8 hu8
          go_wp2_with (go_at_call 32; refine hh.mono ?_; rintro e w9 ⟨rfl, rfl⟩)
          go_meet
          exact ⟨rfl, r8, HI8.out.1, H7.out.2.1.upd HI8.out.2 (fun q hq _ h => by omega), fun j hj => (H7.out.2.2 j hj).upd HI8.out.2 (fun q hq _ h => by omega), HBL.out.trans ((H7.out.1.trans HI8.out.2 (fun _ _ h => h)).below HBL.out.size (fun q hq => Nat.le_trans HBL.out.size hq))⟩
      case rest =>
        obtain ⟨rfl, hx⟩ := hcut
        obtain ⟨r8, hI8, hw8, ht8, hb8⟩ := hx.out
        have hca := (con_seg2 (k := k0) (m := k - k0) (by omega)).2
        rw [show k0 + (k - k0) = k by omega] at hca
        obtain ⟨M, hM⟩ : ∃ M, M = mapsOf [segT 0 k0, segT k0 (k - k0)] := ⟨_, rfl⟩
        rw [← hM] at hI8 hca
        obtain ⟨g', off', e', hz', hlt', hrow⟩ := hw8.2.2.2 (fun h => by have := HC.out.len; rw [h] at this; simp at this; omega)
        cases e'
        have H8 := Lib.hid (And.intro hI8 (And.intro hca (And.intro ht8 (And.intro hb8 hrow))))
        have hvl := Lib.hid HC.out.len
        clear hx hI8 hca hM hw8 ht8 hb8 hrow hcon1 HI HW HBL hlow hs6 hb6
        have hIdx : ∀ X, Below wc.heap.size wc X → IdxAt X (fun q => wr.heap.size ≤ q) p r8 M ([segT 0 k0, segT k0 (k - k0)].map (fun b => b.map idS)) := fun X hX => H8.out.1.keep hX
        have hTxs : ∀ X, Below wc.heap.size wc X → ∀ j (h : j < vs.length), isTx X vs[j] (tOne j) X.heap.size ∧ row? X ⟨g, j * 3, none⟩ 3 = some vs[j].arr := fun X hX j h => ⟨((H8.out.2.2.1 j h).keep hX).isTx, by
          have := H8.out.2.2.2.2 j h
          rw [Nat.zero_add] at this
          rw [row?_below hX hlt']; exact this⟩
        have HIX := Lib.hid hIdx
        have HTX := Lib.hid hTxs
        have HCA := Lib.hid H8.out.2.1
        have HB8 := Lib.hid H8.out.2.2.2.1
        obtain ⟨ids, hids⟩ : ∃ ids, ids = [segT 0 k0, segT k0 (k - k0)].map (fun b => b.map idS) := ⟨_, rfl⟩
        obtain ⟨Zr, hZr⟩ : ∃ Zr : Nat → Prop, Zr = (fun q => wr.heap.size ≤ q) := ⟨_, rfl⟩
        rw [← hids, ← hZr] at HIX
        clear hids hZr hIdx hTxs H8 HC
        go_wp2_with fail
        go_loopw [11] (fun i wx => ∃ j : Nat, j ≤ k ∧ i = .int .i64 j ∧ Below wc.heap.size wc wx) (fun i _ => k - (intOf i).toNat)
        case atStart => exact ⟨0, by omega, rfl, Below.refl _ _⟩
        case round =>
          obtain ⟨j, hj, rfl, hbx⟩ := hrel
          by_cases hlt : j < k
          · have hlv : j < vs.length := by rw [hvl.out]; exact hlt
            obtain ⟨ht0, r0⟩ := HTX.out wr hbx j hlv
            have hid := id_ref vs[j] (tOne j) wr ht0
            rw [chain_succ] at hid
            have hoc := out_chain HCA.out hlt
            have hsc' := sp_chain HCA.out hn2 hlt
            obtain ⟨H, hH⟩ : ∃ H, H = chainP (j + 1) := ⟨_, rfl⟩
            rw [← hH] at hid hoc hsc'
            obtain ⟨x, hx⟩ : ∃ x, x = vs[j] := ⟨_, rfl⟩
            rw [← hx] at hid r0
            have e1 : decide ((j : Int) < (k : Int)) = true := decide_eq_true (by omega)
            have j4 : (0 : Int) ≤ (j : Int) := by omega
            have j5 : (j : Int) < (k : Int) := by omega
            obtain ⟨o, ho⟩ := hoc
            obtain ⟨f, hf⟩ : ∃ f : Nat, f = (if j < k0 then 1 else 2) := ⟨_, rfl⟩
            rw [← hf] at ho
            obtain ⟨z, a, b, hsp, hb⟩ : ∃ z a b, spM M ⟨H, 0⟩ = (z, a, b) ∧ (b = true ∧ j + 1 < k ∧ z = chainP (j + 2) ∧ a = ((if j + 1 < k0 then 1 else 2 : Nat) : Int) ∨ b = false ∧ j + 1 = k) := by
              by_cases h : j + 1 < k
              · exact ⟨_, _, _, hsc'.1 h, .inl ⟨rfl, h, rfl, rfl⟩⟩
              · obtain ⟨z, a, h2⟩ := hsc'.2 (by omega)
                exact ⟨z, a, false, h2, .inr ⟨rfl, by omega⟩⟩
            have HFF := Lib.hid hf
            have HXX := Lib.hid hx
            have HHH := Lib.hid hH
            have HBB := Lib.hid hb
            have HO := Lib.hid ho
            have HSP := Lib.hid hsp
            clear ht0 hf hx hH hb ho hsp hsc'
            go_wp2_with fail
            refine hid.mono ?_
            rintro e w9 ⟨rfl, hb9⟩
            clear hid
            have hb9' : Below wc.heap.size wc w9 := hbx.trans (hb9.mono hbx.size)
            go_upto_region 19 with fail
            obtain ⟨W9, hW9⟩ : ∃ W9, W9 = w9.alloc (.cells (Outpoint.mk H Outpoint.zero.n).arr 32) := ⟨_, rfl⟩
            have hbW9 : Below wc.heap.size wc W9 := hb9'.trans ((hW9 ▸ (Below.refl w9.heap.size w9).alloc (Nat.le_refl _) _ : Below w9.heap.size w9 W9).mono hb9'.size)
            have g9 : W9.heap[w9.heap.size]? = some (.cells (Outpoint.mk H Outpoint.zero.n).arr 32 (0, 0)) := hW9 ▸ heap_alloc_new w9 _
            rw [← hW9]
            clear hW9
            have hs := spender_ix _ p r8 M ids ⟨H, Outpoint.zero.n⟩ (by show i64 0; unfold i64; decide) W9 (HIX.out W9 hbW9)
            rw [show (⟨H, Outpoint.zero.n⟩ : Outpoint) = ⟨H, 0⟩ from rfl, HSP.out] at hs
            have r9 : row? W9 ⟨w9.heap.size, 0, none⟩ 33 = some (Outpoint.mk H 0).arr := row_of_block g9 (by simp)
            go_wp2_with fail
            refine hs.mono ?_
            rintro e w10 ⟨rfl, hb10⟩
            clear hs
            go_upto_region 20 with fail
            obtain ⟨W10, hW10⟩ : ∃ W10, W10 = w10.alloc (.cells z.arr 30) := ⟨_, rfl⟩
            have hbb10 : Below wc.heap.size wc w10 := hbW9.trans (hb10.mono hbW9.size)
            have hbA : Below w10.heap.size w10 W10 := hW10 ▸ (Below.refl w10.heap.size w10).alloc (Nat.le_refl _) _
            have hbW10 : Below wc.heap.size wc W10 := hbb10.trans (hbA.mono hbb10.size)
            have g10 : W10.heap[w10.heap.size]? = some (.cells z.arr 30 (0, 0)) := hW10 ▸ heap_alloc_new w10 _
            have g9' : W10.heap[w9.heap.size]? = some (.cells (Outpoint.mk H Outpoint.zero.n).arr 32 (0, 0)) := ((hb10.trans (hbA.mono hb10.size)).block _ (cells_known g9).2.2).trans g9
            rw [← hW10]
            clear hW10
            have r9' : row? W10 ⟨w9.heap.size, 0, none⟩ 33 = some (Outpoint.mk H 0).arr := row_of_block g9' (by simp)
            have ho' := out_ix _ p r8 M ids ⟨H, 0⟩ (by show i64 0; unfold i64; decide) W10 (HIX.out W10 hbW10)
            rw [HO.out] at ho'
            go_wp2_with fail
            refine ho'.mono ?_
            rintro e w11 ⟨rfl, hb11⟩
            clear ho'
            go_upto_region 21 with fail
            obtain ⟨W11, hW11⟩ : ∃ W11, W11 = w11.alloc (.cells o.arr 55) := ⟨_, rfl⟩
            have hbb11 : Below wc.heap.size wc w11 := hbW10.trans (hb11.mono hbW10.size)
            have hbB : Below w11.heap.size w11 W11 := hW11 ▸ (Below.refl w11.heap.size w11).alloc (Nat.le_refl _) _
            have hbW11 : Below wc.heap.size wc W11 := hbb11.trans (hbB.mono hbb11.size)
            have hbC := hb11.trans (hbB.mono hb11.size)
            have g10' : W11.heap[w10.heap.size]? = some (.cells z.arr 30 (0, 0)) := (hbC.block _ (cells_known g10).2.2).trans g10
            have g9'' : W11.heap[w9.heap.size]? = some (.cells (Outpoint.mk H Outpoint.zero.n).arr 32 (0, 0)) := (hbC.block _ (cells_known g9').2.2).trans g9'
            rw [← hW11]
            clear hW11
            have q9 : row? W11 ⟨w9.heap.size, 0, none⟩ 33 = some (Outpoint.mk H 0).arr := row_of_block g9'' (by simp)
            have q10 : row? W11 ⟨w10.heap.size, 0, none⟩ 32 = some z.arr := row_of_block g10' (by simp)
            have l9 : w9.heap.size < W11.heap.size := (cells_known g9'').2.2
            have l10 : w10.heap.size < W11.heap.size := (cells_known g10').2.2
            have lg : g < W11.heap.size := Nat.lt_of_lt_of_le hlt' hbW11.size
            have hun := fun (d : Nat) (os : Array Obj) => unspent_ix _ p r8 M ids ⟨H, 0⟩ (by show i64 0; unfold i64; decide) (grow (redrawn W11 d) os) (HIX.out _ (hbW11.trans ((below_regrown W11 d os).mono hbW11.size)))
            have hun2 : unspM M ⟨H, 0⟩ = !b := by unfold unspM; rw [HO.out, HSP.out]; rfl
            rw [hun2] at hun
            have HUN := Lib.hid hun
            clear hun hun2 g9 g9' g9'' g10 g10' r9 r9' hb9 hb10 hb11 hbA hbB hbC hbb10 hbb11 hbW9 hbW10 hb9' r0
            have HLB := Lib.hid (And.intro hbW11 hlv)
            rcases HBB.out with ⟨rfl, hj1, rfl, rfl⟩ | ⟨rfl, hj1⟩
            · have hlv1 : j + 1 < vs.length := by rw [hvl.out]; exact hj1
              obtain ⟨t1', r1⟩ := HTX.out W11 hbW11 (j + 1) hlv1
              have hidn := fun (d : Nat) (os : Array Obj) => id_ref vs[j + 1] (tOne (j + 1)) (grow (redrawn W11 d) os) (t1'.regrown d os)
              rw [chain_succ] at hidn
              obtain ⟨y, hy⟩ : ∃ y, y = vs[j + 1] := ⟨_, rfl⟩
              rw [← hy] at hidn r1
              obtain ⟨z, hz⟩ : ∃ z, z = chainP (j + 1 + 1) := ⟨_, rfl⟩
              rw [← hz] at hidn
              rw [show chainP (j + 2) = z from hz.symm] at q10 ⊢
              have HID := Lib.hid hidn
              have f1 : decide ((j : Int) + 1 < (k : Int)) = true := decide_eq_true (by omega)
              have f2 : ((j : Int) + 1 == (k : Int)) = false := by rw [beq_eq_false_iff_ne]; omega
              have f3 : (0 : Int) ≤ (j : Int) + 1 := by omega
              have f4 : (j : Int) + 1 < (k : Int) := by omega
              clear hidn t1' hy hz
              obtain ⟨av, hav⟩ : ∃ av : Nat, av = (if j + 1 < k0 then 1 else 2) := ⟨_, rfl⟩
              rw [← hav]
              by_cases hk0j : j < k0
              · obtain rfl : f = 1 := by rw [HFF.out, if_pos hk0j]
                have e5 : decide ((k0 : Int) ≤ (j : Int)) = false := decide_eq_false (by omega)
                have e6 : decide ((av : Int) < 1) = false := decide_eq_false (by rw [hav]; split <;> omega)
                clear hav
                go_upto_region 24 with fail
                refine wp_region_below (by kernel_rfl) (by kernel_rfl) ?_
                repeat (go_big_quiet_step ((first | (go_at_call 27; exact Calls.regrown_of (HID.out _ _)) | (go_at_call 37; exact Calls.regrown_of (HUN.out _ _)))))
                refine wpQuiet_nil ?_
                intro w2 hb_w2
                obtain ⟨hc_w2, hf_w2, hr_w2⟩ := bcell hb_w2
                go_wp2_with fail
                exact ⟨⟨j + 1, by omega, by go_num, HLB.out.1.trans (hb_w2.mono HLB.out.1.size)⟩, by simp [intOf]; omega⟩
              · obtain rfl : f = 2 := by rw [HFF.out, if_neg hk0j]
                have e5 : decide ((k0 : Int) ≤ (j : Int)) = true := decide_eq_true (by omega)
                have e6 : decide ((av : Int) < 2) = false := decide_eq_false (by rw [hav]; split <;> omega)
                clear hav
                go_upto_region 24 with fail
                refine wp_region_below (by kernel_rfl) (by kernel_rfl) ?_
                repeat (go_big_quiet_step ((first | (go_at_call 27; exact Calls.regrown_of (HID.out _ _)) | (go_at_call 37; exact Calls.regrown_of (HUN.out _ _)))))
                refine wpQuiet_nil ?_
                intro w2 hb_w2
                obtain ⟨hc_w2, hf_w2, hr_w2⟩ := bcell hb_w2
                go_wp2_with fail
                exact ⟨⟨j + 1, by omega, by go_num, HLB.out.1.trans (hb_w2.mono HLB.out.1.size)⟩, by simp [intOf]; omega⟩
            · have f1 : decide ((j : Int) + 1 < (k : Int)) = false := decide_eq_false (by omega)
              have f2 : ((j : Int) + 1 == (k : Int)) = true := by rw [beq_iff_eq]; omega
              by_cases hk0j : j < k0
              · obtain rfl : f = 1 := by rw [HFF.out, if_pos hk0j]
                have e5 : decide ((k0 : Int) ≤ (j : Int)) = false := decide_eq_false (by omega)
                go_upto_region 24 with fail
                refine wp_region_below (by kernel_rfl) (by kernel_rfl) ?_
                repeat (go_big_quiet_step (((go_at_call 37; exact Calls.regrown_of (HUN.out _ _)))))
                refine wpQuiet_nil ?_
                intro w2 hb_w2
                obtain ⟨hc_w2, hf_w2, hr_w2⟩ := bcell hb_w2
                go_wp2_with fail
                exact ⟨⟨j + 1, by omega, by go_num, HLB.out.1.trans (hb_w2.mono HLB.out.1.size)⟩, by simp [intOf]; omega⟩
              · obtain rfl : f = 2 := by rw [HFF.out, if_neg hk0j]
                have e5 : decide ((k0 : Int) ≤ (j : Int)) = true := decide_eq_true (by omega)
                go_upto_region 24 with fail
                refine wp_region_below (by kernel_rfl) (by kernel_rfl) ?_
                repeat (go_big_quiet_step (((go_at_call 37; exact Calls.regrown_of (HUN.out _ _)))))
                refine wpQuiet_nil ?_
                intro w2 hb_w2
                obtain ⟨hc_w2, hf_w2, hr_w2⟩ := bcell hb_w2
                go_wp2_with fail
                exact ⟨⟨j + 1, by omega, by go_num, HLB.out.1.trans (hb_w2.mono HLB.out.1.size)⟩, by simp [intOf]; omega⟩
          · obtain rfl : j = k := by omega
            have haw := awake11 wr
            clear hlt hj
            go_wp2_with (go_at_call 29; refine haw.mono ?_; rintro e w12 ⟨rfl, hb12⟩)
            go_ret
            exact ⟨rfl, HB8.out.trans ((hbx.trans (hb12.mono hbx.size)).mono HB8.out.size)⟩
set_option maxRecDepth 100000 in
set_option maxHeartbeats 1000000 in
theorem one_any (n split : Int) (hsp : i64 split) (w : World) :
    Calls Try.prog 8 #[.int .i64 n, .int .i64 split] w fun e w' => e = .returned (.bool true) ∧ Below w.heap.size w w' := by
  by_cases h1 : n < 1
  · have t1 : decide (n < 1) = true := decide_eq_true h1
    clear h1
    have haw := awake11 w
    go_enter Try.func8, Try.ntmps8
    go_wp2_with (go_at_call 29; refine haw.mono ?_; rintro e w12 ⟨rfl, hb12⟩)
    go_ret
    exact ⟨rfl, hb12⟩
  by_cases h2 : 30 < n
  · have t1 : decide (n < 1) = false := decide_eq_false h1
    have t2 : decide (30 < n) = true := decide_eq_true h2
    clear h1 h2
    have haw := awake11 w
    go_enter Try.func8, Try.ntmps8
    go_wp2_with (go_at_call 29; refine haw.mono ?_; rintro e w12 ⟨rfl, hb12⟩)
    go_ret
    exact ⟨rfl, hb12⟩
  · obtain ⟨m, rfl⟩ := Int.eq_ofNat_of_zero_le (show 0 ≤ n by omega)
    exact one_walk m (by omega) (by omega) split hsp w
end Go.Proofs.Ytaopiefbejajkaa
