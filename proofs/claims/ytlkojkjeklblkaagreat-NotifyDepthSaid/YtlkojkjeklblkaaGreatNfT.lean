/- Two registrations and one transaction: what is told as blocks come and go. -/
import Derived.Test.YtlkojkjeklblkaaGreatNfR
set_option linter.unusedSimpArgs false
set_option linter.unusedVariables false
namespace Go.Proofs.YtlkojkjeklblkaaGreat
open Go.RowKit Go.MapKept
def yM : Reg := ⟨2, Hash.zero, 0, ⟨nameS 1, 0⟩, 0⟩
def kM (a : Nat) : Note := ⟨2, false, 2, ((a + 1 : Nat) : Int), idS tM⟩
def M2 (d : Int) (sx sy : Option Note) (L : List (List Tx)) : HubM := ⟨5, 2, [⟨1, xM d, sx⟩, ⟨2, yM, sy⟩], L⟩
theorem M2_con (d : Int) (sx sy : Option Note) {L : List (List Tx)} {l : List Tx} (h : conE L l = 0) : (M2 d sx sy L).conM l = M2 d (dueR (conL L l) 1 (xM d)) (dueR (conL L l) 2 yM) (conL L l) ∧ (M2 d sx sy L).conO l = outR sx (dueR (conL L l) 1 (xM d)) ++ outR sy (dueR (conL L l) 2 yM) := by
  constructor
  · unfold HubM.conM; rw [if_pos (show conE (M2 d sx sy L).L l = 0 from h)]; rfl
  · unfold HubM.conO; rw [if_pos (show conE (M2 d sx sy L).L l = 0 from h)]
    show outR sx (dueR (conL L l) 1 (xM d)) ++ (outR sy (dueR (conL L l) 2 yM) ++ []) = _
    rw [List.append_nil]
theorem M2_dis (d : Int) (sx sy : Option Note) {L : List (List Tx)} (h : L ≠ []) : (M2 d sx sy L).disM = M2 d (dueR L.dropLast 1 (xM d)) (dueR L.dropLast 2 yM) L.dropLast ∧ (M2 d sx sy L).disO = outR sx (dueR L.dropLast 1 (xM d)) ++ outR sy (dueR L.dropLast 2 yM) := by
  constructor
  · unfold HubM.disM; rw [if_neg (show ¬ (M2 d sx sy L).L = [] from h)]; rfl
  · unfold HubM.disO; rw [if_neg (show ¬ (M2 d sx sy L).L = [] from h)]
    show outR sx (dueR L.dropLast 1 (xM d)) ++ (outR sy (dueR L.dropLast 2 yM) ++ []) = _
    rw [List.append_nil]
theorem due_y (a b : Nat) : dueR (LT a b tM) 2 yM = some (kM a) := due_spent a b tM 2 (p := ⟨nameS 1, 0⟩) (by simp [tM])
theorem due_y0 (a : Nat) : dueR (nils a) 2 yM = none := due_nils a 2 (by show (2 : Int) ≠ 3; decide)
theorem reg_M2 (d : Int) : (MM (xM d) none []).regE yM = 0 ∧ (MM (xM d) none []).regM yM = M2 d none none [] := by
  have hm : mayR yM = true := by unfold mayR; rw [if_neg (show ¬ yM.kind = 1 by decide), if_pos (show yM.kind = 2 from rfl)]; rfl
  have he : (MM (xM d) none []).regE yM = 0 := regE_zero.2 ⟨hm, by show ((1 : Nat) : Int) < 5; decide⟩
  refine ⟨he, ?_⟩
  unfold HubM.regM; rw [if_pos he]
  have hp : plainR yM = yM := rfl
  show ({ most := 5, last := 2, rows := [if (1 : Int) = 2 then _ else { id := 1, r := xM d, st := none }, if (2 : Int) = 2 then { id := 2, r := plainR yM, st := dueR [] 2 (plainR yM) } else _], L := [] } : HubM) = _
  rw [if_neg (by decide), if_pos rfl, hp, show dueR [] 2 yM = none from due_y0 0]; rfl
theorem con2_nils (d : Int) (a : Nat) : (M2 d none none (nils a)).conM [] = M2 d none none (nils (a + 1)) ∧ conE (M2 d none none (nils a)).L [] = 0 := by
  have h := nil_con (nils a)
  have hm := M2_con d none none h.1
  rw [h.2, ← nils_succ, due_M0, due_y0] at hm
  exact ⟨hm.1, h.1⟩
theorem con2_tx (d : Int) (a : Nat) : (M2 d none none (nils a)).conM [tM] = M2 d (sM d a 0) (some (kM a)) (LT a 0 tM) ∧ (M2 d none none (nils a)).conO [tM] = (sM d a 0).toList ++ [kM a] ∧ conE (M2 d none none (nils a)).L [tM] = 0 := by
  have h := con_LT a txs_tM
  have hm := M2_con d none none h.1
  rw [h.2, due_M, due_y] at hm
  refine ⟨hm.1, hm.2.trans ?_, h.1⟩
  congr 1
  unfold outR
  cases sM d a 0 <;> rfl
theorem con2_LT (d : Int) (a b : Nat) : (M2 d (sM d a b) (some (kM a)) (LT a b tM)).conM [] = M2 d (sM d a (b + 1)) (some (kM a)) (LT a (b + 1) tM) ∧ (M2 d (sM d a b) (some (kM a)) (LT a b tM)).conO [] = outR (sM d a b) (sM d a (b + 1)) ∧ conE (M2 d (sM d a b) (some (kM a)) (LT a b tM)).L [] = 0 := by
  have h := nil_con (LT a b tM)
  have hm := M2_con d (sM d a b) (some (kM a)) h.1
  rw [h.2, ← LT_succ, due_M, due_y] at hm
  refine ⟨hm.1, hm.2.trans ?_, h.1⟩
  rw [show outR (some (kM a)) (some (kM a)) = [] from if_pos rfl, List.append_nil]
theorem out_len (d : Int) (a b : Nat) : (outR (sM d a b) (sM d a (b + 1))).length = if d = (b : Int) + 2 then 1 else 0 := by
  unfold sM outR
  by_cases h : d ≤ (b : Int) + 1
  · rw [if_pos h, if_pos (show d ≤ ((b + 1 : Nat) : Int) + 1 by omega), if_pos rfl, if_neg (by omega)]; rfl
  · rw [if_neg h]
    by_cases h2 : d ≤ ((b + 1 : Nat) : Int) + 1
    · rw [if_pos h2, if_neg (by simp), if_pos (by omega)]; rfl
    · rw [if_neg h2, if_pos rfl, if_neg (by omega)]; rfl
/-- What is told when so many have gone already. -/
def bD (a d k : Nat) : List Note := (if k = 0 then [{ nM a with back := true }] else []) ++ (if k + 1 = d then [{ kM a with back := true }] else [])
theorem bD_back {a d k : Nat} : ∀ n ∈ bD a d k, n.back = true := by
  intro n hn
  unfold bD at hn
  rcases List.mem_append.1 hn with h | h
  · split at h
    · rw [List.mem_singleton.1 h]
    · cases h
  · split at h
    · rw [List.mem_singleton.1 h]
    · cases h
theorem bD_len (a d k : Nat) : (bD a d k).length = (if k = 0 then 1 else 0) + (if k + 1 = d then 1 else 0) := by
  unfold bD
  rw [List.length_append]
  split <;> split <;> rfl
def yD (a d k : Nat) : Option Note := if k < d then some (kM a) else none
theorem dis2_LD {a d k : Nat} (hd : 1 ≤ d) (hk : k < d) : (M2 d (sD a k) (yD a d k) (LD a d k)).disM = M2 d (sD a (k + 1)) (yD a d (k + 1)) (LD a d (k + 1)) ∧ (M2 d (sD a k) (yD a d k) (LD a d k)).disO = bD a d k ∧ ¬ (M2 d (sD a k) (yD a d k) (LD a d k)).L = [] := by
  have hL : LD a d k ≠ [] ∧ (LD a d k).dropLast = LD a d (k + 1) ∧ dueR (LD a d (k + 1)) 1 (xM d) = none ∧ dueR (LD a d (k + 1)) 2 yM = yD a d (k + 1) := by
    unfold LD
    rw [if_pos hk]
    by_cases h1 : k + 1 < d
    · rw [if_pos h1]
      have e : d - 1 - k = (d - 1 - (k + 1)) + 1 := by omega
      rw [e, LT_pop]
      refine ⟨?_, rfl, ?_, ?_⟩
      · intro h; have := congrArg List.length h; rw [LT_len] at this; simp at this
      · rw [due_M]; unfold sM; rw [if_neg (by omega)]
      · rw [due_y]; unfold yD; rw [if_pos h1]
    · rw [if_neg h1]
      have e : d - 1 - k = 0 := by omega
      rw [e, LT_pop0, show a + d - (k + 1) = a by omega]
      refine ⟨?_, rfl, due_M0 _ _, ?_⟩
      · intro h; have := congrArg List.length h; rw [LT_len] at this; simp at this
      · rw [due_y0]; unfold yD; rw [if_neg h1]
  have hm := M2_dis d (sD a k) (yD a d k) hL.1
  rw [hL.2.1, hL.2.2.1, hL.2.2.2] at hm
  refine ⟨?_, ?_, hL.1⟩
  · rw [hm.1]; unfold sD; rw [if_neg (show ¬ k + 1 = 0 by omega)]
  · rw [hm.2]; unfold sD bD
    congr 1
    · unfold outR
      by_cases h : k = 0
      · rw [if_pos h, if_pos h, if_neg (by simp)]; rfl
      · rw [if_neg h, if_neg h, if_pos rfl]
    · unfold outR yD
      rw [if_pos hk]
      by_cases h : k + 1 < d
      · rw [if_pos h, if_pos rfl, if_neg (by omega)]
      · rw [if_neg h, if_pos (show k + 1 = d by omega), if_neg (by simp)]; rfl
theorem zero2 (a d : Nat) (hd : 1 ≤ d) : M2 d (sM d a (d - 1)) (some (kM a)) (LT a (d - 1) tM) = M2 d (sD a 0) (yD a d 0) (LD a d 0) := by
  rw [(sD_zero a d hd).1, (sD_zero a d hd).2]
  unfold yD
  rw [if_pos (by omega)]
theorem stand2 (a d : Nat) (hd : 1 ≤ d) : (M2 d (sD a 0) (yD a d 0) (LD a d 0)).stand = [nM a, kM a] := by
  unfold yD sD
  rw [if_pos rfl, if_pos (by omega)]
  rfl
end Go.Proofs.YtlkojkjeklblkaaGreat
