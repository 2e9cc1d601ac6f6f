/- Registrations of one height: what stands and is told as blocks come and registrations go. -/
import Derived.Test.YtlkojkjeklblkaaGreatNfM
set_option linter.unusedSimpArgs false
set_option linter.unusedVariables false
namespace Go.Proofs.YtlkojkjeklblkaaGreat
open Go.RowKit Go.MapKept
def xH (h : Int) : Reg := ⟨3, Hash.zero, 0, Outpoint.zero, h⟩
def hN (h : Int) (i : Nat) : Note := ⟨(i : Int), false, 3, h, Hash.zero⟩
def rH (h : Int) (b : Bool) (i : Nat) : NRow := ⟨(i : Int), xH h, if b then some (hN h i) else none⟩
/-- So many numbers given, those of R there, so many blocks. -/
def HD (h : Int) (m : Nat) (R : List Nat) (a : Nat) : HubM := ⟨100, (m : Int), R.map (rH h (decide (h ≤ (a : Int)))), nils a⟩
theorem HD_new (h : Int) : HubM.new 100 = HD h 0 [] 0 := rfl
theorem due_H (h : Int) (a : Nat) (i : Nat) : dueR (nils a) (i : Int) (xH h) = if decide (h ≤ (a : Int)) = true then some (hN h i) else none := by
  unfold xH
  rw [due_high, nils_len]
  by_cases e : h ≤ (a : Int)
  · rw [if_pos e, if_pos (decide_eq_true e)]; rfl
  · rw [if_neg e, if_neg (by simp [e])]
theorem may_H {h : Int} (h1 : 0 ≤ h) (h2 : h ≤ 1000000) : mayR (xH h) = true := by
  unfold mayR xH
  rw [if_neg (by show ¬ (3 : Int) = 1; decide), if_neg (by show ¬ (3 : Int) = 2; decide), if_pos rfl]
  show (decide (0 ≤ h) && decide (h ≤ 1000000)) = true
  rw [decide_eq_true h1, decide_eq_true h2]; rfl
theorem one_rows {M : HubM} (i : Int) (h : ∀ x ∈ M.rows, x.id = i → M.due x = x.st) : M.one i = M := by
  unfold HubM.one
  have : M.rows.map (fun x => if x.id = i then { x with st := M.due x } else x) = M.rows := by
    conv => rhs; rw [← List.map_id M.rows]
    refine List.map_congr_left (fun x hx => ?_)
    by_cases e : x.id = i
    · rw [if_pos e, h x hx e]; rfl
    · rw [if_neg e]; rfl
  rw [this]
theorem reg_HD {h : Int} {m : Nat} {R : List Nat} {a : Nat} (h1 : 0 ≤ h) (h2 : h ≤ 1000000) (ha : ¬ h ≤ (a : Int)) (hR : R.length < 100) : (HD h m R a).regE (xH h) = 0 ∧ (HD h m R a).regN (xH h) = ((m + 1 : Nat) : Int) ∧ (HD h m R a).regO (xH h) = [] ∧ (HD h m R a).regM (xH h) = HD h (m + 1) (R ++ [m + 1]) a := by
  have he : (HD h m R a).regE (xH h) = 0 := regE_zero.2 ⟨may_H h1 h2, by show (((R.map _).length : Nat) : Int) < 100; rw [List.length_map]; omega⟩
  have hd : dueR (nils a) ((m : Int) + 1) (xH h) = none := by
    have := due_H h a (m + 1)
    rw [if_neg (by simp [ha])] at this
    exact this
  have hp : plainR (xH h) = xH h := rfl
  refine ⟨he, ?_, ?_, ?_⟩
  · unfold HubM.regN; rw [if_pos he]; show (m : Int) + 1 = _; omega
  · unfold HubM.regO; rw [if_pos he]; show outR none (dueR (nils a) ((m : Int) + 1) (plainR (xH h))) = []; rw [hp, hd]; rfl
  · unfold HubM.regM; rw [if_pos he]
    have hpush : (HD h m R a).push (xH h) = HD h (m + 1) (R ++ [m + 1]) a := by
      unfold HubM.push HD
      rw [hp]
      simp only [List.map_append, List.map_cons, List.map_nil]
      have e : decide (h ≤ (a : Int)) = false := decide_eq_false ha
      rw [e]
      rfl
    rw [hpush]
    refine one_rows _ (fun x hx _ => ?_)
    obtain ⟨i, _, rfl⟩ := List.mem_map.1 hx
    exact due_H h a i
theorem drop_HD {h : Int} {m : Nat} {R : List Nat} {a : Nat} (k : Nat) : (HD h m R a).drop (k : Int) = HD h m (R.filter (· != k)) a := by
  unfold HubM.drop HD
  simp only
  congr 1
  induction R with
  | nil => rfl
  | cons i R ih =>
    by_cases e : i = k
    · subst e
      rw [List.map_cons, List.filter_cons_of_neg (by simp [rH]), List.filter_cons_of_neg (by simp), ih]
    · rw [List.map_cons, List.filter_cons_of_pos (by simp [rH]; omega), List.filter_cons_of_pos (by simp [e]), List.map_cons, ih]
theorem ids_HD {h : Int} {m : Nat} {R : List Nat} {a k : Nat} : (k : Int) ∈ (HD h m R a).ids ↔ k ∈ R := by
  unfold HubM.ids HD
  simp only [List.map_map, List.mem_map, Function.comp, rH]
  constructor
  · rintro ⟨i, hi, e⟩
    have : i = k := by exact_mod_cast e
    exact this ▸ hi
  · exact fun hk => ⟨k, hk, rfl⟩
theorem con_HD (h : Int) (m : Nat) (R : List Nat) (a : Nat) : (HD h m R a).conM [] = HD h m R (a + 1) ∧ (HD h m R a).conO [] = (if h = ((a + 1 : Nat) : Int) then R.map (hN h) else []) ∧ conE (HD h m R a).L [] = 0 := by
  have hn := nil_con (nils a)
  have h0 : conE (HD h m R a).L [] = 0 := hn.1
  have hl : conL (HD h m R a).L [] = nils (a + 1) := by show conL (nils a) [] = _; rw [hn.2, nils_succ]
  refine ⟨?_, ?_, h0⟩
  · unfold HubM.conM; rw [if_pos h0, hl]
    unfold HubM.onL HubM.settled HD
    simp only [List.map_map]
    congr 1
    refine List.map_congr_left (fun i _ => ?_)
    show (⟨(i : Int), xH h, dueR (nils (a + 1)) (i : Int) (xH h)⟩ : NRow) = _
    rw [due_H]; rfl
  · unfold HubM.conO; rw [if_pos h0, hl]
    show (R.map (rH h (decide (h ≤ (a : Int))))).flatMap (fun x => outR x.st (dueR (nils (a + 1)) x.id x.r)) = _
    have e : ∀ i, outR (rH h (decide (h ≤ (a : Int))) i).st (dueR (nils (a + 1)) (rH h (decide (h ≤ (a : Int))) i).id (rH h (decide (h ≤ (a : Int))) i).r) = if h = ((a + 1 : Nat) : Int) then [hN h i] else [] := by
      intro i
      show outR (if decide (h ≤ (a : Int)) = true then some (hN h i) else none) (dueR (nils (a + 1)) (i : Int) (xH h)) = _
      rw [due_H]
      by_cases e1 : h ≤ (a : Int)
      · rw [if_pos (decide_eq_true e1), if_pos (decide_eq_true (show h ≤ ((a + 1 : Nat) : Int) by omega)), if_neg (by omega)]
        exact if_pos rfl
      · rw [if_neg (by simp [e1])]
        by_cases e2 : h ≤ ((a + 1 : Nat) : Int)
        · rw [if_pos (decide_eq_true e2), if_pos (by omega)]; rfl
        · rw [if_neg (by simp only [decide_eq_true_eq]; exact e2), if_neg (by omega)]; rfl
    rw [List.flatMap_map]
    rw [show (fun i => outR (rH h (decide (h ≤ (a : Int))) i).st (dueR (nils (a + 1)) (rH h (decide (h ≤ (a : Int))) i).id (rH h (decide (h ≤ (a : Int))) i).r)) = fun i => if h = ((a + 1 : Nat) : Int) then [hN h i] else [] from funext e]
    by_cases e3 : h = ((a + 1 : Nat) : Int)
    · rw [if_pos e3]
      clear e h0 hl hn
      induction R with
      | nil => rfl
      | cons i R ih => rw [List.flatMap_cons, ih, if_pos e3]; rfl
    · rw [if_neg e3]
      clear e h0 hl hn
      induction R with
      | nil => rfl
      | cons i R ih => rw [List.flatMap_cons, ih, if_neg e3]; rfl
theorem stand_HD {h : Int} {m : Nat} {R : List Nat} {a : Nat} (ha : h ≤ (a : Int)) : (HD h m R a).stand = R.map (hN h) := by
  unfold HubM.stand HD
  rw [decide_eq_true ha]
  simp only [List.filterMap_map]
  induction R with
  | nil => rfl
  | cons i R ih => rw [List.filterMap_cons_some (by rfl), ih]; rfl
/-- The last one asks for the height nought. -/
theorem last_HD {h : Int} {m : Nat} {R : List Nat} {a : Nat} (hR : R.length < 100) : (HD h m R a).regE (xH 0) = 0 ∧ (HD h m R a).regN (xH 0) = ((m + 1 : Nat) : Int) ∧ (HD h m R a).regO (xH 0) = [hN 0 (m + 1)] := by
  have he : (HD h m R a).regE (xH 0) = 0 := regE_zero.2 ⟨may_H (by decide) (by decide), by show (((R.map _).length : Nat) : Int) < 100; rw [List.length_map]; omega⟩
  refine ⟨he, ?_, ?_⟩
  · unfold HubM.regN; rw [if_pos he]; show (m : Int) + 1 = _; omega
  · unfold HubM.regO; rw [if_pos he]; show outR none (dueR (nils a) ((m : Int) + 1) (plainR (xH 0))) = _
    rw [show plainR (xH 0) = xH 0 from rfl]
    have := due_H 0 a (m + 1)
    rw [if_pos (decide_eq_true (by omega))] at this
    rw [show ((m + 1 : Nat) : Int) = (m : Int) + 1 by omega] at this
    rw [this]; rfl
/-- Numbers in order, and those that are gone. -/
structure Left (n : Nat) (R : List Nat) (gone : Nat → Bool) : Prop where
  nodup : R.Nodup
  mem : ∀ k, k ∈ R ↔ (1 ≤ k ∧ k ≤ n ∧ gone k = false)
theorem Left.start (n : Nat) : Left n (List.range' 1 n) (fun _ => false) := ⟨List.nodup_range', fun k => by rw [List.mem_range'_1]; simp; omega⟩
theorem range_next (n : Nat) : List.range' 1 n ++ [n + 1] = List.range' 1 (n + 1) := by rw [List.range'_1_concat, Nat.add_comm]
theorem Left.drop {n : Nat} {R : List Nat} {gone : Nat → Bool} (h : Left n R gone) (k : Nat) (h1 : 1 ≤ k) (h2 : k ≤ n) : Left n (R.filter (· != k)) (fun j => if j = k then true else gone j) ∧ ((R.filter (· != k)).length : Int) = (R.length : Int) - (if gone k then 0 else 1) ∧ (k ∈ R ↔ gone k = false) := by
  have hm : k ∈ R ↔ gone k = false := (h.mem k).trans ⟨fun e => e.2.2, fun e => ⟨h1, h2, e⟩⟩
  refine ⟨⟨h.nodup.filter _, fun j => ?_⟩, ?_, hm⟩
  · rw [List.mem_filter, h.mem j]
    by_cases e : j = k
    · simp [e]
    · simp [e]
  · by_cases e : gone k = true
    · have hn : k ∉ R := fun hk => by rw [hm.1 hk] at e; cases e
      rw [if_pos e, List.filter_eq_self.2 (fun j hj => by simp; rintro rfl; exact hn hj)]
      omega
    · have hk : k ∈ R := hm.2 (by simpa using e)
      rw [if_neg e]
      have he : R.filter (· != k) = R.erase k := by rw [List.Nodup.erase_eq_filter h.nodup]
      rw [he, List.length_erase_of_mem hk]
      have : 0 < R.length := List.length_pos_of_mem hk
      omega
end Go.Proofs.YtlkojkjeklblkaaGreat
