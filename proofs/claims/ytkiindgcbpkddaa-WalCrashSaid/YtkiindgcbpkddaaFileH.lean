/- Package file: the names, in order. -/
import Derived.Test.YtkiindgcbpkddaaIter
set_option linter.unusedSimpArgs false
set_option linter.unusedVariables false
namespace Go.Proofs.Ytkiindgcbpkddaa
open Go.RowKit Go.Maps Go.Sort Go.MapKept
def bytesN (s : Nm) : List UInt8 := s.1.data.toList
theorem bytesN_inj {s t : Nm} (h : bytesN s = bytesN t) : s = t := by
  obtain ⟨⟨⟨x⟩⟩, hx⟩ := s
  obtain ⟨⟨⟨y⟩⟩, hy⟩ := t
  simp only [bytesN] at h
  subst h
  rfl
def nmNo : Nm := ⟨ByteArray.empty, by simp [maxLen]⟩
def nmOf (v : Value) : Nm := match v with | .string s => if h : s.size ≤ maxLen then ⟨s, h⟩ else nmNo | _ => nmNo
theorem nmOf_nmV (s : Nm) : nmOf (nmV s) = s := by
  unfold nmOf nmV
  simp only [dif_pos s.2]
def nmOfL (l : List UInt8) : Nm := nmOf (encStr l)
theorem encStr_bytesN (s : Nm) : encStr (bytesN s) = nmV s := by
  obtain ⟨⟨⟨x⟩⟩, hx⟩ := s
  rfl
theorem nmOfL_bytesN (s : Nm) : nmOfL (bytesN s) = s := by unfold nmOfL; rw [encStr_bytesN, nmOf_nmV]
def readU : Value → Option (DataW Unit × List MemPlace) := fun _ => some (.nil, [])
/-- The names of a map, as the library's contract reads them. -/
theorem names_of {w : World} {mb N : Nat} {f : Nm → Option Value} (h : mapEx w nmV mb N f) (hN : N ≤ 1000000000) :
    ∃ D0 nn, w.ownsMap Try.prog 9 readU mb nn D0 ∧ Maps.size D0 ≤ N ∧ ∃ ns : List Nm, (strKeys D0).Perm (ns.map bytesN) ∧ ns.Nodup ∧ ∀ s, s ∈ ns ↔ (f s).isSome = true := by
  obtain ⟨n, hn, es, clock, hb, M, rfl⟩ := h
  have hrg : ∀ e ∈ es.toList, ∃ x : Nm, e.key = nmV x ∧ WideElems.rg Try.prog 9 readU e = (.string (bytesN x), .nil) ∧ WideElems.rd Try.prog 9 readU e = some (.string (bytesN x), .nil) := by
    intro e he
    obtain ⟨x, hx⟩ := M.keys e he
    have hk : keyOf Try.prog 9 e.key = some (.string (bytesN x)) := by rw [hx]; exact Go.WideMaps.keyOf_string_mk Try.underlying9 x.2
    have hrd : WideElems.rd Try.prog 9 readU e = some (.string (bytesN x), .nil) := by unfold WideElems.rd; rw [hk]; rfl
    exact ⟨x, hx, by unfold WideElems.rg; rw [hrd]; rfl, hrd⟩
  refine ⟨_, es.size, ⟨es, clock, hb, ⟨by unfold maxLen; omega, M.stamped, fun e he => by obtain ⟨x, _, _, h⟩ := hrg e he; exact ⟨_, h⟩⟩, Nat.le_refl _, rfl⟩, ?_, es.toList.map (fun e => nmOf e.key), ?_, ?_, ?_⟩
  · show ((es.toList.map (WideElems.rg Try.prog 9 readU)).foldr DataW.insert []).length ≤ N
    rw [(WideShapes.sorted_perm _).length_eq]
    simp; omega
  · show (((es.toList.map (WideElems.rg Try.prog 9 readU)).foldr DataW.insert []).map fun p => strOf p.1).Perm _
    refine ((WideShapes.sorted_perm _).map _).trans ?_
    rw [List.map_map, List.map_map]
    have : es.toList.map ((fun p : Lit × DataW Unit => strOf p.1) ∘ WideElems.rg Try.prog 9 readU) = es.toList.map (bytesN ∘ fun e => nmOf e.key) := by
      apply List.map_congr_left
      intro e he
      obtain ⟨x, hx, hr, _⟩ := hrg e he
      simp only [Function.comp, hr, strOf, hx, nmOf_nmV]
    rw [this]
  · have hp := ((stamped_iff es clock).1 M.stamped).2.2
    refine List.Pairwise.map _ (fun a b hab => ?_) (List.Pairwise.and_mem.1 hp)
    obtain ⟨ha, hb, hne⟩ := hab
    intro e
    obtain ⟨x, hx, _⟩ := hrg a ha
    obtain ⟨y, hy, _⟩ := hrg b hb
    rw [hx, hy, nmOf_nmV, nmOf_nmV] at e
    exact hne (by rw [hx, hy, e])
  · intro s
    rw [List.mem_map]
    constructor
    · rintro ⟨e, he, rfl⟩
      obtain ⟨x, hx, _⟩ := hrg e he
      rw [hx, nmOf_nmV]
      rw [(M.has x e.val).2 ⟨e, he, hx, rfl⟩]; rfl
    · intro hs
      obtain ⟨v, hv⟩ := Option.isSome_iff_exists.1 hs
      obtain ⟨e, he, hk, _⟩ := (M.has s v).1 hv
      exact ⟨e, he, by rw [hk, nmOf_nmV]⟩
/-- All names that there are, each once, in order. -/
structure NamesOf (M : FsM) (ns : List Nm) : Prop where
  nodup : ns.Nodup
  mem : ∀ s, s ∈ ns ↔ (M.files s).isSome = true
  sorted : ns.Pairwise (fun a b => bytesN a ≤ bytesN b)
  size : ns.length ≤ 1000000000
  few : ns.length ≤ M.n
/-- A slice of names, in a block from B on. -/
def NamesAt (w : World) (B : Nat) (v : Sl) (ns : List Nm) : Prop := v.n = ns.length ∧ (ns ≠ [] → ∃ g, v.a = some ⟨g, 0, none⟩ ∧ B ≤ g ∧ g < w.heap.size ∧ ∀ k (h : k < ns.length), w.cell? ⟨g, k, none⟩ = some (nmV ns[k]))
theorem names_list {M : FsM} {D0 : DataW Unit} {ns : List Nm} {ss : List (List UInt8)} (hp : (strKeys D0).Perm (ns.map bytesN)) (hnd : ns.Nodup) (hm : ∀ s, s ∈ ns ↔ (M.files s).isSome = true) (hs : ss.Perm (strKeys D0)) (hz : (strKeys D0).length ≤ 1000000000) (hz2 : (strKeys D0).length ≤ M.n) :
    ∃ ns' : List Nm, NamesOf M ns' ∧ (ss.mergeSort (fun x y => decide (x ≤ y))).map encStr = ns'.map nmV ∧ ns'.length = ss.length := by
  have hls := ((List.mergeSort_perm ss (fun x y => decide (x ≤ y))).trans hs).trans hp
  obtain ⟨ls, hlse⟩ : ∃ ls, ls = ss.mergeSort (fun x y => decide (x ≤ y)) := ⟨_, rfl⟩
  rw [← hlse] at hls ⊢
  have hb : ∀ l ∈ ls, bytesN (nmOfL l) = l := by
    intro l hl
    obtain ⟨s, _, rfl⟩ := List.mem_map.1 (hls.mem_iff.1 hl)
    rw [nmOfL_bytesN]
  have hnp : (ls.map nmOfL).Perm ns := by
    have := hls.map nmOfL
    rw [List.map_map] at this
    have e : ns.map (nmOfL ∘ bytesN) = ns := by
      conv => rhs; rw [← List.map_id ns]
      exact List.map_congr_left (fun s _ => nmOfL_bytesN s)
    rwa [e] at this
  refine ⟨ls.map nmOfL, ⟨hnp.nodup_iff.2 hnd, fun s => hnp.mem_iff.trans (hm s), ?_, by rw [List.length_map, hlse, List.length_mergeSort, hs.length_eq]; exact hz, by rw [List.length_map, hlse, List.length_mergeSort, hs.length_eq]; exact hz2⟩, ?_, ?_⟩
  · have tr : ∀ a b c : List UInt8, decide (a ≤ b) = true → decide (b ≤ c) = true → decide (a ≤ c) = true := fun a b c h1 h2 => by simp only [decide_eq_true_eq] at *; exact List.le_trans h1 h2
    have to : ∀ a b : List UInt8, (decide (a ≤ b) || decide (b ≤ a)) = true := fun a b => by simp only [Bool.or_eq_true, decide_eq_true_eq]; exact List.le_total a b
    have hso := List.pairwise_mergeSort (le := fun x y : List UInt8 => decide (x ≤ y)) tr to ss
    rw [← hlse] at hso
    rw [List.pairwise_map]
    refine (List.Pairwise.and_mem.1 hso).imp (fun {a b} h => ?_)
    rw [hb a h.1, hb b h.2.1]
    simpa using h.2.2
  · rw [List.map_map]
    refine List.map_congr_left (fun l hl => ?_)
    show encStr l = nmV (nmOfL l)
    rw [← encStr_bytesN, hb l hl]
  · rw [List.length_map, hlse, List.length_mergeSort]
set_option maxRecDepth 100000 in
set_option maxHeartbeats 1000000 in
theorem names_file (base : Nat → Prop) (p : Nat) (M : FsM) (w : World) (h : fsAt w base p M) (hM : M.small) :
    Calls Try.prog 107 #[.pointer (some ⟨p, 0, none⟩)] w fun e w' => ∃ (v : Sl) (ns : List Nm), e = .returned (.slice v.a v.n v.c) ∧ NamesAt w' w.heap.size v ns ∧ NamesOf M ns ∧ Below w.heap.size w w' := by
  obtain ⟨mb, F, h⟩ := h
  have c0 := h.cell0
  obtain ⟨D0, nn, hown, hsz, ns, hperm, hnd, hmem⟩ := names_of h.map hM.2.2.2.2
  have hm2 : ∀ s, s ∈ ns ↔ (M.files s).isSome = true := fun s => (hmem s).trans (by rw [h.files s]; simp)
  have hsz2 := hM.2.2.2.2
  have hlib := sorted_lib mb nn D0 readU w hown (by unfold maxLen; omega) (by omega)
  have hzl : (strKeys D0).length ≤ 1000000000 := by
    have : (strKeys D0).length = Maps.size D0 := by cases D0 <;> simp [strKeys, Maps.size]
    omega
  have hzl2 : (strKeys D0).length ≤ M.n := by
    have : (strKeys D0).length = Maps.size D0 := by cases D0 <;> simp [strKeys, Maps.size]
    omega
  have HN := Lib.hid (And.intro hperm (And.intro hnd (And.intro hm2 (And.intro hzl hzl2))))
  clear h hown hsz hperm hnd hmem hm2 hsz2 hM
  go_enter Try.func107, Try.ntmps107
  go_wp2_with (first | (go_at_call 148; refine (keys_lib _ _).mono ?_; rintro e w' ⟨rfl, rfl⟩) | (go_at_call 147; refine hlib.mono ?_; rintro e w2 ⟨v, ss, rfl, hS, hrow, hnil, hb⟩))
  go_ret
  obtain ⟨ns', hN, he, hl⟩ := names_list HN.out.1 HN.out.2.1 HN.out.2.2.1 hS HN.out.2.2.2.1 HN.out.2.2.2.2
  rw [he] at hrow
  obtain ⟨a, c, rfl, hc, hg⟩ := ownsRow_slice hrow
  refine ⟨⟨a, ss.length, c⟩, ns', rfl, ⟨hl.symm, fun hne => ?_⟩, hN, ((Below.refl _ w).alloc (Nat.le_refl _) _).trans (hb.mono (by simp))⟩
  obtain ⟨g, rfl, hg1, hg2⟩ := hg (by rw [← hl]; intro e; exact hne (List.eq_nil_of_length_eq_zero e))
  refine ⟨g, rfl, Nat.le_trans (by simp) hg1, hg2, fun k hk => ?_⟩
  have := hrow.cells (g := g) rfl k (nmV ns'[k]) (by simp [hk])
  have e : (⟨g, 0, none⟩ : Addr).add k = ⟨g, k, none⟩ := by unfold Addr.add; split <;> simp_all
  rwa [e] at this
end Go.Proofs.Ytkiindgcbpkddaa
