/- Contracts of package coraclealike: strings compared. The law FileNames: its files, in plain words. -/
import Derived.Test.YtaopiefbejajkaaFileK
import Derived.Test.YtaopiefbejajkaaFileL
set_option linter.unusedSimpArgs false
set_option linter.unusedVariables false
namespace Go.Proofs.Ytaopiefbejajkaa
open Go.RowKit Go.Sort
def strsAt (w : World) (v : Sl) (l : List Nm) : Prop := v.n = l.length ∧ (l ≠ [] → ∃ b off, v.a = some ⟨b, off, none⟩ ∧ ∀ k (h : k < l.length), w.cell? ⟨b, off + k, none⟩ = some (nmV l[k]))
theorem cell_lt {w : World} {b o : Nat} {x : Value} (h : w.cell? ⟨b, o, none⟩ = some x) : b < w.heap.size := by
  rcases Nat.lt_or_ge b w.heap.size with g | g
  · exact g
  · simp [World.cell?, Array.getElem?_eq_none g] at h
theorem strsAt.below {w w' : World} {v : Sl} {l : List Nm} (h : strsAt w v l) (hb : Below w.heap.size w w') : strsAt w' v l := by
  refine ⟨h.1, fun hl => ?_⟩
  obtain ⟨b, off, e, hh⟩ := h.2 hl
  exact ⟨b, off, e, fun k hk => (hb.cell (p := ⟨b, off + k, none⟩) (cell_lt (hh k hk))).trans (hh k hk)⟩
theorem strsAt.at {w : World} {v : Sl} {l : List Nm} (h : strsAt w v l) {k : Nat} (hk : k < l.length) : ∃ b off, v.a = some ⟨b, off, none⟩ ∧ w.cell? ⟨b, off + k, none⟩ = some (.string l[k].1) := by
  obtain ⟨b, off, e, hh⟩ := h.2 (by intro e; rw [e] at hk; simp at hk)
  exact ⟨b, off, e, hh k hk⟩
set_option maxRecDepth 100000 in
set_option maxHeartbeats 1000000 in
theorem strings_al (u v : Sl) (l m : List Nm) (w : World) (hu : strsAt w u l) (hv : strsAt w v m) (hl : l.length ≤ 1000000000) (hm : m.length ≤ 1000000000) :
    Calls Try.prog 55 #[.slice u.a u.n u.c, .slice v.a v.n v.c] w fun e w' => e = .returned (.bool (decide (l = m))) ∧ Below w.heap.size w w' := by
  obtain ⟨ua, un, uc⟩ := u
  obtain ⟨va, vn, vc⟩ := v
  have h1 : un = l.length := hu.1
  have h2 : vn = m.length := hv.1
  subst h1 h2
  by_cases hn : l.length = m.length
  · have d1 : (decide ((l.length : Int) = (m.length : Int))) = true := decide_eq_true (by omega)
    have hne : Hid (m.length = l.length) := hn.symm
    rw [show (m.length) = l.length from hn.symm]
    go_enter Try.func55, Try.ntmps55
    go_wp2_with fail
    have HU := Lib.hid hu
    have HV := Lib.hid hv
    clear hu hv d1
    go_loopw [5] (fun v5 wr => ∃ k : Nat, k ≤ l.length ∧ v5 = .int .i64 k ∧ Below w.heap.size w wr ∧ Hid (l.take k = m.take k)) (fun v5 _ => l.length - (intOf v5).toNat)
    case atStart => exact ⟨0, Nat.zero_le _, rfl, Below.refl _ _, by unfold Hid; simp⟩
    case round =>
      obtain ⟨k, hk, rfl, hb, htk⟩ := hrel
      by_cases hlt : k < l.length
      · have hlm : k < m.length := by omega
        obtain ⟨b1, o1, e1, cU⟩ := (HU.out.below hb).at hlt
        obtain ⟨b2, o2, e2, cV⟩ := (HV.out.below hb).at hlm
        simp only at e1 e2
        subst e1 e2
        have dlt : decide ((k : Int) < (l.length : Int)) = true := decide_eq_true (by omega)
        obtain ⟨x, hx⟩ : ∃ x, x = l[k].1 := ⟨_, rfl⟩
        obtain ⟨y, hy⟩ : ∃ y, y = m[k].1 := ⟨_, rfl⟩
        rw [← hx] at cU
        rw [← hy] at cV
        have HXY := Lib.hid (And.intro hx hy)
        clear hx hy
        have HN := Lib.hid hn
        clear hn
        by_cases hxy : x = y
        · have t1 : (x.toList == y.toList) = true := by rw [hxy]; exact beq_self_eq_true _
          have HE := Lib.hid hxy
          clear hxy
          go_wp2_with fail
          go_quiet (fail)
          go_wp2_with fail
          refine ⟨⟨k + 1, by omega, by go_num, hb.trans (below_drewN ((Below.refl _ wr).mono hb.size) nq), ?_⟩, by simp [intOf]; omega⟩
          unfold Hid
          rw [List.take_succ_eq_append_getElem hlt, List.take_succ_eq_append_getElem hlm, htk.out, show l[k] = m[k] from Subtype.ext (by rw [← HXY.out.1, ← HXY.out.2]; exact HE.out)]
        · have t1 : (x.toList == y.toList) = false := by
            rw [beq_eq_false_iff_ne]
            intro e
            rw [ByteArray.toList_eq, ByteArray.toList_eq] at e
            exact hxy (ByteArray.ext (Array.ext' e))
          have HE := Lib.hid hxy
          clear hxy
          go_wp2_with fail
          go_quiet (fail)
          go_wp2_with fail
          go_ret
          refine ⟨?_, hb.trans (below_drewN ((Below.refl _ wr).mono hb.size) nq)⟩
          have hne : l ≠ m := by
            intro e
            subst e
            exact HE.out (by rw [HXY.out.1, HXY.out.2])
          rw [decide_eq_false hne]
          rfl
      · have hke : k = l.length := by omega
        subst hke
        have dlt : decide ((l.length : Int) < (l.length : Int)) = false := decide_eq_false (by omega)
        have hlm : l = m := by
          have := htk.out
          rw [List.take_length, hn, List.take_length] at this
          exact this
        have HL := Lib.hid hlm
        have HN := Lib.hid hn
        clear hn hlm htk hne
        go_wp2_with fail
        go_ret
        refine ⟨?_, hb⟩
        rw [decide_eq_true HL.out]
        rfl
  · have hT : Hid (decide (l = m) = false) := decide_eq_false (fun e => hn (by rw [e]))
    have d1 : ((l.length : Int) == (m.length : Int)) = false := by rw [beq_eq_false_iff_ne]; omega
    have d2 : ((l.length : Int) != (m.length : Int)) = true := by rw [bne_iff_ne]; omega
    clear hn
    go_enter Try.func55, Try.ntmps55
    go_wp2_with fail
    go_ret
    exact ⟨by rw [hT.out]; rfl, Below.refl _ _⟩
end Go.Proofs.Ytaopiefbejajkaa
namespace Go.Proofs.Ytaopiefbejajkaa
open Go.RowKit
instance memNm (t : Nm) (l : List Nm) : Decidable (t ∈ l) := @List.instDecidableMemOfLawfulBEq Nm (@instBEqOfDecidableEq Nm inferInstance) inferInstance t l
/-- Power is on, n acts were asked for, these are the files. -/
structure Plain (M : FsM) (n : Nat) (F : Nm → Option (List UInt8 × Nat)) : Prop where
  off : M.off = false
  cut : M.cut = false
  left : M.left = -(n : Int)
  ops : M.ops = n
  few : M.n ≤ n
  files : M.files = F
section
variable {M : FsM} {n : Nat} {F : Nm → Option (List UInt8 × Nat)}
theorem Plain.zero : Plain fs0 0 (fun _ => none) := ⟨rfl, rfl, rfl, rfl, Nat.le_refl _, rfl⟩
theorem Plain.dark (h : Plain M n F) : M.dark = false := by unfold FsM.dark; rw [h.off, h.cut]; rfl
theorem Plain.small (h : Plain M n F) (hn : n ≤ 1000000000) : M.small := by
  have h1 := h.left; have h2 := h.ops; have h3 := h.few
  unfold FsM.small
  omega
theorem Plain.asked (h : Plain M n F) : Plain M.asked (n + 1) F := by
  have hd := h.dark
  refine ⟨?_, h.cut, ?_, ?_, Nat.le_succ_of_le h.few, h.files⟩
  · exact hd
  · show (if M.dark then M.left else M.left - 1) = _
    rw [hd, h.left]; simp; omega
  · show M.ops + 1 = _
    rw [h.ops]; simp
theorem Plain.askE (h : Plain M n F) {ns : List Nm} (hok : ns.all okNm = true) : askE M ns = 0 := by
  unfold Go.Proofs.Ytaopiefbejajkaa.askE
  rw [h.dark, hok]; rfl
theorem Plain.hasE (h : Plain M n F) {s : Nm} {ns : List Nm} (hok : (s :: ns).all okNm = true) : hasE M s ns = if (F s).isSome then 0 else 5 := by
  unfold Go.Proofs.Ytaopiefbejajkaa.hasE
  rw [h.askE hok, if_pos rfl, h.files]
theorem Plain.append (h : Plain M n F) {s : Nm} {l : List UInt8} (hok : okNm s = true) (hl : ((F s).getD ([], 0)).1.length + l.length ≤ 16777216) :
    appE M s l.length = 0 ∧ Plain (appM M s l) (n + 1) (fun t => if t = s then some (((F s).getD ([], 0)).1 ++ l, ((F s).getD ([], 0)).2) else F t) := by
  have he : appE M s l.length = 0 := by
    unfold appE
    rw [h.askE (by simp [hok]), if_pos rfl, if_neg]
    unfold oldF
    rw [h.files]
    omega
  refine ⟨he, ?_⟩
  unfold appM
  rw [if_pos he]
  have ha := h.asked
  refine ⟨ha.off, ha.cut, ha.left, ha.ops, Nat.succ_le_succ h.few, ?_⟩
  unfold oldF
  rw [h.files]
  show (fun t => if t = s then _ else M.files t) = _
  rw [h.files]
theorem Plain.rename (h : Plain M n F) {s t : Nm} (hs : okNm s = true) (ht : okNm t = true) (hF : (F s).isSome = true) :
    Go.Proofs.Ytaopiefbejajkaa.hasE M s [t] = 0 ∧ Plain (renameM M s t) (n + 1) (fun u => if u = t then F s else if u = s then none else F u) := by
  have he := h.hasE (s := s) (ns := [t]) (by simp [hs, ht])
  rw [hF, if_pos rfl] at he
  refine ⟨he, ?_⟩
  unfold renameM
  rw [if_pos he]
  have ha := h.asked
  refine ⟨ha.off, ha.cut, ha.left, ha.ops, Nat.succ_le_succ h.few, ?_⟩
  show (fun u => if u = t then M.files s else if u = s then none else M.files u) = _
  rw [h.files]
theorem Plain.rename_no (h : Plain M n F) {s t : Nm} (hs : okNm s = true) (ht : okNm t = true) (hF : F s = none) :
    Go.Proofs.Ytaopiefbejajkaa.hasE M s [t] = 5 ∧ Plain (renameM M s t) (n + 1) F := by
  have he := h.hasE (s := s) (ns := [t]) (by simp [hs, ht])
  rw [hF] at he
  have he2 : Go.Proofs.Ytaopiefbejajkaa.hasE M s [t] = 5 := he
  refine ⟨he2, ?_⟩
  unfold renameM
  rw [if_neg (by rw [he2]; decide)]
  exact h.asked
theorem Plain.remove (h : Plain M n F) {s : Nm} (hs : okNm s = true) (hF : (F s).isSome = true) :
    Go.Proofs.Ytaopiefbejajkaa.hasE M s [] = 0 ∧ Plain (removeM M s) (n + 1) (fun u => if u = s then none else F u) := by
  have he := h.hasE (s := s) (ns := []) (by simp [hs])
  rw [hF, if_pos rfl] at he
  refine ⟨he, ?_⟩
  unfold removeM
  rw [if_pos he]
  have ha := h.asked
  refine ⟨ha.off, ha.cut, ha.left, ha.ops, Nat.le_succ_of_le h.few, ?_⟩
  show (fun u => if u = s then none else M.files u) = _
  rw [h.files]
theorem Plain.remove_no (h : Plain M n F) {s : Nm} (hs : okNm s = true) (hF : F s = none) :
    Go.Proofs.Ytaopiefbejajkaa.hasE M s [] = 5 ∧ Plain (removeM M s) (n + 1) F := by
  have he := h.hasE (s := s) (ns := []) (by simp [hs])
  rw [hF] at he
  have he2 : Go.Proofs.Ytaopiefbejajkaa.hasE M s [] = 5 := he
  refine ⟨he2, ?_⟩
  unfold removeM
  rw [if_neg (by rw [he2]; decide)]
  exact h.asked
theorem Plain.trunc (h : Plain M n F) {s : Nm} {k : Int} {x : List UInt8 × Nat} (hs : okNm s = true) (hF : F s = some x) (hk : 0 ≤ k) (hk2 : k ≤ x.1.length) :
    truncE M s k = 0 ∧ Plain (truncM M s k) (n + 1) (fun u => if u = s then some (x.1.take k.toNat, min x.2 k.toNat) else F u) := by
  have he := h.hasE (s := s) (ns := []) (by simp [hs])
  rw [hF] at he
  have he2 : Go.Proofs.Ytaopiefbejajkaa.hasE M s [] = 0 := he
  have ht : truncE M s k = 0 := by
    unfold truncE
    rw [if_pos he2, h.files, hF, if_neg]
    simp only [Option.getD_some]
    omega
  refine ⟨ht, ?_⟩
  unfold truncM
  rw [if_pos ht]
  have ha := h.asked
  refine ⟨ha.off, ha.cut, ha.left, ha.ops, Nat.le_succ_of_le h.few, ?_⟩
  show (fun u => if u = s then (M.files s).map _ else M.files u) = _
  rw [h.files, hF]
  rfl
theorem Plain.trunc_no (h : Plain M n F) {s : Nm} {k : Int} {x : List UInt8 × Nat} (hs : okNm s = true) (hF : F s = some x) (hk : k < 0 ∨ (x.1.length : Int) < k) :
    truncE M s k = 1 ∧ Plain (truncM M s k) (n + 1) F := by
  have he := h.hasE (s := s) (ns := []) (by simp [hs])
  rw [hF] at he
  have he2 : Go.Proofs.Ytaopiefbejajkaa.hasE M s [] = 0 := he
  have ht : truncE M s k = 1 := by
    unfold truncE
    rw [if_pos he2, h.files, hF, if_pos]
    exact hk
  refine ⟨ht, ?_⟩
  unfold truncM
  rw [if_neg (by rw [ht]; decide)]
  exact h.asked
end
/-- Names put, one behind the other, each with its own bytes. -/
def nmM (l : List Nm) (k : Nat) : FsM := (l.take k).foldl (fun M s => appM M s (bytesN s)) fs0
theorem bytesN_ok {s : Nm} (h : okNm s = true) : (bytesN s).length ≤ 50 ∧ 1 ≤ (bytesN s).length := by
  have h2 : 1 ≤ s.1.size ∧ s.1.size ≤ 50 := by simpa [okNm] using h
  have : (bytesN s).length = s.1.size := by simp [bytesN]
  omega
theorem nmM_succ (l : List Nm) {k : Nat} (hk : k < l.length) : nmM l (k + 1) = appM (nmM l k) l[k] (bytesN l[k]) := by
  unfold nmM
  rw [List.take_succ_eq_append_getElem hk, List.foldl_append]
  rfl
theorem nmM_plain (l : List Nm) (hnd : l.Nodup) (hok : ∀ s ∈ l, okNm s = true) : ∀ k, k ≤ l.length → Plain (nmM l k) k (fun t => if t ∈ l.take k then some (bytesN t, 0) else none)
  | 0, _ => by simpa [nmM] using Plain.zero
  | k + 1, hk => by
    have hk2 : k < l.length := by omega
    have h := nmM_plain l hnd hok k (by omega)
    have hnot : l[k] ∉ l.take k := by
      have hnd2 := hnd
      rw [← List.take_append_drop k l] at hnd2
      intro hin
      have hd : l[k] ∈ l.drop k := by rw [List.drop_eq_getElem_cons hk2]; exact List.mem_cons_self
      exact (List.nodup_append.1 hnd2).2.2 _ hin _ hd rfl
    have ho := hok _ (List.getElem_mem hk2)
    have ha := (h.append (s := l[k]) (l := bytesN l[k]) ho (by rw [if_neg hnot]; have := bytesN_ok ho; simp; omega)).2
    rw [nmM_succ l hk2]
    rw [if_neg hnot] at ha
    have e : (fun t => if t ∈ l.take (k + 1) then some (bytesN t, 0) else none) = (fun t => if t = l[k] then some ((((none : Option (List UInt8 × Nat)).getD ([], 0)).1 ++ bytesN l[k]), ((none : Option (List UInt8 × Nat)).getD ([], 0)).2) else if t ∈ l.take k then some (bytesN t, 0) else none) := by
      funext t
      by_cases ht : t = l[k]
      · subst ht
        rw [if_pos rfl, if_pos (by rw [List.take_succ_eq_append_getElem hk2]; exact List.mem_append_right _ List.mem_cons_self)]
        rfl
      · rw [if_neg ht]
        have : t ∈ l.take (k + 1) ↔ t ∈ l.take k := by
          rw [List.take_succ_eq_append_getElem hk2, List.mem_append]
          exact ⟨fun h => h.elim id (fun h => absurd (List.mem_singleton.1 h) ht), Or.inl⟩
        simp only [this]
    rw [e]
    exact ha
theorem nmM_e (l : List Nm) (hnd : l.Nodup) (hok : ∀ s ∈ l, okNm s = true) {k : Nat} (hk : k < l.length) : appE (nmM l k) l[k] (bytesN l[k]).length = 0 := by
  have h := nmM_plain l hnd hok k (by omega)
  have ho := hok _ (List.getElem_mem hk)
  refine (h.append (s := l[k]) (l := bytesN l[k]) ho ?_).1
  have hb := bytesN_ok ho
  split
  · simp; omega
  · simp; omega
structure NmChain (M : FsM) (a b c : Nm) : Prop where
  s3 : M.small
  e4 : hasE M a [b] = 0
  s4 : (renameM M a b).small
  e5 : hasE (renameM M a b) a [c] = 5
  s5 : (renameM (renameM M a b) a c).small
  e6 : hasE (renameM (renameM M a b) a c) c [] = 0
  s6 : (removeM (renameM (renameM M a b) a c) c).small
  e7 : hasE (removeM (renameM (renameM M a b) a c) c) c [] = 5
  s7 : (removeM (removeM (renameM (renameM M a b) a c) c) c).small
  e8 : hasE (removeM (removeM (renameM (renameM M a b) a c) c) c) b [b] = 0
def nm8 (M : FsM) (a b c : Nm) : FsM := renameM (removeM (removeM (renameM (renameM M a b) a c) c) c) b b
theorem nm_chain (a b c : Nm) (M : FsM) (ha : okNm a = true) (hb : okNm b = true) (hc : okNm c = true) (hab : a ≠ b) (hbc : b ≠ c) (hac : a ≠ c)
    (h3 : Plain M 3 (fun t => if t ∈ [a, b, c] then some (bytesN t, 0) else none)) : NmChain M a b c ∧ Plain (nm8 M a b c) 8 (fun t => if t = b then some (bytesN a, 0) else none) := by
  obtain ⟨e4, h4⟩ := h3.rename (s := a) (t := b) ha hb (by simp)
  obtain ⟨e5, h5⟩ := h4.rename_no (s := a) (t := c) ha hc (by simp [hab])
  obtain ⟨e6, h6⟩ := h5.remove (s := c) hc (by simp [hbc.symm, hac.symm])
  obtain ⟨e7, h7⟩ := h6.remove_no (s := c) hc (by simp)
  obtain ⟨e8, h8⟩ := h7.rename (s := b) (t := b) hb hb (by simp [hbc])
  refine ⟨⟨h3.small (by omega), e4, h4.small (by omega), e5, h5.small (by omega), e6, h6.small (by omega), e7, h7.small (by omega), e8⟩, ?_⟩
  have e : (fun t => if t = b then some (bytesN a, 0) else none) = (fun u : Nm => if u = b then (if b = c then none else if b = b then (if a ∈ [a, b, c] then some (bytesN a, 0) else none) else if b = a then none else if b ∈ [a, b, c] then some (bytesN b, 0) else none) else if u = b then none else if u = c then none else if u = b then (if a ∈ [a, b, c] then some (bytesN a, 0) else none) else if u = a then none else if u ∈ [a, b, c] then some (bytesN u, 0) else none) := by
    funext u
    by_cases hu : u = b
    · simp [hu, hbc]
    · by_cases hu2 : u = c
      · subst hu2
        simp [hu]
      · by_cases hu3 : u = a
        · simp [hu, hu2, hu3, hab]
        · simp [hu, hu2, hu3]
  rw [e]
  exact h8
theorem nm8_names {M : FsM} {a b c : Nm} (h : Plain (nm8 M a b c) 8 (fun t => if t = b then some (bytesN a, 0) else none)) {ns : List Nm} (hn : NamesOf (nm8 M a b c) ns) : ns = [b] := by
  refine names_single hn (fun t => ?_)
  rw [h.files]
  by_cases ht : t = b <;> simp [ht]
end Go.Proofs.Ytaopiefbejajkaa
