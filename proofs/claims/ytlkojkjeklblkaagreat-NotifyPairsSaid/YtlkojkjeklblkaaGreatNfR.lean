/- One registration and one transaction: what is told as blocks come and go. Notes gathered beside a hub, over what was there. -/
import Derived.Test.YtlkojkjeklblkaaGreatNfM
import Derived.Test.YtlkojkjeklblkaaGreatConv
set_option linter.unusedSimpArgs false
set_option linter.unusedVariables false
namespace Go.Proofs.YtlkojkjeklblkaaGreat
open Go.RowKit Go.MapKept
/-- The one transaction. -/
def tM : Tx := { ins := [⟨⟨nameS 1, 0⟩, 0, ⟨1, 0, ByteArray.empty⟩⟩], outs := [], lock := 0 }
theorem c_tM : checkS tM = 0 := by decide +kernel
theorem id_tM : idS tM ≠ nameS 1 := by decide +kernel
theorem txs_tM : txsS [tM] = 0 := txs_one c_tM (by simp [tM]) (fun i hi => by
  have e : i = ⟨⟨nameS 1, 0⟩, 0, ⟨1, 0, ByteArray.empty⟩⟩ := by simpa [tM] using hi
  subst e
  exact fun h => id_tM h.symm)
/-- A hub with one registration. -/
def MM (x : Reg) (st : Option Note) (L : List (List Tx)) : HubM := ⟨5, 1, [⟨1, x, st⟩], L⟩
theorem MM_con (x : Reg) (st : Option Note) {L : List (List Tx)} {l : List Tx} (h : conE L l = 0) : (MM x st L).conM l = MM x (dueR (conL L l) 1 x) (conL L l) ∧ (MM x st L).conO l = outR st (dueR (conL L l) 1 x) := by
  constructor
  · unfold HubM.conM; rw [if_pos (show conE (MM x st L).L l = 0 from h)]; rfl
  · unfold HubM.conO; rw [if_pos (show conE (MM x st L).L l = 0 from h)]
    show outR st (dueR (conL L l) 1 x) ++ [] = _
    rw [List.append_nil]
theorem MM_dis (x : Reg) (st : Option Note) {L : List (List Tx)} (h : L ≠ []) : (MM x st L).disM = MM x (dueR L.dropLast 1 x) L.dropLast ∧ (MM x st L).disO = outR st (dueR L.dropLast 1 x) := by
  constructor
  · unfold HubM.disM; rw [if_neg (show ¬ (MM x st L).L = [] from h)]; rfl
  · unfold HubM.disO; rw [if_neg (show ¬ (MM x st L).L = [] from h)]
    show outR st (dueR L.dropLast 1 x) ++ [] = _
    rw [List.append_nil]
/-- The one registration. -/
def xM (d : Int) : Reg := ⟨1, idS tM, d, Outpoint.zero, 0⟩
def nM (a : Nat) : Note := ⟨1, false, 1, ((a + 1 : Nat) : Int), idS tM⟩
def sM (d : Int) (a b : Nat) : Option Note := if d ≤ (b : Int) + 1 then some (nM a) else none
theorem reg_M {d : Int} (h1 : 1 ≤ d) (h2 : d ≤ 1000) : (HubM.new 5).regE (xM d) = 0 ∧ (HubM.new 5).regN (xM d) = 1 ∧ (HubM.new 5).regM (xM d) = MM (xM d) none [] := by
  have hm : mayR (xM d) = true := by unfold mayR; rw [if_pos (show (xM d).kind = 1 from rfl)]; show (decide (1 ≤ d) && decide (d ≤ 1000)) = true; rw [decide_eq_true h1, decide_eq_true h2]; rfl
  have he : (HubM.new 5).regE (xM d) = 0 := regE_zero.2 ⟨hm, by decide⟩
  refine ⟨he, ?_, ?_⟩
  · unfold HubM.regN; rw [if_pos he]; rfl
  · unfold HubM.regM; rw [if_pos he]
    show ({ most := 5, last := 1, rows := [if (1 : Int) = 1 then { id := 1, r := plainR (xM d), st := dueR [] 1 (plainR (xM d)) } else _], L := [] } : HubM) = _
    have hp : plainR (xM d) = xM d := by unfold plainR; rw [if_pos (show (xM d).kind = 1 from rfl)]; rfl
    rw [if_pos rfl, hp, show dueR [] 1 (xM d) = none from due_nils 0 1 (by show (1 : Int) ≠ 3; decide)]; rfl
theorem due_M (d : Int) (a b : Nat) : dueR (LT a b tM) 1 (xM d) = sM d a b := due_tx a b tM 1 d
theorem due_M0 (d : Int) (a : Nat) : dueR (nils a) 1 (xM d) = none := due_nils a 1 (by show (1 : Int) ≠ 3; decide)
theorem conM_nils (d : Int) (a : Nat) : (MM (xM d) none (nils a)).conM [] = MM (xM d) none (nils (a + 1)) ∧ (MM (xM d) none (nils a)).conO [] = [] ∧ conE (MM (xM d) none (nils a)).L [] = 0 := by
  have h := nil_con (nils a)
  have hm := MM_con (xM d) none h.1
  rw [h.2, ← nils_succ, due_M0] at hm
  exact ⟨hm.1, hm.2, h.1⟩
theorem conM_tx (d : Int) (a : Nat) : (MM (xM d) none (nils a)).conM [tM] = MM (xM d) (sM d a 0) (LT a 0 tM) ∧ (MM (xM d) none (nils a)).conO [tM] = (sM d a 0).toList ∧ conE (MM (xM d) none (nils a)).L [tM] = 0 := by
  have h := con_LT a txs_tM
  have hm := MM_con (xM d) none h.1
  rw [h.2, due_M] at hm
  refine ⟨hm.1, hm.2.trans ?_, h.1⟩
  unfold outR
  cases sM d a 0 <;> rfl
theorem conM_LT (d : Int) (a b : Nat) : (MM (xM d) (sM d a b) (LT a b tM)).conM [] = MM (xM d) (sM d a (b + 1)) (LT a (b + 1) tM) ∧ (MM (xM d) (sM d a b) (LT a b tM)).conO [] = outR (sM d a b) (sM d a (b + 1)) ∧ conE (MM (xM d) (sM d a b) (LT a b tM)).L [] = 0 := by
  have h := nil_con (LT a b tM)
  have hm := MM_con (xM d) (sM d a b) h.1
  rw [h.2, ← LT_succ, due_M] at hm
  exact ⟨hm.1, hm.2, h.1⟩
/-- What was told is what stands. -/
theorem told_LT (d : Int) (a b : Nat) : (sM d a b).toList ++ outR (sM d a b) (sM d a (b + 1)) = (sM d a (b + 1)).toList := by
  unfold sM outR
  by_cases h : d ≤ (b : Int) + 1
  · rw [if_pos h, if_pos (show d ≤ ((b + 1 : Nat) : Int) + 1 by omega), if_pos rfl]; rfl
  · rw [if_neg h]
    by_cases h2 : d ≤ ((b + 1 : Nat) : Int) + 1
    · rw [if_pos h2]; rfl
    · rw [if_neg h2]; rfl
/-- After so many blocks let go of a + d: what is there, and what stands. -/
def LD (a d k : Nat) : List (List Tx) := if k < d then LT a (d - 1 - k) tM else nils (a + d - k)
def sD (a k : Nat) : Option Note := if k = 0 then some (nM a) else none
theorem disM_LD {a d k : Nat} (hd : 1 ≤ d) (hk : k < a + d) : (MM (xM d) (sD a k) (LD a d k)).disM = MM (xM d) (sD a (k + 1)) (LD a d (k + 1)) ∧ (MM (xM d) (sD a k) (LD a d k)).disO = (if k = 0 then [{ nM a with back := true }] else []) ∧ ¬ (MM (xM d) (sD a k) (LD a d k)).L = [] := by
  have hL : LD a d k ≠ [] ∧ (LD a d k).dropLast = LD a d (k + 1) ∧ dueR (LD a d (k + 1)) 1 (xM d) = none := by
    unfold LD
    by_cases h1 : k + 1 < d
    · rw [if_pos (show k < d by omega), if_pos h1]
      have e : d - 1 - k = (d - 1 - (k + 1)) + 1 := by omega
      rw [e, LT_pop]
      refine ⟨?_, rfl, ?_⟩
      · intro h; have := congrArg List.length h; rw [LT_len] at this; simp at this
      · rw [due_M]; unfold sM; rw [if_neg (by omega)]
    · rw [if_neg h1]
      by_cases h2 : k < d
      · rw [if_pos h2]
        have e : d - 1 - k = 0 := by omega
        rw [e, LT_pop0]
        refine ⟨?_, by rw [show a + d - (k + 1) = a by omega], due_M0 _ _⟩
        intro h; have := congrArg List.length h; rw [LT_len] at this; simp at this
      · rw [if_neg h2]
        have e : a + d - k = (a + d - (k + 1)) + 1 := by omega
        rw [e, nils_pop]
        refine ⟨?_, rfl, due_M0 _ _⟩
        intro h; have := congrArg List.length h; rw [nils_len] at this; simp at this
  have hm := MM_dis (xM d) (sD a k) hL.1
  rw [hL.2.1, hL.2.2] at hm
  refine ⟨?_, ?_, hL.1⟩
  · rw [hm.1]; unfold sD; rw [if_neg (by omega)]
  · rw [hm.2]; unfold sD outR
    by_cases h : k = 0
    · rw [if_pos h, if_pos h, if_neg (by simp)]; rfl
    · rw [if_neg h, if_neg h, if_pos rfl]
theorem sD_zero (a d : Nat) (hd : 1 ≤ d) : sM d a (d - 1) = sD a 0 ∧ LT a (d - 1) tM = LD a d 0 := by
  unfold sM sD LD
  rw [if_pos (by omega), if_pos rfl, if_pos (by omega)]
  exact ⟨rfl, rfl⟩
theorem LD_end (a d : Nat) : LD a d (a + d) = [] := by unfold LD; rw [if_neg (by omega), show a + d - (a + d) = 0 by omega]; rfl
theorem sD_end (a d : Nat) (hd : 1 ≤ d) : sD a (a + d) = none := by unfold sD; rw [if_neg (by omega)]
end Go.Proofs.YtlkojkjeklblkaaGreat
namespace Go.Proofs.YtlkojkjeklblkaaGreat
open Go.RowKit Go.MapKept
/-- Nothing put behind notes of one's own. -/
theorem own_note0 {w : World} {base : Nat} {v : Value} {n c : Nat} {l : List Note} (h : w.ownsRow base 63 36 v n (vsOf Note.arr l)) (ty : TypeId) :
    (Builtin.append_ #[47, 47] ty #[v, .slice none 0 c]).run Tryz.prog w = .ok v w := by
  obtain ⟨i0, hi0, hz0, hz1, hz2⟩ := info_Note
  rcases h.2 with ⟨rfl, rfl⟩ | ⟨g, cap, cur, rfl, _, _, hnc, _⟩
  · simp [Builtin.append_, run_underlying Tryz.underlying47, sizeOf, typeInfo, hi0, Builtin.lenOf, Builtin.firstCells]
  · simp [Builtin.append_, run_underlying Tryz.underlying47, sizeOf, typeInfo, hi0, Builtin.lenOf, Builtin.firstCells, hnc, storeCells]
/-- A list of notes put behind notes of one's own. -/
theorem own_notesIn {w : World} {base : Nat} {Z : Nat → Prop} {s t : Sl} {l m : List Note} (h : ownN w base s l) (hs : s.n = l.length) (ht : notesIn w Z t m) (hbase : base ≤ w.heap.size) (hl : l.length + m.length ≤ 1000000) :
    ∃ s' : Sl, ∃ w', (∀ ty, (Builtin.append_ #[47, 47] ty #[.slice s.a s.n s.c, .slice t.a t.n t.c]).run Tryz.prog w = .ok (.slice s'.a s'.n s'.c) w') ∧ s'.n = (l ++ m).length ∧ ownN w' base s' (l ++ m) ∧ Upd w w' (fun j => s.v.ownBlock = some j) ∧ (s'.v.ownBlock = s.v.ownBlock ∨ s'.v.ownBlock = some w.heap.size) := by
  obtain ⟨ta, tn, tc⟩ := t
  have hn : tn = m.length := ht.1
  subst hn
  have some_case : ∀ a : Addr, ta = some a → (∀ j u, (vsOf Note.arr m)[j]? = some u → w.cell? (a.add j) = some u) → ∃ s' : Sl, ∃ w', (∀ ty, (Builtin.append_ #[47, 47] ty #[.slice s.a s.n s.c, .slice ta m.length tc]).run Tryz.prog w = .ok (.slice s'.a s'.n s'.c) w') ∧ s'.n = (l ++ m).length ∧ ownN w' base s' (l ++ m) ∧ Upd w w' (fun j => s.v.ownBlock = some j) ∧ (s'.v.ownBlock = s.v.ownBlock ∨ s'.v.ownBlock = some w.heap.size) := by
    intro a ha hnews
    subst ha
    obtain ⟨i0, hi0, hz0, hz1, hz2⟩ := info_Note
    obtain ⟨v', w', hr, h2, h3, h4, h5⟩ := run_append_own_at (P := Tryz.prog) w base 47 0 63 i0 (.agg Note.zero.arr) 36 64 Tryz.underlying47 hi0 hz0 hz1 hz2 (by simp [Value.cells]) (by decide) s.v l.length _ h a m.length tc (vsOf Note.arr m) (vsOf_length Note.arr 36 (fun x => by simp) m) hnews (fun u hu => by obtain ⟨x, _, hx⟩ := List.mem_flatMap.1 hu; exact one_Note x u hx) (by unfold maxLen; omega) (by omega) hbase
    obtain ⟨a', c', rfl, _, _⟩ := ownsRow_slice h2
    refine ⟨⟨a', l.length + m.length, c'⟩, w', fun ty => hr, by simp, ?_, Upd.grown h3, h5⟩
    show w'.ownsRow base 63 36 _ (l ++ m).length (vsOf Note.arr (l ++ m))
    rw [List.length_append, show vsOf Note.arr (l ++ m) = vsOf Note.arr l ++ vsOf Note.arr m by simp [vsOf]]
    exact h2
  by_cases hm : m = []
  · subst hm
    cases ta with
    | none =>
      refine ⟨s, w, fun ty => own_note0 h ty, by rw [List.append_nil]; exact hs, by rw [List.append_nil]; exact h, Upd.refl _ _, .inl rfl⟩
    | some a => exact some_case a rfl (fun j u hu => by simp [vsOf] at hu)
  · obtain ⟨b, off, ha, _, _, hr⟩ := ht.2.2.2 hm
    refine some_case _ ha (fun j u hu => ?_)
    obtain ⟨hk, he⟩ := vsOf_get Note.arr 36 (by decide) (fun x => by simp) m j u hu
    have e : (⟨b, off, none⟩ : Addr).add j = ⟨b, off + (j / 36) * 36 + j % 36, none⟩ := by
      have e2 : off + j = off + (j / 36) * 36 + j % 36 := by omega
      rw [← e2]
      unfold Addr.add; split <;> simp_all
    rw [e, row?_cellAt (hr (j / 36) hk) (j % 36) (Nat.mod_lt _ (by decide))]
    exact he
structure Seen (W0 Wb w : World) (own0 own : Nat → Nat) (q : Nat) (M : HubM) (n : Nat) (s : Sl) (l : List Note) : Prop where
  nub : Nub W0 w own q M n
  row : ownN w Wb.heap.size s l
  len : s.n = l.length
  mine : ∀ j, s.v.ownBlock = some j → own j = 0
  keep : Keep0 own0 own Wb w
  base : W0.heap.size ≤ Wb.heap.size
section
variable {W0 Wb w w' : World} {own0 own : Nat → Nat} {q : Nat} {M : HubM} {n : Nat} {s : Sl} {l : List Note}
theorem Seen.start (h : Nub W0 Wb own0 q M n) : Seen W0 Wb Wb own0 own0 q M n ⟨none, 0, 0⟩ [] :=
  ⟨h, World.ownsRow_nil _ _ _ _, rfl, fun j hj => by simp [Sl.v, Value.ownBlock] at hj, Keep0.on (Below.refl _ _), h.below.size⟩
theorem Seen.turn (h : Seen W0 Wb w own0 own q M n s l) {M' : HubM} {O : List Note} {E : Int} {e : Ending} (hp : ConN W0 w own q n M' O E e w') :
    ∃ (t : Sl) (own' : Nat → Nat), e = .returned (.tuple #[.slice t.a t.n t.c, .int .i64 E]) ∧ notesIn w' (fun k => own' k = 0) t O ∧ Seen W0 Wb w' own0 own' q M' (n + 1) s l := by
  obtain ⟨t, own', rfl, ht, hN, hk⟩ := hp
  exact ⟨t, own', rfl, ht, hN, ownsRow_upd h.row hk.upd (fun j hj hn => hn (h.mine j hj)), h.len, fun j hj => (hk.same j (World.ownsRow.lt h.row j hj).2).trans (h.mine j hj), h.keep.trans hk, h.base⟩
theorem Seen.append (h : Seen W0 Wb w own0 own q M n s l) {t : Sl} {m : List Note} (ht : notesIn w (fun k => own k = 0) t m) (hl : l.length + m.length ≤ 1000000) :
    ∃ (s' : Sl) (w' : World) (own' : Nat → Nat), (∀ ty, (Builtin.append_ #[47, 47] ty #[.slice s.a s.n s.c, .slice t.a t.n t.c]).run Tryz.prog w = .ok (.slice s'.a s'.n s'.c) w') ∧ Seen W0 Wb w' own0 own' q M n s' (l ++ m) := by
  obtain ⟨s', w', hr, hn, ho, hu, hb⟩ := own_notesIn h.row h.len ht h.keep.upd.size hl
  have hlt : ∀ j, s.v.ownBlock = some j → Wb.heap.size ≤ j ∧ j < w.heap.size := fun j hj => World.ownsRow.lt h.row j hj
  obtain ⟨r, hub⟩ := h.nub.hub
  refine ⟨s', w', setO own w.heap.size 0, hr, ⟨⟨⟨r, ?_⟩, h.nub.last, h.nub.rows, h.nub.high, h.nub.txs, h.nub.fresh.setO h.nub.below.size 0, h.nub.below.trans (hu.below h.nub.below.size (fun k hk => Nat.le_trans h.base (hlt k hk).1))⟩, ho, hn, ?_, ?_, h.base⟩⟩
  · exact ((hub.zoned (Y := fun k => own k = 1 ∧ k < w.heap.size) (fun k hk hz => ⟨hz, hk⟩)).kept hu (fun k hz hk he => by have e1 : own k = 1 := hz.1; rw [h.mine k he] at e1; cases e1)).zoned (fun k hk hz => (setO_old hz.2).trans hz.1)
  · intro j hj
    rcases hb with e | e
    · rw [e] at hj; exact setO_zero (.inl (h.mine j hj))
    · rw [e] at hj; cases hj; exact setO_zero (.inr (Nat.le_refl _))
  · refine ⟨fun g hg => (setO_old (Nat.lt_of_lt_of_le hg h.keep.upd.size)).trans (h.keep.same g hg), h.keep.upd.trans hu (fun g hg he => ?_)⟩
    have := (hlt g he).1
    omega
theorem Seen.below (h : Seen W0 Wb w own0 own q M n s l) (hb : Below w.heap.size w w') : Seen W0 Wb w' own0 (setO own w.heap.size 0) q M n s l :=
  ⟨h.nub.retag.keep hb, ownsRow_upd h.row (Upd.of_below hb (fun _ => False)) (fun _ _ hf => hf), h.len, fun j hj => setO_zero (.inl (h.mine j hj)), h.keep.trans (Keep0.below hb), h.base⟩
/-- What comes back, and what it is put behind. -/
def AppPost (W0 Wb : World) (own0 : Nat → Nat) (q n : Nat) (s : Sl) (M' : HubM) (l' : List Note) (E : Int) (e : Ending) (w' : World) : Prop :=
  ∃ t : Sl, e = .returned (.tuple #[.slice t.a t.n t.c, .int .i64 E]) ∧ ∃ (s' : Sl) (w2 : World) (own' : Nat → Nat), (∀ ty, (Builtin.append_ #[47, 47] ty #[.slice s.a s.n s.c, .slice t.a t.n t.c]).run Tryz.prog w' = .ok (.slice s'.a s'.n s'.c) w2) ∧ Seen W0 Wb w2 own0 own' q M' (n + 1) s' l'
theorem Seen.both (h : Seen W0 Wb w own0 own q M n s l) {M' M2 : HubM} {O l2 : List Note} {E E2 : Int} {e : Ending} (hM : M' = M2) (hO : l ++ O = l2) (hE : E = E2) (hl : l2.length ≤ 1000000) (hp : ConN W0 w own q n M' O E e w') : AppPost W0 Wb own0 q n s M2 l2 E2 e w' := by
  subst hM hO hE
  obtain ⟨t, own', rfl, ht, hs⟩ := h.turn hp
  exact ⟨t, rfl, hs.append ht (by rw [← List.length_append]; exact hl)⟩
theorem Seen.conApp (h : Seen W0 Wb w own0 own q M n s l) (hn : n < 100000) {u : Sl} {vs : List TxV} {b : List Tx} (hs : txsIn w (fun k => own k = 0) u vs b) (hb : b.length ≤ 1000000) {M2 : HubM} {l2 : List Note} (hM : M.conM b = M2) (hO : l ++ M.conO b = l2) (hE : conE M.L b = 0) (hl : l2.length ≤ 1000000) :
    Calls Tryz.prog 24 #[.pointer (some ⟨q, 0, none⟩), .slice u.a u.n u.c] w (AppPost W0 Wb own0 q n s M2 l2 0) :=
  (h.nub.connect hn u vs b hs hb).mono (fun e w' hp => h.both hM hO hE hl hp)
theorem Seen.nilApp (h : Seen W0 Wb w own0 own q M n s l) (hn : n < 100000) {M2 : HubM} {l2 : List Note} (hM : M.conM [] = M2) (hO : l ++ M.conO [] = l2) (hE : conE M.L [] = 0) (hl : l2.length ≤ 1000000) :
    Calls Tryz.prog 24 #[.pointer (some ⟨q, 0, none⟩), .slice none 0 0] w (AppPost W0 Wb own0 q n s M2 l2 0) :=
  h.conApp hn (u := ⟨none, 0, 0⟩) (vs := []) ⟨slIn_nil _ _ _ _, rfl, fun k h1 h2 => absurd h1 (by simp)⟩ (by decide) hM hO hE hl
theorem Seen.disApp (h : Seen W0 Wb w own0 own q M n s l) (hn : n < 100000) {M2 : HubM} {l2 : List Note} (hM : M.disM = M2) (hO : l ++ M.disO = l2) (hE : ¬ M.L = []) (hl : l2.length ≤ 1000000) :
    Calls Tryz.prog 25 #[.pointer (some ⟨q, 0, none⟩)] w (AppPost W0 Wb own0 q n s M2 l2 0) :=
  (h.nub.disconnect hn).mono (fun e w' hp => h.both hM hO (if_neg hE) hl hp)
end
end Go.Proofs.YtlkojkjeklblkaaGreat
