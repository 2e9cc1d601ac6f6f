/- A hub in a world of owners, once more: what is told is new. What was told, and not taken back, beside it. -/
import Derived.Test.YtlkojkjeklblkaaGreatNfR
import Derived.Test.YtlkojkjeklblkaaGreatNfW
set_option linter.unusedSimpArgs false
set_option linter.unusedVariables false
namespace Go.Proofs.YtlkojkjeklblkaaGreat
open Go.RowKit Go.MapKept
section
variable {W0 Wb w w' : World} {own0 own : Nat → Nat} {q : Nat} {M : HubM} {n : Nat} {s : Sl} {l : List Note}
theorem Nub.register2 (h : Nub W0 w own q M n) (hn : n < 100000) (x : Reg) :
    Calls Tryz.prog 22 #[.pointer (some ⟨q, 0, none⟩), .agg x.arr] w fun e w' => ∃ (s : Sl) (own' : Nat → Nat), e = .returned (.tuple #[.int .i64 (M.regN x), .slice s.a s.n s.c, .int .i64 (M.regE x)]) ∧ notesIn w' (fun k => own' k = 0 ∧ w.heap.size ≤ k) s (M.regO x) ∧ Nub W0 w' own' q (M.regM x) (n + 1) ∧ Keep0 own own' w w' := by
  obtain ⟨r, hr⟩ := h.hub
  have h1 := h.last; have h2 := h.rows; have h3 := h.high
  refine (register_nf (hr.zoned (Y := fun k => own k = 1 ∧ k < w.heap.size) (fun k hk hz => ⟨hz, hk⟩)) x (by omega) (by omega) (by omega)).mono ?_
  rintro e w' ⟨s, r', rfl, hsn, ho, hr', hu⟩
  have hu' : Upd w w' (fun k => own k = 1) := hu.mono (fun k _ e => e.1)
  refine ⟨s, setO own w.heap.size 0, rfl, slIn.zone (notesIn.of_own ho hsn) (fun k _ hk => ⟨setO_new hk, hk⟩), ⟨⟨r', hr'.zoned (fun k _ hz => (setO_old hz.2).trans hz.1)⟩, ?_, ?_, ?_, ?_, h.fresh.setO h.below.size 0, h.below.trans (h.fresh.below hu' (by decide) h.below.size)⟩, ⟨fun g hg => setO_old hg, hu'.mono (fun k _ e => by rw [e]; decide)⟩⟩
  · unfold HubM.regM; split
    · show M.last + 1 ≤ ((n + 1 : Nat) : Int); omega
    · omega
  · unfold HubM.regM; split
    · rw [one_len]; simp [HubM.push]; omega
    · omega
  · unfold HubM.regM; split <;> (show M.L.length ≤ n + 1; omega)
  · unfold HubM.regM; split <;> exact h.txs
def ConN2 (W0 w : World) (own : Nat → Nat) (q n : Nat) (M' : HubM) (O : List Note) (E : Int) (e : Ending) (w' : World) : Prop :=
  ∃ (s : Sl) (own' : Nat → Nat), e = .returned (.tuple #[.slice s.a s.n s.c, .int .i64 E]) ∧ notesIn w' (fun k => own' k = 0 ∧ w.heap.size ≤ k) s O ∧ Nub W0 w' own' q M' (n + 1) ∧ Keep0 own own' w w'
theorem con_post2 {M' : HubM} {O : List Note} {E : Int} (h : Nub W0 w own q M n) (hl : M'.last = M.last) (hr : M'.rows.length = M.rows.length) (hL : M'.L.length ≤ n + 1) (ht : ∀ b ∈ M'.L, b.length ≤ 1000000) {e : Ending} (hp : ConPost w (fun k => own k = 1 ∧ k < w.heap.size) q M' O E e w') : ConN2 W0 w own q n M' O E e w' := by
  obtain ⟨s, r', B, rfl, hB1, hB2, hsn, ho, hr', hu⟩ := hp
  have hu' : Upd w w' (fun k => own k = 1) := hu.mono (fun k _ e => e.1)
  obtain ⟨own', ho'⟩ : ∃ own' : Nat → Nat, own' = fun k => if k < w.heap.size then own k else if k < B then 1 else 0 := ⟨_, rfl⟩
  have o1 : ∀ k, k < w.heap.size → own' k = own k := fun k hk => by rw [ho']; exact if_pos hk
  have o2 : ∀ k, w.heap.size ≤ k → k < B → own' k = 1 := fun k hk hk2 => by rw [ho']; show (if k < w.heap.size then own k else if k < B then 1 else 0) = 1; rw [if_neg (by omega), if_pos hk2]
  have o3 : ∀ k, B ≤ k → own' k = 0 := fun k hk => by rw [ho']; show (if k < w.heap.size then own k else if k < B then 1 else 0) = 0; rw [if_neg (by omega), if_neg (by omega)]
  refine ⟨s, own', rfl, slIn.zone (notesIn.of_own ho hsn) (fun k _ hk => ⟨o3 k hk, Nat.le_trans hB1 hk⟩), ⟨⟨r', hr'.zoned (fun k _ hz => ?_)⟩, by rw [hl]; have := h.last; omega, by rw [hr]; have := h.rows; omega, hL, ht, fun k hk => (o1 k (Nat.lt_of_lt_of_le hk h.below.size)).trans (h.fresh k hk), h.below.trans (h.fresh.below hu' (by decide) h.below.size)⟩, ⟨fun g hg => o1 g hg, hu'.mono (fun k _ e => by rw [e]; decide)⟩⟩
  rcases hz with hz | hz
  · exact (o1 k hz.2).trans hz.1
  · exact o2 k hz.1 hz.2
theorem Nub.connect2 (h : Nub W0 w own q M n) (hn : n < 100000) (s : Sl) (vs : List TxV) (l : List Tx) (hs : txsIn w (fun k => own k = 0) s vs l) (hl : l.length ≤ 1000000) :
    Calls Tryz.prog 24 #[.pointer (some ⟨q, 0, none⟩), .slice s.a s.n s.c] w (ConN2 W0 w own q n (M.conM l) (M.conO l) (conE M.L l)) := by
  obtain ⟨r, hr⟩ := h.hub
  have h1 := h.last; have h2 := h.rows; have h3 := h.high
  refine (connect_nf (hr.zoned (Y := fun k => own k = 1 ∧ k < w.heap.size) (fun k hk hz => ⟨hz, hk⟩)) s vs l hs (fun k hk _ hz => by rw [hz.1] at hk; cases hk) (by omega) hl (by omega) (by omega)).mono ?_
  intro e w' hp
  refine con_post2 h ?_ ?_ ?_ ?_ hp
  · unfold HubM.conM; split <;> rfl
  · unfold HubM.conM; split
    · rw [settled_len]; rfl
    · rfl
  · unfold HubM.conM; split
    · show (conL M.L l).length ≤ n + 1
      unfold conL; split
      · simp only [List.length_append, List.length_cons, List.length_nil]; omega
      · omega
    · omega
  · unfold HubM.conM; split
    · rename_i hc
      show ∀ b ∈ conL M.L l, b.length ≤ 1000000
      unfold conL; rw [if_pos hc]
      intro b hb
      rcases List.mem_append.1 hb with hb | hb
      · exact h.txs b hb
      · rw [List.mem_singleton.1 hb]; exact hl
    · exact h.txs
theorem Nub.disconnect2 (h : Nub W0 w own q M n) (hn : n < 100000) :
    Calls Tryz.prog 25 #[.pointer (some ⟨q, 0, none⟩)] w (ConN2 W0 w own q n M.disM M.disO (if M.L = [] then 5 else 0)) := by
  obtain ⟨r, hr⟩ := h.hub
  have h1 := h.last; have h2 := h.rows; have h3 := h.high
  refine (disconnect_nf (hr.zoned (Y := fun k => own k = 1 ∧ k < w.heap.size) (fun k hk hz => ⟨hz, hk⟩)) (by omega) h.txs (by omega) (by omega)).mono ?_
  intro e w' hp
  refine con_post2 h ?_ ?_ ?_ ?_ hp
  · unfold HubM.disM; split <;> rfl
  · unfold HubM.disM; split
    · rfl
    · rw [settled_len]; rfl
  · unfold HubM.disM; split
    · omega
    · show M.L.dropLast.length ≤ n + 1
      rw [List.length_dropLast]; omega
  · unfold HubM.disM; split
    · exact h.txs
    · exact fun b hb => h.txs b (List.dropLast_subset _ hb)
theorem Seen.mono (h : Seen W0 Wb w own0 own q M n s l) {m : Nat} (hm : n ≤ m) : Seen W0 Wb w own0 own q M m s l := ⟨h.nub.mono hm, h.row, h.len, h.mine, h.keep, h.base⟩
/-- What an ask leaves: new notes, which are worked into what is kept. -/
structure Told (W0 Wb w : World) (own0 : Nat → Nat) (q n : Nat) (s : Sl) (l : List Note) (own' : Nat → Nat) (M' : HubM) (t : Sl) (O S' : List Note) (w' : World) : Prop where
  notes : notesIn w' (fun k => w.heap.size ≤ k) t O
  seen : Seen W0 Wb w' own0 own' q M' (n + 1) s l
  steps : Steps l O S'
  perm : S'.Perm M'.stand
  size : w.heap.size ≤ w'.heap.size
  few : O.length ≤ 2 * (n + 1)
theorem Seen.fill (h : Seen W0 Wb w own0 own q M n s l) {M' : HubM} {own' : Nat → Nat} {O : List Note} {t : Sl} (ht : notesIn w' (fun k => own' k = 0 ∧ w.heap.size ≤ k) t O) (hN : Nub W0 w' own' q M' (n + 1)) (hk : Keep0 own own' w w') {S' : List Note} (hs : Steps l O S') (hp : S'.Perm M'.stand) (hf : O.length ≤ 2 * (n + 1)) : Told W0 Wb w own0 q n s l own' M' t O S' w' :=
  ⟨slIn.zone ht (fun k _ hz => hz.2), ⟨hN, ownsRow_upd h.row hk.upd (fun j hj hn => hn (h.mine j hj)), h.len, fun j hj => (hk.same j (World.ownsRow.lt h.row j hj).2).trans (h.mine j hj), h.keep.trans hk, h.base⟩, hs, hp, hk.upd.size, hf⟩
/-- Nothing is asked. -/
theorem Seen.idle (h : Seen W0 Wb w own0 own q M n s l) (hp : l.Perm M.stand) : Told W0 Wb w own0 q n s l own M ⟨none, 0, 0⟩ [] l w :=
  ⟨slIn_nil _ _ _ _, h.mono (Nat.le_succ n), .nil l, hp, Nat.le_refl _, Nat.zero_le _⟩
theorem told_few {M : HubM} : M.told.length ≤ 2 * M.rows.length := by have := told_len (M := M) M.rows.length; rwa [toldUpto_all] at this
def AskPost (W0 Wb w : World) (own0 : Nat → Nat) (q n : Nat) (s : Sl) (l : List Note) (F : Sl → Value) (e : Ending) (w' : World) : Prop :=
  ∃ (t : Sl) (own' : Nat → Nat) (M' : HubM) (O S' : List Note), e = .returned (F t) ∧ Told W0 Wb w own0 q n s l own' M' t O S' w'
theorem Seen.askReg (h : Seen W0 Wb w own0 own q M n s l) (hp : l.Perm M.stand) (hn : n < 100000) (x : Reg) :
    Calls Tryz.prog 22 #[.pointer (some ⟨q, 0, none⟩), .agg x.arr] w (AskPost W0 Wb w own0 q n s l (fun t => .tuple #[.int .i64 (M.regN x), .slice t.a t.n t.c, .int .i64 (M.regE x)])) :=
  (h.nub.register2 hn x).mono (fun e w' hp2 => by
    obtain ⟨t, own', rfl, ht, hN, hk⟩ := hp2
    obtain ⟨S', h1, h2⟩ := reg_steps h.nub.ok x hp
    refine ⟨t, own', _, _, S', rfl, h.fill ht hN hk h1 h2 ?_⟩
    unfold HubM.regO
    split
    · exact Nat.le_trans (outR_len _ _) (by omega)
    · simp)
theorem Seen.askCon (h : Seen W0 Wb w own0 own q M n s l) (hp : l.Perm M.stand) (hn : n < 100000) {u : Sl} {vs : List TxV} {b : List Tx} (hs : txsIn w (fun k => own k = 0) u vs b) (hb : b.length ≤ 1000000) :
    Calls Tryz.prog 24 #[.pointer (some ⟨q, 0, none⟩), .slice u.a u.n u.c] w (AskPost W0 Wb w own0 q n s l (fun t => .tuple #[.slice t.a t.n t.c, .int .i64 (conE M.L b)])) :=
  (h.nub.connect2 hn u vs b hs hb).mono (fun e w' hp2 => by
    obtain ⟨t, own', rfl, ht, hN, hk⟩ := hp2
    obtain ⟨S', h1, h2⟩ := con_steps h.nub.ok b hp
    refine ⟨t, own', _, _, S', rfl, h.fill ht hN hk h1 h2 ?_⟩
    have hr := h.nub.rows
    unfold HubM.conO
    split
    · exact Nat.le_trans told_few (by show 2 * M.rows.length ≤ _; omega)
    · simp)
theorem Seen.askDis (h : Seen W0 Wb w own0 own q M n s l) (hp : l.Perm M.stand) (hn : n < 100000) :
    Calls Tryz.prog 25 #[.pointer (some ⟨q, 0, none⟩)] w (AskPost W0 Wb w own0 q n s l (fun t => .tuple #[.slice t.a t.n t.c, .int .i64 (if M.L = [] then 5 else 0)])) :=
  (h.nub.disconnect2 hn).mono (fun e w' hp2 => by
    obtain ⟨t, own', rfl, ht, hN, hk⟩ := hp2
    obtain ⟨S', h1, h2⟩ := dis_steps h.nub.ok hp
    refine ⟨t, own', _, _, S', rfl, h.fill ht hN hk h1 h2 ?_⟩
    have hr := h.nub.rows
    unfold HubM.disO
    split
    · simp
    · exact Nat.le_trans told_few (by show 2 * M.rows.length ≤ _; omega))
/-- A list put behind, with what it leaves alone. -/
theorem Seen.push (h : Seen W0 Wb w own0 own q M n s l) {Z : Nat → Prop} {t : Sl} {m : List Note} (ht : notesIn w Z t m) (hl : l.length + m.length ≤ 1000000) :
    ∃ (s' : Sl) (w' : World), (∀ ty, (Builtin.append_ #[47, 47] ty #[.slice s.a s.n s.c, .slice t.a t.n t.c]).run Tryz.prog w = .ok (.slice s'.a s'.n s'.c) w') ∧ Seen W0 Wb w' own0 (setO own w.heap.size 0) q M n s' (l ++ m) ∧ Upd w w' (fun j => s.v.ownBlock = some j) ∧ (s'.v.ownBlock = s.v.ownBlock ∨ s'.v.ownBlock = some w.heap.size) := by
  obtain ⟨s', w', hr, hn, ho, hu, hb⟩ := own_notesIn h.row h.len ht h.keep.upd.size hl
  have hlt : ∀ j, s.v.ownBlock = some j → Wb.heap.size ≤ j ∧ j < w.heap.size := fun j hj => World.ownsRow.lt h.row j hj
  obtain ⟨r, hub⟩ := h.nub.hub
  refine ⟨s', w', hr, ⟨⟨⟨r, ?_⟩, h.nub.last, h.nub.rows, h.nub.high, h.nub.txs, h.nub.fresh.setO h.nub.below.size 0, h.nub.below.trans (hu.below h.nub.below.size (fun k hk => Nat.le_trans h.base (hlt k hk).1))⟩, ho, hn, ?_, ?_, h.base⟩, hu, hb⟩
  · exact ((hub.zoned (Y := fun k => own k = 1 ∧ k < w.heap.size) (fun k hk hz => ⟨hz, hk⟩)).kept hu (fun k hz hk he => by have e1 : own k = 1 := hz.1; rw [h.mine k he] at e1; cases e1)).zoned (fun k hk hz => (setO_old hz.2).trans hz.1)
  · intro j hj
    rcases hb with e | e
    · rw [e] at hj; exact setO_zero (.inl (h.mine j hj))
    · rw [e] at hj; cases hj; exact setO_zero (.inr (Nat.le_refl _))
  · refine ⟨fun g hg => (setO_old (Nat.lt_of_lt_of_le hg h.keep.upd.size)).trans (h.keep.same g hg), h.keep.upd.trans hu (fun g hg he => ?_)⟩
    have := (hlt g he).1
    omega
/-- The row is given up for another one, which is new. -/
theorem Seen.swap (h : Seen W0 Wb w own0 own q M n s l) (hb : Below w.heap.size w w') {s' : Sl} {l' : List Note} (ho : ownN w' w.heap.size s' l') (hn : s'.n = l'.length) : Seen W0 Wb w' own0 (setO own w.heap.size 0) q M n s' l' :=
  ⟨h.nub.retag.keep hb, World.ownsRow.mono ho h.keep.upd.size, hn, fun j hj => setO_new (World.ownsRow.lt ho j hj).1, h.keep.trans (Keep0.below hb), h.base⟩
/-- Notes put behind an empty row that was made here. -/
theorem new_notes {w0 X : World} {Z : Nat → Prop} {g : Nat} {t : Sl} {m : List Note} (hX : Below w0.heap.size w0 X) (hg : X.heap[g]? = some (.cells #[] 63 (0, 0))) (hg0 : w0.heap.size ≤ g) (ht : notesIn w0 Z t m) (hm : m.length ≤ 1000000) :
    ∃ (s' : Sl) (X' : World), (Builtin.append_ #[47, 47] 47 #[.slice (some ⟨g, 0, none⟩) 0 0, .slice t.a t.n t.c]).run Tryz.prog X = .ok (.slice s'.a s'.n s'.c) X' ∧ (ownN X' w0.heap.size s' m ∧ s'.n = m.length ∧ Below w0.heap.size w0 X') := by
  have hown : ownN X w0.heap.size ⟨some ⟨g, 0, none⟩, 0, 0⟩ [] := ⟨by simp [vsOf], .inr ⟨g, 0, #[], rfl, hg0, hg, Nat.le_refl _, by simp [maxLen], by simp, rfl⟩⟩
  have ht2 : notesIn X (fun k => Z k ∧ k < w0.heap.size) t m := (slIn.zone ht (Y := fun k => Z k ∧ k < w0.heap.size) (fun k hk hz => ⟨hz, hk⟩)).upd (Upd.of_below hX (fun _ => False)) (fun _ _ _ h => h)
  obtain ⟨s', X', hr, hn, ho, hu, _⟩ := own_notesIn hown rfl ht2 hX.size (by simpa using hm)
  refine ⟨s', X', hr _, by simpa using ho, by simpa using hn, hX.trans (hu.below hX.size (fun k hk => ?_))⟩
  have e : g = k := by simpa [Sl.v, Value.ownBlock] using hk
  omega
/-- And others behind those. -/
theorem more_notes {w0 X : World} {Z : Nat → Prop} {s t : Sl} {l m : List Note} (hX : Below w0.heap.size w0 X) (ho : ownN X w0.heap.size s l) (hs : s.n = l.length) (ht : notesIn w0 Z t m) (hm : l.length + m.length ≤ 1000000) :
    ∃ (s' : Sl) (X' : World), (Builtin.append_ #[47, 47] 47 #[.slice s.a s.n s.c, .slice t.a t.n t.c]).run Tryz.prog X = .ok (.slice s'.a s'.n s'.c) X' ∧ (ownN X' w0.heap.size s' (l ++ m) ∧ s'.n = (l ++ m).length ∧ Below w0.heap.size w0 X') := by
  have ht2 : notesIn X (fun k => Z k ∧ k < w0.heap.size) t m := (slIn.zone ht (Y := fun k => Z k ∧ k < w0.heap.size) (fun k hk hz => ⟨hz, hk⟩)).upd (Upd.of_below hX (fun _ => False)) (fun _ _ _ h => h)
  obtain ⟨s', X', hr, hn, ho2, hu, _⟩ := own_notesIn ho hs ht2 hX.size hm
  exact ⟨s', X', hr _, ho2, hn, hX.trans (hu.below hX.size (fun k hk => (World.ownsRow.lt ho k hk).1))⟩
/-- Parts of a list of notes. -/
theorem notes_take {Z : Nat → Prop} {t : Sl} {m : List Note} (h : notesIn w Z t m) (k : Nat) (hk : k ≤ m.length) : notesIn w Z ⟨t.a, k, t.c⟩ (m.take k) := by
  refine ⟨by simp [List.length_take]; omega, by have h1 := h.1; have h2 := h.2.1; show k ≤ t.c; omega, h.2.2.1, fun hne => ?_⟩
  have hm : m ≠ [] := fun e => by rw [e] at hne; simp at hne
  obtain ⟨b, off, ha, hz, hl, hr⟩ := h.2.2.2 hm
  refine ⟨b, off, ha, hz, hl, fun j hj => ?_⟩
  have hj2 : j < m.length := by rw [List.length_take] at hj; omega
  rw [List.getElem_take]
  exact hr j hj2
end
theorem stepN_run {P : Program} {w : World} {ops : Array Oper} {o : Oper} {a : Act} {K : Act → World → Prop} {Q : Exit → Act → World → Prop} {E : Prop} (hgd : o.guard = none) (s x : Operand) (t tx : TypeId)
    (ho : o.op = .call { callee := .builtin .append, args := #[s, x], argTypes := #[t, tx] }) (v u : Value) (hs : a.eval s = v) (hx : a.eval x = u) {v' : Value} {w' : World} (hr : (Builtin.append_ #[t, tx] o.type #[v, u]).run P w = .ok v' w')
    (hK : K (a.put o.dst v') w') : if Region.wanted o (yielded ops a.tmps) = true then Oper.wp P o a w K Q else E := by
  have hw : Region.wanted o (yielded ops a.tmps) = true := by simp [Region.wanted, hgd]
  rw [if_pos hw]
  unfold Oper.wp execOp
  simp only [ho, resolve, invoke, builtin, Sem.run_bind, Sem.run_pure, Result.andThen_ok, List.map_toArray, List.map_cons, List.map_nil, hs, hx, hr]
  exact hK
theorem stepN_ex {P : Program} {w : World} {ops : Array Oper} {o : Oper} {a : Act} {K : Act → World → Prop} {Q : Exit → Act → World → Prop} {E : Prop} (hgd : o.guard = none) (s x : Operand) (t tx : TypeId)
    (ho : o.op = .call { callee := .builtin .append, args := #[s, x], argTypes := #[t, tx] }) (v u : Value) (hs : a.eval s = v) (hx : a.eval x = u) {R : Sl → World → Prop} (hr : ∃ (s' : Sl) (w' : World), (Builtin.append_ #[t, tx] o.type #[v, u]).run P w = .ok (.slice s'.a s'.n s'.c) w' ∧ R s' w')
    (hK : ∀ (s' : Sl) (w' : World), R s' w' → K (a.put o.dst (.slice s'.a s'.n s'.c)) w') : if Region.wanted o (yielded ops a.tmps) = true then Oper.wp P o a w K Q else E := by
  obtain ⟨s', w', h1, h2⟩ := hr
  exact stepN_run hgd s x t tx ho v u hs hx h1 (hK s' w' h2)
theorem notes_drop {w : World} {Z : Nat → Prop} {b off n c : Nat} {m : List Note} (h : notesIn w Z ⟨some ⟨b, off, none⟩, n, c⟩ m) (k : Nat) (hk : k ≤ m.length) : notesIn w Z ⟨some ⟨b, off + k * 36, none⟩, m.length - k, c - k⟩ (m.drop k) ∧ (c = k → notesIn w Z ⟨some ⟨b, off, none⟩, m.length - k, c - k⟩ (m.drop k)) := by
  have h1 : n = m.length := h.1
  have h2 : n ≤ c := h.2.1
  have h3 : c ≤ maxLen := h.2.2.1
  refine ⟨⟨by simp, by show m.length - k ≤ c - k; omega, by show c - k ≤ maxLen; omega, fun hne => ?_⟩, fun hc => ?_⟩
  · have hm : m ≠ [] := fun e => by rw [e] at hne; simp at hne
    obtain ⟨b', off', ha, hz, hl, hr⟩ := h.2.2.2 hm
    cases ha
    refine ⟨b, off + k * 36, rfl, hz, hl, fun j hj => ?_⟩
    have hj2 : k + j < m.length := by rw [List.length_drop] at hj; omega
    have := hr (k + j) hj2
    rw [List.getElem_drop, show off + k * 36 + j * 36 = off + (k + j) * 36 by omega]
    exact this
  · have e : m.drop k = [] := List.drop_eq_nil_of_le (by omega)
    rw [e]
    exact ⟨by show m.length - k = 0; omega, by show m.length - k ≤ c - k; omega, by show c - k ≤ maxLen; omega, fun hne => absurd rfl hne⟩
/-- The last place up to here where a number stands. -/
def AtS (S : List Note) (i0 : Int) (i : Nat) (p : Int) : Prop := (p = -1 ∧ ∀ m (h : m < S.length), m < i → S[m].id ≠ i0) ∨ (∃ m : Nat, ∃ h : m < S.length, m < i ∧ p = (m : Int) ∧ S[m].id = i0)
theorem AtS.start (S : List Note) (i0 : Int) : AtS S i0 0 (-1) := .inl ⟨rfl, fun m _ h => by omega⟩
theorem AtS.hit {S : List Note} {i0 : Int} {i : Nat} {p : Int} (hi : i < S.length) (e : S[i].id = i0) : AtS S i0 (i + 1) (i : Int) := .inr ⟨i, hi, Nat.lt_succ_self i, rfl, e⟩
theorem AtS.miss {S : List Note} {i0 : Int} {i : Nat} {p : Int} (h : AtS S i0 i p) (hi : i < S.length) (e : S[i].id ≠ i0) : AtS S i0 (i + 1) p := by
  rcases h with ⟨h1, h2⟩ | ⟨m, hm, h1, h2, h3⟩
  · refine .inl ⟨h1, fun m hm hlt => ?_⟩
    by_cases e2 : m = i
    · subst e2; exact e
    · exact h2 m hm (by omega)
  · exact .inr ⟨m, hm, by omega, h2, h3⟩
theorem AtS.gone {S S2 : List Note} {t : Note} {p : Int} (h : AtS S t.id S.length p) (hs : Step S t S2) (hb : t.back = true) : ∃ k : Nat, ∃ hk : k < S.length, p = (k : Int) ∧ S[k] = { t with back := false } ∧ S2 = S.take k ++ S.drop (k + 1) := by
  obtain ⟨k, hk, e1, e2⟩ := hs.gone hb
  rcases h with ⟨h1, h2⟩ | ⟨m, hm, _, h2, h3⟩
  · exact absurd (by rw [e1]) (h2 k hk hk)
  · have hkm : m = k := by
      have hnd := hs.nodup
      have a1 : (S.map (·.id))[m]'(by simpa using hm) = (S.map (·.id))[k]'(by simpa using hk) := by
        simp only [List.getElem_map]
        rw [h3, e1]
      exact (List.getElem_inj hnd).1 a1
    subst hkm
    exact ⟨m, hk, h2, e1, e2⟩
theorem AtS.new {S S2 : List Note} {t : Note} {p : Int} (h : AtS S t.id S.length p) (hs : Step S t S2) (hb : t.back = false) : p = -1 ∧ S2 = S ++ [t] := by
  obtain ⟨e1, e2⟩ := hs.new hb
  rcases h with ⟨h1, _⟩ | ⟨m, hm, _, _, h3⟩
  · exact ⟨h1, e2⟩
  · exact absurd h3 (e1 _ (List.getElem_mem hm))
theorem Step.len {S S2 : List Note} {t : Note} (h : Step S t S2) : S2.length ≤ S.length + 1 := by
  cases hb : t.back with
  | true =>
    obtain ⟨k, hk, _, e⟩ := h.gone hb
    rw [e, List.length_append, List.length_take, List.length_drop]; omega
  | false =>
    obtain ⟨_, e⟩ := h.new hb
    rw [e, List.length_append]; simp
theorem Steps.done {S S2 : List Note} (h : Steps S [] S2) : S = S2 := by cases h; rfl
theorem Steps.next {S S2 : List Note} {O : List Note} {j : Nat} (hj : j < O.length) (h : Steps S (O.drop j) S2) : ∃ S1, Step S O[j] S1 ∧ Steps S1 (O.drop (j + 1)) S2 := by
  rw [List.drop_eq_getElem_cons hj] at h
  exact h.head
end Go.Proofs.YtlkojkjeklblkaaGreat
