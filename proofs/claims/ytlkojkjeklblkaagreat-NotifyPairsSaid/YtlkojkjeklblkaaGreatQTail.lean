/- Contracts of the document's own sums: words turned; a word for each step. A region that draws its order: all but its last operations read or call quietly (callees may draw), the last ones stand in one forced order: one walk serves. Whatever the program. -/
import Derived.Test.YtlkojkjeklblkaaGreatShaH
import Derived.StillTail
import Derived.Deep.Quiet
set_option linter.unusedSimpArgs false
set_option linter.unusedVariables false
namespace Go.Proofs.YtlkojkjeklblkaaGreat
open Go.RowKit
theorem rotr_or (x n : Nat) : x / 2 ^ n ||| x * 2 ^ (32 - n) % 4294967296 = rotr x n := by unfold rotr; rw [Nat.or_comm]
theorem turn_u32 (x a : Nat) (hx : x < 4294967296) : bits .or .u32 ((x : Int) / 2 ^ a) ((x : Int) * 2 ^ (32 - a) % 4294967296) = ((rotr x a : Nat) : Int) := by
  have e1 : ((x : Int) / 2 ^ a) = ((x / 2 ^ a : Nat) : Int) := by norm_cast
  have e2 : ((x : Int) * 2 ^ (32 - a) % 4294967296) = ((x * 2 ^ (32 - a) % 4294967296 : Nat) : Int) := by
    rw [Int.natCast_emod, Int.natCast_mul, Int.natCast_pow]; rfl
  rw [e1, e2, bits_or_u32 _ _ (Nat.lt_of_le_of_lt (Nat.div_le_self _ _) hx) (Nat.mod_lt _ (by decide)), rotr_or]
set_option maxRecDepth 100000 in
set_option maxHeartbeats 1000000 in
theorem mixed_ref (x a b c : Nat) (ha : 0 < a ∧ a < 32) (hb : 0 < b ∧ b < 32) (hc : 0 < c ∧ c < 32) (hx : x < 4294967296) (w : World) :
    Calls Tryz.prog 196 #[.int .u32 x, .int .i64 a, .int .i64 b, .int .i64 c] w fun e w' => e = .returned (.int .u32 ((threeS x a b c false : Nat) : Int)) ∧ ∃ n, w' = w.drewN n := by
  obtain ⟨ha1, ha2⟩ := ha
  obtain ⟨hb1, hb2⟩ := hb
  obtain ⟨hc1, hc2⟩ := hc
  go_enter Tryz.func196, Tryz.ntmps196
  go_wp2_with fail
  go_quiet (fail)
  go_wp2_with fail
  go_ret
  refine ⟨ret_int ?_, _, rfl⟩
  have ra := rotr_lt x a hx
  have rb := rotr_lt x b hx
  have rc := rotr_lt x c hx
  have hxx : rotr x a ^^^ rotr x b < 4294967296 := Nat.xor_lt_two_pow (n := 32) ra rb
  rw [turn_u32 x a hx, turn_u32 x b hx, turn_u32 x c hx, bits_xor_u32 _ _ ra rb, bits_xor_u32 _ _ hxx rc]
  rfl
set_option maxRecDepth 100000 in
set_option maxHeartbeats 1000000 in
theorem drawn_ref (x a b c : Nat) (ha : 0 < a ∧ a < 32) (hb : 0 < b ∧ b < 32) (hc : 0 < c ∧ c < 32) (hx : x < 4294967296) (w : World) :
    Calls Tryz.prog 195 #[.int .u32 x, .int .i64 a, .int .i64 b, .int .i64 c] w fun e w' => e = .returned (.int .u32 ((threeS x a b c true : Nat) : Int)) ∧ ∃ n, w' = w.drewN n := by
  obtain ⟨ha1, ha2⟩ := ha
  obtain ⟨hb1, hb2⟩ := hb
  obtain ⟨hc1, hc2⟩ := hc
  go_enter Tryz.func195, Tryz.ntmps195
  go_wp2_with fail
  go_quiet (fail)
  go_wp2_with fail
  go_ret
  refine ⟨ret_int ?_, _, rfl⟩
  have ra := rotr_lt x a hx
  have rb := rotr_lt x b hx
  have hxx : rotr x a ^^^ rotr x b < 4294967296 := Nat.xor_lt_two_pow (n := 32) ra rb
  have e2 : ((x : Int) / 2 ^ c) = ((x / 2 ^ c : Nat) : Int) := by norm_cast
  rw [turn_u32 x a hx, turn_u32 x b hx, e2, bits_xor_u32 _ _ ra rb, bits_xor_u32 _ _ hxx (Nat.lt_of_le_of_lt (Nat.div_le_self _ _) hx)]
  rfl
theorem drawn_w1 (x r : Nat) (hr : r = threeS x 7 18 3 true) (hx : x < 4294967296) (w : World) :
    Calls Tryz.prog 195 #[.int .u32 x, .int .i64 7, .int .i64 18, .int .i64 3] w fun e w' => e = .returned (.int .u32 (r : Nat)) ∧ ∃ n, w' = w.drewN n := by
  subst hr; exact drawn_ref x 7 18 3 (by decide) (by decide) (by decide) hx w
theorem drawn_w2 (x r : Nat) (hr : r = threeS x 17 19 10 true) (hx : x < 4294967296) (w : World) :
    Calls Tryz.prog 195 #[.int .u32 x, .int .i64 17, .int .i64 19, .int .i64 10] w fun e w' => e = .returned (.int .u32 (r : Nat)) ∧ ∃ n, w' = w.drewN n := by
  subst hr; exact drawn_ref x 17 19 10 (by decide) (by decide) (by decide) hx w
theorem mixed_w1 (x r : Nat) (hr : r = threeS x 6 11 25 false) (hx : x < 4294967296) (w : World) :
    Calls Tryz.prog 196 #[.int .u32 x, .int .i64 6, .int .i64 11, .int .i64 25] w fun e w' => e = .returned (.int .u32 (r : Nat)) ∧ ∃ n, w' = w.drewN n := by
  subst hr; exact mixed_ref x 6 11 25 (by decide) (by decide) (by decide) hx w
theorem mixed_w2 (x r : Nat) (hr : r = threeS x 2 13 22 false) (hx : x < 4294967296) (w : World) :
    Calls Tryz.prog 196 #[.int .u32 x, .int .i64 2, .int .i64 13, .int .i64 22] w fun e w' => e = .returned (.int .u32 (r : Nat)) ∧ ∃ n, w' = w.drewN n := by
  subst hr; exact mixed_ref x 2 13 22 (by decide) (by decide) (by decide) hx w
set_option maxRecDepth 100000 in
theorem steps_ref (w : World) : Calls Tryz.prog 194 #[] w fun e w' => e = .returned (.slice (some ⟨w.heap.size, 0, none⟩) 64 64) ∧ w' = w.alloc (.cells W64.roots.arr 254) := by
  go_enter Tryz.func194, Tryz.ntmps194
  go_wp2_with fail
  go_ret
  refine ⟨rfl, congrArg (fun c => w.alloc (.cells c _)) (?_ : _ = W64.roots.arr)⟩
  rfl
end Go.Proofs.YtlkojkjeklblkaaGreat
namespace Go.Proofs.YtlkojkjeklblkaaGreat
section
variable {P : Program} {ops : Array Oper} {md : Region.Mode} {C : World → Prop}
/-- The head's operations come up in whatever order, each quiet in the class; then L. -/
def headQ (P : Program) (md : Region.Mode) (ops : Array Oper) (C : World → Prop) (n : Nat) (L : Array Bool → Act → Prop) : Nat → Array Bool → Act → Prop
  | 0, listed, a => L listed a
  | f + 1, listed, a => Region.ready md ops listed ≠ [] ∧ ∀ i ∈ Region.ready md ops listed, i < n ∧ qOp P ops C i (headQ P md ops C n L f (listed.setIfInBounds i true)) a
theorem any_of_headQ {n g : Nat} {L : Array Bool → Act → Prop} {Q' : Exit → Act → World → Prop} (hL : ∀ listed a w, C w → L listed a → wpAny P md ops Q' g listed a w) :
    ∀ (f : Nat) (listed : Array Bool) (a : Act) (w : World), C w → headQ P md ops C n L f listed a → wpAny P md ops Q' (f + g) listed a w
  | 0, listed, a, w, hC, h => by rw [Nat.zero_add]; exact hL _ _ _ hC h
  | f + 1, listed, a, w, hC, h => by
    rw [show f + 1 + g = (f + g) + 1 by omega]
    exact ⟨fun h0 => absurd h0 h.1, fun i hi => wpOp_of_qOp hC (fun a' w' hC' h' => any_of_headQ hL f _ a' w' hC' h') (h.2 i hi).2⟩
theorem headQ_first {n i : Nat} {oi : Oper} {v : Value} {L : Array Bool → Act → Prop} (hi : ops[i]? = some oi) (hsel : ∀ (j : Nat) (o : Oper) cs b, ops[j]? = some o → o.op ≠ .select cs b)
    (hs : Region.sinkB md ops n = true) (hc : Region.chainB md ops n = true) (hn : n < ops.size) (hin : i < n) (hdone : ∀ listed a, L listed a → ∀ j ∈ Region.ready md ops listed, n ≤ j) :
    ∀ (f : Nat) (listed : Array Bool) (a : Act), HeadInv md ops n listed →
      (∀ j oj, ops[j]? = some oj → j ≠ i → listed.getD j true = false → (∀ e ∈ oj.after, Region.binds md e = true → e.on ≠ i) → oi.apart ops oj = true) →
      i ∈ Region.ready md ops listed → YieldsIn P ops C oi v a →
      headQ P md ops C n L f (listed.setIfInBounds i true) (a.put oi.dst v) → headQ P md ops C n L (f + 1) listed a := by
  intro f
  induction f with
  | zero =>
    intro listed a inv _ hr hy H
    refine ⟨fun h => (by rw [h] at hr; cases hr), fun j hj => ?_⟩
    have hjn : j < n := Nat.lt_of_not_le fun h => tail_waits hs hc hn inv _ i rfl hin (mem_ready.1 hr).1 j h hj
    refine ⟨hjn, ?_⟩
    by_cases hji : j = i
    · subst hji; exact hy.qOp hi H
    · have := hdone _ _ H j (ready_mono hj hji)
      omega
  | succ f ih =>
    intro listed a inv hfree hr hy H
    refine ⟨fun h => (by rw [h] at hr; cases hr), fun j hj => ?_⟩
    have hjn : j < n := Nat.lt_of_not_le fun h => tail_waits hs hc hn inv _ i rfl hin (mem_ready.1 hr).1 j h hj
    refine ⟨hjn, ?_⟩
    by_cases hji : j = i
    · subst hji; exact hy.qOp hi H
    · have h1 := (H.2 j (ready_mono hj hji)).2
      obtain ⟨hjun, oj, hoj, hall⟩ := mem_ready.1 hj
      have hnot : ∀ e ∈ oj.after, Region.binds md e = true → e.on ≠ i := fun e he hb heq => by
        have h2 := hall e he hb
        rw [heq, getD_both (mem_ready.1 hr).1] at h2
        cases h2
      have h2 := qOp_put hoj (hfree j oj hoj hji hjun hnot) (fun cs b => hsel i oi cs b hi) (fun cs b => hsel j oj cs b hoj) hy h1
      refine qOp_mono (fun a' h3 => ih (listed.setIfInBounds j true) a' (inv.set hj hjn) (fun k ok hk hki hun hno => hfree k ok hk hki (by
        by_cases hjk : j = k
        · subst hjk; exact hjun
        · rwa [getD_set_ne true hjk] at hun) hno) (ready_mono hr (Ne.symm hji)) h3.1 (by rw [Array.setIfInBounds_comm _ _ hji]; exact h3.2)) h2
theorem headQ_lex {n g : Nat} {Lq : Act → Prop} (hsel : Region.noSelect ops = true) (hs : Region.sinkB md ops n = true) (hc : Region.chainB md ops n = true) (hn : n < ops.size) :
    ∀ (l : List Oper) (k : Nat) (listed : Array Bool) (a : Act), (∀ j, j < l.length → l[j]? = ops[k + j]?) → k + l.length = n → HeadInv md ops n listed →
    Region.lexHead md ops g l.length k listed = true → wpQuiet P ops C Lq l a → headQ P md ops C n (fun listed' a' => Region.seqB md ops g n listed' = true ∧ Lq a') l.length listed a
  | [], k, listed, a, _, hk, _, hB, h => by
    have hk2 : k = n := by simpa using hk
    subst hk2
    exact ⟨by simpa [Region.lexHead] using hB, h⟩
  | o :: l, k, listed, a, hl, hk, inv, hB, h => by
    have h0 : ops[k]? = some o := by simpa using (hl 0 (by simp)).symm
    simp only [List.length_cons, Region.lexHead, Bool.and_eq_true] at hB
    obtain ⟨⟨hr, hf⟩, hB'⟩ := hB
    have hkn : k < n := by simp only [List.length_cons] at hk; omega
    have hr' : k ∈ Region.ready md ops listed := by simpa using hr
    have hst : qOp P ops C k (wpQuiet P ops C Lq l) a := by unfold qOp; simp only [h0]; exact h
    obtain ⟨v, hy, hK⟩ := yieldsIn_of_qOp h0 hst
    exact headQ_first h0 (Region.noSelect_spec hsel) hs hc hn hkn (fun listed' a' hL => seqB_ready hL.1) l.length listed a inv (Region.free_spec h0 hf) hr' hy
      (headQ_lex hsel hs hc hn l (k + 1) _ _ (fun j hj => by have := hl (j + 1) (by simp; omega); simpa [Nat.add_assoc, Nat.add_comm 1 j] using this) (by simp only [List.length_cons] at hk; omega) (inv.set hr' hkn) hB' hK)
/-- The head in one quiet walk, the tail behind it, in every world that the draws may have left. -/
theorem wp_region_quiet_tail {id : Nat} {Q : Exit → Act → World → Prop} {a : Act} {w : World} {l : List Oper} (n : Nat) (hm : P.follows .mixedOrders = true) (hB : Region.lexTailB .any l.toArray n = true)
    (h : wpQuiet P l.toArray (fun w' => ∃ m, w' = w.drewN m) (fun a' => ∀ m, wpList P l.toArray Q (l.drop n) a' (w.drewN m)) (l.take n) a) : (Code.region id l.toArray true).wp P Q a w := by
  simp only [Region.lexTailB, Bool.and_eq_true, decide_eq_true_eq] at hB
  obtain ⟨⟨⟨⟨hsel, hn⟩, hs⟩, hc⟩, hlex⟩ := hB
  have hn' : n < l.length := by simpa using hn
  have htl : (l.take n).length = n := by simp; omega
  have hdl : (l.drop n).length = l.toArray.size - n := by simp
  have inv0 : HeadInv .any l.toArray n (Array.replicate l.toArray.size false) :=
    ⟨by simp, fun j oj _ hl => (by rw [getD_replicate_false] at hl; cases hl), fun t _ ht => getD_in (by simpa using ht) (getD_replicate_false _ _)⟩
  have H := headQ_lex (md := .any) (g := l.toArray.size - n) hsel hs hc hn (l.take n) 0 _ a (fun j hj => by
    have hj' : j < n := by rw [htl] at hj; exact hj
    simp [hj']) (by simpa using htl) inv0 (by rw [htl]; exact hlex) h
  refine wp_region_any hm ?_
  have key := any_of_headQ (Q' := Q) (g := l.toArray.size - n) (fun listed a' w' hC hL => by
    obtain ⟨m, rfl⟩ := hC
    have := wpAny_of_seq (md := .any) (Q' := Q) (l.drop n) n listed a' (w.drewN m) (fun j => by simp [List.getElem?_drop]) (by rw [hdl]; exact hL.1) (hL.2 m)
    rwa [hdl] at this) _ _ _ { w with drawn := w.drawn + 1 } ⟨1, rfl⟩ H
  rw [htl, show n + (l.toArray.size - n) = l.toArray.size by omega] at key
  exact key
end
end Go.Proofs.YtlkojkjeklblkaaGreat
