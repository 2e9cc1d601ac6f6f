/- The document's own form of numbers. The document's own forms of places and scripts. The document's own form of a transaction, and its number. -/
import Derived.Test.YtlkojkjeklblkaaGreatNumE
import Derived.Test.YtlkojkjeklblkaaGreatTxF
import Derived.Test.YtlkojkjeklblkaaGreatShaB2
import Derived.Test.YtlkojkjeklblkaaGreatTxJ
import Derived.Deep.RegionLaw
import Derived.Deep.AppendLies
import Derived.Deep.DeepCutAuto
import Derived.Deep.CutBlock
import Derived.Test.YtlkojkjeklblkaaGreatRefD
import Derived.Test.YtlkojkjeklblkaaGreatRfC
set_option linter.unusedSimpArgs false
set_option linter.unusedVariables false
namespace Go.Proofs.YtlkojkjeklblkaaGreat
open Go.RowKit
theorem fits_ref (n : Int) (w : World) (h : OkNum n) : Calls Tryz.prog 157 #[.int .i64 n] w fun e w' => e = .returned (.bool true) ∧ w = w' := by
  obtain ⟨h0, h1⟩ := h
  have e1 : decide (0 ≤ n) = true := decide_eq_true h0
  have e2 : decide (n ≤ 4611686018427387904) = true := decide_eq_true h1
  go_enter Tryz.func157, Tryz.ntmps157
  go_wp2_with fail
  go_ret
  exact ⟨rfl, rfl⟩
set_option maxRecDepth 100000 in
set_option maxHeartbeats 1000000 in
theorem rput_small (n : Nat) (hn : n < 253) (w : World) : Calls Tryz.prog 107 #[.int .i64 n] w (RetBytes w (putS n)) := by
  have hf := fits_ref n w ⟨by omega, by omega⟩
  go_enter Tryz.func107, Tryz.ntmps107
  go_wp2_with (go_at_call 157; refine hf.mono ?_; rintro e w' ⟨rfl, rfl⟩)
  go_ret
  have hp : putS n = [UInt8.ofNat n] := by simp [putS, hn]
  rw [hp]
  refine ⟨⟨w.heap.size, 0, none⟩, 1, rfl, ?_, (Below.refl _ _).alloc (Nat.le_refl _) _⟩
  have := World.ownsRow_lit (e := 5) (size := 1) w #[.int .u8 (n : Int)] 1 (Nat.le_refl _) (by decide) rfl
  simpa [byteVs, byteV_ofNat, Nat.mod_eq_of_lt (show n < 256 by omega)] using this
theorem byte_at (n j : Nat) : byteVs [UInt8.ofNat (n / 256 ^ j)] = [.int .u8 ((n : Int) / 2 ^ (8 * j) % 256)] := by
  have e : (256 : Nat) ^ j = 2 ^ (8 * j) := by rw [Nat.pow_mul]
  simp only [byteVs, List.map_cons, List.map_nil, byteV_ofNat, e]
  congr 2
set_option maxRecDepth 100000 in
set_option maxHeartbeats 1000000 in
theorem rput_two (n : Nat) (hk : OkNum n) (t3 : decide ((n : Int) < 253) = false) (t4 : decide ((n : Int) < 65536) = true) (w : World) : Calls Tryz.prog 107 #[.int .i64 n] w (RetBytes w (253 :: leBytes 2 n)) := by
  obtain ⟨i0, hi0, hz0, hz1, hz2⟩ := info_parts Tryz.info5
  have hf := fits_ref n w hk
  have HK := Lib.hid hk
  clear hk
  have hown0 : w.ownsRow w.heap.size 5 1 (.slice none 0 0) 0 [] := World.ownsRow_nil _ _ _ _
  go_enter Tryz.func107, Tryz.ntmps107
  go_wp2_with (first | (go_at_call 157; refine hf.mono ?_; rintro e w' ⟨rfl, rfl⟩) | (at_builtin; refine wpList_append_own _ rfl _ _ 137 rfl w.heap.size 5 i0 (.int .u8 0) 1 1 Tryz.underlying137 hi0 hz0 hz1 hz2 rfl (by decide) (.slice none 0 0) 0 [] rfl (hown0.alloc _) ⟨w.heap.size, 0, none⟩ 1 1 [.int .u8 253] rfl rfl (cell_one_new _ _ _) (by simp [Value.oneCell']) (by decide) (by omega) (by simp) ?_; intro v0 w0 hown1 hgrow1 hnil1))
  have hb0 : Below w.heap.size w w0 := ((Below.refl _ _).alloc (Nat.le_refl _) _).grown hgrow1 (by simp) (fun k hk => by simp [Value.ownBlock] at hk)
  clear hown0 hgrow1 hnil1
  go_loopw [3, 5] (fun v i wr => ∃ j : Nat, j ≤ 2 ∧ i = .int .i64 j ∧ wr.ownsRow w.heap.size 5 1 v (1 + j) (byteVs (253 :: leBytes j n)) ∧ Below w.heap.size w wr) (fun _ i _ => 2 - (intOf i).toNat)
  case atStart => exact ⟨0, Nat.zero_le _, rfl, hown1, hb0⟩
  case round =>
    obtain ⟨j, hj, rfl, hown, hbw⟩ := hrel
    have hz := hbw.size
    clear t3 t4
    by_cases hlt : j < 2
    · have dlt : decide ((j : Int) < 2) = true := decide_eq_true (by omega)
      have hmx : 1 + j + 1 ≤ maxLen := by unfold maxLen; omega
      go_wp2_with (at_builtin; refine wpList_append_own _ rfl _ _ 137 rfl w.heap.size 5 i0 (.int .u8 0) 1 1 Tryz.underlying137 hi0 hz0 hz1 hz2 rfl (by decide) _ _ _ rfl (hown.alloc _) ⟨wr.heap.size, 0, none⟩ 1 1 [.int .u8 ((n : Int) / 2 ^ (8 * j) % 256)] rfl rfl (cell_one_new _ _ _) (by simp [Value.oneCell']) hmx (by omega) (by simp; omega) ?_)
      intro v' w4 hown4 hgrow4 hnil
      have hb4 : Below w.heap.size w w4 := (hbw.alloc hz _).grown hgrow4 (by simp; omega) (fun k hk => (hown.lt k hk).1)
      have hown5 : w4.ownsRow w.heap.size 5 1 v' (1 + (j + 1)) (byteVs (253 :: leBytes (j + 1) n)) := by
        rw [leBytes_succ, ← List.cons_append, byteVs_append, byte_at]
        exact hown4
      clear hown4 hgrow4 hown hnil
      go_wp2_with fail
      exact ⟨⟨j + 1, by omega, by go_num, hown5, hb4⟩, by simp [intOf]; omega⟩
    · have : j = 2 := by omega
      subst this
      go_wp2_with fail
      go_ret
      obtain ⟨a, c, hv, hc, hg⟩ := ownsRow_slice hown
      obtain ⟨g, rfl, -, -⟩ := hg (by omega)
      subst hv
      have hl : ∀ m : UInt8, (m :: leBytes 2 n).length = 1 + 2 := fun m => by simp [leBytes_length]
      exact ⟨⟨g, 0, none⟩, c, by rw [hl]; rfl, by rw [hl]; exact hown, hbw⟩
set_option maxRecDepth 100000 in
set_option maxHeartbeats 1000000 in
theorem rput_four (n : Nat) (hk : OkNum n) (t3 : decide ((n : Int) < 253) = false) (t4 : decide ((n : Int) < 65536) = false) (t5 : decide ((n : Int) < 4294967296) = true) (w : World) : Calls Tryz.prog 107 #[.int .i64 n] w (RetBytes w (254 :: leBytes 4 n)) := by
  obtain ⟨i0, hi0, hz0, hz1, hz2⟩ := info_parts Tryz.info5
  have hf := fits_ref n w hk
  have HK := Lib.hid hk
  clear hk
  have hown0 : w.ownsRow w.heap.size 5 1 (.slice none 0 0) 0 [] := World.ownsRow_nil _ _ _ _
  go_enter Tryz.func107, Tryz.ntmps107
  go_wp2_with (first | (go_at_call 157; refine hf.mono ?_; rintro e w' ⟨rfl, rfl⟩) | (at_builtin; refine wpList_append_own _ rfl _ _ 137 rfl w.heap.size 5 i0 (.int .u8 0) 1 1 Tryz.underlying137 hi0 hz0 hz1 hz2 rfl (by decide) (.slice none 0 0) 0 [] rfl (hown0.alloc _) ⟨w.heap.size, 0, none⟩ 1 1 [.int .u8 254] rfl rfl (cell_one_new _ _ _) (by simp [Value.oneCell']) (by decide) (by omega) (by simp) ?_; intro v0 w0 hown1 hgrow1 hnil1))
  have hb0 : Below w.heap.size w w0 := ((Below.refl _ _).alloc (Nat.le_refl _) _).grown hgrow1 (by simp) (fun k hk => by simp [Value.ownBlock] at hk)
  clear hown0 hgrow1 hnil1
  go_loopw [3, 5] (fun v i wr => ∃ j : Nat, j ≤ 4 ∧ i = .int .i64 j ∧ wr.ownsRow w.heap.size 5 1 v (1 + j) (byteVs (254 :: leBytes j n)) ∧ Below w.heap.size w wr) (fun _ i _ => 4 - (intOf i).toNat)
  case atStart => exact ⟨0, Nat.zero_le _, rfl, hown1, hb0⟩
  case round =>
    obtain ⟨j, hj, rfl, hown, hbw⟩ := hrel
    have hz := hbw.size
    clear t3 t4 t5
    by_cases hlt : j < 4
    · have dlt : decide ((j : Int) < 4) = true := decide_eq_true (by omega)
      have hmx : 1 + j + 1 ≤ maxLen := by unfold maxLen; omega
      go_wp2_with (at_builtin; refine wpList_append_own _ rfl _ _ 137 rfl w.heap.size 5 i0 (.int .u8 0) 1 1 Tryz.underlying137 hi0 hz0 hz1 hz2 rfl (by decide) _ _ _ rfl (hown.alloc _) ⟨wr.heap.size, 0, none⟩ 1 1 [.int .u8 ((n : Int) / 2 ^ (8 * j) % 256)] rfl rfl (cell_one_new _ _ _) (by simp [Value.oneCell']) hmx (by omega) (by simp; omega) ?_)
      intro v' w4 hown4 hgrow4 hnil
      have hb4 : Below w.heap.size w w4 := (hbw.alloc hz _).grown hgrow4 (by simp; omega) (fun k hk => (hown.lt k hk).1)
      have hown5 : w4.ownsRow w.heap.size 5 1 v' (1 + (j + 1)) (byteVs (254 :: leBytes (j + 1) n)) := by
        rw [leBytes_succ, ← List.cons_append, byteVs_append, byte_at]
        exact hown4
      clear hown4 hgrow4 hown hnil
      go_wp2_with fail
      exact ⟨⟨j + 1, by omega, by go_num, hown5, hb4⟩, by simp [intOf]; omega⟩
    · have : j = 4 := by omega
      subst this
      go_wp2_with fail
      go_ret
      obtain ⟨a, c, hv, hc, hg⟩ := ownsRow_slice hown
      obtain ⟨g, rfl, -, -⟩ := hg (by omega)
      subst hv
      have hl : ∀ m : UInt8, (m :: leBytes 4 n).length = 1 + 4 := fun m => by simp [leBytes_length]
      exact ⟨⟨g, 0, none⟩, c, by rw [hl]; rfl, by rw [hl]; exact hown, hbw⟩
set_option maxRecDepth 100000 in
set_option maxHeartbeats 1000000 in
theorem rput_eight (n : Nat) (hk : OkNum n) (t3 : decide ((n : Int) < 253) = false) (t4 : decide ((n : Int) < 65536) = false) (t5 : decide ((n : Int) < 4294967296) = false) (w : World) : Calls Tryz.prog 107 #[.int .i64 n] w (RetBytes w (255 :: leBytes 8 n)) := by
  obtain ⟨i0, hi0, hz0, hz1, hz2⟩ := info_parts Tryz.info5
  have hf := fits_ref n w hk
  have HK := Lib.hid hk
  clear hk
  have hown0 : w.ownsRow w.heap.size 5 1 (.slice none 0 0) 0 [] := World.ownsRow_nil _ _ _ _
  go_enter Tryz.func107, Tryz.ntmps107
  go_wp2_with (first | (go_at_call 157; refine hf.mono ?_; rintro e w' ⟨rfl, rfl⟩) | (at_builtin; refine wpList_append_own _ rfl _ _ 137 rfl w.heap.size 5 i0 (.int .u8 0) 1 1 Tryz.underlying137 hi0 hz0 hz1 hz2 rfl (by decide) (.slice none 0 0) 0 [] rfl (hown0.alloc _) ⟨w.heap.size, 0, none⟩ 1 1 [.int .u8 255] rfl rfl (cell_one_new _ _ _) (by simp [Value.oneCell']) (by decide) (by omega) (by simp) ?_; intro v0 w0 hown1 hgrow1 hnil1))
  have hb0 : Below w.heap.size w w0 := ((Below.refl _ _).alloc (Nat.le_refl _) _).grown hgrow1 (by simp) (fun k hk => by simp [Value.ownBlock] at hk)
  clear hown0 hgrow1 hnil1
  go_loopw [3, 5] (fun v i wr => ∃ j : Nat, j ≤ 8 ∧ i = .int .i64 j ∧ wr.ownsRow w.heap.size 5 1 v (1 + j) (byteVs (255 :: leBytes j n)) ∧ Below w.heap.size w wr) (fun _ i _ => 8 - (intOf i).toNat)
  case atStart => exact ⟨0, Nat.zero_le _, rfl, hown1, hb0⟩
  case round =>
    obtain ⟨j, hj, rfl, hown, hbw⟩ := hrel
    have hz := hbw.size
    clear t3 t4 t5
    by_cases hlt : j < 8
    · have dlt : decide ((j : Int) < 8) = true := decide_eq_true (by omega)
      have hmx : 1 + j + 1 ≤ maxLen := by unfold maxLen; omega
      go_wp2_with (at_builtin; refine wpList_append_own _ rfl _ _ 137 rfl w.heap.size 5 i0 (.int .u8 0) 1 1 Tryz.underlying137 hi0 hz0 hz1 hz2 rfl (by decide) _ _ _ rfl (hown.alloc _) ⟨wr.heap.size, 0, none⟩ 1 1 [.int .u8 ((n : Int) / 2 ^ (8 * j) % 256)] rfl rfl (cell_one_new _ _ _) (by simp [Value.oneCell']) hmx (by omega) (by simp; omega) ?_)
      intro v' w4 hown4 hgrow4 hnil
      have hb4 : Below w.heap.size w w4 := (hbw.alloc hz _).grown hgrow4 (by simp; omega) (fun k hk => (hown.lt k hk).1)
      have hown5 : w4.ownsRow w.heap.size 5 1 v' (1 + (j + 1)) (byteVs (255 :: leBytes (j + 1) n)) := by
        rw [leBytes_succ, ← List.cons_append, byteVs_append, byte_at]
        exact hown4
      clear hown4 hgrow4 hown hnil
      go_wp2_with fail
      exact ⟨⟨j + 1, by omega, by go_num, hown5, hb4⟩, by simp [intOf]; omega⟩
    · have : j = 8 := by omega
      subst this
      go_wp2_with fail
      go_ret
      obtain ⟨a, c, hv, hc, hg⟩ := ownsRow_slice hown
      obtain ⟨g, rfl, -, -⟩ := hg (by omega)
      subst hv
      have hl : ∀ m : UInt8, (m :: leBytes 8 n).length = 1 + 8 := fun m => by simp [leBytes_length]
      exact ⟨⟨g, 0, none⟩, c, by rw [hl]; rfl, by rw [hl]; exact hown, hbw⟩
theorem put_ref (n : Int) (hn : OkNum n) (w : World) : Calls Tryz.prog 107 #[.int .i64 n] w (RetBytes w (putS n.toNat)) := by
  have hk := hn
  obtain ⟨h0, h1⟩ := hn
  obtain ⟨m, rfl⟩ := Int.eq_ofNat_of_zero_le h0
  rw [Int.toNat_natCast]
  by_cases c1 : m < 253
  · exact rput_small m c1 w
  have t3 : decide ((m : Int) < 253) = false := decide_eq_false (by omega)
  by_cases c2 : m < 65536
  · have := rput_two m hk t3 (decide_eq_true (by omega)) w
    have e : putS m = 253 :: leBytes 2 m := by unfold putS; rw [if_neg c1, if_pos c2]
    rw [e]; exact this
  by_cases c3 : m < 4294967296
  · have := rput_four m hk t3 (decide_eq_false (by omega)) (decide_eq_true (by omega)) w
    have e : putS m = 254 :: leBytes 4 m := by unfold putS; rw [if_neg c1, if_neg c2, if_pos c3]
    rw [e]; exact this
  · have := rput_eight m hk t3 (decide_eq_false (by omega)) (decide_eq_false (by omega)) w
    have e : putS m = 255 :: leBytes 8 m := by unfold putS; rw [if_neg c1, if_neg c2, if_neg c3]
    rw [e]; exact this
end Go.Proofs.YtlkojkjeklblkaaGreat
namespace Go.Proofs.YtlkojkjeklblkaaGreat
open Go.RowKit
theorem info_u8' : ∃ i, Tryz.prog.info? 5 = some i ∧ i.zero = some (.int .u8 0) ∧ i.size = 1 ∧ i.bytes = 1 := by
  have h : (Tryz.prog.info? 5).map (fun i => (i.zero, i.size, i.bytes)) = some (some (.int .u8 0), 1, 1) := by kernel_rfl
  obtain ⟨i0, hi, hz0, hz1, hz2⟩ := info_parts h
  exact ⟨i0, hi, hz0, hz1, hz2⟩
/-- Cells of a slice that has bytes for its own. -/
theorem own_news {w : World} {base : Nat} {a : Addr} {n c : Nat} {l : List UInt8} (h : w.ownsRow base 5 1 (.slice (some a) n c) n (byteVs l)) : n = l.length ∧ ∀ j u, (byteVs l)[j]? = some u → w.cell? (a.add j) = some u := by
  have hn : n = l.length := by have := h.1; rw [byteVs_length] at this; omega
  refine ⟨hn, fun j u hu => ?_⟩
  rcases h.2 with ⟨hv, h0⟩ | ⟨g, cap, cur, hv, hg, hh, hnc, hm, hsz, ht⟩
  · cases hv
  · injection hv with e1 e2 e3
    cases e1
    have e : (⟨g, 0, none⟩ : Addr).add j = ⟨g, j, none⟩ := by unfold Addr.add; split <;> simp_all
    rw [e, (cells_known hh).1, ← Array.getElem?_toList]
    rw [← ht, List.getElem?_take] at hu
    split at hu
    · exact hu
    · cases hu
/-- Bytes put behind bytes of one's own: as an equation. -/
theorem own_app {w : World} {base : Nat} {v : Value} {n : Nat} {l : List UInt8} (h : w.ownsRow base 5 1 v n (byteVs l)) {ad : Addr} {k c : Nat} {m : List UInt8} (hk : k = m.length) (hnews : ∀ j u, (byteVs m)[j]? = some u → w.cell? (ad.add j) = some u) (hb : base ≤ w.heap.size) (hl : n + k ≤ 140737488355328) :
    ∃ v' w', (∀ ty, (Builtin.append_ #[137, 137] ty #[v, .slice (some ad) k c]).run Tryz.prog w = .ok v' w') ∧ w'.ownsRow base 5 1 v' (n + k) (byteVs (l ++ m)) ∧ Upd w w' (fun j => v.ownBlock = some j) ∧ (∀ j, v'.ownBlock = some j → v.ownBlock = some j ∨ w.heap.size ≤ j) := by
  obtain ⟨i0, hi0, hz0, hz1, hz2⟩ := info_u8'
  subst hk
  obtain ⟨v', w', hr, h2, h3, h4, h5⟩ := run_append_own_at (P := Tryz.prog) w base 137 0 5 i0 (.int .u8 0) 1 1 Tryz.underlying137 hi0 hz0 hz1 hz2 rfl (by decide) v n (byteVs l) h ad m.length c (byteVs m) (by rw [byteVs_length]; omega) hnews (one_byteVs m) (by unfold maxLen; omega) (by omega) hb
  refine ⟨v', w', fun ty => hr, by rw [byteVs_append]; exact h2, Upd.grown h3, fun j e => ?_⟩
  rcases h5 with e2 | e2
  · exact .inl (e2 ▸ e)
  · rw [e2] at e; cases e; exact .inr (Nat.le_refl _)
/-- A step of a region that draws: an append whose run is known. -/
theorem step_app {P : Program} {w : World} {ops : Array Oper} {o : Oper} {a : Act} {K : Act → World → Prop} {Q : Exit → Act → World → Prop} {E : Prop} (hgd : o.guard = none) (s x : Operand) (t tx : TypeId)
    (ho : o.op = .call { callee := .builtin .append, args := #[s, x], argTypes := #[t, tx] }) (v u : Value) (hs : a.eval s = v) (hx : a.eval x = u) {v' : Value} {w' : World} (hr : (Builtin.append_ #[t, tx] o.type #[v, u]).run P w = .ok v' w')
    (hK : K (a.put o.dst v') w') : if Region.wanted o (yielded ops a.tmps) = true then Oper.wp P o a w K Q else E := by
  have hw : Region.wanted o (yielded ops a.tmps) = true := by simp [Region.wanted, hgd]
  rw [if_pos hw]
  unfold Oper.wp execOp
  simp only [ho, resolve, invoke, builtin, Sem.run_bind, Sem.run_pure, Result.andThen_ok, List.map_toArray, List.map_cons, List.map_nil, hs, hx, hr]
  exact hK
theorem wpList_run {P : Program} {w : World} {ops : Array Oper} {rest : List Oper} {o : Oper} {a : Act} {Q : Exit → Act → World → Prop} (hgd : o.guard = none) (s x : Operand) (t tx : TypeId)
    (ho : o.op = .call { callee := .builtin .append, args := #[s, x], argTypes := #[t, tx] }) (v u : Value) (hs : a.eval s = v) (hx : a.eval x = u) {v' : Value} {w' : World} (hr : (Builtin.append_ #[t, tx] o.type #[v, u]).run P w = .ok v' w')
    (hK : wpList P ops Q rest (a.put o.dst v') w') : wpList P ops Q (o :: rest) a w := by
  refine wpList_plain hgd fun K' hK' => ?_
  unfold Oper.wp execOp
  simp only [ho, resolve, invoke, builtin, Sem.run_bind, Sem.run_pure, Result.andThen_ok, List.map_toArray, List.map_cons, List.map_nil, hs, hx, hr]
  exact hK' _ _ hK
theorem retBytes_of {w w' : World} {v : Value} {n : Nat} {l : List UInt8} (h : w'.ownsRow w.heap.size 5 1 v n (byteVs l)) (hb : Below w.heap.size w w') (hn : n ≠ 0) : ∃ a c, v = .slice (some a) l.length c ∧ w'.ownsRow w.heap.size 5 1 (.slice (some a) l.length c) l.length (byteVs l) ∧ Below w.heap.size w w' := by
  have hnl : n = l.length := by have := h.1; rw [byteVs_length] at this; omega
  subst hnl
  obtain ⟨a, c, rfl, hc, hg⟩ := ownsRow_slice h
  obtain ⟨g, rfl, _, _⟩ := hg hn
  exact ⟨_, c, rfl, h, hb⟩
theorem own_base {w : World} {base : Nat} {e : TypeId} {sz : Nat} {v : Value} {n : Nat} {l : List Value} (h : w.ownsRow base e sz v n l) (k : Nat) (hk : v.ownBlock = some k) : base ≤ k := by
  rcases h.2 with ⟨hv, h0⟩ | ⟨g, cap, cur, hv, hg, _⟩
  · rw [hv] at hk; cases hk
  · rw [hv] at hk; cases hk; exact hg
/-- The end of a function that lays bytes behind bytes. -/
theorem bytes_end {w w2 w3 : World} {v1 v3 : Value} {n : Nat} {l : List UInt8} (hb : Below w.heap.size w w2) (h1 : ∀ k, v1.ownBlock = some k → w.heap.size ≤ k) (ho : w3.ownsRow w.heap.size 5 1 v3 n (byteVs l)) (hu : Upd w2 w3 (fun j => v1.ownBlock = some j)) (hn : n ≠ 0) (l' : List UInt8) (hl : l = l') : RetBytes w l' (.returned v3) w3 := by
  subst hl
  obtain ⟨a, c, rfl, h2, h3⟩ := retBytes_of ho (hb.trans (hu.below hb.size h1)) hn
  exact ⟨a, c, rfl, h2, h3⟩
set_option maxRecDepth 100000 in
set_option maxHeartbeats 1000000 in
theorem point_ref (q : Outpoint) (hq : OkNum q.n) (w : World) : Calls Tryz.prog 108 #[.agg q.arr] w (RetBytes w (q.tx.l ++ putS q.n.toNat)) := by
  obtain ⟨W, hW⟩ : ∃ W, W = w.alloc (.cells q.arr 40) := ⟨_, rfl⟩
  have hbW : Below w.heap.size w W := hW ▸ (Below.refl _ _).alloc (Nat.le_refl _) _
  have g1 : W.heap[w.heap.size]? = some (.cells q.arr 40 (0, 0)) := by rw [hW]; exact heap_alloc_new w _
  have hwl : w.heap.size < W.heap.size := (cells_known g1).2.2
  have hS0 : W.drew.cell? ⟨w.heap.size, 32, none⟩ = some (.int .i64 q.n) := by rw [(cells_known (w := W.drew) g1).1]; exact Outpoint.arr_32 q
  have hS2 : W.cell? ⟨w.heap.size, 32, none⟩ = some (.int .i64 q.n) := hS0
  have hc0 := (cells_known (w := W.drew) g1).1
  obtain ⟨X, hX⟩ : ∃ X, X = (W.alloc (.cells #[] 5)).drew := ⟨_, rfl⟩
  have hbX : Below W.heap.size W X := hX ▸ ((Below.refl _ _).alloc (Nat.le_refl _) _).drew
  have hownX : X.ownsRow w.heap.size 5 1 (.slice (some ⟨W.heap.size, 0, none⟩) 0 0) 0 (byteVs []) := by
    rw [hX]
    exact ⟨by simp [byteVs], .inr ⟨W.heap.size, 0, #[], rfl, Nat.le_of_lt hwl, heap_alloc_new W _, Nat.le_refl _, Nat.zero_le _, by simp, by simp [byteVs]⟩⟩
  have hgX : X.heap[w.heap.size]? = some (.cells q.arr 40 (0, 0)) := (hbX.block _ hwl).trans g1
  obtain ⟨v1, w1, hr1, ho1, hu1, hn1⟩ := own_app hownX (ad := ⟨w.heap.size, 0, none⟩) (k := 32) (c := 32) (m := q.tx.l) q.tx.len.symm (fun j u hu => by
    have e : (⟨w.heap.size, 0, none⟩ : Addr).add j = ⟨w.heap.size, j, none⟩ := by unfold Addr.add; split <;> simp_all
    rw [e, (cells_known hgX).1]
    have hj : j < 32 := by have := (List.getElem?_eq_some_iff.1 hu).1; rw [byteVs_length, q.tx.len] at this; exact this
    show (q.tx.arr.toList ++ [Value.int .i64 q.n]).toArray[j]? = some u
    rw [List.getElem?_toArray, List.getElem?_append_left (by simp; omega)]
    simpa [Hash.arr, byteVs] using hu) (Nat.le_trans hbW.size hbX.size) (by omega)
  have hS1 : w1.cell? ⟨w.heap.size, 32, none⟩ = some (.int .i64 q.n) := by
    have hne : (Value.slice (some ⟨W.heap.size, 0, none⟩) 0 0).ownBlock ≠ some w.heap.size := by simp [Value.ownBlock]; omega
    rw [(cells_known ((hu1.block _ (Nat.lt_of_lt_of_le hwl hbX.size) hne).trans hgX)).1]; exact Outpoint.arr_32 q
  have hp := put_ref q.n hq w1
  have hb1 : Below w.heap.size w w1 := (hbW.trans (hbX.mono hbW.size)).trans (hu1.below (Nat.le_trans hbW.size hbX.size) (fun k e => by cases e; exact Nat.le_of_lt hwl))
  have HO := Lib.hid (And.intro ho1 hb1)
  have hrX := hr1
  rw [hX] at hrX
  clear hX hbX hownX hgX hr1 ho1 hu1 hn1 hb1 hc0 g1
  go_enter Tryz.func108, Tryz.ntmps108
  go_upto_region 1 with fail
  rw [← hW]
  clear hW
  go_region_law (first | (refine step_app rfl (.tmp 3) (.tmp 5) _ _ rfl _ _ rfl rfl (hrX _) ?_) | (refine step_app rfl (.tmp 6) (.tmp 9) _ _ rfl _ _ rfl rfl (hr3 _) ?_) | (go_simp; go_at_call 107; refine hp.mono ?_; rintro e w2 ⟨a2, c2, rfl, ho2, hb2⟩; obtain ⟨v3, w3, hr3, ho3, hu3, hn3⟩ := own_app (c := c2) (ownsRow_below HO.out.1 hb2) (own_news ho2).1 (own_news ho2).2 (Nat.le_trans HO.out.2.size hb2.size) (by have := putS_le q.n.toNat; omega)))
  all_goals
    go_wp2_with fail
    go_ret
    exact bytes_end (HO.out.2.trans (hb2.mono HO.out.2.size)) (own_base HO.out.1) ho3 hu3 (by omega) _ (by simp)
theorem hash_news {X : World} {b off : Nat} {cs : Array Value} {ty : TypeId} (h : Hash) (hg : X.heap[b]? = some (.cells cs ty (0, 0))) (hc : ∀ j, j < 32 → cs[off + j]? = h.arr[j]?) : ∀ j u, (byteVs h.l)[j]? = some u → X.cell? ((⟨b, off, none⟩ : Addr).add j) = some u := by
  intro j u hu
  have e : (⟨b, off, none⟩ : Addr).add j = ⟨b, off + j, none⟩ := by unfold Addr.add; split <;> simp_all
  have hj : j < 32 := by have := (List.getElem?_eq_some_iff.1 hu).1; rw [byteVs_length, h.len] at this; exact this
  rw [e, (cells_known hg).1, hc j hj]
  simpa [Hash.arr, byteVs] using hu
set_option maxRecDepth 100000 in
set_option maxHeartbeats 1000000 in
theorem scripted_ref (s : Script) (hs : ∀ x ∈ s.ints, OkNum x) (w : World) : Calls Tryz.prog 109 #[.agg s.arr] w (RetBytes w (encN s.ints ++ s.hash.l)) := by
  obtain ⟨W, hW⟩ : ∃ W, W = w.alloc (.cells s.arr 194) := ⟨_, rfl⟩
  have hbW : Below w.heap.size w W := hW ▸ (Below.refl _ _).alloc (Nat.le_refl _) _
  have g1 : W.heap[w.heap.size]? = some (.cells s.arr 194 (0, 0)) := by rw [hW]; exact heap_alloc_new w _
  have hwl : w.heap.size < W.heap.size := (cells_known g1).2.2
  obtain ⟨V, hV⟩ : ∃ V, V = W.alloc (.cells (s.ints.map (Value.int .i64)).toArray 3) := ⟨_, rfl⟩
  have hbV : Below W.heap.size W V := hV ▸ (Below.refl _ _).alloc (Nat.le_refl _) _
  have g2 : V.heap[W.heap.size]? = some (.cells (s.ints.map (Value.int .i64)).toArray 3 (0, 0)) := by rw [hV]; exact heap_alloc_new W _
  have hvl : W.heap.size < V.heap.size := (cells_known g2).2.2
  have g1V : V.heap[w.heap.size]? = some (.cells s.arr 194 (0, 0)) := (hbV.block _ hwl).trans g1
  have hcells : W.cell? ⟨w.heap.size, 0, none⟩ = some (.int .i64 s.kind) ∧ W.cell? ⟨w.heap.size, 1, none⟩ = some (.int .i64 s.key) ∧ W.cell? ⟨w.heap.size, 2, none⟩ = some (.int .i64 s.other) ∧ W.cell? ⟨w.heap.size, 3, none⟩ = some (.int .i64 s.rev) ∧ W.cell? ⟨w.heap.size, 4, none⟩ = some (.int .i64 s.delay) ∧ W.cell? ⟨w.heap.size, 5, none⟩ = some (.int .i64 s.expiry) := by
    refine ⟨?_, ?_, ?_, ?_, ?_, ?_⟩ <;> rw [(cells_known g1).1]
    · exact Script.arr_0 s
    · exact Script.arr_1 s
    · exact Script.arr_2 s
    · exact Script.arr_3 s
    · exact Script.arr_4 s
    · exact Script.arr_5 s
  obtain ⟨q0, q1, q2, q3, q4, q5⟩ := hcells
  have HB := Lib.hid (hbW.trans (hbV.mono (Nat.le_of_lt hwl)))
  have HG := Lib.hid (And.intro g1V g2)
  have HS := Lib.hid hs
  have hlist : (#[.int .i64 s.kind, .int .i64 s.key, .int .i64 s.other, .int .i64 s.rev, .int .i64 s.delay, .int .i64 s.expiry] : Array Value) = (s.ints.map (Value.int .i64)).toArray := rfl
  clear g1 g2 g1V hbW hbV hs
  go_enter Tryz.func109, Tryz.ntmps109
  go_upto_region 1 with fail
  rw [← hW]
  clear hW
  go_wp2_with fail
  rw [← hV]
  clear hV q0 q1 q2 q3 q4 q5 hlist
  go_loopw [4, 5] (fun v i wr => ∃ k : Nat, k ≤ 6 ∧ i = .int .i64 k ∧ wr.ownsRow V.heap.size 5 1 v (encN (s.ints.take k)).length (byteVs (encN (s.ints.take k))) ∧ Below V.heap.size V wr) (fun _ i _ => 6 - (intOf i).toNat)
  case atStart => exact ⟨0, by omega, rfl, World.ownsRow_nil _ _ _ _, Below.refl _ _⟩
  case round =>
    obtain ⟨k, hk, rfl, ho, hbr⟩ := hrel
    by_cases hlt : k < 6
    · have hlt' : k < s.ints.length := hlt
      have e1 : decide ((k : Int) < 6) = true := decide_eq_true (by omega)
      have hcell : wr.cell? ⟨W.heap.size, k, none⟩ = some (.int .i64 s.ints[k]) := by
        rw [(cells_known ((hbr.block _ hvl).trans HG.out.2)).1]
        simp [hlt']
      have hp := put_ref s.ints[k] (HS.out _ (List.getElem_mem hlt')) wr
      have hle := encN_le (s.ints.take k)
      have htk : (s.ints.take k).length = k := by simp; omega
      have hnk := encN_take hlt'
      obtain ⟨x, hx⟩ : ∃ x, x = s.ints[k] := ⟨_, rfl⟩
      rw [← hx] at hcell hp hnk
      have HN := Lib.hid hnk
      have HL := Lib.hid (show (encN (s.ints.take k)).length ≤ 54 by omega)
      clear hx hnk hle htk hlt'
      go_wp2_with fail
      refine hp.mono ?_
      rintro e w2 ⟨a2, c2, rfl, ho2, hb2⟩
      have hsz : V.heap.size ≤ w2.heap.size := Nat.le_trans hbr.size hb2.size
      obtain ⟨v3, w3, hr3, ho3, hu3, hn3⟩ := own_app (c := c2) (ownsRow_below ho hb2) (own_news ho2).1 (own_news ho2).2 hsz (by have := putS_le x.toNat; have := HL.out; omega)
      have HR := Lib.hid (hr3 137)
      go_wp2_with (at_builtin; refine wpList_run rfl _ _ _ _ rfl _ _ rfl rfl HR.out ?_)
      refine ⟨⟨k + 1, by omega, by go_num, ?_, hbr.trans ((hb2.mono hbr.size).trans (hu3.below (Nat.le_trans hbr.size hb2.size) (own_base ho)))⟩, by simp [intOf]; omega⟩
      rw [HN.out, List.length_append]
      exact ho3
    · obtain rfl : k = 6 := by omega
      have hbw := HB.out.trans (hbr.mono HB.out.size)
      obtain ⟨v3, w3, hr3, ho3, hu3, hn3⟩ := own_app ho (ad := ⟨w.heap.size, 6, none⟩) (k := 32) (c := 32) (m := s.hash.l) s.hash.len.symm (hash_news s.hash ((hbr.block _ (Nat.lt_trans hwl hvl)).trans HG.out.1) (fun j hj => by
        show ([Value.int .i64 s.kind, Value.int .i64 s.key, Value.int .i64 s.other, Value.int .i64 s.rev, Value.int .i64 s.delay, Value.int .i64 s.expiry] ++ s.hash.arr.toList).toArray[6 + j]? = _
        rw [List.getElem?_toArray, List.getElem?_append_right (by simp)]
        simp)) hbr.size (by have := encN_le (s.ints.take 6); have : (s.ints.take 6).length = 6 := rfl; omega)
      have HR := Lib.hid (hr3 137)
      have HF := Lib.hid (And.intro ho3 hu3)
      have HO := Lib.hid ho
      have HW := Lib.hid hbw
      have hb5 : w.heap.size ≤ V.heap.size := HB.out.size
      clear hr3 ho3 hu3 hn3 ho hbw hbr hk hlt
      go_wp2_with (at_builtin; refine wpList_run rfl _ _ _ _ rfl _ _ rfl rfl HR.out ?_)
      go_ret
      exact bytes_end HW.out (fun k hk => Nat.le_trans hb5 (own_base HO.out k hk)) (HF.out.1.mono hb5) HF.out.2 (by omega) _ (by rw [show s.ints.take 6 = s.ints from rfl])
end Go.Proofs.YtlkojkjeklblkaaGreat
namespace Go.Proofs.YtlkojkjeklblkaaGreat
open Go.RowKit
theorem encN_one (n : Int) : encN [n] = putS n.toNat := by simp [encN]
set_option maxRecDepth 100000 in
set_option maxHeartbeats 1000000 in
theorem bodyref (v : TxV) (t : Tx) (w : World) (ht : isTx w v t w.heap.size) (h1 : t.ins.length ≤ 1000000) (h2 : t.outs.length ≤ 1000000) (hn1 : ∀ i ∈ t.ins, inNum i) (hn2 : ∀ o ∈ t.outs, outNum o) (hl : OkNum t.lock) :
    Calls Tryz.prog 64 #[.agg v.arr] w (RetBytes w (bodyS t)) := by
  obtain ⟨⟨ia, il, ic⟩, ⟨oa, ol, oc⟩, lk⟩ := v
  obtain ⟨⟨hm1, hcc1, hr1⟩, ⟨hm2, hcc2, hr2⟩, hlk⟩ := ht
  simp only at hm1 hcc1 hr1 hm2 hcc2 hr2 hlk
  subst hm1 hm2 hlk
  obtain ⟨W, hW⟩ : ∃ W, W = w.alloc (.cells (TxV.mk ⟨ia, t.ins.length, ic⟩ ⟨oa, t.outs.length, oc⟩ t.lock).arr 72) := ⟨_, rfl⟩
  have hbW : Below w.heap.size w W := hW ▸ (Below.refl _ _).alloc (Nat.le_refl _) _
  have g1 : W.heap[w.heap.size]? = some (.cells (TxV.mk ⟨ia, t.ins.length, ic⟩ ⟨oa, t.outs.length, oc⟩ t.lock).arr 72 (0, 0)) := hW ▸ heap_alloc_new w _
  have hcell : ∀ Q, Below W.heap.size W Q → Q.cell? ⟨w.heap.size, 0, none⟩ = some (.slice ia t.ins.length ic) ∧ Q.cell? ⟨w.heap.size, 1, none⟩ = some (.slice oa t.outs.length oc) ∧ Q.cell? ⟨w.heap.size, 2, none⟩ = some (.int .i64 t.lock) := by
    intro Q hQ
    have hg := (hQ.block _ (cells_known g1).2.2).trans g1
    rw [(cells_known hg).1, (cells_known hg).1, (cells_known hg).1]
    exact ⟨TxV.arr_0 _, TxV.arr_1 _, TxV.arr_2 _⟩
  have HC := Lib.hid hcell
  have HR1 := Lib.hid ((hr1.below hbW).mono hbW.size)
  have HR2 := Lib.hid ((hr2.below hbW).mono hbW.size)
  have HN := Lib.hid (And.intro hn1 hn2)
  have HBW := Lib.hid hbW
  have hwl : w.heap.size < W.heap.size := (cells_known g1).2.2
  obtain ⟨L0, hL0⟩ : ∃ L, L = encN [(t.ins.length : Int)] := ⟨_, rfl⟩
  have hL0l : L0.length ≤ 9 := by rw [hL0]; exact encN_le _
  have hp1 : Calls Tryz.prog 107 #[.int .i64 t.ins.length] W (RetBytes W L0) := by rw [hL0, encN_one]; exact put_ref _ (by simp [OkNum]; omega) W
  have HL0 := Lib.hid hL0
  clear hL0
  have hsum1 : ∀ k, ((t.ins.take k).flatMap inB).length ≤ 50000000 := fun k => by
    have := flat_le inB 50 inB_le (t.ins.take k)
    have : (t.ins.take k).length ≤ 1000000 := by simp; omega
    omega
  have hsum2 : ∀ k, ((t.outs.take k).flatMap outB).length ≤ 95000000 := fun k => by
    have := flat_le outB 95 outB_le (t.outs.take k)
    have : (t.outs.take k).length ≤ 1000000 := by simp; omega
    omega
  have HS1 := Lib.hid hsum1
  have HS2 := Lib.hid hsum2
  have HL := Lib.hid hl
  obtain ⟨q0, q1, q2⟩ := HC.out W (Below.refl _ _)
  clear hr1 hr2 g1 hcell hbW hsum1 hsum2 hn1 hn2 hl
  go_enter Tryz.func64, Tryz.ntmps64
  go_upto_region 1 with fail
  rw [← hW]
  clear hW
  go_wp2_with fail
  refine hp1.mono ?_
  rintro e w1 ⟨a1, c1, rfl, ho1, hb1⟩
  clear hp1 q0 q1 q2
  go_wp2_with fail
  go_loopw [3, 4] (fun v i wr => ∃ k : Nat, k ≤ t.ins.length ∧ i = .int .i64 k ∧ wr.ownsRow W.heap.size 5 1 v (L0 ++ (t.ins.take k).flatMap inB).length (byteVs (L0 ++ (t.ins.take k).flatMap inB)) ∧ Below W.heap.size W wr) (fun _ i _ => t.ins.length - (intOf i).toNat)
  case atStart => exact ⟨0, Nat.zero_le _, rfl, by simpa using ho1, hb1⟩
  case round =>
    clear ho1 hb1
    obtain ⟨k, hk, rfl, ho, hbr⟩ := hrel
    by_cases hlt : k < t.ins.length
    · obtain ⟨b0, off, rfl, hb0, hr⟩ := (HR1.out.below hbr).at hlt
      obtain ⟨hnp, hns⟩ := HN.out.1 _ (List.getElem_mem hlt)
      obtain ⟨x, hx⟩ : ∃ x, x = t.ins[k] := ⟨_, rfl⟩
      rw [← hx] at hr hnp hns
      obtain ⟨L, hL⟩ : ∃ L, L = L0 ++ (t.ins.take k).flatMap inB := ⟨_, rfl⟩
      have hnext : L0 ++ (t.ins.take (k + 1)).flatMap inB = L ++ (x.prev.tx.l ++ putS x.prev.n.toNat) ++ putS x.seq.toNat := by
        rw [flat_take inB hlt, ← hx, hL]; simp [inB, encN_one]
      have hLl : L.length ≤ 50000009 := by have := HS1.out k; rw [hL, List.length_append]; omega
      rw [← hL] at ho
      have HX := Lib.hid (And.intro hnext (And.intro ho hbr))
      have hS : ∀ Q, Below W.heap.size wr Q → Q.cell? ⟨w.heap.size, 0, none⟩ = some (.slice (some ⟨b0, off, none⟩) t.ins.length ic) ∧ row? Q ⟨b0, off + k * 37, none⟩ 33 = some x.prev.arr ∧ Q.cell? ⟨b0, off + k * 37 + 33, none⟩ = some (.int .i64 x.seq) := by
        intro Q hQ
        have hrq := (row?_below hQ (a := ⟨b0, off + k * 37, none⟩) hb0 37).trans hr
        refine ⟨(HC.out Q (hbr.trans hQ)).1, ?_, ?_⟩
        · have := row?_part hrq 0 33 (by omega)
          simp only [Nat.add_zero, Nat.zero_add] at this
          rw [this, In.ext_0]
        · have := row?_cellAt hrq 33 (by omega)
          rw [In.arr_33] at this
          exact this
      have HS := Lib.hid hS
      have hS0 := hS wr.drew (Below.refl _ _).drew
      have j0 : (0 : Int) ≤ (k : Int) := by omega
      have j1 : (k : Int) < (t.ins.length : Int) := by omega
      have hpt := point_ref x.prev hnp wr.drew
      have hle := putS_le x.prev.n.toNat
      have hxl := x.prev.tx.len
      have hle2 := putS_le x.seq.toNat
      have HXX := Lib.hid hx
      have HNS := Lib.hid hns
      have HHL := Lib.hid hL
      obtain ⟨q0, q1, q2⟩ := HC.out wr hbr
      clear hS hnext hx hns hL hr hnp
      go_upto_region 5 with fail
      go_region_held3 (fun X : World => X.cell? ⟨w.heap.size, 0, none⟩ = some (.slice (some ⟨b0, off, none⟩) t.ins.length ic) ∧ row? X ⟨b0, off + k * 37, none⟩ 33 = some x.prev.arr ∧ X.cell? ⟨b0, off + k * 37 + 33, none⟩ = some (.int .i64 x.seq)) (first | exact hS0 | exact hS1 | exact hS2 | exact hS3 | exact hS4) (first | (go_at_call 108; refine hpt.mono ?_; rintro e wA ⟨aA, cA, rfl, hoA, hbA⟩; have hbA1 : Below wr.heap.size wr wA := ((Below.refl _ _).drew).trans hbA; have hS1 : wA.cell? ⟨w.heap.size, 0, none⟩ = some (.slice (some ⟨b0, off, none⟩) t.ins.length ic) ∧ row? wA ⟨b0, off + k * 37, none⟩ 33 = some x.prev.arr ∧ wA.cell? ⟨b0, off + k * 37 + 33, none⟩ = some (.int .i64 x.seq) := HS.out wA (hbA1.mono HX.out.2.2.size); obtain ⟨vA, wB, hrA, hoB, huB, hnB⟩ := own_app (c := cA) (ownsRow_below HX.out.2.1 hbA1) (own_news hoA).1 (own_news hoA).2 (Nat.le_trans HX.out.2.2.size hbA1.size) (by simp only [List.length_append]; omega); have hbB : Below W.heap.size wr wB := (hbA1.mono HX.out.2.2.size).trans (huB.below (Nat.le_trans HX.out.2.2.size hbA1.size) (own_base HX.out.2.1)); have hS2 : wB.cell? ⟨w.heap.size, 0, none⟩ = some (.slice (some ⟨b0, off, none⟩) t.ins.length ic) ∧ row? wB ⟨b0, off + k * 37, none⟩ 33 = some x.prev.arr ∧ wB.cell? ⟨b0, off + k * 37 + 33, none⟩ = some (.int .i64 x.seq) := HS.out wB hbB; have hput := put_ref x.seq HNS.out wB) | (refine step_app rfl (.tmp 17) (.tmp 24) _ _ rfl _ _ (by simp [Act.eval, Act.put]) (by simp [Act.eval, Act.put, hxl]) (hrA _) ?_) | (go_at_call 107; refine hput.mono ?_; rintro e wC ⟨aC, cC, rfl, hoC, hbC⟩; have hsz : W.heap.size ≤ wB.heap.size := Nat.le_trans HX.out.2.2.size hbB.size; have hbC1 : Below W.heap.size wr wC := hbB.trans (hbC.mono hsz); have hS3 : wC.cell? ⟨w.heap.size, 0, none⟩ = some (.slice (some ⟨b0, off, none⟩) t.ins.length ic) ∧ row? wC ⟨b0, off + k * 37, none⟩ 33 = some x.prev.arr ∧ wC.cell? ⟨b0, off + k * 37 + 33, none⟩ = some (.int .i64 x.seq) := HS.out wC hbC1; obtain ⟨vD, wD, hrD, hoD, huD, hnD⟩ := own_app (c := cC) (ownsRow_below hoB hbC) (own_news hoC).1 (own_news hoC).2 (Nat.le_trans hsz hbC.size) (by simp only [List.length_append]; omega); have hbD : Below W.heap.size wr wD := hbC1.trans (huD.below (Nat.le_trans hsz hbC.size) (own_base hoB)); have hS4 : wD.cell? ⟨w.heap.size, 0, none⟩ = some (.slice (some ⟨b0, off, none⟩) t.ins.length ic) ∧ row? wD ⟨b0, off + k * 37, none⟩ 33 = some x.prev.arr ∧ wD.cell? ⟨b0, off + k * 37 + 33, none⟩ = some (.int .i64 x.seq) := HS.out wD hbD) | (refine step_app rfl (.tmp 25) (.tmp 32) _ _ rfl _ _ (by simp [Act.eval, Act.put]) (by simp [Act.eval, Act.put]) (hrD _) ?_))
      go_wp2_with fail
      refine ⟨⟨k + 1, by omega, by go_num, ?_, HX.out.2.2.trans hbD⟩, by simp [intOf]; omega⟩
      rw [HX.out.1, List.length_append, List.length_append]
      exact hoD
    · obtain rfl : k = t.ins.length := by omega
      rw [List.take_length] at ho
      obtain ⟨L, hL⟩ : ∃ L, L = L0 ++ t.ins.flatMap inB := ⟨_, rfl⟩
      rw [← hL] at ho
      have hLl : L.length ≤ 50000009 := by have := HS1.out t.ins.length; rw [List.take_length] at this; rw [hL, List.length_append]; omega
      have HHL := Lib.hid hL
      obtain ⟨N1, hN1⟩ : ∃ L, L = encN [(t.outs.length : Int)] := ⟨_, rfl⟩
      have hN1l : N1.length ≤ 9 := by rw [hN1]; exact encN_le _
      have hp1 : Calls Tryz.prog 107 #[.int .i64 t.outs.length] wr (RetBytes wr N1) := by rw [hN1, encN_one]; exact put_ref _ (by simp [OkNum]; omega) wr
      have HN1 := Lib.hid hN1
      obtain ⟨q0, q1, q2⟩ := HC.out wr hbr
      clear hN1 hL hlt hk
      go_wp2_with fail
      refine hp1.mono ?_
      rintro e w2 ⟨a2, c2, rfl, ho2, hb2⟩
      have hsz : W.heap.size ≤ w2.heap.size := Nat.le_trans hbr.size hb2.size
      obtain ⟨v3, w3, hr3, ho3, hu3, hn3⟩ := own_app (c := c2) (ownsRow_below ho hb2) (own_news ho2).1 (own_news ho2).2 hsz (by omega)
      have hb3 : Below W.heap.size W w3 := (hbr.trans (hb2.mono hbr.size)).trans (hu3.below hsz (own_base ho))
      obtain ⟨L1, hL1⟩ : ∃ L1, L1 = L ++ N1 := ⟨_, rfl⟩
      rw [← hL1] at ho3
      have hL1l : L1.length ≤ 50000018 := by rw [hL1, List.length_append]; omega
      have ho3' : w3.ownsRow W.heap.size 5 1 v3 L1.length (byteVs L1) := by rw [hL1, List.length_append, ← hL1]; exact ho3
      have HL1 := Lib.hid hL1
      have HR := Lib.hid (hr3 137)
      clear hL1 hr3 ho3 hu3 hn3 ho2 hb2 hp1 q0 q1 q2 ho hbr hsz
      go_wp2_with (at_builtin; refine wpList_run rfl _ _ _ _ rfl _ _ rfl rfl HR.out ?_)
      clear HR
      go_loopw [3, 5] (fun v i wr => ∃ k : Nat, k ≤ t.outs.length ∧ i = .int .i64 k ∧ wr.ownsRow W.heap.size 5 1 v (L1 ++ (t.outs.take k).flatMap outB).length (byteVs (L1 ++ (t.outs.take k).flatMap outB)) ∧ Below W.heap.size W wr) (fun _ i _ => t.outs.length - (intOf i).toNat)
      case atStart => exact ⟨0, Nat.zero_le _, rfl, by simpa using ho3', hb3⟩
      case round =>
        clear ho3' hb3
        obtain ⟨k, hk, rfl, ho, hbr⟩ := hrel
        by_cases hlt : k < t.outs.length
        · obtain ⟨b0, off, rfl, hb0, hr⟩ := (HR2.out.below hbr).at hlt
          obtain ⟨hnp, hns⟩ := HN.out.2 _ (List.getElem_mem hlt)
          obtain ⟨x, hx⟩ : ∃ x, x = t.outs[k] := ⟨_, rfl⟩
          rw [← hx] at hr hnp hns
          obtain ⟨M, hM⟩ : ∃ M, M = L1 ++ (t.outs.take k).flatMap outB := ⟨_, rfl⟩
          have hnext : L1 ++ (t.outs.take (k + 1)).flatMap outB = M ++ putS x.value.toNat ++ (encN x.script.ints ++ x.script.hash.l) := by
            rw [flat_take outB hlt, ← hx, hM]; simp [outB, encN_one]
          have hMl : M.length ≤ 145000018 := by have := HS2.out k; rw [hM, List.length_append]; omega
          rw [← hM] at ho
          have HX := Lib.hid (And.intro hnext (And.intro ho hbr))
          have hS : ∀ Q, Below W.heap.size wr Q → Q.cell? ⟨w.heap.size, 1, none⟩ = some (.slice (some ⟨b0, off, none⟩) t.outs.length oc) ∧ row? Q ⟨b0, off + k * 39 + 1, none⟩ 38 = some x.script.arr ∧ Q.cell? ⟨b0, off + k * 39, none⟩ = some (.int .i64 x.value) := by
            intro Q hQ
            have hrq := (row?_below hQ (a := ⟨b0, off + k * 39, none⟩) hb0 39).trans hr
            refine ⟨(HC.out Q (hbr.trans hQ)).2.1, ?_, ?_⟩
            · have := row?_part hrq 1 38 (by omega)
              rw [Out.ext_1] at this
              exact this
            · have := row?_cellAt hrq 0 (by omega)
              rw [Out.arr_0] at this
              exact this
          have HS := Lib.hid hS
          have hS0 := hS wr.drew (Below.refl _ _).drew
          have j0 : (0 : Int) ≤ (k : Int) := by omega
          have j1 : (k : Int) < (t.outs.length : Int) := by omega
          have hpt := put_ref x.value hnp wr.drew
          have hle := putS_le x.value.toNat
          have hxl := x.script.hash.len
          have hle2 := encN_le x.script.ints
          have hle3 : x.script.ints.length = 6 := rfl
          have HXX := Lib.hid hx
          have HNS := Lib.hid hns
          have HHM := Lib.hid hM
          obtain ⟨q0, q1, q2⟩ := HC.out wr hbr
          clear hS hnext hx hns hM hr hnp
          go_upto_region 10 with fail
          go_region_held3 (fun X : World => X.cell? ⟨w.heap.size, 1, none⟩ = some (.slice (some ⟨b0, off, none⟩) t.outs.length oc) ∧ row? X ⟨b0, off + k * 39 + 1, none⟩ 38 = some x.script.arr ∧ X.cell? ⟨b0, off + k * 39, none⟩ = some (.int .i64 x.value)) (first | exact hS0 | exact hS1 | exact hS2 | exact hS3 | exact hS4) (first | (go_at_call 107; refine hpt.mono ?_; rintro e wA ⟨aA, cA, rfl, hoA, hbA⟩; have hbA1 : Below wr.heap.size wr wA := ((Below.refl _ _).drew).trans hbA; have hS1 : wA.cell? ⟨w.heap.size, 1, none⟩ = some (.slice (some ⟨b0, off, none⟩) t.outs.length oc) ∧ row? wA ⟨b0, off + k * 39 + 1, none⟩ 38 = some x.script.arr ∧ wA.cell? ⟨b0, off + k * 39, none⟩ = some (.int .i64 x.value) := HS.out wA (hbA1.mono HX.out.2.2.size); obtain ⟨vA, wB, hrA, hoB, huB, hnB⟩ := own_app (c := cA) (ownsRow_below HX.out.2.1 hbA1) (own_news hoA).1 (own_news hoA).2 (Nat.le_trans HX.out.2.2.size hbA1.size) (by omega); have hbB : Below W.heap.size wr wB := (hbA1.mono HX.out.2.2.size).trans (huB.below (Nat.le_trans HX.out.2.2.size hbA1.size) (own_base HX.out.2.1)); have hS2 : wB.cell? ⟨w.heap.size, 1, none⟩ = some (.slice (some ⟨b0, off, none⟩) t.outs.length oc) ∧ row? wB ⟨b0, off + k * 39 + 1, none⟩ 38 = some x.script.arr ∧ wB.cell? ⟨b0, off + k * 39, none⟩ = some (.int .i64 x.value) := HS.out wB hbB; have hput := scripted_ref x.script HNS.out wB) | (refine step_app rfl (.tmp 47) (.tmp 54) _ _ rfl _ _ (by simp [Act.eval, Act.put]) (by simp [Act.eval, Act.put, hxl]) (hrA _) ?_) | (go_at_call 109; refine hput.mono ?_; rintro e wC ⟨aC, cC, rfl, hoC, hbC⟩; have hsz : W.heap.size ≤ wB.heap.size := Nat.le_trans HX.out.2.2.size hbB.size; have hbC1 : Below W.heap.size wr wC := hbB.trans (hbC.mono hsz); have hS3 : wC.cell? ⟨w.heap.size, 1, none⟩ = some (.slice (some ⟨b0, off, none⟩) t.outs.length oc) ∧ row? wC ⟨b0, off + k * 39 + 1, none⟩ 38 = some x.script.arr ∧ wC.cell? ⟨b0, off + k * 39, none⟩ = some (.int .i64 x.value) := HS.out wC hbC1; obtain ⟨vD, wD, hrD, hoD, huD, hnD⟩ := own_app (c := cC) (ownsRow_below hoB hbC) (own_news hoC).1 (own_news hoC).2 (Nat.le_trans hsz hbC.size) (by simp only [List.length_append]; omega); have hbD : Below W.heap.size wr wD := hbC1.trans (huD.below (Nat.le_trans hsz hbC.size) (own_base hoB)); have hS4 : wD.cell? ⟨w.heap.size, 1, none⟩ = some (.slice (some ⟨b0, off, none⟩) t.outs.length oc) ∧ row? wD ⟨b0, off + k * 39 + 1, none⟩ 38 = some x.script.arr ∧ wD.cell? ⟨b0, off + k * 39, none⟩ = some (.int .i64 x.value) := HS.out wD hbD) | (refine step_app rfl (.tmp 55) (.tmp 62) _ _ rfl _ _ (by simp [Act.eval, Act.put]) (by simp [Act.eval, Act.put, hxl]) (hrD _) ?_))
          go_wp2_with fail
          refine ⟨⟨k + 1, by omega, by go_num, ?_, HX.out.2.2.trans hbD⟩, by simp [intOf]; omega⟩
          rw [HX.out.1, List.length_append, List.length_append]
          exact hoD
        · obtain rfl : k = t.outs.length := by omega
          rw [List.take_length] at ho
          obtain ⟨M, hM⟩ : ∃ M, M = L1 ++ t.outs.flatMap outB := ⟨_, rfl⟩
          rw [← hM] at ho
          have hMl : M.length ≤ 145000018 := by have := HS2.out t.outs.length; rw [List.take_length] at this; rw [hM, List.length_append]; omega
          have HHM := Lib.hid hM
          have hp1 := put_ref t.lock HL.out wr
          obtain ⟨q0, q1, q2⟩ := HC.out wr hbr
          have hle := putS_le t.lock.toNat
          have hpos := putS_pos t.lock.toNat
          clear hM hlt hk
          go_wp2_with fail
          refine hp1.mono ?_
          rintro e w2 ⟨a2, c2, rfl, ho2, hb2⟩
          have hsz : W.heap.size ≤ w2.heap.size := Nat.le_trans hbr.size hb2.size
          obtain ⟨v3, w3, hr3, ho3, hu3, hn3⟩ := own_app (c := c2) (ownsRow_below ho hb2) (own_news ho2).1 (own_news ho2).2 hsz (by omega)
          have hb3 : Below W.heap.size W w2 := hbr.trans (hb2.mono hbr.size)
          have HR := Lib.hid (hr3 137)
          clear hr3
          go_wp2_with (at_builtin; refine wpList_run rfl _ _ _ _ rfl _ _ rfl rfl HR.out ?_)
          go_ret
          refine bytes_end (HBW.out.trans (hb3.mono HBW.out.size)) (fun j hj => Nat.le_trans (Nat.le_of_lt hwl) (own_base ho j hj)) (ho3.mono (Nat.le_of_lt hwl)) hu3 (by omega) _ ?_
          rw [HHM.out, HL1.out, HHL.out, HL0.out, HN1.out, ← encN_one]
          simp [bodyS]
theorem bytesAt_row {w : World} {base : Nat} {a : Addr} {c : Nat} {l : List UInt8} (h : w.ownsRow base 5 1 (.slice (some a) l.length c) l.length (byteVs l)) : bytesAt w ⟨some a, l.length, c⟩ l w.heap.size ∧ l.length ≤ c := by
  obtain ⟨a', c', e, hc, hg⟩ := ownsRow_slice h
  cases e
  refine ⟨⟨rfl, fun hl => ?_⟩, hc⟩
  obtain ⟨g, cap, e2, _, hlt⟩ := h.form (by cases l <;> simp_all)
  cases e2
  refine ⟨g, 0, rfl, hlt, fun k hk => ?_⟩
  have := (own_news h).2 k (byteV l[k]) (by simp [byteVs, hk])
  have e : (⟨g, 0, none⟩ : Addr).add k = ⟨g, 0 + k, none⟩ := by unfold Addr.add; split <;> simp_all
  rw [← e]; exact this
set_option maxRecDepth 100000 in
set_option maxHeartbeats 1000000 in
theorem id_ref (v : TxV) (t : Tx) (w : World) (ht : isTx w v t w.heap.size) :
    Calls Tryz.prog 27 #[.agg v.arr] w fun e w' => e = .returned (.agg (idS t).arr) ∧ Below w.heap.size w w' := by
  by_cases h0 : checkS t = 0
  · have t0 : (checkS t != 0) = false := by simp [h0]
    have hok := checkS_ok h0
    have hbl := bodyS_le t (by omega) (by omega)
    have H0 := Lib.hid h0
    clear h0
    go_enter Tryz.func27, Tryz.ntmps27
    go_wp2_with fail
    obtain ⟨W, hW⟩ : ∃ W, W = (w.alloc (.cells v.arr 72)).alloc (.cells Hash.zero.arr 38) := ⟨_, rfl⟩
    obtain ⟨hb, hhb⟩ : ∃ hb, hb = w.heap.size + 1 := ⟨_, rfl⟩
    rw [← hW, ← hhb]
    have hbW : Below w.heap.size w W := hW ▸ ((Below.refl w.heap.size w).alloc (Nat.le_refl _) _).alloc (by simp) _
    have hWs : W.heap.size = w.heap.size + 2 := by rw [hW]; simp
    have hHW : W.heap[hb]? = some (.cells Hash.zero.arr 38 (0, 0)) := by rw [hW, hhb]; show ((w.heap.push _).push _)[w.heap.size + 1]? = _; rw [show w.heap.size + 1 = (w.heap.push (.cells v.arr 72)).size by simp, Array.getElem?_push_size]
    have hTW : row? W ⟨w.heap.size, 0, none⟩ 3 = some v.arr := by rw [hW, row?_alloc_past _ _ _ _ (by simp), row?_alloc_at _ _ _ _ _ _ _ rfl]; simp
    refine (check_ref v t W ((ht.below hbW).mono hbW.size)).mono ?_
    rintro e w1 ⟨rfl, hb1⟩
    have hT1 : row? w1 ⟨w.heap.size, 0, none⟩ 3 = some v.arr := by rw [row?_below hb1 (by simp; omega)]; exact hTW
    have hH1 : w1.heap[hb]? = some (.cells Hash.zero.arr 38 (0, 0)) := by rw [hb1.block hb (by omega)]; exact hHW
    have hb01 : Below w.heap.size w w1 := hbW.trans (hb1.mono (by omega))
    have hs1 := hb1.size
    have ht1 : isTx w1 v t w1.heap.size := (ht.below hb01).mono hb01.size
    have hge : w.heap.size ≤ hb := by omega
    have hlt1 : hb < w1.heap.size := by omega
    have HH1 := Lib.hid hH1
    clear hW hhb hWs hHW hTW hbW hb1 hH1
    go_wp2_with fail
    refine (bodyref v t w1 ht1 (by omega) (by omega) hok.2.2.2.1 hok.2.2.2.2.1 hok.2.2.2.2.2).mono ?_
    rintro e w2 ⟨a2, c2, rfl, ho2, hb2⟩
    have hby := bytesAt_row ho2
    have HBY := Lib.hid hby
    have hs2 := hb2.size
    clear ho2 hby
    go_wp2_with fail
    refine (twice_ref ⟨some a2, (bodyS t).length, c2⟩ (bodyS t) w2 HBY.out.1 HBY.out.2 (by omega)).mono ?_
    rintro e w3 ⟨rfl, hb3⟩
    have hb13 : Below w1.heap.size w1 w3 := hb2.trans (hb3.mono hs2)
    have HH3 : Hid (w3.heap[hb]? = some (.cells Hash.zero.arr 38 (0, 0))) := by unfold Hid; rw [hb13.block hb hlt1]; exact HH1.out
    have hs3 := hb13.size
    go_wp2_with (refine wpList_storeHash (.tmp 2) (.tmp 9) rfl rfl hb (twiceS (bodyS t)) Hash.zero rfl rfl HH3.out ?_; intro wz hhz huz)
    refine bodyPost_ret (results_cell_row rfl _ _ hb 38 (twiceS (bodyS t)).arr (0, 0) _ rfl hhz Tryz.underlying38 rfl (by rw [size_Hash]; simp)) rfl ⟨by unfold idS; rw [if_pos H0.out], ?_⟩
    exact hb01.trans ((hb13.mono hb01.size).trans (huz.below (by omega) (fun i e => by have e2 : i = hb := e; omega)))
  · have t0 : (checkS t != 0) = true := by simpa using h0
    have H0 := Lib.hid h0
    clear h0
    go_enter Tryz.func27, Tryz.ntmps27
    go_wp2_with fail
    obtain ⟨W, hW⟩ : ∃ W, W = (w.alloc (.cells v.arr 72)).alloc (.cells Hash.zero.arr 38) := ⟨_, rfl⟩
    obtain ⟨hb, hhb⟩ : ∃ hb, hb = w.heap.size + 1 := ⟨_, rfl⟩
    rw [← hW, ← hhb]
    have hbW : Below w.heap.size w W := hW ▸ ((Below.refl w.heap.size w).alloc (Nat.le_refl _) _).alloc (by simp) _
    have hWs : W.heap.size = w.heap.size + 2 := by rw [hW]; simp
    have hHW : W.heap[hb]? = some (.cells Hash.zero.arr 38 (0, 0)) := by rw [hW, hhb]; show ((w.heap.push _).push _)[w.heap.size + 1]? = _; rw [show w.heap.size + 1 = (w.heap.push (.cells v.arr 72)).size by simp, Array.getElem?_push_size]
    have hTW : row? W ⟨w.heap.size, 0, none⟩ 3 = some v.arr := by rw [hW, row?_alloc_past _ _ _ _ (by simp), row?_alloc_at _ _ _ _ _ _ _ rfl]; simp
    refine (check_ref v t W ((ht.below hbW).mono hbW.size)).mono ?_
    rintro e w1 ⟨rfl, hb1⟩
    have hT1 : row? w1 ⟨w.heap.size, 0, none⟩ 3 = some v.arr := by rw [row?_below hb1 (by simp; omega)]; exact hTW
    have hH1 : w1.heap[hb]? = some (.cells Hash.zero.arr 38 (0, 0)) := by rw [hb1.block hb (by omega)]; exact hHW
    have hb01 : Below w.heap.size w w1 := hbW.trans (hb1.mono (by omega))
    have hs1 := hb1.size
    have ht1 : isTx w1 v t w1.heap.size := (ht.below hb01).mono hb01.size
    have hge : w.heap.size ≤ hb := by omega
    have hlt1 : hb < w1.heap.size := by omega
    have HH1 := Lib.hid hH1
    clear hW hhb hWs hHW hTW hbW hb1 hH1
    go_wp2_with (refine wpList_storeHash (.tmp 2) (.tmp 6) rfl rfl hb Hash.zero Hash.zero rfl rfl HH1.out ?_; intro wz hhz huz)
    refine bodyPost_ret (results_cell_row rfl _ _ hb 38 Hash.zero.arr (0, 0) _ rfl hhz Tryz.underlying38 rfl (by rw [size_Hash]; simp)) rfl ⟨by unfold idS; rw [if_neg H0.out], ?_⟩
    exact hb01.trans (huz.below (by omega) (fun i e => by have e2 : i = hb := e; omega))
end Go.Proofs.YtlkojkjeklblkaaGreat
