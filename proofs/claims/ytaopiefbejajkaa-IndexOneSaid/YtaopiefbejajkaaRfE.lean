/- The document's own form of numbers. The document's own forms of places and scripts. -/
import Derived.Test.YtaopiefbejajkaaNumE
import Derived.Test.YtaopiefbejajkaaTxD
import Derived.Test.YtaopiefbejajkaaBytes
import Derived.Test.YtaopiefbejajkaaTxJ
import Derived.Deep.RegionLaw
import Derived.Deep.AppendLies
import Derived.Deep.DeepCutAuto
import Derived.Deep.CutBlock
set_option linter.unusedSimpArgs false
set_option linter.unusedVariables false
namespace Go.Proofs.Ytaopiefbejajkaa
open Go.RowKit
theorem fits_ref (n : Int) (w : World) (h : OkNum n) : Calls Try.prog 152 #[.int .i64 n] w fun e w' => e = .returned (.bool true) ∧ w = w' := by
  obtain ⟨h0, h1⟩ := h
  have e1 : decide (0 ≤ n) = true := decide_eq_true h0
  have e2 : decide (n ≤ 4611686018427387904) = true := decide_eq_true h1
  go_enter Try.func152, Try.ntmps152
  go_wp2_with fail
  go_ret
  exact ⟨rfl, rfl⟩
set_option maxRecDepth 100000 in
set_option maxHeartbeats 1000000 in
theorem rput_small (n : Nat) (hn : n < 253) (w : World) : Calls Try.prog 124 #[.int .i64 n] w (RetBytes w (putS n)) := by
  have hf := fits_ref n w ⟨by omega, by omega⟩
  go_enter Try.func124, Try.ntmps124
  go_wp2_with (go_at_call 152; refine hf.mono ?_; rintro e w' ⟨rfl, rfl⟩)
  go_ret
  have hp : putS n = [UInt8.ofNat n] := by simp [putS, hn]
  rw [hp]
  refine ⟨⟨w.heap.size, 0, none⟩, 1, rfl, ?_, (Below.refl _ _).alloc (Nat.le_refl _) _⟩
  have := World.ownsRow_lit (e := 5) (size := 1) w #[.int .u8 (n : Int)] 1 (Nat.le_refl _) (by decide) rfl
  simpa [byteVs, byteV_ofNat, Nat.mod_eq_of_lt (show n < 256 by omega)] using this
theorem byte_at (n j : Nat) : byteVs [UInt8.ofNat (n / 256 ^ j)] = [.int .u8 ((n : Int) / 2 ^ (8 * j) % 256)] := by
  have e : (256 : Nat) ^ j = 2 ^ (8 * j) := by rw [Nat.pow_mul]
  simp only [byteVs, List.map_cons, List.map_nil, byteV_ofNat, e]
  congr 2
set_option maxRecDepth 100000 in
set_option maxHeartbeats 1000000 in
theorem rput_two (n : Nat) (hk : OkNum n) (t3 : decide ((n : Int) < 253) = false) (t4 : decide ((n : Int) < 65536) = true) (w : World) : Calls Try.prog 124 #[.int .i64 n] w (RetBytes w (253 :: leBytes 2 n)) := by
  obtain ⟨i0, hi0, hz0, hz1, hz2⟩ := info_parts Try.info5
  have hf := fits_ref n w hk
  have HK := Lib.hid hk
  clear hk
  have hown0 : w.ownsRow w.heap.size 5 1 (.slice none 0 0) 0 [] := World.ownsRow_nil _ _ _ _
  go_enter Try.func124, Try.ntmps124
  go_wp2_with (first | (go_at_call 152; refine hf.mono ?_; rintro e w' ⟨rfl, rfl⟩) | (at_builtin; refine wpList_append_own _ rfl _ _ 96 rfl w.heap.size 5 i0 (.int .u8 0) 1 1 Try.underlying96 hi0 hz0 hz1 hz2 rfl (by decide) (.slice none 0 0) 0 [] rfl (hown0.alloc _) ⟨w.heap.size, 0, none⟩ 1 1 [.int .u8 253] rfl rfl (cell_one_new _ _ _) (by simp [Value.oneCell']) (by decide) (by omega) (by simp) ?_; intro v0 w0 hown1 hgrow1 hnil1))
  have hb0 : Below w.heap.size w w0 := ((Below.refl _ _).alloc (Nat.le_refl _) _).grown hgrow1 (by simp) (fun k hk => by simp [Value.ownBlock] at hk)
  clear hown0 hgrow1 hnil1
  go_loopw [3, 5] (fun v i wr => ∃ j : Nat, j ≤ 2 ∧ i = .int .i64 j ∧ wr.ownsRow w.heap.size 5 1 v (1 + j) (byteVs (253 :: leBytes j n)) ∧ Below w.heap.size w wr) (fun _ i _ => 2 - (intOf i).toNat)
  case atStart => exact ⟨0, Nat.zero_le _, rfl, hown1, hb0⟩
  case round =>
    obtain ⟨j, hj, rfl, hown, hbw⟩ := hrel
    have hz := hbw.size
    clear t3 t4
    by_cases hlt : j < 2
    · have dlt : decide ((j : Int) < 2) = true := decide_eq_true (by omega)
      have hmx : 1 + j + 1 ≤ maxLen := by unfold maxLen; omega
      go_wp2_with (at_builtin; refine wpList_append_own _ rfl _ _ 96 rfl w.heap.size 5 i0 (.int .u8 0) 1 1 Try.underlying96 hi0 hz0 hz1 hz2 rfl (by decide) _ _ _ rfl (hown.alloc _) ⟨wr.heap.size, 0, none⟩ 1 1 [.int .u8 ((n : Int) / 2 ^ (8 * j) % 256)] rfl rfl (cell_one_new _ _ _) (by simp [Value.oneCell']) hmx (by omega) (by simp; omega) ?_)
      intro v' w4 hown4 hgrow4 hnil
      have hb4 : Below w.heap.size w w4 := (hbw.alloc hz _).grown hgrow4 (by simp; omega) (fun k hk => (hown.lt k hk).1)
      have hown5 : w4.ownsRow w.heap.size 5 1 v' (1 + (j + 1)) (byteVs (253 :: leBytes (j + 1) n)) := by
        rw [leBytes_succ, ← List.cons_append, byteVs_append, byte_at]
        exact hown4
      clear hown4 hgrow4 hown hnil
      go_wp2_with fail
      exact ⟨⟨j + 1, by omega, by go_num, hown5, hb4⟩, by simp [intOf]; omega⟩
    · have : j = 2 := by omega
      subst this
      go_wp2_with fail
      go_ret
      obtain ⟨a, c, hv, hc, hg⟩ := ownsRow_slice hown
      obtain ⟨g, rfl, -, -⟩ := hg (by omega)
      subst hv
      have hl : ∀ m : UInt8, (m :: leBytes 2 n).length = 1 + 2 := fun m => by simp [leBytes_length]
      exact ⟨⟨g, 0, none⟩, c, by rw [hl]; rfl, by rw [hl]; exact hown, hbw⟩
set_option maxRecDepth 100000 in
set_option maxHeartbeats 1000000 in
theorem rput_four (n : Nat) (hk : OkNum n) (t3 : decide ((n : Int) < 253) = false) (t4 : decide ((n : Int) < 65536) = false) (t5 : decide ((n : Int) < 4294967296) = true) (w : World) : Calls Try.prog 124 #[.int .i64 n] w (RetBytes w (254 :: leBytes 4 n)) := by
  obtain ⟨i0, hi0, hz0, hz1, hz2⟩ := info_parts Try.info5
  have hf := fits_ref n w hk
  have HK := Lib.hid hk
  clear hk
  have hown0 : w.ownsRow w.heap.size 5 1 (.slice none 0 0) 0 [] := World.ownsRow_nil _ _ _ _
  go_enter Try.func124, Try.ntmps124
  go_wp2_with (first | (go_at_call 152; refine hf.mono ?_; rintro e w' ⟨rfl, rfl⟩) | (at_builtin; refine wpList_append_own _ rfl _ _ 96 rfl w.heap.size 5 i0 (.int .u8 0) 1 1 Try.underlying96 hi0 hz0 hz1 hz2 rfl (by decide) (.slice none 0 0) 0 [] rfl (hown0.alloc _) ⟨w.heap.size, 0, none⟩ 1 1 [.int .u8 254] rfl rfl (cell_one_new _ _ _) (by simp [Value.oneCell']) (by decide) (by omega) (by simp) ?_; intro v0 w0 hown1 hgrow1 hnil1))
  have hb0 : Below w.heap.size w w0 := ((Below.refl _ _).alloc (Nat.le_refl _) _).grown hgrow1 (by simp) (fun k hk => by simp [Value.ownBlock] at hk)
  clear hown0 hgrow1 hnil1
  go_loopw [3, 5] (fun v i wr => ∃ j : Nat, j ≤ 4 ∧ i = .int .i64 j ∧ wr.ownsRow w.heap.size 5 1 v (1 + j) (byteVs (254 :: leBytes j n)) ∧ Below w.heap.size w wr) (fun _ i _ => 4 - (intOf i).toNat)
  case atStart => exact ⟨0, Nat.zero_le _, rfl, hown1, hb0⟩
  case round =>
    obtain ⟨j, hj, rfl, hown, hbw⟩ := hrel
    have hz := hbw.size
    clear t3 t4 t5
    by_cases hlt : j < 4
    · have dlt : decide ((j : Int) < 4) = true := decide_eq_true (by omega)
      have hmx : 1 + j + 1 ≤ maxLen := by unfold maxLen; omega
      go_wp2_with (at_builtin; refine wpList_append_own _ rfl _ _ 96 rfl w.heap.size 5 i0 (.int .u8 0) 1 1 Try.underlying96 hi0 hz0 hz1 hz2 rfl (by decide) _ _ _ rfl (hown.alloc _) ⟨wr.heap.size, 0, none⟩ 1 1 [.int .u8 ((n : Int) / 2 ^ (8 * j) % 256)] rfl rfl (cell_one_new _ _ _) (by simp [Value.oneCell']) hmx (by omega) (by simp; omega) ?_)
      intro v' w4 hown4 hgrow4 hnil
      have hb4 : Below w.heap.size w w4 := (hbw.alloc hz _).grown hgrow4 (by simp; omega) (fun k hk => (hown.lt k hk).1)
      have hown5 : w4.ownsRow w.heap.size 5 1 v' (1 + (j + 1)) (byteVs (254 :: leBytes (j + 1) n)) := by
        rw [leBytes_succ, ← List.cons_append, byteVs_append, byte_at]
        exact hown4
      clear hown4 hgrow4 hown hnil
      go_wp2_with fail
      exact ⟨⟨j + 1, by omega, by go_num, hown5, hb4⟩, by simp [intOf]; omega⟩
    · have : j = 4 := by omega
      subst this
      go_wp2_with fail
      go_ret
      obtain ⟨a, c, hv, hc, hg⟩ := ownsRow_slice hown
      obtain ⟨g, rfl, -, -⟩ := hg (by omega)
      subst hv
      have hl : ∀ m : UInt8, (m :: leBytes 4 n).length = 1 + 4 := fun m => by simp [leBytes_length]
      exact ⟨⟨g, 0, none⟩, c, by rw [hl]; rfl, by rw [hl]; exact hown, hbw⟩
set_option maxRecDepth 100000 in
set_option maxHeartbeats 1000000 in
theorem rput_eight (n : Nat) (hk : OkNum n) (t3 : decide ((n : Int) < 253) = false) (t4 : decide ((n : Int) < 65536) = false) (t5 : decide ((n : Int) < 4294967296) = false) (w : World) : Calls Try.prog 124 #[.int .i64 n] w (RetBytes w (255 :: leBytes 8 n)) := by
  obtain ⟨i0, hi0, hz0, hz1, hz2⟩ := info_parts Try.info5
  have hf := fits_ref n w hk
  have HK := Lib.hid hk
  clear hk
  have hown0 : w.ownsRow w.heap.size 5 1 (.slice none 0 0) 0 [] := World.ownsRow_nil _ _ _ _
  go_enter Try.func124, Try.ntmps124
  go_wp2_with (first | (go_at_call 152; refine hf.mono ?_; rintro e w' ⟨rfl, rfl⟩) | (at_builtin; refine wpList_append_own _ rfl _ _ 96 rfl w.heap.size 5 i0 (.int .u8 0) 1 1 Try.underlying96 hi0 hz0 hz1 hz2 rfl (by decide) (.slice none 0 0) 0 [] rfl (hown0.alloc _) ⟨w.heap.size, 0, none⟩ 1 1 [.int .u8 255] rfl rfl (cell_one_new _ _ _) (by simp [Value.oneCell']) (by decide) (by omega) (by simp) ?_; intro v0 w0 hown1 hgrow1 hnil1))
  have hb0 : Below w.heap.size w w0 := ((Below.refl _ _).alloc (Nat.le_refl _) _).grown hgrow1 (by simp) (fun k hk => by simp [Value.ownBlock] at hk)
  clear hown0 hgrow1 hnil1
  go_loopw [3, 5] (fun v i wr => ∃ j : Nat, j ≤ 8 ∧ i = .int .i64 j ∧ wr.ownsRow w.heap.size 5 1 v (1 + j) (byteVs (255 :: leBytes j n)) ∧ Below w.heap.size w wr) (fun _ i _ => 8 - (intOf i).toNat)
  case atStart => exact ⟨0, Nat.zero_le _, rfl, hown1, hb0⟩
  case round =>
    obtain ⟨j, hj, rfl, hown, hbw⟩ := hrel
    have hz := hbw.size
    clear t3 t4 t5
    by_cases hlt : j < 8
    · have dlt : decide ((j : Int) < 8) = true := decide_eq_true (by omega)
      have hmx : 1 + j + 1 ≤ maxLen := by unfold maxLen; omega
      go_wp2_with (at_builtin; refine wpList_append_own _ rfl _ _ 96 rfl w.heap.size 5 i0 (.int .u8 0) 1 1 Try.underlying96 hi0 hz0 hz1 hz2 rfl (by decide) _ _ _ rfl (hown.alloc _) ⟨wr.heap.size, 0, none⟩ 1 1 [.int .u8 ((n : Int) / 2 ^ (8 * j) % 256)] rfl rfl (cell_one_new _ _ _) (by simp [Value.oneCell']) hmx (by omega) (by simp; omega) ?_)
      intro v' w4 hown4 hgrow4 hnil
      have hb4 : Below w.heap.size w w4 := (hbw.alloc hz _).grown hgrow4 (by simp; omega) (fun k hk => (hown.lt k hk).1)
      have hown5 : w4.ownsRow w.heap.size 5 1 v' (1 + (j + 1)) (byteVs (255 :: leBytes (j + 1) n)) := by
        rw [leBytes_succ, ← List.cons_append, byteVs_append, byte_at]
        exact hown4
      clear hown4 hgrow4 hown hnil
      go_wp2_with fail
      exact ⟨⟨j + 1, by omega, by go_num, hown5, hb4⟩, by simp [intOf]; omega⟩
    · have : j = 8 := by omega
      subst this
      go_wp2_with fail
      go_ret
      obtain ⟨a, c, hv, hc, hg⟩ := ownsRow_slice hown
      obtain ⟨g, rfl, -, -⟩ := hg (by omega)
      subst hv
      have hl : ∀ m : UInt8, (m :: leBytes 8 n).length = 1 + 8 := fun m => by simp [leBytes_length]
      exact ⟨⟨g, 0, none⟩, c, by rw [hl]; rfl, by rw [hl]; exact hown, hbw⟩
theorem put_ref (n : Int) (hn : OkNum n) (w : World) : Calls Try.prog 124 #[.int .i64 n] w (RetBytes w (putS n.toNat)) := by
  have hk := hn
  obtain ⟨h0, h1⟩ := hn
  obtain ⟨m, rfl⟩ := Int.eq_ofNat_of_zero_le h0
  rw [Int.toNat_natCast]
  by_cases c1 : m < 253
  · exact rput_small m c1 w
  have t3 : decide ((m : Int) < 253) = false := decide_eq_false (by omega)
  by_cases c2 : m < 65536
  · have := rput_two m hk t3 (decide_eq_true (by omega)) w
    have e : putS m = 253 :: leBytes 2 m := by unfold putS; rw [if_neg c1, if_pos c2]
    rw [e]; exact this
  by_cases c3 : m < 4294967296
  · have := rput_four m hk t3 (decide_eq_false (by omega)) (decide_eq_true (by omega)) w
    have e : putS m = 254 :: leBytes 4 m := by unfold putS; rw [if_neg c1, if_neg c2, if_pos c3]
    rw [e]; exact this
  · have := rput_eight m hk t3 (decide_eq_false (by omega)) (decide_eq_false (by omega)) w
    have e : putS m = 255 :: leBytes 8 m := by unfold putS; rw [if_neg c1, if_neg c2, if_neg c3]
    rw [e]; exact this
end Go.Proofs.Ytaopiefbejajkaa
namespace Go.Proofs.Ytaopiefbejajkaa
open Go.RowKit
theorem info_u8' : ∃ i, Try.prog.info? 5 = some i ∧ i.zero = some (.int .u8 0) ∧ i.size = 1 ∧ i.bytes = 1 := by
  have h : (Try.prog.info? 5).map (fun i => (i.zero, i.size, i.bytes)) = some (some (.int .u8 0), 1, 1) := by kernel_rfl
  obtain ⟨i0, hi, hz0, hz1, hz2⟩ := info_parts h
  exact ⟨i0, hi, hz0, hz1, hz2⟩
/-- Cells of a slice that has bytes for its own. -/
theorem own_news {w : World} {base : Nat} {a : Addr} {n c : Nat} {l : List UInt8} (h : w.ownsRow base 5 1 (.slice (some a) n c) n (byteVs l)) : n = l.length ∧ ∀ j u, (byteVs l)[j]? = some u → w.cell? (a.add j) = some u := by
  have hn : n = l.length := by have := h.1; rw [byteVs_length] at this; omega
  refine ⟨hn, fun j u hu => ?_⟩
  rcases h.2 with ⟨hv, h0⟩ | ⟨g, cap, cur, hv, hg, hh, hnc, hm, hsz, ht⟩
  · cases hv
  · injection hv with e1 e2 e3
    cases e1
    have e : (⟨g, 0, none⟩ : Addr).add j = ⟨g, j, none⟩ := by unfold Addr.add; split <;> simp_all
    rw [e, (cells_known hh).1, ← Array.getElem?_toList]
    rw [← ht, List.getElem?_take] at hu
    split at hu
    · exact hu
    · cases hu
/-- Bytes put behind bytes of one's own: as an equation. -/
theorem own_app {w : World} {base : Nat} {v : Value} {n : Nat} {l : List UInt8} (h : w.ownsRow base 5 1 v n (byteVs l)) {ad : Addr} {k c : Nat} {m : List UInt8} (hk : k = m.length) (hnews : ∀ j u, (byteVs m)[j]? = some u → w.cell? (ad.add j) = some u) (hb : base ≤ w.heap.size) (hl : n + k ≤ 140737488355328) :
    ∃ v' w', (∀ ty, (Builtin.append_ #[96, 96] ty #[v, .slice (some ad) k c]).run Try.prog w = .ok v' w') ∧ w'.ownsRow base 5 1 v' (n + k) (byteVs (l ++ m)) ∧ Upd w w' (fun j => v.ownBlock = some j) ∧ (∀ j, v'.ownBlock = some j → v.ownBlock = some j ∨ w.heap.size ≤ j) := by
  obtain ⟨i0, hi0, hz0, hz1, hz2⟩ := info_u8'
  subst hk
  obtain ⟨v', w', hr, h2, h3, h4, h5⟩ := run_append_own_at (P := Try.prog) w base 96 0 5 i0 (.int .u8 0) 1 1 Try.underlying96 hi0 hz0 hz1 hz2 rfl (by decide) v n (byteVs l) h ad m.length c (byteVs m) (by rw [byteVs_length]; omega) hnews (one_byteVs m) (by unfold maxLen; omega) (by omega) hb
  refine ⟨v', w', fun ty => hr, by rw [byteVs_append]; exact h2, Upd.grown h3, fun j e => ?_⟩
  rcases h5 with e2 | e2
  · exact .inl (e2 ▸ e)
  · rw [e2] at e; cases e; exact .inr (Nat.le_refl _)
/-- A step of a region that draws: an append whose run is known. -/
theorem step_app {P : Program} {w : World} {ops : Array Oper} {o : Oper} {a : Act} {K : Act → World → Prop} {Q : Exit → Act → World → Prop} {E : Prop} (hgd : o.guard = none) (s x : Operand) (t tx : TypeId)
    (ho : o.op = .call { callee := .builtin .append, args := #[s, x], argTypes := #[t, tx] }) (v u : Value) (hs : a.eval s = v) (hx : a.eval x = u) {v' : Value} {w' : World} (hr : (Builtin.append_ #[t, tx] o.type #[v, u]).run P w = .ok v' w')
    (hK : K (a.put o.dst v') w') : if Region.wanted o (yielded ops a.tmps) = true then Oper.wp P o a w K Q else E := by
  have hw : Region.wanted o (yielded ops a.tmps) = true := by simp [Region.wanted, hgd]
  rw [if_pos hw]
  unfold Oper.wp execOp
  simp only [ho, resolve, invoke, builtin, Sem.run_bind, Sem.run_pure, Result.andThen_ok, List.map_toArray, List.map_cons, List.map_nil, hs, hx, hr]
  exact hK
theorem wpList_run {P : Program} {w : World} {ops : Array Oper} {rest : List Oper} {o : Oper} {a : Act} {Q : Exit → Act → World → Prop} (hgd : o.guard = none) (s x : Operand) (t tx : TypeId)
    (ho : o.op = .call { callee := .builtin .append, args := #[s, x], argTypes := #[t, tx] }) (v u : Value) (hs : a.eval s = v) (hx : a.eval x = u) {v' : Value} {w' : World} (hr : (Builtin.append_ #[t, tx] o.type #[v, u]).run P w = .ok v' w')
    (hK : wpList P ops Q rest (a.put o.dst v') w') : wpList P ops Q (o :: rest) a w := by
  refine wpList_plain hgd fun K' hK' => ?_
  unfold Oper.wp execOp
  simp only [ho, resolve, invoke, builtin, Sem.run_bind, Sem.run_pure, Result.andThen_ok, List.map_toArray, List.map_cons, List.map_nil, hs, hx, hr]
  exact hK' _ _ hK
theorem retBytes_of {w w' : World} {v : Value} {n : Nat} {l : List UInt8} (h : w'.ownsRow w.heap.size 5 1 v n (byteVs l)) (hb : Below w.heap.size w w') (hn : n ≠ 0) : ∃ a c, v = .slice (some a) l.length c ∧ w'.ownsRow w.heap.size 5 1 (.slice (some a) l.length c) l.length (byteVs l) ∧ Below w.heap.size w w' := by
  have hnl : n = l.length := by have := h.1; rw [byteVs_length] at this; omega
  subst hnl
  obtain ⟨a, c, rfl, hc, hg⟩ := ownsRow_slice h
  obtain ⟨g, rfl, _, _⟩ := hg hn
  exact ⟨_, c, rfl, h, hb⟩
theorem own_base {w : World} {base : Nat} {e : TypeId} {sz : Nat} {v : Value} {n : Nat} {l : List Value} (h : w.ownsRow base e sz v n l) (k : Nat) (hk : v.ownBlock = some k) : base ≤ k := by
  rcases h.2 with ⟨hv, h0⟩ | ⟨g, cap, cur, hv, hg, _⟩
  · rw [hv] at hk; cases hk
  · rw [hv] at hk; cases hk; exact hg
/-- The end of a function that lays bytes behind bytes. -/
theorem bytes_end {w w2 w3 : World} {v1 v3 : Value} {n : Nat} {l : List UInt8} (hb : Below w.heap.size w w2) (h1 : ∀ k, v1.ownBlock = some k → w.heap.size ≤ k) (ho : w3.ownsRow w.heap.size 5 1 v3 n (byteVs l)) (hu : Upd w2 w3 (fun j => v1.ownBlock = some j)) (hn : n ≠ 0) (l' : List UInt8) (hl : l = l') : RetBytes w l' (.returned v3) w3 := by
  subst hl
  obtain ⟨a, c, rfl, h2, h3⟩ := retBytes_of ho (hb.trans (hu.below hb.size h1)) hn
  exact ⟨a, c, rfl, h2, h3⟩
set_option maxRecDepth 100000 in
set_option maxHeartbeats 1000000 in
theorem point_ref (q : Outpoint) (hq : OkNum q.n) (w : World) : Calls Try.prog 125 #[.agg q.arr] w (RetBytes w (q.tx.l ++ putS q.n.toNat)) := by
  obtain ⟨W, hW⟩ : ∃ W, W = w.alloc (.cells q.arr 32) := ⟨_, rfl⟩
  have hbW : Below w.heap.size w W := hW ▸ (Below.refl _ _).alloc (Nat.le_refl _) _
  have g1 : W.heap[w.heap.size]? = some (.cells q.arr 32 (0, 0)) := by rw [hW]; exact heap_alloc_new w _
  have hwl : w.heap.size < W.heap.size := (cells_known g1).2.2
  have hS0 : W.drew.cell? ⟨w.heap.size, 32, none⟩ = some (.int .i64 q.n) := by rw [(cells_known (w := W.drew) g1).1]; exact Outpoint.arr_32 q
  have hS2 : W.cell? ⟨w.heap.size, 32, none⟩ = some (.int .i64 q.n) := hS0
  have hc0 := (cells_known (w := W.drew) g1).1
  obtain ⟨X, hX⟩ : ∃ X, X = (W.alloc (.cells #[] 5)).drew := ⟨_, rfl⟩
  have hbX : Below W.heap.size W X := hX ▸ ((Below.refl _ _).alloc (Nat.le_refl _) _).drew
  have hownX : X.ownsRow w.heap.size 5 1 (.slice (some ⟨W.heap.size, 0, none⟩) 0 0) 0 (byteVs []) := by
    rw [hX]
    exact ⟨by simp [byteVs], .inr ⟨W.heap.size, 0, #[], rfl, Nat.le_of_lt hwl, heap_alloc_new W _, Nat.le_refl _, Nat.zero_le _, by simp, by simp [byteVs]⟩⟩
  have hgX : X.heap[w.heap.size]? = some (.cells q.arr 32 (0, 0)) := (hbX.block _ hwl).trans g1
  obtain ⟨v1, w1, hr1, ho1, hu1, hn1⟩ := own_app hownX (ad := ⟨w.heap.size, 0, none⟩) (k := 32) (c := 32) (m := q.tx.l) q.tx.len.symm (fun j u hu => by
    have e : (⟨w.heap.size, 0, none⟩ : Addr).add j = ⟨w.heap.size, j, none⟩ := by unfold Addr.add; split <;> simp_all
    rw [e, (cells_known hgX).1]
    have hj : j < 32 := by have := (List.getElem?_eq_some_iff.1 hu).1; rw [byteVs_length, q.tx.len] at this; exact this
    show (q.tx.arr.toList ++ [Value.int .i64 q.n]).toArray[j]? = some u
    rw [List.getElem?_toArray, List.getElem?_append_left (by simp; omega)]
    simpa [Hash.arr, byteVs] using hu) (Nat.le_trans hbW.size hbX.size) (by omega)
  have hS1 : w1.cell? ⟨w.heap.size, 32, none⟩ = some (.int .i64 q.n) := by
    have hne : (Value.slice (some ⟨W.heap.size, 0, none⟩) 0 0).ownBlock ≠ some w.heap.size := by simp [Value.ownBlock]; omega
    rw [(cells_known ((hu1.block _ (Nat.lt_of_lt_of_le hwl hbX.size) hne).trans hgX)).1]; exact Outpoint.arr_32 q
  have hp := put_ref q.n hq w1
  have hb1 : Below w.heap.size w w1 := (hbW.trans (hbX.mono hbW.size)).trans (hu1.below (Nat.le_trans hbW.size hbX.size) (fun k e => by cases e; exact Nat.le_of_lt hwl))
  have HO := Lib.hid (And.intro ho1 hb1)
  have hrX := hr1
  rw [hX] at hrX
  clear hX hbX hownX hgX hr1 ho1 hu1 hn1 hb1 hc0 g1
  go_enter Try.func125, Try.ntmps125
  go_upto_region 1 with fail
  rw [← hW]
  clear hW
  go_region_law (first | (refine step_app rfl (.tmp 3) (.tmp 5) _ _ rfl _ _ rfl rfl (hrX _) ?_) | (refine step_app rfl (.tmp 6) (.tmp 9) _ _ rfl _ _ rfl rfl (hr3 _) ?_) | (go_simp; go_at_call 124; refine hp.mono ?_; rintro e w2 ⟨a2, c2, rfl, ho2, hb2⟩; obtain ⟨v3, w3, hr3, ho3, hu3, hn3⟩ := own_app (c := c2) (ownsRow_below HO.out.1 hb2) (own_news ho2).1 (own_news ho2).2 (Nat.le_trans HO.out.2.size hb2.size) (by have := putS_le q.n.toNat; omega)))
  all_goals
    go_wp2_with fail
    go_ret
    exact bytes_end (HO.out.2.trans (hb2.mono HO.out.2.size)) (own_base HO.out.1) ho3 hu3 (by omega) _ (by simp)
theorem hash_news {X : World} {b off : Nat} {cs : Array Value} {ty : TypeId} (h : Hash) (hg : X.heap[b]? = some (.cells cs ty (0, 0))) (hc : ∀ j, j < 32 → cs[off + j]? = h.arr[j]?) : ∀ j u, (byteVs h.l)[j]? = some u → X.cell? ((⟨b, off, none⟩ : Addr).add j) = some u := by
  intro j u hu
  have e : (⟨b, off, none⟩ : Addr).add j = ⟨b, off + j, none⟩ := by unfold Addr.add; split <;> simp_all
  have hj : j < 32 := by have := (List.getElem?_eq_some_iff.1 hu).1; rw [byteVs_length, h.len] at this; exact this
  rw [e, (cells_known hg).1, hc j hj]
  simpa [Hash.arr, byteVs] using hu
set_option maxRecDepth 100000 in
set_option maxHeartbeats 1000000 in
theorem scripted_ref (s : Script) (hs : ∀ x ∈ s.ints, OkNum x) (w : World) : Calls Try.prog 126 #[.agg s.arr] w (RetBytes w (encN s.ints ++ s.hash.l)) := by
  obtain ⟨W, hW⟩ : ∃ W, W = w.alloc (.cells s.arr 34) := ⟨_, rfl⟩
  have hbW : Below w.heap.size w W := hW ▸ (Below.refl _ _).alloc (Nat.le_refl _) _
  have g1 : W.heap[w.heap.size]? = some (.cells s.arr 34 (0, 0)) := by rw [hW]; exact heap_alloc_new w _
  have hwl : w.heap.size < W.heap.size := (cells_known g1).2.2
  obtain ⟨V, hV⟩ : ∃ V, V = W.alloc (.cells (s.ints.map (Value.int .i64)).toArray 3) := ⟨_, rfl⟩
  have hbV : Below W.heap.size W V := hV ▸ (Below.refl _ _).alloc (Nat.le_refl _) _
  have g2 : V.heap[W.heap.size]? = some (.cells (s.ints.map (Value.int .i64)).toArray 3 (0, 0)) := by rw [hV]; exact heap_alloc_new W _
  have hvl : W.heap.size < V.heap.size := (cells_known g2).2.2
  have g1V : V.heap[w.heap.size]? = some (.cells s.arr 34 (0, 0)) := (hbV.block _ hwl).trans g1
  have hcells : W.cell? ⟨w.heap.size, 0, none⟩ = some (.int .i64 s.kind) ∧ W.cell? ⟨w.heap.size, 1, none⟩ = some (.int .i64 s.key) ∧ W.cell? ⟨w.heap.size, 2, none⟩ = some (.int .i64 s.other) ∧ W.cell? ⟨w.heap.size, 3, none⟩ = some (.int .i64 s.rev) ∧ W.cell? ⟨w.heap.size, 4, none⟩ = some (.int .i64 s.delay) ∧ W.cell? ⟨w.heap.size, 5, none⟩ = some (.int .i64 s.expiry) := by
    refine ⟨?_, ?_, ?_, ?_, ?_, ?_⟩ <;> rw [(cells_known g1).1]
    · exact Script.arr_0 s
    · exact Script.arr_1 s
    · exact Script.arr_2 s
    · exact Script.arr_3 s
    · exact Script.arr_4 s
    · exact Script.arr_5 s
  obtain ⟨q0, q1, q2, q3, q4, q5⟩ := hcells
  have HB := Lib.hid (hbW.trans (hbV.mono (Nat.le_of_lt hwl)))
  have HG := Lib.hid (And.intro g1V g2)
  have HS := Lib.hid hs
  have hlist : (#[.int .i64 s.kind, .int .i64 s.key, .int .i64 s.other, .int .i64 s.rev, .int .i64 s.delay, .int .i64 s.expiry] : Array Value) = (s.ints.map (Value.int .i64)).toArray := rfl
  clear g1 g2 g1V hbW hbV hs
  go_enter Try.func126, Try.ntmps126
  go_upto_region 1 with fail
  rw [← hW]
  clear hW
  go_wp2_with fail
  rw [← hV]
  clear hV q0 q1 q2 q3 q4 q5 hlist
  go_loopw [4, 5] (fun v i wr => ∃ k : Nat, k ≤ 6 ∧ i = .int .i64 k ∧ wr.ownsRow V.heap.size 5 1 v (encN (s.ints.take k)).length (byteVs (encN (s.ints.take k))) ∧ Below V.heap.size V wr) (fun _ i _ => 6 - (intOf i).toNat)
  case atStart => exact ⟨0, by omega, rfl, World.ownsRow_nil _ _ _ _, Below.refl _ _⟩
  case round =>
    obtain ⟨k, hk, rfl, ho, hbr⟩ := hrel
    by_cases hlt : k < 6
    · have hlt' : k < s.ints.length := hlt
      have e1 : decide ((k : Int) < 6) = true := decide_eq_true (by omega)
      have hcell : wr.cell? ⟨W.heap.size, k, none⟩ = some (.int .i64 s.ints[k]) := by
        rw [(cells_known ((hbr.block _ hvl).trans HG.out.2)).1]
        simp [hlt']
      have hp := put_ref s.ints[k] (HS.out _ (List.getElem_mem hlt')) wr
      have hle := encN_le (s.ints.take k)
      have htk : (s.ints.take k).length = k := by simp; omega
      have hnk := encN_take hlt'
      obtain ⟨x, hx⟩ : ∃ x, x = s.ints[k] := ⟨_, rfl⟩
      rw [← hx] at hcell hp hnk
      have HN := Lib.hid hnk
      have HL := Lib.hid (show (encN (s.ints.take k)).length ≤ 54 by omega)
      clear hx hnk hle htk hlt'
      go_wp2_with fail
      refine hp.mono ?_
      rintro e w2 ⟨a2, c2, rfl, ho2, hb2⟩
      have hsz : V.heap.size ≤ w2.heap.size := Nat.le_trans hbr.size hb2.size
      obtain ⟨v3, w3, hr3, ho3, hu3, hn3⟩ := own_app (c := c2) (ownsRow_below ho hb2) (own_news ho2).1 (own_news ho2).2 hsz (by have := putS_le x.toNat; have := HL.out; omega)
      have HR := Lib.hid (hr3 96)
      go_wp2_with (at_builtin; refine wpList_run rfl _ _ _ _ rfl _ _ rfl rfl HR.out ?_)
      refine ⟨⟨k + 1, by omega, by go_num, ?_, hbr.trans ((hb2.mono hbr.size).trans (hu3.below (Nat.le_trans hbr.size hb2.size) (own_base ho)))⟩, by simp [intOf]; omega⟩
      rw [HN.out, List.length_append]
      exact ho3
    · obtain rfl : k = 6 := by omega
      have hbw := HB.out.trans (hbr.mono HB.out.size)
      obtain ⟨v3, w3, hr3, ho3, hu3, hn3⟩ := own_app ho (ad := ⟨w.heap.size, 6, none⟩) (k := 32) (c := 32) (m := s.hash.l) s.hash.len.symm (hash_news s.hash ((hbr.block _ (Nat.lt_trans hwl hvl)).trans HG.out.1) (fun j hj => by
        show ([Value.int .i64 s.kind, Value.int .i64 s.key, Value.int .i64 s.other, Value.int .i64 s.rev, Value.int .i64 s.delay, Value.int .i64 s.expiry] ++ s.hash.arr.toList).toArray[6 + j]? = _
        rw [List.getElem?_toArray, List.getElem?_append_right (by simp)]
        simp)) hbr.size (by have := encN_le (s.ints.take 6); have : (s.ints.take 6).length = 6 := rfl; omega)
      have HR := Lib.hid (hr3 96)
      have HF := Lib.hid (And.intro ho3 hu3)
      have HO := Lib.hid ho
      have HW := Lib.hid hbw
      have hb5 : w.heap.size ≤ V.heap.size := HB.out.size
      clear hr3 ho3 hu3 hn3 ho hbw hbr hk hlt
      go_wp2_with (at_builtin; refine wpList_run rfl _ _ _ _ rfl _ _ rfl rfl HR.out ?_)
      go_ret
      exact bytes_end HW.out (fun k hk => Nat.le_trans hb5 (own_base HO.out k hk)) (HF.out.1.mono hb5) HF.out.2 (by omega) _ (by rw [show s.ints.take 6 = s.ints from rfl])
end Go.Proofs.Ytaopiefbejajkaa
