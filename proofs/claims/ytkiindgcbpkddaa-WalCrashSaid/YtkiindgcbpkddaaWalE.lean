/- Bytes that lie in a zone; a file's deeds at a zone; bytes compared, put one behind the other, a record's sum and frame. Package num: the number that bytes begin with. Bytes put one behind the other; a record's sum; a record as it stands in the file; records in memory of their own. A record's sum; a record as it stands in the file. Labels in a scope, one that is jumped back to and one forward; lists of records in memory; records in memory of their own. -/
import Derived.Test.YtkiindgcbpkddaaFileK
import Derived.Test.YtkiindgcbpkddaaConv
import Derived.Test.YtkiindgcbpkddaaWalP
import Derived.Test.YtkiindgcbpkddaaRefQ
import Derived.Lib.AppendZeros
import Derived.Test.YtkiindgcbpkddaaSlc
import Derived.ScopeJumps
set_option linter.unusedSimpArgs false
set_option linter.unusedVariables false
namespace Go.Proofs.Ytkiindgcbpkddaa
open Go.RowKit
/-- A slice that reads as bytes, all of them in the zone. -/
def bytesZ (w : World) (Z : Nat → Prop) (v : Sl) (l : List UInt8) : Prop := v.n = l.length ∧ v.n ≤ v.c ∧ (l ≠ [] → ∃ b off, v.a = some ⟨b, off, none⟩ ∧ Z b ∧ b < w.heap.size ∧ ∀ k (h : k < l.length), w.cell? ⟨b, off + k, none⟩ = some (byteV l[k]))
section
variable {w w' : World} {Z Y S : Nat → Prop} {v : Sl} {l : List UInt8}
theorem bytesZ.at (h : bytesZ w Z v l) : bytesAt w v l w.heap.size := ⟨h.1, fun hl => by
  obtain ⟨b, off, ha, hz, hb, hc⟩ := h.2.2 hl
  exact ⟨b, off, ha, hb, hc⟩⟩
theorem bytesZ.upd (h : bytesZ w Z v l) (hu : Upd w w' S) (hs : ∀ k, Z k → k < w.heap.size → ¬ S k) : bytesZ w' Z v l := ⟨h.1, h.2.1, fun hl => by
  obtain ⟨b, off, ha, hz, hb, hc⟩ := h.2.2 hl
  exact ⟨b, off, ha, hz, Nat.lt_of_lt_of_le hb hu.size, fun k hk => (hu.cell hb (hs b hz hb) _).trans (hc k hk)⟩⟩
theorem bytesZ.keep (h : bytesZ w Z v l) (hb : Below w.heap.size w w') : bytesZ w' Z v l := h.upd (S := fun _ => False) (Upd.of_below hb _) (fun _ _ _ hf => hf)
theorem bytesZ.zone (h : bytesZ w Z v l) (hY : ∀ k, k < w.heap.size → Z k → Y k) : bytesZ w Y v l := ⟨h.1, h.2.1, fun hl => by
  obtain ⟨b, off, ha, hz, hb, hc⟩ := h.2.2 hl
  exact ⟨b, off, ha, hY b hb hz, hb, hc⟩⟩
theorem bytesAt.z (h : bytesAt w v l w.heap.size) (hc : v.n ≤ v.c) : bytesZ w (fun _ => True) v l := ⟨h.1, hc, fun hl => by
  obtain ⟨b, off, ha, hb, hc⟩ := h.2 hl
  exact ⟨b, off, ha, trivial, hb, hc⟩⟩
theorem ownB.z (h : ownB w Z v l) : bytesZ w Z v l := ⟨h.1, h.2.1, fun hl => by
  obtain ⟨k, hk⟩ : ∃ k, k < l.length := ⟨0, List.length_pos_iff.2 hl⟩
  obtain ⟨g, ha, _, hz, hg, hc⟩ := h.cellAt hk
  exact ⟨g, 0, ha, hz, hg, fun k hk => by rw [Nat.zero_add]; exact hc k hk⟩⟩
theorem bytesZ_nil (w : World) (Z : Nat → Prop) : bytesZ w Z ⟨none, 0, 0⟩ [] := ⟨rfl, Nat.le_refl _, fun h => absurd rfl h⟩
theorem src_ok {B : Nat} (h : bytesAt w v l B) : v.a ≠ none ∨ v = ⟨none, 0, v.c⟩ := by
  obtain ⟨a, n, c⟩ := v
  cases a with
  | some a => exact .inl (by simp)
  | none =>
    refine .inr ?_
    have hl : l = [] := by
      by_cases hl : l = []
      · exact hl
      · obtain ⟨b, off, e, _⟩ := h.2 hl
        cases e
    have hn : n = 0 := by rw [show n = l.length from h.1, hl]; rfl
    rw [hn]
theorem row_bytes {base : Nat} {a : Addr} {c : Nat} (h : w.ownsRow base 5 1 (.slice (some a) l.length c) l.length (byteVs l)) : bytesZ w (fun k => base ≤ k) ⟨some a, l.length, c⟩ l := by
  rcases h.2 with ⟨e, _⟩ | ⟨g, cap, cur, e, hg, hh, hn, hm, hs, ht⟩
  · cases e
  · injection e with e1 e2 e3
    injection e1 with e1
    subst e1 e3
    refine ⟨rfl, hn, fun hl => ⟨g, 0, rfl, hg, (cells_known hh).2.2, fun k hk => ?_⟩⟩
    rw [(cells_known hh).1, Nat.zero_add]
    have h2 : (cur.toList.take (l.length * 1))[k]? = (byteVs l)[k]? := by rw [ht]
    rw [List.getElem?_take, if_pos (by omega), byteVs_get hk] at h2
    simpa using h2
/-- A part of it. -/
theorem bytesZ.part (h : bytesZ w Z v l) (i j : Nat) (hij : i ≤ j) (hj : j ≤ l.length) :
    bytesZ w Z ⟨if v.c = i then v.a else v.a.map (fun a => ⟨a.block, a.off + i, a.spot⟩), j - i, v.c - i⟩ ((l.drop i).take (j - i)) := by
  obtain ⟨h1, h2, h3⟩ := h
  refine ⟨by simp; omega, by simp only; omega, fun hne => ?_⟩
  have hlt : i < j := by
    rcases Nat.lt_or_ge i j with g | g
    · exact g
    · exact absurd (by rw [show j - i = 0 by omega]; rfl) hne
  obtain ⟨b, off, ha, hz, hb, hc⟩ := h3 (by intro e; rw [e] at hj; simp at hj; omega)
  refine ⟨b, off + i, by simp only; rw [if_neg (by omega), ha]; rfl, hz, hb, fun k hk => ?_⟩
  simp only [List.length_take, List.length_drop] at hk
  rw [Nat.add_assoc, hc (i + k) (by omega)]
  simp
end
/-! ### files at a zone: what comes behind is in the zone or new -/
section
variable {w : World} {Z : Nat → Prop} {p : Nat} {M : FsM}
def more (Z : Nat → Prop) (w : World) (k : Nat) : Prop := Z k ∨ w.heap.size ≤ k
theorem more_fr (Z : Nat → Prop) (w : World) : Fr (more Z w) w := fun k hk => .inr hk
theorem fsAt.more (h : fsAt w Z p M) : fsAt w (more Z w) p M := h.zone (fun k _ hz => .inl hz)
theorem more_upd {w' : World} (h : Zb (more Z w) w w') : Upd w w' Z := h.mono (fun k hk hz => hz.resolve_right (by omega))
theorem append_fsZ (s : Nm) (v : Sl) (m : List UInt8) (h : fsAt w Z p M) (hM : M.small) (hv : bytesAt w v m w.heap.size) (hvc : v.n ≤ v.c) (hml : m.length ≤ 1000000000) :
    Calls Try.prog 97 #[.pointer (some ⟨p, 0, none⟩), .string s.1, .slice v.a v.n v.c] w fun e w' => e = .returned (.int .i64 (appE M s m.length)) ∧ fsAt w' (more Z w) p (appM M s m) ∧ Upd w w' Z :=
  (append_file _ p M s v m w h.more hM (more_fr Z w) hv (src_ok hv) hvc hml).mono (fun e w' ⟨a, b, c⟩ => ⟨a, b, more_upd c⟩)
theorem sync_fsZ (s : Nm) (h : fsAt w Z p M) (hM : M.small) :
    Calls Try.prog 99 #[.pointer (some ⟨p, 0, none⟩), .string s.1] w fun e w' => e = .returned (.int .i64 (hasE M s [])) ∧ fsAt w' (more Z w) p (syncM M s) ∧ Upd w w' Z :=
  (sync_file _ p M s w h.more hM (more_fr Z w)).mono (fun e w' ⟨a, b, c⟩ => ⟨a, b, more_upd c⟩)
theorem rename_fsZ (s t : Nm) (h : fsAt w Z p M) (hM : M.small) :
    Calls Try.prog 106 #[.pointer (some ⟨p, 0, none⟩), .string s.1, .string t.1] w fun e w' => e = .returned (.int .i64 (hasE M s [t])) ∧ fsAt w' (more Z w) p (renameM M s t) ∧ Upd w w' Z :=
  (rename_file _ p M s t w h.more hM (more_fr Z w)).mono (fun e w' ⟨a, b, c⟩ => ⟨a, b, more_upd c⟩)
theorem remove_fsZ (s : Nm) (h : fsAt w Z p M) (hM : M.small) :
    Calls Try.prog 91 #[.pointer (some ⟨p, 0, none⟩), .string s.1] w fun e w' => e = .returned (.int .i64 (hasE M s [])) ∧ fsAt w' (more Z w) p (removeM M s) ∧ Upd w w' Z :=
  (remove_file _ p M s w h.more hM (more_fr Z w)).mono (fun e w' ⟨a, b, c⟩ => ⟨a, b, more_upd c⟩)
theorem truncate_fsZ (s : Nm) (n : Int) (h : fsAt w Z p M) (hM : M.small) :
    Calls Try.prog 94 #[.pointer (some ⟨p, 0, none⟩), .string s.1, .int .i64 n] w fun e w' => e = .returned (.int .i64 (truncE M s n)) ∧ fsAt w' (more Z w) p (truncM M s n) ∧ Upd w w' Z :=
  (truncate_file _ p M s n w h.more hM (more_fr Z w)).mono (fun e w' ⟨a, b, c⟩ => ⟨a, b, more_upd c⟩)
theorem cut_fsZ (n : Int) (h : fsAt w Z p M) :
    Calls Try.prog 48 #[.pointer (some ⟨p, 0, none⟩), .int .i64 n] w fun e w' => e = .returned (.tuple #[]) ∧ fsAt w' (more Z w) p (cutM M n) ∧ Upd w w' Z :=
  (cut_file _ p M n w h.more (more_fr Z w)).mono (fun e w' ⟨a, b, c⟩ => ⟨a, b, more_upd c⟩)
end
/-! ### bytes.Equal -/
theorem equal_bytes (u v : Sl) (a b : List UInt8) (B C : Nat) (w : World) (ha : bytesAt w u a B) (hb : bytesAt w v b C) :
    Calls Try.prog 141 #[.slice u.a u.n u.c, .slice v.a v.n v.c] w fun e w' => e = .returned (.bool (a == b)) ∧ w = w' := by
  have h1 := bytesAt_str ha
  have h2 := bytesAt_str hb
  go_enter Try.func141, Try.ntmps141
  go_wp2_with fail
  go_ret
  exact ⟨rfl, rfl⟩
end Go.Proofs.Ytkiindgcbpkddaa
namespace Go.Proofs.Ytkiindgcbpkddaa
open Go.RowKit
def getR (p : List UInt8) : Value := match getS p with
  | some (n, u) => .tuple #[.int .i64 n, .int .i64 u, .int .i64 0]
  | none => .tuple #[.int .i64 0, .int .i64 0, .int .i64 2]
theorem wraps_u64 (n : Nat) (h : n < 18446744073709551616) : IntKind.u64.wrap (n : Int) = n := by
  simp [IntKind.wrap, IntKind.bits, IntKind.signed]; omega
theorem wrap_u64n (n : Int) (h₀ : 0 ≤ n) (h₁ : n < 2 ^ 64) : IntKind.u64.wrap n = n := by
  obtain ⟨m, rfl⟩ := Int.eq_ofNat_of_zero_le h₀
  exact wraps_u64 m (by omega)
theorem bits_or_u64 (a b : Nat) (ha : a < 18446744073709551616) (hb : b < 18446744073709551616) : bits .or .u64 (a : Int) (b : Int) = ((a ||| b : Nat) : Int) := (bits_nat .u64 64 (by decide) wrap_u64n a b ha hb).2
theorem Size_num (n : Int) (hn : OkNum n) (w : World) : Calls Try.prog 164 #[.int .i64 n] w fun e w' => e = .returned (.int .i64 (putS n.toNat).length) ∧ Below w.heap.size w w' := by
  have hp := put_num n hn w
  go_enter Try.func164, Try.ntmps164
  go_wp2_with (go_at_call 145; refine hp.mono ?_; rintro e w' ⟨a, c, rfl, ho, hb⟩)
  go_ret
  exact ⟨rfl, hb⟩
theorem size_mark (c : UInt8) (w : World) : Calls Try.prog 163 #[.int .u8 c.toNat] w fun e w' => e = .returned (.int .i64 (markN c)) ∧ w = w' := by
  refine size_num c.toNat (markN c) ?_ w
  have h3 : ∀ k : UInt8, (((c.toNat : Nat) : Int) = k.toNat) ↔ c = k := fun k => by rw [Int.ofNat_inj]; exact ⟨fun h => UInt8.toNat_inj.1 h, fun h => by rw [h]⟩
  have e1 : ((c.toNat : Nat) : Int) = 253 ↔ c = 253 := h3 253
  have e2 : ((c.toNat : Nat) : Int) = 254 ↔ c = 254 := h3 254
  have e3 : ((c.toNat : Nat) : Int) = 255 ↔ c = 255 := h3 255
  unfold markN
  by_cases c1 : c = 253
  · subst c1; rfl
  by_cases c2 : c = 254
  · subst c2; rfl
  by_cases c3 : c = 255
  · subst c3; rfl
  rw [if_neg c1, if_neg c2, if_neg c3, if_neg (fun h => c1 (e1.1 h)), if_neg (fun h => c2 (e2.1 h)), if_neg (fun h => c3 (e3.1 h))]
  rfl
theorem or_le (a i c : Nat) (ha : a < 256 ^ i) (hc : c < 256) : a ||| c * 2 ^ (8 * i) = a + c * 256 ^ i := by
  have e : (256 : Nat) ^ i = 2 ^ (8 * i) := by rw [Nat.pow_mul]
  rw [e] at ha ⊢
  have := Nat.shiftLeft_add_eq_or_of_lt (b := a) (i := 8 * i) ha c
  rw [Nat.shiftLeft_eq] at this
  rw [Nat.or_comm, ← this, Nat.add_comm]
theorem jump_goto {Q : Exit → Act → World → Prop} {a : Act} {w : World} (l : Nat) (J : Act → World → Prop) : Exit.jump l J Q (.goto l) a w = J a w := by simp [Exit.jump]
theorem leVal_succ (r : List UInt8) (k : Nat) (h : k < r.length) : leVal (r.take (k + 1)) = leVal (r.take k) ||| r[k].toNat * 2 ^ (8 * k) := by
  have hl : (r.take k).length = k := by rw [List.length_take]; omega
  have hlt := leVal_lt (r.take k)
  rw [hl] at hlt
  rw [List.take_succ_eq_append_getElem h, leVal_snoc, hl, or_le _ k _ hlt r[k].toNat_lt]
set_option maxRecDepth 100000 in
set_option maxHeartbeats 1000000 in
theorem get_num (v : Sl) (l : List UInt8) (w : World) (h : bytesAt w v l w.heap.size) (hc : v.n ≤ v.c) (hml : l.length ≤ 1000000000) : Calls Try.prog 140 #[.slice v.a v.n v.c] w fun e w' => e = .returned (getR l) ∧ Below w.heap.size w w' := by
  obtain ⟨a, n, c⟩ := v
  obtain ⟨hn, hcell⟩ := h
  simp only at hn hcell hc
  subst hn
  cases l with
  | nil =>
    clear hcell
    go_enter Try.func140, Try.ntmps140
    go_wp2_with fail
    refine wp_scope_fwd 0 (by rfl) ?_
    go_wp2_with fail
    go_step3
    go_wp2_with fail
    rw [jump_goto]
    go_wp2_with fail
    rw [Exit.noGoto_ret]
    exact bodyPost_ret (v := getR []) (by simp [results, Try.results140, go_sem, getR, getS]) rfl ⟨rfl, Below.refl _ _⟩
  | cons b r =>
    obtain ⟨g, off, ha, hg, hcc⟩ := hcell (by simp)
    subst ha
    have hb := b.toNat_lt
    have hm := markN_le b
    have c0 : w.cell? ⟨g, off, none⟩ = some (.int .u8 b.toNat) := by have := hcc 0 (by simp); simpa [byteV] using this
    have hmk := size_mark b w
    simp only [List.length_cons] at hc hml ⊢
    clear hcell
    by_cases hlt : r.length < markN b
    · have hR : Hid (getR (b :: r) = .tuple #[.int .i64 0, .int .i64 0, .int .i64 2]) := by unfold Hid getR; simp only [getS]; rw [if_pos hlt]
      have hd : decide ((r.length : Int) + 1 < 1 + (markN b : Int)) = true := decide_eq_true (by omega)
      go_enter Try.func140, Try.ntmps140
      go_wp2_with fail
      refine wp_scope_fwd 0 (by rfl) ?_
      go_wp2_with (go_at_call 163; refine hmk.mono ?_; rintro e w' ⟨rfl, rfl⟩)
      go_step3
      go_wp2_with fail
      rw [jump_goto]
      go_wp2_with fail
      rw [Exit.noGoto_ret]
      exact bodyPost_ret (v := .tuple #[.int .i64 0, .int .i64 0, .int .i64 2]) (by simp [results, Try.results140, go_sem]) rfl ⟨by rw [hR.out], Below.refl _ _⟩
    · by_cases h0 : markN b = 0
      · have hR : Hid (getR (b :: r) = .tuple #[.int .i64 b.toNat, .int .i64 1, .int .i64 0]) := by unfold Hid getR; simp only [getS]; rw [if_neg hlt, if_pos h0]; rfl
        rw [h0] at hmk
        go_enter Try.func140, Try.ntmps140
        go_wp2_with fail
        refine wp_scope_fwd 0 (by rfl) ?_
        go_wp2_with (go_at_call 163; refine hmk.mono ?_; rintro e w' ⟨rfl, rfl⟩)
        rw [jump_ret]
        exact bodyPost_ret (v := .tuple #[.int .i64 b.toNat, .int .i64 1, .int .i64 0]) (by simp [results, Try.results140, go_sem]) rfl ⟨by rw [hR.out], Below.refl _ _⟩
      · obtain ⟨N, hN⟩ : ∃ N, N = markN b := ⟨_, rfl⟩
        rw [← hN] at hmk hm hlt h0
        have HN := Lib.hid hN
        have hd : decide ((r.length : Int) + 1 < 1 + (N : Int)) = false := decide_eq_false (by omega)
        clear hN
        go_enter Try.func140, Try.ntmps140
        go_wp2_with fail
        refine wp_scope_fwd 0 (by rfl) ?_
        go_wp2_with (go_at_call 163; refine hmk.mono ?_; rintro e w' ⟨rfl, rfl⟩)
        obtain ⟨VF, hVF⟩ : ∃ VF, VF = leVal (r.take N) := ⟨_, rfl⟩
        have hVl := leVal_lt (r.take N)
        have hrl : (r.take N).length = N := by rw [List.length_take]; omega
        rw [hrl, ← hVF] at hVl
        have hV64 : VF < 18446744073709551616 := Nat.lt_of_lt_of_le hVl (Nat.le_trans (Nat.pow_le_pow_right (by decide) hm) (by decide))
        have HV := Lib.hid hVF
        have HVL := Lib.hid hVl
        clear hVF hVl hrl
        go_loop [5, 30] (fun u i => ∃ k : Nat, k ≤ N ∧ i = .int .i64 k ∧ u = .int .u64 (leVal (r.take k) : Nat)) (fun _ i => N - (intOf i).toNat)
        case atStart => exact ⟨0, Nat.zero_le _, rfl, rfl⟩
        case round =>
          obtain ⟨k, hk, rfl, rfl⟩ := hrel
          by_cases hlt2 : k < N
          · have cb : w.cell? ⟨g, off + 1 + k, none⟩ = some (.int .u8 r[k].toNat) := by
              have := hcc (k + 1) (by simp; omega)
              rw [show off + (k + 1) = off + 1 + k by omega] at this
              simpa [byteV] using this
            have hbk := r[k].toNat_lt
            obtain ⟨x, hx⟩ : ∃ x, x = r[k].toNat := ⟨_, rfl⟩
            rw [← hx] at cb hbk
            obtain ⟨A, hA⟩ : ∃ A, A = leVal (r.take k) := ⟨_, rfl⟩
            rw [← hA]
            have HS : Hid (leVal (r.take (k + 1)) = A ||| x * 2 ^ (8 * k)) := by unfold Hid; rw [leVal_succ r k (by omega), ← hA, hx]
            have dlt : decide ((k : Int) < (N : Int)) = true := decide_eq_true (by omega)
            have HA := Lib.hid hA
            clear hx hA
            go_wp2_with fail
            go_round
            case rel => 
              refine ⟨k + 1, by omega, by go_num, ?_⟩
              rw [HS.out]
              have hkk : 256 ^ (k + 1) ≤ 256 ^ 8 := Nat.pow_le_pow_right (by decide) (by omega)
              have hx2 : x * 2 ^ (8 * k) < 18446744073709551616 := by
                have e : (2 : Nat) ^ (8 * k) = 256 ^ k := by rw [Nat.pow_mul]
                rw [e]
                calc x * 256 ^ k < 256 * 256 ^ k := Nat.mul_lt_mul_of_pos_right hbk (Nat.pow_pos (by decide))
                  _ = 256 ^ (k + 1) := by rw [Nat.pow_succ, Nat.mul_comm]
                  _ ≤ 18446744073709551616 := hkk
              have hA2 : A < 18446744073709551616 := by
                rw [HA.out]
                have h1 := leVal_lt (r.take k)
                refine Nat.lt_of_lt_of_le h1 (Nat.le_trans (Nat.pow_le_pow_right (by decide) (show _ ≤ 8 by rw [List.length_take]; omega)) (by decide))
              have e2 : ((x : Int) * 2 ^ (8 * k)) = ((x * 2 ^ (8 * k) : Nat) : Int) := by simp
              rw [e2, wraps_u64 _ hx2, bits_or_u64 A _ hA2 hx2]
            case measure => simp [intOf]; omega
          · have hkN : k = N := by omega
            subst hkN
            rw [← HV.out]
            have hNk : (r.take k).length = k := by rw [List.length_take]; omega
            by_cases hV2 : VF ≤ 4611686018427387904
            · have dV : decide ((VF : Int) ≤ 4611686018427387904) = true := decide_eq_true (by omega)
              have hsz := fun W : World => Size_num (VF : Int) ⟨by omega, by omega⟩ W
              rw [Int.toNat_natCast] at hsz
              obtain ⟨L, hL⟩ : ∃ L, L = (putS VF).length := ⟨_, rfl⟩
              rw [← hL] at hsz
              by_cases hLk : L = 1 + k
              · have hR : Hid (getR (b :: r) = .tuple #[.int .i64 VF, .int .i64 (1 + k : Nat), .int .i64 0]) := by
                  unfold Hid getR; simp only [getS]; rw [← HN.out, if_neg hlt, if_neg h0, ← HV.out, if_pos ⟨hV2, by rw [← hL, hLk]⟩]
                have dL : ((L : Int) == 1 + (k : Int)) = true := by rw [beq_iff_eq]; omega
                have HH := Lib.hid hLk
                clear hLk hL
                go_wp2_with (go_at_call 164; refine (hsz _).mono ?_; rintro e w1 ⟨rfl, hb1⟩)
                rw [jump_ret]
                exact bodyPost_ret (v := .tuple #[.int .i64 VF, .int .i64 (1 + k : Nat), .int .i64 0]) (by simp [results, Try.results140, go_sem]) rfl ⟨by rw [hR.out], hb1⟩
              · have hR : Hid (getR (b :: r) = .tuple #[.int .i64 0, .int .i64 0, .int .i64 2]) := by
                  unfold Hid getR; simp only [getS]; rw [← HN.out, if_neg hlt, if_neg h0, ← HV.out, if_neg (fun h => hLk (by rw [hL, h.2]))]
                have dL : ((L : Int) == 1 + (k : Int)) = false := by rw [beq_eq_false_iff_ne]; omega
                have HH := Lib.hid hLk
                clear hLk hL
                go_wp2_with (go_at_call 164; refine (hsz _).mono ?_; rintro e w1 ⟨rfl, hb1⟩)
                go_step3
                go_wp2_with fail
                rw [jump_ret]
                exact bodyPost_ret (v := .tuple #[.int .i64 0, .int .i64 0, .int .i64 2]) (by simp [results, Try.results140, go_sem]) rfl ⟨by rw [hR.out], hb1⟩
            · have dV : decide ((VF : Int) ≤ 4611686018427387904) = false := decide_eq_false (by omega)
              have hR : Hid (getR (b :: r) = .tuple #[.int .i64 0, .int .i64 0, .int .i64 2]) := by
                unfold Hid getR; simp only [getS]; rw [← HN.out, if_neg hlt, if_neg h0, ← HV.out, if_neg (fun h => hV2 h.1)]
              have HH := Lib.hid hV2
              clear hV2
              go_wp2_with fail
              go_step3
              go_wp2_with fail
              rw [jump_ret]
              exact bodyPost_ret (v := .tuple #[.int .i64 0, .int .i64 0, .int .i64 2]) (by simp [results, Try.results140, go_sem]) rfl ⟨by rw [hR.out], Below.refl _ _⟩
end Go.Proofs.Ytkiindgcbpkddaa
namespace Go.Proofs.Ytkiindgcbpkddaa
open Go.RowKit
set_option maxRecDepth 100000 in
set_option maxHeartbeats 1000000 in
theorem grow_nil (n : Nat) (hn : n ≤ 2000000000) (w : World) : Calls Try.prog 165 #[.slice none 0 0, .int .i64 n] w fun e w' => ∃ s : Sl, e = .returned (.slice s.a s.n s.c) ∧ ownB w' (fun k => w.heap.size ≤ k) s [] ∧ Below w.heap.size w w' := by
  obtain ⟨i, hi, hz, hs, hb⟩ := info_u8
  by_cases h0 : n = 0
  · subst h0
    go_enter Try.func165, Try.ntmps165
    go_wp2_with fail
    go_ret
    exact ⟨⟨none, 0, 0⟩, rfl, ownB_nil _ _, Below.refl _ _⟩
  · have hr := Lib.run_append_nil_zeros (P := Try.prog) w 102 3 102 5 i (.int .u8 0) .i64 .i64 Try.underlying102 Try.underlying3 hi hz n (by omega) (by rw [hs]; omega) (by omega) (by rw [hb]; omega)
    have hge := grownCap_ge w n 0 5
    have hcm : grownCap w n 0 5 ≤ maxLen := grownCap_le_maxLen w n 0 5 (by unfold maxLen; omega)
    obtain ⟨C, hC⟩ : ∃ C, C = grownCap w n 0 5 := ⟨_, rfl⟩
    rw [← hC] at hr hge hcm
    obtain ⟨cur, hcur⟩ : ∃ cur, cur = Builtin.zeroCells (Value.int .u8 0).cells n ++ Builtin.zeroCells (Value.int .u8 0).cells (C - n) := ⟨_, rfl⟩
    have hcs : cur.size = C := by
      have hz1 : (Value.int .u8 0).cells.size = 1 := rfl
      rw [hcur]; simp only [Array.size_append, size_zeroCells, hz1]; omega
    rw [← hcur] at hr
    have d0 : decide ((0 : Int) < (n : Int)) = true := decide_eq_true (by omega)
    have HR := Lib.hid hr
    clear hr hC hcur hi hz hs hb
    go_enter Try.func165, Try.ntmps165
    go_wp2_with (refine Lib.wpList_append_run _ rfl _ _ _ _ rfl _ _ rfl rfl _ _ HR.out ?_)
    go_ret
    refine ⟨⟨some ⟨w.heap.size, 0, none⟩, 0, C⟩, rfl, ⟨rfl, Nat.zero_le _, hcm, fun _ => ⟨w.heap.size, cur, rfl, Nat.le_refl _, heap_alloc_new w.drew _, by simp only; omega, by simp [byteVs]⟩⟩, ?_⟩
    exact ((Below.refl w.heap.size w).drew).alloc (by simp) _
set_option maxRecDepth 100000 in
set_option maxHeartbeats 1000000 in
theorem concat_bytes (a : Option Addr) (c : Nat) (ps : List (Sl × List UInt8)) (w : World) (hlen : ps.length ≤ 1000000) (hpa : slsAt w a (ps.map Prod.fst) w.heap.size) (hpb : ∀ q ∈ ps, bytesAt w q.1 q.2 w.heap.size) (htot : (ps.flatMap (·.2)).length ≤ 1000000000) :
    Calls Try.prog 144 #[.slice a ps.length c] w fun e w' => ∃ s : Sl, e = .returned (.slice s.a s.n s.c) ∧ ownB w' (fun k => w.heap.size ≤ k) s (ps.flatMap (·.2)) ∧ Below w.heap.size w w' := by
  obtain ⟨i, hi, hz, hs, hb⟩ := info_u8
  go_enter Try.func144, Try.ntmps144
  go_wp2_with fail
  go_loop [3, 11] (fun v3 v11 => ∃ k : Nat, k ≤ ps.length ∧ v11 = .int .i64 k ∧ v3 = .int .i64 (flatK ps k).length) (fun _ v => ps.length - (intOf v).toNat)
  case atStart => exact ⟨0, Nat.zero_le _, rfl, rfl⟩
  case round =>
    obtain ⟨k, hk, rfl, rfl⟩ := hrel
    have hfl := flatK_le (ps := ps) k
    by_cases hlt : k < ps.length
    · obtain ⟨b, off, rfl, hbl, hc⟩ := hpa.at (k := k) (by simpa using hlt)
      rw [List.getElem_map] at hc
      have hn := (hpb ps[k] (List.getElem_mem hlt)).1
      have hfs := flatK_succ hlt
      have hfl2 := flatK_le (ps := ps) (k + 1)
      have HL : (flatK ps (k + 1)).length = (flatK ps k).length + (ps[k].1).n := by rw [hfs, List.length_append, hn]
      obtain ⟨F, hF⟩ : ∃ F, F = (flatK ps k).length := ⟨_, rfl⟩
      obtain ⟨q, hq⟩ : ∃ q, q = ps[k].1 := ⟨_, rfl⟩
      rw [← hF, ← hq] at HL
      rw [← hq] at hc
      rw [← hF]
      have hq1 : F + q.n ≤ 1000000000 := by omega
      have dlt : decide ((k : Int) < (ps.length : Int)) = true := decide_eq_true (by omega)
      have d0 : decide ((F : Int) + (q.n : Int) < 0) = false := decide_eq_false (by omega)
      have HH := Lib.hid HL
      clear HL hfs hn hfl hfl2 hF hq htot
      go_wp2_with fail
      go_round
      case rel => exact ⟨k + 1, by omega, by go_num, by rw [HH.out]; go_num⟩
      case measure => simp [intOf]; omega
    · have hkN : k = ps.length := by omega
      subst hkN
      have hall : flatK ps ps.length = ps.flatMap (·.2) := by unfold flatK; rw [List.take_length]
      have hg := grow_nil (flatK ps ps.length).length (by omega) w
      obtain ⟨F, hF⟩ : ∃ F, F = (flatK ps ps.length).length := ⟨_, rfl⟩
      rw [← hF] at hg ⊢
      have HF := Lib.hid hF
      clear hF
      go_wp2_with (go_at_call 165; refine hg.mono ?_; rintro e w1 ⟨s0, rfl, ho, hb1⟩)
      clear hg
      go_loopw [6, 27] (fun v6 v27 wr => ∃ (k : Nat) (s : Sl), k ≤ ps.length ∧ v27 = .int .i64 k ∧ v6 = .slice s.a s.n s.c ∧ ownB wr (fun j => w.heap.size ≤ j) s (flatK ps k) ∧ Below w.heap.size w wr) (fun _ v _ => ps.length - (intOf v).toNat)
      case atStart => exact ⟨0, s0, Nat.zero_le _, rfl, rfl, ho, hb1⟩
      case round =>
        obtain ⟨k, s, hk, rfl, rfl, ho, hbr⟩ := hrel
        clear hb1
        by_cases hlt : k < ps.length
        · obtain ⟨b, off, rfl, hbl, hc⟩ := hpa.at (k := k) (by simpa using hlt)
          rw [List.getElem_map] at hc
          have hcr := (hbr.cell (p := ⟨b, off + k, none⟩) hbl).trans hc
          have hx := ((hpb ps[k] (List.getElem_mem hlt)).below hbr).mono hbr.size
          have hfs := flatK_succ hlt
          have hfl2 := flatK_le (ps := ps) (k + 1)
          have hfl3 : (flatK ps k).length + ps[k].2.length ≤ 1000000000 := by rw [hfs, List.length_append] at hfl2; omega
          obtain ⟨s', w2, hrun, ho2, hu2, hn2, _⟩ := run_append_B (P := Try.prog) wr (fun j => w.heap.size ≤ j) 102 102 102 i Try.underlying102 hi hz hs hb s (flatK ps k) ho _ ps[k].2 (hx.src (src_ok hx)) (fun j hj => Nat.le_trans hbr.size hj) (by omega)
          have hrun2 : (Builtin.append_ #[102, 102] 102 #[.slice s.a s.n s.c, .slice ps[k].1.a ps[k].1.n ps[k].1.c]).run Try.prog wr = .ok (.slice s'.a s'.n s'.c) w2 := hrun
          have hb2 : Below w.heap.size wr w2 := hu2.below hbr.size (fun j hj => (ho.lt hj).1)
          rw [← hfs] at ho2
          obtain ⟨q, hq⟩ : ∃ q, q = ps[k].1 := ⟨_, rfl⟩
          rw [← hq] at hrun2 hcr
          have dlt : decide ((k : Int) < (ps.length : Int)) = true := decide_eq_true (by omega)
          have HR := Lib.hid hrun2
          clear hrun hrun2 hc hx hfs hfl2 hfl3 ho hu2 hn2 hq
          go_wp2_with (refine Lib.wpList_append_run _ rfl _ _ _ _ rfl _ _ rfl rfl _ _ HR.out ?_)
          go_roundw
          case rel => exact ⟨k + 1, s', by omega, by go_num, rfl, ho2, hbr.trans (hb2.mono (Nat.le_refl _))⟩
          case measure => simp [intOf]; omega
        · have hkN : k = ps.length := by omega
          subst hkN
          rw [hall] at ho
          go_wp2_with fail
          go_ret
          exact ⟨s, rfl, ho, hbr⟩
end Go.Proofs.Ytkiindgcbpkddaa
namespace Go.Proofs.Ytkiindgcbpkddaa
open Go.RowKit
set_option maxRecDepth 100000 in
set_option maxHeartbeats 1000000 in
theorem sum_wal (v : Sl) (l : List UInt8) (w : World) (h : bytesAt w v l w.heap.size) (hml : l.length ≤ 100000000) : Calls Try.prog 142 #[.slice v.a v.n v.c] w fun e w' => ∃ s : Sl, e = .returned (.slice s.a s.n s.c) ∧ bytesZ w' (fun k => w.heap.size ≤ k) s (sumB l) ∧ Below w.heap.size w w' := by
  have hn : v.n = l.length := h.1
  have hp := put_num (l.length : Int) ⟨by omega, by omega⟩ w
  rw [Int.toNat_natCast] at hp
  rw [hn]
  have hput := putS_le l.length
  go_enter Try.func142, Try.ntmps142
  go_wp2_with (go_at_call 145; refine hp.mono ?_; rintro e w1 ⟨a1, c1, rfl, ho1, hb1⟩)
  have hp1 := row_bytes ho1
  have HP1 := Lib.hid hp1
  clear hp hp1 ho1
  obtain ⟨W, hW⟩ : ∃ W, W = w1.alloc (.cells #[.slice (some a1) (putS l.length).length c1, .slice v.a l.length v.c] 102) := ⟨_, rfl⟩
  rw [← hW]
  have hbW : Below w1.heap.size w1 W := hW ▸ (Below.refl _ _).alloc (Nat.le_refl _) _
  have hblk : W.heap[w1.heap.size]? = some (.cells #[.slice (some a1) (putS l.length).length c1, .slice v.a l.length v.c] 102 (0, 0)) := hW ▸ heap_alloc_new w1 _
  have hsum := sum_sha (some ⟨w1.heap.size, 0, none⟩) 2 [(⟨some a1, (putS l.length).length, c1⟩, putS l.length), (⟨v.a, l.length, v.c⟩, l)] W (by simp)
    (fun _ => ⟨w1.heap.size, 0, rfl, (cells_known hblk).2.2, fun k hk => by
      rw [(cells_known hblk).1, Nat.zero_add]
      have hk2 : k < 2 := hk
      match k, hk2 with
      | 0, _ => rfl
      | 1, _ => rfl⟩)
    (fun q hq => by
      simp only [List.mem_cons, List.not_mem_nil, or_false] at hq
      rcases hq with rfl | rfl
      · exact (HP1.out.keep hbW).at
      · have h2 := ((h.below hb1).mono hb1.size).below hbW
        exact ⟨rfl, (h2.mono hbW.size).2⟩)
    (by simp; omega)
  simp only [List.flatMap_cons, List.flatMap_nil, List.append_nil, List.length_cons, List.length_nil, Nat.zero_add, Nat.reduceAdd] at hsum
  obtain ⟨D, hD⟩ : ∃ D, D = putS l.length ++ l := ⟨_, rfl⟩
  rw [← hD] at hsum
  have hbw : Below w.heap.size w W := hb1.trans (hbW.mono hb1.size)
  have HD := Lib.hid hD
  have HB := Lib.hid hbw
  clear hW hbW hblk hD h hbw hb1 HP1
  go_wp2_with fail
  refine hsum.mono ?_
  rintro e Y ⟨rfl, hbY⟩
  have hb2 := HB.out.trans (hbY.mono HB.out.size)
  obtain ⟨z, hz⟩ : ∃ z, z = shaS D := ⟨_, rfl⟩
  rw [← hz]
  have HZ := Lib.hid hz
  have HB2 := Lib.hid hb2
  clear hsum hbY hb2 hz
  go_wp2_with fail
  go_ret
  refine ⟨⟨some ⟨Y.heap.size, 0, none⟩, 8, 32⟩, rfl, ?_, HB2.out.trans (((Below.refl Y.heap.size Y).alloc (Nat.le_refl _) _).mono HB2.out.size)⟩
  refine ⟨(sumB_length l).symm, (by show 8 ≤ 32; omega), fun _ => ⟨Y.heap.size, 0, rfl, HB2.out.size, by simp, fun k hk => ?_⟩⟩
  rw [sumB_length] at hk
  have hzl := z.len
  have hg : (sumB l)[k]? = z.l[k]? := by unfold sumB; rw [List.getElem?_take, if_pos hk, ← HD.out, ← HZ.out]
  rw [List.getElem?_eq_getElem (by rw [sumB_length]; exact hk), List.getElem?_eq_getElem (by omega)] at hg
  rw [Option.some.inj hg, Nat.zero_add, World.cell?_alloc_mark]
  exact Hash.arr_get z k (by omega)
set_option maxRecDepth 100000 in
set_option maxHeartbeats 1000000 in
theorem framed_wal (v : Sl) (l : List UInt8) (w : World) (h : bytesAt w v l w.heap.size) (hml : l.length ≤ 100000000) : Calls Try.prog 96 #[.slice v.a v.n v.c] w fun e w' => ∃ s : Sl, e = .returned (.slice s.a s.n s.c) ∧ ownB w' (fun k => w.heap.size ≤ k) s (frameS l) ∧ Below w.heap.size w w' := by
  have hn : v.n = l.length := h.1
  have hp := put_num (l.length : Int) ⟨by omega, by omega⟩ w
  rw [Int.toNat_natCast] at hp
  have hput := putS_le l.length
  obtain ⟨va, vn, vc⟩ := v
  simp only at hn
  subst hn
  go_enter Try.func96, Try.ntmps96
  go_wp2_with (go_at_call 145; refine hp.mono ?_; rintro e w1 ⟨a1, c1, rfl, ho1, hb1⟩)
  have hp1 := row_bytes ho1
  have h1 := (h.below hb1).mono hb1.size
  have HP1 := Lib.hid hp1
  clear hp hp1 ho1
  refine (sum_wal ⟨va, l.length, vc⟩ l w1 h1 hml).mono ?_
  rintro e w2 ⟨⟨sa, sn, sc⟩, rfl, hs2, hb2⟩
  have h2 := (h1.below hb2).mono hb2.size
  have hp2 := HP1.out.keep hb2
  have hbw2 := hb1.trans (hb2.mono hb1.size)
  clear h1 hb2 HP1 hb1
  go_wp2_with fail
  obtain ⟨W, hW⟩ : ∃ W, W = w2.alloc (.cells #[.slice (some a1) (putS l.length).length c1, .slice sa sn sc, .slice va l.length vc] 102) := ⟨_, rfl⟩
  rw [← hW]
  have hbW : Below w2.heap.size w2 W := hW ▸ (Below.refl _ _).alloc (Nat.le_refl _) _
  have hblk : W.heap[w2.heap.size]? = some (.cells #[.slice (some a1) (putS l.length).length c1, .slice sa sn sc, .slice va l.length vc] 102 (0, 0)) := hW ▸ heap_alloc_new w2 _
  have hcc := concat_bytes (some ⟨w2.heap.size, 0, none⟩) 3 [(⟨some a1, (putS l.length).length, c1⟩, putS l.length), (⟨sa, sn, sc⟩, sumB l), (⟨va, l.length, vc⟩, l)] W (by simp)
    (fun _ => ⟨w2.heap.size, 0, rfl, (cells_known hblk).2.2, fun k hk => by
      rw [(cells_known hblk).1, Nat.zero_add]
      have hk2 : k < 3 := hk
      match k, hk2 with
      | 0, _ => rfl
      | 1, _ => rfl
      | 2, _ => rfl⟩)
    (fun q hq => by
      simp only [List.mem_cons, List.not_mem_nil, or_false] at hq
      rcases hq with rfl | rfl | rfl
      · exact (hp2.keep hbW).at
      · exact (hs2.keep hbW).at
      · exact (h2.below hbW).mono hbW.size)
    (by simp [sumB_length]; omega)
  simp only [List.flatMap_cons, List.flatMap_nil, List.append_nil, List.length_cons, List.length_nil, Nat.zero_add, Nat.reduceAdd] at hcc
  have hbw : Below w.heap.size w W := hbw2.trans (hbW.mono hbw2.size)
  have HB := Lib.hid hbw
  clear hW hbW hblk h2 hbw hbw2 hp2 hs2
  refine hcc.mono ?_
  rintro e Y ⟨s, rfl, ho, hbY⟩
  have HO := Lib.hid ho
  have HBY := Lib.hid hbY
  clear hcc ho hbY
  go_wp2_with fail
  go_ret
  exact ⟨s, rfl, HO.out.base_mono (fun k hk => Nat.le_trans HB.out.size hk), HB.out.trans (HBY.out.mono HB.out.size)⟩
end Go.Proofs.Ytkiindgcbpkddaa
namespace Go.Proofs.Ytkiindgcbpkddaa
open Go.RowKit
/-! ### two labels -/
/-- What stands at the exits of a scope with two labels. -/
def twoJ (l : Nat) (J : Act → World → Prop) (m : Nat) (E : Act → World → Prop) (Q : Exit → Act → World → Prop) : Exit → Act → World → Prop
  | .goto k, a, w => (k = l ∧ J a w) ∨ (k = m ∧ E a w)
  | e, a, w => Q e a w
section
variable {P : Program} {Q : Exit → Act → World → Prop} {a : Act} {w : World}
theorem two_back {l m : Nat} {J E : Act → World → Prop} (h : J a w) : twoJ l J m E Q (.goto l) a w := .inl ⟨rfl, h⟩
theorem two_fwd {l m : Nat} {J E : Act → World → Prop} (h : E a w) : twoJ l J m E Q (.goto m) a w := .inr ⟨rfl, h⟩
theorem two_ret {l m : Nat} {J E : Act → World → Prop} : twoJ l J m E Q .ret a w = Q .ret a w := rfl
theorem two_normal {l m : Nat} {J E : Act → World → Prop} : twoJ l J m E Q .normal a w = Q .normal a w := rfl
theorem wp_scope_two {c rest fin : Code} (l m : Nat) (J : Act → World → Prop) (μ : Act → World → Nat) (hf : findLabel c l = some rest) (hm : findLabel c m = some fin)
    (first : c.wp P (twoJ l J m (fun a w => fin.wp P (Exit.noGoto Q) a w) Q) a w)
    (pass : ∀ a w, J a w → rest.wp P (twoJ l (fun a' w' => J a' w' ∧ μ a' w' < μ a w) m (fun a w => fin.wp P (Exit.noGoto Q) a w) Q) a w) : (Code.scope c).wp P Q a w := by
  intro b k cs
  have gl : gotoIn l (.inScope c :: k) = some (.code rest :: .inScope c :: k) := by simp [gotoIn, hf]
  have gm : gotoIn m (.inScope c :: k) = some (.code fin :: .inScope c :: k) := by simp [gotoIn, hm]
  have fwd : ∀ a w, fin.wp P (Exit.noGoto Q) a w → ∃ e a' w', Q e a' w' ∧ Arrives P (lone (b.at a (.code fin :: .inScope c :: k)) cs w) b k cs e a' w' := by
    intro a w hE
    obtain ⟨e, a₁, w₁, hq, harr⟩ := hE b (.inScope c :: k) cs
    cases e with
    | normal => exact ⟨.normal, a₁, w₁, hq, Steps.trans harr (.one step_inScope)⟩
    | exit id => exact ⟨.exit id, a₁, w₁, hq, fun k' hk => harr k' (by simp [exitTo, hk])⟩
    | goto l' => exact hq.elim
    | ret => exact ⟨_, a₁, w₁, hq, harr⟩
    | panic ch => exact ⟨_, a₁, w₁, hq, harr⟩
    | outgrown => exact ⟨_, a₁, w₁, hq, harr⟩
  have key : ∀ n a w, μ a w = n → J a w → ∃ e a' w', Q e a' w' ∧ Arrives P (lone (b.at a (.code rest :: .inScope c :: k)) cs w) b k cs e a' w' := by
    intro n
    induction n using Nat.strongRecOn with
    | _ n ih =>
      intro a w hn hJ
      obtain ⟨e, a₁, w₁, hq, harr⟩ := pass a w hJ b (.inScope c :: k) cs
      cases e with
      | normal => exact ⟨.normal, a₁, w₁, hq, Steps.trans harr (.one step_inScope)⟩
      | exit id => exact ⟨.exit id, a₁, w₁, hq, fun k' hk => harr k' (by simp [exitTo, hk])⟩
      | goto l' =>
        rcases hq with ⟨rfl, hJ', hlt⟩ | ⟨rfl, hE⟩
        · obtain ⟨e₂, a₂, w₂, hq₂, harr₂⟩ := ih _ (by omega) a₁ w₁ rfl hJ'
          exact ⟨e₂, a₂, w₂, hq₂, .of_steps (harr _ gl) harr₂⟩
        · obtain ⟨e₂, a₂, w₂, hq₂, harr₂⟩ := fwd a₁ w₁ hE
          exact ⟨e₂, a₂, w₂, hq₂, .of_steps (harr _ gm) harr₂⟩
      | ret => exact ⟨_, a₁, w₁, hq, harr⟩
      | panic ch => exact ⟨_, a₁, w₁, hq, harr⟩
      | outgrown => exact ⟨_, a₁, w₁, hq, harr⟩
  obtain ⟨e, a₁, w₁, hq, harr⟩ := first b (.inScope c :: k) cs
  cases e with
  | normal => exact ⟨.normal, a₁, w₁, hq, .head step_scope (Steps.trans harr (.one step_inScope))⟩
  | exit id => exact ⟨.exit id, a₁, w₁, hq, fun k' hk => .head step_scope (harr k' (by simp [exitTo, hk]))⟩
  | goto l' =>
    rcases hq with ⟨rfl, hJ'⟩ | ⟨rfl, hE⟩
    · obtain ⟨e₂, a₂, w₂, hq₂, harr₂⟩ := key _ a₁ w₁ rfl hJ'
      exact ⟨e₂, a₂, w₂, hq₂, .of_steps (.head step_scope (harr _ gl)) harr₂⟩
    · obtain ⟨e₂, a₂, w₂, hq₂, harr₂⟩ := fwd a₁ w₁ hE
      exact ⟨e₂, a₂, w₂, hq₂, .of_steps (.head step_scope (harr _ gm)) harr₂⟩
  | ret => exact ⟨_, a₁, w₁, hq, .of_steps (.one step_scope) harr⟩
  | panic ch => exact ⟨_, a₁, w₁, hq, .of_steps (.one step_scope) harr⟩
  | outgrown => exact ⟨_, a₁, w₁, hq, .of_steps (.one step_scope) harr⟩
/-- The same where the first way comes to the label itself. -/
theorem wp_scope_loop {c rest fin : Code} (l m : Nat) (J : Act → World → Prop) (μ : Act → World → Nat) (hf : findLabel c l = some (Code.skip.seq rest)) (hm : findLabel c m = some fin)
    (pass : ∀ a w, J a w → rest.wp P (twoJ l (fun a' w' => J a' w' ∧ μ a' w' < μ a w) m (fun a w => fin.wp P (Exit.noGoto Q) a w) Q) a w)
    (first : (∀ a w, J a w → rest.wp P (twoJ l J m (fun a w => fin.wp P (Exit.noGoto Q) a w) Q) a w) → c.wp P (twoJ l J m (fun a w => fin.wp P (Exit.noGoto Q) a w) Q) a w) : (Code.scope c).wp P Q a w := by
  refine wp_scope_two l m J μ hf hm (first fun a w hJ => ?_) (fun a w hJ => wp_seq (wp_skip (pass a w hJ)))
  refine Code.wp_mono (fun e a' w' h => ?_) (pass a w hJ)
  cases e with
  | goto k => exact h.imp (fun h => ⟨h.1, h.2.1⟩) id
  | _ => exact h
end
/-! ### records in memory -/
/-- Slices of bytes that lie one behind the other, all in the zone. -/
structure listsZ (w : World) (Z : Nat → Prop) (s : Sl) (vs : List Sl) (rs : List (List UInt8)) : Prop where
  n : s.n = rs.length
  c : s.n ≤ s.c
  len : vs.length = rs.length
  cells : rs ≠ [] → ∃ b off, s.a = some ⟨b, off, none⟩ ∧ Z b ∧ b < w.heap.size ∧ ∀ k (h : k < vs.length), w.cell? ⟨b, off + k, none⟩ = some (.slice vs[k].a vs[k].n vs[k].c)
  el : ∀ k (h : k < rs.length) (h2 : k < vs.length), bytesZ w Z vs[k] rs[k]
/-- The same in a row of one's own. -/
structure RecsAt (w : World) (Z : Nat → Prop) (s : Sl) (vs : List Sl) (rs : List (List UInt8)) : Prop where
  own : w.ownsRow 0 102 1 s.v rs.length (vs.map Sl.v)
  n : s.n = rs.length
  len : vs.length = rs.length
  el : ∀ k (h : k < rs.length) (h2 : k < vs.length), bytesZ w (fun j => Z j ∧ s.v.ownBlock ≠ some j) vs[k] rs[k]
  zone : ∀ k, s.v.ownBlock = some k → Z k
section
variable {w w' : World} {Z Y S : Nat → Prop} {s : Sl} {vs : List Sl} {rs : List (List UInt8)}
theorem listsZ.upd (h : listsZ w Z s vs rs) (hu : Upd w w' S) (hs : ∀ k, Z k → k < w.heap.size → ¬ S k) : listsZ w' Z s vs rs :=
  ⟨h.n, h.c, h.len, fun hne => by
    obtain ⟨b, off, ha, hz, hb, hc⟩ := h.cells hne
    exact ⟨b, off, ha, hz, Nat.lt_of_lt_of_le hb hu.size, fun k hk => (hu.cell hb (hs b hz hb) _).trans (hc k hk)⟩, fun k h1 h2 => (h.el k h1 h2).upd hu hs⟩
theorem listsZ.keep (h : listsZ w Z s vs rs) (hb : Below w.heap.size w w') : listsZ w' Z s vs rs := h.upd (S := fun _ => False) (Upd.of_below hb _) (fun _ _ _ hf => hf)
theorem listsZ.zone (h : listsZ w Z s vs rs) (hY : ∀ k, k < w.heap.size → Z k → Y k) : listsZ w Y s vs rs :=
  ⟨h.n, h.c, h.len, fun hne => by
    obtain ⟨b, off, ha, hz, hb, hc⟩ := h.cells hne
    exact ⟨b, off, ha, hY b hb hz, hb, hc⟩, fun k h1 h2 => (h.el k h1 h2).zone hY⟩
theorem RecsAt.upd (h : RecsAt w Z s vs rs) (hu : Upd w w' S) (hs : ∀ k, Z k → k < w.heap.size → ¬ S k) : RecsAt w' Z s vs rs :=
  ⟨ownsRow_upd h.own hu (fun k hk => hs k (h.zone k hk) (h.own.lt k hk).2), h.n, h.len, fun k h1 h2 => (h.el k h1 h2).upd hu (fun j hj hl => hs j hj.1 hl), h.zone⟩
theorem RecsAt.keep (h : RecsAt w Z s vs rs) (hb : Below w.heap.size w w') : RecsAt w' Z s vs rs := h.upd (S := fun _ => False) (Upd.of_below hb _) (fun _ _ _ hf => hf)
theorem RecsAt.zoned (h : RecsAt w Z s vs rs) (hY : ∀ k, k < w.heap.size → Z k → Y k) : RecsAt w Y s vs rs :=
  ⟨h.own, h.n, h.len, fun k h1 h2 => (h.el k h1 h2).zone (fun j hj hz => ⟨hY j hj hz.1, hz.2⟩), fun k hk => hY k (h.own.lt k hk).2 (h.zone k hk)⟩
theorem RecsAt.lists (h : RecsAt w Z s vs rs) : listsZ w Z s vs rs := by
  refine ⟨h.n, ?_, h.len, fun hne => ?_, fun k h1 h2 => (h.el k h1 h2).zone (fun j _ hz => hz.1)⟩
  · rcases h.own.2 with ⟨e, e2⟩ | ⟨g, cap, cur, e, _, _, hn, _⟩
    · obtain ⟨a, n, c⟩ := s
      unfold Sl.v at e
      injection e with e1 e2 e3; simp only at e1 e2 e3
      show n ≤ c; omega
    · obtain ⟨a, n, c⟩ := s
      unfold Sl.v at e
      injection e with e1 e2 e3; simp only at e1 e2 e3
      show n ≤ c; omega
  · rcases h.own.2 with ⟨e, e2⟩ | ⟨g, cap, cur, e, _, hh, hn, hm, hsz, ht⟩
    · exact absurd (List.eq_nil_of_length_eq_zero e2) hne
    · obtain ⟨a, n, c⟩ := s
      unfold Sl.v at e
      injection e with e1 e2 e3; simp only at e1 e2 e3
      refine ⟨g, 0, e1, h.zone g (by show (Value.slice a n c).ownBlock = some g; rw [e1]; rfl), (cells_known hh).2.2, fun k hk => ?_⟩
      rw [(cells_known hh).1, Nat.zero_add]
      have hl := h.len
      have h2 : (cur.toList.take (rs.length * 1))[k]? = (vs.map Sl.v)[k]? := by rw [ht]
      rw [List.getElem?_take, if_pos (by omega), List.getElem?_map, List.getElem?_eq_getElem hk] at h2
      simpa [Sl.v] using h2
theorem RecsAt_nil (w : World) (Z : Nat → Prop) : RecsAt w Z ⟨none, 0, 0⟩ [] [] := ⟨World.ownsRow_nil _ _ _ _, rfl, rfl, fun k h => absurd h (by simp), fun k hk => by simp [Sl.v, Value.ownBlock] at hk⟩
theorem info_sl8 : ∃ i, Try.prog.info? 102 = some i ∧ i.zero = some (.slice none 0 0) ∧ i.size = 1 ∧ i.bytes = 24 := by
  have h : (Try.prog.info? 102).map (fun i => (i.zero, i.size, i.bytes)) = some (some (.slice none 0 0), 1, 24) := by kernel_rfl
  obtain ⟨i0, hi, hz0, hz1, hz2⟩ := info_parts h
  exact ⟨i0, hi, hz0, hz1, hz2⟩
/-- A record put behind records of one's own. -/
theorem own_sl1 {base : Nat} {v : Value} {n : Nat} {xs : List Value} (h : w.ownsRow base 102 1 v n xs) {b c : Nat} {x : Sl} (hb : w.heap[b]? = some (.cells #[.slice x.a x.n x.c] 102 (0, 0))) (hbase : base ≤ w.heap.size) (hl : n ≤ 1000000000) :
    ∃ (s' : Sl) (w' : World), (∀ ty, (Builtin.append_ #[95, 95] ty #[v, .slice (some ⟨b, 0, none⟩) 1 c]).run Try.prog w = .ok (.slice s'.a s'.n s'.c) w') ∧ w'.ownsRow base 102 1 s'.v (n + 1) (xs ++ [x.v]) ∧ s'.n = n + 1 ∧ Upd w w' (fun j => v.ownBlock = some j) ∧ (∀ j, s'.v.ownBlock = some j → v.ownBlock = some j ∨ j = w.heap.size) := by
  obtain ⟨i0, hi0, hz0, hz1, hz2⟩ := info_sl8
  obtain ⟨v', w', hr, h2, h3, h4, h5⟩ := run_append_own_at (P := Try.prog) w base 95 0 102 i0 (.slice none 0 0) 1 24 Try.underlying95 hi0 hz0 hz1 hz2 (by rfl) (by decide) v n _ h ⟨b, 0, none⟩ 1 c [x.v] (by simp) (by
      intro j u hu
      have hj : j = 0 := by
        have := (List.getElem?_eq_some_iff.1 hu).1
        simpa using this
      subst hj
      have e : (⟨b, 0, none⟩ : Addr).add 0 = ⟨b, 0, none⟩ := rfl
      rw [e, (cells_known hb).1]
      simpa [Sl.v] using hu) (by intro u hu; simp at hu; subst hu; rfl) (by unfold maxLen; omega) (by omega) hbase
  obtain ⟨a', c', rfl, _, _⟩ := ownsRow_slice h2
  exact ⟨⟨a', n + 1, c'⟩, w', fun ty => hr, h2, rfl, Upd.grown h3, fun j e => by
    rcases h5 with e2 | e2
    · exact .inl (by rw [← e2]; exact e)
    · have : some j = some w.heap.size := e.symm.trans e2
      exact .inr (Option.some.inj this)⟩
/-- The records behind it. -/
theorem RecsAt.push {X : Nat → Prop} {x s' : Sl} {l : List UInt8} (h : RecsAt w Z s vs rs) (hx : bytesZ w X x l) (hX : ∀ j, X j → s.v.ownBlock ≠ some j) (ho : w'.ownsRow 0 102 1 s'.v (rs.length + 1) (vs.map Sl.v ++ [x.v])) (hn : s'.n = rs.length + 1)
    (hu : Upd w w' (fun j => s.v.ownBlock = some j)) (hnew : ∀ j, s'.v.ownBlock = some j → s.v.ownBlock = some j ∨ j = w.heap.size) : RecsAt w' (fun j => Z j ∨ X j ∨ j = w.heap.size) s' (vs ++ [x]) (rs ++ [l]) := by
  have hlen := h.len
  refine ⟨by simpa using ho, by simpa using hn, by simp [hlen], fun k h1 h2 => ?_, fun k hk => ?_⟩
  · by_cases hlt : k < rs.length
    · rw [List.getElem_append_left (by omega), List.getElem_append_left hlt]
      have h3 := h.el k hlt (by omega)
      refine (h3.zone (Y := fun j => (Z j ∧ s.v.ownBlock ≠ some j) ∧ j < w.heap.size) (fun j hj hz => ⟨hz, hj⟩)).upd hu (fun j hj hl e => hj.1.2 e) |>.zone (fun j hj hz => ⟨.inl hz.1.1, fun e => ?_⟩)
      rcases hnew j e with g | g
      · exact hz.1.2 g
      · have := hz.2; omega
    · have hk : k = rs.length := by simp at h1; omega
      subst hk
      rw [List.getElem_append_right (by omega), List.getElem_append_right (by omega)]
      simp only [hlen, Nat.sub_self, List.getElem_cons_zero]
      refine (hx.zone (Y := fun j => X j ∧ j < w.heap.size) (fun j hj hz => ⟨hz, hj⟩)).upd hu (fun j hj hl e => hX j hj.1 e) |>.zone (fun j hj hz => ⟨.inr (.inl hz.1), fun e => ?_⟩)
      rcases hnew j e with g | g
      · exact hX j hz.1 g
      · have := hz.2; omega
  · rcases hnew k hk with g | g
    · exact .inl (h.zone k g)
    · exact .inr (.inr g)
end
end Go.Proofs.Ytkiindgcbpkddaa
