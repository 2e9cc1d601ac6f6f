/- Package num: the number that bytes begin with. -/
import Derived.Test.YtkiindgcbpkddaaWalA
import Derived.Test.YtkiindgcbpkddaaRefQ
set_option linter.unusedSimpArgs false
set_option linter.unusedVariables false
namespace Go.Proofs.Ytkiindgcbpkddaa
open Go.RowKit
def getR (p : List UInt8) : Value := match getS p with
  | some (n, u) => .tuple #[.int .i64 n, .int .i64 u, .int .i64 0]
  | none => .tuple #[.int .i64 0, .int .i64 0, .int .i64 2]
theorem wraps_u64 (n : Nat) (h : n < 18446744073709551616) : IntKind.u64.wrap (n : Int) = n := by
  simp [IntKind.wrap, IntKind.bits, IntKind.signed]; omega
theorem wrap_u64n (n : Int) (h₀ : 0 ≤ n) (h₁ : n < 2 ^ 64) : IntKind.u64.wrap n = n := by
  obtain ⟨m, rfl⟩ := Int.eq_ofNat_of_zero_le h₀
  exact wraps_u64 m (by omega)
theorem bits_or_u64 (a b : Nat) (ha : a < 18446744073709551616) (hb : b < 18446744073709551616) : bits .or .u64 (a : Int) (b : Int) = ((a ||| b : Nat) : Int) := (bits_nat .u64 64 (by decide) wrap_u64n a b ha hb).2
theorem Size_num (n : Int) (hn : OkNum n) (w : World) : Calls Try.prog 164 #[.int .i64 n] w fun e w' => e = .returned (.int .i64 (putS n.toNat).length) ∧ Below w.heap.size w w' := by
  have hp := put_num n hn w
  go_enter Try.func164, Try.ntmps164
  go_wp2_with (go_at_call 145; refine hp.mono ?_; rintro e w' ⟨a, c, rfl, ho, hb⟩)
  go_ret
  exact ⟨rfl, hb⟩
theorem size_mark (c : UInt8) (w : World) : Calls Try.prog 163 #[.int .u8 c.toNat] w fun e w' => e = .returned (.int .i64 (markN c)) ∧ w = w' := by
  refine size_num c.toNat (markN c) ?_ w
  have h3 : ∀ k : UInt8, (((c.toNat : Nat) : Int) = k.toNat) ↔ c = k := fun k => by rw [Int.ofNat_inj]; exact ⟨fun h => UInt8.toNat_inj.1 h, fun h => by rw [h]⟩
  have e1 : ((c.toNat : Nat) : Int) = 253 ↔ c = 253 := h3 253
  have e2 : ((c.toNat : Nat) : Int) = 254 ↔ c = 254 := h3 254
  have e3 : ((c.toNat : Nat) : Int) = 255 ↔ c = 255 := h3 255
  unfold markN
  by_cases c1 : c = 253
  · subst c1; rfl
  by_cases c2 : c = 254
  · subst c2; rfl
  by_cases c3 : c = 255
  · subst c3; rfl
  rw [if_neg c1, if_neg c2, if_neg c3, if_neg (fun h => c1 (e1.1 h)), if_neg (fun h => c2 (e2.1 h)), if_neg (fun h => c3 (e3.1 h))]
  rfl
theorem or_le (a i c : Nat) (ha : a < 256 ^ i) (hc : c < 256) : a ||| c * 2 ^ (8 * i) = a + c * 256 ^ i := by
  have e : (256 : Nat) ^ i = 2 ^ (8 * i) := by rw [Nat.pow_mul]
  rw [e] at ha ⊢
  have := Nat.shiftLeft_add_eq_or_of_lt (b := a) (i := 8 * i) ha c
  rw [Nat.shiftLeft_eq] at this
  rw [Nat.or_comm, ← this, Nat.add_comm]
theorem jump_goto {Q : Exit → Act → World → Prop} {a : Act} {w : World} (l : Nat) (J : Act → World → Prop) : Exit.jump l J Q (.goto l) a w = J a w := by simp [Exit.jump]
theorem leVal_succ (r : List UInt8) (k : Nat) (h : k < r.length) : leVal (r.take (k + 1)) = leVal (r.take k) ||| r[k].toNat * 2 ^ (8 * k) := by
  have hl : (r.take k).length = k := by rw [List.length_take]; omega
  have hlt := leVal_lt (r.take k)
  rw [hl] at hlt
  rw [List.take_succ_eq_append_getElem h, leVal_snoc, hl, or_le _ k _ hlt r[k].toNat_lt]
set_option maxRecDepth 100000 in
set_option maxHeartbeats 1000000 in
theorem get_num (v : Sl) (l : List UInt8) (w : World) (h : bytesAt w v l w.heap.size) (hc : v.n ≤ v.c) (hml : l.length ≤ 1000000000) : Calls Try.prog 140 #[.slice v.a v.n v.c] w fun e w' => e = .returned (getR l) ∧ Below w.heap.size w w' := by
  obtain ⟨a, n, c⟩ := v
  obtain ⟨hn, hcell⟩ := h
  simp only at hn hcell hc
  subst hn
  cases l with
  | nil =>
    clear hcell
    go_enter Try.func140, Try.ntmps140
    go_wp2_with fail
    refine wp_scope_fwd 0 (by rfl) ?_
    go_wp2_with fail
    go_step3
    go_wp2_with fail
    rw [jump_goto]
    go_wp2_with fail
    rw [Exit.noGoto_ret]
    exact bodyPost_ret (v := getR []) (by simp [results, Try.results140, go_sem, getR, getS]) rfl ⟨rfl, Below.refl _ _⟩
  | cons b r =>
    obtain ⟨g, off, ha, hg, hcc⟩ := hcell (by simp)
    subst ha
    have hb := b.toNat_lt
    have hm := markN_le b
    have c0 : w.cell? ⟨g, off, none⟩ = some (.int .u8 b.toNat) := by have := hcc 0 (by simp); simpa [byteV] using this
    have hmk := size_mark b w
    simp only [List.length_cons] at hc hml ⊢
    clear hcell
    by_cases hlt : r.length < markN b
    · have hR : Hid (getR (b :: r) = .tuple #[.int .i64 0, .int .i64 0, .int .i64 2]) := by unfold Hid getR; simp only [getS]; rw [if_pos hlt]
      have hd : decide ((r.length : Int) + 1 < 1 + (markN b : Int)) = true := decide_eq_true (by omega)
      go_enter Try.func140, Try.ntmps140
      go_wp2_with fail
      refine wp_scope_fwd 0 (by rfl) ?_
      go_wp2_with (go_at_call 163; refine hmk.mono ?_; rintro e w' ⟨rfl, rfl⟩)
      go_step3
      go_wp2_with fail
      rw [jump_goto]
      go_wp2_with fail
      rw [Exit.noGoto_ret]
      exact bodyPost_ret (v := .tuple #[.int .i64 0, .int .i64 0, .int .i64 2]) (by simp [results, Try.results140, go_sem]) rfl ⟨by rw [hR.out], Below.refl _ _⟩
    · by_cases h0 : markN b = 0
      · have hR : Hid (getR (b :: r) = .tuple #[.int .i64 b.toNat, .int .i64 1, .int .i64 0]) := by unfold Hid getR; simp only [getS]; rw [if_neg hlt, if_pos h0]; rfl
        rw [h0] at hmk
        go_enter Try.func140, Try.ntmps140
        go_wp2_with fail
        refine wp_scope_fwd 0 (by rfl) ?_
        go_wp2_with (go_at_call 163; refine hmk.mono ?_; rintro e w' ⟨rfl, rfl⟩)
        rw [jump_ret]
        exact bodyPost_ret (v := .tuple #[.int .i64 b.toNat, .int .i64 1, .int .i64 0]) (by simp [results, Try.results140, go_sem]) rfl ⟨by rw [hR.out], Below.refl _ _⟩
      · obtain ⟨N, hN⟩ : ∃ N, N = markN b := ⟨_, rfl⟩
        rw [← hN] at hmk hm hlt h0
        have HN := Lib.hid hN
        have hd : decide ((r.length : Int) + 1 < 1 + (N : Int)) = false := decide_eq_false (by omega)
        clear hN
        go_enter Try.func140, Try.ntmps140
        go_wp2_with fail
        refine wp_scope_fwd 0 (by rfl) ?_
        go_wp2_with (go_at_call 163; refine hmk.mono ?_; rintro e w' ⟨rfl, rfl⟩)
        obtain ⟨VF, hVF⟩ : ∃ VF, VF = leVal (r.take N) := ⟨_, rfl⟩
        have hVl := leVal_lt (r.take N)
        have hrl : (r.take N).length = N := by rw [List.length_take]; omega
        rw [hrl, ← hVF] at hVl
        have hV64 : VF < 18446744073709551616 := Nat.lt_of_lt_of_le hVl (Nat.le_trans (Nat.pow_le_pow_right (by decide) hm) (by decide))
        have HV := Lib.hid hVF
        have HVL := Lib.hid hVl
        clear hVF hVl hrl
        go_loop [5, 30] (fun u i => ∃ k : Nat, k ≤ N ∧ i = .int .i64 k ∧ u = .int .u64 (leVal (r.take k) : Nat)) (fun _ i => N - (intOf i).toNat)
        case atStart => exact ⟨0, Nat.zero_le _, rfl, rfl⟩
        case round =>
          obtain ⟨k, hk, rfl, rfl⟩ := hrel
          by_cases hlt2 : k < N
          · have cb : w.cell? ⟨g, off + 1 + k, none⟩ = some (.int .u8 r[k].toNat) := by
              have := hcc (k + 1) (by simp; omega)
              rw [show off + (k + 1) = off + 1 + k by omega] at this
              simpa [byteV] using this
            have hbk := r[k].toNat_lt
            obtain ⟨x, hx⟩ : ∃ x, x = r[k].toNat := ⟨_, rfl⟩
            rw [← hx] at cb hbk
            obtain ⟨A, hA⟩ : ∃ A, A = leVal (r.take k) := ⟨_, rfl⟩
            rw [← hA]
            have HS : Hid (leVal (r.take (k + 1)) = A ||| x * 2 ^ (8 * k)) := by unfold Hid; rw [leVal_succ r k (by omega), ← hA, hx]
            have dlt : decide ((k : Int) < (N : Int)) = true := decide_eq_true (by omega)
            have HA := Lib.hid hA
            clear hx hA
            go_wp2_with fail
            go_round
            case rel => 
              refine ⟨k + 1, by omega, by go_num, ?_⟩
              rw [HS.out]
              have hkk : 256 ^ (k + 1) ≤ 256 ^ 8 := Nat.pow_le_pow_right (by decide) (by omega)
              have hx2 : x * 2 ^ (8 * k) < 18446744073709551616 := by
                have e : (2 : Nat) ^ (8 * k) = 256 ^ k := by rw [Nat.pow_mul]
                rw [e]
                calc x * 256 ^ k < 256 * 256 ^ k := Nat.mul_lt_mul_of_pos_right hbk (Nat.pow_pos (by decide))
                  _ = 256 ^ (k + 1) := by rw [Nat.pow_succ, Nat.mul_comm]
                  _ ≤ 18446744073709551616 := hkk
              have hA2 : A < 18446744073709551616 := by
                rw [HA.out]
                have h1 := leVal_lt (r.take k)
                refine Nat.lt_of_lt_of_le h1 (Nat.le_trans (Nat.pow_le_pow_right (by decide) (show _ ≤ 8 by rw [List.length_take]; omega)) (by decide))
              have e2 : ((x : Int) * 2 ^ (8 * k)) = ((x * 2 ^ (8 * k) : Nat) : Int) := by simp
              rw [e2, wraps_u64 _ hx2, bits_or_u64 A _ hA2 hx2]
            case measure => simp [intOf]; omega
          · have hkN : k = N := by omega
            subst hkN
            rw [← HV.out]
            have hNk : (r.take k).length = k := by rw [List.length_take]; omega
            by_cases hV2 : VF ≤ 4611686018427387904
            · have dV : decide ((VF : Int) ≤ 4611686018427387904) = true := decide_eq_true (by omega)
              have hsz := fun W : World => Size_num (VF : Int) ⟨by omega, by omega⟩ W
              rw [Int.toNat_natCast] at hsz
              obtain ⟨L, hL⟩ : ∃ L, L = (putS VF).length := ⟨_, rfl⟩
              rw [← hL] at hsz
              by_cases hLk : L = 1 + k
              · have hR : Hid (getR (b :: r) = .tuple #[.int .i64 VF, .int .i64 (1 + k : Nat), .int .i64 0]) := by
                  unfold Hid getR; simp only [getS]; rw [← HN.out, if_neg hlt, if_neg h0, ← HV.out, if_pos ⟨hV2, by rw [← hL, hLk]⟩]
                have dL : ((L : Int) == 1 + (k : Int)) = true := by rw [beq_iff_eq]; omega
                have HH := Lib.hid hLk
                clear hLk hL
                go_wp2_with (go_at_call 164; refine (hsz _).mono ?_; rintro e w1 ⟨rfl, hb1⟩)
                rw [jump_ret]
                exact bodyPost_ret (v := .tuple #[.int .i64 VF, .int .i64 (1 + k : Nat), .int .i64 0]) (by simp [results, Try.results140, go_sem]) rfl ⟨by rw [hR.out], hb1⟩
              · have hR : Hid (getR (b :: r) = .tuple #[.int .i64 0, .int .i64 0, .int .i64 2]) := by
                  unfold Hid getR; simp only [getS]; rw [← HN.out, if_neg hlt, if_neg h0, ← HV.out, if_neg (fun h => hLk (by rw [hL, h.2]))]
                have dL : ((L : Int) == 1 + (k : Int)) = false := by rw [beq_eq_false_iff_ne]; omega
                have HH := Lib.hid hLk
                clear hLk hL
                go_wp2_with (go_at_call 164; refine (hsz _).mono ?_; rintro e w1 ⟨rfl, hb1⟩)
                go_step3
                go_wp2_with fail
                rw [jump_ret]
                exact bodyPost_ret (v := .tuple #[.int .i64 0, .int .i64 0, .int .i64 2]) (by simp [results, Try.results140, go_sem]) rfl ⟨by rw [hR.out], hb1⟩
            · have dV : decide ((VF : Int) ≤ 4611686018427387904) = false := decide_eq_false (by omega)
              have hR : Hid (getR (b :: r) = .tuple #[.int .i64 0, .int .i64 0, .int .i64 2]) := by
                unfold Hid getR; simp only [getS]; rw [← HN.out, if_neg hlt, if_neg h0, ← HV.out, if_neg (fun h => hV2 h.1)]
              have HH := Lib.hid hV2
              clear hV2
              go_wp2_with fail
              go_step3
              go_wp2_with fail
              rw [jump_ret]
              exact bodyPost_ret (v := .tuple #[.int .i64 0, .int .i64 0, .int .i64 2]) (by simp [results, Try.results140, go_sem]) rfl ⟨by rw [hR.out], Below.refl _ _⟩
end Go.Proofs.Ytkiindgcbpkddaa
