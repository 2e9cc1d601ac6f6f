/- The law FileNames: the walk. -/
import Derived.Test.YtaopiefbejajkaaFileO
import Derived.Deep.DeepCutAuto
import Derived.Deep.CutBlock
set_option linter.unusedSimpArgs false
set_option linter.unusedVariables false
namespace Go.Proofs.Ytaopiefbejajkaa
open Go.RowKit Go.Sort
/-- Names that the law leaves out. -/
def badNm (a b c : ByteArray) : Bool :=
  decide ((a.size : Int) < 1) || decide (50 < (a.size : Int)) || decide ((b.size : Int) < 1) || decide (50 < (b.size : Int)) || decide ((c.size : Int) < 1) || decide (50 < (c.size : Int)) || (a.toList == b.toList) || (b.toList == c.toList) || (a.toList == c.toList)
theorem toList_nm {s t : Nm} : (s.1.toList == t.1.toList) = decide (s = t) := by
  by_cases h : s = t
  · subst h; simp
  · rw [decide_eq_false h, beq_eq_false_iff_ne]
    intro e
    rw [ByteArray.toList_eq, ByteArray.toList_eq] at e
    exact h (Subtype.ext (ByteArray.ext (Array.ext' e)))
theorem badNm_no {a b c : Nm} (h : badNm a.1 b.1 c.1 = false) : (okNm a = true ∧ okNm b = true ∧ okNm c = true) ∧ a ≠ b ∧ b ≠ c ∧ a ≠ c := by
  unfold badNm at h
  rw [toList_nm, toList_nm, toList_nm] at h
  simp only [Bool.or_eq_false_iff, decide_eq_false_iff_not] at h
  obtain ⟨⟨⟨⟨⟨⟨⟨⟨h1, h2⟩, h3⟩, h4⟩, h5⟩, h6⟩, h7⟩, h8⟩, h9⟩ := h
  refine ⟨⟨?_, ?_, ?_⟩, h7, h8, h9⟩ <;> simp only [okNm, decide_eq_true_eq] <;> omega
theorem NamesAt.strs {w : World} {B : Nat} {v : Sl} {ns : List Nm} (h : NamesAt w B v ns) : strsAt w v ns := ⟨h.1, fun hn => by
  obtain ⟨g, e, _, _, hc⟩ := h.2 hn
  exact ⟨g, 0, e, fun k hk => by rw [Nat.zero_add]; exact hc k hk⟩⟩
theorem nm3 {M : FsM} {a b c : Nm} (hab : a ≠ b) (hbc : b ≠ c) (hac : a ≠ c) (h : Plain M 3 (fun t => if t ∈ [a, b, c] then some (bytesN t, 0) else none)) {ns : List Nm} (hn : NamesOf M ns) :
    ∃ h3 : ns.length = 3, ns.Perm [a, b, c] ∧ (bytesN ns[0] < bytesN ns[1]) ∧ (bytesN ns[1] < bytesN ns[2]) := by
  have hp : ns.Perm [a, b, c] := (List.perm_ext_iff_of_nodup hn.nodup (by simp [hab, hbc, hac])).2 (fun t => by rw [hn.mem t, h.files]; by_cases ht : t ∈ [a, b, c] <;> simp [ht])
  have h3 : ns.length = 3 := hp.length_eq
  have hs : ∀ i j (hi : i < ns.length) (hj : j < ns.length), i < j → bytesN ns[i] < bytesN ns[j] := by
    intro i j hi hj hij
    have h1 := List.pairwise_iff_getElem.1 hn.sorted i j hi hj hij
    have h2 := List.pairwise_iff_getElem.1 hn.nodup i j hi hj hij
    by_cases g : bytesN ns[i] < bytesN ns[j]
    · exact g
    · exact absurd (bytesN_inj (List.le_antisymm h1 (List.not_lt.1 g))) h2
  exact ⟨h3, hp, hs 0 1 (by omega) (by omega) (by omega), hs 1 2 (by omega) (by omega) (by omega)⟩
set_option maxRecDepth 100000 in
set_option maxHeartbeats 4000000 in
theorem names_any (a b c : Nm) (w : World) :
    Calls Try.prog 12 #[.string a.1, .string b.1, .string c.1] w fun e w' => e = .returned (.bool true) ∧ Below w.heap.size w w' := by
  have ha2 : (a.1.size : Int) ≤ 9223372036854775807 := by have := a.2; unfold maxLen at this; omega
  have hb2 : (b.1.size : Int) ≤ 9223372036854775807 := by have := b.2; unfold maxLen at this; omega
  have hc2 : (c.1.size : Int) ≤ 9223372036854775807 := by have := c.2; unfold maxLen at this; omega
  go_enter Try.func12, Try.ntmps12
  go_upto_region 1 with fail
  go_cut [55] from 13 to 178 (fun v wx => wx = w ∧ v = .bool (badNm a.1 b.1 c.1))
  case first =>
    go_wp2_with fail
    all_goals go_meet
    all_goals refine ⟨rfl, congrArg Value.bool ?_⟩
    all_goals (unfold badNm; simp_all)
    all_goals (intro hx; exfalso; omega)
  case rest =>
    obtain ⟨rfl, rfl⟩ := hcut
    cases hbad : badNm a.1 b.1 c.1 with
    | true =>
      go_wp2_with (go_at_call 42; refine (awake7 _).mono ?_; rintro e w' ⟨rfl, hbw⟩)
      go_ret
      exact ⟨rfl, hbw⟩
    | false =>
      obtain ⟨⟨oa, ob, oc⟩, hab, hbc, hac⟩ := badNm_no hbad
      obtain ⟨l, hl⟩ : ∃ l, l = [a, b, c] := ⟨_, rfl⟩
      have hll : l.length = 3 := by rw [hl]; rfl
      have hnd : l.Nodup := by rw [hl]; simp [hab, hbc, hac]
      have hok : ∀ s ∈ l, okNm s = true := by rw [hl]; simp [oa, ob, oc]
      have OK := Lib.hid (And.intro oa (And.intro ob (And.intro oc (And.intro hab (And.intro hbc (And.intro hac (And.intro hnd (And.intro hok hl))))))))
      clear oa ob oc hab hbc hac hnd hok hbad
      go_wp2_with fail
      refine (new_fs wc).mono ?_
      rintro e w1 ⟨p, rfl, h1, b1⟩
      have H1 := Lib.hid h1
      have B1 := Lib.hid b1
      clear h1 b1
      go_wp2_with fail
      obtain ⟨W, hW⟩ : ∃ W, W = w1.alloc (.cells #[.string a.1, .string b.1, .string c.1] 9) := ⟨_, rfl⟩
      obtain ⟨lb, hlb⟩ : ∃ lb, lb = w1.heap.size := ⟨_, rfl⟩
      rw [← hW, ← hlb]
      have hbW : Below w1.heap.size w1 W := hW ▸ (Below.refl _ _).alloc (Nat.le_refl _) _
      have hWz : W.heap.size = lb + 1 := by rw [hW, hlb]; simp
      have hZ : fsAt W (fun j => wc.heap.size ≤ j ∧ j ≠ lb) p (nmM l 0) := by
        have h2 := (H1.out.zone (T := fun j => wc.heap.size ≤ j ∧ j ≠ lb) (fun k hk hs => ⟨hs, by omega⟩)).below hbW
        exact h2
      have hcell : ∀ k (h : k < l.length), W.cell? ⟨lb, k, none⟩ = some (nmV l[k]) := by
        intro k hk
        have hb : W.heap[lb]? = some (.cells (l.map nmV).toArray 9 (0, 0)) := by rw [hW, hlb, OK.out.2.2.2.2.2.2.2.2]; exact heap_alloc_new w1 _
        rw [(cells_known hb).1]
        simp [hk]
      have hbz : wc.heap.size ≤ lb := by rw [hlb]; exact B1.out.size
      have HZ := Lib.hid hZ
      have HC := Lib.hid hcell
      have BW := Lib.hid (B1.out.trans (hbW.mono B1.out.size))
      clear hZ hcell hbW hW hlb
      go_loopw [9] (fun v9 wr => ∃ k : Nat, k ≤ 3 ∧ v9 = .int .i64 k ∧ fsAt wr (fun j => wc.heap.size ≤ j ∧ j ≠ lb) p (nmM l k) ∧ Zb (fun j => wc.heap.size ≤ j ∧ j ≠ lb) W wr) (fun v9 _ => 3 - (intOf v9).toNat)
      case atStart => exact ⟨0, by omega, rfl, HZ.out, Upd.refl _ _⟩
      case round =>
        obtain ⟨k, hk, rfl, hf, hz⟩ := hrel
        by_cases hlt : k < 3
        · have dlt : decide ((k : Int) < 3) = true := decide_eq_true (by omega)
          have hk0 : (0 : Int) ≤ (k : Int) := by omega
          have hk3 : (k : Int) < 3 := by omega
          have hkl : k < l.length := by omega
          obtain ⟨s, hs⟩ : ∃ s, s = l[k] := ⟨_, rfl⟩
          have cS : wr.cell? ⟨lb, k, none⟩ = some (.string s.1) := by rw [hs]; exact (hz.upd.cell (by omega) (fun h => h.2 rfl) k).trans (HC.out k hkl)
          obtain ⟨w2, c2, run2, b2, z2, cc2, by2⟩ := run_bytes wr.drew s.1
          have hap := append_file (fun j => wc.heap.size ≤ j ∧ j ≠ lb) p (nmM l k) s ⟨some ⟨wr.heap.size, 0, none⟩, s.1.size, c2⟩ (bytesN s) w2 (hf.below ((Below.refl _ wr).drew.trans b2)) ((nmM_plain l OK.out.2.2.2.2.2.2.1 OK.out.2.2.2.2.2.2.2.1 k (by omega)).small (by omega)) (fun j hj => by have h1 := hz.size; have h2 := b2.size; have h3 : wr.drew.heap.size = wr.heap.size := rfl; exact ⟨by omega, by omega⟩) by2 (.inl (by simp)) cc2 (by have := bytesN_ok (OK.out.2.2.2.2.2.2.2.1 l[k] (List.getElem_mem hkl)); rw [hs]; omega)
          have he : appE (nmM l k) s (bytesN s).length = 0 := by rw [hs]; exact nmM_e l OK.out.2.2.2.2.2.2.1 OK.out.2.2.2.2.2.2.2.1 hkl
          have hm : appM (nmM l k) s (bytesN s) = nmM l (k + 1) := by rw [nmM_succ l hkl, ← hs]
          rw [he, hm] at hap
          have run3 : (convert 9 96 (.string s.1)).run Try.prog wr.drew = .ok (.slice (some ⟨wr.heap.size, 0, none⟩) s.1.size c2) w2 := run2
          have hzs : lb < wr.heap.size := by have := hz.size; omega
          have hS0 : wr.drew.cell? ⟨lb, k, none⟩ = some (.string s.1) := cS
          have hS1 : w2.cell? ⟨lb, k, none⟩ = some (.string s.1) := (b2.cell (p := ⟨lb, k, none⟩) hzs).trans cS
          have hz2 : Zb (fun j => wc.heap.size ≤ j ∧ j ≠ lb) wr w2 := Upd.of_below ((Below.refl _ wr).drew.trans b2) _
          have HZ2 := Lib.hid (hz.trans hz2)
          have HAP := Lib.hid hap
          have hl2 : lb < w2.heap.size := Nat.lt_of_lt_of_le hzs b2.size
          clear run2 b2 z2 cc2 by2 hap he hm hs hf hz hz2 cS
          go_wp2_with fail
          go_region_with (go_at_call 44; refine HAP.out.mono ?_; rintro e w3 ⟨rfl, h3, b3⟩)
          all_goals go_wp2_with fail
          all_goals go_roundw
          all_goals first | exact ⟨k + 1, by omega, by go_num, h3, HZ2.out.trans b3⟩ | (simp [intOf]; omega)
        · have hke : k = 3 := by omega
          subst hke
          have dlt : decide (((3 : Nat) : Int) < 3) = false := by decide
          have h3 := nmM_plain l OK.out.2.2.2.2.2.2.1 OK.out.2.2.2.2.2.2.2.1 3 (by omega)
          rw [show l.take 3 = [a, b, c] by rw [OK.out.2.2.2.2.2.2.2.2]; rfl] at h3
          obtain ⟨M, hM⟩ : ∃ M, M = nmM l 3 := ⟨_, rfl⟩
          rw [← hM] at h3 hf
          have hnn := names_file _ p M wr hf (h3.small (by omega))
          have HF := Lib.hid hf
          have HZ3 := Lib.hid hz
          have H3 := Lib.hid h3
          clear hM hf hz h3
          go_wp2_with fail
          refine hnn.mono ?_
          rintro e w4 ⟨⟨na, nn, nc⟩, ns, rfl, hna, hno, b4⟩
          obtain ⟨hn3, hst, hlt1, hlt2⟩ := nm3 OK.out.2.2.2.1 OK.out.2.2.2.2.1 OK.out.2.2.2.2.2.1 H3.out hno
          have hnn3 : nn = 3 := hna.1.trans hn3
          subst hnn3
          obtain ⟨g, e1, hg1, hg2, hgc⟩ := hna.2 (by intro e; rw [e] at hn3; cases hn3)
          simp only at e1
          subst e1
          have i0 : 0 < ns.length := by omega
          obtain ⟨x, hx⟩ : ∃ x : Nm, x = ns[0] := ⟨ns[0], rfl⟩
          have i1 : 1 < ns.length := by omega
          obtain ⟨y, hy⟩ : ∃ y : Nm, y = ns[1] := ⟨ns[1], rfl⟩
          have i2 : 2 < ns.length := by omega
          obtain ⟨z, hz⟩ : ∃ z : Nm, z = ns[2] := ⟨ns[2], rfl⟩
          have c0 : w4.cell? ⟨g, 0, none⟩ = some (.string x.1) := by rw [hx]; exact hgc 0 i0
          have c1 : w4.cell? ⟨g, 1, none⟩ = some (.string y.1) := by rw [hy]; exact hgc 1 i1
          have c2 : w4.cell? ⟨g, 2, none⟩ = some (.string z.1) := by rw [hz]; exact hgc 2 i2
          have HF4 := Lib.hid (HF.out.below b4)
          have B4 := Lib.hid b4
          have hxy : bytesN x < bytesN y := by rw [hx, hy]; exact hlt1
          have hyz : bytesN y < bytesN z := by rw [hy, hz]; exact hlt2
          have t1 : Op.bytesLess x.1.toList y.1.toList = true := by rw [bytesLess_eq, ByteArray.toList_eq, ByteArray.toList_eq]; exact decide_eq_true hxy
          have t2 : Op.bytesLess y.1.toList z.1.toList = true := by rw [bytesLess_eq, ByteArray.toList_eq, ByteArray.toList_eq]; exact decide_eq_true hyz
          clear hnn hna hno b4 hst hlt1 hlt2 hx hy hz hgc hxy hyz
          go_wp2_with fail
          go_quiet (fail)
          clear c0 c1 c2 t1 t2
          obtain ⟨V, hV⟩ : ∃ V, V = w4.drewN nq := ⟨_, rfl⟩
          rw [← hV]
          have hbV : Below w4.heap.size w4 V := hV ▸ below_drewN (Below.refl _ _) nq
          obtain ⟨oa, ob, oc, hab, hbc, hac, _, _, _⟩ := OK.out
          obtain ⟨ch, hp8⟩ := nm_chain a b c M oa ob oc hab hbc hac H3.out
          have CH := Lib.hid ch
          have HP8 := Lib.hid hp8
          have hfV := HF4.out.below hbV
          have hfrV : Fr (fun j => wc.heap.size ≤ j ∧ j ≠ lb) V := fun j hj => by have h1 := HZ3.out.size; have h2 := B4.out.size; have h3 := hbV.size; exact ⟨by omega, by omega⟩
          have hzV : Zb (fun j => wc.heap.size ≤ j ∧ j ≠ lb) W V := HZ3.out.trans (Upd.of_below (B4.out.trans (hbV.mono B4.out.size)) _)
          have HZV := Lib.hid hzV
          have hc := rename_file _ p M a b V hfV CH.out.s3 hfrV
          rw [CH.out.e4] at hc
          clear hV hbV oa ob oc hab hbc hac ch hp8 hfV hzV
          go_wp2_with fail
          refine hc.mono ?_
          rintro e w5 ⟨rfl, h5, b5⟩
          clear hc
          have fr5 := hfrV.grow b5.size
          have hc := rename_file _ p _ a c w5 h5 CH.out.s4 fr5
          rw [CH.out.e5] at hc
          have Z5 := Lib.hid (HZV.out.trans b5)
          clear h5 b5 hfrV
          go_wp2_with fail
          refine hc.mono ?_
          rintro e w6 ⟨rfl, h6, b6⟩
          clear hc
          have fr6 := fr5.grow b6.size
          have hc := remove_file _ p _ c w6 h6 CH.out.s5 fr6
          rw [CH.out.e6] at hc
          have Z6 := Lib.hid (Z5.out.trans b6)
          clear h6 b6 fr5
          go_wp2_with fail
          refine hc.mono ?_
          rintro e w7 ⟨rfl, h7, b7⟩
          clear hc
          have fr7 := fr6.grow b7.size
          have hc := remove_file _ p _ c w7 h7 CH.out.s6 fr7
          rw [CH.out.e7] at hc
          have Z7 := Lib.hid (Z6.out.trans b7)
          clear h7 b7 fr6
          go_wp2_with fail
          refine hc.mono ?_
          rintro e w8 ⟨rfl, h8, b8⟩
          clear hc
          have fr8 := fr7.grow b8.size
          have hc := rename_file _ p _ b b w8 h8 CH.out.s7 fr8
          rw [CH.out.e8] at hc
          have Z8 := Lib.hid (Z7.out.trans b8)
          clear h8 b8 fr7
          go_wp2_with fail
          refine hc.mono ?_
          rintro e w9 ⟨rfl, h9, b9⟩
          clear hc
          have fr9 := fr8.grow b9.size
          change fsAt w9 _ p (nm8 M a b c) at h9
          have hM8 : (nm8 M a b c).files b = some (bytesN a, 0) := by rw [HP8.out.files]; exact if_pos rfl
          have hc := read_file _ p _ b w9 h9
          rw [show readE (nm8 M a b c) b = 0 by unfold readE; rw [hM8]; rfl, hM8] at hc
          have Z9 := Lib.hid (Z8.out.trans b9)
          have H9 := Lib.hid h9
          have F9 := Lib.hid fr9
          have M8 := Lib.hid hM8
          clear h9 b9 fr8 fr9 hM8
          go_wp2_with fail
          refine hc.mono ?_
          rintro e wa ⟨v1, rfl, ho1, ba⟩
          clear hc
          have hst : (convert 96 9 (.slice v1.a v1.n v1.c)).run Try.prog wa = .ok (.string a.1) wa := by
            have h2 : (convert 96 9 (.slice v1.a v1.n v1.c)).run Try.prog wa = .ok (.string ⟨(bytesN a).toArray⟩) wa := bytesAt_str ho1.bytes
            rw [show (⟨(bytesN a).toArray⟩ : ByteArray) = a.1 from ByteArray.ext (by simp [bytesN])] at h2
            exact h2
          have hc := names_file _ p _ wa (H9.out.below ba) (HP8.out.small (by omega))
          have HA := Lib.hid (H9.out.below ba)
          have ZA := Lib.hid (Z9.out.trans (Upd.of_below ba _))
          have FA := Lib.hid (F9.out.grow ba.size)
          have ha3 : (a.1.size : Int) ≤ 50 := by have h0 := OK.out.1; unfold okNm at h0; simp only [decide_eq_true_eq] at h0; omega
          clear ho1 ba ha2 hb2 hc2
          go_wp2_with fail
          refine hc.mono ?_
          rintro e wb ⟨vn, ns', rfl, hna, hno, bb⟩
          clear hc
          have en := nm8_names HP8.out hno
          subst en
          have hb2 : Below wb.heap.size wb (wb.alloc (.cells #[.string b.1] 9)) := (Below.refl _ _).alloc (Nat.le_refl _) _
          have hs1 : strsAt (wb.alloc (.cells #[.string b.1] 9)) vn [b] := (hna.strs).below hb2
          have hs2 : strsAt (wb.alloc (.cells #[.string b.1] 9)) ⟨some ⟨wb.heap.size, 0, none⟩, 1, 1⟩ [b] := ⟨rfl, fun _ => ⟨wb.heap.size, 0, rfl, fun k hk => by
            have hk0 : k = 0 := by simpa using hk
            subst hk0
            rw [World.cell?_alloc_mark wb _ _ (0, 0) (0 + 0)]; rfl⟩⟩
          have hc := strings_al vn ⟨some ⟨wb.heap.size, 0, none⟩, 1, 1⟩ [b] [b] _ hs1 hs2 (by simp) (by simp)
          rw [decide_eq_true rfl] at hc
          have HB := Lib.hid (HA.out.below (bb.trans (hb2.mono bb.size)))
          have ZB := Lib.hid (ZA.out.trans (Upd.of_below (bb.trans (hb2.mono bb.size)) _))
          have FB := Lib.hid (FA.out.grow (bb.trans (hb2.mono bb.size)).size)
          clear hna hno bb hb2 hs1 hs2
          go_wp2_with fail
          refine hc.mono ?_
          rintro e wd ⟨rfl, bd⟩
          clear hc
          obtain ⟨e10, hp10⟩ := HP8.out.trunc_no (s := b) (k := (a.1.size : Int) + 1) (x := (bytesN a, 0)) OK.out.2.1 (if_pos rfl) (.inr (by show ((bytesN a).length : Int) < _; rw [show (bytesN a).length = a.1.size by simp [bytesN]]; omega))
          obtain ⟨e11, hp11⟩ := hp10.trunc (s := b) (k := 1) (x := (bytesN a, 0)) OK.out.2.1 (if_pos rfl) (by omega) (by show (1 : Int) ≤ ((bytesN a).length : Int); have := (bytesN_ok OK.out.1).2; omega)
          have hc := truncate_file _ p _ b ((a.1.size : Int) + 1) wd (HB.out.below bd) (HP8.out.small (by omega)) (FB.out.grow bd.size)
          rw [e10] at hc
          have ZD := Lib.hid (ZB.out.trans (Upd.of_below bd _))
          have FD := Lib.hid (FB.out.grow bd.size)
          have HP10 := Lib.hid hp10
          have HP11 := Lib.hid hp11
          have E11 := Lib.hid e11
          clear bd e10 e11 hp10 hp11
          go_wp2_with fail
          refine hc.mono ?_
          rintro e we ⟨rfl, he, be⟩
          clear hc
          have hc := truncate_file _ p _ b 1 we he (HP10.out.small (by omega)) (FD.out.grow be.size)
          rw [E11.out] at hc
          have ZE := Lib.hid (ZD.out.trans be)
          clear he be
          go_wp2_with fail
          refine hc.mono ?_
          rintro e wf ⟨rfl, hf, bf⟩
          clear hc
          have hc := safe_file _ p _ b wf hf
          rw [show safeE (truncM (truncM (nm8 M a b c) b ((a.1.size : Int) + 1)) b 1) b = 0 by unfold safeE; rw [HP11.out.files]; simp] at hc
          have ZF := Lib.hid (ZE.out.trans bf)
          clear hf bf
          go_wp2_with fail
          refine hc.mono ?_
          rintro e wg ⟨rfl, rfl⟩
          clear hc
          go_wp2_with fail
          refine (awake7 _).mono ?_
          rintro e wh ⟨rfl, bh⟩
          have BH := Lib.hid bh
          clear bh
          go_wp2_with fail
          go_ret
          have z1 : Below wc.heap.size W wf := ZF.out.upd.below BW.out.size (fun k hk => hk.1)
          have z2 := BW.out.trans z1
          exact ⟨rfl, z2.trans (BH.out.mono z2.size)⟩
end Go.Proofs.Ytaopiefbejajkaa
