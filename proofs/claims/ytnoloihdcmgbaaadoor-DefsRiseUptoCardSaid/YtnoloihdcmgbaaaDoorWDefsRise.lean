/- The walk of the law DefsRise. -/
import Derived.Test.YtnoloihdcmgbaaaDoorSides16
import Derived.Test.YtnoloihdcmgbaaaDoorFolded
import Derived.Test.YtnoloihdcmgbaaaDoorSame02
import Derived.Laws.Cover1
namespace Go.Proofs.YtnoloihdcmgbaaaDoor
open Go.RowKit Go.PlainAid Go.Maps Go.Sort
set_option linter.all false
set_option linter.deprecated false
set_option maxRecDepth 100000
set_option maxHeartbeats 4000000 in
theorem defsRise_main (A : Option Addr) (ca : Nat) (a : List Bl) (B : Option Addr) (cb : Nat) (b : List Bl) (C : Option Addr) (cc : Nat) (c : List Bl) (w : World)
    (hA : Rd (· < w.heap.size) w (.slice A a.length ca) (dBls a)) (hB : Rd (· < w.heap.size) w (.slice B b.length cb) (dBls b)) (hC : Rd (· < w.heap.size) w (.slice C c.length cc) (dBls c)) (hl : D.bulks (dBls a) + D.bulks (dBls b) + D.bulks (dBls c) ≤ 1048576) :
    Calls Tryd.prog 6 #[.slice A a.length ca, .slice B b.length cb, .slice C c.length cc] w fun e w' => e = .returned (.bool true) ∧ Below w.heap.size w w' := by
  have HA := Lib.hid hA
  have HB := Lib.hid hB
  have HC := Lib.hid hC
  clear hA hB hC
  go_enter Tryd.func6, Tryd.ntmps6
  go_wp2_with fail
  refine (awake16_calls _).mono ?_
  rintro e w1 ⟨rfl, hb1⟩
  go_wp2_with fail
  refine (Size10_calls a _ _ _ (HA.out.lt_below hb1)).mono ?_
  rintro e w2 ⟨⟨m, rfl⟩, q, rfl⟩
  have hb2 := below_drewN hb1 q
  by_cases hm : (2000 : Int) < m
  · go_wp2_with fail
    refine (awake16_calls _).mono ?_
    rintro e w3 ⟨rfl, hb3⟩
    go_wp2_with fail
    go_ret
    exact ⟨rfl, below_to hb2 hb2.size hb3⟩
  go_wp2_with fail
  refine (Size10_calls b _ _ _ (HB.out.lt_below hb2)).mono ?_
  rintro e w2 ⟨⟨m2, rfl⟩, q2, rfl⟩
  have hb3 := below_drewN hb1 (q + q2)
  by_cases hm2 : (2000 : Int) < m2
  · go_wp2_with fail
    refine (awake16_calls _).mono ?_
    rintro e w3 ⟨rfl, hb4⟩
    go_wp2_with fail
    go_ret
    exact ⟨rfl, below_to hb3 hb3.size hb4⟩
  go_wp2_with fail
  refine (Size10_calls c _ _ _ (HC.out.lt_below hb3)).mono ?_
  rintro e w2 ⟨⟨m3, rfl⟩, q3, rfl⟩
  have hb4 := below_drewN hb1 (q + q2 + q3)
  by_cases hm3 : (2000 : Int) < m3
  · go_wp2_with fail
    refine (awake16_calls _).mono ?_
    rintro e w3 ⟨rfl, hb5⟩
    go_wp2_with fail
    go_ret
    exact ⟨rfl, below_to hb4 hb4.size hb5⟩
  go_wp2_with fail
  generalize w1.drewN (q + q2 + q3) = W0 at *
  clear hb1 hb2 hb3
  have hdA := defs_sizes _ a (Nat.le_refl _)
  have hdB := defs_sizes _ b (Nat.le_refl _)
  have hdC := defs_sizes _ c (Nat.le_refl _)
  have lA := Nat.le_trans (listOf_len (defsL a)) (defsL_le _ a (Nat.le_refl _))
  have lB := Nat.le_trans (listOf_len (defsL b)) (defsL_le _ b (Nat.le_refl _))
  have lC := Nat.le_trans (listOf_len (defsL c)) (defsL_le _ c (Nat.le_refl _))
  have fB := folded_listOf (folded_defs _ b (Nat.le_refl _))
  have fC := folded_listOf (folded_defs _ c (Nat.le_refl _))
  have sA : ∀ p ∈ listOf (defsL a), p.1.length ≤ 1048576 ∧ p.2.length ≤ 1048576 := listOf_sizes (fun p hp => by have := hdA p hp; omega)
  have sB : ∀ p ∈ listOf (defsL b), p.1.length ≤ 1048576 ∧ p.2.length ≤ 1048576 := listOf_sizes (fun p hp => by have := hdB p hp; omega)
  have sC : ∀ p ∈ listOf (defsL c), p.1.length ≤ 1048576 ∧ p.2.length ≤ 1048576 := listOf_sizes (fun p hp => by have := hdC p hp; omega)
  clear hdA hdB hdC
  have fA := folded_listOf (folded_defs _ a (Nat.le_refl _))
  have rA := listOf_rises (defsL a)
  have rB := listOf_rises (defsL b)
  have rC := listOf_rises (defsL c)
  refine (Of_calls _ a W0 (HA.out.lt_below hb4) (by omega)).mono ?_
  rintro e w3 ⟨v3, rfl, hr3, hb5⟩
  have hb03 := below_to hb4 hb4.size hb5
  obtain ⟨V3, c3, rfl⟩ := own_slice hr3
  have HR3 := Lib.hid hr3
  clear hr3
  go_wp2_with fail
  refine (Of_calls _ b w3 (HB.out.lt_below hb03) (by omega)).mono ?_
  rintro e w4 ⟨v4, rfl, hr4, hb6⟩
  have hb04 := below_to hb03 hb03.size hb6
  obtain ⟨V4, c4, rfl⟩ := own_slice hr4
  have HR4 := Lib.hid hr4
  clear hr4
  go_wp2_with fail
  refine (Of_calls _ c w4 (HC.out.lt_below hb04) (by omega)).mono ?_
  rintro e w5 ⟨v5, rfl, hr5, hb7⟩
  have hb05 := below_to hb04 hb04.size hb7
  obtain ⟨V5, c5, rfl⟩ := own_slice hr5
  have hX := rd_E (w1 := w5) HR3.out rfl (below_to hb6 hb6.size hb7)
  have hY := rd_E (w1 := w5) HR4.out rfl hb7
  have hZ := rd_E hr5 rfl (Below.refl _ _)
  clear HR3 HR4 hr5 hb4 hb5 hb6 hb7 HA HB HC
  generalize listOf (defsL a) = X at *
  generalize listOf (defsL b) = Y at *
  generalize listOf (defsL c) = Z at *
  have hlX : X.length + Y.length + Z.length ≤ 1048576 := by omega
  clear lA lB lC
  have cXYZ := Merge_calls _ _ _ X Y Z w5 hX hY hZ (by omega) (fun p hp => by simp only [List.mem_append] at hp; rcases hp with (h | h) | h; exact sA p h; exact sB p h; exact sC p h)
  have C3 := Lib.hid cXYZ
  clear cXYZ
  have hlM := merge_len X Y Z
  have rM : ((mergeD X Y Z).map (·.1)).Pairwise (· < ·) := listOf_rises _
  have rK := clashes_rise X Y Z
  have kL : ∀ k ∈ clashes X Y Z, (foldS ⟨k.toArray⟩).data.toList = k ∧ k.length ≤ 1048576 := fun k hk => by
    obtain ⟨p, hp, rfl⟩ := List.mem_map.1 (clashes_label hk)
    simp only [List.mem_append] at hp
    rcases hp with (h | h) | h
    · exact ⟨fA p h, (sA p h).1⟩
    · exact ⟨fB p h, (sB p h).1⟩
    · exact ⟨fC p h, (sC p h).1⟩
  have kN : ∀ k ∈ clashes X Y Z, find (mergeD X Y Z) k = none := fun k hk => clashes_none hk
  have sM : ∀ p ∈ mergeD X Y Z, p.1.length ≤ maxLen ∧ p.2.length ≤ maxLen := fun p hp => by
    rcases mergeD_find hp with h | h
    · have := sB _ (find_some_mem h); unfold maxLen; simp only at this; omega
    · have := sC _ (find_some_mem h); unfold maxLen; simp only at this; omega
  generalize mergeD X Y Z = M at *
  generalize clashes X Y Z = K at *
  go_wp2_with fail
  refine C3.out.mono ?_
  rintro e w8 ⟨v8, k8, rfl, r8, s8, b8⟩
  obtain ⟨V8, c8, rfl⟩ := own_slice r8
  obtain ⟨K8, d8, rfl⟩ := own_slice s8
  have q8 := rd_E r8 rfl (Below.refl _ _)
  have hlitr : ∀ W : World, W = w8.alloc (.cells #[.slice V3 X.length c3, .slice V4 Y.length c4, .slice V5 Z.length c5, .slice V8 M.length c8] 31) → Rd (· < W.heap.size) W (.slice (some ⟨w8.heap.size, 0, none⟩) 4 4) (dess [X, Y, Z, M]) := fun W hW => Rd.lit' (t := 31) (ds := dess [X, Y, Z, M]) (cs := [.slice V3 X.length c3, .slice V4 Y.length c4, .slice V5 Z.length c5, .slice V8 M.length c8]) (repall_cons (hX.lt_below b8) (repall_cons (hY.lt_below b8) (repall_cons (hZ.lt_below b8) (repall_cons q8 repall_nil)))) (by simp [dess]) hW
  have hrs : ∀ l ∈ [X, Y, Z, M], (l.map (·.1)).Pairwise (· < ·) := by
    intro l hl
    simp only [List.mem_cons, List.not_mem_nil, or_false] at hl
    rcases hl with rfl | rfl | rfl | rfl
    · exact rA
    · exact rB
    · exact rC
    · exact rM
  have hls : ∀ l ∈ [X, Y, Z, M], l.length ≤ 1048576 := by
    intro l hl
    simp only [List.mem_cons, List.not_mem_nil, or_false] at hl
    rcases hl with rfl | rfl | rfl | rfl <;> omega
  have HLR := Lib.hid hlitr
  have HRS := Lib.hid hrs
  have HLS := Lib.hid hls
  have S8 := Lib.hid s8
  have Q8 := Lib.hid q8
  have KL := Lib.hid kL
  have KN := Lib.hid kN
  have SM := Lib.hid sM
  have RK := Lib.hid rK
  clear hlitr hrs hls s8 r8 q8 kL kN sM rK rM rA rB rC fA fB fC sA sB sC C3 hX hY hZ
  have pb := below_alloc (Below.refl w8.heap.size w8) (Nat.le_refl _) (.cells #[.slice V3 X.length c3, .slice V4 Y.length c4, .slice V5 Z.length c5, .slice V8 M.length c8] 31)
  have HL4 := Lib.hid (HLR.out _ rfl)
  go_wp2_with fail
  generalize w8.alloc (.cells #[.slice V3 X.length c3, .slice V4 Y.length c4, .slice V5 Z.length c5, .slice V8 M.length c8] 31) = wL at *
  generalize hlss : [X, Y, Z, M] = lss at *
  have hl4 : lss.length = 4 := by rw [← hlss]; rfl
  have HL := Lib.hid hl4
  clear hlss hl4 HLR
  go_loopw [55] (fun vi wr => ∃ i : Nat, i ≤ lss.length ∧ vi = .int .i64 i ∧ Below wL.heap.size wL wr) (fun vi _ => lss.length - (intOf vi).toNat)
  case atStart => exact ⟨0, Nat.zero_le _, rfl, Below.refl _ _⟩
  case round =>
    obtain ⟨i, hi, rfl, hB⟩ := hrel
    by_cases hlt : i < lss.length
    · have hi4 : i < 4 := by have := HL.out; omega
      have hz4 : (i : Int) < 4 := by omega
      obtain ⟨b1, o1, c1, u, hv, _, hbl, hcell, hRu⟩ := HL4.out.esl_at hlt
      obtain ⟨hA, hn4, hc4⟩ := Value.slice.inj hv
      clear hn4 hc4
      injection hA with hA
      injection hA with hA1 hA2
      subst hA1; subst hA2
      have hcell' := below_at' hB hbl hcell
      have hri := HRS.out _ (List.getElem_mem hlt)
      have hle := HLS.out _ (List.getElem_mem hlt)
      obtain ⟨A', c', rfl, hc', _⟩ := hRu.form
      rw [List.length_map] at hcell' hc' hRu
      rw [Nat.zero_add] at hcell'
      clear hcell hv
      generalize lss[i] = l at *
      have HR := Lib.hid hRu
      have HI := Lib.hid hri
      clear hRu hri
      go_wp2_with fail
      go_loopw [61] (fun vk wx => ∃ k : Nat, k ≤ l.length ∧ vk = .int .i64 k ∧ Below wL.heap.size wL wx) (fun vk _ => l.length - (intOf vk).toNat)
      case atStart => exact ⟨0, Nat.zero_le _, rfl, hB⟩
      case round =>
        obtain ⟨k, hk, rfl, hBx⟩ := hrel
        by_cases hlk : k < l.length
        · by_cases hk0 : 0 < k
          · obtain ⟨ba, oa, rfl, _, hba, x0, _⟩ := HR.out.e_at hlk
            obtain ⟨bb, ob, hv, _, hbb, y0, _⟩ := HR.out.e_at (i := k - 1) (by omega)
            injection hv with hv
            injection hv with hv1 hv2
            subst hv1; subst hv2
            have hls := less_t (rise_at HI.out (i := k) hk0 (by simpa using hlk))
            simp only [List.getElem_map] at hls
            have x0' := below_at' hBx hba x0
            have y0' := below_at' hBx hba y0
            clear x0 y0
            generalize l[k] = p at *
            generalize l[k - 1] = q at *
            have hls2 : Op.bytesLess q.1 p.1 = true := by rw [bytesLess_eq]; rw [bytesLess_eq, ByteArray.toList_eq, ByteArray.toList_eq] at hls; simpa using hls
            have e1 : IntKind.i64.wrap ((k : Int) - 1) = (k : Int) - 1 := IntWalk.i64_in _ (by omega)
            have hm1 : ((k : Int) - 1).toNat = k - 1 := by omega
            have hm2 : (0 : Int) ≤ (k : Int) - 1 := by omega
            have hm3 : (1 : Int) ≤ (k : Int) := by omega
            have hm4 : (k : Int) - 1 < (l.length : Int) := by omega
            have hm5 : 1 ≤ k := hk0
            have hg1 : decide ((0 : Int) < (k : Int)) = true := by rw [decide_eq_true_eq]; omega
            go_wp2_with fail
            go_quiet (fail)
            go_wp2_with fail
            go_roundw
            case rel => exact ⟨k + 1, by omega, by go_num, below_drewN hBx _⟩
            case measure => simp [intOf]; omega
          · have hkz : decide ((0 : Int) < (k : Int)) = false := by rw [decide_eq_false_iff_not]; omega
            go_wp2_with fail
            go_quiet (fail)
            go_wp2_with fail
            go_roundw
            case rel => exact ⟨k + 1, by omega, by go_num, below_drewN hBx _⟩
            case measure => simp [intOf]; omega
        · have hie : k = l.length := by omega
          go_wp2_with fail
          go_roundw
          case rel => exact ⟨i + 1, by omega, by go_num, hBx⟩
          case measure => simp [intOf]; omega
    · have hz4 : ¬ (i : Int) < 4 := by have := HL.out; omega
      have hz4' : (4 : Int) ≤ (i : Int) := by omega
      have hKr := rd_enc (w1 := w8) S8.out rfl (Below.refl _ _)
      have HK := Lib.hid hKr
      have hfd := fun (W : World) (hW : Below w8.heap.size w8 W) (k : Bs) (hk : k ∈ K) => by
        have h := Find_calls _ M ⟨k.toArray⟩ W (Q8.out.lt_below hW) (by omega) SM.out (by have e : (ByteArray.mk k.toArray).size = k.length := rfl; have := (KL.out k hk).2; omega)
        rw [(KL.out k hk).1, KN.out k hk] at h
        simp only [Option.getD_none, Option.isSome_none] at h
        exact h
      have HFD := Lib.hid hfd
      clear hfd hKr
      have hB8 := below_to pb pb.size hB
      go_wp2_with fail
      go_loopw [84] (fun vi wx => ∃ j : Nat, j ≤ K.length ∧ vi = .int .i64 j ∧ Below w8.heap.size w8 wx) (fun vi _ => K.length - (intOf vi).toNat)
      case atStart => exact ⟨0, Nat.zero_le _, rfl, hB8⟩
      case round =>
        obtain ⟨j, hj, rfl, hBx⟩ := hrel
        by_cases hlj : j < K.length
        · have hlj' : j < (K.map fun k => (⟨k.toArray⟩ : ByteArray)).length := by simpa using hlj
          obtain ⟨ba, oa, rfl, _, hba, x0⟩ := HK.out.str_cell hlj'
          rw [List.getElem_map] at x0
          have f1 := fun (W : World) (hW : Below w8.heap.size w8 W) => HFD.out W hW K[j] (List.getElem_mem hlj)
          by_cases hj0 : 0 < j
          · obtain ⟨bb, ob, hv, _, hbb, y0⟩ := HK.out.str_cell (i := j - 1) (by simp; omega)
            rw [List.getElem_map] at y0
            injection hv with hv
            injection hv with hv1 hv2
            subst hv1; subst hv2
            have hls := less_t (rise_at RK.out (i := j) hj0 hlj)
            generalize K[j] = p at *
            generalize K[j - 1] = q at *
            have F1 := Lib.hid f1
            have x1 := below_at' hBx hba x0
            clear f1
            go_wp2_with fail
            refine (F1.out _ hBx).mono ?_
            rintro e wy ⟨rfl, by1⟩
            have hBy := below_to hBx hBx.size by1
            clear x1
            have x2 := below_at' hBy hba x0
            have y2 := below_at' hBy hba y0
            have hls2 : Op.bytesLess q p = true := by rw [bytesLess_eq]; rw [bytesLess_eq, ByteArray.toList_eq, ByteArray.toList_eq] at hls; simpa using hls
            have e1 : IntKind.i64.wrap ((j : Int) - 1) = (j : Int) - 1 := IntWalk.i64_in _ (by omega)
            have hm1 : ((j : Int) - 1).toNat = j - 1 := by omega
            have hm2 : (0 : Int) ≤ (j : Int) - 1 := by omega
            have hm3 : (1 : Int) ≤ (j : Int) := by omega
            have hm4 : (j : Int) - 1 < (K.length : Int) := by omega
            have hm5 : 1 ≤ j := hj0
            have hg1 : decide ((0 : Int) < (j : Int)) = true := by rw [decide_eq_true_eq]; omega
            go_wp2_with fail
            go_quiet (fail)
            go_wp2_with fail
            go_roundw
            case rel => exact ⟨j + 1, by omega, by go_num, below_drewN hBy _⟩
            case measure => simp [intOf]; omega
          · have hjz : decide ((0 : Int) < (j : Int)) = false := by rw [decide_eq_false_iff_not]; omega
            generalize K[j] = p at *
            have F1 := Lib.hid f1
            have x1 := below_at' hBx hba x0
            clear f1
            go_wp2_with fail
            refine (F1.out _ hBx).mono ?_
            rintro e wy ⟨rfl, by1⟩
            have hBy := below_to hBx hBx.size by1
            clear x1
            go_wp2_with fail
            go_quiet (fail)
            go_wp2_with fail
            go_roundw
            case rel =>
              exact ⟨j + 1, by omega, by go_num, below_drewN hBy _⟩
            case measure => simp [intOf]; omega
        · have hie : j = K.length := by omega
          have hdec : decide ((M.length : Int) + (K.length : Int) ≤ (X.length : Int) + (Y.length : Int) + (Z.length : Int)) = true := by rw [decide_eq_true_eq]; omega
          have HD := Lib.hid hdec
          clear hdec
          go_wp2_with fail
          go_ret
          exact ⟨ret_bool HD.out, below_to hb05 hb05.size (below_to b8 b8.size hBx)⟩
theorem treeTypes : TreeTypes Tryd.prog 3 9 25 105 26 28 22 :=
  ⟨Tryd.underlying3, Tryd.underlying9, Tryd.underlying25, Tryd.underlying26, Tryd.underlying22, ⟨_, _, _, Tryd.underlying105, rfl, rfl, rfl⟩, ⟨_, _, _, _, _, _, Tryd.underlying28, rfl, rfl, rfl, rfl, rfl, rfl⟩⟩
theorem defsRise_walk (A0 : Option Addr) (n0 c0 : Nat) (X0 : D) (A1 : Option Addr) (n1 c1 : Nat) (X1 : D) (A2 : Option Addr) (n2 c2 : Nat) (X2 : D) (w : World)
    (g0 : Rep (· < w.heap.size) w X0 [.slice A0 n0 c0]) (ty0 : ∃ n, HasTy Tryd.prog n 22 X0) (g1 : Rep (· < w.heap.size) w X1 [.slice A1 n1 c1]) (ty1 : ∃ n, HasTy Tryd.prog n 22 X1) (g2 : Rep (· < w.heap.size) w X2 [.slice A2 n2 c2]) (ty2 : ∃ n, HasTy Tryd.prog n 22 X2) (hb : X0.bulk + X1.bulk + X2.bulk ≤ 1048576) :
    Calls Tryd.prog 6 #[.slice A0 n0 c0, .slice A1 n1 c1, .slice A2 n2 c2] w fun e w' => e = .returned (.bool true) ∧ Below w.heap.size w w' := by
  obtain ⟨m0, ty0⟩ := ty0
  obtain ⟨m1, ty1⟩ := ty1
  obtain ⟨m2, ty2⟩ := ty2
  obtain ⟨a, rfl, _⟩ := (HasTy.bl treeTypes).2 ty0
  obtain ⟨b, rfl, _⟩ := (HasTy.bl treeTypes).2 ty1
  obtain ⟨c, rfl, _⟩ := (HasTy.bl treeTypes).2 ty2
  have hA : Rd (· < w.heap.size) w (.slice A0 n0 c0) (dBls a) := g0
  have hB : Rd (· < w.heap.size) w (.slice A1 n1 c1) (dBls b) := g1
  have hC : Rd (· < w.heap.size) w (.slice A2 n2 c2) (dBls c) := g2
  obtain ⟨rfl, _⟩ := rd_bls hA
  obtain ⟨rfl, _⟩ := rd_bls hB
  obtain ⟨rfl, _⟩ := rd_bls hC
  simp only [D.bulk] at hb
  exact defsRise_main A0 c0 a A1 c1 b A2 c2 c w hA hB hC (by omega)
end Go.Proofs.YtnoloihdcmgbaaaDoor
