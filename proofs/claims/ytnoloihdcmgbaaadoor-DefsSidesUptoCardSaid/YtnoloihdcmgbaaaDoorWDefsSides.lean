/- The walk of the law DefsSides. -/
import Derived.Test.YtnoloihdcmgbaaaDoorSides16
import Derived.Test.YtnoloihdcmgbaaaDoorFolded
import Derived.Test.YtnoloihdcmgbaaaDoorSame02
namespace Go.Proofs.YtnoloihdcmgbaaaDoor
open Go.RowKit Go.PlainAid Go.Maps Go.Sort
set_option linter.all false
set_option linter.deprecated false
set_option maxRecDepth 100000
set_option maxHeartbeats 4000000 in
theorem defsSides_main (A : Option Addr) (ca : Nat) (a : List Bl) (B : Option Addr) (cb : Nat) (b : List Bl) (C : Option Addr) (cc : Nat) (c : List Bl) (w : World)
    (hA : Rd (· < w.heap.size) w (.slice A a.length ca) (dBls a)) (hB : Rd (· < w.heap.size) w (.slice B b.length cb) (dBls b)) (hC : Rd (· < w.heap.size) w (.slice C c.length cc) (dBls c)) (hl : D.bulks (dBls a) + D.bulks (dBls b) + D.bulks (dBls c) ≤ 1048576) :
    Calls Tryd.prog 5 #[.slice A a.length ca, .slice B b.length cb, .slice C c.length cc] w fun e w' => e = .returned (.bool true) ∧ Below w.heap.size w w' := by
  have HA := Lib.hid hA
  have HB := Lib.hid hB
  have HC := Lib.hid hC
  clear hA hB hC
  go_enter Tryd.func5, Tryd.ntmps5
  go_wp2_with fail
  refine (awake16_calls _).mono ?_
  rintro e w1 ⟨rfl, hb1⟩
  go_wp2_with fail
  refine (Size10_calls a _ _ _ (HA.out.lt_below hb1)).mono ?_
  rintro e w2 ⟨⟨m, rfl⟩, q, rfl⟩
  have hb2 := below_drewN hb1 q
  by_cases hm : (2000 : Int) < m
  · go_wp2_with fail
    refine (awake16_calls _).mono ?_
    rintro e w3 ⟨rfl, hb3⟩
    go_wp2_with fail
    go_ret
    exact ⟨rfl, below_to hb2 hb2.size hb3⟩
  go_wp2_with fail
  refine (Size10_calls b _ _ _ (HB.out.lt_below hb2)).mono ?_
  rintro e w2 ⟨⟨m2, rfl⟩, q2, rfl⟩
  have hb3 := below_drewN hb1 (q + q2)
  by_cases hm2 : (2000 : Int) < m2
  · go_wp2_with fail
    refine (awake16_calls _).mono ?_
    rintro e w3 ⟨rfl, hb4⟩
    go_wp2_with fail
    go_ret
    exact ⟨rfl, below_to hb3 hb3.size hb4⟩
  go_wp2_with fail
  refine (Size10_calls c _ _ _ (HC.out.lt_below hb3)).mono ?_
  rintro e w2 ⟨⟨m3, rfl⟩, q3, rfl⟩
  have hb4 := below_drewN hb1 (q + q2 + q3)
  by_cases hm3 : (2000 : Int) < m3
  · go_wp2_with fail
    refine (awake16_calls _).mono ?_
    rintro e w3 ⟨rfl, hb5⟩
    go_wp2_with fail
    go_ret
    exact ⟨rfl, below_to hb4 hb4.size hb5⟩
  go_wp2_with fail
  generalize w1.drewN (q + q2 + q3) = W0 at *
  clear hb1 hb2 hb3
  have hdA := defs_sizes _ a (Nat.le_refl _)
  have hdB := defs_sizes _ b (Nat.le_refl _)
  have hdC := defs_sizes _ c (Nat.le_refl _)
  have lA := Nat.le_trans (listOf_len (defsL a)) (defsL_le _ a (Nat.le_refl _))
  have lB := Nat.le_trans (listOf_len (defsL b)) (defsL_le _ b (Nat.le_refl _))
  have lC := Nat.le_trans (listOf_len (defsL c)) (defsL_le _ c (Nat.le_refl _))
  have fB := folded_listOf (folded_defs _ b (Nat.le_refl _))
  have fC := folded_listOf (folded_defs _ c (Nat.le_refl _))
  have sA : ∀ p ∈ listOf (defsL a), p.1.length ≤ 1048576 ∧ p.2.length ≤ 1048576 := listOf_sizes (fun p hp => by have := hdA p hp; omega)
  have sB : ∀ p ∈ listOf (defsL b), p.1.length ≤ 1048576 ∧ p.2.length ≤ 1048576 := listOf_sizes (fun p hp => by have := hdB p hp; omega)
  have sC : ∀ p ∈ listOf (defsL c), p.1.length ≤ 1048576 ∧ p.2.length ≤ 1048576 := listOf_sizes (fun p hp => by have := hdC p hp; omega)
  clear hdA hdB hdC
  have tB := listOf_twice (defsL b)
  have tC := listOf_twice (defsL c)
  refine (Of_calls _ a W0 (HA.out.lt_below hb4) (by omega)).mono ?_
  rintro e w3 ⟨v3, rfl, hr3, hb5⟩
  have hb03 := below_to hb4 hb4.size hb5
  obtain ⟨V3, c3, rfl⟩ := own_slice hr3
  have HR3 := Lib.hid hr3
  clear hr3
  go_wp2_with fail
  refine (Of_calls _ b w3 (HB.out.lt_below hb03) (by omega)).mono ?_
  rintro e w4 ⟨v4, rfl, hr4, hb6⟩
  have hb04 := below_to hb03 hb03.size hb6
  obtain ⟨V4, c4, rfl⟩ := own_slice hr4
  have HR4 := Lib.hid hr4
  clear hr4
  go_wp2_with fail
  refine (Of_calls _ c w4 (HC.out.lt_below hb04) (by omega)).mono ?_
  rintro e w5 ⟨v5, rfl, hr5, hb7⟩
  have hb05 := below_to hb04 hb04.size hb7
  obtain ⟨V5, c5, rfl⟩ := own_slice hr5
  have hX := rd_E (w1 := w5) HR3.out rfl (below_to hb6 hb6.size hb7)
  have hY := rd_E (w1 := w5) HR4.out rfl hb7
  have hZ := rd_E hr5 rfl (Below.refl _ _)
  clear HR3 HR4 hr5 hb4 hb5 hb6 hb7 HA HB HC
  generalize listOf (defsL a) = X at *
  generalize listOf (defsL b) = Y at *
  generalize listOf (defsL c) = Z at *
  have hlX : X.length + Y.length + Z.length ≤ 1048576 := by omega
  clear lA lB lC
  have cXYX := fun (W : World) (hW : Below w5.heap.size w5 W) => Merge_calls _ _ _ X Y X W (hX.lt_below hW) (hY.lt_below hW) (hX.lt_below hW) (by omega) (fun p hp => by simp only [List.mem_append] at hp; rcases hp with (h | h) | h; exact sA p h; exact sB p h; exact sA p h)
  have cXXZ := fun (W : World) (hW : Below w5.heap.size w5 W) => Merge_calls _ _ _ X X Z W (hX.lt_below hW) (hX.lt_below hW) (hZ.lt_below hW) (by omega) (fun p hp => by simp only [List.mem_append] at hp; rcases hp with (h | h) | h; exact sA p h; exact sA p h; exact sC p h)
  have cXYZ := fun (W : World) (hW : Below w5.heap.size w5 W) => Merge_calls _ _ _ X Y Z W (hX.lt_below hW) (hY.lt_below hW) (hZ.lt_below hW) (by omega) (fun p hp => by simp only [List.mem_append] at hp; rcases hp with (h | h) | h; exact sA p h; exact sB p h; exact sC p h)
  have cXZY := fun (W : World) (hW : Below w5.heap.size w5 W) => Merge_calls _ _ _ X Z Y W (hX.lt_below hW) (hZ.lt_below hW) (hY.lt_below hW) (by omega) (fun p hp => by simp only [List.mem_append] at hp; rcases hp with (h | h) | h; exact sA p h; exact sC p h; exact sB p h)
  rw [mergeD_left, tB, clashes_left] at cXYX
  rw [mergeD_right, tC, clashes_right] at cXXZ
  rw [← mergeD_swap, ← clashes_swap] at cXZY
  have C1 := Lib.hid cXYX
  have C2 := Lib.hid cXXZ
  have C3 := Lib.hid cXYZ
  have C4 := Lib.hid cXZY
  clear cXYX cXXZ cXYZ cXZY tB tC
  have hlM := merge_len X Y Z
  have hMf := fun p (hp : p ∈ mergeD X Y Z) => mergeD_find hp
  have HX := Lib.hid hX
  have HY := Lib.hid hY
  have HZ := Lib.hid hZ
  clear hX hY hZ
  generalize mergeD X Y Z = M at *
  generalize clashes X Y Z = K at *
  go_wp2_with fail
  refine (C1.out _ (Below.refl _ _)).mono ?_
  rintro e w6 ⟨v6, k6, rfl, r6, s6, b6⟩
  obtain ⟨V6, c6, rfl⟩ := own_slice r6
  obtain ⟨K6, d6, rfl⟩ := own_slice s6
  have q6 := rd_E r6 rfl (Below.refl _ _)
  have Q6 := Lib.hid q6
  clear r6 s6 q6 C1
  go_wp2_with fail
  refine (C2.out _ b6).mono ?_
  rintro e w7 ⟨v7, k7, rfl, r7, s7, b7⟩
  have p7 := below_to b6 b6.size b7
  obtain ⟨V7, c7, rfl⟩ := own_slice r7
  obtain ⟨K7, d7, rfl⟩ := own_slice s7
  have q7 := rd_E r7 rfl (Below.refl _ _)
  have Q7 := Lib.hid q7
  clear r7 s7 q7 C2
  go_wp2_with fail
  refine (C3.out _ p7).mono ?_
  rintro e w8 ⟨v8, k8, rfl, r8, s8, b8⟩
  have p8 := below_to p7 p7.size b8
  obtain ⟨V8, c8, rfl⟩ := own_slice r8
  obtain ⟨K8, d8, rfl⟩ := own_slice s8
  have q8 := rd_E r8 rfl (Below.refl _ _)
  have Q8 := Lib.hid q8
  have S8 := Lib.hid s8
  clear r8 s8 q8 C3
  go_wp2_with fail
  refine (C4.out _ p8).mono ?_
  rintro e w9 ⟨v9, k9, rfl, r9, s9, b9⟩
  have p9 := below_to p8 p8.size b9
  obtain ⟨V9, c9, rfl⟩ := own_slice r9
  obtain ⟨K9, d9, rfl⟩ := own_slice s9
  have q9 := rd_E r9 rfl (Below.refl _ _)
  have Q9 := Lib.hid q9
  have S9 := Lib.hid s9
  clear r9 s9 q9 C4
  have b69 := below_to b7 b7.size (below_to b8 b8.size b9)
  have b79 := below_to b8 b8.size b9
  have L6 := fun (W : World) (h : Below w9.heap.size w9 W) => list16_calls _ Y W (Q6.out.lt_below (below_to b69 b69.size h)) (by omega)
  have LY := fun (W : World) (h : Below w9.heap.size w9 W) => list16_calls _ Y W (HY.out.lt_below (below_to p9 p9.size h)) (by omega)
  have L7 := fun (W : World) (h : Below w9.heap.size w9 W) => list16_calls _ Z W (Q7.out.lt_below (below_to b79 b79.size h)) (by omega)
  have LZ := fun (W : World) (h : Below w9.heap.size w9 W) => list16_calls _ Z W (HZ.out.lt_below (below_to p9 p9.size h)) (by omega)
  have L8 := fun (W : World) (h : Below w9.heap.size w9 W) => list16_calls _ M W (Q8.out.lt_below (below_to b9 b9.size h)) (by omega)
  have L9 := fun (W : World) (h : Below w9.heap.size w9 W) => list16_calls _ M W (Q9.out.lt_below h) (by omega)
  have H6 := Lib.hid L6
  have H7 := Lib.hid L7
  have H8 := Lib.hid L8
  have H9 := Lib.hid L9
  have HY' := Lib.hid LY
  have HZ' := Lib.hid LZ
  clear L6 L7 L8 L9 LY LZ
  go_wp2_with fail
  refine (H6.out _ (Below.refl _ _)).mono ?_
  rintro e u1 ⟨x1, rfl, y1, z1⟩
  obtain ⟨X1, c1', rfl⟩ := own_slice y1
  have Y1 := Lib.hid y1
  clear y1
  go_wp2_with fail
  refine (HY'.out _ z1).mono ?_
  rintro e u2 ⟨x2, rfl, y2, z2⟩
  obtain ⟨X2, c2', rfl⟩ := own_slice y2
  have Y2 := Lib.hid y2
  clear y2
  go_wp2_with fail
  refine (same16_calls _ _ Y _ (rd_RE Y1.out rfl z2) (rd_RE Y2.out rfl (Below.refl _ _))).mono ?_
  rintro e u3 ⟨rfl, n3, rfl⟩
  have z3 := below_drewN (below_to z1 z1.size z2) n3
  go_wp2_with fail
  refine (H7.out _ z3).mono ?_
  rintro e u4 ⟨x4, rfl, y4, z4⟩
  have z4' := below_to z3 z3.size z4
  obtain ⟨X4, c4', rfl⟩ := own_slice y4
  have Y4 := Lib.hid y4
  clear y4
  go_wp2_with fail
  refine (HZ'.out _ z4').mono ?_
  rintro e u5 ⟨x5, rfl, y5, z5⟩
  have z5' := below_to z4' z4'.size z5
  obtain ⟨X5, c5', rfl⟩ := own_slice y5
  have Y5 := Lib.hid y5
  clear y5
  go_wp2_with fail
  refine (same16_calls _ _ Z _ (rd_RE Y4.out rfl z5) (rd_RE Y5.out rfl (Below.refl _ _))).mono ?_
  rintro e u6 ⟨rfl, n6, rfl⟩
  have z6 := below_drewN z5' n6
  go_wp2_with fail
  refine (H8.out _ z6).mono ?_
  rintro e u7 ⟨x7, rfl, y7, z7⟩
  have z7' := below_to z6 z6.size z7
  obtain ⟨X7, c7', rfl⟩ := own_slice y7
  have Y7 := Lib.hid y7
  clear y7
  go_wp2_with fail
  refine (H9.out _ z7').mono ?_
  rintro e u8 ⟨x8, rfl, y8, z8⟩
  have z8' := below_to z7' z7'.size z8
  obtain ⟨X8, c8', rfl⟩ := own_slice y8
  have Y8 := Lib.hid y8
  clear y8
  go_wp2_with fail
  refine (same16_calls _ _ M _ (rd_RE Y7.out rfl z8) (rd_RE Y8.out rfl (Below.refl _ _))).mono ?_
  rintro e u9 ⟨rfl, n9, rfl⟩
  have z9 := below_drewN z8' n9
  go_wp2_with fail
  have hss := Same_calls _ _ (K.map fun k => (⟨k.toArray⟩ : ByteArray)) (K.map fun k => (⟨k.toArray⟩ : ByteArray)) (u8.drewN n9) (rd_enc (w1 := u8.drewN n9) S8.out rfl (below_to b9 b9.size z9)) (rd_enc (w1 := u8.drewN n9) S9.out rfl z9)
  refine hss.mono ?_
  rintro e u10 ⟨rfl, n10, rfl⟩
  simp only [decide_true]
  have z10 := below_drewN z8' (n9 + n10)
  have up : ∀ {es : List (Bs × Bs)}, (∀ p ∈ es, p.1.length ≤ 1048576 ∧ p.2.length ≤ 1048576) → ∀ p ∈ es, p.1.length ≤ maxLen ∧ p.2.length ≤ maxLen := fun h p hp => by have := h p hp; unfold maxLen; omega
  have fY := fun (W : World) (hW : Below w9.heap.size w9 W) (p : Bs × Bs) (hp : p.1.length ≤ 1048576) (hf : (foldS ⟨p.1.toArray⟩).data.toList = p.1) => by
    have h := Find_calls _ Y ⟨p.1.toArray⟩ W (HY.out.lt_below (below_to p9 p9.size hW)) (by omega) (up sB) (by have e : (ByteArray.mk p.1.toArray).size = p.1.length := rfl; omega)
    rw [hf] at h
    exact h
  have fZ := fun (W : World) (hW : Below w9.heap.size w9 W) (p : Bs × Bs) (hp : p.1.length ≤ 1048576) (hf : (foldS ⟨p.1.toArray⟩).data.toList = p.1) => by
    have h := Find_calls _ Z ⟨p.1.toArray⟩ W (HZ.out.lt_below (below_to p9 p9.size hW)) (by omega) (up sC) (by have e : (ByteArray.mk p.1.toArray).size = p.1.length := rfl; omega)
    rw [hf] at h
    exact h
  have FY := Lib.hid fY
  have FZ := Lib.hid fZ
  have MF := Lib.hid hMf
  have FB := Lib.hid fB
  have FC := Lib.hid fC
  have SB := Lib.hid sB
  have SC := Lib.hid sC
  clear fY fZ hMf fB fC sA sB sC up hss H6 H7 H8 H9 HY' HZ' Y1 Y2 Y4 Y5 Y7 Y8 Q6 Q7 Q9 S8 S9 HX HY HZ z1 z2 z3 z4 z4' z5 z5' z6 z7 z7' z8 z8' z9
  have hend := below_to hb05 hb05.size (below_to p9 p9.size z10)
  go_wp2_with fail
  go_loopw [113] (fun vi wr => ∃ i : Nat, i ≤ M.length ∧ vi = .int .i64 i ∧ Below w9.heap.size w9 wr) (fun vi _ => M.length - (intOf vi).toNat)
  case atStart => exact ⟨0, Nat.zero_le _, rfl, z10⟩
  case round =>
    obtain ⟨i, hi, rfl, hB⟩ := hrel
    by_cases hlt : i < M.length
    · obtain ⟨bb, o, rfl, _, hbl, c0', c1'⟩ := Q8.out.e_at hlt
      have hbl9 : bb < w9.heap.size := Nat.lt_of_lt_of_le hbl b9.size
      have k0 := below_at' b9 hbl c0'
      have k1 := below_at' b9 hbl c1'
      have c0 := below_at' hB hbl9 k0
      have c1 := below_at' hB hbl9 k1
      have hfnd := MF.out _ (List.getElem_mem hlt)
      clear c0' c1'
      generalize M[i] = p at *
      have hfo : (foldS ⟨p.1.toArray⟩).data.toList = p.1 := by rcases hfnd with h | h; exact FB.out _ (find_some_mem h); exact FC.out _ (find_some_mem h)
      have hsz : p.1.length ≤ 1048576 := by rcases hfnd with h | h; exact (SB.out _ (find_some_mem h)).1; exact (SC.out _ (find_some_mem h)).1
      have f1 := fun (W : World) (hW : Below w9.heap.size w9 W) => FY.out W hW p hsz hfo
      have f2 := fun (W : World) (hW : Below w9.heap.size w9 W) => FZ.out W hW p hsz hfo
      have bq := beq_t (rfl : (⟨p.2.toArray⟩ : ByteArray) = ⟨p.2.toArray⟩)
      by_cases hh : find Y p.1 = some p.2
      · rw [hh] at f1
        simp only [Option.getD_some, Option.isSome_some] at f1
        generalize find Z p.1 = zc at *
        have F1 := Lib.hid f1
        have F2 := Lib.hid f2
        clear f1 f2 hfnd hfo hh
        go_wp2_with fail
        refine (F1.out _ hB).mono ?_
        rintro e u1 ⟨rfl, hbA⟩
        have hB2 := below_to hB hB.size hbA
        have d0 := below_at' hB2 hbl9 k0
        clear c0 c1
        go_wp2_with fail
        refine (F2.out _ hB2).mono ?_
        rintro e u2 ⟨rfl, hbC⟩
        have hB3 := below_to hB2 hB2.size hbC
        have d1 := below_at' hB3 hbl9 k1
        clear d0
        go_wp2_with fail
        go_roundw
        case rel => exact ⟨i + 1, by omega, by go_num, hB3⟩
        case measure => simp [intOf]; omega
      · have h2 : find Z p.1 = some p.2 := by rcases hfnd with h | h; exact absurd h hh; exact h
        rw [h2] at f2
        simp only [Option.getD_some, Option.isSome_some] at f2
        cases hy : find Y p.1 with
        | none =>
          rw [hy] at f1
          simp only [Option.getD_none, Option.isSome_none] at f1
          have F1 := Lib.hid f1
          have F2 := Lib.hid f2
          clear f1 f2 hfnd hfo hh h2 hy
          go_wp2_with fail
          refine (F1.out _ hB).mono ?_
          rintro e u1 ⟨rfl, hbA⟩
          have hB2 := below_to hB hB.size hbA
          have d0 := below_at' hB2 hbl9 k0
          clear c0 c1
          go_wp2_with fail
          refine (F2.out _ hB2).mono ?_
          rintro e u2 ⟨rfl, hbC⟩
          have hB3 := below_to hB2 hB2.size hbC
          have d1 := below_at' hB3 hbl9 k1
          clear d0
          go_wp2_with fail
          go_roundw
          case rel => exact ⟨i + 1, by omega, by go_num, hB3⟩
          case measure => simp [intOf]; omega
        | some v =>
          rw [hy] at f1
          simp only [Option.getD_some, Option.isSome_some] at f1
          have bqf := beq_f (a := ⟨v.toArray⟩) (b := ⟨p.2.toArray⟩) (fun e => hh (by rw [hy]; injection e with e; rw [Array.toList_inj.2 e |> fun h => (by simpa using h : v = p.2)]))
          have F1 := Lib.hid f1
          have F2 := Lib.hid f2
          clear f1 f2 hfnd hfo hh h2 hy
          go_wp2_with fail
          refine (F1.out _ hB).mono ?_
          rintro e u1 ⟨rfl, hbA⟩
          have hB2 := below_to hB hB.size hbA
          have d0 := below_at' hB2 hbl9 k0
          clear c0 c1
          go_wp2_with fail
          refine (F2.out _ hB2).mono ?_
          rintro e u2 ⟨rfl, hbC⟩
          have hB3 := below_to hB2 hB2.size hbC
          have d1 := below_at' hB3 hbl9 k1
          clear d0
          go_wp2_with fail
          all_goals
            go_roundw
            case rel => exact ⟨i + 1, by omega, by go_num, hB3⟩
            case measure => simp [intOf]; omega
    · go_wp2
      go_ret
      exact ⟨rfl, below_to hb05 hb05.size (below_to p9 p9.size hB)⟩
theorem treeTypes : TreeTypes Tryd.prog 3 9 25 105 26 28 22 :=
  ⟨Tryd.underlying3, Tryd.underlying9, Tryd.underlying25, Tryd.underlying26, Tryd.underlying22, ⟨_, _, _, Tryd.underlying105, rfl, rfl, rfl⟩, ⟨_, _, _, _, _, _, Tryd.underlying28, rfl, rfl, rfl, rfl, rfl, rfl⟩⟩
theorem defsSides_walk (A0 : Option Addr) (n0 c0 : Nat) (X0 : D) (A1 : Option Addr) (n1 c1 : Nat) (X1 : D) (A2 : Option Addr) (n2 c2 : Nat) (X2 : D) (w : World)
    (g0 : Rep (· < w.heap.size) w X0 [.slice A0 n0 c0]) (ty0 : ∃ n, HasTy Tryd.prog n 22 X0) (g1 : Rep (· < w.heap.size) w X1 [.slice A1 n1 c1]) (ty1 : ∃ n, HasTy Tryd.prog n 22 X1) (g2 : Rep (· < w.heap.size) w X2 [.slice A2 n2 c2]) (ty2 : ∃ n, HasTy Tryd.prog n 22 X2) (hb : X0.bulk + X1.bulk + X2.bulk ≤ 1048576) :
    Calls Tryd.prog 5 #[.slice A0 n0 c0, .slice A1 n1 c1, .slice A2 n2 c2] w fun e w' => e = .returned (.bool true) ∧ Below w.heap.size w w' := by
  obtain ⟨m0, ty0⟩ := ty0
  obtain ⟨m1, ty1⟩ := ty1
  obtain ⟨m2, ty2⟩ := ty2
  obtain ⟨a, rfl, _⟩ := (HasTy.bl treeTypes).2 ty0
  obtain ⟨b, rfl, _⟩ := (HasTy.bl treeTypes).2 ty1
  obtain ⟨c, rfl, _⟩ := (HasTy.bl treeTypes).2 ty2
  have hA : Rd (· < w.heap.size) w (.slice A0 n0 c0) (dBls a) := g0
  have hB : Rd (· < w.heap.size) w (.slice A1 n1 c1) (dBls b) := g1
  have hC : Rd (· < w.heap.size) w (.slice A2 n2 c2) (dBls c) := g2
  obtain ⟨rfl, _⟩ := rd_bls hA
  obtain ⟨rfl, _⟩ := rd_bls hB
  obtain ⟨rfl, _⟩ := rd_bls hC
  simp only [D.bulk] at hb
  exact defsSides_main A0 c0 a A1 c1 b A2 c2 c w hA hB hC (by omega)
end Go.Proofs.YtnoloihdcmgbaaaDoor
