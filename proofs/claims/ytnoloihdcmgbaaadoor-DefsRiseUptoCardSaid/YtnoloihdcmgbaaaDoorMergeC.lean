/- The walk of defs.Merge. -/
import Derived.Test.YtnoloihdcmgbaaaDoorMergeW
import Derived.Test.YtnoloihdcmgbaaaDoorTill
namespace Go.Proofs.YtnoloihdcmgbaaaDoor
open Go.RowKit Go.PlainAid Go.Maps Go.Sort
set_option linter.all false
set_option linter.deprecated false
theorem below4 (w : World) (a b c d : Obj) : Below w.heap.size w ((((w.alloc a).alloc b).alloc c).alloc d) :=
  below_alloc (below_alloc (below_alloc (below_alloc (Below.refl _ _) (Nat.le_refl _) a) (by simp) b) (by simp; omega) c) (by simp; omega) d
theorem size4 (w : World) (a b c d : Obj) : w.heap.size ≤ ((((w.alloc a).alloc b).alloc c).alloc d).heap.size := (below4 w a b c d).size
theorem infoStrC : (Tryd.prog.info? 9).map (fun i => (i.zero, i.size, i.bytes)) = some (some (.string ByteArray.empty), 1, 16) := by kernel_rfl
theorem grown_under {A B C : World} {o : Option Nat} (h : A.grownBy B o) (hb : Below A.heap.size B C) : A.grownBy C o :=
  ⟨(by first | exact h.os.trans hb.os | exact hb.os.trans h.os), (by first | exact h.tape.trans hb.tape | exact hb.tape.trans h.tape), (by first | exact h.output.trans hb.output | exact hb.output.trans h.output), Nat.le_trans h.size hb.size, fun k hk hne => (hb.block k hk).trans (h.block k hk hne)⟩
theorem eq_t {w : World} {x y : Option Bs} (h : x = y) : (binOp .eql 69 (.agg #[.string ⟨(x.getD []).toArray⟩, .bool x.isSome]) (.agg #[.string ⟨(y.getD []).toArray⟩, .bool y.isSome])).run Tryd.prog w = .ok (.bool true) w := by
  simp only [binOp, Sem.run_bind, eq_place, decide_eq_true h]; rfl
theorem eq_f {w : World} {x y : Option Bs} (h : ¬ x = y) : (binOp .eql 69 (.agg #[.string ⟨(x.getD []).toArray⟩, .bool x.isSome]) (.agg #[.string ⟨(y.getD []).toArray⟩, .bool y.isSome])).run Tryd.prog w = .ok (.bool false) w := by
  simp only [binOp, Sem.run_bind, eq_place, decide_eq_false h]; rfl
theorem ne_t {w : World} {x y : Option Bs} (h : ¬ x = y) : (binOp .neq 69 (.agg #[.string ⟨(x.getD []).toArray⟩, .bool x.isSome]) (.agg #[.string ⟨(y.getD []).toArray⟩, .bool y.isSome])).run Tryd.prog w = .ok (.bool true) w := by
  simp only [binOp, Sem.run_bind, eq_place, decide_eq_false h]; rfl
theorem ne_f {w : World} {x y : Option Bs} (h : x = y) : (binOp .neq 69 (.agg #[.string ⟨(x.getD []).toArray⟩, .bool x.isSome]) (.agg #[.string ⟨(y.getD []).toArray⟩, .bool y.isSome])).run Tryd.prog w = .ok (.bool false) w := by
  simp only [binOp, Sem.run_bind, eq_place, decide_eq_true h]; rfl
set_option maxRecDepth 100000 in
set_option maxHeartbeats 20000000 in
theorem Merge_calls (v1 v2 v3 : Value) (b o t : List (Bs × Bs)) (w : World) (h1 : Rd (· < w.heap.size) w v1 (b.map dE)) (h2 : Rd (· < w.heap.size) w v2 (o.map dE)) (h3 : Rd (· < w.heap.size) w v3 (t.map dE))
    (hn : b.length + o.length + t.length ≤ 4194304) (hz : ∀ p ∈ b ++ o ++ t, p.1.length ≤ 1048576 ∧ p.2.length ≤ 1048576) :
    Calls Tryd.prog 16 #[v1, v2, v3] w fun e w' => ∃ v c, e = .returned (.tuple #[v, c]) ∧ w'.ownsRow w.heap.size 35 2 v (mergeD b o t).length ((mergeD b o t).flatMap cellsE) ∧ w'.ownsRow w.heap.size 9 1 c (clashes b o t).length ((clashes b o t).map encStr) ∧ Below w.heap.size w w' := by
  have hmm := @run_makeMap Tryd.prog
  obtain ⟨A1, c1, rfl, _, _⟩ := h1.form
  obtain ⟨A2, c2, rfl, _, _⟩ := h2.form
  obtain ⟨A3, c3, rfl, _, _⟩ := h3.form
  rw [List.length_map] at *
  have zz : ∀ p ∈ b ++ o ++ t, p.1.length ≤ maxLen ∧ p.2.length ≤ maxLen := fun p hp => by have := hz p hp; unfold maxLen; omega
  have H1 := Lib.hid h1
  have H2 := Lib.hid h2
  have H3 := Lib.hid h3
  have ZZ := Lib.hid zz
  have HZ := Lib.hid hz
  clear h1 h2 h3 zz hz
  have hln : (b ++ o ++ t).length ≤ 4194304 := by simp only [List.length_append]; omega
  obtain ⟨all, hall⟩ : ∃ all, all = b ++ o ++ t := ⟨_, rfl⟩
  have zza : ∀ p ∈ all, p.1.length ≤ maxLen ∧ p.2.length ≤ maxLen := by rw [hall]; exact ZZ.out
  have ZA := Lib.hid zza
  rw [← hall] at hln
  have hks : uniqL (all.map (·.1)) = labelsD b o t := by rw [hall]; rfl
  have hkl : ∀ k ∈ labelsD b o t, k.length ≤ 1048576 := fun k hk => by
    obtain ⟨p, hp, rfl⟩ := List.mem_map.1 (((uniqL_spec _).2.1 k).1 hk)
    exact (HZ.out p hp).1
  have hkn : (labelsD b o t).length ≤ 4194304 := by
    have := (uniqL_spec (all.map (·.1))).2.2
    rw [hks, List.length_map] at this
    omega
  have HMD : mergeD b o t = listOf (outD (labelsD b o t) b o t) := rfl
  have HCD : clashes b o t = clashD (labelsD b o t) b o t := rfl
  rw [HMD, HCD]
  clear HMD HCD
  generalize labelsD b o t = ks at *
  have HKS := Lib.hid hks
  have KL := Lib.hid hkl
  clear hks hkl
  go_enter Tryd.func16, Tryd.ntmps16
  go_wp2_with fail
  refine (tableOf_calls _ b w H1.out (by omega) (fun p hp => ZZ.out p (by simp [hp]))).mono ?_
  rintro e w1 ⟨rfl, D1, o1, T1, b1⟩
  go_wp2_with fail
  refine (tableOf_calls _ o w1 (H2.out.lt_below b1) (by omega) (fun p hp => ZZ.out p (by simp [hp]))).mono ?_
  rintro e w2 ⟨rfl, D2, o2, T2, b2⟩
  have p2 := below_to b1 b1.size b2
  go_wp2_with fail
  refine (tableOf_calls _ t w2 (H3.out.lt_below p2) (by omega) (fun p hp => ZZ.out p (by simp [hp]))).mono ?_
  rintro e w3 ⟨rfl, D3, o3, T3, b3⟩
  have p3 := below_to p2 p2.size b3
  have hlit : ∀ W : World, W = w3.alloc (.cells #[.slice A1 b.length c1, .slice A2 o.length c2, .slice A3 t.length c3] 31) → Rd (· < W.heap.size) W (.slice (some ⟨w3.heap.size, 0, none⟩) 3 3) (dess [b, o, t]) := fun W hW => Rd.lit' (t := 31) (ds := dess [b, o, t]) (cs := [.slice A1 b.length c1, .slice A2 o.length c2, .slice A3 t.length c3]) (repall_cons (H1.out.lt_below p3) (repall_cons (H2.out.lt_below p3) (repall_cons (H3.out.lt_below p3) repall_nil))) (by simp [dess]) hW
  have hfl : ([b, o, t] : List (List (Bs × Bs))).flatten = all := by rw [hall]; simp
  have hcc := fun (W : World) (hW : W = w3.alloc (.cells #[.slice A1 b.length c1, .slice A2 o.length c2, .slice A3 t.length c3] 31)) => ConcatE_calls _ _ W (hlit W hW) (by simp) (by rw [hfl]; omega)
  rw [hfl] at hcc
  have HCC := Lib.hid hcc
  have HALL := Lib.hid hall
  clear hcc hfl hlit hall zza
  have pL := below_alloc (Below.refl w3.heap.size w3) (Nat.le_refl _) (.cells #[.slice A1 b.length c1, .slice A2 o.length c2, .slice A3 t.length c3] 31)
  go_wp2_with fail
  have HC4 := HCC.out _ rfl
  refine HC4.mono ?_
  generalize w3.alloc (.cells #[.slice A1 b.length c1, .slice A2 o.length c2, .slice A3 t.length c3] 31) = wL at *
  rintro e w4 ⟨v4, rfl, r4, b4⟩
  clear HCC HC4
  obtain ⟨V4, c4, rfl⟩ := own_slice r4
  have R4 := Lib.hid r4
  clear r4
  go_wp2_with fail
  refine (tableOf_calls _ all w4 (rd_E R4.out rfl (Below.refl _ _)) hln ZA.out).mono ?_
  rintro e w5 ⟨rfl, D5, o5, T5, b5⟩
  go_wp2_with fail
  have hmade : OwnT (w5.alloc (.map #[] 0)) w5.heap.size 0 (.map []) := World.ownsMap_made _ _ _ _
  have pM := below_alloc (Below.refl w5.heap.size w5) (Nat.le_refl _) (.map #[] 0)
  have hM5 : w5.heap.size < (w5.alloc (.map #[] 0)).heap.size := by simp
  refine (Keys_calls w4.heap.size _).mono ?_
  rintro e w6 ⟨rfl, rfl⟩
  have hso := Sorted_calls w4.heap.size _ all D5 (w5.alloc (.map #[] 0)) (map_below o5 pM) T5 (by omega)
  rw [HKS.out] at hso
  have HSO := Lib.hid hso
  clear hso HKS
  have hsz : w.heap.size < w5.heap.size ∧ w1.heap.size < w5.heap.size ∧ w2.heap.size < w5.heap.size := by
    have := o1.lt; have := o2.lt; have := o3.lt
    have := b2.size; have := b3.size; have := pL.size; have := b4.size; have := b5.size
    omega
  have s0 := below_to b4 b4.size (below_to b5 b5.size pM)
  have s3 := below_to pL pL.size s0
  have s2 := below_to b3 b3.size s3
  have s1 := below_to b2 b2.size s2
  have sw := below_to b1 b1.size s1
  have oA := map_below o1 s1
  have oB := map_below o2 s2
  have oC := map_below o3 s3
  generalize w5.alloc (.map #[] 0) = w6 at *
  generalize w5.heap.size = bo at *
  go_wp2_with fail
  refine HSO.out.mono ?_
  rintro e wS ⟨vS, rfl, rS, bS⟩
  obtain ⟨VS, cS, rfl⟩ := own_slice rS
  have RS := Lib.hid rS
  have hpre := below_to sw sw.size bS
  have hmS := map_below hmade bS
  have oA := map_below oA bS
  have oB := map_below oB bS
  have oC := map_below oC bS
  have hbS : bo < wS.heap.size := Nat.lt_of_lt_of_le hM5 bS.size
  clear rS HSO s0 s1 s2 s3 sw bS hmade o1 o2 o3 pL b1 b2 b3 b4 b5 p2 p3 R4 ZA o5 T5 H1 H2 H3 pM
  have TA := Lib.hid T1
  have TB := Lib.hid T2
  have TC := Lib.hid T3
  clear T1 T2 T3
  go_wp2_with fail
  go_loopw [13, 37] (fun vc vi wr => ∃ i : Nat, i ≤ ks.length ∧ vi = .int .i64 i ∧ (∃ D', OwnT wr bo i D' ∧ Tab (outD (ks.take i) b o t) D') ∧ (wr.ownsRow wS.heap.size 9 1 vc (clashD (ks.take i) b o t).length ((clashD (ks.take i) b o t).map encStr) ∧ wS.heap.size ≤ wr.heap.size) ∧ wS.grownBy wr (some bo)) (fun _ vi _ => ks.length - (intOf vi).toNat)
  case atStart => exact ⟨0, Nat.zero_le _, rfl, ⟨_, hmS, Tab.nil⟩, ⟨World.ownsRow_nil _ _ _ _, Nat.le_refl _⟩, grown_refl _ _⟩
  case round =>
    clear hmS
    obtain ⟨i, hi, rfl, ⟨Dm, om, Tm⟩, ⟨oc, hsr⟩, hg⟩ := hrel
    by_cases hlt : i < ks.length
    · obtain ⟨g, cap, hv, hg1, hg2⟩ := RS.out.form (by omega)
      obtain ⟨e1, _, e3⟩ := Value.slice.inj hv
      subst e1; subst e3
      have hgne : g ≠ bo := by omega
      have hcell : wS.cell? ⟨g, i, none⟩ = some (encStr ks[i]) := by rw [RS.out.cellAt i (by omega)]; simp [hlt]
      have hcell' := (World.cell?_of_block (a := ⟨g, i, none⟩) (hg.block g hg2 (fun e => by injection e with e; omega))).trans hcell
      have hkm := List.getElem_mem hlt
      have hkz := KL.out _ hkm
      have htk : ks.take (i + 1) = ks.take i ++ [ks[i]] := by rw [List.take_succ_eq_append_getElem hlt]
      have qA := map_at oA (hg.block _ (by have := hsz.1; omega) (fun e => by injection e with e; omega))
      have qB := map_at oB (hg.block _ (by have := hsz.2.1; omega) (fun e => by injection e with e; omega))
      have qC := map_at oC (hg.block _ (by have := hsz.2.2; omega) (fun e => by injection e with e; omega))
      have hoS := outD_snoc (ks.take i) ks[i] b o t
      have hcS := clashD_snoc (ks.take i) ks[i] b o t
      rw [← htk] at hoS hcS
      have HO := Lib.hid hoS
      have HC := Lib.hid hcS
      clear hcell htk hkm hv hoS hcS
      generalize ks[i] = k at *
      unfold encStr at hcell'
      have hks : (ByteArray.mk k.toArray).size ≤ maxLen := by have : (ByteArray.mk k.toArray).size = k.length := rfl; unfold maxLen; omega
      go_wp2_with fail
      refine (tat_calls _ _ b D1 ⟨k.toArray⟩ wr qA TA.out hks).mono ?_
      rintro e wa ⟨rfl, ba⟩
      go_wp2_with fail
      refine (tat_calls _ _ o D2 ⟨k.toArray⟩ wa (map_below qB ba) TB.out hks).mono ?_
      rintro e wb ⟨rfl, bb⟩
      have ba2 := below_to ba ba.size bb
      go_wp2_with fail
      refine (tat_calls _ _ t D3 ⟨k.toArray⟩ wb (map_below qC ba2) TC.out hks).mono ?_
      rintro e wc ⟨rfl, bc⟩
      have ba3 := below_to ba2 ba2.size bc
      have hgc := grown_then hg (grown_below ba3 (some bo))
      have occ := own_same oc (fun g' hv => ba3.block g' (oc.lt g' hv).2)
      have omc := map_below om ba3
      have hsc : wS.heap.size ≤ wc.heap.size := Nat.le_trans hsr ba3.size
      have hadd := fun (v : Bs) (W : World) (hW : Below wc.heap.size wc W) (hv : v.length ≤ 1048576) => tadd_calls bo i (outD (ks.take i) b o t) Dm ⟨k.toArray⟩ ⟨v.toArray⟩ W (map_below omc hW) Tm (by unfold maxLen; omega) hks (by have : (ByteArray.mk v.toArray).size = v.length := rfl; unfold maxLen; omega)
      have hcl : (clashD (ks.take i) b o t).length ≤ i := Nat.le_trans (List.length_filter_le _ _) (by rw [List.length_take]; omega)
      have hvz : ∀ v, (find o k = some v ∨ find t k = some v) → v.length ≤ 1048576 := fun v hv => by
        rcases hv with h | h
        · exact (HZ.out _ (List.mem_append_left _ (List.mem_append_right _ (find_some_mem h)))).2
        · exact (HZ.out _ (List.mem_append_right _ (find_some_mem h))).2
      have HADD := Lib.hid hadd
      have HT := Lib.hid Tm
      clear hadd Tm om oc hg ba ba2 ba3 bb bc qA qB qC hcell'
      by_cases h1 : find t k = find b k
      · have hw : winO (find b k) (find o k) (find t k) = some (find o k) := by unfold winO; rw [if_pos h1]
        have HO2 := HO.out
        have HC2 := HC.out
        rw [hw] at HO2 HC2
        have x1 := fun W => eq_t (w := W) h1
        clear h1 hw HO HC
        cases hy : find o k with
        | none =>
          rw [hy] at HO2
          simp only [Option.join_some, Option.map_none, Option.map_some, Option.toList_none, Option.toList_some, List.append_nil, Option.isNone_some, Bool.false_eq_true, if_false] at HO2 HC2
          have HO3 := Lib.hid HO2
          have HC3 := Lib.hid HC2
          clear HO2 HC2 hy hvz
          simp only [Option.getD_none, Option.isSome_none]
          go_wp2_with fail
          go_roundw
          case rel => exact ⟨i + 1, by omega, by go_num, ⟨Dm, (map_below omc (below4 wc _ _ _ _)).mono (by omega), by rw [HO3.out]; exact HT.out⟩, ⟨by rw [HC3.out]; exact own_same occ (fun g' hv => (below4 wc _ _ _ _).block g' (occ.lt g' hv).2), Nat.le_trans hsc (size4 wc _ _ _ _)⟩, grown_then hgc (grown_below (below4 wc _ _ _ _) _)⟩
          case measure => simp [intOf]; omega
        | some v =>
          rw [hy] at HO2
          simp only [Option.join_some, Option.map_none, Option.map_some, Option.toList_none, Option.toList_some, List.append_nil, Option.isNone_some, Bool.false_eq_true, if_false] at HO2 HC2
          have hv : v.length ≤ 1048576 := hvz v (Or.inl hy)
          have HO3 := Lib.hid HO2
          have HC3 := Lib.hid HC2
          clear HO2 HC2 hy hvz
          simp only [Option.getD_some, Option.isSome_some]
          go_wp2_with (go_at_call 39; go_must (refine (HADD.out v _ (below4 wc _ _ _ _) hv).mono ?_); rintro e wd ⟨rfl, Dd, od, Td, gd⟩)
          go_roundw
          case rel => exact ⟨i + 1, by omega, by go_num, ⟨Dd, od, by rw [HO3.out]; exact Td⟩, ⟨by rw [HC3.out]; exact own_same occ (fun g' hv => (gd.block g' (Nat.lt_of_lt_of_le (occ.lt g' hv).2 (size4 wc _ _ _ _)) (fun e => by injection e with e; have := (occ.lt g' hv).1; omega)).trans ((below4 wc _ _ _ _).block g' (occ.lt g' hv).2)), Nat.le_trans hsc (Nat.le_trans (size4 wc _ _ _ _) gd.size)⟩, grown_then (grown_then hgc (grown_below (below4 wc _ _ _ _) _)) gd⟩
          case measure => simp [intOf]; omega
      · by_cases h2 : find o k = find b k ∨ find o k = find t k
        · have hw : winO (find b k) (find o k) (find t k) = some (find t k) := by unfold winO; rw [if_neg h1, if_pos h2]
          have HO2 := HO.out
          have HC2 := HC.out
          rw [hw] at HO2 HC2
          clear hw HO HC
          by_cases h3 : find o k = find b k
          · have x2 := fun W => ne_f (w := W) h3
            have x1 := fun W => eq_f (w := W) h1
            cases hy : find t k with
            | none =>
              rw [hy] at HO2
              simp only [Option.join_some, Option.map_none, Option.map_some, Option.toList_none, Option.toList_some, List.append_nil, Option.isNone_some, Bool.false_eq_true, if_false] at HO2 HC2
              rw [hy] at x1
              simp only [Option.getD_none, Option.isSome_none] at x1
              clear h1 h2 h3
              have HO3 := Lib.hid HO2
              have HC3 := Lib.hid HC2
              clear HO2 HC2 hy hvz
              simp only [Option.getD_none, Option.isSome_none]
              go_wp2_with fail
              go_roundw
              case rel => exact ⟨i + 1, by omega, by go_num, ⟨Dm, (map_below omc (below4 wc _ _ _ _)).mono (by omega), by rw [HO3.out]; exact HT.out⟩, ⟨by rw [HC3.out]; exact own_same occ (fun g' hv => (below4 wc _ _ _ _).block g' (occ.lt g' hv).2), Nat.le_trans hsc (size4 wc _ _ _ _)⟩, grown_then hgc (grown_below (below4 wc _ _ _ _) _)⟩
              case measure => simp [intOf]; omega
            | some v =>
              rw [hy] at HO2
              simp only [Option.join_some, Option.map_none, Option.map_some, Option.toList_none, Option.toList_some, List.append_nil, Option.isNone_some, Bool.false_eq_true, if_false] at HO2 HC2
              rw [hy] at x1
              simp only [Option.getD_some, Option.isSome_some] at x1
              clear h1 h2 h3
              have hv : v.length ≤ 1048576 := hvz v (Or.inr hy)
              have HO3 := Lib.hid HO2
              have HC3 := Lib.hid HC2
              clear HO2 HC2 hy hvz
              simp only [Option.getD_some, Option.isSome_some]
              go_wp2_with (go_at_call 39; go_must (refine (HADD.out v _ (below4 wc _ _ _ _) hv).mono ?_); rintro e wd ⟨rfl, Dd, od, Td, gd⟩)
              go_roundw
              case rel => exact ⟨i + 1, by omega, by go_num, ⟨Dd, od, by rw [HO3.out]; exact Td⟩, ⟨by rw [HC3.out]; exact own_same occ (fun g' hv => (gd.block g' (Nat.lt_of_lt_of_le (occ.lt g' hv).2 (size4 wc _ _ _ _)) (fun e => by injection e with e; have := (occ.lt g' hv).1; omega)).trans ((below4 wc _ _ _ _).block g' (occ.lt g' hv).2)), Nat.le_trans hsc (Nat.le_trans (size4 wc _ _ _ _) gd.size)⟩, grown_then (grown_then hgc (grown_below (below4 wc _ _ _ _) _)) gd⟩
              case measure => simp [intOf]; omega
          · have x2 := fun W => ne_t (w := W) h3
            have h4 : find o k = find t k := h2.resolve_left h3
            have x3 := fun W => ne_f (w := W) h4
            have x1 := fun W => eq_f (w := W) h1
            cases hy : find t k with
            | none =>
              rw [hy] at HO2
              simp only [Option.join_some, Option.map_none, Option.map_some, Option.toList_none, Option.toList_some, List.append_nil, Option.isNone_some, Bool.false_eq_true, if_false] at HO2 HC2
              rw [hy] at x1 x3
              simp only [Option.getD_none, Option.isSome_none] at x1 x3
              clear h1 h2 h3 h4
              have HO3 := Lib.hid HO2
              have HC3 := Lib.hid HC2
              clear HO2 HC2 hy hvz
              simp only [Option.getD_none, Option.isSome_none]
              go_wp2_with fail
              go_roundw
              case rel => exact ⟨i + 1, by omega, by go_num, ⟨Dm, (map_below omc (below4 wc _ _ _ _)).mono (by omega), by rw [HO3.out]; exact HT.out⟩, ⟨by rw [HC3.out]; exact own_same occ (fun g' hv => (below4 wc _ _ _ _).block g' (occ.lt g' hv).2), Nat.le_trans hsc (size4 wc _ _ _ _)⟩, grown_then hgc (grown_below (below4 wc _ _ _ _) _)⟩
              case measure => simp [intOf]; omega
            | some v =>
              rw [hy] at HO2
              simp only [Option.join_some, Option.map_none, Option.map_some, Option.toList_none, Option.toList_some, List.append_nil, Option.isNone_some, Bool.false_eq_true, if_false] at HO2 HC2
              rw [hy] at x1 x3
              simp only [Option.getD_some, Option.isSome_some] at x1 x3
              clear h1 h2 h3 h4
              have hv : v.length ≤ 1048576 := hvz v (Or.inr hy)
              have HO3 := Lib.hid HO2
              have HC3 := Lib.hid HC2
              clear HO2 HC2 hy hvz
              simp only [Option.getD_some, Option.isSome_some]
              go_wp2_with (go_at_call 39; go_must (refine (HADD.out v _ (below4 wc _ _ _ _) hv).mono ?_); rintro e wd ⟨rfl, Dd, od, Td, gd⟩)
              go_roundw
              case rel => exact ⟨i + 1, by omega, by go_num, ⟨Dd, od, by rw [HO3.out]; exact Td⟩, ⟨by rw [HC3.out]; exact own_same occ (fun g' hv => (gd.block g' (Nat.lt_of_lt_of_le (occ.lt g' hv).2 (size4 wc _ _ _ _)) (fun e => by injection e with e; have := (occ.lt g' hv).1; omega)).trans ((below4 wc _ _ _ _).block g' (occ.lt g' hv).2)), Nat.le_trans hsc (Nat.le_trans (size4 wc _ _ _ _) gd.size)⟩, grown_then (grown_then hgc (grown_below (below4 wc _ _ _ _) _)) gd⟩
              case measure => simp [intOf]; omega
        · have hw : winO (find b k) (find o k) (find t k) = none := by unfold winO; rw [if_neg h1, if_neg h2]
          have HO2 := HO.out
          have HC2 := HC.out
          rw [hw] at HO2 HC2
          simp only [Option.join_none, Option.map_none, Option.toList_none, List.append_nil, Option.isNone_none, if_true] at HO2 HC2
          have oc4 := fun (a b c d : Obj) => own_same (w' := (((wc.alloc a).alloc b).alloc c).alloc d) occ (fun g' hv => (below4 wc _ _ _ _).block g' (occ.lt g' hv).2)
          have OC4 := Lib.hid oc4
          clear oc4
          have x1 := fun W => eq_f (w := W) h1
          have x2 := fun W => ne_t (w := W) (fun h => h2 (Or.inl h))
          have x3 := fun W => ne_t (w := W) (fun h => h2 (Or.inr h))
          have HO3 := Lib.hid HO2
          have HC3 := Lib.hid HC2
          clear HO2 HC2 hvz h1 h2 hw HO HC
          go_wp2_with (at_builtin; go_must (refine app_one wS.heap.size rfl _ _ 25 9 rfl Tryd.underlying25 infoStrC rfl (by decide) (by decide) [.string ⟨k.toArray⟩] rfl (Eq.trans (b := Value.slice (some ⟨wc.heap.size + 1 + 1 + 1 + 1, 0, none⟩) 1 1) rfl (by simp)) rfl (by simp [Value.oneCell']) (by exact OC4.out _ _ _ _) (Below.refl wS.heap.size _) (Nat.le_trans hsc (size4 wc _ _ _ _)) (by omega) ?_); intro v' w' hown' hbe' _ _)
          go_roundw
          case rel => exact ⟨i + 1, by omega, by go_num, ⟨Dm, (map_at (map_below omc (below4 wc _ _ _ _)) (hbe'.block bo hbS)).mono (by omega), by rw [HO3.out]; exact HT.out⟩, ⟨by rw [HC3.out, List.length_append, List.map_append]; exact hown', Nat.le_trans hsc (Nat.le_trans (size4 wc _ _ _ _) hbe'.size)⟩, grown_under (grown_then hgc (grown_below (below4 wc _ _ _ _) _)) hbe'⟩
          case measure => simp [intOf]; omega
    · have hie : i = ks.length := by omega
      rw [hie, List.take_length] at oc Tm
      rw [hie] at om
      have htl := fun (W : World) (hW : OwnT W bo ks.length Dm) => tlist_calls bo _ (outD ks b o t) Dm W hW Tm (by omega) (by have := out_clash_len b o t ks; omega) (fun p hp => by
        unfold outD at hp
        obtain ⟨k, hk, hp⟩ := List.mem_filterMap.1 hp
        obtain ⟨v, _, rfl⟩ := Option.map_eq_some_iff.1 hp
        have := KL.out k hk
        unfold maxLen; simp only []; omega)
      have HTL := Lib.hid htl
      have OC := Lib.hid oc
      obtain ⟨VC, cC, rfl⟩ := own_slice oc
      clear htl oc Tm
      go_wp2_with (go_at_call 34; go_must (refine (HTL.out _ om).mono ?_); rintro e wz ⟨vz, rfl, rz, bz⟩; obtain ⟨VZ, cZ, rfl⟩ := own_slice rz)
      go_ret2
      have hz1 := hpre.size
      have hbw : w.heap.size ≤ bo := by have := hsz.1; omega
      have hfin := below_to (hpre.grown hg hz1 (fun k hk => by cases hk; exact hbw)) (Nat.le_trans hz1 hsr) bz
      exact ⟨_, _, rfl, own_lower rz (Nat.le_trans hz1 hsr), own_lower (own_same OC.out (fun g' hv => bz.block g' (OC.out.lt g' hv).2)) hz1, hfin⟩
end Go.Proofs.YtnoloihdcmgbaaaDoor
