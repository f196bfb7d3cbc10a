/- The walk of the law DefsFirst. -/
import Derived.Test.YtnoloihdcmgbaaaDoorRowsB
import Derived.Test.YtnoloihdcmgbaaaDoorGuard
import Derived.Test.YtnoloihdcmgbaaaDoorTill
import Derived.Test.YtnoloihdcmgbaaaDoorStepApp
import Derived.Deep.DeepCutAuto
namespace Go.Proofs.YtnoloihdcmgbaaaDoor
open Go.RowKit Go.PlainAid Go.Maps Go.Sort
set_option linter.all false
set_option linter.deprecated false
theorem lit_cells {W : World} {k : Nat} {t : TypeId} {c0 c1 c2 c3 c4 c5 : Value} (h : W.heap[k]? = some (.cells #[c0, c1, c2, c3, c4, c5] t (0, 0))) : ∀ j u, [c0, c1, c2, c3, c4, c5][j]? = some u → W.cell? ⟨k, 0 + j, none⟩ = some u := by
  intro j u hu
  rcases j with _ | _ | _ | _ | _ | _ | j
  · cases hu; exact (row_facts h 0 rfl).1
  · cases hu; exact (row_facts h 1 rfl).1
  · cases hu; exact (row_facts h 2 rfl).1
  · cases hu; exact (row_facts h 3 rfl).1
  · cases hu; exact (row_facts h 4 rfl).1
  · cases hu; exact (row_facts h 5 rfl).1
  · simp at hu
theorem bdrew {B : Nat} {a w : World} (h : Below B a w) : Below B a w.drew := ⟨h.os, h.tape, h.output, h.size, h.block⟩
set_option maxRecDepth 100000
set_option maxHeartbeats 20000000 in
theorem defsFirst_main (A : Option Addr) (c : Nat) (l : List Bl) (label tw : ByteArray) (w : World) (hR : Rd (· < w.heap.size) w (.slice A l.length c) (dBls l)) (hl : D.bulks (dBls l) + label.size + tw.size ≤ 1048576) :
    Calls Tryd.prog 3 #[.slice A l.length c, .string label, .string tw] w fun e w' => e = .returned (.bool true) ∧ Below w.heap.size w w' := by
  have HR := Lib.hid hR
  clear hR
  have e500 : IntKind.i64.wrap ((label.size : Int) + (tw.size : Int)) = (label.size : Int) + (tw.size : Int) := IntWalk.i64_in _ (by omega)
  go_enter Tryd.func3, Tryd.ntmps3
  go_wp2_with fail
  refine (awake16_calls _).mono ?_
  rintro e w1 ⟨rfl, hb1⟩
  go_wp2_with fail
  refine (Size10_calls l _ _ _ (HR.out.lt_below hb1)).mono ?_
  rintro e w2 ⟨⟨m, rfl⟩, q, rfl⟩
  have hb2 := below_drewN hb1 q
  by_cases hm : (2000 : Int) < m
  · go_wp2_with fail
    refine (awake16_calls _).mono ?_
    rintro e w3 ⟨rfl, hb3⟩
    go_wp2_with fail
    go_ret
    exact ⟨rfl, below_to hb2 hb2.size hb3⟩
  by_cases h5 : (500 : Int) < (label.size : Int) + (tw.size : Int)
  · go_wp2_with fail
    refine (awake16_calls _).mono ?_
    rintro e w3 ⟨rfl, hb3⟩
    go_wp2_with fail
    go_ret
    exact ⟨rfl, below_to hb2 hb2.size hb3⟩
  go_wp2_with fail
  have hs1 : ((w1.drewN q).alloc (.cells #[.string tw] 9)).heap.size = w1.heap.size + 1 := by simp
  have hr0 : Rd (· < ((w1.drewN q).alloc (.cells #[.string tw] 9)).heap.size) ((w1.drewN q).alloc (.cells #[.string tw] 9)) (.slice (some ⟨w1.heap.size, 0, none⟩) 1 1) ([tw].map D.str) :=
    Rd.lit' (w := w1.drewN q) (t := 9) (ds := [D.str tw]) (cs := [.string tw]) (repall_cons (by rw [Rep]) repall_nil) (by simp) rfl
  have hbox : (((w1.drewN q).alloc (.cells #[.string tw] 9)).alloc (.cells #[.int .i64 8, .int .i64 0, .string label, .slice (some ⟨w1.heap.size, 0, none⟩) 1 1, .slice none 0 0, .slice none 0 0] 28)).heap[w1.heap.size + 1]? =
      some (.cells #[.int .i64 8, .int .i64 0, .string label, .slice (some ⟨w1.heap.size, 0, none⟩) 1 1, .slice none 0 0, .slice none 0 0] 28 (0, 0)) := by
    have := World.alloc_heap_new ((w1.drewN q).alloc (.cells #[.string tw] 9)) (.cells #[.int .i64 8, .int .i64 0, .string label, .slice (some ⟨w1.heap.size, 0, none⟩) 1 1, .slice none 0 0, .slice none 0 0] 28)
    rw [hs1] at this
    exact this
  have hb0 := below_alloc (below_alloc hb2 hb2.size (.cells #[.string tw] 9)) (by have := hb2.size; simp at this ⊢; omega) (.cells #[.int .i64 8, .int .i64 0, .string label, .slice (some ⟨w1.heap.size, 0, none⟩) 1 1, .slice none 0 0, .slice none 0 0] 28)
  have hr1 := hr0.step (ok' := (· < (((w1.drewN q).alloc (.cells #[.string tw] 9)).alloc (.cells #[.int .i64 8, .int .i64 0, .string label, .slice (some ⟨w1.heap.size, 0, none⟩) 1 1, .slice none 0 0, .slice none 0 0] 28)).heap.size)) (fun k hk _ => Below.heap_alloc _ (.cells #[.int .i64 8, .int .i64 0, .string label, .slice (some ⟨w1.heap.size, 0, none⟩) 1 1, .slice none 0 0, .slice none 0 0] 28) k hk) (fun k hk _ => by simp at hk ⊢; omega)
  have hlt : w1.heap.size + 1 < (((w1.drewN q).alloc (.cells #[.string tw] 9)).alloc (.cells #[.int .i64 8, .int .i64 0, .string label, .slice (some ⟨w1.heap.size, 0, none⟩) 1 1, .slice none 0 0, .slice none 0 0] 28)).heap.size := by simp
  clear hs1 hr0 hb2 hb1
  have hhw : w.heap.size ≤ (((w1.drewN q).alloc (.cells #[.string tw] 9)).alloc (.cells #[.int .i64 8, .int .i64 0, .string label, .slice (some ⟨w1.heap.size, 0, none⟩) 1 1, .slice none 0 0, .slice none 0 0] 28)).heap.size := hb0.size
  generalize ((w1.drewN q).alloc (.cells #[.string tw] 9)).alloc (.cells #[.int .i64 8, .int .i64 0, .string label, .slice (some ⟨w1.heap.size, 0, none⟩) 1 1, .slice none 0 0, .slice none 0 0] 28) = W0 at *
  generalize w1.heap.size + 1 = dB at *
  generalize w1.heap.size = lB at *
  have HR1 := Lib.hid hr1
  clear hr1
  -- the list's own definitions
  have hds := defs_sizes _ l (Nat.le_refl _)
  have hle := defsL_le _ l (Nat.le_refl _)
  have hszs : ∀ p ∈ listOf (defsL l), p.1.length ≤ maxLen ∧ p.2.length ≤ maxLen := listOf_sizes (fun p hp => by have := hds p hp; unfold maxLen; omega)
  have hll := listOf_len (defsL l)
  have HSZ := Lib.hid hszs
  have HDS := Lib.hid hds
  clear hszs hds
  refine (Of_calls _ l W0 (HR.out.lt_below hb0) (by omega)).mono ?_
  rintro e w3 ⟨v3, rfl, hr3, hb3⟩
  have hb03 := below_to hb0 hhw hb3
  obtain ⟨V3, c3, rfl⟩ := own_slice hr3
  have hre3 := rd_E hr3 rfl (Below.refl _ _)
  have HR3 := Lib.hid hr3
  clear hr3
  go_wp2_with fail
  refine (Find_calls _ (listOf (defsL l)) label w3 hre3 (by omega) HSZ.out (by omega)).mono ?_
  rintro e w4 ⟨rfl, hb4⟩
  rw [find_listOf]
  have hb04 := below_to hb03 hb03.size hb4
  have box4 : w4.heap[dB]? = some (.cells #[.int .i64 8, .int .i64 0, .string label, .slice (some ⟨lB, 0, none⟩) 1 1, .slice none 0 0, .slice none 0 0] 28 (0, 0)) := (hb4.block dB (Nat.lt_of_lt_of_le hlt hb3.size)).trans ((hb3.block dB hlt).trans hbox)
  have hSS : ∀ W : World, Below w4.heap.size w4 W → W.cell? ⟨dB, 0, none⟩ = some (.int .i64 8) ∧ W.cell? ⟨dB, 1, none⟩ = some (.int .i64 0) ∧ W.cell? ⟨dB, 2, none⟩ = some (.string label) ∧ W.cell? ⟨dB, 3, none⟩ = some (.slice (some ⟨lB, 0, none⟩) 1 1) ∧ W.cell? ⟨dB, 4, none⟩ = some (.slice none 0 0) ∧ W.cell? ⟨dB, 5, none⟩ = some (.slice none 0 0) := fun W hW => by
    have hbx := (hW.block dB (by have := hb3.size; have := hb4.size; omega)).trans box4
    exact ⟨(row_facts hbx 0 rfl).1, (row_facts hbx 1 rfl).1, (row_facts hbx 2 rfl).1, (row_facts hbx 3 rfl).1, (row_facts hbx 4 rfl).1, (row_facts hbx 5 rfl).1⟩
  have HSS := Lib.hid hSS
  clear hSS
  obtain ⟨cells, rC, lC, nC, oC, mC⟩ := (HR.out.lt_below hb04).cells (dBls_sz l)
  have RC := Lib.hid rC
  clear rC
  -- the block d, in whatever world behind
  have hrd := fun (W : World) (hW : Below w4.heap.size w4 W) => HR1.out.lt_below (below_to (below_to hb3 hb3.size hb4) (by have := hb3.size; have := hb4.size; omega) hW)
  have hdB : ∀ W : World, Below w4.heap.size w4 W → RepAll (· < W.heap.size) W (dBls [.mk 8 0 label [tw] [] []]) [.int .i64 8, .int .i64 0, .string label, .slice (some ⟨lB, 0, none⟩) 1 1, .slice none 0 0, .slice none 0 0] := fun W hW => RepAll.single (rep_bl_mk (hrd W hW) (Rd.nil _ _) (Rd.nil _ _))
  have HDB := Lib.hid hdB
  clear hrd hdB
  have hlN : l.length ≤ 1048576 := by
    have h1 := D.len_bulks (dBls l)
    rw [dBls_len] at h1
    omega
  -- what comes of l and d
  have hfb : ∀ (v : Value) (W : World), Rd (· < W.heap.size) W v (dBls (l ++ [.mk 8 0 label [tw] [] []])) → Calls Tryd.prog 15 #[v] W _ := fun v W h => Of_calls v _ W h (by
    rw [dBls_map, List.map_append, D.bulks_append, ← dBls_map]
    simp only [List.map_cons, List.map_nil, dBl, dSps, dBls, D.bulks, D.bulk]
    omega)
  rw [defsL_append] at hfb
  have hdd : defsL [Bl.mk 8 0 label [tw] [] []] = [((foldS label).data.toList, tw.data.toList)] := by simp [defsL, defsB]
  rw [hdd] at hfb
  have szk : (foldS label).data.toList.length ≤ 4194304 ∧ tw.data.toList.length ≤ 4194304 := by
    have h1 := foldS_size label
    have h2 : (foldS label).data.toList.length = (foldS label).size := by simp
    have h3 : tw.data.toList.length = tw.size := by simp
    omega
  have szB : ∀ p ∈ listOf (defsL l ++ [((foldS label).data.toList, tw.data.toList)]), p.1.length ≤ 4194304 ∧ p.2.length ≤ 4194304 := listOf_sizes (fun p hp => by
    rcases List.mem_append.1 hp with h | h
    · have := HDS.out p h; omega
    · rw [List.mem_singleton] at h; subst h; exact szk)
  have szA : ∀ p ∈ listOf (((foldS label).data.toList, tw.data.toList) :: defsL l), p.1.length ≤ 4194304 ∧ p.2.length ≤ 4194304 := listOf_sizes (fun p hp => by
    rcases List.mem_cons.1 hp with h | h
    · subst h; exact szk
    · have := HDS.out p h; omega)
  have lnB := listOf_len (defsL l ++ [((foldS label).data.toList, tw.data.toList)])
  have lnA := listOf_len (((foldS label).data.toList, tw.data.toList) :: defsL l)
  rw [List.length_append, List.length_singleton] at lnB
  rw [List.length_cons] at lnA
  have HFB := Lib.hid hfb
  have SZB := Lib.hid szB
  have SZA := Lib.hid szA
  clear hfb szB szA hdd szk
  go_upto_region 5 with (fail)
  go_cut [10, 11] (fun s1 s2 wx => s1 = .string ⟨((find (defsL l ++ [((foldS label).data.toList, tw.data.toList)]) (foldS label).data.toList).getD []).toArray⟩ ∧ s2 = .bool (find (defsL l ++ [((foldS label).data.toList, tw.data.toList)]) (foldS label).data.toList).isSome ∧ Below w4.heap.size w4 wx)
  case first =>
    refine wp_region_till 6 (fun W => W.cell? ⟨dB, 0, none⟩ = some (.int .i64 8) ∧ W.cell? ⟨dB, 1, none⟩ = some (.int .i64 0) ∧ W.cell? ⟨dB, 2, none⟩ = some (.string label) ∧ W.cell? ⟨dB, 3, none⟩ = some (.slice (some ⟨lB, 0, none⟩) 1 1) ∧ W.cell? ⟨dB, 4, none⟩ = some (.slice none 0 0) ∧ W.cell? ⟨dB, 5, none⟩ = some (.slice none 0 0)) (by kernel_rfl) (HSS.out _ (bdrew (Below.refl _ _))) (fun hT => ?_)
    refine wpAnyT_take (i := 1) (v := ?_) rfl (by kernel_rfl) (fun _ _ _ h => h) (Or.inl ⟨by rfl, ?_⟩) hT (fun hT => ?_)
    rotate_left
    · intro w _; go_simp; try with_reducible rfl
    try simp only [Act.put, List.setIfInBounds_toArray, List.set_cons_zero, List.set_cons_succ]
    refine wpAnyT_load (i := 3) (v := ?_) 40 rfl (by kernel_rfl) (fun _ _ _ h => h) (Or.inl ⟨by rfl, ?_⟩) hT (fun hT => ?_)
    rotate_left
    · intro w hS; (try dsimp only at hS); go_split_ands; go_simp; try with_reducible rfl
    try simp only [Act.put, List.setIfInBounds_toArray, List.set_cons_zero, List.set_cons_succ]
    refine wpAnyT_take (i := 7) (v := ?_) rfl (by kernel_rfl) (fun _ _ _ h => h) (Or.inl ⟨by rfl, ?_⟩) hT (fun hT => ?_)
    rotate_left
    · intro w _; go_simp; try with_reducible rfl
    try simp only [Act.put, List.setIfInBounds_toArray, List.set_cons_zero, List.set_cons_succ]
    refine wpAnyT_ready (rs := [0, 4]) (by kernel_rfl) (by simp) ?_
    refine ReadyT.cons rfl (fun K hK => ?_) (ReadyT.cons rfl (fun K hK => ?_) ReadyT.nil)
    · go_simp
      refine hK.out _ _ (fun _ => HSS.out _ (bdrew (below_alloc (Below.refl _ _) (Nat.le_refl _) _))) (fun hT => ?_)
      clear hK K
      try simp only [Act.put, List.setIfInBounds_toArray, List.set_cons_zero, List.set_cons_succ]
      refine wpAnyT_ready (rs := [2, 4]) (by kernel_rfl) (by simp) ?_
      refine ReadyT.cons rfl (fun K hK => ?_) (ReadyT.cons rfl (fun K hK => ?_) ReadyT.nil)
      · have pl := World.ownsRow_lit (e := 28) (size := 6) w4 #[] 0 (Nat.le_refl _) (by unfold maxLen; omega) rfl
        have pb := bdrew (below_alloc (Below.refl w4.heap.size w4) (Nat.le_refl _) (.cells #[] 28))
        refine step_app_many w4.heap.size rfl _ _ 22 28 rfl Tryd.underlying22 infoBl rfl (by decide) (by decide) cells rfl rfl lC oC nC (fun h0 => by obtain ⟨bb, oo, e1, _, e3, e4⟩ := mC h0; exact ⟨bb, oo, e1, fun j u hu => below_at' pb e3 (e4 j u hu)⟩) (by exact pl) (by simp [World.drew]) (by omega) ?_
        intro v5 w5 ho5 hb6 _
        have q5 := pb.trans hb6
        refine hK.out _ _ (fun _ => HSS.out _ q5) (fun hT => ?_)
        clear hK K
        try simp only [Act.put, List.setIfInBounds_toArray, List.set_cons_zero, List.set_cons_succ]
        refine wpAnyT_ready (rs := [4]) (by kernel_rfl) (by simp) ?_
        refine ReadyT.cons rfl (fun K hK => ?_) ReadyT.nil
        go_simp
        have q5a := below_alloc q5 q5.size (.cells #[.int .i64 8, .int .i64 0, .string label, .slice (some ⟨lB, 0, none⟩) 1 1, .slice none 0 0, .slice none 0 0] 28)
        refine hK.out _ _ (fun _ => HSS.out _ (by exact q5a)) (fun hT => ?_)
        clear hK K
        try simp only [Act.put, List.setIfInBounds_toArray, List.set_cons_zero, List.set_cons_succ]
        refine wpAnyT_ready (rs := [5]) (by kernel_rfl) (by simp) ?_
        refine ReadyT.cons rfl (fun K hK => ?_) ReadyT.nil
        have hnw := World.alloc_heap_new w5 (.cells #[.int .i64 8, .int .i64 0, .string label, .slice (some ⟨lB, 0, none⟩) 1 1, .slice none 0 0, .slice none 0 0] 28)
        have h5a := own_same (w' := w5.alloc (.cells #[.int .i64 8, .int .i64 0, .string label, .slice (some ⟨lB, 0, none⟩) 1 1, .slice none 0 0, .slice none 0 0] 28)) ho5 (fun g' hv => Below.heap_alloc w5 _ g' (ho5.lt g' hv).2)
        refine step_app_many w4.heap.size rfl _ _ 22 28 rfl Tryd.underlying22 infoBl rfl (by decide) (by decide) [.int .i64 8, .int .i64 0, .string label, .slice (some ⟨lB, 0, none⟩) 1 1, .slice none 0 0, .slice none 0 0] rfl rfl rfl (by simp [Value.oneCell']) (fun h0 => by cases h0) (fun _ => ⟨_, _, rfl, lit_cells (by exact hnw)⟩) (by exact h5a) (by exact q5a.size) (by omega) ?_
        intro v6 w6 ho6 hb7 _
        have q6 := q5a.trans hb7
        refine hK.out _ _ (fun _ => HSS.out _ q6) (fun hT => ?_)
        clear hK K
        try simp only [Act.put, List.setIfInBounds_toArray, List.set_cons_zero, List.set_cons_succ]
        have rab : RepAll (· < w6.heap.size) w6 (dBls (l ++ [.mk 8 0 label [tw] [] []])) (([] ++ cells) ++ [.int .i64 8, .int .i64 0, .string label, .slice (some ⟨lB, 0, none⟩) 1 1, .slice none 0 0, .slice none 0 0]) := by
          have e : dBls (l ++ [.mk 8 0 label [tw] [] []]) = dBls l ++ dBls [.mk 8 0 label [tw] [] []] := by rw [dBls_map, dBls_map, dBls_map, List.map_append]
          rw [e, List.nil_append]
          exact RepAll.append (RC.out.below q6) (HDB.out w6 q6)
        have hrb := rd_blocks (l := l ++ [.mk 8 0 label [tw] [] []]) (n := 0 + l.length + 1) ho6 rab (by simp) (Below.refl _ _)
        refine wpAnyT_ready (rs := [6]) (by kernel_rfl) (by simp) ?_
        refine ReadyT.cons rfl (fun K hK => ?_) ReadyT.nil
        go_simp
        refine (HFB.out v6 w6 hrb).mono ?_
        rintro e w7 ⟨v7, rfl, hr7, hb8⟩
        obtain ⟨V7, c7, rfl⟩ := own_slice hr7
        refine hK.out _ _ (fun h => by simp at h) (fun hT => ?_)
        clear hK K
        try simp only [Act.put, List.setIfInBounds_toArray, List.set_cons_zero, List.set_cons_succ]
        refine wpAnyT_ready (rs := [8]) (by kernel_rfl) (by simp) ?_
        refine ReadyT.cons rfl (fun K hK => ?_) ReadyT.nil
        go_simp
        refine (Find_calls _ _ label _ (rd_E hr7 rfl (Below.refl _ _)) (by omega) (fun p hp => by have := SZB.out p hp; unfold maxLen; omega) (by omega)).mono ?_
        rintro e w8 ⟨rfl, hb9⟩
        rw [find_listOf]
        refine hK.out _ _ (fun h => by simp at h) (fun hT => ?_)
        clear hK K
        try simp only [Act.put, List.setIfInBounds_toArray, List.set_cons_zero, List.set_cons_succ]
        have q8 := below_to q6 q6.size (below_to hb8 hb8.size hb9)
        refine wpAnyT_take (i := 9) (v := ?_) rfl (by kernel_rfl) (fun _ _ _ h => h) (Or.inl ⟨by rfl, ?_⟩) hT (fun hT => ?_)
        rotate_left
        · intro w _; go_simp; try with_reducible rfl
        try simp only [Act.put, List.setIfInBounds_toArray, List.set_cons_zero, List.set_cons_succ]
        refine wpAnyT_take (i := 10) (v := ?_) rfl (by kernel_rfl) (fun _ _ _ h => h) (Or.inl ⟨by rfl, ?_⟩) hT (fun hT => ?_)
        rotate_left
        · intro w _; go_simp; try with_reducible rfl
        try simp only [Act.put, List.setIfInBounds_toArray, List.set_cons_zero, List.set_cons_succ]
        refine wpAnyT_take (i := 11) (v := ?_) rfl (by kernel_rfl) (fun _ _ _ h => h) (Or.inl ⟨by rfl, ?_⟩) hT (fun hT => ?_)
        rotate_left
        · intro w _; go_simp; try with_reducible rfl
        try simp only [Act.put, List.setIfInBounds_toArray, List.set_cons_zero, List.set_cons_succ]
        refine wpAnyT_take (i := 12) (v := ?_) rfl (by kernel_rfl) (fun _ _ _ h => h) (Or.inl ⟨by rfl, ?_⟩) hT (fun hT => ?_)
        rotate_left
        · intro w _; go_simp; try with_reducible rfl
        try simp only [Act.put, List.setIfInBounds_toArray, List.set_cons_zero, List.set_cons_succ]
        refine wpAnyT_take (i := 13) (v := ?_) rfl (by kernel_rfl) (fun _ _ _ h => h) (Or.inl ⟨by rfl, ?_⟩) hT (fun hT => ?_)
        rotate_left
        · intro w _; go_simp; try with_reducible rfl
        try simp only [Act.put, List.setIfInBounds_toArray, List.set_cons_zero, List.set_cons_succ]
        refine wpAnyT_done (by kernel_rfl) ?_ _
        go_wp2
        go_meet
        case rel => exact ⟨rfl, rfl, q8⟩
      · go_simp
        have pl := World.ownsRow_lit (e := 28) (size := 6) w4 #[] 0 (Nat.le_refl _) (by unfold maxLen; omega) rfl
        have pb := bdrew (below_alloc (Below.refl w4.heap.size w4) (Nat.le_refl _) (.cells #[] 28))
        have q4 := below_alloc pb pb.size (.cells #[.int .i64 8, .int .i64 0, .string label, .slice (some ⟨lB, 0, none⟩) 1 1, .slice none 0 0, .slice none 0 0] 28)
        refine hK.out _ _ (fun _ => HSS.out _ (by exact q4)) (fun hT => ?_)
        clear hK K
        try simp only [Act.put, List.setIfInBounds_toArray, List.set_cons_zero, List.set_cons_succ]
        refine wpAnyT_ready (rs := [2]) (by kernel_rfl) (by simp) ?_
        refine ReadyT.cons rfl (fun K hK => ?_) ReadyT.nil
        have hnw : ((w4.alloc (.cells #[] 28)).drew.alloc (.cells #[.int .i64 8, .int .i64 0, .string label, .slice (some ⟨lB, 0, none⟩) 1 1, .slice none 0 0, .slice none 0 0] 28)).heap[w4.heap.size + 1]? = some (.cells #[.int .i64 8, .int .i64 0, .string label, .slice (some ⟨lB, 0, none⟩) 1 1, .slice none 0 0, .slice none 0 0] 28 (0, 0)) := by
          have h := World.alloc_heap_new (w4.alloc (.cells #[] 28)) (.cells #[.int .i64 8, .int .i64 0, .string label, .slice (some ⟨lB, 0, none⟩) 1 1, .slice none 0 0, .slice none 0 0] 28)
          rw [show (w4.alloc (.cells #[] 28)).heap.size = w4.heap.size + 1 by simp] at h
          exact h
        have pl4 := own_same (w' := (w4.alloc (.cells #[] 28)).drew.alloc (.cells #[.int .i64 8, .int .i64 0, .string label, .slice (some ⟨lB, 0, none⟩) 1 1, .slice none 0 0, .slice none 0 0] 28)) pl (fun g' hv => Below.heap_alloc (w4.alloc (.cells #[] 28)) _ g' (pl.lt g' hv).2)
        refine step_app_many w4.heap.size rfl _ _ 22 28 rfl Tryd.underlying22 infoBl rfl (by decide) (by decide) cells rfl rfl lC oC nC (fun h0 => by obtain ⟨bb, oo, e1, _, e3, e4⟩ := mC h0; exact ⟨bb, oo, e1, fun j u hu => below_at' q4 e3 (e4 j u hu)⟩) (by exact pl4) (by exact q4.size) (by omega) ?_
        intro v5 w5 ho5 hb6 hg6
        have q5a := q4.trans hb6
        have hnw5 := (hg6.block (w4.heap.size + 1) (by show w4.heap.size + 1 < ((w4.alloc (.cells #[] 28)).alloc (.cells #[.int .i64 8, .int .i64 0, .string label, .slice (some ⟨lB, 0, none⟩) 1 1, .slice none 0 0, .slice none 0 0] 28)).heap.size; simp) (fun h => by have h2 : some (w4.heap.size + 1) = some w4.heap.size := h; simp at h2)).trans hnw
        refine hK.out _ _ (fun _ => HSS.out _ q5a) (fun hT => ?_)
        clear hK K
        try simp only [Act.put, List.setIfInBounds_toArray, List.set_cons_zero, List.set_cons_succ]
        refine wpAnyT_ready (rs := [5]) (by kernel_rfl) (by simp) ?_
        refine ReadyT.cons rfl (fun K hK => ?_) ReadyT.nil
        refine step_app_many w4.heap.size rfl _ _ 22 28 rfl Tryd.underlying22 infoBl rfl (by decide) (by decide) [.int .i64 8, .int .i64 0, .string label, .slice (some ⟨lB, 0, none⟩) 1 1, .slice none 0 0, .slice none 0 0] rfl rfl rfl (by simp [Value.oneCell']) (fun h0 => by cases h0) (fun _ => ⟨_, _, rfl, lit_cells (by exact hnw5)⟩) (by exact ho5) (by exact q5a.size) (by omega) ?_
        intro v6 w6 ho6 hb7 _
        have q6 := q5a.trans hb7
        refine hK.out _ _ (fun _ => HSS.out _ q6) (fun hT => ?_)
        clear hK K
        try simp only [Act.put, List.setIfInBounds_toArray, List.set_cons_zero, List.set_cons_succ]
        have rab : RepAll (· < w6.heap.size) w6 (dBls (l ++ [.mk 8 0 label [tw] [] []])) (([] ++ cells) ++ [.int .i64 8, .int .i64 0, .string label, .slice (some ⟨lB, 0, none⟩) 1 1, .slice none 0 0, .slice none 0 0]) := by
          have e : dBls (l ++ [.mk 8 0 label [tw] [] []]) = dBls l ++ dBls [.mk 8 0 label [tw] [] []] := by rw [dBls_map, dBls_map, dBls_map, List.map_append]
          rw [e, List.nil_append]
          exact RepAll.append (RC.out.below q6) (HDB.out w6 q6)
        have hrb := rd_blocks (l := l ++ [.mk 8 0 label [tw] [] []]) (n := 0 + l.length + 1) ho6 rab (by simp) (Below.refl _ _)
        refine wpAnyT_ready (rs := [6]) (by kernel_rfl) (by simp) ?_
        refine ReadyT.cons rfl (fun K hK => ?_) ReadyT.nil
        go_simp
        refine (HFB.out v6 w6 hrb).mono ?_
        rintro e w7 ⟨v7, rfl, hr7, hb8⟩
        obtain ⟨V7, c7, rfl⟩ := own_slice hr7
        refine hK.out _ _ (fun h => by simp at h) (fun hT => ?_)
        clear hK K
        try simp only [Act.put, List.setIfInBounds_toArray, List.set_cons_zero, List.set_cons_succ]
        refine wpAnyT_ready (rs := [8]) (by kernel_rfl) (by simp) ?_
        refine ReadyT.cons rfl (fun K hK => ?_) ReadyT.nil
        go_simp
        refine (Find_calls _ _ label _ (rd_E hr7 rfl (Below.refl _ _)) (by omega) (fun p hp => by have := SZB.out p hp; unfold maxLen; omega) (by omega)).mono ?_
        rintro e w8 ⟨rfl, hb9⟩
        rw [find_listOf]
        refine hK.out _ _ (fun h => by simp at h) (fun hT => ?_)
        clear hK K
        try simp only [Act.put, List.setIfInBounds_toArray, List.set_cons_zero, List.set_cons_succ]
        have q8 := below_to q6 q6.size (below_to hb8 hb8.size hb9)
        refine wpAnyT_take (i := 9) (v := ?_) rfl (by kernel_rfl) (fun _ _ _ h => h) (Or.inl ⟨by rfl, ?_⟩) hT (fun hT => ?_)
        rotate_left
        · intro w _; go_simp; try with_reducible rfl
        try simp only [Act.put, List.setIfInBounds_toArray, List.set_cons_zero, List.set_cons_succ]
        refine wpAnyT_take (i := 10) (v := ?_) rfl (by kernel_rfl) (fun _ _ _ h => h) (Or.inl ⟨by rfl, ?_⟩) hT (fun hT => ?_)
        rotate_left
        · intro w _; go_simp; try with_reducible rfl
        try simp only [Act.put, List.setIfInBounds_toArray, List.set_cons_zero, List.set_cons_succ]
        refine wpAnyT_take (i := 11) (v := ?_) rfl (by kernel_rfl) (fun _ _ _ h => h) (Or.inl ⟨by rfl, ?_⟩) hT (fun hT => ?_)
        rotate_left
        · intro w _; go_simp; try with_reducible rfl
        try simp only [Act.put, List.setIfInBounds_toArray, List.set_cons_zero, List.set_cons_succ]
        refine wpAnyT_take (i := 12) (v := ?_) rfl (by kernel_rfl) (fun _ _ _ h => h) (Or.inl ⟨by rfl, ?_⟩) hT (fun hT => ?_)
        rotate_left
        · intro w _; go_simp; try with_reducible rfl
        try simp only [Act.put, List.setIfInBounds_toArray, List.set_cons_zero, List.set_cons_succ]
        refine wpAnyT_take (i := 13) (v := ?_) rfl (by kernel_rfl) (fun _ _ _ h => h) (Or.inl ⟨by rfl, ?_⟩) hT (fun hT => ?_)
        rotate_left
        · intro w _; go_simp; try with_reducible rfl
        try simp only [Act.put, List.setIfInBounds_toArray, List.set_cons_zero, List.set_cons_succ]
        refine wpAnyT_done (by kernel_rfl) ?_ _
        go_wp2
        go_meet
        case rel => exact ⟨rfl, rfl, q8⟩
    · go_simp
      have q4 := below_alloc (bdrew (Below.refl w4.heap.size w4)) (by exact Nat.le_refl _) (.cells #[.int .i64 8, .int .i64 0, .string label, .slice (some ⟨lB, 0, none⟩) 1 1, .slice none 0 0, .slice none 0 0] 28)
      refine hK.out _ _ (fun _ => HSS.out _ (by exact q4)) (fun hT => ?_)
      clear hK K
      try simp only [Act.put, List.setIfInBounds_toArray, List.set_cons_zero, List.set_cons_succ]
      refine wpAnyT_ready (rs := [0]) (by kernel_rfl) (by simp) ?_
      refine ReadyT.cons rfl (fun K hK => ?_) ReadyT.nil
      go_simp
      have pb := below_alloc q4 q4.size (.cells #[] 28)
      have pl := World.ownsRow_lit (e := 28) (size := 6) (w4.drew.alloc (.cells #[.int .i64 8, .int .i64 0, .string label, .slice (some ⟨lB, 0, none⟩) 1 1, .slice none 0 0, .slice none 0 0] 28)) #[] 0 (Nat.le_refl _) (by unfold maxLen; omega) rfl
      refine hK.out _ _ (fun _ => HSS.out _ (by exact pb)) (fun hT => ?_)
      clear hK K
      try simp only [Act.put, List.setIfInBounds_toArray, List.set_cons_zero, List.set_cons_succ]
      refine wpAnyT_ready (rs := [2]) (by kernel_rfl) (by simp) ?_
      refine ReadyT.cons rfl (fun K hK => ?_) ReadyT.nil
      have e1 : (w4.drew.alloc (.cells #[.int .i64 8, .int .i64 0, .string label, .slice (some ⟨lB, 0, none⟩) 1 1, .slice none 0 0, .slice none 0 0] 28)).heap.size = w4.heap.size + 1 := by
        show (w4.alloc (.cells #[.int .i64 8, .int .i64 0, .string label, .slice (some ⟨lB, 0, none⟩) 1 1, .slice none 0 0, .slice none 0 0] 28)).heap.size = _
        simp
      have e2 : w4.heap.size + 1 ≤ ((w4.drew.alloc (.cells #[.int .i64 8, .int .i64 0, .string label, .slice (some ⟨lB, 0, none⟩) 1 1, .slice none 0 0, .slice none 0 0] 28)).alloc (.cells #[] 28)).heap.size := by
        show _ ≤ ((w4.alloc (.cells #[.int .i64 8, .int .i64 0, .string label, .slice (some ⟨lB, 0, none⟩) 1 1, .slice none 0 0, .slice none 0 0] 28)).alloc (.cells #[] 28)).heap.size
        simp
      have hnw : ((w4.drew.alloc (.cells #[.int .i64 8, .int .i64 0, .string label, .slice (some ⟨lB, 0, none⟩) 1 1, .slice none 0 0, .slice none 0 0] 28)).alloc (.cells #[] 28)).heap[w4.heap.size]? = some (.cells #[.int .i64 8, .int .i64 0, .string label, .slice (some ⟨lB, 0, none⟩) 1 1, .slice none 0 0, .slice none 0 0] 28 (0, 0)) := (Below.heap_alloc (w4.drew.alloc (.cells #[.int .i64 8, .int .i64 0, .string label, .slice (some ⟨lB, 0, none⟩) 1 1, .slice none 0 0, .slice none 0 0] 28)) (.cells #[] 28) w4.heap.size (by rw [e1]; omega)).trans (by exact World.alloc_heap_new w4 (.cells #[.int .i64 8, .int .i64 0, .string label, .slice (some ⟨lB, 0, none⟩) 1 1, .slice none 0 0, .slice none 0 0] 28))
      rw [e1] at pl
      refine step_app_many (w4.heap.size + 1) rfl _ _ 22 28 rfl Tryd.underlying22 infoBl rfl (by decide) (by decide) cells rfl rfl lC oC nC (fun h0 => by obtain ⟨bb, oo, e1, _, e3, e4⟩ := mC h0; exact ⟨bb, oo, e1, fun j u hu => below_at' pb e3 (e4 j u hu)⟩) (by exact pl) (by exact e2) (by omega) ?_
      intro v5 w5 ho5 hb6 hg6
      have q5a : Below w4.heap.size w4 w5 := pb.trans ⟨hb6.os, hb6.tape, hb6.output, hb6.size, fun k hk => hb6.block k (by omega)⟩
      have hnw5 := (hb6.block w4.heap.size (by omega)).trans hnw
      refine hK.out _ _ (fun _ => HSS.out _ q5a) (fun hT => ?_)
      clear hK K
      try simp only [Act.put, List.setIfInBounds_toArray, List.set_cons_zero, List.set_cons_succ]
      refine wpAnyT_ready (rs := [5]) (by kernel_rfl) (by simp) ?_
      refine ReadyT.cons rfl (fun K hK => ?_) ReadyT.nil
      refine step_app_many (w4.heap.size + 1) rfl _ _ 22 28 rfl Tryd.underlying22 infoBl rfl (by decide) (by decide) [.int .i64 8, .int .i64 0, .string label, .slice (some ⟨lB, 0, none⟩) 1 1, .slice none 0 0, .slice none 0 0] rfl rfl rfl (by simp [Value.oneCell']) (fun h0 => by cases h0) (fun _ => ⟨_, _, rfl, lit_cells (by exact hnw5)⟩) (by exact ho5) (by (have h := hb6.size; simp [World.drew] at h ⊢; omega)) (by omega) ?_
      intro v6 w6 ho6 hb7' _
      have hb7 : Below w4.heap.size w5 w6 := ⟨hb7'.os, hb7'.tape, hb7'.output, hb7'.size, fun k hk => hb7'.block k (by omega)⟩
      have q6 := q5a.trans hb7
      refine hK.out _ _ (fun _ => HSS.out _ q6) (fun hT => ?_)
      clear hK K
      try simp only [Act.put, List.setIfInBounds_toArray, List.set_cons_zero, List.set_cons_succ]
      have rab : RepAll (· < w6.heap.size) w6 (dBls (l ++ [.mk 8 0 label [tw] [] []])) (([] ++ cells) ++ [.int .i64 8, .int .i64 0, .string label, .slice (some ⟨lB, 0, none⟩) 1 1, .slice none 0 0, .slice none 0 0]) := by
        have e : dBls (l ++ [.mk 8 0 label [tw] [] []]) = dBls l ++ dBls [.mk 8 0 label [tw] [] []] := by rw [dBls_map, dBls_map, dBls_map, List.map_append]
        rw [e, List.nil_append]
        exact RepAll.append (RC.out.below q6) (HDB.out w6 q6)
      have hrb := rd_blocks (l := l ++ [.mk 8 0 label [tw] [] []]) (n := 0 + l.length + 1) ho6 rab (by simp) (Below.refl _ _)
      refine wpAnyT_ready (rs := [6]) (by kernel_rfl) (by simp) ?_
      refine ReadyT.cons rfl (fun K hK => ?_) ReadyT.nil
      go_simp
      refine (HFB.out v6 w6 hrb).mono ?_
      rintro e w7 ⟨v7, rfl, hr7, hb8⟩
      obtain ⟨V7, c7, rfl⟩ := own_slice hr7
      refine hK.out _ _ (fun h => by simp at h) (fun hT => ?_)
      clear hK K
      try simp only [Act.put, List.setIfInBounds_toArray, List.set_cons_zero, List.set_cons_succ]
      refine wpAnyT_ready (rs := [8]) (by kernel_rfl) (by simp) ?_
      refine ReadyT.cons rfl (fun K hK => ?_) ReadyT.nil
      go_simp
      refine (Find_calls _ _ label _ (rd_E hr7 rfl (Below.refl _ _)) (by omega) (fun p hp => by have := SZB.out p hp; unfold maxLen; omega) (by omega)).mono ?_
      rintro e w8 ⟨rfl, hb9⟩
      rw [find_listOf]
      refine hK.out _ _ (fun h => by simp at h) (fun hT => ?_)
      clear hK K
      try simp only [Act.put, List.setIfInBounds_toArray, List.set_cons_zero, List.set_cons_succ]
      have q8 := below_to q6 q6.size (below_to hb8 hb8.size hb9)
      refine wpAnyT_take (i := 9) (v := ?_) rfl (by kernel_rfl) (fun _ _ _ h => h) (Or.inl ⟨by rfl, ?_⟩) hT (fun hT => ?_)
      rotate_left
      · intro w _; go_simp; try with_reducible rfl
      try simp only [Act.put, List.setIfInBounds_toArray, List.set_cons_zero, List.set_cons_succ]
      refine wpAnyT_take (i := 10) (v := ?_) rfl (by kernel_rfl) (fun _ _ _ h => h) (Or.inl ⟨by rfl, ?_⟩) hT (fun hT => ?_)
      rotate_left
      · intro w _; go_simp; try with_reducible rfl
      try simp only [Act.put, List.setIfInBounds_toArray, List.set_cons_zero, List.set_cons_succ]
      refine wpAnyT_take (i := 11) (v := ?_) rfl (by kernel_rfl) (fun _ _ _ h => h) (Or.inl ⟨by rfl, ?_⟩) hT (fun hT => ?_)
      rotate_left
      · intro w _; go_simp; try with_reducible rfl
      try simp only [Act.put, List.setIfInBounds_toArray, List.set_cons_zero, List.set_cons_succ]
      refine wpAnyT_take (i := 12) (v := ?_) rfl (by kernel_rfl) (fun _ _ _ h => h) (Or.inl ⟨by rfl, ?_⟩) hT (fun hT => ?_)
      rotate_left
      · intro w _; go_simp; try with_reducible rfl
      try simp only [Act.put, List.setIfInBounds_toArray, List.set_cons_zero, List.set_cons_succ]
      refine wpAnyT_take (i := 13) (v := ?_) rfl (by kernel_rfl) (fun _ _ _ h => h) (Or.inl ⟨by rfl, ?_⟩) hT (fun hT => ?_)
      rotate_left
      · intro w _; go_simp; try with_reducible rfl
      try simp only [Act.put, List.setIfInBounds_toArray, List.set_cons_zero, List.set_cons_succ]
      refine wpAnyT_done (by kernel_rfl) ?_ _
      go_wp2
      go_meet
      case rel => exact ⟨rfl, rfl, q8⟩
  case rest =>
    have hT : (⟨tw.data.toList.toArray⟩ : ByteArray) = tw := by simp
    have hfb : find (defsL l ++ [((foldS label).data.toList, tw.data.toList)]) (foldS label).data.toList = (find (defsL l) (foldS label).data.toList).or (some tw.data.toList) := by rw [find_append, find_cons, if_pos rfl]
    rw [hfb] at hcut
    obtain ⟨rfl, rfl, hbw⟩ := hcut
    obtain ⟨x0, x1, x2, x3, x4, x5⟩ := HSS.out _ hbw
    have hofA := fun (v : Value) (W : World) (h : Rd (· < W.heap.size) W v (dBls (.mk 8 0 label [tw] [] [] :: l))) => Of_calls v (.mk 8 0 label [tw] [] [] :: l) W h (by
      rw [dBls, D.bulks]
      simp only [dBl, dSps, dBls, List.map_cons, List.map_nil, D.bulks, D.bulk]
      omega)
    have hdd : defsL (Bl.mk 8 0 label [tw] [] [] :: l) = (((foldS label).data.toList, tw.data.toList) :: defsL l) := by simp [defsL, defsB]
    rw [hdd] at hofA
    have hFa := fun (v : Value) (W : World) (h : Rd (· < W.heap.size) W v ((listOf (((foldS label).data.toList, tw.data.toList) :: defsL l)).map dE)) => by
      have h2 := Find_calls v _ label W h (by omega) (fun p hp => by have := SZA.out p hp; unfold maxLen; omega) (by omega)
      rw [find_listOf, find_cons, if_pos rfl, Option.getD_some, hT, Option.isSome_some] at h2
      exact h2
    have hLn := fun (h : find (defsL l) (foldS label).data.toList = none) => listOf_cons_len (v := tw.data.toList) h
    have hOl := fun (W : World) (h : Below w4.heap.size w4 W) => Of_calls (.slice A l.length c) l W ((HR.out.lt_below hb04).lt_below h) (by omega)
    have HOA := Lib.hid hofA
    have HFA := Lib.hid hFa
    have HLN := Lib.hid hLn
    have HOL := Lib.hid hOl
    clear hofA hFa hLn hOl hdd hfb HFB SZB SZA
    have bq := beq_t (rfl : tw = tw)
    have HWC : ∀ {b : Nat}, b < w4.heap.size → b < wc.heap.size := fun h => Nat.lt_of_lt_of_le h hbw.size
    cases hfd : find (defsL l) (foldS label).data.toList with
    | none =>
      have HLNN := Lib.hid (HLN.out hfd)
      simp only [Option.none_or, Option.getD_some, Option.getD_none, Option.isSome_some, Option.isSome_none, hT]
      clear hfd HLN
      go_wp2_with (first | (at_builtin; go_must (have pl := World.ownsRow_lit (e := 28) (size := 6) wc #[.int .i64 8, .int .i64 0, .string label, .slice (some ⟨lB, 0, none⟩) 1 1, .slice none 0 0, .slice none 0 0] 1 (Nat.le_refl _) (by unfold maxLen; omega) rfl; have pb := below_alloc (Below.refl wc.heap.size wc) (Nat.le_refl _) (.cells #[.int .i64 8, .int .i64 0, .string label, .slice (some ⟨lB, 0, none⟩) 1 1, .slice none 0 0, .slice none 0 0] 28); refine app_many wc.heap.size rfl _ _ 22 28 rfl Tryd.underlying22 infoBl rfl (by decide) (by decide) cells rfl rfl lC oC nC (fun h0 => by obtain ⟨bb, oo, e1, _, e3, e4⟩ := mC h0; exact ⟨bb, oo, e1, fun j u hu => below_at' pb (Nat.lt_of_lt_of_le e3 hbw.size) (below_at' hbw e3 (e4 j u hu))⟩) pl (by simp) (by omega) ?_; intro v6 A6 k6o k6b; have k6q := pb.trans k6b)))
      have k6Q := below_to hbw hbw.size k6q
      have k6r : RepAll (· < A6.heap.size) A6 (dBls (.mk 8 0 label [tw] [] [] :: l)) ([.int .i64 8, .int .i64 0, .string label, .slice (some ⟨lB, 0, none⟩) 1 1, .slice none 0 0, .slice none 0 0] ++ cells) := by
        have e : dBls (Bl.mk 8 0 label [tw] [] [] :: l) = dBls [.mk 8 0 label [tw] [] []] ++ dBls l := by rw [dBls_map, dBls_map, dBls_map, ← List.map_append]; rfl
        rw [e]
        exact RepAll.append (HDB.out A6 k6Q) (RC.out.below k6Q)
      have k6R := rd_blocks (l := .mk 8 0 label [tw] [] [] :: l) (n := 1 + l.length) k6o k6r (by simp; omega) (Below.refl _ _)
      refine (HOA.out v6 A6 k6R).mono ?_
      rintro e A7 ⟨v6v, rfl, v6r, v6b⟩
      obtain ⟨v6V, v6c, rfl⟩ := own_slice v6r
      have A7B := below_to k6Q k6Q.size v6b
      go_wp2_with fail
      refine (HFA.out _ A7 (rd_E v6r rfl (Below.refl _ _))).mono ?_
      rintro e A8 ⟨rfl, b8⟩
      have A8B := below_to A7B A7B.size b8
      have hE := below_to hb04 hb04.size A8B
      clear x0 x1 x2 x3 x4 x5
      obtain ⟨y0, y1, y2, y3, y4, y5⟩ := HSS.out _ A8B
      go_wp2_with (first | (at_builtin; go_must (have pl := World.ownsRow_lit (e := 28) (size := 6) A8 #[.int .i64 8, .int .i64 0, .string label, .slice (some ⟨lB, 0, none⟩) 1 1, .slice none 0 0, .slice none 0 0] 1 (Nat.le_refl _) (by unfold maxLen; omega) rfl; have pb := below_alloc (Below.refl A8.heap.size A8) (Nat.le_refl _) (.cells #[.int .i64 8, .int .i64 0, .string label, .slice (some ⟨lB, 0, none⟩) 1 1, .slice none 0 0, .slice none 0 0] 28); refine wpList_unguard (by kernel_rfl) ?_; refine app_many A8.heap.size rfl _ _ 22 28 rfl Tryd.underlying22 infoBl rfl (by decide) (by decide) cells rfl rfl lC oC nC (fun h0 => by obtain ⟨bb, oo, e1, _, e3, e4⟩ := mC h0; exact ⟨bb, oo, e1, fun j u hu => below_at' pb (Nat.lt_of_lt_of_le e3 A8B.size) (below_at' A8B e3 (e4 j u hu))⟩) pl (by simp) (by omega) ?_; intro v9 A9 k9o k9b; have k9q := pb.trans k9b)))
      have k9Q := below_to A8B A8B.size k9q
      have k9r : RepAll (· < A9.heap.size) A9 (dBls (.mk 8 0 label [tw] [] [] :: l)) ([.int .i64 8, .int .i64 0, .string label, .slice (some ⟨lB, 0, none⟩) 1 1, .slice none 0 0, .slice none 0 0] ++ cells) := by
        have e : dBls (Bl.mk 8 0 label [tw] [] [] :: l) = dBls [.mk 8 0 label [tw] [] []] ++ dBls l := by rw [dBls_map, dBls_map, dBls_map, ← List.map_append]; rfl
        rw [e]
        exact RepAll.append (HDB.out A9 k9Q) (RC.out.below k9Q)
      have k9R := rd_blocks (l := .mk 8 0 label [tw] [] [] :: l) (n := 1 + l.length) k9o k9r (by simp; omega) (Below.refl _ _)
      refine (HOA.out v9 A9 k9R).mono ?_
      rintro e A10 ⟨v9v, rfl, v9r, v9b⟩
      obtain ⟨v9V, v9c, rfl⟩ := own_slice v9r
      have A10B := below_to k9Q k9Q.size v9b
      go_wp2_with fail
      refine (HOL.out _ A10B).mono ?_
      rintro e A11 ⟨v11, rfl, r11, b11⟩
      obtain ⟨V11, c11, rfl⟩ := own_slice r11
      have A11B := below_to A10B A10B.size b11
      have e11 : IntKind.i64.wrap (((listOf (defsL l)).length : Int) + 1) = ((listOf (((foldS label).data.toList, tw.data.toList) :: defsL l)).length : Int) := by have := HLNN.out; rw [this, IntWalk.i64_in _ (by omega)]; push_cast; omega
      go_wp2_with fail
      go_ret
      exact ⟨rfl, below_to hb04 hb04.size A11B⟩
    | some v0 =>
      simp only [Option.some_or, Option.getD_some, Option.isSome_some]
      clear hfd HLN
      go_wp2_with (first | (at_builtin; go_must (have pl := World.ownsRow_lit (e := 28) (size := 6) wc #[.int .i64 8, .int .i64 0, .string label, .slice (some ⟨lB, 0, none⟩) 1 1, .slice none 0 0, .slice none 0 0] 1 (Nat.le_refl _) (by unfold maxLen; omega) rfl; have pb := below_alloc (Below.refl wc.heap.size wc) (Nat.le_refl _) (.cells #[.int .i64 8, .int .i64 0, .string label, .slice (some ⟨lB, 0, none⟩) 1 1, .slice none 0 0, .slice none 0 0] 28); refine app_many wc.heap.size rfl _ _ 22 28 rfl Tryd.underlying22 infoBl rfl (by decide) (by decide) cells rfl rfl lC oC nC (fun h0 => by obtain ⟨bb, oo, e1, _, e3, e4⟩ := mC h0; exact ⟨bb, oo, e1, fun j u hu => below_at' pb (Nat.lt_of_lt_of_le e3 hbw.size) (below_at' hbw e3 (e4 j u hu))⟩) pl (by simp) (by omega) ?_; intro v6 A6 k6o k6b; have k6q := pb.trans k6b)))
      have k6Q := below_to hbw hbw.size k6q
      have k6r : RepAll (· < A6.heap.size) A6 (dBls (.mk 8 0 label [tw] [] [] :: l)) ([.int .i64 8, .int .i64 0, .string label, .slice (some ⟨lB, 0, none⟩) 1 1, .slice none 0 0, .slice none 0 0] ++ cells) := by
        have e : dBls (Bl.mk 8 0 label [tw] [] [] :: l) = dBls [.mk 8 0 label [tw] [] []] ++ dBls l := by rw [dBls_map, dBls_map, dBls_map, ← List.map_append]; rfl
        rw [e]
        exact RepAll.append (HDB.out A6 k6Q) (RC.out.below k6Q)
      have k6R := rd_blocks (l := .mk 8 0 label [tw] [] [] :: l) (n := 1 + l.length) k6o k6r (by simp; omega) (Below.refl _ _)
      refine (HOA.out v6 A6 k6R).mono ?_
      rintro e A7 ⟨v6v, rfl, v6r, v6b⟩
      obtain ⟨v6V, v6c, rfl⟩ := own_slice v6r
      have A7B := below_to k6Q k6Q.size v6b
      go_wp2_with fail
      refine (HFA.out _ A7 (rd_E v6r rfl (Below.refl _ _))).mono ?_
      rintro e A8 ⟨rfl, b8⟩
      have A8B := below_to A7B A7B.size b8
      have hE := below_to hb04 hb04.size A8B
      have bq2 := beq_t (rfl : (⟨v0.toArray⟩ : ByteArray) = ⟨v0.toArray⟩)
      go_wp2_with fail
      go_ret
      exact ⟨rfl, hE⟩
theorem treeTypes : TreeTypes Tryd.prog 3 9 25 105 26 28 22 :=
  ⟨Tryd.underlying3, Tryd.underlying9, Tryd.underlying25, Tryd.underlying26, Tryd.underlying22, ⟨_, _, _, Tryd.underlying105, rfl, rfl, rfl⟩, ⟨_, _, _, _, _, _, Tryd.underlying28, rfl, rfl, rfl, rfl, rfl, rfl⟩⟩
theorem defsFirst_walk (A0 : Option Addr) (n0 c0 : Nat) (X0 : D) (label tw : ByteArray) (w : World)
    (g0 : Rep (· < w.heap.size) w X0 [.slice A0 n0 c0]) (ty0 : ∃ n, HasTy Tryd.prog n 22 X0) (_ : label.size ≤ maxLen) (_ : tw.size ≤ maxLen) (hb : X0.bulk + (label.size + 1) + (tw.size + 1) ≤ 1048576) :
    Calls Tryd.prog 3 #[.slice A0 n0 c0, .string label, .string tw] w fun e w' => e = .returned (.bool true) ∧ Below w.heap.size w w' := by
  obtain ⟨m0, ty0⟩ := ty0
  obtain ⟨a, rfl, _⟩ := (HasTy.bl treeTypes).2 ty0
  have hA : Rd (· < w.heap.size) w (.slice A0 n0 c0) (dBls a) := g0
  obtain ⟨rfl, _⟩ := rd_bls hA
  simp only [D.bulk] at hb
  exact defsFirst_main A0 c0 a label tw w hA (by omega)
end Go.Proofs.YtnoloihdcmgbaaaDoor
