/- The walk of weave.Chunks. -/
import Derived.Test.YtnoloihdcmgbaaaChunksP
import Derived.Deep.DeepCutAuto
import Derived.Test.YtnoloihdcmgbaaaTill
namespace Go.Proofs.Ytnoloihdcmgbaaa
open Go.RowKit Go.PlainAid
set_option linter.unusedVariables false
set_option linter.unusedSimpArgs false
theorem infoCh : (Try.prog.info? 58).map (fun i => (i.zero, i.size, i.bytes)) = some (some (valCh ⟨0, 0, 0, 0, 0, 0, 0⟩), 7, 56) := by kernel_rfl

set_option maxRecDepth 100000 in
set_option maxHeartbeats 1000000 in
theorem Chunks_calls (vb vo vt : Value) (zb zo zt : List Int) (w : World) (hnb : zb.length ≤ 1048575) (hno : zo.length ≤ 1048575) (hnt : zt.length ≤ 1048575)
    (hB : Rd (· < w.heap.size) w vb (zb.map (D.int .i64))) (hO : Rd (· < w.heap.size) w vo (zo.map (D.int .i64))) (hT : Rd (· < w.heap.size) w vt (zt.map (D.int .i64))) :
    Calls Try.prog 31 #[vb, vo, vt] w fun e w' => ∃ v, e = .returned v ∧ w'.ownsRow w.heap.size 58 7 v (chunks zb zo zt).length ((chunks zb zo zt).flatMap cellsCh) ∧ Below w.heap.size w w' := by
  obtain ⟨A, cb, rfl, hcb, _⟩ := hB.form
  obtain ⟨O, co, rfl, hco, _⟩ := hO.form
  obtain ⟨T, ct, rfl, hct, _⟩ := hT.form
  simp only [List.length_map] at *
  have HB := Lib.hid hB
  have HO := Lib.hid hO
  have HT := Lib.hid hT
  clear hB hO hT
  go_enter Try.func31, Try.ntmps31
  go_wp2_with (go_at_call 48; go_must (refine (kept_calls _ _ zb _ _ hnb ?_ (by first | exact HB.out | exact HB.out.lt_below hb1) (by first | exact HO.out | exact HT.out.lt_below hb1)).mono ?_); (first | exact hno | exact hnt); rintro e w1 ⟨g, rfl, hp, hb1⟩)
  rename_i Q0 wA g1 hp1 hb1' K0 hK0
  have hb3 := hb1'.trans (hb1.mono hb1'.size)
  have hg1 := (hp1.lt g1 rfl).2
  have hg := (hp.lt g rfl).2
  have hp1' := own_at hp1 (hb1.block g1 hg1)
  have hs1 := hb1'.size
  have hs2 := hb1.size
  have S2 : w.heap.size ≤ w1.heap.size := by omega
  have RB := HB.out.lt_below hb3
  have RO := HO.out.lt_below hb3
  have RT := HT.out.lt_below hb3
  have hW0 : Wv (w1.alloc (.cells #[.slice A zb.length cb, .slice O zo.length co, .slice T zt.length ct, .slice (some ⟨g1, 0, none⟩) zb.length zb.length, .slice (some ⟨g, 0, none⟩) zb.length zb.length, .int .i64 0, .int .i64 0, .int .i64 0] 88)) w1.heap.size (.slice A zb.length cb) (.slice O zo.length co) (.slice T zt.length ct) (.slice (some ⟨g1, 0, none⟩) zb.length zb.length) (.slice (some ⟨g, 0, none⟩) zb.length zb.length) 0 0 0 := World.alloc_heap_new w1 _
  have hB0 : Below w1.heap.size w1 (w1.alloc (.cells #[.slice A zb.length cb, .slice O zo.length co, .slice T zt.length ct, .slice (some ⟨g1, 0, none⟩) zb.length zb.length, .slice (some ⟨g, 0, none⟩) zb.length zb.length, .int .i64 0, .int .i64 0, .int .i64 0] 88)) := (Below.refl _ _).alloc (Nat.le_refl _) _
  generalize w1.alloc _ = W0 at *
  have hst := st_zero zb zo zt
  have hch : chunks zb zo zt = chunksL zb zo zt (keptL zb.length (pairs zb zo)) (keptL zb.length (pairs zb zt)) 0 0 0 := rfl
  have hln := chunks_len zb zo zt
  generalize keptL zb.length (pairs zb zo) = ko at *
  generalize keptL zb.length (pairs zb zt) = kt at *
  have HP1 := Lib.hid hp1'
  have HG := Lib.hid (show g1 < w1.heap.size by omega)
  have HP2 := Lib.hid hp
  have H3 := Lib.hid hb3
  have HRB := Lib.hid RB
  have HRO := Lib.hid RO
  have HRT := Lib.hid RT
  clear hp1 hp1' hp hb1 hb1' hb3 RB RO RT hs1 hs2 HB HO HT
  go_loopw [8] (fun v wr => ∃ (x y z : Nat) (pre : List Ch), Wv wr w1.heap.size (.slice A zb.length cb) (.slice O zo.length co) (.slice T zt.length ct) (.slice (some ⟨g1, 0, none⟩) zb.length zb.length) (.slice (some ⟨g, 0, none⟩) zb.length zb.length) x y z ∧
      St zb zo zt ko kt x y z ∧ chunks zb zo zt = pre ++ chunksL zb zo zt ko kt x y z ∧ wr.ownsRow (w1.heap.size + 1) 58 7 v pre.length (pre.flatMap cellsCh) ∧ Below w1.heap.size w1 wr)
    (fun v _ => (chunks zb zo zt).length - sliceLen v)
  case atStart => exact ⟨0, 0, 0, [], hW0, hst, by rw [hch]; rfl, World.ownsRow_nil _ _ _ _, hB0⟩
  case round =>
    obtain ⟨x, y, z, pre, hW, hs, hc, hrow, hB1⟩ := hrel
    clear hW0 hB0 hst
    have c5 : wr.cell? ⟨w1.heap.size, 5, none⟩ = some (.int .i64 x) := (cell_of_row wr w1.heap.size 5 _ _ _ hW).trans rfl
    have c6 : wr.cell? ⟨w1.heap.size, 6, none⟩ = some (.int .i64 y) := (cell_of_row wr w1.heap.size 6 _ _ _ hW).trans rfl
    have c7 : wr.cell? ⟨w1.heap.size, 7, none⟩ = some (.int .i64 z) := (cell_of_row wr w1.heap.size 7 _ _ _ hW).trans rfl
    have hx := hs.hx
    have hy := hs.hy
    have hz := hs.hz
    have HW := Lib.hid hW
    have HS := Lib.hid hs
    have HC := Lib.hid hc
    clear hW hs hc
    go_upto_region 3 with (fail)
    go_cut [47] (fun s wx => s = .bool (decide (x < zb.length ∨ y < zo.length ∨ z < zt.length)) ∧ wx = wr)
    case first =>
      by_cases l1 : x < zb.length
      · have t1 : decide (x < zb.length) = true := decide_eq_true l1
        go_wp2
        go_meet
        case rel => exact ⟨congrArg Value.bool (decide_eq_true (p := x < zb.length ∨ y < zo.length ∨ z < zt.length) (by omega)).symm, rfl⟩
      have t1 : decide (x < zb.length) = false := decide_eq_false l1
      by_cases l2 : y < zo.length
      · have t2 : decide (y < zo.length) = true := decide_eq_true l2
        go_wp2
        go_meet
        case rel => exact ⟨congrArg Value.bool (decide_eq_true (p := x < zb.length ∨ y < zo.length ∨ z < zt.length) (by omega)).symm, rfl⟩
      have t2 : decide (y < zo.length) = false := decide_eq_false l2
      by_cases l3 : z < zt.length
      · have t3 : decide (z < zt.length) = true := decide_eq_true l3
        go_wp2
        go_meet
        case rel => exact ⟨congrArg Value.bool (decide_eq_true (p := x < zb.length ∨ y < zo.length ∨ z < zt.length) (by omega)).symm, rfl⟩
      have t3 : decide (z < zt.length) = false := decide_eq_false l3
      go_wp2
      go_meet
      case rel => exact ⟨congrArg Value.bool (decide_eq_false (p := x < zb.length ∨ y < zo.length ∨ z < zt.length) (by omega)).symm, rfl⟩
    case rest =>
      obtain ⟨rfl, rfl⟩ := hcut
      by_cases hl : x < zb.length ∨ y < zo.length ∨ z < zt.length
      · have ht : decide (x < zb.length ∨ y < zo.length ∨ z < zt.length) = true := decide_eq_true hl
        have HL := Lib.hid hl
        clear hl
        by_cases hr : 0 < runLen (ko.drop x) (kt.drop x) y z
        · go_wp2_with (go_at_call 49; go_must (refine (run_calls w1.heap.size A zb.length cb g1 g _ _ ko kt x y z wc hnb hx (by omega) (by omega) HS.out.lo HS.out.lt _ HW.out (own_lower (own_at HP1.out (hB1.block g1 HG.out)) (Nat.zero_le _)) (own_lower (own_at HP2.out (hB1.block g hg)) (Nat.zero_le _))).mono ?_); rintro e w3 ⟨rfl, q1, rfl⟩)
          have hW3 : Wv (wc.drewN q1) w1.heap.size (.slice A zb.length cb) (.slice O zo.length co) (.slice T zt.length ct) (.slice (some ⟨g1, 0, none⟩) zb.length zb.length) (.slice (some ⟨g, 0, none⟩) zb.length zb.length) x y z := HW.out
          have hsp := run_spec HS.out _ (Nat.le_refl _)
          have hx2 := hsp.hx
          have hy2 := hsp.hy
          have hz2 := hsp.hz
          generalize hn : runLen (ko.drop x) (kt.drop x) y z = n at *
          have e1 : IntKind.i64.wrap ((x : Int) + (n : Int)) = ((x + n : Nat) : Int) := by rw [IntWalk.i64_in _ (by omega)]; simp
          have e2 : IntKind.i64.wrap ((y : Int) + (n : Int)) = ((y + n : Nat) : Int) := by rw [IntWalk.i64_in _ (by omega)]; simp
          have e3 : IntKind.i64.wrap ((z : Int) + (n : Int)) = ((z + n : Nat) : Int) := by rw [IntWalk.i64_in _ (by omega)]; simp
          have HN := Lib.hid hn
          clear hn
          generalize hX : x + n = X at *
          generalize hY : y + n = Y at *
          generalize hZ : z + n = Z at *
          have HX := Lib.hid hX
          have HY := Lib.hid hY
          have HZ := Lib.hid hZ
          have HSP := Lib.hid hsp
          clear hX hY hZ hsp
          have d5 : (wc.drewN q1).cell? ⟨w1.heap.size, 5, none⟩ = some (.int .i64 x) := c5
          have d6 : (wc.drewN q1).cell? ⟨w1.heap.size, 6, none⟩ = some (.int .i64 y) := c6
          have d7 : (wc.drewN q1).cell? ⟨w1.heap.size, 7, none⟩ = some (.int .i64 z) := c7
          have hB3 := below_drewN hB1 q1
          have hrow3 : (wc.drewN q1).ownsRow (w1.heap.size + 1) 58 7 u8 pre.length (pre.flatMap cellsCh) := hrow
          generalize wc.drewN q1 = w3 at *
          have hb : w1.heap.size < w3.heap.size := World.block_lt_of_cell? w3 _ d5
          have b5 : ∀ o, (w3.alloc o).cell? ⟨w1.heap.size, 5, none⟩ = some (.int .i64 x) := fun o => (World.cell?_of_block (a := ⟨w1.heap.size, 5, none⟩) (Below.heap_alloc w3 o _ hb)).trans d5
          have b6 : ∀ o, (w3.alloc o).cell? ⟨w1.heap.size, 6, none⟩ = some (.int .i64 y) := fun o => (World.cell?_of_block (a := ⟨w1.heap.size, 6, none⟩) (Below.heap_alloc w3 o _ hb)).trans d6
          have b7 : ∀ o, (w3.alloc o).cell? ⟨w1.heap.size, 7, none⟩ = some (.int .i64 z) := fun o => (World.cell?_of_block (a := ⟨w1.heap.size, 7, none⟩) (Below.heap_alloc w3 o _ hb)).trans d7
          go_upto_region 6 with (fail)
          go_cut [10] (fun s wx => ∃ k, s = .pointer (some ⟨k, 0, none⟩) ∧ w3.heap.size ≤ k ∧ wx.heap[k]? = some (.cells (cellsCh ⟨x, X, y, Y, z, Z, 0⟩).toArray 58 (0, 0)) ∧ Wv wx w1.heap.size (.slice A zb.length cb) (.slice O zo.length co) (.slice T zt.length ct) (.slice (some ⟨g1, 0, none⟩) zb.length zb.length) (.slice (some ⟨g, 0, none⟩) zb.length zb.length) X Y Z ∧ w3.grownBy wx (some w1.heap.size))
          case first =>
            refine wp_region_till 19 (fun w' => w'.cell? ⟨w1.heap.size, 5, none⟩ = some (.int .i64 x) ∧ w'.cell? ⟨w1.heap.size, 6, none⟩ = some (.int .i64 y) ∧ w'.cell? ⟨w1.heap.size, 7, none⟩ = some (.int .i64 z)) (by kernel_rfl) ⟨d5, d6, d7⟩ (fun hT => ?_)
            refine wpAnyT_take (i := 0) (v := ?_) rfl (by kernel_rfl) (fun _ _ _ h => h) (Or.inl ⟨by rfl, ?_⟩) hT (fun hT => ?_)
            rotate_left
            · intro w _; go_simp; try with_reducible rfl
            try simp only [Act.put, List.setIfInBounds_toArray, List.set_cons_zero, List.set_cons_succ]
            refine wpAnyT_take (i := 1) (v := ?_) rfl (by kernel_rfl) (fun _ _ _ h => h) (Or.inl ⟨by rfl, ?_⟩) hT (fun hT => ?_)
            rotate_left
            · intro w _; go_simp; try with_reducible rfl
            try simp only [Act.put, List.setIfInBounds_toArray, List.set_cons_zero, List.set_cons_succ]
            refine wpAnyT_take (i := 2) (v := ?_) rfl (by kernel_rfl) (fun _ _ _ h => h) (Or.inl ⟨by rfl, ?_⟩) hT (fun hT => ?_)
            rotate_left
            · intro w _; go_simp; try with_reducible rfl
            try simp only [Act.put, List.setIfInBounds_toArray, List.set_cons_zero, List.set_cons_succ]
            refine wpAnyT_take (i := 3) (v := ?_) rfl (by kernel_rfl) (fun _ _ _ h => h) (Or.inl ⟨by rfl, ?_⟩) hT (fun hT => ?_)
            rotate_left
            · intro w _; go_simp; try with_reducible rfl
            try simp only [Act.put, List.setIfInBounds_toArray, List.set_cons_zero, List.set_cons_succ]
            refine wpAnyT_load (i := 4) (v := ?_) 40 rfl (by kernel_rfl) (fun _ _ _ h => h) (Or.inl ⟨by rfl, ?_⟩) hT (fun hT => ?_)
            rotate_left
            · intro w hS; (try dsimp only at hS); go_split_ands; go_simp; try with_reducible rfl
            try simp only [Act.put, List.setIfInBounds_toArray, List.set_cons_zero, List.set_cons_succ]
            refine wpAnyT_take (i := 5) (v := ?_) rfl (by kernel_rfl) (fun _ _ _ h => h) (Or.inl ⟨by rfl, ?_⟩) hT (fun hT => ?_)
            rotate_left
            · intro w _; go_simp; try with_reducible rfl
            try simp only [Act.put, List.setIfInBounds_toArray, List.set_cons_zero, List.set_cons_succ]
            refine wpAnyT_take (i := 6) (v := ?_) rfl (by kernel_rfl) (fun _ _ _ h => h) (Or.inl ⟨by rfl, ?_⟩) hT (fun hT => ?_)
            rotate_left
            · intro w _; go_simp; try with_reducible rfl
            try simp only [Act.put, List.setIfInBounds_toArray, List.set_cons_zero, List.set_cons_succ]
            refine wpAnyT_take (i := 7) (v := ?_) rfl (by kernel_rfl) (fun _ _ _ h => h) (Or.inl ⟨by rfl, ?_⟩) hT (fun hT => ?_)
            rotate_left
            · intro w _; go_simp; try with_reducible rfl
            try simp only [Act.put, List.setIfInBounds_toArray, List.set_cons_zero, List.set_cons_succ]
            refine wpAnyT_take (i := 8) (v := ?_) rfl (by kernel_rfl) (fun _ _ _ h => h) (Or.inl ⟨by rfl, ?_⟩) hT (fun hT => ?_)
            rotate_left
            · intro w _; go_simp; try with_reducible rfl
            try simp only [Act.put, List.setIfInBounds_toArray, List.set_cons_zero, List.set_cons_succ]
            refine wpAnyT_take (i := 9) (v := ?_) rfl (by kernel_rfl) (fun _ _ _ h => h) (Or.inl ⟨by rfl, ?_⟩) hT (fun hT => ?_)
            rotate_left
            · intro w _; go_simp; try with_reducible rfl
            try simp only [Act.put, List.setIfInBounds_toArray, List.set_cons_zero, List.set_cons_succ]
            refine wpAnyT_load (i := 10) (v := ?_) 40 rfl (by kernel_rfl) (fun _ _ _ h => h) (Or.inl ⟨by rfl, ?_⟩) hT (fun hT => ?_)
            rotate_left
            · intro w hS; (try dsimp only at hS); go_split_ands; go_simp; try with_reducible rfl
            try simp only [Act.put, List.setIfInBounds_toArray, List.set_cons_zero, List.set_cons_succ]
            refine wpAnyT_take (i := 11) (v := ?_) rfl (by kernel_rfl) (fun _ _ _ h => h) (Or.inl ⟨by rfl, ?_⟩) hT (fun hT => ?_)
            rotate_left
            · intro w _; go_simp; try with_reducible rfl
            try simp only [Act.put, List.setIfInBounds_toArray, List.set_cons_zero, List.set_cons_succ]
            refine wpAnyT_take (i := 12) (v := ?_) rfl (by kernel_rfl) (fun _ _ _ h => h) (Or.inl ⟨by rfl, ?_⟩) hT (fun hT => ?_)
            rotate_left
            · intro w _; go_simp; try with_reducible rfl
            try simp only [Act.put, List.setIfInBounds_toArray, List.set_cons_zero, List.set_cons_succ]
            refine wpAnyT_take (i := 13) (v := ?_) rfl (by kernel_rfl) (fun _ _ _ h => h) (Or.inl ⟨by rfl, ?_⟩) hT (fun hT => ?_)
            rotate_left
            · intro w _; go_simp; try with_reducible rfl
            try simp only [Act.put, List.setIfInBounds_toArray, List.set_cons_zero, List.set_cons_succ]
            refine wpAnyT_take (i := 14) (v := ?_) rfl (by kernel_rfl) (fun _ _ _ h => h) (Or.inl ⟨by rfl, ?_⟩) hT (fun hT => ?_)
            rotate_left
            · intro w _; go_simp; try with_reducible rfl
            try simp only [Act.put, List.setIfInBounds_toArray, List.set_cons_zero, List.set_cons_succ]
            refine wpAnyT_take (i := 15) (v := ?_) rfl (by kernel_rfl) (fun _ _ _ h => h) (Or.inl ⟨by rfl, ?_⟩) hT (fun hT => ?_)
            rotate_left
            · intro w _; go_simp; try with_reducible rfl
            try simp only [Act.put, List.setIfInBounds_toArray, List.set_cons_zero, List.set_cons_succ]
            refine wpAnyT_load (i := 16) (v := ?_) 40 rfl (by kernel_rfl) (fun _ _ _ h => h) (Or.inl ⟨by rfl, ?_⟩) hT (fun hT => ?_)
            rotate_left
            · intro w hS; (try dsimp only at hS); go_split_ands; go_simp; try with_reducible rfl
            try simp only [Act.put, List.setIfInBounds_toArray, List.set_cons_zero, List.set_cons_succ]
            refine wpAnyT_take (i := 17) (v := ?_) rfl (by kernel_rfl) (fun _ _ _ h => h) (Or.inl ⟨by rfl, ?_⟩) hT (fun hT => ?_)
            rotate_left
            · intro w _; go_simp; try with_reducible rfl
            try simp only [Act.put, List.setIfInBounds_toArray, List.set_cons_zero, List.set_cons_succ]
            refine wpAnyT_take (i := 18) (v := ?_) rfl (by kernel_rfl) (fun _ _ _ h => h) (Or.inl ⟨by rfl, ?_⟩) hT (fun hT => ?_)
            rotate_left
            · intro w _; go_simp; try with_reducible rfl
            try simp only [Act.put, List.setIfInBounds_toArray, List.set_cons_zero, List.set_cons_succ]
            refine wpAnyT_ready (rs := [19, 20]) (by kernel_rfl) (by simp) ?_
            refine ReadyT.cons rfl (fun K hK => ?_) (ReadyT.cons rfl (fun K hK => ?_) ReadyT.nil)
            · go_simp
              refine (to_calls w1.heap.size X Y Z _ _ _ _ _ x y z _ (by exact hW3)).mono ?_
              rintro e w4 ⟨rfl, hW4, hs4, hg4⟩
              refine hK.out _ _ (fun h => by simp at h) (fun hT => ?_)
              clear hK K
              simp only [Act.put, List.setIfInBounds_toArray, List.set_cons_zero, List.set_cons_succ, valCh, cellsCh]
              refine wpAnyT_ready (rs := [20]) (by kernel_rfl) (by simp) ?_
              refine ReadyT.cons rfl (fun K hK => ?_) ReadyT.nil
              go_simp
              refine hK.out _ _ (fun h => by simp at h) (fun hT => ?_)
              clear hK K
              try simp only [Act.put, List.setIfInBounds_toArray, List.set_cons_zero, List.set_cons_succ]
              refine wpAnyT_ready (rs := [21]) (by kernel_rfl) (by simp) ?_
              refine ReadyT.cons rfl (fun K hK => ?_) ReadyT.nil
              go_simp
              refine hK.out _ _ (fun h => by simp at h) (fun hT => ?_)
              clear hK K
              try simp only [Act.put, List.setIfInBounds_toArray, List.set_cons_zero, List.set_cons_succ]
              refine wpAnyT_done (by kernel_rfl) ?_ _
              go_wp2
              go_meet
              case rel => exact ⟨_, rfl, hs4, (World.alloc_heap_new w4 _).trans (by simp [cellsCh]), (Below.heap_alloc w4 _ _ (Nat.lt_of_lt_of_le hb hs4)).trans hW4, grown_alloc (grown_of_drew hg4) _⟩
            · go_simp
              refine hK.out _ _ (fun _ => ⟨b5 _, b6 _, b7 _⟩) (fun hT => ?_)
              clear hK K
              try simp only [Act.put, List.setIfInBounds_toArray, List.set_cons_zero, List.set_cons_succ]
              refine wpAnyT_ready (rs := [19]) (by kernel_rfl) (by simp) ?_
              refine ReadyT.cons rfl (fun K hK => ?_) ReadyT.nil
              go_simp
              refine (to_calls w1.heap.size X Y Z _ _ _ _ _ x y z _ (by exact (Below.heap_alloc w3 _ _ hb).trans hW3)).mono ?_
              rintro e w4 ⟨rfl, hW4, hs4, hg4⟩
              refine hK.out _ _ (fun h => by simp at h) (fun hT => ?_)
              clear hK K
              simp only [Act.put, List.setIfInBounds_toArray, List.set_cons_zero, List.set_cons_succ, valCh, cellsCh]
              have h4 := (hg4.block w3.heap.size (by simp) (by simp; omega)).trans (World.alloc_heap_new w3 _)
              obtain ⟨p0, q0⟩ := row_facts h4 0 rfl
              obtain ⟨p1, q1⟩ := row_facts h4 1 rfl
              obtain ⟨p2, q2⟩ := row_facts h4 2 rfl
              obtain ⟨p3, q3⟩ := row_facts h4 3 rfl
              obtain ⟨p4, q4⟩ := row_facts h4 4 rfl
              obtain ⟨p5, q5⟩ := row_facts h4 5 rfl
              obtain ⟨p6, q6⟩ := row_facts h4 6 rfl
              refine wpAnyT_ready (rs := [21]) (by kernel_rfl) (by simp) ?_
              refine ReadyT.cons rfl (fun K hK => ?_) ReadyT.nil
              go_simp
              refine hK.out _ _ (fun h => by simp at h) (fun hT => ?_)
              clear hK K
              try simp only [Act.put, List.setIfInBounds_toArray, List.set_cons_zero, List.set_cons_succ]
              refine wpAnyT_done (by kernel_rfl) ?_ _
              go_wp2
              go_meet
              have hg5 := grown_of_alloc (grown_of_drew hg4)
              case rel => exact ⟨_, rfl, Nat.le_refl _, (heap_setCell_same _ _ 6 _ _ _ (heap_setCell_same _ _ 5 _ _ _ (heap_setCell_same _ _ 4 _ _ _ (heap_setCell_same _ _ 3 _ _ _ (heap_setCell_same _ _ 2 _ _ _ (heap_setCell_same _ _ 1 _ _ _ (heap_setCell_same _ _ 0 _ _ _ h4))))))).trans (by simp [cellsCh]),
                (Below.heap_setCell _ _ _ _ (Nat.ne_of_lt hb)).trans ((Below.heap_setCell _ _ _ _ (Nat.ne_of_lt hb)).trans ((Below.heap_setCell _ _ _ _ (Nat.ne_of_lt hb)).trans ((Below.heap_setCell _ _ _ _ (Nat.ne_of_lt hb)).trans ((Below.heap_setCell _ _ _ _ (Nat.ne_of_lt hb)).trans ((Below.heap_setCell _ _ _ _ (Nat.ne_of_lt hb)).trans ((Below.heap_setCell _ _ _ _ (Nat.ne_of_lt hb)).trans hW4)))))),
                grown_set (grown_set (grown_set (grown_set (grown_set (grown_set (grown_set hg5 (Nat.le_refl _) _) (Nat.le_refl _) _) (Nat.le_refl _) _) (Nat.le_refl _) _) (Nat.le_refl _) _) (Nat.le_refl _) _) (Nat.le_refl _) _⟩
          case rest =>
            obtain ⟨k, rfl, hk, hblk, hW4, hg4⟩ := hcut
            have hrow4 := own_grown hrow3 hg4 (Nat.lt_succ_self _)
            have hkne : ∀ g', u8.ownBlock = some g' → g' ≠ k := fun g' he hx => by have := (hrow3.lt g' he).2; omega
            obtain ⟨p0, q0⟩ := row_facts hblk 0 (v := .int .i64 x) rfl
            obtain ⟨p1, q1⟩ := row_facts hblk 1 (v := .int .i64 X) rfl
            obtain ⟨p2, q2⟩ := row_facts hblk 2 (v := .int .i64 y) rfl
            obtain ⟨p3, q3⟩ := row_facts hblk 3 (v := .int .i64 Y) rfl
            obtain ⟨p4, q4⟩ := row_facts hblk 4 (v := .int .i64 z) rfl
            obtain ⟨p5, q5⟩ := row_facts hblk 5 (v := .int .i64 Z) rfl
            obtain ⟨p6, q6⟩ := row_facts hblk 6 (v := .int .i64 0) rfl
            clear hblk q0 q1 q2 q3 q4 q5
            have hrow5 := own_set (p := ⟨k, 6, none⟩) (x := .int .i64 1) hrow4 hkne
            have hs6 := hg4.size
            have hpl : pre.length + 1 ≤ (chunks zb zo zt).length := by
              have h1 := congrArg List.length HC.out
              rw [List.length_append, chunksL_at HS.out HL.out, List.length_cons] at h1
              omega
            have hbr := below_grown hB3 hg4 (Nat.le_refl _) (Nat.le_of_lt hb)
            go_wp2_with (at_builtin; go_must (refine app_one (w0 := wc.setCell ⟨k, 6, none⟩ (.int .i64 1)) (w1.heap.size + 1) rfl _ _ 52 58 rfl Try.underlying52 infoCh rfl (by decide) (by decide) (cellsCh ⟨x, X, y, Y, z, Z, 1⟩) rfl (by show Value.slice _ 1 1 = _; simp [World.setCell]) rfl (by simp [cellsCh, Value.oneCell']) (by exact hrow5) (Below.refl _ _) (by simp [World.setCell]; omega) (by omega) ?_); intro v' w5 hown' hbe' _ _)
            go_roundw
            case rel =>
              refine ⟨X, Y, Z, pre ++ [⟨x, X, y, Y, z, Z, 1⟩], ?_, HSP.out, ?_, ?_, ?_⟩
              · exact (hbe'.block _ (by omega)).trans ((Below.heap_setCell _ _ _ _ (by simp only []; omega)).trans hW4)
              · have h1 := HC.out
                rw [chunksL_at HS.out HL.out] at h1
                have h2 : chunkAt zb zo zt ko kt x y z = ⟨x, X, y, Y, z, Z, 1⟩ := by unfold chunkAt; rw [HN.out, if_pos hr, HX.out, HY.out, HZ.out]
                rw [h2] at h1
                rw [h1, List.append_assoc]
                rfl
              · rw [List.length_append, List.flatMap_append]
                simpa using hown'
              · exact (hbr.setCell (by simp only []; omega) _).trans (hbe'.mono (by omega))
            case measure =>
              rw [own_len hown', own_len hrow]
              omega
        · have hr0 : runLen (ko.drop x) (kt.drop x) y z = 0 := by omega
          have hrr := run_calls w1.heap.size A zb.length cb g1 g (.slice O zo.length co) (.slice T zt.length ct) ko kt x y z wc hnb hx (by omega) (by omega) HS.out.lo HS.out.lt _ HW.out (own_lower (own_at HP1.out (hB1.block g1 HG.out)) (Nat.zero_le _)) (own_lower (own_at HP2.out (hB1.block g hg)) (Nat.zero_le _))
          have HN := Lib.hid hr0
          rw [hr0] at hrr
          have HRR := Lib.hid hrr
          clear hr0 hrr hr
          obtain ⟨X, Y, Z, hnx, hsp, hlX, hlY, hlZ, _⟩ := next_spec HS.out
          have hX2 := hsp.hx
          have hY2 := hsp.hy
          have hZ2 := hsp.hz
          have hnn : ∀ q, Calls Try.prog 51 #[.pointer (some ⟨w1.heap.size, 0, none⟩)] (wc.drewN q) fun e w' => e = .returned (.tuple #[.int .i64 X, .int .i64 Y, .int .i64 Z]) ∧ ∃ q', w' = (wc.drewN q).drewN q' := fun q => by
            have := next_calls w1.heap.size A O T zb.length cb zo.length co zt.length ct g1 g ko kt x y z (wc.drewN q) hnb hx HS.out.lo HS.out.lt 0 (by exact HW.out) (by exact own_lower (own_at HP1.out (hB1.block g1 HG.out)) (Nat.zero_le _)) (by exact own_lower (own_at HP2.out (hB1.block g hg)) (Nat.zero_le _))
            rw [hnx] at this
            exact this
          have HNN := Lib.hid hnn
          have HNX := Lib.hid hnx
          have HSP := Lib.hid hsp
          clear hnn hnx hsp
          have hb : w1.heap.size < wc.heap.size := World.block_lt_of_cell? wc _ c5
          go_wp2_with (first
            | (go_at_call 49; go_must (refine HRR.out.mono ?_); rintro e w3 ⟨rfl, q1, rfl⟩)
            | (go_at_call 51; go_must (refine (HNN.out _).mono ?_); rintro e w3 ⟨rfl, q2, rfl⟩)
            | (go_at_call 50; go_must (refine (to_calls w1.heap.size X Y Z _ _ _ _ _ x y z _ (by exact HW.out)).mono ?_); rintro e w4 ⟨rfl, hW4, hs4, hg4⟩; simp only [valCh, cellsCh]))
          have hg4' : wc.grownBy w4 (some w1.heap.size) := ⟨hg4.os, hg4.tape, hg4.output, hg4.size, hg4.block⟩
          have hg5 := grown_alloc hg4' (.cells (cellsCh ⟨x, X, y, Y, z, Z, 0⟩).toArray 58)
          have hblk := World.alloc_heap_new w4 (.cells (cellsCh ⟨x, X, y, Y, z, Z, 0⟩).toArray 58)
          have hs4' : wc.heap.size ≤ w4.heap.size := hs4
          have hW5 := (Below.heap_alloc w4 (.cells (cellsCh ⟨x, X, y, Y, z, Z, 0⟩).toArray 58) w1.heap.size (Nat.lt_of_lt_of_le hb hs4')).trans hW4
          simp only [cellsCh] at hg5 hblk hW5
          generalize w4.heap.size = k at *
          generalize w4.alloc (.cells _ 58) = w5 at *
          clear hg4 hg4' hW4 hs4
          have hbr := below_grown hB1 hg5 (Nat.le_refl _) (Nat.le_of_lt hb)
          refine (outcome_calls w1.heap.size A O T zb.length cb zo.length co zt.length ct _ _ X Y Z ⟨x, X, y, Y, z, Z, 0⟩ zb zo zt w5 hW5 hlX hX2 hlY hY2 hlZ hZ2 hnb hno hnt (HRB.out.below hbr) (HRO.out.below hbr) (HRT.out.below hbr)).mono ?_
          rintro e w6 ⟨rfl, hb6⟩
          have hk5 : k < w5.heap.size := (Array.getElem?_eq_some_iff.1 hblk).1
          have hblk6 := (hb6.block k hk5).trans hblk
          obtain ⟨p0, q0⟩ := row_facts hblk6 0 (v := .int .i64 x) rfl
          obtain ⟨p1, q1'⟩ := row_facts hblk6 1 (v := .int .i64 X) rfl
          obtain ⟨p2, q2'⟩ := row_facts hblk6 2 (v := .int .i64 y) rfl
          obtain ⟨p3, q3⟩ := row_facts hblk6 3 (v := .int .i64 Y) rfl
          obtain ⟨p4, q4⟩ := row_facts hblk6 4 (v := .int .i64 z) rfl
          obtain ⟨p5, q5⟩ := row_facts hblk6 5 (v := .int .i64 Z) rfl
          obtain ⟨p6, q6⟩ := row_facts hblk6 6 (v := .int .i64 0) rfl
          clear hblk hblk6 q0 q1' q2' q3 q4 q5
          have hrow5 := own_grown hrow hg5 (Nat.lt_succ_self _)
          have hrow6 := own_same hrow5 (fun g' hv => hb6.block g' (hrow5.lt g' hv).2)
          have hkne : ∀ g', u8.ownBlock = some g' → g' ≠ k := fun g' he hx => by have := (hrow.lt g' he).2; omega
          have hOC : chunkAt zb zo zt ko kt x y z = ⟨x, X, y, Y, z, Z, outc (part zb x X) (part zo y Y) (part zt z Z)⟩ := by
            unfold chunkAt
            rw [HN.out, if_neg (Nat.lt_irrefl 0), HNX.out]
            rfl
          generalize outc (part zb x X) (part zo y Y) (part zt z Z) = oc at *
          have HOC := Lib.hid hOC
          clear hOC
          have hrow7 := own_set (p := ⟨k, 6, none⟩) (x := .int .i64 oc) hrow6 hkne
          have hs5 := hg5.size
          have hs6 := hb6.size
          have hpl : pre.length + 1 ≤ (chunks zb zo zt).length := by
            have h1 := congrArg List.length HC.out
            rw [List.length_append, chunksL_at HS.out HL.out, List.length_cons] at h1
            omega
          go_wp2_with (at_builtin; go_must (refine app_one (w0 := w6.setCell ⟨k, 6, none⟩ (.int .i64 oc)) (w1.heap.size + 1) rfl _ _ 52 58 rfl Try.underlying52 infoCh rfl (by decide) (by decide) (cellsCh ⟨x, X, y, Y, z, Z, oc⟩) rfl (by show Value.slice _ 1 1 = _; simp [World.setCell]) rfl (by simp [cellsCh, Value.oneCell']) (by exact hrow7) (Below.refl _ _) (by simp [World.setCell]; omega) (by omega) ?_); intro v' w7 hown' hbe' _ _)
          go_roundw
          case rel =>
            refine ⟨X, Y, Z, pre ++ [⟨x, X, y, Y, z, Z, oc⟩], ?_, HSP.out, ?_, ?_, ?_⟩
            · exact (hbe'.block _ (by omega)).trans ((Below.heap_setCell _ _ _ _ (by simp only []; omega)).trans ((hb6.block _ (by omega)).trans hW5))
            · have h1 := HC.out
              rw [chunksL_at HS.out HL.out, HOC.out] at h1
              rw [h1, List.append_assoc]
              rfl
            · rw [List.length_append, List.flatMap_append]
              simpa using hown'
            · exact ((hbr.trans (hb6.mono (by omega))).setCell (by simp only []; omega) _).trans (hbe'.mono (by omega))
          case measure =>
            rw [own_len hown', own_len hrow]
            omega
      · have ht : decide (x < zb.length ∨ y < zo.length ∨ z < zt.length) = false := decide_eq_false hl
        go_wp2
        have he := HC.out
        rw [chunksL_end hl, List.append_nil] at he
        go_ret
        rw [he]
        exact ⟨_, rfl, own_lower hrow (by omega), below_to H3.out S2 hB1⟩
end Go.Proofs.Ytnoloihdcmgbaaa
