/- The walk of spanin's code. -/
import Derived.Test.YtlcfijkegdlfcaaGreatDoorSpan1
import Derived.Test.YtlcfijkegdlfcaaGreatDoorResB
/- The walk of spanin's dest. -/
namespace Go.Proofs.YtlcfijkegdlfcaaGreatDoor
open Go.RowKit Go.PlainAid
set_option linter.all false
set_option linter.deprecated false
set_option maxRecDepth 100000
theorem dest_one (s : ByteArray) (n : Nat) (h : n < s.size) : destL (bl (s.extract n (n + 1))) = letterB ((bl s).getD n 0) := by
  rw [mid_bl, bl_ba]
  have e : ((bl s).take (n + 1)).drop n = [(bl s).getD n 0] := by
    rw [List.take_succ_eq_append_getElem (by rw [bl_len]; exact h), List.drop_append_of_le_length (by rw [List.length_take, bl_len]; omega), List.drop_of_length_le (by rw [List.length_take]; omega), List.nil_append, List.getD_eq_getElem?_getD, List.getElem?_eq_getElem (by rw [bl_len]; exact h)]
    rfl
  rw [e]
  simp [destL]
theorem dw_drop (p : UInt8 → Bool) : ∀ l : List UInt8, l.dropWhile p = l.drop (l.takeWhile p).length
  | [] => rfl
  | x :: t => by
    by_cases hx : p x = true
    · rw [List.dropWhile_cons, if_pos hx, List.takeWhile_cons, if_pos hx, List.length_cons, List.drop_succ_cons]; exact dw_drop p t
    · rw [List.dropWhile_cons, if_neg hx, List.takeWhile_cons, if_neg hx]; rfl
theorem tw_take (p : UInt8 → Bool) : ∀ l : List UInt8, l.takeWhile p = l.take (l.takeWhile p).length
  | [] => rfl
  | x :: t => by
    by_cases hx : p x = true
    · rw [List.takeWhile_cons, if_pos hx, List.length_cons, List.take_succ_cons, ← tw_take p t]
    · rw [List.takeWhile_cons, if_neg hx]; rfl
set_option maxHeartbeats 4000000 in
theorem idest_calls (s : ByteArray) (k : Nat) (w : World) (hs : s.size ≤ 4294967280) (hk : k ≤ s.size) :
    Calls Tryz.prog 181 #[.agg #[.string s], .int .i64 k] w (DestOf s (destG ((bl s).drop k)) w) := by
  have hI := fun W => is_calls s k 40 W hs
  have hD := fun W n (h : n < s.size) => dest_one s n h ▸ Dest_calls (s.extract n (n + 1)) W
  obtain ⟨t, ht⟩ : ∃ t, (bl s).drop (k + 1) = t := ⟨_, rfl⟩
  have hdd : ((bl s).drop k).drop 1 = t := by rw [List.drop_drop, ht]
  have hdef : destG ((bl s).drop k) = if decide (((bl s).drop k).head? = some 40) = true ∧ t.takeWhile letterB ≠ [] ∧ (t.dropWhile letterB).head? = some 41 then some (t.takeWhile letterB, (t.dropWhile letterB).drop 1) else none := by unfold destG; rw [hdd]; simp only [decide_eq_true_eq]
  have hh40 : decide (((bl s).drop k).head? = some 40) = true → k < s.size := fun h => by
    have h := of_decide_eq_true h
    refine Nat.lt_of_not_le (fun hle => ?_)
    rw [List.drop_eq_nil_of_le (by rw [bl_len]; omega)] at h
    simp at h
  have htl : t.length = s.size - (k + 1) := by rw [← ht, List.length_drop, bl_len]
  have htg : ∀ j, t.getD j 0 = (bl s).getD (k + 1 + j) 0 := fun j => by rw [← ht]; simp [List.getD_eq_getElem?_getD, List.getElem?_drop]
  have hdl : (t.takeWhile letterB).length ≤ t.length := (List.takeWhile_sublist _).length_le
  have hstep := fun n => @tw_step letterB t n
  obtain ⟨DL, hDL⟩ : ∃ DL, (t.takeWhile letterB).length = DL := ⟨_, rfl⟩
  have hdw : t.dropWhile letterB = (bl s).drop (k + 1 + DL) := by rw [dw_drop, hDL, ← ht, List.drop_drop]
  have htw : ba (t.takeWhile letterB) = s.extract (k + 1) (k + 1 + DL) := by
    rw [mid_bl, tw_take, hDL, ← ht, List.drop_take]
    congr 2; omega
  have hnil : t.takeWhile letterB ≠ [] ↔ DL ≠ 0 := by rw [← hDL]; simp
  rw [hdw] at hdef
  rw [hDL] at hdl
  simp only [hDL, htg] at hstep
  have hI2 := fun W => is_calls s (k + 1 + DL) 41 W hs
  have hdef2 : destG ((bl s).drop k) = if decide (((bl s).drop k).head? = some 40) = true ∧ DL ≠ 0 ∧ decide (((bl s).drop (k + 1 + DL)).head? = some 41) = true then some (t.takeWhile letterB, ((bl s).drop (k + 1 + DL)).drop 1) else none := by rw [hdef]; simp only [decide_eq_true_eq, hnil]
  have hh41 : decide (((bl s).drop (k + 1 + DL)).head? = some 41) = true → k + 1 + DL < s.size := fun h => by
    have h := of_decide_eq_true h
    refine Nat.lt_of_not_le (fun hle => ?_)
    rw [List.drop_eq_nil_of_le (by rw [bl_len]; omega)] at h
    simp at h
  generalize destG ((bl s).drop k) = X at *
  generalize decide (((bl s).drop k).head? = some 40) = V0 at *
  generalize decide (((bl s).drop (k + 1 + DL)).head? = some 41) = V1 at *
  have HI := Lib.hid hI
  have HI2 := Lib.hid hI2
  have HD := Lib.hid hD
  have HX := Lib.hid hdef2
  have HST := Lib.hid hstep
  have HTW := Lib.hid htw
  have HTL := Lib.hid htl
  have HDL := Lib.hid hdl
  have H40 := Lib.hid hh40
  have H41 := Lib.hid hh41
  clear hI hI2 hD hdef hdef2 hstep htw htl hdl hh40 hh41 hdd ht hdw hnil hDL htg
  cases V0 with
  | false =>
    have hx : X = none := HX.out.trans (if_neg (fun h => by cases h.1))
    subst hx
    go_enter Tryz.func181, Tryz.ntmps181
    go_wp2_with fail
    refine (HI.out _).mono ?_
    rintro e w1 ⟨rfl, hb1⟩
    have hbz := ((Below.refl w.heap.size w).alloc (Nat.le_refl _) (.cells #[.string s] 134)).trans (hb1.mono (by simp))
    go_wp2_with fail
    go_ret3
    exact ⟨_, _, rfl, (fun d r h => by cases h), hbz⟩
  | true =>
    have hks := H40.out rfl
    have k1 : IntKind.i64.wrap ((k : Int) + 1) = (k : Int) + 1 := IntWalk.i64_in _ (by omega)
    go_enter Tryz.func181, Tryz.ntmps181
    go_wp2_with fail
    refine (HI.out _).mono ?_
    rintro e w1 ⟨rfl, hb1⟩
    have hbz := ((Below.refl w.heap.size w).alloc (Nat.le_refl _) (.cells #[.string s] 134)).trans (hb1.mono (by simp))
    have hc1 : w1.cell? ⟨w.heap.size, 0, none⟩ = some (.string s) := below_at' hb1 (by simp) (by rw [cell_of_row _ w.heap.size 0 _ _ _ (heap_alloc_new w (.cells #[.string s] 134))]; rfl)
    have hl1 : w.heap.size < w1.heap.size := by have := hb1.size; simp at this; omega
    clear hb1
    go_wp2_with fail
    go_loopw [7] (fun v7 wr => ∃ j : Nat, j ≤ DL ∧ v7 = .int .i64 ((k : Int) + 1 + j) ∧ wr.cell? ⟨w.heap.size, 0, none⟩ = some (.string s) ∧ w.heap.size < wr.heap.size ∧ Below w.heap.size w wr) (fun v7 _ => s.size - (intOf v7).toNat)
    case atStart => exact ⟨0, Nat.zero_le _, by simp, hc1, hl1, hbz⟩
    case round =>
      clear hc1 hl1 hbz
      obtain ⟨j, hj, rfl, hc1, hl1, hbz⟩ := hrel
      have hjs : k + 1 + j ≤ s.size := by have := HDL.out; have := HTL.out; omega
      obtain ⟨n, hn⟩ : ∃ n : Nat, k + 1 + j = n := ⟨_, rfl⟩
      have hnz : (k : Int) + 1 + j = n := by omega
      rw [hnz]
      have HN := Lib.hid hn
      have n1 : IntKind.i64.wrap ((n : Int) + 1) = (n : Int) + 1 := IntWalk.i64_in _ (by omega)
      clear hn hnz
      by_cases hlt : n < s.size
      · have hltz : (n : Int) < s.size := by omega
        have hlt2 : (n : Int) + 1 ≤ s.size := by omega
        have hst := HST.out j (by omega) (by have := HTL.out; have := HN.out; omega)
        rw [HN.out] at hst
        have n2 : ((n : Int) + 1).toNat = n + 1 := by omega
        have n3 : (n : Int) ≤ (n : Int) + 1 := by omega
        have n4 : (0 : Int) ≤ (n : Int) + 1 := by omega
        have HDn := Lib.hid (fun W => HD.out W n hlt)
        cases hlet : letterB ((bl s).getD n 0) with
        | true =>
          have hjD : j < DL := hst.2 hlet
          rw [hlet] at HDn
          clear hst
          go_wp2_with fail
          refine (HDn.out _).mono ?_
          rintro e w2 ⟨rfl, hb2⟩
          go_wp2_with fail
          go_roundw
          case rel => exact ⟨j + 1, by omega, by have := HN.out; congr 1; omega, below_at' hb2 hl1 hc1, Nat.lt_of_lt_of_le hl1 hb2.size, below_to hbz hbz.size hb2⟩
          case measure => simp [intOf]; omega
        | false =>
          have hjD : j = DL := by
            have : ¬ j < DL := fun h => by have := hst.1 h; rw [hlet] at this; cases this
            omega
          rw [hlet] at HDn
          clear hst
          have hnk : n = k + 1 + DL := by have := HN.out; omega
          have HI2n := Lib.hid (fun W => hnk ▸ HI2.out W)
          have HNK := Lib.hid hnk
          clear hnk
          by_cases h0 : DL = 0
          · have hx : X = none := HX.out.trans (if_neg (fun h => h.2.1 h0))
            have hne : ((n : Int) == (k : Int) + 1) = true := beq_iff_eq.2 (by have := HNK.out; omega)
            subst hx
            clear hjD h0
            go_wp2_with fail
            refine (HDn.out _).mono ?_
            rintro e w2 ⟨rfl, hb2⟩
            have hc2 := below_at' hb2 hl1 hc1
            have hl2 := Nat.lt_of_lt_of_le hl1 hb2.size
            go_wp2_with fail
            go_ret3
            exact ⟨_, _, rfl, (fun d r h => by cases h), (below_to hbz hbz.size hb2)⟩
          have hne : ((n : Int) == (k : Int) + 1) = false := beq_eq_false_iff_ne.2 (by have := HNK.out; omega)
          cases V1 with
          | false =>
            have hx : X = none := HX.out.trans (if_neg (fun h => by cases h.2.2))
            subst hx
            clear hjD h0
            go_wp2_with fail
            refine (HDn.out _).mono ?_
            rintro e w2 ⟨rfl, hb2⟩
            have hc2 := below_at' hb2 hl1 hc1
            have hl2 := Nat.lt_of_lt_of_le hl1 hb2.size
            go_wp2_with fail
            refine (HI2n.out _).mono ?_
            rintro e w4 ⟨rfl, hb4⟩
            go_wp2_with fail
            go_ret3
            exact ⟨_, _, rfl, (fun d r h => by cases h), below_to (below_to hbz hbz.size hb2) ((below_to hbz hbz.size hb2)).size hb4⟩
          | true =>
            have hx := HX.out.trans (if_pos ⟨by simp, h0, by simp⟩)
            have h41 := H41.out rfl
            have m1 : (n : Int) ≤ s.size := by omega
            have m2 : (k : Int) + 1 ≤ n := by have := HNK.out; omega
            have m3 : ((k : Int) + 1).toNat = k + 1 := by omega
            have m4 : (0 : Int) ≤ (k : Int) + 1 := by omega
            have HH41 := Lib.hid h41
            subst hx
            clear hjD h0 h41
            go_wp2_with fail
            refine (HDn.out _).mono ?_
            rintro e w2 ⟨rfl, hb2⟩
            have hc2 := below_at' hb2 hl1 hc1
            have hl2 := Nat.lt_of_lt_of_le hl1 hb2.size
            go_wp2_with fail
            refine (HI2n.out _).mono ?_
            rintro e w4 ⟨rfl, hb4⟩
            have hc4 := below_at' hb4 hl2 hc2
            go_wp2_with fail
            go_ret3
            exact ⟨_, _, rfl, (fun d r h => by cases h; exact ⟨by rw [HTW.out, HNK.out], n + 1, by rfl, by have := HH41.out; have := HNK.out; omega, by rw [List.drop_drop, HNK.out]⟩), below_to (below_to hbz hbz.size hb2) ((below_to hbz hbz.size hb2)).size hb4⟩
      · have hjD : j = DL := by have := HDL.out; have := HTL.out; have := HN.out; omega
        have hltz : ¬ (n : Int) < s.size := by omega
        have hnk : n = k + 1 + DL := by have := HN.out; omega
        have HI2n := Lib.hid (fun W => hnk ▸ HI2.out W)
        have HNK := Lib.hid hnk
        clear hnk
        by_cases h0 : DL = 0
        · have hx : X = none := HX.out.trans (if_neg (fun h => h.2.1 h0))
          have hne : ((n : Int) == (k : Int) + 1) = true := beq_iff_eq.2 (by have := HNK.out; omega)
          subst hx
          clear hjD h0
          go_wp2_with fail
          go_ret3
          exact ⟨_, _, rfl, (fun d r h => by cases h), hbz⟩
        have hne : ((n : Int) == (k : Int) + 1) = false := beq_eq_false_iff_ne.2 (by have := HNK.out; omega)
        cases V1 with
        | false =>
          have hx : X = none := HX.out.trans (if_neg (fun h => by cases h.2.2))
          subst hx
          clear hjD h0
          go_wp2_with fail
          refine (HI2n.out _).mono ?_
          rintro e w4 ⟨rfl, hb4⟩
          go_wp2_with fail
          go_ret3
          exact ⟨_, _, rfl, (fun d r h => by cases h), below_to hbz (hbz).size hb4⟩
        | true => exact absurd (H41.out (by simp)) (by have := HNK.out; omega)
end Go.Proofs.YtlcfijkegdlfcaaGreatDoor
namespace Go.Proofs.YtlcfijkegdlfcaaGreatDoor
open Go.RowKit Go.PlainAid
set_option linter.all false
set_option linter.deprecated false
set_option maxRecDepth 100000
/-- A span without kids, as a value. -/
def spV (x : Sp) : Value := .agg #[.int .i64 x.kind, .string x.s, .slice none 0 0]
/-- What code answers. -/
def CodeOf (s : ByteArray) (x : Option (Sp × Ln)) (w : World) (e : Ending) (w' : World) : Prop :=
  ∃ (v : Sp) (n : Int), e = .returned (.tuple #[spV v, .int .i64 n, .bool x.isSome]) ∧ (∀ d r, x = some (d, r) → v = d ∧ d.kids = [] ∧ ∃ k : Nat, n = k ∧ k ≤ s.size ∧ (bl s).drop k = r) ∧ Below w.heap.size w w'
theorem code_at {s : ByteArray} {i f n : Nat} {pre : Ln} (hi : i < s.size) :
    codeG (f + 1) n pre ((bl s).drop i) = if (bl s).getD i 0 = 10 then none else if runL 96 ((bl s).drop i) = n then some (.mk 2 (ba (stripL pre)) [], ((bl s).drop i).drop n) else codeG f n (pre ++ ((bl s).drop i).take (max 1 (runL 96 ((bl s).drop i)))) (((bl s).drop i).drop (max 1 (runL 96 ((bl s).drop i)))) := by
  have hd : (bl s).drop i = (bl s).getD i 0 :: (bl s).drop (i + 1) := by
    rw [List.drop_eq_getElem_cons (by rw [bl_len]; exact hi), List.getD_eq_getElem?_getD, List.getElem?_eq_getElem (by rw [bl_len]; exact hi)]; rfl
  rw [hd, codeG]
theorem code_end {f n : Nat} {pre : Ln} : codeG f n pre [] = none := by cases f <;> rfl
theorem pre_next (l : Ln) {b i m : Nat} (hb : b ≤ i) : (l.take i).drop b ++ (l.drop i).take m = (l.take (i + m)).drop b := by
  rw [List.take_add, List.drop_append]
  congr 1
  by_cases h : i ≤ l.length
  · rw [List.length_take, Nat.min_eq_left h, Nat.sub_eq_zero_of_le hb]; rfl
  · rw [List.drop_eq_nil_of_le (by omega : l.length ≤ i)]; simp
set_option maxHeartbeats 4000000 in
theorem icode_calls (s : ByteArray) (k n : Nat) (w : World) (hs : s.size ≤ 4294967280) (hn : 1 ≤ n) (hk : k + n ≤ s.size) :
    Calls Tryz.prog 182 #[.agg #[.string s], .int .i64 k, .int .i64 n] w (CodeOf s (codeG (s.size + 1) n [] ((bl s).drop (k + n))) w) := by
  obtain ⟨b, hb⟩ : ∃ b, k + n = b := ⟨_, rfl⟩
  have e0 : codeG (s.size + 1) n [] ((bl s).drop (k + n)) = codeG (s.size + 1) n (((bl s).take b).drop b) ((bl s).drop b) := by
    rw [hb]
    congr 1
    rw [List.drop_eq_nil_of_le (by rw [List.length_take]; omega)]
  obtain ⟨X, hX⟩ : ∃ X, codeG (s.size + 1) n [] ((bl s).drop (k + n)) = X := ⟨_, rfl⟩
  rw [hX] at e0 ⊢
  have HX := Lib.hid e0.symm
  have HB := Lib.hid hb
  have hbs : b ≤ s.size := by omega
  have k1 : IntKind.i64.wrap ((k : Int) + n) = b := by rw [IntWalk.i64_in _ (by omega)]; omega
  clear hX e0 hb
  go_enter Tryz.func182, Tryz.ntmps182
  go_wp2_with fail
  go_loopw [9] (fun v9 wr => ∃ i f : Nat, b ≤ i ∧ i ≤ s.size ∧ v9 = .int .i64 i ∧ codeG f n (((bl s).take i).drop b) ((bl s).drop i) = X ∧ s.size < i + f ∧ wr.cell? ⟨w.heap.size, 0, none⟩ = some (.string s) ∧ w.heap.size < wr.heap.size ∧ wr.heap[w.heap.size + 1]? = some (.cells #[.int .i64 0, .string ⟨#[]⟩, .slice none 0 0] 49 (0, 0)) ∧ Below w.heap.size w wr) (fun v9 _ => s.size - (intOf v9).toNat)
  case atStart =>
    have hb1 : Below (w.heap.size + 1) (w.alloc (.cells #[.string s] 134)) ((w.alloc (.cells #[.string s] 134)).alloc (.cells #[.int .i64 0, .string ⟨#[]⟩, .slice none 0 0] 49)) := by
      have := (Below.refl (w.alloc (.cells #[.string s] 134)).heap.size (w.alloc (.cells #[.string s] 134))).alloc (Nat.le_refl _) (.cells #[.int .i64 0, .string ⟨#[]⟩, .slice none 0 0] 49)
      simpa using this
    refine ⟨b, s.size + 1, Nat.le_refl _, hbs, by first | rfl | trivial, HX.out, by omega, below_at' hb1 (Nat.lt_succ_self _) (by rw [cell_of_row _ w.heap.size 0 _ _ _ (heap_alloc_new w (.cells #[.string s] 134))]; rfl), by simp; omega, ?_, ((Below.refl _ _).alloc (Nat.le_refl _) _).trans (hb1.mono (Nat.le_succ _))⟩
    have := heap_alloc_new (w.alloc (.cells #[.string s] 134)) (.cells #[.int .i64 0, .string ⟨#[]⟩, .slice none 0 0] 49)
    simpa using this
  case round =>
    clear HX
    obtain ⟨i, f, hbi, his, rfl, hx, hf, hc, hl, hrow, hbz⟩ := hrel
    have hg := get_bt s
    by_cases hlt : i < s.size
    · obtain ⟨f, rfl⟩ : ∃ g, f = g + 1 := ⟨f - 1, by omega⟩
      rw [code_at hlt] at hx
      have hltz : (i : Int) < s.size := by omega
      have hbt := bt_bl s i
      have hT := fun W => Ticks_calls s i W hs
      have hrl := run_le 96 ((bl s).drop i)
      rw [List.length_drop, bl_len] at hrl
      rw [List.drop_drop, List.drop_drop, pre_next (bl s) hbi] at hx
      obtain ⟨c, hcc⟩ : ∃ c, (bl s).getD i 0 = c := ⟨_, rfl⟩
      rw [hcc] at hx hbt
      obtain ⟨R, hR⟩ : ∃ R, runL 96 ((bl s).drop i) = R := ⟨_, rfl⟩
      rw [hR] at hx hT hrl
      have HXX := Lib.hid hx
      have HT := Lib.hid hT
      have HLT := Lib.hid hlt
      clear hx hT hcc hR
      by_cases h10 : c = 10
      · have hx : X = none := by have := HXX.out; rw [if_pos h10] at this; exact this.symm
        have hbq : (bt s i == 10) = true := by rw [hbt, h10]; rfl
        have hbq2 : (bt s i != 10) = false := by rw [bne, hbq]; rfl
        subst hx
        clear h10 hbt
        go_wp2_with (refine wpList_store_mid rfl _ _ _ rfl (w.heap.size + 1) 0 #[.int .i64 0, .string ⟨#[]⟩, .slice none 0 0] rfl rfl (there_of_row hrow) (by kernel_rfl) (by simp [Value.oneCell']) ?_; have hrow2 := setCells_whole [.int .i64 0, .string ⟨#[]⟩, .slice none 0 0] hrow rfl; have hbz2 := setCells_below (Nat.le_succ _) [.int .i64 0, .string ⟨#[]⟩, .slice none 0 0] 0 _ hbz; generalize World.setCells wr (w.heap.size + 1) 0 _ = w9 at *)
        (try simp only [Exit.inBlock, Exit.then])
        refine bodyPost_ret (results_cell3 rfl _ _ (w.heap.size + 1) _ _ _ _ rfl hrow2 Tryz.underlying49 rfl (by kernel_rfl)) rfl ?_
        exact ⟨.mk 0 ⟨#[]⟩ [], _, rfl, (fun d r h => by cases h), hbz2⟩
      · have hbq : (bt s i == 10) = false := beq_eq_false_iff_ne.2 (by rw [hbt]; intro h; exact h10 (UInt8.toNat_inj.1 (by exact_mod_cast h)))
        have hbq2 : (bt s i != 10) = true := by rw [bne, hbq]; rfl
        have hXX := HXX.out
        rw [if_neg h10] at hXX
        clear h10 hbt HXX
        by_cases hRn : R = n
        · rw [if_pos hRn] at hXX
          have hS := fun W => strip_calls (s.extract b i) W (by rw [mid_bl, ba_size, List.length_drop, List.length_take, bl_len]; omega)
          rw [mid_bl, bl_ba] at hS
          have hext := mid_bl s b i
          generalize ba ((((bl s).take i)).drop b) = EX at *
          generalize ba (stripL (((bl s).take i).drop b)) = SS at *
          have HS := Lib.hid hS
          have HXX := Lib.hid hXX
          have hRz : ((R : Int) == (n : Int)) = true := beq_iff_eq.2 (by omega)
          have hin : i + n ≤ s.size := by omega
          have w1 : IntKind.i64.wrap ((i : Int) + n) = ((i + n : Nat) : Int) := by rw [IntWalk.i64_in _ (by omega)]; omega
          have m1 : (b : Int) ≤ i := by omega
          have m2 : (i : Int) ≤ s.size := by omega
          have HRN := Lib.hid hRn
          clear hS hXX hRn
          go_wp2_with fail
          refine (HT.out _).mono ?_
          rintro e w2 ⟨rfl, rfl⟩
          go_wp2_with fail
          refine (HS.out _).mono ?_
          rintro e w3 ⟨rfl, hb3⟩
          have hlr : w.heap.size + 1 < w2.heap.size := (Array.getElem?_eq_some_iff.1 hrow).1
          have hrow3 := (hb3.block _ hlr).trans hrow
          have hbz3 := below_to hbz (Nat.le_of_lt (Nat.lt_of_succ_lt hlr)) hb3
          clear hrow hb3
          go_wp2_with (refine wpList_store_mid rfl _ _ _ rfl (w.heap.size + 1) 0 #[.int .i64 2, .string SS, .slice none 0 0] rfl rfl (show w3.there (w.heap.size + 1) 0 3 from there_of_row hrow3) (by kernel_rfl) (by simp [Value.oneCell']) ?_; have hrow2 := setCells_whole [.int .i64 2, .string SS, .slice none 0 0] hrow3 rfl; have hbz2 := setCells_below (Nat.le_succ _) [.int .i64 2, .string SS, .slice none 0 0] 0 _ hbz3)
          (try simp only [Exit.inBlock, Exit.then])
          refine bodyPost_ret (results_cell3 rfl _ _ (w.heap.size + 1) _ _ _ _ rfl hrow2 Tryz.underlying49 rfl (by kernel_rfl)) rfl ?_
          refine ⟨.mk 2 SS [], (i : Int) + n, ?_, (fun d r h => ?_), hbz2⟩
          · rw [← HXX.out]; rfl
          · rw [← HXX.out] at h
            cases h
            exact ⟨rfl, rfl, i + n, by omega, hin, rfl⟩
        · rw [if_neg hRn] at hXX
          obtain ⟨M, hM⟩ : ∃ M, max 1 R = M + 1 := ⟨max 1 R - 1, by omega⟩
          rw [hM] at hXX
          have hRz : ((R : Int) == (n : Int)) = false := beq_eq_false_iff_ne.2 (by omega)
          have w1 : IntKind.i64.wrap ((R : Int) - 1) = (R : Int) - 1 := IntWalk.i64_in _ (by omega)
          have w2' : max ((R : Int) - 1) 0 = (M : Int) := by omega
          have w3 : IntKind.i64.wrap ((i : Int) + M) = ((i + M : Nat) : Int) := by rw [IntWalk.i64_in _ (by omega)]; omega
          have w4 : IntKind.i64.wrap (((i + M : Nat) : Int) + 1) = ((i + (M + 1) : Nat) : Int) := by rw [IntWalk.i64_in _ (by omega)]; omega
          have HXX := Lib.hid hXX
          have HM := Lib.hid hM
          clear hXX hM hRn
          go_wp2_with fail
          refine (HT.out _).mono ?_
          rintro e w2 ⟨rfl, rfl⟩
          go_wp2_with fail
          go_roundw
          case rel => exact ⟨i + (M + 1), f, by omega, by have := HM.out; have := HLT.out; omega, by congr 1, HXX.out, by omega, hc, hl, hrow, hbz⟩
          case measure => have := HLT.out; simp [intOf]; omega
    · have hx : X = none := by
        have hdr : (bl s).drop i = [] := List.drop_eq_nil_of_le (by rw [bl_len]; omega)
        rw [hdr, code_end] at hx
        exact hx.symm
      have hltz : ¬ (i : Int) < s.size := by omega
      subst hx
      go_wp2_with (refine wpList_store_mid rfl _ _ _ rfl (w.heap.size + 1) 0 #[.int .i64 0, .string ⟨#[]⟩, .slice none 0 0] rfl rfl (there_of_row hrow) (by kernel_rfl) (by simp [Value.oneCell']) ?_; have hrow2 := setCells_whole [.int .i64 0, .string ⟨#[]⟩, .slice none 0 0] hrow rfl; have hbz2 := setCells_below (Nat.le_succ _) [.int .i64 0, .string ⟨#[]⟩, .slice none 0 0] 0 _ hbz; generalize World.setCells wr (w.heap.size + 1) 0 _ = w9 at *)
      (try simp only [Exit.inBlock, Exit.then])
      refine bodyPost_ret (results_cell3 rfl _ _ (w.heap.size + 1) _ _ _ _ rfl hrow2 Tryz.underlying49 rfl (by kernel_rfl)) rfl ?_
      exact ⟨.mk 0 ⟨#[]⟩ [], _, rfl, (fun d r h => by cases h), hbz2⟩
end Go.Proofs.YtlcfijkegdlfcaaGreatDoor
