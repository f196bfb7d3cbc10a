/- The walk of number.Alike. -/
import Derived.Test.YtobncidpdodaiaaDoorParts
import Derived.Test.YtobncidpdodaiaaDoorDice
import Derived.Test.YtobncidpdodaiaaDoorSameT
import Derived.Test.YtobncidpdodaiaaDoorLit
import Derived.Test.YtobncidpdodaiaaDoorTill
import Derived.Deep.DeepCutAuto
import Derived.StillTailTactics
namespace Go.Proofs.YtobncidpdodaiaaDoor
open Go.RowKit Go.PlainAid
set_option linter.all false
set_option linter.deprecated false
set_option maxRecDepth 100000
/-- The numbers of the parts of a block, beside another one's. -/
def idsOf (all l : List ByteArray) : List Int := l.map fun s => ((idOf all s : Nat) : Int)
/-- How alike two blocks are. -/
def alikeB (x y : Bl) : Int :=
  if eqBl x y = true then 1000 else if x.kind = y.kind then min 999 (dice (idsOf (partsB x ++ partsB y) (partsB x)) (idsOf (partsB x ++ partsB y) (partsB y))) else 0
theorem idsD_eq (all l : List ByteArray) : idsD all l = .sl ((idsOf all l).map (D.int .i64)) := by
  unfold idsD idsOf
  rw [List.map_map]; rfl
theorem idsOf_len (all l : List ByteArray) : (idsOf all l).length = l.length := by unfold idsOf; rw [List.length_map]
/-- That number comes, and lays nothing old anew. -/
def Tells (x : Int) (w : World) (e : Ending) (w' : World) : Prop := e = .returned (.int .i64 x) ∧ Below w.heap.size w w'
set_option maxHeartbeats 8000000 in
theorem Alike_calls (k n k' n' : Int) (s s' : ByteArray) (ls ls' : List ByteArray) (sp sp' : List Sp) (l l' : List Bl) (hb : (dBl (.mk k n s ls sp l)).bulk ≤ 1048583) (hb' : (dBl (.mk k' n' s' ls' sp' l')).bulk ≤ 1048583)
    (hpp : ¬ eqBl (.mk k n s ls sp l) (.mk k' n' s' ls' sp' l') = true → (partsB (.mk k n s ls sp l)).length + (partsB (.mk k' n' s' ls' sp' l')).length ≤ 1048575) (hwf : (Bl.mk k n s ls sp l).wf) (hwf' : (Bl.mk k' n' s' ls' sp' l').wf)
    (A1 A2 A3 A1' A2' A3' : Option Addr) (c1 c2 c3 c1' c2' c3' : Nat) (w : World)
    (hR1 : Rd (· < w.heap.size) w (.slice A1 ls.length c1) (ls.map D.str)) (hR2 : Rd (· < w.heap.size) w (.slice A2 sp.length c2) (dSps sp)) (hR3 : Rd (· < w.heap.size) w (.slice A3 l.length c3) (dBls l))
    (hR1' : Rd (· < w.heap.size) w (.slice A1' ls'.length c1') (ls'.map D.str)) (hR2' : Rd (· < w.heap.size) w (.slice A2' sp'.length c2') (dSps sp')) (hR3' : Rd (· < w.heap.size) w (.slice A3' l'.length c3') (dBls l')) (hP : PowB w.heap.size w) :
    Calls Tryd.prog 10 #[.agg #[.int .i64 k, .int .i64 n, .string s, .slice A1 ls.length c1, .slice A2 sp.length c2, .slice A3 l.length c3], .agg #[.int .i64 k', .int .i64 n', .string s', .slice A1' ls'.length c1', .slice A2' sp'.length c2', .slice A3' l'.length c3']] w
      (Tells (alikeB (.mk k n s ls sp l) (.mk k' n' s' ls' sp' l')) w) := by
  have hbw : Below w.heap.size w ((w.alloc (.cells #[.int .i64 k, .int .i64 n, .string s, .slice A1 ls.length c1, .slice A2 sp.length c2, .slice A3 l.length c3] 26)).alloc (.cells #[.int .i64 k', .int .i64 n', .string s', .slice A1' ls'.length c1', .slice A2' sp'.length c2', .slice A3' l'.length c3'] 26)) := below_alloc (below_alloc (Below.refl _ _) (Nat.le_refl _) _) (by simp) _
  have hgx := two_old w (.cells #[.int .i64 k, .int .i64 n, .string s, .slice A1 ls.length c1, .slice A2 sp.length c2, .slice A3 l.length c3] 26) (.cells #[.int .i64 k', .int .i64 n', .string s', .slice A1' ls'.length c1', .slice A2' sp'.length c2', .slice A3' l'.length c3'] 26)
  have hgy := two_new w (.cells #[.int .i64 k, .int .i64 n, .string s, .slice A1 ls.length c1, .slice A2 sp.length c2, .slice A3 l.length c3] 26) (.cells #[.int .i64 k', .int .i64 n', .string s', .slice A1' ls'.length c1', .slice A2' sp'.length c2', .slice A3' l'.length c3'] 26)
  have hsz : ((w.alloc (.cells #[.int .i64 k, .int .i64 n, .string s, .slice A1 ls.length c1, .slice A2 sp.length c2, .slice A3 l.length c3] 26)).alloc (.cells #[.int .i64 k', .int .i64 n', .string s', .slice A1' ls'.length c1', .slice A2' sp'.length c2', .slice A3' l'.length c3'] 26)).heap.size = w.heap.size + 1 + 1 := by simp
  have hx := Rd.lit' (t := 26) (ds := [dBl (.mk k n s ls sp l)]) (cs := [.int .i64 k, .int .i64 n, .string s, .slice A1 ls.length c1, .slice A2 sp.length c2, .slice A3 l.length c3]) (RepAll.single (rep_bl_mk (hR1.lt_below hbw) (hR2.lt_below hbw) (hR3.lt_below hbw))) (by simp) rfl
  have hb3 := below_to hbw hbw.size (below_alloc (Below.refl _ _) (Nat.le_refl _) (.cells #[.int .i64 k, .int .i64 n, .string s, .slice A1 ls.length c1, .slice A2 sp.length c2, .slice A3 l.length c3] 26))
  have hy := Rd.lit' (t := 26) (ds := [dBl (.mk k' n' s' ls' sp' l')]) (cs := [.int .i64 k', .int .i64 n', .string s', .slice A1' ls'.length c1', .slice A2' sp'.length c2', .slice A3' l'.length c3']) (RepAll.single (rep_bl_mk (hR1'.lt_below hb3) (hR2'.lt_below hb3) (hR3'.lt_below hb3))) (by simp) rfl
  have hxy := hx.lt_below (below_alloc (Below.refl _ _) (Nat.le_refl _) (.cells #[.int .i64 k', .int .i64 n', .string s', .slice A1' ls'.length c1', .slice A2' sp'.length c2', .slice A3' l'.length c3'] 26))
  have hb4 := below_to hb3 hb3.size (below_alloc (Below.refl _ _) (Nat.le_refl _) (.cells #[.int .i64 k', .int .i64 n', .string s', .slice A1' ls'.length c1', .slice A2' sp'.length c2', .slice A3' l'.length c3'] 26))
  have hS := treeSame_of (EqBl_calls _ [.mk k n s ls sp l] [.mk k' n' s' ls' sp' l'] (Nat.lt_succ_self _) _ _ _ _ hxy hy (Nat.le_refl _))
  simp only [World.size_alloc, List.length_singleton] at hS
  have heq : eqBls [.mk k n s ls sp l] [.mk k' n' s' ls' sp' l'] = eqBl (.mk k n s ls sp l) (.mk k' n' s' ls' sp' l') := by simp [eqBls]
  rw [heq] at hS
  have HS := Lib.hid hS
  have HGX := Lib.hid hgx
  have HGY := Lib.hid hgy
  have hadef : alikeB (.mk k n s ls sp l) (.mk k' n' s' ls' sp' l') = if eqBl (.mk k n s ls sp l) (.mk k' n' s' ls' sp' l') = true then 1000 else if k = k' then min 999 (dice (idsOf (partsB (.mk k n s ls sp l) ++ partsB (.mk k' n' s' ls' sp' l')) (partsB (.mk k n s ls sp l))) (idsOf (partsB (.mk k n s ls sp l) ++ partsB (.mk k' n' s' ls' sp' l')) (partsB (.mk k' n' s' ls' sp' l')))) else 0 := rfl
  have px := fun W (hW : Below w.heap.size w W) => parts_calls k n s ls sp l hb hwf A1 c1 A2 c2 A3 c3 W (hR1.lt_below hW) (hR2.lt_below hW) (hR3.lt_below hW) (fun W' hW' => hP W' (below_to hW hW.size hW'))
  have py := fun W (hW : Below w.heap.size w W) => parts_calls k' n' s' ls' sp' l' hb' hwf' A1' c1' A2' c2' A3' c3' W (hR1'.lt_below hW) (hR2'.lt_below hW) (hR3'.lt_below hW) (fun W' hW' => hP W' (below_to hW hW.size hW'))
  generalize partsB (.mk k n s ls sp l) = PX at *
  generalize partsB (.mk k' n' s' ls' sp' l') = PY at *
  generalize alikeB (.mk k n s ls sp l) (.mk k' n' s' ls' sp' l') = AB at *
  generalize eqBl (.mk k n s ls sp l) (.mk k' n' s' ls' sp' l') = EB at *
  have HPP := Lib.hid hpp
  have HPX := Lib.hid px
  have HPY := Lib.hid py
  have HB4 := Lib.hid hb4
  have HSZ := Lib.hid hsz
  have HAD := Lib.hid hadef
  clear px py hpp hadef hS heq hxy hx hy hgx hgy hR1 hR2 hR3 hR1' hR2' hR3' hb3 hbw hP hwf hwf' hb4 hsz hb hb'
  go_enter Tryd.func10, Tryd.ntmps10
  go_wp2_with fail
  refine HS.out.mono ?_
  rintro e w1 ⟨rfl, hb1⟩
  have hbw1 := below_to HB4.out HB4.out.size hb1
  cases hEB : EB with
  | true =>
    have HD := Lib.hid (HAD.out.trans (if_pos hEB))
    clear HPP
    subst hEB
    go_wp2_with fail
    go_ret
    exact ⟨ret_int HD.out.symm, hbw1⟩
  | false =>
    have HAD2 := Lib.hid (HAD.out.trans (if_neg (by rw [hEB]; exact Bool.false_ne_true)))
    clear HAD HS
    have hpp := HPP.out (by rw [hEB]; exact Bool.false_ne_true)
    clear HPP
    subst hEB
    have bgx := (hb1.block w.heap.size (by simp; try omega)).trans ((below_alloc (below_alloc (Below.refl _ _) (Nat.le_refl _) (.cells #[.int .i64 k, .int .i64 n, .string s, .slice A1 ls.length c1, .slice A2 sp.length c2, .slice A3 l.length c3] 26)) (by simp) (.cells #[.int .i64 k', .int .i64 n', .string s', .slice A1' ls'.length c1', .slice A2' sp'.length c2', .slice A3' l'.length c3'] 26)).block w.heap.size (by simp; try omega))
    have bgx := bgx.trans HGX.out
    have bgy := (hb1.block (w.heap.size + 1) (by simp)).trans ((below_alloc (below_alloc (Below.refl _ _) (Nat.le_refl _) (.cells #[.int .i64 k, .int .i64 n, .string s, .slice A1 ls.length c1, .slice A2 sp.length c2, .slice A3 l.length c3] 26)) (by simp) (.cells #[.int .i64 k', .int .i64 n', .string s', .slice A1' ls'.length c1', .slice A2' sp'.length c2', .slice A3' l'.length c3'] 26)).block (w.heap.size + 1) (by simp))
    have bgy := bgy.trans HGY.out
    have lx : w.heap.size < w1.heap.size := (Array.getElem?_eq_some_iff.1 bgx).1
    have ly : w.heap.size + 1 < w1.heap.size := (Array.getElem?_eq_some_iff.1 bgy).1
    have f0 := (row_facts bgx 0 rfl).1
    have f1 := (row_facts bgx 1 rfl).1
    have f2 := (row_facts bgx 2 rfl).1
    have f3 := (row_facts bgx 3 rfl).1
    have f4 := (row_facts bgx 4 rfl).1
    have f5 := (row_facts bgx 5 rfl).1
    have g0 := (row_facts bgy 0 rfl).1
    have g1 := (row_facts bgy 1 rfl).1
    have g2 := (row_facts bgy 2 rfl).1
    have g3 := (row_facts bgy 3 rfl).1
    have g4 := (row_facts bgy 4 rfl).1
    have g5 := (row_facts bgy 5 rfl).1
    clear bgx bgy hb1 HB4 HSZ HGX HGY
    by_cases hk : k = k'
    · have HD := Lib.hid (HAD2.out.trans (if_pos hk))
      have bk : (k != k') = false := by rw [hk]; simp
      subst hk
      clear HAD2
      go_upto_region 6 with (fail)
      go_cut [5] (fun s5 wx => ∃ V c, s5 = .slice V 2 c ∧ Rd (· < wx.heap.size) wx (.slice V 2 c) [idsD (PX ++ PY) PX, idsD (PX ++ PY) PY] ∧ Below w1.heap.size w1 wx)
      case first =>
        refine wp_region_till 4 (fun w' => w'.cell? ⟨w.heap.size, 0, none⟩ = some (.int .i64 k) ∧ w'.cell? ⟨w.heap.size, 1, none⟩ = some (.int .i64 n) ∧ w'.cell? ⟨w.heap.size, 2, none⟩ = some (.string s) ∧ w'.cell? ⟨w.heap.size, 3, none⟩ = some (.slice A1 ls.length c1) ∧ w'.cell? ⟨w.heap.size, 4, none⟩ = some (.slice A2 sp.length c2) ∧ w'.cell? ⟨w.heap.size, 5, none⟩ = some (.slice A3 l.length c3) ∧
          w'.cell? ⟨w.heap.size + 1, 0, none⟩ = some (.int .i64 k) ∧ w'.cell? ⟨w.heap.size + 1, 1, none⟩ = some (.int .i64 n') ∧ w'.cell? ⟨w.heap.size + 1, 2, none⟩ = some (.string s') ∧ w'.cell? ⟨w.heap.size + 1, 3, none⟩ = some (.slice A1' ls'.length c1') ∧ w'.cell? ⟨w.heap.size + 1, 4, none⟩ = some (.slice A2' sp'.length c2') ∧ w'.cell? ⟨w.heap.size + 1, 5, none⟩ = some (.slice A3' l'.length c3')) (by kernel_rfl) ⟨f0, f1, f2, f3, f4, f5, g0, g1, g2, g3, g4, g5⟩ (fun hT => ?_)
        refine wpAnyT_load (i := 0) (v := ?_) 40 rfl (by kernel_rfl) (fun _ _ _ h => h) (Or.inl ⟨by rfl, ?_⟩) hT (fun hT => ?_)
        rotate_left
        · intro w hS; (try dsimp only at hS); go_split_ands; go_simp; try with_reducible rfl
        try simp only [Act.put, List.setIfInBounds_toArray, List.set_cons_zero, List.set_cons_succ]
        refine wpAnyT_load (i := 2) (v := ?_) 40 rfl (by kernel_rfl) (fun _ _ _ h => h) (Or.inl ⟨by rfl, ?_⟩) hT (fun hT => ?_)
        rotate_left
        · intro w hS; (try dsimp only at hS); go_split_ands; go_simp; try with_reducible rfl
        try simp only [Act.put, List.setIfInBounds_toArray, List.set_cons_zero, List.set_cons_succ]
        refine wpAnyT_ready (rs := [1]) (by kernel_rfl) (by simp) ?_
        refine ReadyT.cons rfl (fun K hK => ?_) ReadyT.nil
        · go_simp
          refine (HPX.out _ (below_to hbw1 hbw1.size (Below.drew (Below.refl _ _)))).mono ?_
          rintro e w2 ⟨v2, rfl, r2, b2⟩
          have hb2 : Below w1.heap.size w1 w2 := (Below.drew (Below.refl _ _)).trans b2
          obtain ⟨V2, t2, rfl, _, _⟩ := r2.form
          rw [List.length_map] at r2 ⊢
          refine hK.out _ _ (fun _ => ⟨below_at' hb2 lx f0, below_at' hb2 lx f1, below_at' hb2 lx f2, below_at' hb2 lx f3, below_at' hb2 lx f4, below_at' hb2 lx f5, below_at' hb2 ly g0, below_at' hb2 ly g1, below_at' hb2 ly g2, below_at' hb2 ly g3, below_at' hb2 ly g4, below_at' hb2 ly g5⟩) (fun hT => ?_)
          clear hK K
          try simp only [Act.put, List.setIfInBounds_toArray, List.set_cons_zero, List.set_cons_succ]
          refine wpAnyT_ready (rs := [3]) (by kernel_rfl) (by simp) ?_
          refine ReadyT.cons rfl (fun K hK => ?_) ReadyT.nil
          go_simp
          refine (HPY.out _ (below_to hbw1 hbw1.size hb2)).mono ?_
          rintro e w3 ⟨v3, rfl, r3, b3⟩
          have hb3 : Below w1.heap.size w1 w3 := below_to hb2 hb2.size b3
          obtain ⟨V3, t3, rfl, _, _⟩ := r3.form
          rw [List.length_map] at r3 ⊢
          refine hK.out _ _ (fun _ => ⟨below_at' hb3 lx f0, below_at' hb3 lx f1, below_at' hb3 lx f2, below_at' hb3 lx f3, below_at' hb3 lx f4, below_at' hb3 lx f5, below_at' hb3 ly g0, below_at' hb3 ly g1, below_at' hb3 ly g2, below_at' hb3 ly g3, below_at' hb3 ly g4, below_at' hb3 ly g5⟩) (fun hT => ?_)
          clear hK K
          try simp only [Act.put, List.setIfInBounds_toArray, List.set_cons_zero, List.set_cons_succ]
          refine wpAnyT_ready (rs := [4]) (by kernel_rfl) (by simp) ?_
          refine ReadyT.cons rfl (fun K hK => ?_) ReadyT.nil
          go_simp
          refine hK.out _ _ (fun h => by simp at h) (fun hT => ?_)
          clear hK K
          try simp only [Act.put, List.setIfInBounds_toArray, List.set_cons_zero, List.set_cons_succ]
          have hlit := Rd.lit' (t := 22) (ds := dss [PX, PY]) (cs := [.slice V2 PX.length t2, .slice V3 PY.length t3]) (repall_cons (rep_slv (r2.lt_below b3)) (repall_cons (rep_slv r3) repall_nil)) (by simp [dss]) rfl
          have hI := Ids_calls _ [PX, PY] _ hlit (by simp) (by simp only [List.flatten_cons, List.flatten_nil, List.append_nil, List.length_append]; omega)
          have hfl : [PX, PY].flatten = PX ++ PY := by simp
          rw [hfl] at hI
          have HI := Lib.hid hI
          clear hI hlit hfl
          refine wpAnyT_ready (rs := [5]) (by kernel_rfl) (by simp) ?_
          refine ReadyT.cons rfl (fun K hK => ?_) ReadyT.nil
          go_simp
          refine HI.out.mono ?_
          rintro e w4 ⟨v4, rfl, r4, b4⟩
          obtain ⟨V4, t4, rfl, _, _⟩ := r4.form
          simp only [List.length_map, List.length_cons, List.length_nil, Nat.zero_add, Nat.reduceAdd] at r4 ⊢
          refine hK.out _ _ (fun h => by simp at h) (fun hT => ?_)
          clear hK K
          try simp only [Act.put, List.setIfInBounds_toArray, List.set_cons_zero, List.set_cons_succ]
          refine wpAnyT_ready (rs := [6]) (by kernel_rfl) (by simp) ?_
          refine ReadyT.cons rfl (fun K hK => ?_) ReadyT.nil
          go_simp
          refine hK.out _ _ (fun h => by simp at h) (fun hT => ?_)
          clear hK K
          try simp only [Act.put, List.setIfInBounds_toArray, List.set_cons_zero, List.set_cons_succ]
          refine wpAnyT_done (by kernel_rfl) ?_ _
          have hb5 := below_to hb3 hb3.size (below_to (below_alloc (Below.refl _ _) (Nat.le_refl _) (.cells #[.slice V2 PX.length t2, .slice V3 PY.length t3] 22)) (by simp) b4)
          have R4 := Lib.hid (r4.mono (ok' := (· < w4.heap.size)) (fun k hk _ => hk.2))
          clear r4 r2 r3
          go_wp2
          go_meet
          case rel => exact ⟨_, _, rfl, R4.out, hb5⟩
      case rest =>
        obtain ⟨V, c, rfl, hr5, hb5⟩ := hcut
        rw [idsD_eq, idsD_eq] at hr5
        obtain ⟨bv, ov, u, u', rfl, cu, cu', hu, hu'⟩ := rd_two hr5
        obtain ⟨U, cu1, rfl, _, _⟩ := hu.form
        obtain ⟨U', cu2, rfl, _, _⟩ := hu'.form
        simp only [List.length_map, idsOf_len] at cu cu' hu hu'
        have HDC := Lib.hid (Dice_calls _ _ _ _ wc.drew (hu.drewN 1) (hu'.drewN 1) (by rw [idsOf_len]; omega) (by rw [idsOf_len]; omega))
        have hbz := below_to hbw1 hbw1.size hb5
        generalize dice (idsOf (PX ++ PY) PX) (idsOf (PX ++ PY) PY) = DD at *
        have HD2 := Lib.hid HD.out
        clear hr5 hu hu' f0 f1 f2 f3 f4 f5 g0 g1 g2 g3 g4 g5 HPX HPY HD
        go_wp2_with fail
        go_still_tail 6, (by kernel_rfl)
        change wpList _ _ _ _ _ wc.drew
        have hbd : Below w.heap.size w wc.drew := Below.drew hbz
        generalize wc.drew = wd at *
        clear cu cu' hbz hb5
        go_wp2_with fail
        refine HDC.out.mono ?_
        rintro e w9 ⟨rfl, hb9⟩
        go_wp2_with fail
        go_ret
        refine ⟨ret_int ?_, below_to hbd hbd.size hb9⟩
        rw [HD2.out]
    · have HD := Lib.hid (HAD2.out.trans (if_neg hk))
      have bk : (k != k') = true := bne_iff_ne.2 hk
      clear HAD2
      go_wp2_with fail
      go_ret
      exact ⟨ret_int HD.out.symm, hbw1⟩
theorem alikeB_comm (x y : Bl) : alikeB x y = alikeB y x := by
  have he : (eqBl x y = true) ↔ (eqBl y x = true) := by rw [eqBl_iff, eqBl_iff]; exact eq_comm
  have hi : ∀ s, idOf (partsB x ++ partsB y) s = idOf (partsB y ++ partsB x) s := fun s => idOf_congr (fun s => by rw [List.mem_append, List.mem_append]; exact Or.comm) s
  have hc : (x.kind = y.kind) ↔ (y.kind = x.kind) := eq_comm
  unfold alikeB
  by_cases h : eqBl x y = true
  · rw [if_pos h, if_pos (he.1 h)]
  · rw [if_neg h, if_neg (fun e => h (he.2 e))]
    by_cases hk : x.kind = y.kind
    · rw [if_pos hk, if_pos hk.symm, dice_comm]
      unfold idsOf
      simp only [hi]
    · rw [if_neg hk, if_neg (fun e => hk e.symm)]
theorem alikeB_bd (x y : Bl) : 0 ≤ alikeB x y ∧ alikeB x y ≤ 1000 ∧ (alikeB x y = 1000 ↔ eqBl x y = true) ∧ (x.kind ≠ y.kind → alikeB x y = 0) := by
  unfold alikeB
  have hd := dice_nonneg (idsOf (partsB x ++ partsB y) (partsB x)) (idsOf (partsB x ++ partsB y) (partsB y))
  generalize dice (idsOf (partsB x ++ partsB y) (partsB x)) (idsOf (partsB x ++ partsB y) (partsB y)) = d at *
  by_cases h : eqBl x y = true
  · rw [if_pos h]
    exact ⟨by omega, by omega, by simp [h], fun hk => absurd (congrArg Bl.kind ((eqBl_iff x y).1 h)) hk⟩
  · rw [if_neg h]
    by_cases hk : x.kind = y.kind
    · rw [if_pos hk]
      exact ⟨by omega, by omega, ⟨fun e => by omega, fun e => absurd e h⟩, fun e => absurd hk e⟩
    · rw [if_neg hk]
      exact ⟨by omega, by omega, ⟨fun e => by omega, fun e => absurd e h⟩, fun _ => rfl⟩
end Go.Proofs.YtobncidpdodaiaaDoor
