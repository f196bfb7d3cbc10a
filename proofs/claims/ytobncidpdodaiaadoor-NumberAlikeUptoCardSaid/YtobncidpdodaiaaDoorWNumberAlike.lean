/- The walk of the law NumberAlike. -/
import Derived.Test.YtobncidpdodaiaaDoorGuards15
import Derived.Test.YtobncidpdodaiaaDoorSameB
namespace Go.Proofs.YtobncidpdodaiaaDoor
open Go.RowKit Go.PlainAid
set_option linter.all false
set_option linter.deprecated false
set_option maxRecDepth 100000
set_option maxHeartbeats 8000000 in
theorem numberAlike_main (k n k' n' : Int) (s s' : ByteArray) (ls ls' : List ByteArray) (sp sp' : List Sp) (l l' : List Bl) (hbb : (dBl (.mk k n s ls sp l)).bulk + (dBl (.mk k' n' s' ls' sp' l')).bulk ≤ 1048576) (hwf : (Bl.mk k n s ls sp l).wf) (hwf' : (Bl.mk k' n' s' ls' sp' l').wf)
    (A1 A2 A3 A1' A2' A3' : Option Addr) (c1 c2 c3 c1' c2' c3' : Nat) (w : World)
    (hR1 : Rd (· < w.heap.size) w (.slice A1 ls.length c1) (ls.map D.str)) (hR2 : Rd (· < w.heap.size) w (.slice A2 sp.length c2) (dSps sp)) (hR3 : Rd (· < w.heap.size) w (.slice A3 l.length c3) (dBls l))
    (hR1' : Rd (· < w.heap.size) w (.slice A1' ls'.length c1') (ls'.map D.str)) (hR2' : Rd (· < w.heap.size) w (.slice A2' sp'.length c2') (dSps sp')) (hR3' : Rd (· < w.heap.size) w (.slice A3' l'.length c3') (dBls l')) (hP : PowB w.heap.size w) :
    Calls Tryd.prog 3 #[.agg #[.int .i64 k, .int .i64 n, .string s, .slice A1 ls.length c1, .slice A2 sp.length c2, .slice A3 l.length c3], .agg #[.int .i64 k', .int .i64 n', .string s', .slice A1' ls'.length c1', .slice A2' sp'.length c2', .slice A3' l'.length c3']] w
      fun e w' => e = .returned (.bool true) ∧ Below w.heap.size w w' := by
  have hbw : Below w.heap.size w ((w.alloc (.cells #[.int .i64 k, .int .i64 n, .string s, .slice A1 ls.length c1, .slice A2 sp.length c2, .slice A3 l.length c3] 26)).alloc (.cells #[.int .i64 k', .int .i64 n', .string s', .slice A1' ls'.length c1', .slice A2' sp'.length c2', .slice A3' l'.length c3'] 26)) := below_alloc (below_alloc (Below.refl _ _) (Nat.le_refl _) _) (by simp) _
  have hgx := two_old w (.cells #[.int .i64 k, .int .i64 n, .string s, .slice A1 ls.length c1, .slice A2 sp.length c2, .slice A3 l.length c3] 26) (.cells #[.int .i64 k', .int .i64 n', .string s', .slice A1' ls'.length c1', .slice A2' sp'.length c2', .slice A3' l'.length c3'] 26)
  have hgy := two_new w (.cells #[.int .i64 k, .int .i64 n, .string s, .slice A1 ls.length c1, .slice A2 sp.length c2, .slice A3 l.length c3] 26) (.cells #[.int .i64 k', .int .i64 n', .string s', .slice A1' ls'.length c1', .slice A2' sp'.length c2', .slice A3' l'.length c3'] 26)
  have hpx := partsB_len (.mk k n s ls sp l)
  have hpy := partsB_len (.mk k' n' s' ls' sp' l')
  have cxy := fun W (hW : Below w.heap.size w W) => Alike_calls k n k' n' s s' ls ls' sp sp' l l' (by omega) (by omega) (fun _ => by omega) hwf hwf' A1 A2 A3 A1' A2' A3' c1 c2 c3 c1' c2' c3' W (hR1.lt_below hW) (hR2.lt_below hW) (hR3.lt_below hW) (hR1'.lt_below hW) (hR2'.lt_below hW) (hR3'.lt_below hW) (fun W' hW' => hP W' (below_to hW hW.size hW'))
  have cyx := fun W (hW : Below w.heap.size w W) => Alike_calls k' n' k n s' s ls' ls sp' sp l' l (by omega) (by omega) (fun _ => by omega) hwf' hwf A1' A2' A3' A1 A2 A3 c1' c2' c3' c1 c2 c3 W (hR1'.lt_below hW) (hR2'.lt_below hW) (hR3'.lt_below hW) (hR1.lt_below hW) (hR2.lt_below hW) (hR3.lt_below hW) (fun W' hW' => hP W' (below_to hW hW.size hW'))
  have cxx := fun W (hW : Below w.heap.size w W) => Alike_calls k n k n s s ls ls sp sp l l (by omega) (by omega) (fun h => absurd ((eqBl_iff _ _).2 rfl) h) hwf hwf A1 A2 A3 A1 A2 A3 c1 c2 c3 c1 c2 c3 W (hR1.lt_below hW) (hR2.lt_below hW) (hR3.lt_below hW) (hR1.lt_below hW) (hR2.lt_below hW) (hR3.lt_below hW) (fun W' hW' => hP W' (below_to hW hW.size hW'))
  have lx := fun W (hW : Below w.heap.size w W) => lit_bl (t := 26) (k := k) (n := n) (s := s) (hR1.lt_below hW) (hR2.lt_below hW) (hR3.lt_below hW)
  have ly := fun W (hW : Below w.heap.size w W) => lit_bl (t := 26) (k := k') (n := n') (s := s') (hR1'.lt_below hW) (hR2'.lt_below hW) (hR3'.lt_below hW)
  have bd := alikeB_bd (.mk k n s ls sp l) (.mk k' n' s' ls' sp' l')
  have hkk : (Bl.mk k n s ls sp l).kind = k ∧ (Bl.mk k' n' s' ls' sp' l').kind = k' := ⟨rfl, rfl⟩
  rw [hkk.1, hkk.2] at bd
  rw [alikeB_comm (.mk k' n' s' ls' sp' l')] at cyx
  rw [alikeB_self] at cxx
  have he : eqBls [.mk k n s ls sp l] [.mk k' n' s' ls' sp' l'] = eqBl (.mk k n s ls sp l) (.mk k' n' s' ls' sp' l') := by simp [eqBls]
  have hke : eqBl (.mk k n s ls sp l) (.mk k' n' s' ls' sp' l') = true → k = k' := fun h => by injection (eqBl_iff _ _).1 h
  generalize alikeB (.mk k n s ls sp l) (.mk k' n' s' ls' sp' l') = N at *
  obtain ⟨b0, b1, b2, b3⟩ := bd
  have CXY := Lib.hid cxy
  have CYX := Lib.hid cyx
  have CXX := Lib.hid cxx
  have LX := Lib.hid lx
  have LY := Lib.hid ly
  have HE := Lib.hid he
  have HKE := Lib.hid hke
  have B2 := Lib.hid b2
  have B3 := Lib.hid b3
  have HGX := Lib.hid (fun W (hW : Below ((w.alloc (.cells #[.int .i64 k, .int .i64 n, .string s, .slice A1 ls.length c1, .slice A2 sp.length c2, .slice A3 l.length c3] 26)).alloc (.cells #[.int .i64 k', .int .i64 n', .string s', .slice A1' ls'.length c1', .slice A2' sp'.length c2', .slice A3' l'.length c3'] 26)).heap.size _ W) => six ((hW.block w.heap.size (by simp; try omega)).trans hgx))
  have HGY := Lib.hid (fun W (hW : Below ((w.alloc (.cells #[.int .i64 k, .int .i64 n, .string s, .slice A1 ls.length c1, .slice A2 sp.length c2, .slice A3 l.length c3] 26)).alloc (.cells #[.int .i64 k', .int .i64 n', .string s', .slice A1' ls'.length c1', .slice A2' sp'.length c2', .slice A3' l'.length c3'] 26)).heap.size _ W) => six ((hW.block (w.heap.size + 1) (by simp)).trans hgy))
  have HP := Lib.hid hP
  have HBW := Lib.hid hbw
  clear cxy cyx cxx lx ly he hke b2 b3 hgx hgy hP hbw hR1 hR2 hR3 hR1' hR2' hR3' hpx hpy hkk hwf hwf'
  go_enter Tryd.func3, Tryd.ntmps3
  go_wp2_with fail
  refine (awake15_calls _ (fun W h => HP.out W (below_to HBW.out HBW.out.size h))).mono ?_
  rintro e w1 ⟨rfl, hb1⟩
  have hw1 := below_to HBW.out HBW.out.size hb1
  obtain ⟨f0, f1, f2, f3, f4, f5⟩ := HGX.out w1 hb1
  have H := Lib.hid (few15_calls _ _ _ (LX.out w1 hw1))
  go_wp2_with fail
  refine H.out.mono ?_
  rintro e w2 ⟨m1, rfl, _, hb2'⟩
  have hb2 := below_to hb1 hb1.size (below_to (below_alloc (Below.refl _ _) (Nat.le_refl _) (.cells #[.int .i64 k, .int .i64 n, .string s, .slice A1 ls.length c1, .slice A2 sp.length c2, .slice A3 l.length c3] 26)) (by simp) hb2')
  have hw2 := below_to HBW.out HBW.out.size hb2
  clear f0 f1 f2 f3 f4 f5 H hb2'
  cases m1 with
  | false =>
    go_wp2_with fail
    refine (awake15_calls _ (fun W h => HP.out W (below_to hw2 hw2.size h))).mono ?_
    rintro e w3 ⟨rfl, hb3⟩
    go_wp2_with fail
    go_ret
    exact ⟨rfl, below_to hw2 hw2.size hb3⟩
  | true =>
  obtain ⟨f0, f1, f2, f3, f4, f5⟩ := HGY.out w2 hb2
  have H := Lib.hid (few15_calls _ _ _ (LY.out w2 hw2))
  go_wp2_with fail
  refine H.out.mono ?_
  rintro e w3 ⟨m2, rfl, _, hb3'⟩
  have hb3 := below_to hb2 hb2.size (below_to (below_alloc (Below.refl _ _) (Nat.le_refl _) (.cells #[.int .i64 k', .int .i64 n', .string s', .slice A1' ls'.length c1', .slice A2' sp'.length c2', .slice A3' l'.length c3'] 26)) (by simp) hb3')
  have hw3 := below_to HBW.out HBW.out.size hb3
  clear f0 f1 f2 f3 f4 f5 H hb3'
  cases m2 with
  | false =>
    go_wp2_with fail
    refine (awake15_calls _ (fun W h => HP.out W (below_to hw3 hw3.size h))).mono ?_
    rintro e w4 ⟨rfl, hb4⟩
    go_wp2_with fail
    go_ret
    exact ⟨rfl, below_to hw3 hw3.size hb4⟩
  | true =>
  clear hb1 hb2 hw1 hw2
  obtain ⟨f0, f1, f2, f3, f4, f5⟩ := HGX.out w3 hb3
  obtain ⟨g0, g1, g2, g3, g4, g5⟩ := HGY.out w3 hb3
  go_wp2_with fail
  refine (CXY.out w3 hw3).mono ?_
  rintro e w4 ⟨rfl, hb4'⟩
  have hb4 := below_to hb3 hb3.size hb4'
  have hw4 := below_to hw3 hw3.size hb4'
  clear f0 f1 f2 f3 f4 f5 g0 g1 g2 g3 g4 g5 hb4' hb3 hw3
  obtain ⟨f0, f1, f2, f3, f4, f5⟩ := HGX.out w4 hb4
  obtain ⟨g0, g1, g2, g3, g4, g5⟩ := HGY.out w4 hb4
  have z4 : w.heap.size + 1 < w4.heap.size := by have := hb4.size; simp at this; omega
  have hal := below_alloc (Below.refl _ _) (Nat.le_refl _) (o := .cells #[.int .i64 k, .int .i64 n, .string s, .slice A1 ls.length c1, .slice A2 sp.length c2, .slice A3 l.length c3] 26) (w := w4)
  have hal2 := below_alloc (Below.refl _ _) (Nat.le_refl _) (o := .cells #[.int .i64 k', .int .i64 n', .string s', .slice A1' ls'.length c1', .slice A2' sp'.length c2', .slice A3' l'.length c3'] 26) (w := w4.alloc (.cells #[.int .i64 k, .int .i64 n, .string s, .slice A1 ls.length c1, .slice A2 sp.length c2, .slice A3 l.length c3] 26))
  have hs := RSame10_calls _ [.mk k n s ls sp l] [.mk k' n' s' ls' sp' l'] (Nat.lt_succ_self _) _ _ _ _ ((LX.out w4 hw4).lt_below hal2) (LY.out _ (below_to hw4 hw4.size hal)) (Nat.le_refl _)
  rw [HE.out] at hs
  simp only [World.size_alloc] at hs
  have HS := Lib.hid hs
  have HAL := Lib.hid (below_to hal hal.size hal2)
  clear hs hal hal2
  generalize eqBl (.mk k n s ls sp l) (.mk k' n' s' ls' sp' l') = E at *
  go_wp2_with fail
  refine HS.out.mono ?_
  rintro e w5 ⟨rfl, hb5'⟩
  have hb45 : Below w4.heap.size w4 w5 := HAL.out.trans (hb5'.mono (by first | exact HAL.out.size | omega))
  have hb5 := below_to hb4 hb4.size hb45
  have hw5 := below_to hw4 hw4.size hb45
  clear f0 f1 f2 f3 f4 f5 g0 g1 g2 g3 g4 g5 hb5' hb4 hw4 hb45 HS HAL z4 HE LX LY
  obtain ⟨f0, f1, f2, f3, f4, f5⟩ := HGX.out w5 hb5
  obtain ⟨g0, g1, g2, g3, g4, g5⟩ := HGY.out w5 hb5
  go_wp2_with fail
  refine (CYX.out w5 hw5).mono ?_
  rintro e w6 ⟨rfl, hb6'⟩
  have hb6 := below_to hb5 hb5.size hb6'
  have hw6 := below_to hw5 hw5.size hb6'
  clear f0 f1 f2 f3 f4 f5 g0 g1 g2 g3 g4 g5 hb6' hb5 hw5
  obtain ⟨f0, f1, f2, f3, f4, f5⟩ := HGX.out w6 hb6
  obtain ⟨g0, g1, g2, g3, g4, g5⟩ := HGY.out w6 hb6
  have nn : (N == N) = true := by simp
  cases E with
  | true =>
    have e1 : N = 1000 := B2.out.2 rfl
    have e2 := HKE.out rfl
    subst e1; subst e2
    have kk : (k == k) = true := by simp
    go_wp2_with fail
    refine (CXX.out w6 hw6).mono ?_
    rintro e w7 ⟨rfl, hb7⟩
    go_wp2_with fail
    go_ret
    exact ⟨rfl, below_to hw6 hw6.size hb7⟩
  | false =>
    have e1 : (N == 1000) = false := beq_eq_false_iff_ne.2 (fun h => by have := B2.out.1 h; cases this)
    by_cases hk : k = k'
    · have kk : (k == k') = true := beq_iff_eq.2 hk
      clear hk
      go_wp2_with fail
      refine (CXX.out w6 hw6).mono ?_
      rintro e w7 ⟨rfl, hb7⟩
      go_wp2_with fail
      go_ret
      exact ⟨rfl, below_to hw6 hw6.size hb7⟩
    · have e0 : N = 0 := B3.out hk
      have kk : (k == k') = false := beq_eq_false_iff_ne.2 hk
      subst e0
      clear hk
      go_wp2_with fail
      refine (CXX.out w6 hw6).mono ?_
      rintro e w7 ⟨rfl, hb7⟩
      go_wp2_with fail
      go_ret
      exact ⟨rfl, below_to hw6 hw6.size hb7⟩
theorem numberAlike_walk (P0 : Array Value) (X0 : D) (P1 : Array Value) (X1 : D) (w : World)
    (g0 : Rep (· < w.heap.size) w X0 P0.toList) (ty0 : ∃ n, HasTy Tryd.prog n 26 X0) (g1 : Rep (· < w.heap.size) w X1 P1.toList) (ty1 : ∃ n, HasTy Tryd.prog n 26 X1) (hb : X0.bulk + X1.bulk ≤ 1048576) (hP : PowB w.heap.size w) :
    Calls Tryd.prog 3 #[.agg P0, .agg P1] w fun e w' => e = .returned (.bool true) ∧ Below w.heap.size w w' := by
  obtain ⟨m0, ty0⟩ := ty0
  obtain ⟨m1, ty1⟩ := ty1
  obtain ⟨a, rfl, hwa⟩ := (HasTy.bl treeTypes).1 ty0
  obtain ⟨b, rfl, hwb⟩ := (HasTy.bl treeTypes).1 ty1
  obtain ⟨k, n, s, ls, sp, l⟩ := a
  obtain ⟨k', n', s', ls', sp', l'⟩ := b
  obtain ⟨u, v, y, e0, h1, h2, h3⟩ := rep_bl g0
  obtain ⟨u', v', y', e1, h1', h2', h3'⟩ := rep_bl g1
  simp only [Bl.kind, Bl.level, Bl.info, Bl.lines, Bl.spans, Bl.kids] at e0 e1 h1 h2 h3 h1' h2' h3'
  obtain ⟨A1, c1, rfl, _, _⟩ := h1.form
  obtain ⟨A2, c2, rfl, _, _⟩ := h2.form
  obtain ⟨A3, c3, rfl, _, _⟩ := h3.form
  obtain ⟨A1', c1', rfl, _, _⟩ := h1'.form
  obtain ⟨A2', c2', rfl, _, _⟩ := h2'.form
  obtain ⟨A3', c3', rfl, _, _⟩ := h3'.form
  simp only [dSps_len, dBls_len, List.length_map] at *
  rw [show P0 = #[.int .i64 k, .int .i64 n, .string s, .slice A1 ls.length c1, .slice A2 sp.length c2, .slice A3 l.length c3] from Array.toList_inj.1 e0,
    show P1 = #[.int .i64 k', .int .i64 n', .string s', .slice A1' ls'.length c1', .slice A2' sp'.length c2', .slice A3' l'.length c3'] from Array.toList_inj.1 e1]
  exact numberAlike_main k n k' n' s s' ls ls' sp sp' l l' hb hwa hwb A1 A2 A3 A1' A2' A3' c1 c2 c3 c1' c2' c3' w h1 h2 h3 h1' h2' h3' hP
end Go.Proofs.YtobncidpdodaiaaDoor
