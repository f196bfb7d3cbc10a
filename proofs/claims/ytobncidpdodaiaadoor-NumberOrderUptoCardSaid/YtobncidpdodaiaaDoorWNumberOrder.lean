/- The walk of the law NumberOrder. -/
import Derived.Test.YtobncidpdodaiaaDoorGuards15
import Derived.Deep.RegionHeld3
namespace Go.Proofs.YtobncidpdodaiaaDoor
open Go.RowKit Go.PlainAid
set_option linter.all false
set_option linter.deprecated false
set_option maxRecDepth 100000
theorem nums_order (a b : List Bl) : numsOf [b, a, a] = [idsOf (keyss [a, b]).flatten (b.map keyS), idsOf (keyss [a, b]).flatten (a.map keyS), idsOf (keyss [a, b]).flatten (a.map keyS)] := by
  have hc : ∀ s, idOf (keyss [b, a, a]).flatten s = idOf (keyss [a, b]).flatten s := fun s => idOf_congr (fun s => by simp only [keyss, List.map_cons, List.map_nil, List.flatten_cons, List.flatten_nil, List.append_nil, List.mem_append]; constructor <;> intro h <;> grind) s
  unfold numsOf idsOf
  simp only [hc]
  simp [keyss]
set_option maxHeartbeats 4000000 in
theorem numberOrder_main (A : Option Addr) (ca : Nat) (a : List Bl) (B : Option Addr) (cb : Nat) (b : List Bl) (w : World) (hA : Rd (· < w.heap.size) w (.slice A a.length ca) (dBls a)) (hB : Rd (· < w.heap.size) w (.slice B b.length cb) (dBls b))
    (hl : D.bulks (dBls a) + D.bulks (dBls b) ≤ 1048576) (hwa : Bls.wf a) (hwb : Bls.wf b) (hP : PowB w.heap.size w) :
    Calls Tryd.prog 7 #[.slice A a.length ca, .slice B b.length cb] w fun e w' => e = .returned (.bool true) ∧ Below w.heap.size w w' := by
  have HA := Lib.hid hA
  have HB := Lib.hid hB
  have HP := Lib.hid hP
  clear hA hB hP
  go_enter Tryd.func7, Tryd.ntmps7
  go_wp2_with fail
  refine (awake15_calls _ HP.out).mono ?_
  rintro e w1 ⟨rfl, hb1⟩
  go_wp2_with fail
  refine (few15_calls a _ _ (HA.out.lt_below hb1)).mono ?_
  rintro e w2 ⟨m1, rfl, hm1, hb2'⟩
  have hb2 := below_to hb1 hb1.size hb2'
  cases m1 with
  | false =>
    go_wp2_with fail
    refine (awake15_calls _ (fun W h => HP.out W (below_to hb2 hb2.size h))).mono ?_
    rintro e w3 ⟨rfl, hb3⟩
    go_wp2_with fail
    go_ret
    exact ⟨rfl, below_to hb2 hb2.size hb3⟩
  | true =>
  go_wp2_with fail
  refine (few15_calls b _ _ (HB.out.lt_below hb2)).mono ?_
  rintro e w3 ⟨m2, rfl, hm2, hb3'⟩
  have hb3 := below_to hb2 hb2.size hb3'
  cases m2 with
  | false =>
    go_wp2_with fail
    refine (awake15_calls _ (fun W h => HP.out W (below_to hb3 hb3.size h))).mono ?_
    rintro e w4 ⟨rfl, hb4⟩
    go_wp2_with fail
    go_ret
    exact ⟨rfl, below_to hb3 hb3.size hb4⟩
  | true =>
  have h1 := hm1 (by simp)
  have h2 := hm2 (by simp)
  clear hm1 hm2 hb1 hb2 hb2' hb3'
  have rA := HA.out.lt_below hb3
  have rB := HB.out.lt_below hb3
  have hx := Rd.lit' (t := 24) (ds := dbss [a, b]) (cs := [.slice A a.length ca, .slice B b.length cb]) (repall_cons (rep_slv rA) (repall_cons (rep_slv rB) repall_nil)) (by simp [dbss]) rfl
  have hb4 := below_alloc (Below.refl _ _) (Nat.le_refl _) (o := .cells #[.slice A a.length ca, .slice B b.length cb] 24) (w := w3)
  have hN1 := nums_calls _ [a, b] _ hx (by simp) (fun l h => by simp at h; rcases h with rfl | rfl; exact ⟨by omega, hwa⟩; exact ⟨by omega, hwb⟩) (by simp; omega) (fun W h => HP.out W (below_to hb3 hb3.size (below_to hb4 hb4.size h)))
  have HN1 := Lib.hid hN1
  have HRA := Lib.hid rA
  have HRB := Lib.hid rB
  clear hN1 hx rA rB
  go_wp2_with fail
  refine HN1.out.mono ?_
  rintro e w4 ⟨X, cx, rfl, hrx, hb5⟩
  have hb6 := below_to hb4 hb4.size hb5
  have hb7 := below_to hb3 hb3.size hb6
  have rA := HRA.out.lt_below hb6
  have rB := HRB.out.lt_below hb6
  have hy := Rd.lit' (t := 24) (ds := dbss [b, a, a]) (cs := [.slice B b.length cb, .slice A a.length ca, .slice A a.length ca]) (repall_cons (rep_slv rB) (repall_cons (rep_slv rA) (repall_cons (rep_slv rA) repall_nil))) (by simp [dbss]) rfl
  have hb8 := below_alloc (Below.refl _ _) (Nat.le_refl _) (o := .cells #[.slice B b.length cb, .slice A a.length ca, .slice A a.length ca] 24) (w := w4)
  have hN2 := nums_calls _ [b, a, a] _ hy (by simp) (fun l h => by simp at h; rcases h with rfl | rfl; exact ⟨by omega, hwb⟩; exact ⟨by omega, hwa⟩) (by simp; omega) (fun W h => HP.out W (below_to hb7 hb7.size (below_to hb8 hb8.size h)))
  have HN2 := Lib.hid hN2
  have HRX := Lib.hid hrx
  clear hN2 hy rA rB hrx HRA HRB hb4 hb5 hb6
  go_wp2_with fail
  refine HN2.out.mono ?_
  rintro e w5 ⟨Y, cy, rfl, hry, hb9⟩
  have hb10 := below_to hb8 hb8.size hb9
  have hb11 := below_to hb7 hb7.size hb10
  have hrx := HRX.out.lt_below hb10
  rw [nums_order] at hry
  have e2 : numsOf [a, b] = [idsOf (keyss [a, b]).flatten (a.map keyS), idsOf (keyss [a, b]).flatten (b.map keyS)] := by simp [numsOf, keyss]
  rw [e2] at hrx
  generalize idsOf (keyss [a, b]).flatten (a.map keyS) = zA at *
  generalize idsOf (keyss [a, b]).flatten (b.map keyS) = zB at *
  simp only [List.length_cons, List.length_nil, Nat.zero_add, Nat.reduceAdd] at hrx hry ⊢
  obtain ⟨bx, ox, u0, rfl, _, hbx, x0, hx0⟩ := rd_slat (lss := [zA.map (D.int .i64), zB.map (D.int .i64)]) hrx (i := 0) (by simp)
  obtain ⟨bx', ox', u1, hv, _, _, x1, hx1⟩ := rd_slat (lss := [zA.map (D.int .i64), zB.map (D.int .i64)]) hrx (i := 1) (by simp)
  injection hv with hv
  injection hv with hv1 hv2
  subst hv1; subst hv2
  obtain ⟨bY, oy, v0, rfl, _, hby, y0, hy0⟩ := rd_slat (lss := [zB.map (D.int .i64), zA.map (D.int .i64), zA.map (D.int .i64)]) hry (i := 0) (by simp)
  obtain ⟨by', oy', v1, hv, _, _, y1, hy1⟩ := rd_slat (lss := [zB.map (D.int .i64), zA.map (D.int .i64), zA.map (D.int .i64)]) hry (i := 1) (by simp)
  injection hv with hv
  injection hv with hv1 hv2
  subst hv1; subst hv2
  obtain ⟨by'', oy'', v2, hv, _, _, y2, hy2⟩ := rd_slat (lss := [zB.map (D.int .i64), zA.map (D.int .i64), zA.map (D.int .i64)]) hry (i := 2) (by simp)
  injection hv with hv
  injection hv with hv1 hv2
  subst hv1; subst hv2
  simp only [List.getElem_cons_zero, List.getElem_cons_succ] at hx0 hx1 hy0 hy1 hy2
  simp only [Nat.add_zero] at x0 y0
  obtain ⟨U0, d0, rfl, _, _⟩ := hx0.form
  obtain ⟨U1, d1, rfl, _, _⟩ := hx1.form
  obtain ⟨V0, f0, rfl, _, _⟩ := hy0.form
  obtain ⟨V1, f1, rfl, _, _⟩ := hy1.form
  obtain ⟨V2, f2, rfl, _, _⟩ := hy2.form
  simp only [List.length_map] at x0 x1 y0 y1 y2 hx0 hx1 hy0 hy1 hy2
  have s1 := fun (W : World) (e : Below w5.heap.size w5 W) => (Same03_calls _ _ zA zA W (hx0.lt_below e) (hy1.lt_below e)).mono (fun e w' h => (⟨h.1.trans (ret_bool (decide_eq_true rfl)), h.2⟩ : e = .returned (.bool true) ∧ ∃ q, w' = W.drewN q))
  have s2 := fun (W : World) (e : Below w5.heap.size w5 W) => (Same03_calls _ _ zB zB W (hx1.lt_below e) (hy0.lt_below e)).mono (fun e w' h => (⟨h.1.trans (ret_bool (decide_eq_true rfl)), h.2⟩ : e = .returned (.bool true) ∧ ∃ q, w' = W.drewN q))
  have s3 := fun (W : World) (e : Below w5.heap.size w5 W) => (Same03_calls _ _ zA zA W (hy1.lt_below e) (hy2.lt_below e)).mono (fun e w' h => (⟨h.1.trans (ret_bool (decide_eq_true rfl)), h.2⟩ : e = .returned (.bool true) ∧ ∃ q, w' = W.drewN q))
  have s4 := fun (W : World) (e : Below w5.heap.size w5 W) => nums_calls (.slice none 0 0) [] W (Rd.nil _ _) (by simp) (fun l h => by simp at h) (by simp) (fun W' h => HP.out W' (below_to hb11 hb11.size (below_to e e.size h)))
  have S1 := Lib.hid s1
  have S2 := Lib.hid s2
  have S3 := Lib.hid s3
  have S4 := Lib.hid s4
  clear s1 s2 s3 s4 e2 hrx hry hx0 hx1 hy0 hy1 hy2 HN1 HN2 HRX HA HB HP
  go_wp2_with fail
  go_region_held3 (fun w' => w'.cell? ⟨bx, ox, none⟩ = some (.slice U0 zA.length d0) ∧ w'.cell? ⟨bx, ox + 1, none⟩ = some (.slice U1 zB.length d1) ∧ w'.cell? ⟨bY, oy, none⟩ = some (.slice V0 zB.length f0) ∧ w'.cell? ⟨bY, oy + 1, none⟩ = some (.slice V1 zA.length f1) ∧ w'.cell? ⟨bY, oy + 2, none⟩ = some (.slice V2 zA.length f2))
    (first | go_keep | exact ⟨below_at' hbq (by assumption) (by assumption), below_at' hbq (by assumption) (by assumption), below_at' hbq (by assumption) (by assumption), below_at' hbq (by assumption) (by assumption), below_at' hbq (by assumption) (by assumption)⟩)
    (first
      | (go_at_call 14; (with_reducible refine (S1.out _ (by repeat (first | exact Below.refl _ _ | refine below_drewN ?_ _ | refine Below.drew ?_))).mono ?_); rintro e w' ⟨rfl, q, rfl⟩)
      | (go_at_call 14; (with_reducible refine (S2.out _ (by repeat (first | exact Below.refl _ _ | refine below_drewN ?_ _ | refine Below.drew ?_))).mono ?_); rintro e w' ⟨rfl, q, rfl⟩)
      | (go_at_call 14; (with_reducible refine (S3.out _ (by repeat (first | exact Below.refl _ _ | refine below_drewN ?_ _ | refine Below.drew ?_))).mono ?_); rintro e w' ⟨rfl, q, rfl⟩)
      | (go_at_call 12; (with_reducible refine (S4.out _ (by repeat (first | exact Below.refl _ _ | refine below_drewN ?_ _ | refine Below.drew ?_))).mono ?_); rintro e w' ⟨V, c, rfl, _, hbq⟩))
  go_wp2_with fail
  go_ret
  exact ⟨rfl, below_to (below_drewN hb11 _) (below_drewN hb11 _).size hbq⟩
theorem numberOrder_walk (A0 : Option Addr) (n0 c0 : Nat) (X0 : D) (A1 : Option Addr) (n1 c1 : Nat) (X1 : D) (w : World)
    (g0 : Rep (· < w.heap.size) w X0 [.slice A0 n0 c0]) (ty0 : ∃ n, HasTy Tryd.prog n 24 X0) (g1 : Rep (· < w.heap.size) w X1 [.slice A1 n1 c1]) (ty1 : ∃ n, HasTy Tryd.prog n 24 X1) (hb : X0.bulk + X1.bulk ≤ 1048576) (hP : PowB w.heap.size w) :
    Calls Tryd.prog 7 #[.slice A0 n0 c0, .slice A1 n1 c1] w fun e w' => e = .returned (.bool true) ∧ Below w.heap.size w w' := by
  obtain ⟨m0, ty0⟩ := ty0
  obtain ⟨m1, ty1⟩ := ty1
  obtain ⟨a, rfl, hwa⟩ := (HasTy.bl treeTypes).2 ty0
  obtain ⟨b, rfl, hwb⟩ := (HasTy.bl treeTypes).2 ty1
  have hA : Rd (· < w.heap.size) w (.slice A0 n0 c0) (dBls a) := g0
  have hB : Rd (· < w.heap.size) w (.slice A1 n1 c1) (dBls b) := g1
  obtain ⟨rfl, _⟩ := rd_bls hA
  obtain ⟨rfl, _⟩ := rd_bls hB
  simp only [D.bulk] at hb
  exact numberOrder_main A0 c0 a A1 c1 b w hA hB (by omega) hwa hwb hP
end Go.Proofs.YtobncidpdodaiaaDoor
