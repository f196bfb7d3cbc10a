/- The walk of the law NumberTells. -/
import Derived.Test.YtobncidpdodaiaaDoorGuards15
import Derived.Test.YtobncidpdodaiaaDoorRefAlike
import Derived.Test.YtobncidpdodaiaaDoorBlCells
import Derived.Deep.RegionHeld3
import Derived.StillTailTactics
import Derived.Test.YtobncidpdodaiaaDoorTill
namespace Go.Proofs.YtobncidpdodaiaaDoor
open Go.RowKit Go.PlainAid
set_option linter.all false
set_option linter.deprecated false
set_option maxRecDepth 100000
theorem run_pick {P : Program} {ρ : Operand → Value} {o : Oper} {x y z : Operand} {b : Bool} {v : Value} (ho : o.op = .pick x y z) (h : ρ x = .bool b) (hv : (bif b then ρ y else ρ z) = v) (w : World) : (execOp ρ o).run P w = .ok (.value v) w := by
  cases b <;> simp only [execOp, ho, h] <;> simp only [cond] at hv <;> subst hv <;> rfl
theorem wpAnyT_takeD {P : Program} {md : Region.Mode} {ops : Array Oper} {Q : Exit → Act → World → Prop} {c : Nat} {S : World → Prop} {i d : Nat} {oi : Oper} {fuel : Nat} {listed : Array Bool} {a : Act} {w : World} (hi : ops[i]? = some oi) (hd : oi.dst = some d) (v : Value) (hb : (Region.noSelect ops && Region.free md ops listed i && (Region.ready md ops listed).contains i && closedB md ops listed && !(c == i)) = true) (hQ : ∀ c a w, Q (.panic c) (a.put (some d) v) w → Q (.panic c) a w) (hy : YieldsIf P ops (fun _ => True) oi v a) (hS : Till c S listed w)
    (h : Till c S (listed.setIfInBounds i true) w → wpAnyT P md ops Q c S fuel (listed.setIfInBounds i true) (a.put (some d) v) w) : wpAnyT P md ops Q c S (fuel + 1) listed a w := by
  rw [← hd] at hQ h
  exact wpAnyT_take hi hb hQ hy hS h
theorem wpAnyT_drop {P : Program} {md : Region.Mode} {ops : Array Oper} {Q : Exit → Act → World → Prop} {c : Nat} {S : World → Prop} {i d : Nat} {oi : Oper} {fuel : Nat} {listed : Array Bool} {a : Act} {w : World} (hi : ops[i]? = some oi) (hd : oi.dst = some d) (hb : (Region.noSelect ops && Region.free md ops listed i && (Region.ready md ops listed).contains i && closedB md ops listed && !(c == i)) = true) (hQ : ∀ c a w, Q (.panic c) (a.put (some d) undef) w → Q (.panic c) a w) (hw : Region.wanted oi (yielded ops a.tmps) = false) (hS : Till c S listed w)
    (h : Till c S (listed.setIfInBounds i true) w → wpAnyT P md ops Q c S fuel (listed.setIfInBounds i true) (a.put (some d) undef) w) : wpAnyT P md ops Q c S (fuel + 1) listed a w :=
  wpAnyT_takeD hi hd undef hb hQ (Or.inr ⟨hw, rfl⟩) hS h
theorem wpAnyT_last {P : Program} {md : Region.Mode} {ops : Array Oper} {Q : Exit → Act → World → Prop} {c : Nat} {S : World → Prop} {i d : Nat} {oi : Oper} {fuel : Nat} {listed : Array Bool} {a : Act} {w : World} (hi : ops[i]? = some oi) (hd : oi.dst = some d) (v : Value) (hr : Region.ready md ops listed = [i])
    (hy : YieldsIf P ops (fun _ => True) oi v a) (hS : Till c S listed w) (h : Till c S (listed.setIfInBounds i true) w → wpAnyT P md ops Q c S fuel (listed.setIfInBounds i true) (a.put (some d) v) w) : wpAnyT P md ops Q c S (fuel + 1) listed a w :=
  wpAnyT_ready hr (by simp) (fun j hj => by
    obtain rfl := List.mem_singleton.1 hj
    rw [← hd] at h
    exact hy.wpOp hi trivial ⟨hS.later _, h (hS.later _)⟩)
set_option maxHeartbeats 40000000 in
theorem numberTells_main (A : Option Addr) (ca : Nat) (a : List Bl) (B : Option Addr) (cb : Nat) (b : List Bl) (w : World) (hA : Rd (· < w.heap.size) w (.slice A a.length ca) (dBls a)) (hB : Rd (· < w.heap.size) w (.slice B b.length cb) (dBls b))
    (hl : D.bulks (dBls a) + D.bulks (dBls b) ≤ 1048576) (hwa : Bls.wf a) (hwb : Bls.wf b) (hP : PowB w.heap.size w) :
    Calls Tryd.prog 5 #[.slice A a.length ca, .slice B b.length cb] w fun e w' => e = .returned (.bool true) ∧ Below w.heap.size w w' := by
  have HA := Lib.hid hA
  have HB := Lib.hid hB
  have HP := Lib.hid hP
  clear hA hB hP
  go_enter Tryd.func5, Tryd.ntmps5
  go_wp2_with fail
  refine (awake15_calls _ HP.out).mono ?_
  rintro e w1 ⟨rfl, hb1⟩
  go_wp2_with fail
  refine (few15_calls a _ _ (HA.out.lt_below hb1)).mono ?_
  rintro e w2 ⟨m1, rfl, hm1, hb2'⟩
  have hb2 := below_to hb1 hb1.size hb2'
  cases m1 with
  | false =>
    go_wp2_with fail
    refine (awake15_calls _ (fun W h => HP.out W (below_to hb2 hb2.size h))).mono ?_
    rintro e w3 ⟨rfl, hb3⟩
    go_wp2_with fail
    go_ret
    exact ⟨rfl, below_to hb2 hb2.size hb3⟩
  | true =>
  go_wp2_with fail
  refine (few15_calls b _ _ (HB.out.lt_below hb2)).mono ?_
  rintro e w3 ⟨m2, rfl, hm2, hb3'⟩
  have hb3 := below_to hb2 hb2.size hb3'
  cases m2 with
  | false =>
    go_wp2_with fail
    refine (awake15_calls _ (fun W h => HP.out W (below_to hb3 hb3.size h))).mono ?_
    rintro e w4 ⟨rfl, hb4⟩
    go_wp2_with fail
    go_ret
    exact ⟨rfl, below_to hb3 hb3.size hb4⟩
  | true =>
  have h1 := hm1 (by simp)
  have h2 := hm2 (by simp)
  clear hm1 hm2 hb1 hb2 hb2' hb3'
  have rA := HA.out.lt_below hb3
  have rB := HB.out.lt_below hb3
  have hx := Rd.lit' (t := 24) (ds := dbss [a, b]) (cs := [.slice A a.length ca, .slice B b.length cb]) (repall_cons (rep_slv rA) (repall_cons (rep_slv rB) repall_nil)) (by simp [dbss]) rfl
  have hb4 := below_alloc (Below.refl _ _) (Nat.le_refl _) (o := .cells #[.slice A a.length ca, .slice B b.length cb] 24) (w := w3)
  have hN1 := nums_calls _ [a, b] _ hx (by simp) (fun l h => by simp at h; rcases h with rfl | rfl; exact ⟨by omega, hwa⟩; exact ⟨by omega, hwb⟩) (by simp; omega) (fun W h => HP.out W (below_to hb3 hb3.size (below_to hb4 hb4.size h)))
  have HN1 := Lib.hid hN1
  clear hN1 hx rA rB
  go_wp2_with fail
  refine HN1.out.mono ?_
  rintro e w4 ⟨X, cx, rfl, hrx, hb5⟩
  have hb6 := below_to hb3 hb3.size (below_to hb4 hb4.size hb5)
  have e2 : numsOf [a, b] = [idsOf (keyss [a, b]).flatten (a.map keyS), idsOf (keyss [a, b]).flatten (b.map keyS)] := by simp [numsOf, keyss]
  rw [e2] at hrx
  have lzA : (idsOf (keyss [a, b]).flatten (a.map keyS)).length = a.length := by rw [idsOf_len, List.length_map]
  have lzB : (idsOf (keyss [a, b]).flatten (b.map keyS)).length = b.length := by rw [idsOf_len, List.length_map]
  have EA : (a.map keyS).map (fun s => ((atP (allL (a.map keyS) (b.map keyS)) s : Nat) : Int)) = idsOf (keyss [a, b]).flatten (a.map keyS) := by
    unfold idsOf
    exact List.map_congr_left (fun s hs => by rw [atP_idOf (all := (keyss [a, b]).flatten) (fun x => by simp [keyss]) (by simp [keyss]; exact .inl (by simpa using hs))])
  have EB : (b.map keyS).map (fun s => ((atP (allL (b.map keyS) (a.map keyS)) s : Nat) : Int)) = idsOf (keyss [a, b]).flatten (b.map keyS) := by
    unfold idsOf
    exact List.map_congr_left (fun s hs => by rw [atP_idOf (all := (keyss [a, b]).flatten) (fun x => by simp [keyss]; exact Or.comm) (by simp [keyss]; exact .inr (by simpa using hs))])
  have EA' := Lib.hid EA
  have EB' := Lib.hid EB
  clear EA EB
  generalize idsOf (keyss [a, b]).flatten (a.map keyS) = zA at *
  generalize idsOf (keyss [a, b]).flatten (b.map keyS) = zB at *
  simp only [List.length_cons, List.length_nil, Nat.zero_add, Nat.reduceAdd] at hrx ⊢
  obtain ⟨bx, ox, u0, rfl, _, hbx, x0, hx0⟩ := rd_slat (lss := [zA.map (D.int .i64), zB.map (D.int .i64)]) hrx (i := 0) (by simp)
  obtain ⟨bx', ox', u1, hv, _, _, x1, hx1⟩ := rd_slat (lss := [zA.map (D.int .i64), zB.map (D.int .i64)]) hrx (i := 1) (by simp)
  injection hv with hv
  injection hv with hv1 hv2
  subst hv1; subst hv2
  simp only [List.getElem_cons_zero, List.getElem_cons_succ] at hx0 hx1
  simp only [Nat.add_zero] at x0
  obtain ⟨U0, d0, rfl, _, _⟩ := hx0.form
  obtain ⟨U1, d1, rfl, _, _⟩ := hx1.form
  simp only [List.length_map, lzA, lzB] at x0 x1 hx0 hx1
  have HX0 := Lib.hid hx0
  have HX1 := Lib.hid hx1
  have LZA := Lib.hid lzA
  have LZB := Lib.hid lzB
  clear hx0 hx1 hrx e2 lzA lzB hb4 hb5 HN1
  go_wp2_with fail
  refine (Keys15_calls _ a _ (HA.out.lt_below hb6) (by omega) hwa).mono ?_
  rintro e w5 ⟨vx, rfl, hox, hb7⟩
  have hb8 := below_to hb6 hb6.size hb7
  go_wp2_with fail
  refine (Keys15_calls _ b _ (HB.out.lt_below hb8) (by omega) hwb).mono ?_
  rintro e w6 ⟨vy, rfl, hoy, hb9⟩
  have hb10 := below_to hb8 hb8.size hb9
  have hrx := rd_row hox (by simp) hb9
  have hry := rd_row hoy (by simp) (Below.refl _ _)
  obtain ⟨X1, cx1, rfl, _, _⟩ := hrx.form
  obtain ⟨Y1, cy1, rfl, _, _⟩ := hry.form
  simp only [List.length_map] at hrx hry
  simp only [List.length_map]
  have hb11 := below_to hb7 hb7.size hb9
  have y0 := below_at' hb11 hbx x0
  have y1 := below_at' hb11 hbx x1
  have hbx6 : bx < w6.heap.size := Nat.lt_of_lt_of_le hbx hb11.size
  have HKEEP := Lib.hid (fun (W : World) (hbq : Below w6.heap.size w6 W) => (⟨below_at' hbq hbx6 y0, below_at' hbq hbx6 y1⟩ : W.cell? ⟨bx, ox, none⟩ = some (.slice U0 a.length d0) ∧ W.cell? ⟨bx, ox + 1, none⟩ = some (.slice U1 b.length d1)))
  have la20 : a.length ≤ 1048576 := by have := D.len_bulks (dBls a); rw [dBls_len] at this; omega
  have lb20 : b.length ≤ 1048576 := by have := D.len_bulks (dBls b); rw [dBls_len] at this; omega
  have HI1 : Hid (∀ W, Below w6.heap.size w6 W → Calls Tryd.prog 15 #[.slice X1 a.length cx1, .slice Y1 b.length cy1] W fun e w' => ∃ v, e = .returned v ∧ Rd (· < w'.heap.size) w' v (zA.map (D.int .i64)) ∧ Below w6.heap.size w6 w') := Lib.hid (fun W hW => by
    refine (RefIds_calls _ _ (a.map keyS) (b.map keyS) W (hrx.lt_below hW) (hry.lt_below hW) (by simpa using la20) (by simpa using lb20)).mono ?_
    rintro e w' ⟨v, rfl, hr, hb⟩
    rw [EA'.out] at hr
    exact ⟨v, rfl, hr, below_to hW hW.size hb⟩)
  have HI2 : Hid (∀ W, Below w6.heap.size w6 W → Calls Tryd.prog 15 #[.slice Y1 b.length cy1, .slice X1 a.length cx1] W fun e w' => ∃ v, e = .returned v ∧ Rd (· < w'.heap.size) w' v (zB.map (D.int .i64)) ∧ Below w6.heap.size w6 w') := Lib.hid (fun W hW => by
    refine (RefIds_calls _ _ (b.map keyS) (a.map keyS) W (hry.lt_below hW) (hrx.lt_below hW) (by simpa using lb20) (by simpa using la20)).mono ?_
    rintro e w' ⟨v, rfl, hr, hb⟩
    rw [EB'.out] at hr
    exact ⟨v, rfl, hr, below_to hW hW.size hb⟩)
  have HS1 : Hid (∀ W v, Below w6.heap.size w6 W → Rd (· < W.heap.size) W v (zA.map (D.int .i64)) → Calls Tryd.prog 14 #[.slice U0 a.length d0, v] W fun e w' => e = .returned (.bool true) ∧ Below w6.heap.size w6 w') := Lib.hid (fun W v hW hr => by
    refine (Same03_calls _ _ zA zA W ((HX0.out.lt_below hb11).lt_below hW) hr).mono ?_
    rintro e w' ⟨rfl, q, rfl⟩
    exact ⟨by simp, below_drewN hW q⟩)
  have HS2 : Hid (∀ W v, Below w6.heap.size w6 W → Rd (· < W.heap.size) W v (zB.map (D.int .i64)) → Calls Tryd.prog 14 #[.slice U1 b.length d1, v] W fun e w' => e = .returned (.bool true) ∧ Below w6.heap.size w6 w') := Lib.hid (fun W v hW hr => by
    refine (Same03_calls _ _ zB zB W ((HX1.out.lt_below hb11).lt_below hW) hr).mono ?_
    rintro e w' ⟨rfl, q, rfl⟩
    exact ⟨by simp, below_drewN hW q⟩)
  have HRX := Lib.hid hrx
  clear hrx hry hox hoy hb7 hb9 hb8 la20 lb20 x0 x1 hb11
  go_wp2_with fail
  have hb0 := Below.refl w6.heap.size w6
  go_region_held3 (fun w' => w'.cell? ⟨bx, ox, none⟩ = some (.slice U0 a.length d0) ∧ w'.cell? ⟨bx, ox + 1, none⟩ = some (.slice U1 b.length d1))
    (first | go_keep | exact HKEEP.out _ hbq)
    (first
      | (go_at_call 15; (with_reducible refine (HI1.out _ (by first | exact hb0 | exact Below.drew hb0 | exact below_drewN hb0 _)).mono ?_); rintro e w' ⟨v1, rfl, r1, hbq⟩)
      | (go_at_call 14; (with_reducible refine (HS1.out _ v1 (by first | exact hbq | exact Below.drew hbq | exact below_drewN hbq _) (by first | exact r1 | exact r1.drewN _)).mono ?_); rintro e w' ⟨rfl, hbq⟩)
      | (go_at_call 15; (with_reducible refine (HI2.out _ (by first | exact hbq | exact Below.drew hbq | exact below_drewN hbq _)).mono ?_); rintro e w' ⟨v2, rfl, r2, hbq⟩)
      | (go_at_call 14; (with_reducible refine (HS2.out _ v2 (by first | exact hbq | exact Below.drew hbq | exact below_drewN hbq _) (by first | exact r2 | exact r2.drewN _)).mono ?_); rintro e w' ⟨rfl, hbq⟩))
  have hb20 := hbq
  clear HI1 HI2 HS1 HS2 r1 r2 HKEEP hb0 hbq
  go_wp2_with fail
  go_loopw [55] (fun vi wr => ∃ i : Nat, i ≤ a.length ∧ vi = .int .i64 i ∧ Below w6.heap.size w6 wr) (fun vi _ => a.length - (intOf vi).toNat)
  case atStart => exact ⟨0, Nat.zero_le _, rfl, hb20⟩
  case round =>
    clear hb20
    obtain ⟨i, hi, rfl, hbr⟩ := hrel
    by_cases hlt : i < a.length
    · have hw6x := below_to hb10 hb10.size hbr
      have rA := HA.out.lt_below hw6x
      obtain ⟨ba, oa, u, v, y, rfl, hka, hba, c0, c1, c2, c3, c4, c5, k1, k2, k3⟩ := rA.bl_at hlt
      obtain ⟨gx, qx, hgx, _, hgl, cx⟩ := (HRX.out.lt_below hbr).str_cell (i := i) (by simpa using hlt)
      subst hgx
      have hxw := (Bls.wf_iff a).1 hwa _ (List.getElem_mem hlt)
      have hbx' : (dBl a[i]).bulk ≤ D.bulks (dBls a) := by rw [dBls_map]; exact D.bulk_mem (List.mem_map.2 ⟨_, List.getElem_mem hlt, rfl⟩)
      have hgk : (a.map keyS)[i]'(by simpa using hlt) = keyS a[i] := List.getElem_map _
      rw [hgk] at cx
      clear hgk rA
      generalize hax : a[i] = x at *
      obtain ⟨K, n, s, ls, sp, L⟩ := x
      simp only [Bl.kind, Bl.level, Bl.info, Bl.lines, Bl.spans, Bl.kids] at c0 c1 c2 c3 c4 c5 k1 k2 k3
      obtain ⟨T1, t1, rfl, _, _⟩ := k1.form
      obtain ⟨T2, t2, rfl, _, _⟩ := k2.form
      obtain ⟨T3, t3, rfl, _, _⟩ := k3.form
      simp only [dSps_len, dBls_len, List.length_map] at c3 c4 c5 k1 k2 k3
      have KX : Hid (∀ W, Below wr.heap.size wr W → Calls Tryd.prog 16 #[.agg #[.int .i64 K, .int .i64 n, .string s, .slice T1 ls.length t1, .slice T2 sp.length t2, .slice T3 L.length t3]] W fun e w' => e = .returned (.string (keyS (.mk K n s ls sp L))) ∧ Below wr.heap.size wr w') := Lib.hid (fun W hW => by
        refine (Key_calls K n s ls sp L (by omega) hxw T1 t1 T2 t2 T3 t3 W (k1.lt_below hW) (k2.lt_below hW) (k3.lt_below hW) (fun W' h => HP.out W' (below_to (below_to hw6x hw6x.size hW) (below_to hw6x hw6x.size hW).size h))).mono ?_
        rintro e w' ⟨rfl, hb⟩
        exact ⟨rfl, below_to hW hW.size hb⟩)
      have bq := beq_t (rfl : keyS (.mk K n s ls sp L) = keyS (.mk K n s ls sp L))
      have hbq0 := Below.refl wr.heap.size wr
      have i1 : (i : Int) < a.length := by omega
      have i2 : (0 : Int) ≤ i := by omega
      by_cases hlk : i < b.length
      · have rB := HB.out.lt_below hw6x
        obtain ⟨bb, ob, u', v', y', rfl, hkb, hbb, e0, e1, e2, e3, e4, e5, k1', k2', k3'⟩ := rB.bl_at hlk
        have hzw := (Bls.wf_iff b).1 hwb _ (List.getElem_mem hlk)
        have hbz' : (dBl b[i]).bulk ≤ D.bulks (dBls b) := by rw [dBls_map]; exact D.bulk_mem (List.mem_map.2 ⟨_, List.getElem_mem hlk, rfl⟩)
        generalize hbz : b[i] = z at *
        obtain ⟨K', n', s', ls', sp', L'⟩ := z
        simp only [Bl.kind, Bl.level, Bl.info, Bl.lines, Bl.spans, Bl.kids] at e0 e1 e2 e3 e4 e5 k1' k2' k3'
        obtain ⟨T1', t1', rfl, _, _⟩ := k1'.form
        obtain ⟨T2', t2', rfl, _, _⟩ := k2'.form
        obtain ⟨T3', t3', rfl, _, _⟩ := k3'.form
        simp only [dSps_len, dBls_len, List.length_map] at e3 e4 e5 k1' k2' k3'
        have hpl := partsB_len (.mk K n s ls sp L)
        have hpl' := partsB_len (.mk K' n' s' ls' sp' L')
        have KA : Hid (∀ W, Below wr.heap.size wr W → Calls Tryd.prog 10 #[.agg #[.int .i64 K, .int .i64 n, .string s, .slice T1 ls.length t1, .slice T2 sp.length t2, .slice T3 L.length t3], .agg #[.int .i64 K', .int .i64 n', .string s', .slice T1' ls'.length t1', .slice T2' sp'.length t2', .slice T3' L'.length t3']] W fun e w' => e = .returned (.int .i64 (alikeB (.mk K n s ls sp L) (.mk K' n' s' ls' sp' L'))) ∧ Below wr.heap.size wr w') := Lib.hid (fun W hW => by
          refine (Alike_calls K n K' n' s s' ls ls' sp sp' L L' (by omega) (by omega) (fun _ => by omega) hxw hzw T1 T2 T3 T1' T2' T3' t1 t2 t3 t1' t2' t3' W (k1.lt_below hW) (k2.lt_below hW) (k3.lt_below hW) (k1'.lt_below hW) (k2'.lt_below hW) (k3'.lt_below hW) (fun W' h => HP.out W' (below_to (below_to hw6x hw6x.size hW) (below_to hw6x hw6x.size hW).size h))).mono ?_
          rintro e w' ⟨rfl, hb⟩
          exact ⟨rfl, below_to hW hW.size hb⟩)
        have KR : Hid (∀ W, Below wr.heap.size wr W → Calls Tryd.prog 17 #[.agg #[.int .i64 K, .int .i64 n, .string s, .slice T1 ls.length t1, .slice T2 sp.length t2, .slice T3 L.length t3], .agg #[.int .i64 K', .int .i64 n', .string s', .slice T1' ls'.length t1', .slice T2' sp'.length t2', .slice T3' L'.length t3']] W fun e w' => e = .returned (.int .i64 (alikeB (.mk K n s ls sp L) (.mk K' n' s' ls' sp' L'))) ∧ Below wr.heap.size wr w') := Lib.hid (fun W hW => by
          refine (Alike15_calls K n K' n' s s' ls ls' sp sp' L L' (by omega) (by omega) (fun _ => by omega) hxw hzw T1 T2 T3 T1' T2' T3' t1 t2 t3 t1' t2' t3' W (k1.lt_below hW) (k2.lt_below hW) (k3.lt_below hW) (k1'.lt_below hW) (k2'.lt_below hW) (k3'.lt_below hW)).mono ?_
          rintro e w' ⟨rfl, hb⟩
          exact ⟨rfl, below_to hW hW.size hb⟩)
        generalize alikeB (.mk K n s ls sp L) (.mk K' n' s' ls' sp' L') = AL at *
        generalize keyS (.mk K n s ls sp L) = S1 at *
        have HKEEP := Lib.hid (fun (W : World) (hbq : Below wr.heap.size wr W) => (⟨below_at' hbq hgl cx, below_at' hbq hba c0, below_at' hbq hba c1, below_at' hbq hba c2, below_at' hbq hba c3, below_at' hbq hba c4, below_at' hbq hba c5, below_at' hbq hbb e0, below_at' hbq hbb e1, below_at' hbq hbb e2, below_at' hbq hbb e3, below_at' hbq hbb e4, below_at' hbq hbb e5⟩ : W.cell? ⟨gx, qx + i, none⟩ = some (.string S1) ∧ W.cell? ⟨ba, oa + i * 6, none⟩ = some (.int .i64 K) ∧ W.cell? ⟨ba, oa + i * 6 + 1, none⟩ = some (.int .i64 n) ∧ W.cell? ⟨ba, oa + i * 6 + 2, none⟩ = some (.string s) ∧ W.cell? ⟨ba, oa + i * 6 + 3, none⟩ = some (.slice T1 ls.length t1) ∧ W.cell? ⟨ba, oa + i * 6 + 4, none⟩ = some (.slice T2 sp.length t2) ∧ W.cell? ⟨ba, oa + i * 6 + 5, none⟩ = some (.slice T3 L.length t3) ∧ W.cell? ⟨bb, ob + i * 6, none⟩ = some (.int .i64 K') ∧ W.cell? ⟨bb, ob + i * 6 + 1, none⟩ = some (.int .i64 n') ∧ W.cell? ⟨bb, ob + i * 6 + 2, none⟩ = some (.string s') ∧ W.cell? ⟨bb, ob + i * 6 + 3, none⟩ = some (.slice T1' ls'.length t1') ∧ W.cell? ⟨bb, ob + i * 6 + 4, none⟩ = some (.slice T2' sp'.length t2') ∧ W.cell? ⟨bb, ob + i * 6 + 5, none⟩ = some (.slice T3' L'.length t3')))
        have i3 : (i : Int) < b.length := by omega
        have b0 : (AL != AL) = false := by simp
        clear hpl hpl' k1 k2 k3 k1' k2' k3' rB hxw hzw hbx' hbz' hbz hax
        go_wp2_with fail
        go_region_held3 (fun w' => w'.cell? ⟨gx, qx + i, none⟩ = some (.string S1) ∧ w'.cell? ⟨ba, oa + i * 6, none⟩ = some (.int .i64 K) ∧ w'.cell? ⟨ba, oa + i * 6 + 1, none⟩ = some (.int .i64 n) ∧ w'.cell? ⟨ba, oa + i * 6 + 2, none⟩ = some (.string s) ∧ w'.cell? ⟨ba, oa + i * 6 + 3, none⟩ = some (.slice T1 ls.length t1) ∧ w'.cell? ⟨ba, oa + i * 6 + 4, none⟩ = some (.slice T2 sp.length t2) ∧ w'.cell? ⟨ba, oa + i * 6 + 5, none⟩ = some (.slice T3 L.length t3) ∧ w'.cell? ⟨bb, ob + i * 6, none⟩ = some (.int .i64 K') ∧ w'.cell? ⟨bb, ob + i * 6 + 1, none⟩ = some (.int .i64 n') ∧ w'.cell? ⟨bb, ob + i * 6 + 2, none⟩ = some (.string s') ∧ w'.cell? ⟨bb, ob + i * 6 + 3, none⟩ = some (.slice T1' ls'.length t1') ∧ w'.cell? ⟨bb, ob + i * 6 + 4, none⟩ = some (.slice T2' sp'.length t2') ∧ w'.cell? ⟨bb, ob + i * 6 + 5, none⟩ = some (.slice T3' L'.length t3'))
          (first | go_keep | exact HKEEP.out _ hbq)
          (first
            | (go_at_call 16; (with_reducible refine (KX.out _ (by first | exact hbq0 | exact Below.drew hbq0 | exact below_drewN hbq0 _)).mono ?_); rintro e w' ⟨rfl, hbq⟩)
            | (go_at_call 10; (with_reducible refine (KA.out _ (by first | exact hbq | exact Below.drew hbq | exact below_drewN hbq _)).mono ?_); rintro e w' ⟨rfl, hbq⟩)
            | (go_at_call 17; (with_reducible refine (KR.out _ (by first | exact hbq | exact Below.drew hbq | exact below_drewN hbq _)).mono ?_); rintro e w' ⟨rfl, hbq⟩))
        go_wp2_with fail
        go_roundw
        case rel => exact ⟨i + 1, by omega, by go_num, below_to hbr hbr.size hbq⟩
        case measure => simp [intOf]; omega
      · generalize keyS (.mk K n s ls sp L) = S1 at *
        have HKEEP := Lib.hid (fun (W : World) (hbq : Below wr.heap.size wr W) => (⟨below_at' hbq hgl cx, below_at' hbq hba c0, below_at' hbq hba c1, below_at' hbq hba c2, below_at' hbq hba c3, below_at' hbq hba c4, below_at' hbq hba c5⟩ : W.cell? ⟨gx, qx + i, none⟩ = some (.string S1) ∧ W.cell? ⟨ba, oa + i * 6, none⟩ = some (.int .i64 K) ∧ W.cell? ⟨ba, oa + i * 6 + 1, none⟩ = some (.int .i64 n) ∧ W.cell? ⟨ba, oa + i * 6 + 2, none⟩ = some (.string s) ∧ W.cell? ⟨ba, oa + i * 6 + 3, none⟩ = some (.slice T1 ls.length t1) ∧ W.cell? ⟨ba, oa + i * 6 + 4, none⟩ = some (.slice T2 sp.length t2) ∧ W.cell? ⟨ba, oa + i * 6 + 5, none⟩ = some (.slice T3 L.length t3)))
        have i3 : ¬ (i : Int) < b.length := by omega
        have i4 : decide ((i : Int) < (b.length : Int)) = false := decide_eq_false i3
        have i5 : decide (i < b.length) = false := decide_eq_false hlk
        clear k1 k2 k3 hxw hbx' hax
        go_wp2_with fail
        refine wp_region_till 36 (fun w' => w'.cell? ⟨gx, qx + i, none⟩ = some (.string S1) ∧ w'.cell? ⟨ba, oa + i * 6, none⟩ = some (.int .i64 K) ∧ w'.cell? ⟨ba, oa + i * 6 + 1, none⟩ = some (.int .i64 n) ∧ w'.cell? ⟨ba, oa + i * 6 + 2, none⟩ = some (.string s) ∧ w'.cell? ⟨ba, oa + i * 6 + 3, none⟩ = some (.slice T1 ls.length t1) ∧ w'.cell? ⟨ba, oa + i * 6 + 4, none⟩ = some (.slice T2 sp.length t2) ∧ w'.cell? ⟨ba, oa + i * 6 + 5, none⟩ = some (.slice T3 L.length t3)) (by kernel_rfl) (HKEEP.out _ (Below.drew hbq0)) (fun hT => ?_)
        refine wpAnyT_take (i := 0) (v := ?_) rfl (by kernel_rfl) (fun _ _ _ h => h) (Or.inl ⟨by rfl, ?_⟩) hT (fun hT => ?_)
        rotate_left
        · intro w _; go_simp; try with_reducible rfl
        try simp only [Act.put, List.setIfInBounds_toArray, List.set_cons_zero, List.set_cons_succ]
        refine wpAnyT_take (i := 1) (v := ?_) rfl (by kernel_rfl) (fun _ _ _ h => h) (Or.inl ⟨by rfl, ?_⟩) hT (fun hT => ?_)
        rotate_left
        · intro w _; go_simp; try with_reducible rfl
        try simp only [Act.put, List.setIfInBounds_toArray, List.set_cons_zero, List.set_cons_succ]
        refine wpAnyT_take (i := 2) (v := ?_) rfl (by kernel_rfl) (fun _ _ _ h => h) (Or.inl ⟨by rfl, ?_⟩) hT (fun hT => ?_)
        rotate_left
        · intro w _; go_simp; try with_reducible rfl
        try simp only [Act.put, List.setIfInBounds_toArray, List.set_cons_zero, List.set_cons_succ]
        refine wpAnyT_load (i := 3) (v := ?_) 40 rfl (by kernel_rfl) (fun _ _ _ h => h) (Or.inl ⟨by rfl, ?_⟩) hT (fun hT => ?_)
        rotate_left
        · intro w hS; (try dsimp only at hS); go_split_ands; go_simp; try with_reducible rfl
        try simp only [Act.put, List.setIfInBounds_toArray, List.set_cons_zero, List.set_cons_succ]
        refine wpAnyT_take (i := 5) (v := ?_) rfl (by kernel_rfl) (fun _ _ _ h => h) (Or.inl ⟨by rfl, ?_⟩) hT (fun hT => ?_)
        rotate_left
        · intro w _; go_simp; try with_reducible rfl
        try simp only [Act.put, List.setIfInBounds_toArray, List.set_cons_zero, List.set_cons_succ]
        refine wpAnyT_take (i := 6) (v := ?_) rfl (by kernel_rfl) (fun _ _ _ h => h) (Or.inl ⟨by rfl, ?_⟩) hT (fun hT => ?_)
        rotate_left
        · intro w _; go_simp; try with_reducible rfl
        try simp only [Act.put, List.setIfInBounds_toArray, List.set_cons_zero, List.set_cons_succ]
        refine wpAnyT_take (i := 7) (v := ?_) rfl (by kernel_rfl) (fun _ _ _ h => h) (Or.inl ⟨by rfl, ?_⟩) hT (fun hT => ?_)
        rotate_left
        · intro w _; go_simp; try with_reducible rfl
        try simp only [Act.put, List.setIfInBounds_toArray, List.set_cons_zero, List.set_cons_succ]
        refine wpAnyT_load (i := 8) (v := ?_) 40 rfl (by kernel_rfl) (fun _ _ _ h => h) (Or.inl ⟨by rfl, ?_⟩) hT (fun hT => ?_)
        rotate_left
        · intro w hS; (try dsimp only at hS); go_split_ands; go_simp; try with_reducible rfl
        try simp only [Act.put, List.setIfInBounds_toArray, List.set_cons_zero, List.set_cons_succ]
        refine wpAnyT_ready (rs := [4]) (by kernel_rfl) (by simp) ?_
        refine ReadyT.cons rfl (fun K hK => ?_) ReadyT.nil
        go_simp
        refine (KX.out _ (Below.drew hbq0)).mono ?_
        rintro e w' ⟨rfl, hbq⟩
        refine hK.out _ _ (fun _ => HKEEP.out _ hbq) (fun hT => ?_)
        clear hK K
        try simp only [Act.put, List.setIfInBounds_toArray, List.set_cons_zero, List.set_cons_succ]
        refine wpAnyT_takeD (i := 9) (d := 67) rfl rfl ?_ (by kernel_rfl) (fun _ _ _ h => h) (Or.inl ⟨by rfl, ?_⟩) hT (fun hT => ?_)
        rotate_left
        · intro w _; go_simp; try with_reducible rfl
        simp only [Act.put, List.setIfInBounds_toArray, List.set_cons_zero, List.set_cons_succ]
        refine wpAnyT_takeD (i := 10) (d := 68) rfl rfl ?_ (by kernel_rfl) (fun _ _ _ h => h) (Or.inl ⟨by rfl, ?_⟩) hT (fun hT => ?_)
        rotate_left
        · intro w _; go_simp; try with_reducible rfl
        simp only [Act.put, List.setIfInBounds_toArray, List.set_cons_zero, List.set_cons_succ]
        refine wpAnyT_takeD (i := 11) (d := 69) rfl rfl ?_ (by kernel_rfl) (fun _ _ _ h => h) (Or.inl ⟨by rfl, ?_⟩) hT (fun hT => ?_)
        rotate_left
        · intro w _; go_simp; try with_reducible rfl
        simp only [Act.put, List.setIfInBounds_toArray, List.set_cons_zero, List.set_cons_succ]
        refine wpAnyT_takeD (i := 12) (d := 70) rfl rfl ?_ (by kernel_rfl) (fun _ _ _ h => h) (Or.inl ⟨by rfl, ?_⟩) hT (fun hT => ?_)
        rotate_left
        · intro w _; go_simp; try with_reducible rfl
        simp only [Act.put, List.setIfInBounds_toArray, List.set_cons_zero, List.set_cons_succ]
        refine wpAnyT_takeD (i := 13) (d := 71) rfl rfl ?_ (by kernel_rfl) (fun _ _ _ h => h) (Or.inl ⟨by rfl, ?_⟩) hT (fun hT => ?_)
        rotate_left
        · intro w _; go_simp; try with_reducible rfl
        simp only [Act.put, List.setIfInBounds_toArray, List.set_cons_zero, List.set_cons_succ]
        refine wpAnyT_takeD (i := 14) (d := 72) rfl rfl ?_ (by kernel_rfl) (fun _ _ _ h => h) (Or.inl ⟨by rfl, ?_⟩) hT (fun hT => ?_)
        rotate_left
        · intro w _; go_simp; try with_reducible rfl
        simp only [Act.put, List.setIfInBounds_toArray, List.set_cons_zero, List.set_cons_succ]
        refine wpAnyT_takeD (i := 15) (d := 73) rfl rfl ?_ (by kernel_rfl) (fun _ _ _ h => h) (Or.inl ⟨by rfl, ?_⟩) hT (fun hT => ?_)
        rotate_left
        · intro w _; go_simp; try with_reducible rfl
        simp only [Act.put, List.setIfInBounds_toArray, List.set_cons_zero, List.set_cons_succ]
        refine wpAnyT_drop (i := 16) (d := 74) rfl rfl (by kernel_rfl) (fun _ _ _ h => h) (by kernel_rfl) hT (fun hT => ?_)
        refine wpAnyT_drop (i := 17) (d := 75) rfl rfl (by kernel_rfl) (fun _ _ _ h => h) (by kernel_rfl) hT (fun hT => ?_)
        refine wpAnyT_drop (i := 18) (d := 76) rfl rfl (by kernel_rfl) (fun _ _ _ h => h) (by kernel_rfl) hT (fun hT => ?_)
        refine wpAnyT_drop (i := 19) (d := 77) rfl rfl (by kernel_rfl) (fun _ _ _ h => h) (by kernel_rfl) hT (fun hT => ?_)
        refine wpAnyT_drop (i := 20) (d := 78) rfl rfl (by kernel_rfl) (fun _ _ _ h => h) (by kernel_rfl) hT (fun hT => ?_)
        refine wpAnyT_drop (i := 21) (d := 79) rfl rfl (by kernel_rfl) (fun _ _ _ h => h) (by kernel_rfl) hT (fun hT => ?_)
        refine wpAnyT_drop (i := 22) (d := 80) rfl rfl (by kernel_rfl) (fun _ _ _ h => h) (by kernel_rfl) hT (fun hT => ?_)
        refine wpAnyT_drop (i := 23) (d := 81) rfl rfl (by kernel_rfl) (fun _ _ _ h => h) (by kernel_rfl) hT (fun hT => ?_)
        refine wpAnyT_drop (i := 24) (d := 82) rfl rfl (by kernel_rfl) (fun _ _ _ h => h) (by kernel_rfl) hT (fun hT => ?_)
        refine wpAnyT_drop (i := 25) (d := 83) rfl rfl (by kernel_rfl) (fun _ _ _ h => h) (by kernel_rfl) hT (fun hT => ?_)
        refine wpAnyT_drop (i := 26) (d := 84) rfl rfl (by kernel_rfl) (fun _ _ _ h => h) (by kernel_rfl) hT (fun hT => ?_)
        refine wpAnyT_drop (i := 27) (d := 85) rfl rfl (by kernel_rfl) (fun _ _ _ h => h) (by kernel_rfl) hT (fun hT => ?_)
        refine wpAnyT_drop (i := 28) (d := 86) rfl rfl (by kernel_rfl) (fun _ _ _ h => h) (by kernel_rfl) hT (fun hT => ?_)
        refine wpAnyT_drop (i := 29) (d := 87) rfl rfl (by kernel_rfl) (fun _ _ _ h => h) (by kernel_rfl) hT (fun hT => ?_)
        refine wpAnyT_drop (i := 30) (d := 88) rfl rfl (by kernel_rfl) (fun _ _ _ h => h) (by kernel_rfl) hT (fun hT => ?_)
        refine wpAnyT_drop (i := 31) (d := 89) rfl rfl (by kernel_rfl) (fun _ _ _ h => h) (by kernel_rfl) hT (fun hT => ?_)
        refine wpAnyT_drop (i := 32) (d := 90) rfl rfl (by kernel_rfl) (fun _ _ _ h => h) (by kernel_rfl) hT (fun hT => ?_)
        refine wpAnyT_drop (i := 33) (d := 91) rfl rfl (by kernel_rfl) (fun _ _ _ h => h) (by kernel_rfl) hT (fun hT => ?_)
        refine wpAnyT_drop (i := 34) (d := 92) rfl rfl (by kernel_rfl) (fun _ _ _ h => h) (by kernel_rfl) hT (fun hT => ?_)
        simp only [Act.put, List.setIfInBounds_toArray, List.set_cons_zero, List.set_cons_succ]
        refine wpAnyT_takeD (i := 35) (d := 93) rfl rfl (.bool false) (by kernel_rfl) (fun _ _ _ h => h) (Or.inl ⟨by kernel_rfl, fun w _ => run_pick (b := false) rfl (by kernel_rfl) (by kernel_rfl) w⟩) hT (fun hT => ?_)
        simp only [Act.put, List.setIfInBounds_toArray, List.set_cons_zero, List.set_cons_succ]
        refine wpAnyT_last (i := 36) (d := 94) rfl rfl (.bool false) (by kernel_rfl) (Or.inl ⟨by kernel_rfl, fun w _ => run_pick (b := false) rfl (by kernel_rfl) (by kernel_rfl) w⟩) hT (fun hT => ?_)
        simp only [Act.put, List.setIfInBounds_toArray, List.set_cons_zero, List.set_cons_succ]
        refine wpAnyT_done (by kernel_rfl) ?_ _
        go_wp2_with fail
        go_roundw
        case rel => exact ⟨i + 1, by omega, by go_num, below_to hbr hbr.size hbq⟩
        case measure => simp [intOf]; omega
    · go_wp2_with fail
      go_ret
      exact ⟨rfl, below_to hb10 hb10.size hbr⟩
theorem numberTells_walk (A0 : Option Addr) (n0 c0 : Nat) (X0 : D) (A1 : Option Addr) (n1 c1 : Nat) (X1 : D) (w : World)
    (g0 : Rep (· < w.heap.size) w X0 [.slice A0 n0 c0]) (ty0 : ∃ n, HasTy Tryd.prog n 24 X0) (g1 : Rep (· < w.heap.size) w X1 [.slice A1 n1 c1]) (ty1 : ∃ n, HasTy Tryd.prog n 24 X1) (hb : X0.bulk + X1.bulk ≤ 1048576) (hP : PowB w.heap.size w) :
    Calls Tryd.prog 5 #[.slice A0 n0 c0, .slice A1 n1 c1] w fun e w' => e = .returned (.bool true) ∧ Below w.heap.size w w' := by
  obtain ⟨m0, ty0⟩ := ty0
  obtain ⟨m1, ty1⟩ := ty1
  obtain ⟨a, rfl, hwa⟩ := (HasTy.bl treeTypes).2 ty0
  obtain ⟨b, rfl, hwb⟩ := (HasTy.bl treeTypes).2 ty1
  have hA : Rd (· < w.heap.size) w (.slice A0 n0 c0) (dBls a) := g0
  have hB : Rd (· < w.heap.size) w (.slice A1 n1 c1) (dBls b) := g1
  obtain ⟨rfl, _⟩ := rd_bls hA
  obtain ⟨rfl, _⟩ := rd_bls hB
  simp only [D.bulk] at hb
  exact numberTells_main A0 c0 a A1 c1 b w hA hB (by omega) hwa hwb hP
end Go.Proofs.YtobncidpdodaiaaDoor
