/- The walk of the law NumberSame. -/
import Derived.Test.YtobncidpdodaiaaDoorGuards15
import Derived.Test.YtobncidpdodaiaaDoorSameB
import Derived.Test.YtobncidpdodaiaaDoorBlCells
import Derived.Deep.RegionHeld3
import Derived.StillTailTactics
namespace Go.Proofs.YtobncidpdodaiaaDoor
open Go.RowKit Go.PlainAid
set_option linter.all false
set_option linter.deprecated false
set_option maxRecDepth 100000
theorem keyS_eq {x y : Bl} : keyS x = keyS y ↔ x = y := by
  constructor
  · intro h
    unfold keyS at h
    injection h with h
    exact key_inj (by simpa using congrArg Array.toList h)
  · rintro rfl; rfl
theorem nums_same {a b : List Bl} {i k : Nat} (hi : i < a.length) (hk : k < b.length) :
    (idsOf (keyss [a, b]).flatten (a.map keyS)).getD i 0 = (idsOf (keyss [a, b]).flatten (b.map keyS)).getD k 0 ↔ a[i] = b[k] := by
  have e1 : (idsOf (keyss [a, b]).flatten (a.map keyS)).getD i 0 = ((idOf (keyss [a, b]).flatten (keyS a[i]) : Nat) : Int) := by
    unfold idsOf; simp [hi]
  have e2 : (idsOf (keyss [a, b]).flatten (b.map keyS)).getD k 0 = ((idOf (keyss [a, b]).flatten (keyS b[k]) : Nat) : Int) := by
    unfold idsOf; simp [hk]
  rw [e1, e2]
  have m1 : keyS a[i] ∈ (keyss [a, b]).flatten := List.mem_flatten.2 ⟨a.map keyS, by simp [keyss], List.mem_map.2 ⟨_, List.getElem_mem hi, rfl⟩⟩
  have m2 : keyS b[k] ∈ (keyss [a, b]).flatten := List.mem_flatten.2 ⟨b.map keyS, by simp [keyss], List.mem_map.2 ⟨_, List.getElem_mem hk, rfl⟩⟩
  constructor
  · intro h
    exact keyS_eq.1 (idOf_inj m1 m2 (by exact_mod_cast h))
  · intro h; rw [h]
/-- One of some blocks, alone. -/
theorem rd_one {ok : Nat → Prop} {w : World} {A : Option Addr} {c : Nat} {l : List Bl} (h : Rd ok w (.slice A l.length c) (dBls l)) {i : Nat} (hi : i < l.length) :
    Rd ok w (.slice (if c = i then A else A.map (·.add (i * 6))) 1 (c - i)) (dBls [l[i]]) := by
  have h1 := h.cut (k := 6) (dBls_sz l) (a := i) (b := i + 1) (by omega) (by omega)
  have e : (((dBls l).take (i + 1)).drop i) = dBls [l[i]] := by
    rw [dBls_map, dBls_map, ← List.map_take, ← List.map_drop]
    congr 1
    rw [List.take_succ_eq_append_getElem hi, List.drop_append_of_le_length (by simp; omega), List.drop_of_length_le (by simp; omega)]
    rfl
  rw [e, Nat.add_sub_cancel_left] at h1
  exact h1
theorem rd_one' {ok : Nat → Prop} {w : World} {b o c : Nat} {l : List Bl} (h : Rd ok w (.slice (some ⟨b, o, none⟩) l.length c) (dBls l)) {i : Nat} (hi : i < l.length) :
    Rd ok w (.slice (some ⟨b, o + i * 6, none⟩) 1 (c - i)) (dBls [l[i]]) := by
  have hc := (rd_bls h).2
  have h1 := rd_one h hi
  rw [if_neg (by omega)] at h1
  simp only [Option.map_some, Addr.add] at h1
  split at h1
  · rename_i h0; rw [h0, Nat.add_zero]; exact h1
  · exact h1
set_option maxHeartbeats 8000000 in
theorem numberSame_main (A : Option Addr) (ca : Nat) (a : List Bl) (B : Option Addr) (cb : Nat) (b : List Bl) (w : World) (hA : Rd (· < w.heap.size) w (.slice A a.length ca) (dBls a)) (hB : Rd (· < w.heap.size) w (.slice B b.length cb) (dBls b))
    (hl : D.bulks (dBls a) + D.bulks (dBls b) ≤ 1048576) (hwa : Bls.wf a) (hwb : Bls.wf b) (hP : PowB w.heap.size w) :
    Calls Tryd.prog 6 #[.slice A a.length ca, .slice B b.length cb] w fun e w' => e = .returned (.bool true) ∧ Below w.heap.size w w' := by
  have HA := Lib.hid hA
  have HB := Lib.hid hB
  have HP := Lib.hid hP
  clear hA hB hP
  go_enter Tryd.func6, Tryd.ntmps6
  go_wp2_with fail
  refine (awake15_calls _ HP.out).mono ?_
  rintro e w1 ⟨rfl, hb1⟩
  go_wp2_with fail
  refine (few15_calls a _ _ (HA.out.lt_below hb1)).mono ?_
  rintro e w2 ⟨m1, rfl, hm1, hb2'⟩
  have hb2 := below_to hb1 hb1.size hb2'
  cases m1 with
  | false =>
    go_wp2_with fail
    refine (awake15_calls _ (fun W h => HP.out W (below_to hb2 hb2.size h))).mono ?_
    rintro e w3 ⟨rfl, hb3⟩
    go_wp2_with fail
    go_ret
    exact ⟨rfl, below_to hb2 hb2.size hb3⟩
  | true =>
  go_wp2_with fail
  refine (few15_calls b _ _ (HB.out.lt_below hb2)).mono ?_
  rintro e w3 ⟨m2, rfl, hm2, hb3'⟩
  have hb3 := below_to hb2 hb2.size hb3'
  cases m2 with
  | false =>
    go_wp2_with fail
    refine (awake15_calls _ (fun W h => HP.out W (below_to hb3 hb3.size h))).mono ?_
    rintro e w4 ⟨rfl, hb4⟩
    go_wp2_with fail
    go_ret
    exact ⟨rfl, below_to hb3 hb3.size hb4⟩
  | true =>
  have h1 := hm1 (by simp)
  have h2 := hm2 (by simp)
  clear hm1 hm2 hb1 hb2 hb2' hb3'
  have rA := HA.out.lt_below hb3
  have rB := HB.out.lt_below hb3
  have hx := Rd.lit' (t := 24) (ds := dbss [a, b]) (cs := [.slice A a.length ca, .slice B b.length cb]) (repall_cons (rep_slv rA) (repall_cons (rep_slv rB) repall_nil)) (by simp [dbss]) rfl
  have hb4 := below_alloc (Below.refl _ _) (Nat.le_refl _) (o := .cells #[.slice A a.length ca, .slice B b.length cb] 24) (w := w3)
  have hN1 := nums_calls _ [a, b] _ hx (by simp) (fun l h => by simp at h; rcases h with rfl | rfl; exact ⟨by omega, hwa⟩; exact ⟨by omega, hwb⟩) (by simp; omega) (fun W h => HP.out W (below_to hb3 hb3.size (below_to hb4 hb4.size h)))
  have HN1 := Lib.hid hN1
  clear hN1 hx rA rB
  go_wp2_with fail
  refine HN1.out.mono ?_
  rintro e w4 ⟨X, cx, rfl, hrx, hb5⟩
  have hb6 := below_to hb3 hb3.size (below_to hb4 hb4.size hb5)
  have e2 : numsOf [a, b] = [idsOf (keyss [a, b]).flatten (a.map keyS), idsOf (keyss [a, b]).flatten (b.map keyS)] := by simp [numsOf, keyss]
  rw [e2] at hrx
  have lzA : (idsOf (keyss [a, b]).flatten (a.map keyS)).length = a.length := by rw [idsOf_len, List.length_map]
  have lzB : (idsOf (keyss [a, b]).flatten (b.map keyS)).length = b.length := by rw [idsOf_len, List.length_map]
  have NS := Lib.hid (fun i k (hi : i < a.length) (hk : k < b.length) => nums_same hi hk)
  generalize idsOf (keyss [a, b]).flatten (a.map keyS) = zA at *
  generalize idsOf (keyss [a, b]).flatten (b.map keyS) = zB at *
  simp only [List.length_cons, List.length_nil, Nat.zero_add, Nat.reduceAdd] at hrx ⊢
  obtain ⟨bx, ox, u0, rfl, _, hbx, x0, hx0⟩ := rd_slat (lss := [zA.map (D.int .i64), zB.map (D.int .i64)]) hrx (i := 0) (by simp)
  obtain ⟨bx', ox', u1, hv, _, _, x1, hx1⟩ := rd_slat (lss := [zA.map (D.int .i64), zB.map (D.int .i64)]) hrx (i := 1) (by simp)
  injection hv with hv
  injection hv with hv1 hv2
  subst hv1; subst hv2
  simp only [List.getElem_cons_zero, List.getElem_cons_succ] at hx0 hx1
  simp only [Nat.add_zero] at x0
  obtain ⟨U0, d0, rfl, _, _⟩ := hx0.form
  obtain ⟨U1, d1, rfl, _, _⟩ := hx1.form
  simp only [List.length_map, lzA, lzB] at x0 x1 hx0 hx1
  have HX0 := Lib.hid hx0
  have HX1 := Lib.hid hx1
  have LZA := Lib.hid lzA
  have LZB := Lib.hid lzB
  clear hx0 hx1 hrx e2 lzA lzB hb4 hb5 HN1
  go_wp2_with fail
  go_loopw [49] (fun vi wr => ∃ i : Nat, i ≤ a.length ∧ vi = .int .i64 i ∧ Below w4.heap.size w4 wr) (fun vi _ => a.length - (intOf vi).toNat)
  case atStart => exact ⟨0, Nat.zero_le _, rfl, Below.refl _ _⟩
  case round =>
    obtain ⟨i, hi, rfl, hbr⟩ := hrel
    by_cases hlt : i < a.length
    · go_wp2_with fail
      go_loopw [54] (fun vk wx => ∃ k : Nat, k ≤ b.length ∧ vk = .int .i64 k ∧ Below w4.heap.size w4 wx) (fun vk _ => b.length - (intOf vk).toNat)
      case atStart => exact ⟨0, Nat.zero_le _, rfl, hbr⟩
      case round =>
        clear hbr
        obtain ⟨k, hk, rfl, hbx2⟩ := hrel
        by_cases hlk : k < b.length
        · have hw4x := below_to hb6 hb6.size hbx2
          have rA := HA.out.lt_below hw4x
          have rB := HB.out.lt_below hw4x
          obtain ⟨ba, oa, u, v, y, rfl, hka, hba, c0, c1, c2, c3, c4, c5, k1, k2, k3⟩ := rA.bl_at hlt
          obtain ⟨bb, ob, u', v', y', rfl, hkb, hbb, e0, e1, e2, e3, e4, e5, k1', k2', k3'⟩ := rB.bl_at hlk
          have oA := rd_one' rA hlt
          have oB := rd_one' rB hlk
          have hcA := (rd_bls rA).2
          have hcB := (rd_bls rB).2
          have hNS := NS.out i k hlt hlk
          have hxw := (Bls.wf_iff a).1 hwa _ (List.getElem_mem hlt)
          have hzw := (Bls.wf_iff b).1 hwb _ (List.getElem_mem hlk)
          have hbx' : (dBl a[i]).bulk ≤ D.bulks (dBls a) := by rw [dBls_map]; exact D.bulk_mem (List.mem_map.2 ⟨_, List.getElem_mem hlt, rfl⟩)
          have hbz' : (dBl b[k]).bulk ≤ D.bulks (dBls b) := by rw [dBls_map]; exact D.bulk_mem (List.mem_map.2 ⟨_, List.getElem_mem hlk, rfl⟩)
          generalize a[i] = x at *
          generalize b[k] = z at *
          obtain ⟨K, n, s, ls, sp, L⟩ := x
          obtain ⟨K', n', s', ls', sp', L'⟩ := z
          simp only [Bl.kind, Bl.level, Bl.info, Bl.lines, Bl.spans, Bl.kids] at c0 c1 c2 c3 c4 c5 e0 e1 e2 e3 e4 e5 k1 k2 k3 k1' k2' k3'
          obtain ⟨T1, t1, rfl, _, _⟩ := k1.form
          obtain ⟨T2, t2, rfl, _, _⟩ := k2.form
          obtain ⟨T3, t3, rfl, _, _⟩ := k3.form
          obtain ⟨T1', t1', rfl, _, _⟩ := k1'.form
          obtain ⟨T2', t2', rfl, _, _⟩ := k2'.form
          obtain ⟨T3', t3', rfl, _, _⟩ := k3'.form
          simp only [dSps_len, dBls_len, List.length_map] at c3 c4 c5 e3 e4 e5 k1 k2 k3 k1' k2' k3'
          have KX := Lib.hid (fun W (hW : Below wr.heap.size wr W) => Key_calls K n s ls sp L (by omega) hxw T1 t1 T2 t2 T3 t3 W (k1.lt_below hW) (k2.lt_below hW) (k3.lt_below hW) (fun W' h => HP.out W' (below_to (below_to hw4x hw4x.size hW) (below_to hw4x hw4x.size hW).size h)))
          have KZ := Lib.hid (fun W (hW : Below wr.heap.size wr W) => Key_calls K' n' s' ls' sp' L' (by omega) hzw T1' t1' T2' t2' T3' t3' W (k1'.lt_below hW) (k2'.lt_below hW) (k3'.lt_below hW) (fun W' h => HP.out W' (below_to (below_to hw4x hw4x.size hW) (below_to hw4x hw4x.size hW).size h)))
          have he : eqBls [.mk K n s ls sp L] [.mk K' n' s' ls' sp' L'] = eqBl (.mk K n s ls sp L) (.mk K' n' s' ls' sp' L') := by simp [eqBls]
          have hs := RSame10_calls _ [.mk K n s ls sp L] [.mk K' n' s' ls' sp' L'] (Nat.lt_succ_self _) wr.heap.size _ _ wr.drew (oA.drewN 1) (oB.drewN 1) (by exact Nat.le_refl _)
          rw [he] at hs
          have hkk : keyS (.mk K n s ls sp L) = keyS (.mk K' n' s' ls' sp' L') ↔ eqBl (.mk K n s ls sp L) (.mk K' n' s' ls' sp' L') = true := by rw [keyS_eq, eqBl_iff]
          rw [← eqBl_iff] at hNS
          generalize hE : eqBl (.mk K n s ls sp L) (.mk K' n' s' ls' sp' L') = E at *
          unfold keyS at hkk
          generalize (⟨(keyB (.mk K n s ls sp L)).toArray⟩ : ByteArray) = S1 at *
          generalize (⟨(keyB (.mk K' n' s' ls' sp' L')).toArray⟩ : ByteArray) = S2 at *
          obtain ⟨g0, q0, hg0, _, hgl0, i0⟩ := (HX0.out.lt_below hbx2).int_cell (i := i) (by rw [LZA.out]; exact hlt)
          obtain ⟨g1, q1, hg1, _, hgl1, i1⟩ := (HX1.out.lt_below hbx2).int_cell (i := k) (by rw [LZB.out]; exact hlk)
          subst hg0; subst hg1
          have z0 : zA.getD i 0 = zA[i]'(by rw [LZA.out]; exact hlt) := by simp [LZA.out, hlt]
          have z1 : zB.getD k 0 = zB[k]'(by rw [LZB.out]; exact hlk) := by simp [LZB.out, hlk]
          rw [z0, z1] at hNS
          generalize zA[i]'(by rw [LZA.out]; exact hlt) = n0 at *
          generalize zB[k]'(by rw [LZB.out]; exact hlk) = n1 at *
          have y0 := below_at' hbx2 hbx x0
          have y1 := below_at' hbx2 hbx x1
          have HS := Lib.hid hs
          have HNS := Lib.hid hNS
          have HKK := Lib.hid hkk
          clear he hs hNS hkk hE k1 k2 k3 k1' k2' k3' oA oB rA rB z0 z1 hxw hzw hbx' hbz'
          have w1 : IntKind.i64.wrap ((i : Int) + 1) = (i : Int) + 1 := IntWalk.i64_in _ (by omega)
          have w2 : IntKind.i64.wrap ((k : Int) + 1) = (k : Int) + 1 := IntWalk.i64_in _ (by omega)
          have w3' : ((i : Int) + 1).toNat = i + 1 := by omega
          have w4' : ((k : Int) + 1).toNat = k + 1 := by omega
          have p1 : ¬ ca = i := by omega
          have p2 : ¬ cb = k := by omega
          have p3 : (i : Int) + 1 ≤ ca := by omega
          have p4 : (k : Int) + 1 ≤ cb := by omega
          have p5 : (0 : Int) ≤ (i : Int) + 1 := by omega
          have p6 : (0 : Int) ≤ (k : Int) + 1 := by omega
          go_wp2_with fail
          go_still_tail 10, (by kernel_rfl)
          change wpList _ _ _ _ _ wr.drew
          have hbd : Below wr.heap.size wr wr.drew := Below.drew (Below.refl _ _)
          generalize wr.drew = wd at *
          clear w1 w2 w3' w4' p1 p2 p3 p4 p5 p6
          go_wp2_with fail
          refine HS.out.mono ?_
          rintro e w5 ⟨rfl, hb5⟩
          have hb15 := below_to hbd hbd.size hb5
          have hbxr : bx < wr.heap.size := Nat.lt_of_lt_of_le hbx hbx2.size
          have c0' := below_at' hb15 hba c0
          have c1' := below_at' hb15 hba c1
          have c2' := below_at' hb15 hba c2
          have c3' := below_at' hb15 hba c3
          have c4' := below_at' hb15 hba c4
          have c5' := below_at' hb15 hba c5
          have e0' := below_at' hb15 hbb e0
          have e1' := below_at' hb15 hbb e1
          have e2' := below_at' hb15 hbb e2
          have e3' := below_at' hb15 hbb e3
          have e4' := below_at' hb15 hbb e4
          have e5' := below_at' hb15 hbb e5
          have y0' := below_at' hb15 hbxr y0
          have y1' := below_at' hb15 hbxr y1
          have i0' := below_at' hb15 hgl0 i0
          have i1' := below_at' hb15 hgl1 i1
          have HKEEP := Lib.hid (fun (W : World) (hbq : Below wr.heap.size wr W) => (⟨below_at' hbq hba c0, below_at' hbq hba c1, below_at' hbq hba c2, below_at' hbq hba c3, below_at' hbq hba c4, below_at' hbq hba c5, below_at' hbq hbb e0, below_at' hbq hbb e1, below_at' hbq hbb e2, below_at' hbq hbb e3, below_at' hbq hbb e4, below_at' hbq hbb e5, below_at' hbq hbxr y0, below_at' hbq hbxr y1, below_at' hbq hgl0 i0, below_at' hbq hgl1 i1⟩ : W.cell? ⟨ba, oa + i * 6, none⟩ = some (.int .i64 K) ∧ W.cell? ⟨ba, oa + i * 6 + 1, none⟩ = some (.int .i64 n) ∧ W.cell? ⟨ba, oa + i * 6 + 2, none⟩ = some (.string s) ∧ W.cell? ⟨ba, oa + i * 6 + 3, none⟩ = some (.slice T1 ls.length t1) ∧ W.cell? ⟨ba, oa + i * 6 + 4, none⟩ = some (.slice T2 sp.length t2) ∧ W.cell? ⟨ba, oa + i * 6 + 5, none⟩ = some (.slice T3 L.length t3) ∧ W.cell? ⟨bb, ob + k * 6, none⟩ = some (.int .i64 K') ∧ W.cell? ⟨bb, ob + k * 6 + 1, none⟩ = some (.int .i64 n') ∧ W.cell? ⟨bb, ob + k * 6 + 2, none⟩ = some (.string s') ∧ W.cell? ⟨bb, ob + k * 6 + 3, none⟩ = some (.slice T1' ls'.length t1') ∧ W.cell? ⟨bb, ob + k * 6 + 4, none⟩ = some (.slice T2' sp'.length t2') ∧ W.cell? ⟨bb, ob + k * 6 + 5, none⟩ = some (.slice T3' L'.length t3') ∧ W.cell? ⟨bx, ox, none⟩ = some (.slice (some ⟨g0, q0, none⟩) a.length d0) ∧ W.cell? ⟨bx, ox + 1, none⟩ = some (.slice (some ⟨g1, q1, none⟩) b.length d1) ∧ W.cell? ⟨g0, q0 + i, none⟩ = some (.int .i64 n0) ∧ W.cell? ⟨g1, q1 + k, none⟩ = some (.int .i64 n1)))
          have hb25 := below_to hw4x hw4x.size hb15
          have hbz := below_to hbx2 hbx2.size hb15
          cases E with
          | true =>
            have bq : (S1.toList == S2.toList) = true := beq_t (HKK.out.2 rfl)
            have bn : (n0 == n1) = true := beq_iff_eq.2 (HNS.out.2 rfl)
            go_wp2_with fail
            go_region_held3 (fun w' => w'.cell? ⟨ba, oa + i * 6, none⟩ = some (.int .i64 K) ∧ w'.cell? ⟨ba, oa + i * 6 + 1, none⟩ = some (.int .i64 n) ∧ w'.cell? ⟨ba, oa + i * 6 + 2, none⟩ = some (.string s) ∧ w'.cell? ⟨ba, oa + i * 6 + 3, none⟩ = some (.slice T1 ls.length t1) ∧ w'.cell? ⟨ba, oa + i * 6 + 4, none⟩ = some (.slice T2 sp.length t2) ∧ w'.cell? ⟨ba, oa + i * 6 + 5, none⟩ = some (.slice T3 L.length t3) ∧ w'.cell? ⟨bb, ob + k * 6, none⟩ = some (.int .i64 K') ∧ w'.cell? ⟨bb, ob + k * 6 + 1, none⟩ = some (.int .i64 n') ∧ w'.cell? ⟨bb, ob + k * 6 + 2, none⟩ = some (.string s') ∧ w'.cell? ⟨bb, ob + k * 6 + 3, none⟩ = some (.slice T1' ls'.length t1') ∧ w'.cell? ⟨bb, ob + k * 6 + 4, none⟩ = some (.slice T2' sp'.length t2') ∧ w'.cell? ⟨bb, ob + k * 6 + 5, none⟩ = some (.slice T3' L'.length t3') ∧ w'.cell? ⟨bx, ox, none⟩ = some (.slice (some ⟨g0, q0, none⟩) a.length d0) ∧ w'.cell? ⟨bx, ox + 1, none⟩ = some (.slice (some ⟨g1, q1, none⟩) b.length d1) ∧ w'.cell? ⟨g0, q0 + i, none⟩ = some (.int .i64 n0) ∧ w'.cell? ⟨g1, q1 + k, none⟩ = some (.int .i64 n1))
              (first | go_keep | exact HKEEP.out _ hbq)
              (first
                | (go_at_call 16; (with_reducible refine (KX.out _ (by first | exact Below.drew hb15 | exact below_drewN hb15 _ | exact hb15)).mono ?_); rintro e w' ⟨rfl, hbq'⟩; have hbq := below_to hb15 hb15.size ((Below.drew (Below.refl _ _)).trans hbq'))
                | (go_at_call 16; (with_reducible refine (KZ.out _ (by first | exact hbq | exact below_drewN hbq _)).mono ?_); rintro e w' ⟨rfl, hbq'⟩; have hbq := below_to hbq hbq.size hbq'))
            go_wp2_with fail
            go_roundw
            case rel => exact ⟨k + 1, by omega, by go_num, below_to hbx2 hbx2.size hbq⟩
            case measure => simp [intOf]; omega
          | false =>
            have bq : (S1.toList == S2.toList) = false := beq_f (fun e => by have := HKK.out.1 e; cases this)
            have bn : (n0 == n1) = false := beq_eq_false_iff_ne.2 (fun e => by have := HNS.out.1 e; cases this)
            go_wp2_with fail
            go_region_held3 (fun w' => w'.cell? ⟨ba, oa + i * 6, none⟩ = some (.int .i64 K) ∧ w'.cell? ⟨ba, oa + i * 6 + 1, none⟩ = some (.int .i64 n) ∧ w'.cell? ⟨ba, oa + i * 6 + 2, none⟩ = some (.string s) ∧ w'.cell? ⟨ba, oa + i * 6 + 3, none⟩ = some (.slice T1 ls.length t1) ∧ w'.cell? ⟨ba, oa + i * 6 + 4, none⟩ = some (.slice T2 sp.length t2) ∧ w'.cell? ⟨ba, oa + i * 6 + 5, none⟩ = some (.slice T3 L.length t3) ∧ w'.cell? ⟨bb, ob + k * 6, none⟩ = some (.int .i64 K') ∧ w'.cell? ⟨bb, ob + k * 6 + 1, none⟩ = some (.int .i64 n') ∧ w'.cell? ⟨bb, ob + k * 6 + 2, none⟩ = some (.string s') ∧ w'.cell? ⟨bb, ob + k * 6 + 3, none⟩ = some (.slice T1' ls'.length t1') ∧ w'.cell? ⟨bb, ob + k * 6 + 4, none⟩ = some (.slice T2' sp'.length t2') ∧ w'.cell? ⟨bb, ob + k * 6 + 5, none⟩ = some (.slice T3' L'.length t3') ∧ w'.cell? ⟨bx, ox, none⟩ = some (.slice (some ⟨g0, q0, none⟩) a.length d0) ∧ w'.cell? ⟨bx, ox + 1, none⟩ = some (.slice (some ⟨g1, q1, none⟩) b.length d1) ∧ w'.cell? ⟨g0, q0 + i, none⟩ = some (.int .i64 n0) ∧ w'.cell? ⟨g1, q1 + k, none⟩ = some (.int .i64 n1))
              (first | go_keep | exact HKEEP.out _ hbq)
              (first
                | (go_at_call 16; (with_reducible refine (KX.out _ (by first | exact Below.drew hb15 | exact below_drewN hb15 _ | exact hb15)).mono ?_); rintro e w' ⟨rfl, hbq'⟩; have hbq := below_to hb15 hb15.size ((Below.drew (Below.refl _ _)).trans hbq'))
                | (go_at_call 16; (with_reducible refine (KZ.out _ (by first | exact hbq | exact below_drewN hbq _)).mono ?_); rintro e w' ⟨rfl, hbq'⟩; have hbq := below_to hbq hbq.size hbq'))
            go_wp2_with fail
            go_roundw
            case rel => exact ⟨k + 1, by omega, by go_num, below_to hbx2 hbx2.size hbq⟩
            case measure => simp [intOf]; omega
        · go_wp2_with fail
          go_roundw
          case rel => exact ⟨i + 1, by omega, by go_num, hbx2⟩
          case measure => simp [intOf]; omega
    · go_wp2_with fail
      go_ret
      exact ⟨rfl, below_to hb6 hb6.size hbr⟩
theorem numberSame_walk (A0 : Option Addr) (n0 c0 : Nat) (X0 : D) (A1 : Option Addr) (n1 c1 : Nat) (X1 : D) (w : World)
    (g0 : Rep (· < w.heap.size) w X0 [.slice A0 n0 c0]) (ty0 : ∃ n, HasTy Tryd.prog n 24 X0) (g1 : Rep (· < w.heap.size) w X1 [.slice A1 n1 c1]) (ty1 : ∃ n, HasTy Tryd.prog n 24 X1) (hb : X0.bulk + X1.bulk ≤ 1048576) (hP : PowB w.heap.size w) :
    Calls Tryd.prog 6 #[.slice A0 n0 c0, .slice A1 n1 c1] w fun e w' => e = .returned (.bool true) ∧ Below w.heap.size w w' := by
  obtain ⟨m0, ty0⟩ := ty0
  obtain ⟨m1, ty1⟩ := ty1
  obtain ⟨a, rfl, hwa⟩ := (HasTy.bl treeTypes).2 ty0
  obtain ⟨b, rfl, hwb⟩ := (HasTy.bl treeTypes).2 ty1
  have hA : Rd (· < w.heap.size) w (.slice A0 n0 c0) (dBls a) := g0
  have hB : Rd (· < w.heap.size) w (.slice A1 n1 c1) (dBls b) := g1
  obtain ⟨rfl, _⟩ := rd_bls hA
  obtain ⟨rfl, _⟩ := rd_bls hB
  simp only [D.bulk] at hb
  exact numberSame_main A0 c0 a A1 c1 b w hA hB (by omega) hwa hwb hP
end Go.Proofs.YtobncidpdodaiaaDoor
