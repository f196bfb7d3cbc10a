/- The walk of ParseJoins: lines, a Rule with Blank lines about it, and other lines, tell all blocks of both, and the Rule; for lists of lines of a bounded size. -/
import Derived.Test.YtlcfijkegdlfcaaGreatDoorDoc
import Derived.Test.YtlcfijkegdlfcaaGreatDoorFits
import Derived.Test.YtlcfijkegdlfcaaGreatDoorSameB
import Derived.Test.YtlcfijkegdlfcaaGreatDoorMany
import Derived.Test.YtlcfijkegdlfcaaGreatDoorGuard
import Derived.Test.YtlcfijkegdlfcaaGreatDoorBlCells
namespace Go.Proofs.YtlcfijkegdlfcaaGreatDoor
open Go.RowKit Go.PlainAid
set_option linter.all false
set_option linter.deprecated false
set_option maxRecDepth 100000
theorem lines_join {a b : List Ln} {x y : List Bl} (hx : linesG a = some x) (hy : linesG b = some y) (hz : ∀ z, x.getLast? = some z → z.kind ≠ 4) : linesG (a ++ ruleX b) = some (x ++ ruleB :: y) := by
  unfold linesG at *
  have e : ∀ l, allG 17 l = blocksG (allG 16) (allG 15) l.length l := fun l => rfl
  rw [e] at *
  exact blocks_join hy a.length a x (Nat.le_refl _) hx hz _ (Nat.le_refl _)
theorem blocks_len {in1 in2 : List Ln → Option (List Bl)} : ∀ (f : Nat) (l : List Ln) (x : List Bl), blocksG in1 in2 f l = some x → x.length ≤ l.length
  | 0, l, x, h => by rw [blocksG] at h; cases h; simp
  | f + 1, l, x, h => by
    rw [blocksG] at h
    cases hd : dropBlank l with
    | nil => rw [hd] at h; cases h; simp
    | cons s t =>
      have h1 := drop_le l
      rw [hd] at h h1
      simp only at h
      have h2 := blockG_le (in1 := in1) (in2 := in2) s t
      cases hb : (blockG in1 in2 s t).1 with
      | none => simp [hb] at h
      | some b =>
        simp only [hb] at h
        obtain ⟨z, hz, rfl⟩ := Option.map_eq_some_iff.1 h
        have h3 := blocks_len f _ z hz
        rw [List.length_cons] at *
        omega
theorem lines_len {l : List Ln} {x : List Bl} (h : linesG l = some x) : x.length ≤ l.length := blocks_len (in1 := allG 16) (in2 := allG 15) l.length l x h
theorem str_cells {ok : Nat → Prop} {w : World} {A : Option Addr} {n c : Nat} {l : List ByteArray} (h : Rd ok w (.slice A n c) (l.map D.str)) :
    (A = none → c = 0) ∧ (0 < n → ∃ b o, A = some ⟨b, o, none⟩ ∧ ok b ∧ b < w.heap.size ∧ ∀ j u, (l.map Value.string)[j]? = some u → w.cell? ⟨b, o + j, none⟩ = some u) := by
  have hl := (rd_strs h).1
  refine ⟨fun e => by subst e; exact h.nocap, fun h0 => ?_⟩
  obtain ⟨b, o, hA, hb, hlt, hc⟩ := Rd.strs h (by omega)
  refine ⟨b, o, hA, hb, hlt, fun j u hu => ?_⟩
  rw [List.getElem?_map] at hu
  cases hj : l[j]? with
  | none => rw [hj] at hu; cases hu
  | some x =>
    rw [hj] at hu
    cases hu
    obtain ⟨h1, h2⟩ := List.getElem?_eq_some_iff.1 hj
    rw [hc j h1, List.getD_eq_getElem?_getD, hj]; rfl
set_option maxHeartbeats 8000000 in
theorem parseJoins_main (A0 : Option Addr) (n0 c0 : Nat) (la : List ByteArray) (A1 : Option Addr) (n1 c1 : Nat) (lb : List ByteArray) (w : World)
    (hA : Rd (· < w.heap.size) w (.slice A0 n0 c0) (la.map D.str)) (hB : Rd (· < w.heap.size) w (.slice A1 n1 c1) (lb.map D.str)) (hsa : sumS la ≤ 2097152) (hsb : sumS lb ≤ 2097152) (hT : TextB w.heap.size w) :
    Calls Tryz.prog 4 #[.slice A0 n0 c0, .slice A1 n1 c1] w fun e w' => e = .returned (.bool true) ∧ Below w.heap.size w w' := by
  have HT := Lib.hid hT
  have HA := Lib.hid hA
  have HB := Lib.hid hB
  have hla := (rd_strs hA).1
  have hlb := (rd_strs hB).1
  have HLA := Lib.hid hla
  have HLB := Lib.hid hlb
  have HW := fun W (hW : Below w.heap.size w W) => awake12_calls W (hT.up hW)
  have HAW := Lib.hid HW
  clear hT hA hB hla hlb HW
  obtain ⟨FA, hFA⟩ : ∃ FA, fitsF la 350 = FA := ⟨_, rfl⟩
  obtain ⟨FB, hFB⟩ : ∃ FB, fitsF lb 350 = FB := ⟨_, rfl⟩
  have HFA := Lib.hid (fun W (hW : Below w.heap.size w W) => hFA ▸ Fits12_calls A0 n0 c0 350 la W (HA.out.below hW) (by omega) (by omega))
  have HFB := Lib.hid (fun W (hW : Below w.heap.size w W) => hFB ▸ Fits12_calls A1 n1 c1 350 lb W (HB.out.below hW) (by omega) (by omega))
  clear hFA hFB
  go_enter Tryz.func4, Tryz.ntmps4
  go_wp2_with fail
  refine (HAW.out w (Below.refl _ _)).mono ?_
  rintro e w1 ⟨rfl, hb1⟩
  have hb1 : Below w.heap.size w w1 := hb1
  go_wp2_with fail
  refine (HFA.out w1 hb1).mono ?_
  rintro e w2 ⟨rfl, q2, hw2⟩
  have hb2 : Below w.heap.size w w2 := by rw [hw2]; exact below_drewN hb1 _
  clear hw2
  cases FA with
  | false =>
    go_wp2_with fail
    refine (HAW.out w2 hb2).mono ?_
    rintro e w3 ⟨rfl, hb3⟩
    go_wp2_with fail
    go_ret
    exact ⟨rfl, below_to hb2 hb2.size hb3⟩
  | true =>
  go_wp2_with fail
  refine (HFB.out w2 hb2).mono ?_
  rintro e w3 ⟨rfl, q3, hw3⟩
  have hb3 : Below w.heap.size w w3 := by rw [hw3]; exact below_drewN hb2 _
  clear hw3
  cases FB with
  | false =>
    go_wp2_with fail
    refine (HAW.out w3 hb3).mono ?_
    rintro e w4 ⟨rfl, hb4⟩
    go_wp2_with fail
    go_ret
    exact ⟨rfl, below_to hb3 hb3.size hb4⟩
  | true =>
  have hPA := fun W (hW : Below w.heap.size w W) => PLines_calls A0 n0 c0 la W ((HA.out.below hW).mono (fun _ _ _ => trivial)) (by omega) (HT.out.up hW)
  have hPB := fun W (hW : Below w.heap.size w W) => PLines_calls A1 n1 c1 lb W ((HB.out.below hW).mono (fun _ _ _ => trivial)) (by omega) (HT.out.up hW)
  obtain ⟨X, hX⟩ : ∃ X, linesG (la.map bl) = X := ⟨_, rfl⟩
  obtain ⟨Y, hY⟩ : ∃ Y, linesG (lb.map bl) = Y := ⟨_, rfl⟩
  rw [hX] at hPA
  rw [hY] at hPB
  have HX := Lib.hid hX
  have HY := Lib.hid hY
  have HPA := Lib.hid hPA
  have HPB := Lib.hid hPB
  obtain ⟨EX, hEX⟩ : ∃ EX : Int, (if X.isSome = true then 0 else 5) = EX := ⟨_, rfl⟩
  obtain ⟨EY, hEY⟩ : ∃ EY : Int, (if Y.isSome = true then 0 else 5) = EY := ⟨_, rfl⟩
  have HEX := Lib.hid hEX
  have HEY := Lib.hid hEY
  clear hPA hPB hX hY hEX hEY HFA HFB HAW
  go_wp2_with fail
  refine (HPA.out w3 hb3).mono ?_
  rintro e w4 ⟨⟨AX, nx, cx, rfl, hx⟩, hb4⟩
  rw [HEX.out]
  have hb4w := below_to hb3 hb3.size hb4
  have HXD := Lib.hid (fun bs h => (hx bs h).mono (ok' := fun j => j < w4.heap.size) (fun j _ hj => hj))
  clear hx hb4 HPA
  go_wp2_with fail
  refine (HPB.out w4 hb4w).mono ?_
  rintro e w5 ⟨⟨AY, ny, cy, rfl, hy⟩, hb5⟩
  rw [HEY.out]
  have hb5w := below_to hb4w hb4w.size hb5
  have HXD2 := Lib.hid (fun bs h => (HXD.out bs h).lt_below hb5)
  have HYD := Lib.hid (fun bs h => (hy bs h).mono (ok' := fun j => j < w5.heap.size) (fun j _ hj => hj))
  clear hy hb5 HPB HXD
  cases X with
  | none =>
    have he : EX = 5 := HEX.out.symm
    subst he
    go_wp2_with fail
    go_ret
    exact ⟨rfl, hb5w⟩
  | some x =>
  have he : EX = 0 := HEX.out.symm
  subst he
  cases Y with
  | none =>
    have he : EY = 5 := HEY.out.symm
    subst he
    go_wp2_with fail
    go_ret
    exact ⟨rfl, hb5w⟩
  | some y =>
  have he : EY = 0 := HEY.out.symm
  subst he
  have hxr := HXD2.out x rfl
  have hyr := HYD.out y rfl
  have hxl := (rd_bls hxr).1
  have hyl := (rd_bls hyr).1
  have hnb : nx ≤ 2097152 := by have h1 := lines_len HX.out; have h2 := sumS_len la; rw [List.length_map] at h1; omega
  obtain ⟨LK, hLK⟩ : ∃ LK, decide (∃ z, x.getLast? = some z ∧ z.kind = 4) = LK := ⟨_, rfl⟩
  have HXR := Lib.hid hxr
  have HYR := Lib.hid hyr
  have HXL := Lib.hid (And.intro hxl hyl)
  have HLK := Lib.hid hLK
  clear hxr hyr hxl hyl hLK HXD2 HYD HEX HEY
  go_upto_region 5 with (fail)
  go_cut [54] (fun v wx => v = .bool LK ∧ wx = w5)
  case first =>
    by_cases h0 : nx = 0
    · have h0z : ¬ (0 : Int) < nx := by omega
      have H0 := Lib.hid h0
      clear h0
      go_wp2
      go_meet
      case rel =>
        have hx0 : x = [] := List.eq_nil_of_length_eq_zero (by have := HXL.out.1; have := H0.out; omega)
        exact ⟨by rw [← HLK.out, hx0]; simp, rfl⟩
    · have h0z : (0 : Int) < nx := by omega
      have hi : nx - 1 < x.length := by have := HXL.out.1; omega
      obtain ⟨g, o, u0, v0, y0, rfl, _, _, k0, hk9⟩ := HXR.out.bl_at hi
      clear hk9
      have hlast : x.getLast? = some x[nx - 1] := by rw [List.getLast?_eq_getElem?, HXL.out.1, List.getElem?_eq_getElem hi]
      obtain ⟨K, hK⟩ : ∃ K, x[nx - 1].kind = K := ⟨_, rfl⟩
      rw [hK] at k0
      have hlk : LK = decide (K = 4) := by rw [← HLK.out, hlast, ← hK]; simp
      obtain ⟨M, hM⟩ : ∃ M, M = nx - 1 := ⟨_, rfl⟩
      rw [← hM] at k0
      have w1 : IntKind.i64.wrap ((nx : Int) - 1) = (M : Int) := by rw [IntWalk.i64_in _ (by omega)]; omega
      have hMz : (M : Int) < nx := by omega
      have HLK2 := Lib.hid hlk
      clear hlast hK hlk hM hi
      by_cases h4 : K = 4
      · have h4b : (K == 4) = true := beq_iff_eq.2 h4
        go_wp2
        go_meet
        case rel => exact ⟨by rw [HLK2.out, decide_eq_true h4], rfl⟩
      · have h4b : (K == 4) = false := beq_eq_false_iff_ne.2 h4
        go_wp2
        go_meet
        case rel => exact ⟨by rw [HLK2.out, decide_eq_false h4], rfl⟩
  case rest =>
    obtain ⟨rfl, hwc⟩ := hcut
    have hwc := hwc.symm
    subst hwc
    cases LK with
    | true =>
      go_wp2_with fail
      go_ret
      exact ⟨rfl, hb5w⟩
    | false =>
      have hz : ∀ z, x.getLast? = some z → z.kind ≠ 4 := fun z h1 h2 => of_decide_eq_false HLK.out ⟨z, h1, h2⟩
      have HJ := Lib.hid (lines_join HX.out HY.out hz)
      have hlit := World.ownsRow_lit (base := w5.heap.size) (e := 9) (size := 1) w5 #[] 0 (Nat.le_refl _) (by decide) rfl
      have hbl := (Below.refl w5.heap.size w5).alloc (Nat.le_refl _) (.cells #[] 9)
      have hb6 := below_to hb5w hb5w.size hbl
      have ha := str_cells (HA.out.below hb6)
      have hsa2 := sumS_len la
      have hsb2 := sumS_len lb
      have hn0 : n0 ≤ 2097152 := by have := HLA.out; omega
      have hn1 : n1 ≤ 2097152 := by have := HLB.out; omega
      have HLIT := Lib.hid hlit
      have HBL := Lib.hid hbl
      have HA6 := Lib.hid ha
      have hs5 := hb5w.size
      clear hz hlit hbl ha hsa2 hsb2
      go_wp2_with (at_builtin; go_must (first
        | (refine app_many (v := .slice (some ⟨w5.heap.size, 0, none⟩) 0 0) (n := 0) (xs := []) (A := A0) (m := n0) (c := c0) w5.heap.size rfl (.tmp 56) (.tmp 57) 31 9 rfl Tryz.underlying31 infoStrP rfl (by decide) (by decide) (la.map Value.string) rfl rfl (by rw [List.length_map, HLA.out, Nat.mul_one]) (by simp [Value.oneCell']) HA6.out.1 (fun h0 => by obtain ⟨b, o, e1, _, _, e3⟩ := HA6.out.2 h0; exact ⟨b, o, e1, e3⟩) HLIT.out HBL.out.size (by omega) ?_; intro v1 W1 ho1 hbb1; simp only [Nat.zero_add, List.nil_append] at ho1; obtain ⟨A8, c8, hv⟩ := own_slice ho1; subst hv; have hbw1 := HBL.out.trans hbb1)
        | (refine app_many (v := .slice A8 n0 c8) (n := n0) (xs := la.map Value.string) (A := some ⟨W1.heap.size, 0, none⟩) (m := 3) (c := 3) w5.heap.size rfl (.tmp 58) (.tmp 59) 31 9 rfl Tryz.underlying31 infoStrP rfl (by decide) (by decide) [.string ⟨#[]⟩, .string ⟨#[45, 45, 45]⟩, .string ⟨#[]⟩] rfl rfl rfl (by simp [Value.oneCell']) (fun h => by cases h) (fun _ => ⟨W1.heap.size, 0, rfl, fun j u hu => by rw [Nat.zero_add, cell_of_row _ _ j _ _ _ (heap_alloc_new W1 (.cells #[.string ⟨#[]⟩, .string ⟨#[45, 45, 45]⟩, .string ⟨#[]⟩] 9))]; simpa using hu⟩) (ho1.alloc _) (by have := hbw1.size; simp; omega) (by omega) ?_; intro v2 W2 ho2 hbb2; obtain ⟨A9, c9, hv⟩ := own_slice ho2; subst hv; have hbw2 := (hbw1.alloc hbw1.size (.cells #[.string ⟨#[]⟩, .string ⟨#[45, 45, 45]⟩, .string ⟨#[]⟩] 9)).trans hbb2; have hB2 := str_cells (HB.out.below (hb5w.trans (hbw2.mono hs5))))
        | (refine app_many (v := .slice A9 (n0 + 3) c9) (n := n0 + 3) (xs := la.map Value.string ++ [.string ⟨#[]⟩, .string ⟨#[45, 45, 45]⟩, .string ⟨#[]⟩]) (A := A1) (m := n1) (c := c1) w5.heap.size rfl (.tmp 60) (.tmp 61) 31 9 rfl Tryz.underlying31 infoStrP rfl (by decide) (by decide) (lb.map Value.string) rfl rfl (by rw [List.length_map, HLB.out, Nat.mul_one]) (by simp [Value.oneCell']) hB2.1 (fun h0 => by obtain ⟨b, o, e1, _, _, e3⟩ := hB2.2 h0; exact ⟨b, o, e1, e3⟩) ho2 hbw2.size (by omega) ?_; intro v3 W3 ho3 hbb3; obtain ⟨A10, c10, hv⟩ := own_slice ho3; subst hv; have hbw3 := hbw2.trans hbb3)))
      obtain ⟨rows, hrows⟩ : ∃ rows : List ByteArray, la ++ [⟨#[]⟩, ⟨#[45, 45, 45]⟩, ⟨#[]⟩] ++ lb = rows := ⟨_, rfl⟩
      have hcells : (la.map Value.string ++ [.string ⟨#[]⟩, .string ⟨#[45, 45, 45]⟩, .string ⟨#[]⟩]) ++ lb.map Value.string = rows.map Value.string := by rw [← hrows, List.map_append, List.map_append]; rfl
      rw [hcells] at ho3
      have hrd := Rd.own_strs (ok := fun _ => True) ho3 (fun _ _ => trivial)
      have hsr : sumS rows ≤ 4294967280 := by
        rw [← hrows, sumS_app, sumS_app]
        have e : sumS [⟨#[]⟩, ⟨#[45, 45, 45]⟩, ⟨#[]⟩] = 6 := by decide
        rw [e]; omega
      have hbl2 : rows.map bl = la.map bl ++ ruleX (lb.map bl) := by rw [← hrows, List.map_append, List.map_append, List.append_assoc]; rfl
      have hbW3 := hb5w.trans (hbw3.mono hs5)
      have hP := PLines_calls A10 _ c10 rows W3 hrd hsr (HT.out.up hbW3)
      rw [hbl2, HJ.out] at hP
      have HP := Lib.hid hP
      have HBW3 := Lib.hid (And.intro hbW3 hbw3)
      clear hP hbl2 hsr hrd hcells hrows ho3 ho2 ho1 hbw1 hbw2 hbw3 hB2 hbW3 HLIT HBL HA6 hbb1 hbb2 hbb3
      obtain ⟨Z, hZ⟩ : ∃ Z, x ++ ruleB :: y = Z := ⟨_, rfl⟩
      rw [hZ] at HP
      have HZ := Lib.hid hZ
      clear hZ
      refine HP.out.mono ?_
      rintro e w6 ⟨⟨AZ, nz, cz, rfl, hzz⟩, hb6⟩
      obtain ⟨EZ, hEZ⟩ : ∃ EZ : Int, (if (some Z : Option (List Bl)).isSome = true then 0 else 5) = EZ := ⟨_, rfl⟩
      rw [hEZ]
      have he : EZ = 0 := hEZ.symm
      clear hEZ
      subst he
      have hb56 := HBW3.out.2.trans (hb6.mono HBW3.out.2.size)
      have hbw6 := below_to HBW3.out.1 HBW3.out.1.size hb6
      have hzr := (hzz Z rfl).mono (ok' := fun j => j < w6.heap.size) (fun j _ hj => hj)
      have hx6 := HXR.out.lt_below hb56
      have hy6 := HYR.out.lt_below hb56
      have hlit := World.ownsRow_lit (base := w6.heap.size) (e := 36) (size := 6) w6 #[] 0 (Nat.le_refl _) (by decide) rfl
      have hbl := (Below.refl w6.heap.size w6).alloc (Nat.le_refl _) (.cells #[] 36)
      obtain ⟨cx6, rx, lx, ax, ox, mx⟩ := (hx6.below hbl).cells (dBls_sz x)
      have HX6 := Lib.hid (And.intro rx (And.intro lx (And.intro ax (And.intro ox mx))))
      have HY6 := Lib.hid hy6
      have HZR := Lib.hid hzr
      have HLIT := Lib.hid hlit
      have HBL := Lib.hid hbl
      have HB6 := Lib.hid hbw6
      clear hzr hx6 hy6 hlit hbl rx lx ax ox mx hzz hb6 hb56 hbw6 HP
      have hny : ny ≤ 2097152 := by have h1 := lines_len HY.out; have h2 := sumS_len lb; have h3 := HXL.out.2; rw [List.length_map] at h1; omega
      go_wp2_with (at_builtin; go_must (first
        | (refine wpList_unguard (by first | rfl | simp [Region.wanted, yielded]) ?_; refine app_many (v := .slice (some ⟨w6.heap.size, 0, none⟩) 0 0) (n := 0) (xs := []) (A := AX) (m := nx) (c := cx) w6.heap.size rfl (.tmp 70) (.tmp 71) 23 36 rfl Tryz.underlying23 infoBlP rfl (by decide) (by decide) cx6 rfl rfl HX6.out.2.1 HX6.out.2.2.2.1 HX6.out.2.2.1 (fun h0 => by obtain ⟨b, o, e1, _, _, e3⟩ := HX6.out.2.2.2.2 h0; exact ⟨b, o, e1, e3⟩) HLIT.out HBL.out.size (by omega) ?_; intro v4 W4 ho4 hbb4; simp only [Nat.zero_add, List.nil_append] at ho4; obtain ⟨A11, c11, hv⟩ := own_slice ho4; subst hv; have hbw4 := HBL.out.trans hbb4)
        | (refine wpList_unguard (by first | rfl | simp [Region.wanted, yielded]) ?_; refine app_many (v := .slice A11 nx c11) (n := nx) (xs := cx6) (A := some ⟨W4.heap.size, 0, none⟩) (m := 1) (c := 1) w6.heap.size rfl (.tmp 72) (.tmp 74) 23 36 rfl Tryz.underlying23 infoBlP rfl (by decide) (by decide) [.int .i64 3, .int .i64 0, .string ⟨#[]⟩, .slice none 0 0, .slice none 0 0, .slice none 0 0] rfl rfl rfl (by simp [Value.oneCell']) (fun h => by cases h) (fun _ => ⟨W4.heap.size, 0, rfl, fun j u hu => by rw [Nat.zero_add, cell_of_row _ _ j _ _ _ (heap_alloc_new W4 (.cells #[.int .i64 3, .int .i64 0, .string ⟨#[]⟩, .slice none 0 0, .slice none 0 0, .slice none 0 0] 36))]; simpa using hu⟩) (ho4.alloc _) (by have := hbw4.size; simp; omega) (by omega) ?_; intro v5 W5 ho5 hbb5; obtain ⟨A12, c12, hv⟩ := own_slice ho5; subst hv; have hbw5 := (hbw4.alloc hbw4.size (.cells #[.int .i64 3, .int .i64 0, .string ⟨#[]⟩, .slice none 0 0, .slice none 0 0, .slice none 0 0] 36)).trans hbb5; obtain ⟨cy6, ry, ly, ay, oy, my⟩ := Rd.cells (HY6.out.below hbw5) (dBls_sz y))
        | (refine wpList_unguard (by first | rfl | simp [Region.wanted, yielded]) ?_; refine app_many (v := .slice A12 (nx + 1) c12) (n := nx + 1) (xs := cx6 ++ [.int .i64 3, .int .i64 0, .string ⟨#[]⟩, .slice none 0 0, .slice none 0 0, .slice none 0 0]) (A := AY) (m := ny) (c := cy) w6.heap.size rfl (.tmp 75) (.tmp 76) 23 36 rfl Tryz.underlying23 infoBlP rfl (by decide) (by decide) cy6 rfl rfl ly oy ay (fun h0 => by obtain ⟨b, o, e1, _, _, e3⟩ := my h0; exact ⟨b, o, e1, e3⟩) ho5 hbw5.size (by omega) ?_; intro v6 W6 ho6 hbb6; obtain ⟨A13, c13, hv⟩ := own_slice ho6; subst hv; have hbw6' := hbw5.trans hbb6)))
      have hzW := HZR.out.lt_below hbw6'
      have hZd : dBls Z = (dBls x ++ [dBl ruleB]) ++ dBls y := by
        rw [← HZ.out, dBls_app, List.append_assoc]; rfl
      have hvb : Rd (· < W6.heap.size) W6 (.slice A13 (nx + 1 + ny) c13) (dBls Z) := by
        refine Rd.of_own ho6 (by rw [dBls_len, ← HZ.out, List.length_append, List.length_cons, HXL.out.1, HXL.out.2]; omega) ?_ (fun k hk => (ho6.lt k hk).2)
        rw [hZd]
        have hsz6 := hbw6'.size
        refine RepAll.append (RepAll.append ?_ ?_) ?_
        · exact RepAll.step (fun j hj _ => (hbw6'.block j hj).trans (HBL.out.block j hj).symm) (fun j hj _ => Nat.lt_of_lt_of_le hj hsz6) HX6.out.1
        · exact RepAll.single (rep_block (x := ruleB) (Rd.nil _ _) (Rd.nil _ _) (Rd.nil _ _))
        · exact RepAll.step (fun j hj _ => (hbw6'.block j hj).trans (hbw5.block j hj).symm) (fun j hj _ => Nat.lt_of_lt_of_le hj hsz6) ry
      refine (RSame10_calls (D.bulks (dBls Z) + 1) Z Z (Nat.lt_succ_self _) W6.heap.size _ _ W6 hzW hvb (Nat.le_refl _)).mono ?_
      rintro e w9 ⟨rfl, hb9⟩
      rw [(eqBls_iff Z Z).2 rfl]
      have hbe := below_to HB6.out HB6.out.size hbw6'
      have hbe9 := below_to hbe hbe.size hb9
      clear ho6 ho5 ho4 hzW hvb hZd
      go_wp2_with fail
      go_ret
      exact ⟨rfl, hbe9⟩
theorem sum_bulk : ∀ l : List ByteArray, sumS l ≤ D.bulks (l.map D.str)
  | [] => Nat.zero_le _
  | s :: l => by
    have := sum_bulk l
    rw [List.map_cons, D.bulks, sumS, D.bulk]
    omega
theorem strsP_of {t : TypeId} (ht : Tryz.prog.underlying t = some (.slice 9)) {X : D} (h : ∃ n, HasTy Tryz.prog n t X) : ∃ l : List ByteArray, X = .sl (l.map D.str) := by
  obtain ⟨n, h⟩ := h
  cases n with
  | zero => rw [HasTy] at h; exact h.elim
  | succ n =>
    rw [HasTy, ht] at h
    obtain ⟨xs, rfl, hx⟩ := h
    suffices ∃ l : List ByteArray, xs = l.map D.str by obtain ⟨l, rfl⟩ := this; exact ⟨l, rfl⟩
    induction xs with
    | nil => exact ⟨[], rfl⟩
    | cons x xs ih =>
      obtain ⟨l, rfl⟩ := ih (fun y hy => hx y (by simp [hy]))
      have h0 := hx x (by simp)
      cases n with
      | zero => rw [HasTy] at h0; exact h0.elim
      | succ n =>
        rw [HasTy, Tryz.underlying9] at h0
        obtain ⟨s, rfl, _⟩ := h0
        exact ⟨s :: l, rfl⟩
theorem parseJoins_walk (A0 : Option Addr) (n0 c0 : Nat) (X0 : D) (A1 : Option Addr) (n1 c1 : Nat) (X1 : D) (w : World)
    (g0 : Rep (· < w.heap.size) w X0 [.slice A0 n0 c0]) (ty0 : ∃ n, HasTy Tryz.prog n 31 X0) (g1 : Rep (· < w.heap.size) w X1 [.slice A1 n1 c1]) (ty1 : ∃ n, HasTy Tryz.prog n 31 X1) (hb : X0.bulk + X1.bulk ≤ 1048576) (hT : TextB w.heap.size w) :
    Calls Tryz.prog 4 #[.slice A0 n0 c0, .slice A1 n1 c1] w fun e w' => e = .returned (.bool true) ∧ Below w.heap.size w w' := by
  obtain ⟨la, rfl⟩ := strsP_of Tryz.underlying31 ty0
  obtain ⟨lb, rfl⟩ := strsP_of Tryz.underlying31 ty1
  simp only [D.bulk] at hb
  have h1 := sum_bulk la
  have h2 := sum_bulk lb
  exact parseJoins_main A0 n0 c0 la A1 n1 c1 lb w g0 g1 (by omega) (by omega) hT
end Go.Proofs.YtlcfijkegdlfcaaGreatDoor
