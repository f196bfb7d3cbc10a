/- The walk of the law NumberParts. -/
import Derived.Test.YtobncidpdodaiaaDoorNumberPartsP
import Derived.Deep.DeepCutAuto
import Derived.Test.YtobncidpdodaiaaDoorStore
namespace Go.Proofs.YtobncidpdodaiaaDoor
open Go.RowKit Go.PlainAid
set_option linter.all false
set_option linter.deprecated false
set_option maxRecDepth 100000
theorem lit_cells' {w : World} {g : Nat} {cs : List Value} {t : TypeId} (h : w.heap[g]? = some (.cells cs.toArray t (0, 0))) : ∀ j u, cs[j]? = some u → w.cell? ⟨g, 0 + j, none⟩ = some u := fun j u hu => by
  rw [Nat.zero_add, cell_of_row w g j _ _ _ h]; simpa using hu
set_option maxHeartbeats 8000000 in
theorem numberParts_main (A : Option Addr) (ca : Nat) (l : List Bl) (k n : Int) (s : ByteArray) (ls : List ByteArray) (sp : List Sp) (lk : List Bl) (hbb : D.bulks (dBls l) + (dBl (.mk k n s ls sp lk)).bulk ≤ 1048575) (hwl : Bls.wf l) (hwf : (Bl.mk k n s ls sp lk).wf)
    (A1 A2 A3 : Option Addr) (c1 c2 c3 : Nat) (w : World) (hA : Rd (· < w.heap.size) w (.slice A l.length ca) (dBls l))
    (hR1 : Rd (· < w.heap.size) w (.slice A1 ls.length c1) (ls.map D.str)) (hR2 : Rd (· < w.heap.size) w (.slice A2 sp.length c2) (dSps sp)) (hR3 : Rd (· < w.heap.size) w (.slice A3 lk.length c3) (dBls lk)) (hP : PowB w.heap.size w) :
    Calls Tryd.prog 4 #[.slice A l.length ca, .agg #[.int .i64 k, .int .i64 n, .string s, .slice A1 ls.length c1, .slice A2 sp.length c2, .slice A3 lk.length c3]] w
      fun e w' => e = .returned (.bool true) ∧ Below w.heap.size w w' := by
  have hbw : Below w.heap.size w (w.alloc (.cells #[.int .i64 k, .int .i64 n, .string s, .slice A1 ls.length c1, .slice A2 sp.length c2, .slice A3 lk.length c3] 26)) := below_alloc (Below.refl _ _) (Nat.le_refl _) _
  have hgx := World.alloc_heap_new w (.cells #[.int .i64 k, .int .i64 n, .string s, .slice A1 ls.length c1, .slice A2 sp.length c2, .slice A3 lk.length c3] 26)
  have lx := fun W (hW : Below w.heap.size w W) => lit_bl (t := 26) (k := k) (n := n) (s := s) (hR1.lt_below hW) (hR2.lt_below hW) (hR3.lt_below hW)
  have HGX := Lib.hid (fun W (hW : Below (w.alloc (.cells #[.int .i64 k, .int .i64 n, .string s, .slice A1 ls.length c1, .slice A2 sp.length c2, .slice A3 lk.length c3] 26)).heap.size _ W) => six ((hW.block w.heap.size (by simp)).trans hgx))
  have HA := Lib.hid hA
  have LX := Lib.hid lx
  have HP := Lib.hid hP
  have HBW := Lib.hid hbw
  have HR1 := Lib.hid hR1
  have HR2 := Lib.hid hR2
  have HR3 := Lib.hid hR3
  clear hA lx hP hbw hgx hR1 hR2 hR3
  go_enter Tryd.func4, Tryd.ntmps4
  go_wp2_with fail
  refine (awake15_calls _ (fun W h => HP.out W (below_to HBW.out HBW.out.size h))).mono ?_
  rintro e w1 ⟨rfl, hb1⟩
  have hw1 := below_to HBW.out HBW.out.size hb1
  go_wp2_with fail
  refine (few15_calls l _ _ (HA.out.lt_below hw1)).mono ?_
  rintro e w2 ⟨m1, rfl, hm1, hb2'⟩
  have hb2 := below_to hb1 hb1.size hb2'
  have hw2 := below_to HBW.out HBW.out.size hb2
  clear hb2'
  cases m1 with
  | false =>
    go_wp2_with fail
    refine (awake15_calls _ (fun W h => HP.out W (below_to hw2 hw2.size h))).mono ?_
    rintro e w3 ⟨rfl, hb3⟩
    go_wp2_with fail
    go_ret
    exact ⟨rfl, below_to hw2 hw2.size hb3⟩
  | true =>
  have h20 := hm1 (by simp)
  clear hm1
  obtain ⟨f0, f1, f2, f3, f4, f5⟩ := HGX.out w2 hb2
  have H := Lib.hid (few15_calls _ _ _ (LX.out w2 hw2))
  go_wp2_with fail
  refine H.out.mono ?_
  rintro e w3 ⟨m2, rfl, _, hb3'⟩
  have hb3 := below_to hb2 hb2.size (below_to (below_alloc (Below.refl _ _) (Nat.le_refl _) (.cells #[.int .i64 k, .int .i64 n, .string s, .slice A1 ls.length c1, .slice A2 sp.length c2, .slice A3 lk.length c3] 26)) (by simp) hb3')
  have hw3 := below_to HBW.out HBW.out.size hb3
  clear f0 f1 f2 f3 f4 f5 H hb3'
  cases m2 with
  | false =>
    go_wp2_with fail
    refine (awake15_calls _ (fun W h => HP.out W (below_to hw3 hw3.size h))).mono ?_
    rintro e w4 ⟨rfl, hb4⟩
    go_wp2_with fail
    go_ret
    exact ⟨rfl, below_to hw3 hw3.size hb4⟩
  | true =>
  clear hb1 hb2 hw1 hw2
  have hqa := below_alloc (Below.refl _ _) (Nat.le_refl _) (o := .cells #[.int .i64 5, .int .i64 0, .string ⟨#[]⟩, .slice none 0 0, .slice none 0 0, .slice A l.length ca] 26) (w := w3)
  have hb4 := below_to hb3 hb3.size hqa
  have hw4 := below_to HBW.out HBW.out.size hb4
  have hga := World.alloc_heap_new w3 (.cells #[.int .i64 5, .int .i64 0, .string ⟨#[]⟩, .slice none 0 0, .slice none 0 0, .slice A l.length ca] 26)
  obtain ⟨cells, hra, hcl, hcn, hc1, hcc⟩ := (HA.out.lt_below hw4).cells (dBls_sz l)
  obtain ⟨f0, f1, f2, f3, f4, f5⟩ := HGX.out _ hb4
  have HGA := Lib.hid hga
  have HL3 := Lib.hid (show w3.heap.size < (w3.alloc (.cells #[.int .i64 5, .int .i64 0, .string ⟨#[]⟩, .slice none 0 0, .slice none 0 0, .slice A l.length ca] 26)).heap.size from by simp)
  have HLX := Lib.hid (show w.heap.size < (w3.alloc (.cells #[.int .i64 5, .int .i64 0, .string ⟨#[]⟩, .slice none 0 0, .slice none 0 0, .slice A l.length ca] 26)).heap.size from Nat.lt_of_lt_of_le (by simp) hb4.size)
  have HRA := Lib.hid hra
  have HCL := Lib.hid hcl
  have HCN := Lib.hid hcn
  have HC1 := Lib.hid hc1
  have HCC := Lib.hid hcc
  clear hga hra hcl hcn hc1 hcc hqa hb3 hw3
  go_upto_region 4 with (fail)
  generalize w3.alloc (.cells #[.int .i64 5, .int .i64 0, .string ⟨#[]⟩, .slice none 0 0, .slice none 0 0, .slice A l.length ca] 26) = W0 at *
  go_upto_region 5 with (fail)
  go_cut [6] (fun s6 wx => ∃ p V c, s6 = .pointer (some ⟨p, 0, none⟩) ∧ Hid (W0.heap.size ≤ p ∧ wx.heap[p]? = some (.cells #[.int .i64 5, .int .i64 0, .string ⟨#[]⟩, .slice none 0 0, .slice none 0 0, .slice V (l.length + 1) c] 26 (0, 0)) ∧ Rd (· < wx.heap.size) wx (.slice V (l.length + 1) c) (dBls (l ++ [.mk k n s ls sp lk]))) ∧ Below W0.heap.size W0 wx)
  case first =>
    refine wp_region_inv (PartsInv W0 A ca l cells [.int .i64 k, .int .i64 n, .string s, .slice A1 ls.length c1, .slice A2 sp.length c2, .slice A3 lk.length c3]) (by kernel_rfl) (by kernel_rfl) ?_ ?_ ?_
    · exact ⟨undef, undef, undef, undef, undef, undef, undef, undef, (by simp only [Act.put, List.setIfInBounds_toArray, List.set_cons_zero, List.set_cons_succ]), Below.drew (Below.refl _ _), fun h => by (cases h), fun h => by (cases h), fun h => by (cases h), fun h => by (cases h), fun h => by (cases h), fun h => by (cases h), fun h => by (cases h), fun h => by (cases h), fun h => by (cases h), fun h => by (cases h), fun h => by (cases h), fun h => by (cases h)⟩
    · intro i o ho L a w' hLi haft hI K hK
      have hi : i < 9 := (Array.getElem?_eq_some_iff.1 ho).1
      obtain ⟨v25, v26, v27, v28, v29, v30, v31, v6, rfl, hbel, i0, i1, i2, i3, i4, i5, i6, i7, j2, j5, j6, j8⟩ := hI
      have I0 := Lib.hid i0
      have I1 := Lib.hid i1
      have I2 := Lib.hid i2
      have I3 := Lib.hid i3
      have I4 := Lib.hid i4
      have I5 := Lib.hid i5
      have I6 := Lib.hid i6
      have I7 := Lib.hid i7
      have J2 := Lib.hid j2
      have J5 := Lib.hid j5
      have J6 := Lib.hid j6
      have J8 := Lib.hid j8
      clear i0 i1 i2 i3 i4 i5 i6 i7 j2 j5 j6 j8
      have HL := Lib.hid hLi
      have HF := Lib.hid haft
      clear hLi haft
      obtain rfl | rfl | rfl | rfl | rfl | rfl | rfl | rfl | rfl : i = 0 ∨ i = 1 ∨ i = 2 ∨ i = 3 ∨ i = 4 ∨ i = 5 ∨ i = 6 ∨ i = 7 ∨ i = 8 := by omega
      all_goals (simp only [List.getElem?_toArray, List.getElem?_cons_succ, List.getElem?_cons_zero, Option.some.injEq] at ho; subst ho; clear hi)
      · simp only [Act.put, List.setIfInBounds_toArray, List.set_cons_zero, List.set_cons_succ]
        go_simp
        refine hK.out _ _ ⟨_, v26, v27, v28, v29, v30, v31, v6, (by simp only [Act.put, List.setIfInBounds_toArray, List.set_cons_zero, List.set_cons_succ]), below_alloc hbel hbel.size _, fun _ _ => Lib.hid (World.ownsRow_lit w' #[] 0 hbel.size (by unfold maxLen; omega) rfl), I1.out, fun h h' => Lib.hid ((I2.out h h').out.alloc _), I3.out, ?_, fun h => Lib.hid ((I5.out h).out.alloc _), I6.out, ?_, fun _ => rfl, J5.out, J6.out, J8.out⟩
        · intro h h'
          obtain ⟨b, e, hb⟩ := I4.out h h'
          obtain ⟨hb1, hb2, hb3, hb4⟩ := hb.out
          exact ⟨b, e, Lib.hid ⟨lt_alloc hb1, heap_alloc_lt hb2 hb1, fun _ _ e => absurd (Option.some.inj e) (Nat.ne_of_gt hb1), hb4⟩⟩
        · intro h
          obtain ⟨p, e, hp⟩ := I7.out h
          obtain ⟨p1, p2, p3, p4, p5, p6, p7⟩ := hp.out
          exact ⟨p, e, Lib.hid ⟨p1, lt_alloc p2, fun h => heap_alloc_lt (p3 h) p2, fun h => heap_alloc_lt (p4 h) p2, fun _ _ e => absurd (Option.some.inj e) (Nat.ne_of_gt p2), p6, p7⟩⟩
      · simp only [Act.put, List.setIfInBounds_toArray, List.set_cons_zero, List.set_cons_succ]
        go_simp
        exact hK.out _ _ ⟨v25, .slice A l.length ca, v27, v28, v29, v30, v31, v6, (by simp only [Act.put, List.setIfInBounds_toArray, List.set_cons_zero, List.set_cons_succ]), hbel, I0.out, fun _ => rfl, I2.out, I3.out, I4.out, I5.out, I6.out, I7.out, J2.out, J5.out, J6.out, J8.out⟩
      · have h0 := HF.out ⟨0, .data⟩ (by simp) (by kernel_rfl)
        have h1 := HF.out ⟨1, .data⟩ (by simp) (by kernel_rfl)
        have h5 : L 5 = false := by
          cases h : L 5 with
          | false => rfl
          | true => have := (J5.out h).1; rw [HL.out] at this; cases this
        obtain rfl := I1.out h1
        have ow := (I0.out h0 HL.out).out
        simp only [Act.put, List.setIfInBounds_toArray, List.set_cons_zero, List.set_cons_succ]
        refine step_app_many (v := v25) (n := 0) (xs := []) (A := A) (m := l.length) (c := ca) W0.heap.size (by rfl) (.tmp 25) (.tmp 26) 24 26 (by rfl) Tryd.underlying24 infoBl (by rfl) (by decide) (by decide) cells (by rfl) (by rfl) HCL.out HC1.out HCN.out (fun h0 => by obtain ⟨bb, oo, e1, _, e3, e4⟩ := HCC.out h0; exact ⟨bb, oo, e1, fun j u hu => below_at' hbel e3 (e4 j u hu)⟩) (by exact ow) hbel.size (by omega) ?_
        intro v' w2 hown' hb' hg' hat'
        simp only [Act.put, List.setIfInBounds_toArray, List.set_cons_zero, List.set_cons_succ]
        rw [Nat.zero_add, List.nil_append] at hown'
        refine hK.out _ _ ⟨v25, .slice A l.length ca, v', v28, v29, v30, v31, v6, (by simp only [Act.put, List.setIfInBounds_toArray, List.set_cons_zero, List.set_cons_succ]), hbel.trans hb', fun _ h => ff (by simp [upd]) h, fun _ => rfl, fun _ _ => Lib.hid hown', I3.out, ?_, fun h => ff h h5, I6.out, ?_, fun _ => h0, fun h => ff h h5, J6.out, fun h => ff (J6.out (J8.out h).1) h5⟩
        · intro h h'
          obtain ⟨b, e, hb⟩ := I4.out h h'
          obtain ⟨hb1, hb2, hb3, hb4⟩ := hb.out
          exact ⟨b, e, Lib.hid ⟨Nat.lt_of_lt_of_le hb1 hg'.size, (hg'.block b hb1 (fun e => hb3 h0 HL.out e.symm)).trans hb2, fun _ h => ff (by simp [upd]) h, fun _ => ne_hat hat' (hb3 h0 HL.out) hb1⟩⟩
        · intro h
          obtain ⟨p, e, hp⟩ := I7.out h
          obtain ⟨p1, p2, p3, p4, p5, p6, p7⟩ := hp.out
          exact ⟨p, e, Lib.hid ⟨p1, Nat.lt_of_lt_of_le p2 hg'.size, fun h => (hg'.block p p2 (fun e => p5 h0 HL.out e.symm)).trans (p3 h), fun h => ff (J6.out (J8.out h).1) h5, fun _ h => ff (by simp [upd]) h, fun _ _ => ne_hat hat' (p5 h0 HL.out) p2, fun h => ff h h5⟩⟩
      · have g0 := below_at' hbel HLX.out f0
        have g1 := below_at' hbel HLX.out f1
        have g2 := below_at' hbel HLX.out f2
        have g3 := below_at' hbel HLX.out f3
        have g4 := below_at' hbel HLX.out f4
        have g5 := below_at' hbel HLX.out f5
        simp only [Act.put, List.setIfInBounds_toArray, List.set_cons_zero, List.set_cons_succ]
        go_simp
        exact hK.out _ _ ⟨v25, v26, v27, .agg #[.int .i64 k, .int .i64 n, .string s, .slice A1 ls.length c1, .slice A2 sp.length c2, .slice A3 lk.length c3], v29, v30, v31, v6, (by simp only [Act.put, List.setIfInBounds_toArray, List.set_cons_zero, List.set_cons_succ]), hbel, I0.out, I1.out, I2.out, fun _ => rfl, I4.out, I5.out, I6.out, I7.out, J2.out, J5.out, J6.out, J8.out⟩
      · have h3 := HF.out ⟨3, .data⟩ (by simp) (by kernel_rfl)
        obtain rfl := I3.out h3
        have h5 : L 5 = false := by
          cases h : L 5 with
          | false => rfl
          | true => have := (J5.out h).2; rw [HL.out] at this; cases this
        simp only [Act.put, List.setIfInBounds_toArray, List.set_cons_zero, List.set_cons_succ]
        go_simp
        refine hK.out _ _ ⟨v25, v26, v27, .agg #[.int .i64 k, .int .i64 n, .string s, .slice A1 ls.length c1, .slice A2 sp.length c2, .slice A3 lk.length c3], .slice (some ⟨w'.heap.size, 0, none⟩) 1 1, v30, v31, v6, (by simp only [Act.put, List.setIfInBounds_toArray, List.set_cons_zero, List.set_cons_succ]), below_alloc hbel hbel.size _, fun h h' => Lib.hid ((I0.out h h').out.alloc _), I1.out, fun h h' => Lib.hid ((I2.out h h').out.alloc _), fun _ => rfl, ?_, fun h => ff h h5, I6.out, ?_, J2.out, fun h => ff h h5, J6.out, J8.out⟩
        · intro _ h'
          exact ⟨_, rfl, Lib.hid ⟨by simp, World.alloc_heap_new w' _, fun h h' => ne_own (I0.out h h').out (Nat.le_refl _), fun h => ne_own (I2.out h h5).out (Nat.le_refl _)⟩⟩
        · intro h
          obtain ⟨p, e, hp⟩ := I7.out h
          obtain ⟨p1, p2, p3, p4, p5, p6, p7⟩ := hp.out
          exact ⟨p, e, Lib.hid ⟨p1, lt_alloc p2, fun h => heap_alloc_lt (p3 h) p2, fun h => heap_alloc_lt (p4 h) p2, p5, p6, p7⟩⟩
      · have h2 := HF.out ⟨2, .data⟩ (by simp) (by kernel_rfl)
        have h4 := HF.out ⟨4, .data⟩ (by simp) (by kernel_rfl)
        have ow := (I2.out h2 HL.out).out
        obtain ⟨b, rfl, hb⟩ := I4.out h4 HL.out
        obtain ⟨hb1, hb2, hb3, hb4⟩ := hb.out
        have h8 : L 8 = false := by
          cases h : L 8 with
          | false => rfl
          | true => have := J6.out (J8.out h).1; rw [HL.out] at this; cases this
        simp only [Act.put, List.setIfInBounds_toArray, List.set_cons_zero, List.set_cons_succ]
        refine step_app_many (v := v27) (n := l.length) (xs := cells) (A := some ⟨b, 0, none⟩) (m := 1) (c := 1) W0.heap.size (by rfl) (.tmp 27) (.tmp 29) 24 26 (by rfl) Tryd.underlying24 infoBl (by rfl) (by decide) (by decide) [.int .i64 k, .int .i64 n, .string s, .slice A1 ls.length c1, .slice A2 sp.length c2, .slice A3 lk.length c3] (by rfl) (by rfl) rfl (by simp [Value.oneCell']) (fun h0 => by cases h0) (fun _ => ⟨_, _, rfl, lit_cells' hb2⟩) (by exact ow) hbel.size (by omega) ?_
        intro v' w2 hown' hb' hg' hat'
        simp only [Act.put, List.setIfInBounds_toArray, List.set_cons_zero, List.set_cons_succ]
        refine hK.out _ _ ⟨v25, v26, v27, v28, .slice (some ⟨b, 0, none⟩) 1 1, v', v31, v6, (by simp only [Act.put, List.setIfInBounds_toArray, List.set_cons_zero, List.set_cons_succ]), hbel.trans hb', fun h h' => ff h2 h', I1.out, fun _ h => ff (by simp [upd]) h, I3.out, fun _ h => ff (by simp [upd]) h, fun _ => Lib.hid hown', fun h => ff (J6.out h) HL.out, ?_, J2.out, fun _ => ⟨h2, h4⟩, fun h => ff (J6.out h) HL.out, fun h => ff h h8⟩
        · intro h
          obtain ⟨p, e, hp⟩ := I7.out h
          obtain ⟨p1, p2, p3, p4, p5, p6, p7⟩ := hp.out
          exact ⟨p, e, Lib.hid ⟨p1, Nat.lt_of_lt_of_le p2 hg'.size, fun h => (hg'.block p p2 (fun e => p6 h2 HL.out e.symm)).trans (p3 h), fun h => ff h h8, fun _ h => ff h2 h, fun _ h => ff (by simp [upd]) h, fun _ => ne_hat hat' (p6 h2 HL.out) p2⟩⟩
      · have h5 := HF.out ⟨5, .data⟩ (by simp) (by kernel_rfl)
        obtain ⟨V, cV, rfl⟩ := own_slice (I5.out h5).out
        simp only [Act.put, List.setIfInBounds_toArray, List.set_cons_zero, List.set_cons_succ]
        go_simp
        exact hK.out _ _ ⟨v25, v26, v27, v28, v29, .slice V (l.length + 1) cV, .agg #[.int .i64 5, .int .i64 0, .string ⟨#[]⟩, .slice none 0 0, .slice none 0 0, .slice V (l.length + 1) cV], v6, (by simp only [Act.put, List.setIfInBounds_toArray, List.set_cons_zero, List.set_cons_succ]), hbel, I0.out, I1.out, I2.out, I3.out, I4.out, I5.out, fun _ => rfl, I7.out, J2.out, J5.out, fun _ => h5, fun h => ⟨by simp [upd], (J8.out h).2⟩⟩
      · have h8 : L 8 = false := by
          cases h : L 8 with
          | false => rfl
          | true => have := (J8.out h).2; rw [HL.out] at this; cases this
        simp only [Act.put, List.setIfInBounds_toArray, List.set_cons_zero, List.set_cons_succ]
        go_simp
        refine hK.out _ _ ⟨v25, v26, v27, v28, v29, v30, v31, .pointer (some ⟨w'.heap.size, 0, none⟩), (by simp only [Act.put, List.setIfInBounds_toArray, List.set_cons_zero, List.set_cons_succ]), below_alloc hbel hbel.size _, fun h h' => Lib.hid ((I0.out h h').out.alloc _), I1.out, fun h h' => Lib.hid ((I2.out h h').out.alloc _), I3.out, ?_, fun h => Lib.hid ((I5.out h).out.alloc _), I6.out, ?_, J2.out, J5.out, J6.out, fun h => ff h h8⟩
        · intro h h'
          obtain ⟨b, e, hb⟩ := I4.out h h'
          obtain ⟨hb1, hb2, hb3, hb4⟩ := hb.out
          exact ⟨b, e, Lib.hid ⟨lt_alloc hb1, heap_alloc_lt hb2 hb1, hb3, hb4⟩⟩
        · intro _
          exact ⟨_, rfl, Lib.hid ⟨hbel.size, by simp, fun _ => World.alloc_heap_new w' _, fun h => ff h h8, fun h h' => ne_own (I0.out h h').out (Nat.le_refl _), fun h h' => ne_own (I2.out h h').out (Nat.le_refl _), fun h => ne_own (I5.out h).out (Nat.le_refl _)⟩⟩
      · have h6 := HF.out ⟨6, .data⟩ (Array.mem_of_getElem? (i := 1) rfl) (by kernel_rfl)
        have h7 := HF.out ⟨7, .data⟩ (Array.mem_of_getElem? (i := 0) rfl) (by kernel_rfl)
        have h5 := J6.out h6
        have h2 := (J5.out h5).1
        obtain rfl := I6.out h6
        have e7 := I7.out h7
        clear I7 HF
        simp only [Act.put, List.setIfInBounds_toArray, List.set_cons_zero, List.set_cons_succ]
        refine Exists.elim e7 (fun p hh => ?_)
        clear e7
        refine And.elim (fun e6 hp => ?_) hh
        clear hh
        subst e6
        obtain ⟨p1, p2, p3, p4, p5, p6, p7⟩ := hp.out
        have hpz := p3 HL.out
        have hp7 := p7 h5
        have ow := (I5.out h5).out
        obtain ⟨V, cV, rfl⟩ := own_slice ow
        refine step_store (by rfl) 26 (.tmp 6) (.tmp 31) (by rfl) p #[.int .i64 5, .int .i64 0, .string ⟨#[]⟩, .slice none 0 0, .slice none 0 0, .slice V (l.length + 1) cV] _ 26 (by rfl) (by rfl) hpz rfl (by kernel_rfl) (by simp [Value.oneCell']) ?_
        simp only [Act.put]
        refine hK.out _ _ ⟨v25, v26, v27, v28, v29, .slice V (l.length + 1) cV, .agg #[.int .i64 5, .int .i64 0, .string ⟨#[]⟩, .slice none 0 0, .slice none 0 0, .slice V (l.length + 1) cV], .pointer (some ⟨p, 0, none⟩), (by simp only [Act.put, List.setIfInBounds_toArray, List.set_cons_zero, List.set_cons_succ]), setCells_below p1 _ _ _ hbel, fun _ h => ff h2 h, I1.out, fun _ h => ff h5 h, I3.out, fun _ h => ff h5 h, fun _ => Lib.hid (setCells_own ow hp7 _ _), fun _ => rfl, ?_, J2.out, J5.out, fun _ => h5, fun _ => ⟨h6, h7⟩⟩
        intro _
        exact ⟨p, rfl, Lib.hid ⟨p1, by rw [setCells_size]; exact p2, fun h => ff (by simp [upd]) h, fun _ => setCells_whole _ hpz rfl, fun _ h => ff h2 h, fun _ h => ff h5 h, fun _ => hp7⟩⟩
    · intro L a w' hall hI
      have h5 := hall 5 (by simp)
      have h7 := hall 7 (by simp)
      have h8 := hall 8 (by simp)
      obtain ⟨v25, v26, v27, v28, v29, v30, v31, v6, ea, hbel, _, _, _, _, _, i5, _, i7, _, _, _, _⟩ := hI
      have ow := (i5 h5).out
      have e7 := i7 h7
      clear i5 i7 hall
      obtain ⟨V, cV, rfl⟩ := own_slice ow
      refine Exists.elim e7 (fun p hh => ?_)
      clear e7
      refine And.elim (fun e6 hp => ?_) hh
      clear hh
      subst e6
      subst ea
      obtain ⟨p1, _, _, p4, _, _, _⟩ := hp.out
      have p4 := p4 h8
      have hww := below_to hw4 hw4.size hbel
      have rab : RepAll (· < w'.heap.size) w' (dBls (l ++ [.mk k n s ls sp lk])) (cells ++ [.int .i64 k, .int .i64 n, .string s, .slice A1 ls.length c1, .slice A2 sp.length c2, .slice A3 lk.length c3]) := by
        have e : dBls (l ++ [.mk k n s ls sp lk]) = dBls l ++ [dBl (.mk k n s ls sp lk)] := by rw [dBls_map, dBls_map, List.map_append]; rfl
        rw [e]
        exact RepAll.append (HRA.out.below hbel) (RepAll.single (rep_bl_mk (HR1.out.lt_below hww) (HR2.out.lt_below hww) (HR3.out.lt_below hww)))
      have hrd := rd_blocks (l := l ++ [.mk k n s ls sp lk]) (n := l.length + 1) ow rab (by simp) (Below.refl _ _)
      have HRD := Lib.hid (show W0.heap.size ≤ p ∧ w'.heap[p]? = some (.cells #[.int .i64 5, .int .i64 0, .string ⟨#[]⟩, .slice none 0 0, .slice none 0 0, .slice V (l.length + 1) cV] 26 (0, 0)) ∧ Rd (· < w'.heap.size) w' (.slice V (l.length + 1) cV) (dBls (l ++ [.mk k n s ls sp lk])) from ⟨p1, p4, hrd⟩)
      clear hp p4 rab hrd ow h5 h7 h8
      simp only [Act.put, List.setIfInBounds_toArray, List.set_cons_zero, List.set_cons_succ]
      go_wp2
      go_meet
      case rel => exact ⟨p, V, cV, rfl, HRD, hbel⟩
  case rest =>
    obtain ⟨p, V, cV, rfl, hh, hbc⟩ := hcut
    obtain ⟨hp1, hp2, hrd⟩ := hh.out
    have hga := (hbc.block w3.heap.size HL3.out).trans HGA.out
    have hwc := below_to hw4 hw4.size hbc
    have hal := below_alloc (Below.refl wc.heap.size wc) (Nat.le_refl _) (.cells #[.int .i64 5, .int .i64 0, .string ⟨#[]⟩, .slice none 0 0, .slice none 0 0, .slice none 0 0] 26)
    have hgn := World.alloc_heap_new wc (.cells #[.int .i64 5, .int .i64 0, .string ⟨#[]⟩, .slice none 0 0, .slice none 0 0, .slice none 0 0] 26)
    have lA : w3.heap.size < wc.heap.size := (Array.getElem?_eq_some_iff.1 hga).1
    have lP : p < wc.heap.size := (Array.getElem?_eq_some_iff.1 hp2).1
    have hga := heap_alloc_lt (o := .cells #[.int .i64 5, .int .i64 0, .string ⟨#[]⟩, .slice none 0 0, .slice none 0 0, .slice none 0 0] 26) hga lA
    have hp2 := heap_alloc_lt (o := .cells #[.int .i64 5, .int .i64 0, .string ⟨#[]⟩, .slice none 0 0, .slice none 0 0, .slice none 0 0] 26) hp2 lP
    have hb0 : (⟨#[]⟩ : ByteArray).size = 0 := rfl
    have hbx : D.bulks (dBls (l ++ [.mk k n s ls sp lk])) = D.bulks (dBls l) + (dBl (.mk k n s ls sp lk)).bulk := by
      have e : dBls (l ++ [.mk k n s ls sp lk]) = dBls l ++ [dBl (.mk k n s ls sp lk)] := by rw [dBls_map, dBls_map, List.map_append]; rfl
      rw [e, D.bulks_append, D.bulks, D.bulks, Nat.add_zero]
    have bq : ∀ x : List Bl, (dBl (quo x)).bulk = D.bulks (dBls x) + 7 := fun x => by rw [bulk_bl', hb0]; simp [D.bulks, dSps]
    have wq : ∀ x : List Bl, Bls.wf x → (quo x).wf := fun x hx => by unfold quo; rw [Bl.wf]; exact ⟨⟨by decide, by decide⟩, ⟨by decide, by decide⟩, trivial, hx⟩
    have hwx : Bls.wf (l ++ [.mk k n s ls sp lk]) := (Bls.wf_iff _).2 (fun y hy => by
      rcases List.mem_append.1 hy with h | h
      · exact (Bls.wf_iff _).1 hwl y h
      · rw [List.mem_singleton] at h; subst h; exact hwf)
    have cab := fun W (hW : Below (wc.alloc (.cells #[.int .i64 5, .int .i64 0, .string ⟨#[]⟩, .slice none 0 0, .slice none 0 0, .slice none 0 0] 26)).heap.size (wc.alloc (.cells #[.int .i64 5, .int .i64 0, .string ⟨#[]⟩, .slice none 0 0, .slice none 0 0, .slice none 0 0] 26)) W) =>
      Alike_calls 5 0 5 0 ⟨#[]⟩ ⟨#[]⟩ [] [] [] [] l (l ++ [.mk k n s ls sp lk]) (by rw [bq]; omega) (by rw [bq]; omega) (fun _ => by rw [quo_parts, quo_parts, List.length_map, List.length_map, List.length_append, List.length_singleton]; omega) (wq l hwl) (wq _ hwx) none none A none none V 0 0 ca 0 0 cV W (Rd.nil _ _) (Rd.nil _ _) (HA.out.lt_below (below_to hwc hwc.size (below_to hal hal.size hW))) (Rd.nil _ _) (Rd.nil _ _) (by have := hrd.lt_below (below_to hal hal.size hW); rw [List.length_append, List.length_singleton]; exact this) (fun W' h => HP.out W' (below_to (below_to hwc hwc.size (below_to hal hal.size hW)) (below_to hwc hwc.size (below_to hal hal.size hW)).size h))
    have cnb := fun W (hW : Below (wc.alloc (.cells #[.int .i64 5, .int .i64 0, .string ⟨#[]⟩, .slice none 0 0, .slice none 0 0, .slice none 0 0] 26)).heap.size (wc.alloc (.cells #[.int .i64 5, .int .i64 0, .string ⟨#[]⟩, .slice none 0 0, .slice none 0 0, .slice none 0 0] 26)) W) =>
      Alike_calls 5 0 5 0 ⟨#[]⟩ ⟨#[]⟩ [] [] [] [] [] (l ++ [.mk k n s ls sp lk]) (by rw [bq]; simp [D.bulks, dBls]) (by rw [bq]; omega) (fun _ => by rw [quo_parts, quo_parts, List.length_map, List.length_map, List.length_append, List.length_singleton]; simp; omega) (wq [] trivial) (wq _ hwx) none none none none none V 0 0 0 0 0 cV W (Rd.nil _ _) (Rd.nil _ _) (Rd.nil _ _) (Rd.nil _ _) (Rd.nil _ _) (by have := hrd.lt_below (below_to hal hal.size hW); rw [List.length_append, List.length_singleton]; exact this) (fun W' h => HP.out W' (below_to (below_to hwc hwc.size (below_to hal hal.size hW)) (below_to hwc hwc.size (below_to hal hal.size hW)).size h))
    have cnn := fun W (hW : Below (wc.alloc (.cells #[.int .i64 5, .int .i64 0, .string ⟨#[]⟩, .slice none 0 0, .slice none 0 0, .slice none 0 0] 26)).heap.size (wc.alloc (.cells #[.int .i64 5, .int .i64 0, .string ⟨#[]⟩, .slice none 0 0, .slice none 0 0, .slice none 0 0] 26)) W) =>
      Alike_calls 5 0 5 0 ⟨#[]⟩ ⟨#[]⟩ [] [] [] [] [] [] (by rw [bq]; simp [D.bulks, dBls]) (by rw [bq]; simp [D.bulks, dBls]) (fun h => absurd ((eqBl_iff _ _).2 rfl) h) (wq [] trivial) (wq [] trivial) none none none none none none 0 0 0 0 0 0 W (Rd.nil _ _) (Rd.nil _ _) (Rd.nil _ _) (Rd.nil _ _) (Rd.nil _ _) (Rd.nil _ _) (fun W' h => HP.out W' (below_to (below_to hwc hwc.size (below_to hal hal.size hW)) (below_to hwc hwc.size (below_to hal hal.size hW)).size h))
    simp only [quo_alike, List.length_nil, List.length_append, List.length_singleton] at cab
    simp only [quo_none, List.length_nil, List.length_append, List.length_singleton] at cnb
    simp only [alikeB_self, List.length_nil] at cnn
    have CAB := Lib.hid cab
    have CNB := Lib.hid cnb
    have CNN := Lib.hid cnn
    have HBZ := Lib.hid (below_to hwc hwc.size hal)
    have HA6 := Lib.hid (fun W (hW : Below (wc.alloc (.cells #[.int .i64 5, .int .i64 0, .string ⟨#[]⟩, .slice none 0 0, .slice none 0 0, .slice none 0 0] 26)).heap.size _ W) => six ((hW.block w3.heap.size (lt_alloc lA)).trans hga))
    have HP6 := Lib.hid (fun W (hW : Below (wc.alloc (.cells #[.int .i64 5, .int .i64 0, .string ⟨#[]⟩, .slice none 0 0, .slice none 0 0, .slice none 0 0] 26)).heap.size _ W) => six ((hW.block p (lt_alloc lP)).trans hp2))
    have HN6 := Lib.hid (fun W (hW : Below (wc.alloc (.cells #[.int .i64 5, .int .i64 0, .string ⟨#[]⟩, .slice none 0 0, .slice none 0 0, .slice none 0 0] 26)).heap.size _ W) => six ((hW.block wc.heap.size (by simp)).trans hgn))
    obtain ⟨a0, a1, a2, a3, a4, a5⟩ := HA6.out _ (Below.refl _ _)
    obtain ⟨b0, b1, b2, b3, b4, b5⟩ := HP6.out _ (Below.refl _ _)
    clear cab cnb cnn hh hrd hga hp1 hp2 hbx bq wq hwx hgn hal hwc hbc HGA HRA HCL HCN HC1 HCC HR1 HR2 HR3 HA HGX LX f0 f1 f2 f3 f4 f5 hb4 hw4 hwl hwf HLX HL3 hb0
    have hd : (0 : Int) < 2 * (l.length : Int) + 1 := by omega
    go_wp2_with fail
    refine (CAB.out _ (Below.refl _ _)).mono ?_
    rintro e w5 ⟨rfl, hb5⟩
    clear a0 a1 a2 a3 a4 a5 b0 b1 b2 b3 b4 b5
    obtain ⟨a0, a1, a2, a3, a4, a5⟩ := HN6.out w5 hb5
    obtain ⟨b0, b1, b2, b3, b4, b5⟩ := HP6.out w5 hb5
    go_wp2_with fail
    refine (CNB.out w5 hb5).mono ?_
    rintro e w6 ⟨rfl, hb6'⟩
    have hb6 := below_to hb5 hb5.size hb6'
    clear a0 a1 a2 a3 a4 a5 b0 b1 b2 b3 b4 b5 hb5 hb6'
    obtain ⟨a0, a1, a2, a3, a4, a5⟩ := HN6.out w6 hb6
    go_wp2_with fail
    refine (CNN.out w6 hb6).mono ?_
    rintro e w7 ⟨rfl, hb7⟩
    have hbz := below_to hb6 hb6.size hb7
    go_wp2_with fail
    go_ret
    exact ⟨rfl, below_to HBZ.out HBZ.out.size hbz⟩
theorem numberParts_walk (A0 : Option Addr) (n0 c0 : Nat) (X0 : D) (P1 : Array Value) (X1 : D) (w : World)
    (g0 : Rep (· < w.heap.size) w X0 [.slice A0 n0 c0]) (ty0 : ∃ n, HasTy Tryd.prog n 24 X0) (g1 : Rep (· < w.heap.size) w X1 P1.toList) (ty1 : ∃ n, HasTy Tryd.prog n 26 X1) (hb : X0.bulk + X1.bulk ≤ 1048576) (hP : PowB w.heap.size w) :
    Calls Tryd.prog 4 #[.slice A0 n0 c0, .agg P1] w fun e w' => e = .returned (.bool true) ∧ Below w.heap.size w w' := by
  obtain ⟨m0, ty0⟩ := ty0
  obtain ⟨m1, ty1⟩ := ty1
  obtain ⟨a, rfl, hwa⟩ := (HasTy.bl treeTypes).2 ty0
  obtain ⟨b, rfl, hwb⟩ := (HasTy.bl treeTypes).1 ty1
  obtain ⟨k, n, s, ls, sp, l⟩ := b
  obtain ⟨u, v, y, e1, h1, h2, h3⟩ := rep_bl g1
  simp only [Bl.kind, Bl.level, Bl.info, Bl.lines, Bl.spans, Bl.kids] at e1 h1 h2 h3
  obtain ⟨A1, c1, rfl, _, _⟩ := h1.form
  obtain ⟨A2, c2, rfl, _, _⟩ := h2.form
  obtain ⟨A3, c3, rfl, _, _⟩ := h3.form
  simp only [dSps_len, dBls_len, List.length_map] at *
  have hA : Rd (· < w.heap.size) w (.slice A0 n0 c0) (dBls a) := g0
  obtain ⟨rfl, _⟩ := rd_bls hA
  rw [show P1 = #[.int .i64 k, .int .i64 n, .string s, .slice A1 ls.length c1, .slice A2 sp.length c2, .slice A3 l.length c3] from Array.toList_inj.1 e1]
  simp only [D.bulk] at hb
  exact numberParts_main A0 c0 a k n s ls sp l (by omega) hwa hwb A1 A2 A3 c1 c2 c3 w hA h1 h2 h3 hP
end Go.Proofs.YtobncidpdodaiaaDoor
