/- The walks of tree.Same. -/
import Derived.Test.YtobncidpdodaiaaDoorSameS
import Derived.Test.YtobncidpdodaiaaDoorShelf
namespace Go.Proofs.YtobncidpdodaiaaDoor
open Go.RowKit Go.PlainAid
set_option linter.all false
set_option linter.deprecated false
set_option maxRecDepth 100000
/-- slices.Equal of texts. -/
theorem equalS_calls {ok ok' : Nat → Prop} (va vb : Value) (a b : List ByteArray) (w : World) (hA : Rd ok w va (a.map D.str)) (hB : Rd ok' w vb (b.map D.str)) :
    Calls Tryd.prog 53 #[va, vb] w (Says (decide (a = b)) w) := by
  have same : ∀ w', (∃ q, w' = w.drewN q) → Below w.heap.size w w' := fun w' ⟨q, h⟩ => h ▸ below_drewN (Below.refl _ _) q
  obtain ⟨A, ca, rfl, hca, hxa⟩ := hA.form
  obtain ⟨B, cb, rfl, hcb, hxb⟩ := hB.form
  simp only [List.length_map] at *
  by_cases hl : a.length = b.length
  · by_cases h0 : a.length = 0
    · have e1 : a = [] := List.eq_nil_of_length_eq_zero h0
      have e2 : b = [] := List.eq_nil_of_length_eq_zero (by omega)
      subst e1; subst e2
      refine (Tryd.slices_Equal_string_empty A B ca 0 cb w (by omega)).mono ?_
      rintro e w' ⟨rfl, rfl⟩
      exact ⟨rfl, Below.refl _ _⟩
    · obtain ⟨ba, oa, rfl, _, _, ha⟩ := hA.strs (by omega)
      obtain ⟨bb, ob, rfl, _, _, hb⟩ := hB.strs (by omega)
      refine (Tryd.slices_Equal_string ba oa a.length ca bb ob b.length cb a b w (Nat.le_refl _) (Nat.le_refl _) hxa hxb ha hb).mono ?_
      rintro e w' ⟨rfl, hq⟩
      refine ⟨?_, same _ hq⟩
      rw [List.take_length, List.take_length]
      try exact ret_bool (by rw [Bool.eq_iff_iff]; simp)
  · refine (Tryd.slices_Equal_string_lens A B _ ca _ cb w hl).mono ?_
    rintro e w' ⟨rfl, rfl⟩
    exact ⟨by rw [decide_eq_false (fun e => hl (by rw [e]))], Below.refl _ _⟩
theorem treeSame_of {v v' : Value} {x : Bool} {w : World} (h : Calls Tryd.prog 34 #[v, v', .func (.func 35) #[] #[]] w (Says x w)) : Calls Tryd.prog 19 #[v, v'] w (Says x w) := by
  have H := Lib.hid h
  clear h
  go_enter Tryd.func19, Tryd.ntmps19
  go_wp2_with fail
  refine H.out.mono ?_
  rintro e w1 ⟨rfl, hb⟩
  go_wp2_with fail
  go_ret
  exact ⟨rfl, hb⟩
set_option maxHeartbeats 4000000 in
theorem alike_calls (k k' n n' : Int) (s s' : ByteArray) (ls ls' : List ByteArray) (sp sp' : List Sp) (l l' : List Bl) (u u' v v' y y' : Value) (w : World)
    (h1 : ∀ W, Below w.heap.size w W → Calls Tryd.prog 53 #[u, u'] W (Says (decide (ls = ls')) W)) (h2 : ∀ W, Below w.heap.size w W → Calls Tryd.prog 54 #[v, v'] W (Says (eqSps sp sp') W))
    (h3 : ∀ W, Below w.heap.size w W → Calls Tryd.prog 19 #[y, y'] W (Says (eqBls l l') W)) :
    Calls Tryd.prog 35 #[.agg #[.int .i64 k, .int .i64 n, .string s, u, v, y], .agg #[.int .i64 k', .int .i64 n', .string s', u', v', y']] w (Says (eqBl (.mk k n s ls sp l) (.mk k' n' s' ls' sp' l')) w) := by
  have hb0 : Below w.heap.size w ((w.alloc (.cells #[.int .i64 k, .int .i64 n, .string s, u, v, y] 26)).alloc (.cells #[.int .i64 k', .int .i64 n', .string s', u', v', y'] 26)) := below_alloc (below_alloc (Below.refl _ _) (Nat.le_refl _) _) (by simp) _
  by_cases hk : k = k'
  rotate_left
  · have he : eqBl (.mk k n s ls sp l) (.mk k' n' s' ls' sp' l') = false := by simp [eqBl, hk]
    rw [he]
    have bq : (k == k') = false := beq_eq_false_iff_ne.2 hk
    clear h1 h2 h3 he hk
    go_enter Tryd.func35, Tryd.ntmps35
    go_wp2_with fail
    go_ret
    exact ⟨rfl, hb0⟩
  by_cases hn : n = n'
  rotate_left
  · have he : eqBl (.mk k n s ls sp l) (.mk k' n' s' ls' sp' l') = false := by simp [eqBl, hn]
    rw [he]
    subst hk
    have bq : (n == n') = false := beq_eq_false_iff_ne.2 hn
    clear h1 h2 h3 he hn
    go_enter Tryd.func35, Tryd.ntmps35
    go_wp2_with fail
    go_ret
    exact ⟨rfl, hb0⟩
  by_cases hs : s = s'
  rotate_left
  · have he : eqBl (.mk k n s ls sp l) (.mk k' n' s' ls' sp' l') = false := by simp [eqBl, hs]
    rw [he]
    subst hk; subst hn
    have bq := beq_f hs
    clear h1 h2 h3 he hs
    go_enter Tryd.func35, Tryd.ntmps35
    go_wp2_with fail
    go_ret
    exact ⟨rfl, hb0⟩
  subst hk; subst hn; subst hs
  have bq := beq_t (rfl : s = s)
  have H1 := Lib.hid (h1 _ hb0)
  clear h1
  cases hls : decide (ls = ls') with
  | false =>
    have he : eqBl (.mk k n s ls sp l) (.mk k n s ls' sp' l') = false := by simp [eqBl, hls]
    rw [he]
    rw [hls] at H1
    clear h2 h3 he hls
    go_enter Tryd.func35, Tryd.ntmps35
    go_wp2_with fail
    refine H1.out.mono ?_
    rintro e w1 ⟨rfl, hb⟩
    go_wp2_with fail
    go_ret
    exact ⟨rfl, below_to hb0 hb0.size hb⟩
  | true =>
    rw [hls] at H1
    have H2 := Lib.hid h2
    clear h2
    cases hsp : eqSps sp sp' with
    | false =>
      have he : eqBl (.mk k n s ls sp l) (.mk k n s ls' sp' l') = false := by simp [eqBl, hsp]
      rw [he]
      rw [hsp] at H2
      clear h3 he hls hsp
      go_enter Tryd.func35, Tryd.ntmps35
      go_wp2_with fail
      refine H1.out.mono ?_
      rintro e w1 ⟨rfl, hb⟩
      have hb1 := below_to hb0 hb0.size hb
      have p4 : ∀ o, w1.cell? ⟨w.heap.size, o, none⟩ = ((w.alloc (.cells #[.int .i64 k, .int .i64 n, .string s, u, v, y] 26)).alloc (.cells #[.int .i64 k, .int .i64 n, .string s, u', v', y'] 26)).cell? ⟨w.heap.size, o, none⟩ := fun o => below_at hb (by simp; omega)
      have q4 : ∀ o, w1.cell? ⟨w.heap.size + 1, o, none⟩ = ((w.alloc (.cells #[.int .i64 k, .int .i64 n, .string s, u, v, y] 26)).alloc (.cells #[.int .i64 k, .int .i64 n, .string s, u', v', y'] 26)).cell? ⟨w.heap.size + 1, o, none⟩ := fun o => below_at hb (by simp)
      go_wp2_with fail
      refine (H2.out _ hb1).mono ?_
      rintro e w2 ⟨rfl, hb2⟩
      go_wp2_with fail
      go_ret
      exact ⟨rfl, below_to hb1 hb1.size hb2⟩
    | true =>
      have he : eqBl (.mk k n s ls sp l) (.mk k n s ls' sp' l') = eqBls l l' := by simp [eqBl, hsp, of_decide_eq_true hls]
      rw [he]
      rw [hsp] at H2
      have H3 := Lib.hid h3
      clear h3 he hls hsp
      generalize eqBls l l' = x at *
      go_enter Tryd.func35, Tryd.ntmps35
      go_wp2_with fail
      refine H1.out.mono ?_
      rintro e w1 ⟨rfl, hb⟩
      have hb1 := below_to hb0 hb0.size hb
      have p4 : ∀ o, w1.cell? ⟨w.heap.size, o, none⟩ = ((w.alloc (.cells #[.int .i64 k, .int .i64 n, .string s, u, v, y] 26)).alloc (.cells #[.int .i64 k, .int .i64 n, .string s, u', v', y'] 26)).cell? ⟨w.heap.size, o, none⟩ := fun o => below_at hb (by simp; omega)
      have q4 : ∀ o, w1.cell? ⟨w.heap.size + 1, o, none⟩ = ((w.alloc (.cells #[.int .i64 k, .int .i64 n, .string s, u, v, y] 26)).alloc (.cells #[.int .i64 k, .int .i64 n, .string s, u', v', y'] 26)).cell? ⟨w.heap.size + 1, o, none⟩ := fun o => below_at hb (by simp)
      go_wp2_with fail
      refine (H2.out _ hb1).mono ?_
      rintro e w2 ⟨rfl, hb2⟩
      have hb3 := below_to hb1 hb1.size hb2
      have hz : w.heap.size + 1 < w1.heap.size := by have := hb.size; simp at this; omega
      have p5 : ∀ o, w2.cell? ⟨w.heap.size, o, none⟩ = w1.cell? ⟨w.heap.size, o, none⟩ := fun o => below_at hb2 (by omega)
      have q5 : ∀ o, w2.cell? ⟨w.heap.size + 1, o, none⟩ = w1.cell? ⟨w.heap.size + 1, o, none⟩ := fun o => below_at hb2 hz
      go_wp2_with fail
      refine (H3.out _ hb3).mono ?_
      rintro e w3 ⟨rfl, hb4⟩
      go_wp2_with fail
      go_ret
      exact ⟨rfl, below_to hb3 hb3.size hb4⟩
set_option maxHeartbeats 4000000 in
theorem EqBl_calls : ∀ (N : Nat) (a b : List Bl) (_ : D.bulks (dBls a) < N) (B : Nat) (va vb : Value) (w : World) (_ : Rd (· < B) w va (dBls a)) (_ : Rd (· < B) w vb (dBls b)) (_ : B ≤ w.heap.size),
    Calls Tryd.prog 34 #[va, vb, .func (.func 35) #[] #[]] w (Says (eqBls a b) w) := by
  intro N
  induction N with
  | zero => intro _ _ h; exact absurd h (Nat.not_lt_zero _)
  | succ N ih =>
    have IH := Lib.hid ih
    clear ih
    intro a b hN B va vb w hA hB hBw
    obtain ⟨A, ca, rfl, hca, hma⟩ := hA.form
    obtain ⟨A', cb, rfl, hcb, hmb⟩ := hB.form
    rw [dBls_len] at *
    rw [dBls_len] at *
    by_cases hl : a.length = b.length
    · have hz : ((a.length : Int) == (b.length : Int)) = true := by simp [hl]
      have HA := Lib.hid hA
      have HB := Lib.hid hB
      have HL := Lib.hid hl
      clear hA hB hl
      go_enter Tryd.func34, Tryd.ntmps34
      go_wp2_with fail
      go_loopw [17] (fun vi wr => ∃ i : Nat, i ≤ a.length ∧ vi = .int .i64 i ∧ Hid (eqBls (a.take i) (b.take i) = true) ∧ Below w.heap.size w wr) (fun vi _ => a.length - (intOf vi).toNat)
      case atStart => exact ⟨0, Nat.zero_le _, rfl, Lib.hid (by simp [eqBls]), Below.refl _ _⟩
      case round =>
        obtain ⟨i, hi, rfl, hq, hbr⟩ := hrel
        have hwr := hbr.size
        by_cases hlt : i < a.length
        · have hltb : i < b.length := by have := HL.out; omega
          have hAr := HA.out.step (ok' := (· < B)) (fun k hk _ => hbr.block k (by omega)) (fun _ h _ => h)
          have hBr := HB.out.step (ok' := (· < B)) (fun k hk _ => hbr.block k (by omega)) (fun _ h _ => h)
          obtain ⟨ba, oa, u, v, y, rfl, _, _, x0, x1, x2, x3, x4, x5, h1, h2, h3⟩ := hAr.bl_at hlt
          obtain ⟨bb, ob, u', v', y', rfl, _, _, y0, y1, y2, y3, y4, y5, h1', h2', h3'⟩ := hBr.bl_at hltb
          have hbk : (dBl a[i]).bulk ≤ D.bulks (dBls a) := by rw [dBls_map]; exact D.bulk_mem (List.mem_map.2 ⟨_, List.getElem_mem hlt, rfl⟩)
          have HAT := Lib.hid (eqBls_at hq.out hlt hltb)
          have HNO := Lib.hid (fun h => eqBls_no (a := a) (b := b) (i := i) h)
          generalize a[i] = x at *
          generalize b[i] = z at *
          obtain ⟨K, n, s, ls, sp, L⟩ := x
          obtain ⟨K', n', s', ls', sp', L'⟩ := z
          simp only [Bl.kind, Bl.level, Bl.info, Bl.lines, Bl.spans, Bl.kids] at x0 x1 x2 x3 x4 x5 y0 y1 y2 y3 y4 y5 h1 h2 h3 h1' h2' h3'
          obtain ⟨T1, t1, rfl, _, _⟩ := h1.form
          obtain ⟨T2, t2, rfl, _, _⟩ := h2.form
          obtain ⟨T3, t3, rfl, _, _⟩ := h3.form
          obtain ⟨T1', t1', rfl, _, _⟩ := h1'.form
          obtain ⟨T2', t2', rfl, _, _⟩ := h2'.form
          obtain ⟨T3', t3', rfl, _, _⟩ := h3'.form
          simp only [dSps_len, dBls_len, List.length_map] at x3 x4 x5 y3 y4 y5 h1 h2 h3 h1' h2' h3'
          have hbL : D.bulks (dBls L) < N := by simp only [dBl, D.bulk, D.bulks] at hbk; omega
          have hal := below_alloc (below_alloc (Below.refl wr.heap.size wr) (Nat.le_refl _) (.cells #[.int .i64 K, .int .i64 n, .string s, .slice T1 ls.length t1, .slice T2 sp.length t2, .slice T3 L.length t3] 26)) (by simp) (.cells #[.int .i64 K', .int .i64 n', .string s', .slice T1' ls'.length t1', .slice T2' sp'.length t2', .slice T3' L'.length t3'] 26)
          have hcl := alike_calls K K' n n' s s' ls ls' sp sp' L L' (.slice T1 ls.length t1) (.slice T1' ls'.length t1') (.slice T2 sp.length t2) (.slice T2' sp'.length t2') (.slice T3 L.length t3) (.slice T3' L'.length t3')
            ((wr.alloc (.cells #[.int .i64 K, .int .i64 n, .string s, .slice T1 ls.length t1, .slice T2 sp.length t2, .slice T3 L.length t3] 26)).alloc (.cells #[.int .i64 K', .int .i64 n', .string s', .slice T1' ls'.length t1', .slice T2' sp'.length t2', .slice T3' L'.length t3'] 26))
            (fun W hW => equalS_calls (ok := (· < B)) (ok' := (· < B)) _ _ ls ls' W (h1.step (fun k hk _ => (below_to hal hal.size hW).block k (by omega)) (fun _ h _ => h)) (h1'.step (fun k hk _ => (below_to hal hal.size hW).block k (by omega)) (fun _ h _ => h)))
            (fun W hW => spanSame_of (EqSp_calls _ sp sp' (Nat.lt_succ_self _) B _ _ W (h2.step (fun k hk _ => (below_to hal hal.size hW).block k (by omega)) (fun _ h _ => h)) (h2'.step (fun k hk _ => (below_to hal hal.size hW).block k (by omega)) (fun _ h _ => h)) (by have := hal.size; have := hW.size; omega)))
            (fun W hW => treeSame_of (IH.out L L' hbL B _ _ W (h3.step (fun k hk _ => (below_to hal hal.size hW).block k (by omega)) (fun _ h _ => h)) (h3'.step (fun k hk _ => (below_to hal hal.size hW).block k (by omega)) (fun _ h _ => h)) (by have := hal.size; have := hW.size; omega)))
          cases hv : eqBl (.mk K n s ls sp L) (.mk K' n' s' ls' sp' L') with
          | true =>
            rw [hv] at hcl
            have HC := Lib.hid hcl
            have HV := Lib.hid (HAT.out.trans hv)
            clear hcl hv h1 h2 h3 h1' h2' h3' hAr hBr
            go_wp2_with fail
            refine HC.out.mono ?_
            rintro e w1 ⟨rfl, hb1⟩
            go_wp2_with fail
            go_roundw
            case rel => exact ⟨i + 1, by omega, by go_num, HV, below_to hbr hwr (below_to hal hal.size hb1)⟩
            case measure => simp [intOf]; omega
          | false =>
            rw [hv] at hcl
            have HC := Lib.hid hcl
            have HV := Lib.hid (HNO.out (HAT.out.trans hv))
            clear hcl hv h1 h2 h3 h1' h2' h3' hAr hBr
            go_wp2_with fail
            refine HC.out.mono ?_
            rintro e w1 ⟨rfl, hb1⟩
            go_wp2_with fail
            go_ret
            exact ⟨ret_bool HV.out.symm, below_to hbr hwr (below_to hal hal.size hb1)⟩
        · have hie : i = a.length := by omega
          have hq2 := hq.out
          rw [hie, List.take_length, HL.out, List.take_length] at hq2
          have HQ := Lib.hid hq2
          clear hq2 hie
          go_wp2_with fail
          go_ret
          exact ⟨ret_bool HQ.out.symm, hbr⟩
    · rw [eqBls_len hl]
      have hz : ((a.length : Int) == (b.length : Int)) = false := beq_eq_false_iff_ne.2 (by omega)
      clear hA hB hl
      go_enter Tryd.func34, Tryd.ntmps34
      go_wp2_with fail
      go_ret
      exact ⟨rfl, Below.refl _ _⟩
end Go.Proofs.YtobncidpdodaiaaDoor
