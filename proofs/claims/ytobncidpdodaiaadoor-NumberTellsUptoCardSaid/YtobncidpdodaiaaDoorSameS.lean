/- The walks of span.Same. -/
import Derived.Test.YtobncidpdodaiaaDoorSameP
import Derived.Test.YtobncidpdodaiaaDoorTexts
namespace Go.Proofs.YtobncidpdodaiaaDoor
open Go.RowKit Go.PlainAid
set_option linter.all false
set_option linter.deprecated false
set_option maxRecDepth 100000
/-- Says whether, and lays nothing old anew. -/
def Says (x : Bool) (w : World) (e : Ending) (w' : World) : Prop := e = .returned (.bool x) ∧ Below w.heap.size w w'
theorem spanSame_of {v v' : Value} {x : Bool} {w : World} (h : Calls Tryd.prog 70 #[v, v', .func (.func 71) #[] #[]] w (Says x w)) : Calls Tryd.prog 54 #[v, v'] w (Says x w) := by
  have H := Lib.hid h
  clear h
  go_enter Tryd.func54, Tryd.ntmps54
  go_wp2_with fail
  refine H.out.mono ?_
  rintro e w1 ⟨rfl, hb⟩
  go_wp2_with fail
  go_ret
  exact ⟨rfl, hb⟩
set_option maxHeartbeats 2000000 in
theorem clos_calls (k k' : Int) (s s' : ByteArray) (l l' : List Sp) (u u' : Value) (w : World) (h : ∀ W, Below w.heap.size w W → Calls Tryd.prog 70 #[u, u', .func (.func 71) #[] #[]] W (Says (eqSps l l') W)) :
    Calls Tryd.prog 71 #[.agg #[.int .i64 k, .string s, u], .agg #[.int .i64 k', .string s', u']] w (Says (eqSp (.mk k s l) (.mk k' s' l')) w) := by
  have hb2 : Below w.heap.size w ((w.alloc (.cells #[.int .i64 k, .string s, u] 69)).alloc (.cells #[.int .i64 k', .string s', u'] 69)) := below_alloc (below_alloc (Below.refl _ _) (Nat.le_refl _) _) (by simp) _
  by_cases hk : k = k'
  · by_cases hs : s = s'
    · subst hk; subst hs
      have he : eqSp (.mk k s l) (.mk k s l') = eqSps l l' := by simp [eqSp]
      rw [he]
      have bq := beq_t (rfl : s = s)
      have H := Lib.hid (spanSame_of (h _ hb2))
      clear h he
      go_enter Tryd.func71, Tryd.ntmps71
      go_wp2_with fail
      refine H.out.mono ?_
      rintro e w1 ⟨rfl, hb⟩
      go_wp2_with fail
      go_ret
      exact ⟨rfl, below_to hb2 hb2.size hb⟩
    · subst hk
      have he : eqSp (.mk k s l) (.mk k s' l') = false := by simp [eqSp, hs]
      rw [he]
      have bq := beq_f hs
      clear h he hs
      go_enter Tryd.func71, Tryd.ntmps71
      go_wp2_with fail
      go_ret
      exact ⟨rfl, hb2⟩
  · have he : eqSp (.mk k s l) (.mk k' s' l') = false := by simp [eqSp, hk]
    rw [he]
    have bq : (k == k') = false := beq_eq_false_iff_ne.2 hk
    clear h he hk
    go_enter Tryd.func71, Tryd.ntmps71
    go_wp2_with fail
    go_ret
    exact ⟨rfl, hb2⟩
set_option maxHeartbeats 4000000 in
theorem EqSp_calls : ∀ (N : Nat) (a b : List Sp) (_ : D.bulks (dSps a) < N) (B : Nat) (va vb : Value) (w : World) (_ : Rd (· < B) w va (dSps a)) (_ : Rd (· < B) w vb (dSps b)) (_ : B ≤ w.heap.size),
    Calls Tryd.prog 70 #[va, vb, .func (.func 71) #[] #[]] w (Says (eqSps a b) w) := by
  intro N
  induction N with
  | zero => intro _ _ h; exact absurd h (Nat.not_lt_zero _)
  | succ N ih =>
    have IH := Lib.hid ih
    clear ih
    intro a b hN B va vb w hA hB hBw
    obtain ⟨A, ca, rfl, hca, hma⟩ := hA.form
    obtain ⟨A', cb, rfl, hcb, hmb⟩ := hB.form
    rw [dSps_len] at *
    rw [dSps_len] at *
    by_cases hl : a.length = b.length
    · have hz : ((a.length : Int) == (b.length : Int)) = true := by simp [hl]
      have HA := Lib.hid hA
      have HB := Lib.hid hB
      have HL := Lib.hid hl
      clear hA hB hl
      go_enter Tryd.func70, Tryd.ntmps70
      go_wp2_with fail
      go_loopw [17] (fun vi wr => ∃ i : Nat, i ≤ a.length ∧ vi = .int .i64 i ∧ Hid (eqSps (a.take i) (b.take i) = true) ∧ Below w.heap.size w wr) (fun vi _ => a.length - (intOf vi).toNat)
      case atStart => exact ⟨0, Nat.zero_le _, rfl, Lib.hid (by simp [eqSps]), Below.refl _ _⟩
      case round =>
        obtain ⟨i, hi, rfl, hq, hbr⟩ := hrel
        have hwr := hbr.size
        by_cases hlt : i < a.length
        · have hltb : i < b.length := by have := HL.out; omega
          have hAr := HA.out.step (ok' := (· < B)) (fun k hk _ => hbr.block k (by omega)) (fun _ h _ => h)
          have hBr := HB.out.step (ok' := (· < B)) (fun k hk _ => hbr.block k (by omega)) (fun _ h _ => h)
          obtain ⟨ba, oa, u, rfl, _, _, x0, x1, x2, hk⟩ := hAr.sp_at hlt
          obtain ⟨bb, ob, u', rfl, _, _, y0, y1, y2, hk'⟩ := hBr.sp_at hltb
          have hbk : (dSp a[i]).bulk ≤ D.bulks (dSps a) := by rw [dSps_map]; exact D.bulk_mem (List.mem_map.2 ⟨_, List.getElem_mem hlt, rfl⟩)
          have hat := eqSps_at hq.out hlt hltb
          have HNO := Lib.hid (fun h => eqSps_no (a := a) (b := b) (i := i) h)
          generalize a[i] = x at *
          generalize b[i] = y at *
          obtain ⟨K, s, L⟩ := x
          obtain ⟨K', s', L'⟩ := y
          simp only [Sp.kind, Sp.s, Sp.kids] at x0 x1 x2 y0 y1 y2 hk hk'
          obtain ⟨T, tc, rfl, _, _⟩ := hk.form
          obtain ⟨T', tc', rfl, _, _⟩ := hk'.form
          rw [dSps_len] at x2 y2 hk hk'
          have hbL : D.bulks (dSps L) < N := by simp only [dSp, D.bulk, D.bulks] at hbk; omega
          have hal := below_alloc (below_alloc (Below.refl wr.heap.size wr) (Nat.le_refl _) (.cells #[.int .i64 K, .string s, .slice T L.length tc] 69)) (by simp) (.cells #[.int .i64 K', .string s', .slice T' L'.length tc'] 69)
          have hcl := clos_calls K K' s s' L L' (.slice T L.length tc) (.slice T' L'.length tc') ((wr.alloc (.cells #[.int .i64 K, .string s, .slice T L.length tc] 69)).alloc (.cells #[.int .i64 K', .string s', .slice T' L'.length tc'] 69)) (fun W hW => IH.out L L' hbL B _ _ W (hk.step (fun k hk _ => (below_to hal hal.size hW).block k (by omega)) (fun _ h _ => h)) (hk'.step (fun k hk _ => (below_to hal hal.size hW).block k (by omega)) (fun _ h _ => h)) (by have := hal.size; have := hW.size; omega))
          have HAT := Lib.hid hat
          cases hv : eqSp (.mk K s L) (.mk K' s' L') with
          | true =>
            rw [hv] at hcl
            have HC := Lib.hid hcl
            have HV := Lib.hid (HAT.out.trans hv)
            clear hcl hat hv hk hk' hAr hBr
            go_wp2_with fail
            refine HC.out.mono ?_
            rintro e w1 ⟨rfl, hb1⟩
            go_wp2_with fail
            go_roundw
            case rel => exact ⟨i + 1, by omega, by go_num, HV, below_to hbr hwr (below_to hal hal.size hb1)⟩
            case measure => simp [intOf]; omega
          | false =>
            rw [hv] at hcl
            have HC := Lib.hid hcl
            have HV := Lib.hid (HNO.out (HAT.out.trans hv))
            clear hcl hat hv hk hk' hAr hBr
            go_wp2_with fail
            refine HC.out.mono ?_
            rintro e w1 ⟨rfl, hb1⟩
            go_wp2_with fail
            go_ret
            exact ⟨ret_bool HV.out.symm, below_to hbr hwr (below_to hal hal.size hb1)⟩
        · have hie : i = a.length := by omega
          have hq2 := hq.out
          rw [hie, List.take_length, HL.out, List.take_length] at hq2
          have HQ := Lib.hid hq2
          clear hq2 hie
          go_wp2_with fail
          go_ret
          exact ⟨ret_bool HQ.out.symm, hbr⟩
    · rw [eqSps_len hl]
      have hz : ((a.length : Int) == (b.length : Int)) = false := beq_eq_false_iff_ne.2 (by omega)
      clear hA hB hl
      go_enter Tryd.func70, Tryd.ntmps70
      go_wp2_with fail
      go_ret
      exact ⟨rfl, Below.refl _ _⟩
end Go.Proofs.YtobncidpdodaiaaDoor
