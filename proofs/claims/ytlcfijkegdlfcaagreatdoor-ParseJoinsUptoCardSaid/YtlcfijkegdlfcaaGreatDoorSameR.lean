/- The walks of the document's Same of spans (layer 7), texts, blocks (layer 10), numbers (layer 3). -/
import Derived.Test.YtlcfijkegdlfcaaGreatDoorProg
import Derived.Test.YtlcfijkegdlfcaaGreatDoorKids
import Derived.Deep.RegionHeld3
import Derived.PlainAid
import Derived.WalkSpells
import Derived.Test.YtlcfijkegdlfcaaGreatDoorSameP
import Derived.Test.YtlcfijkegdlfcaaGreatDoorStr
import Derived.Test.YtlcfijkegdlfcaaGreatDoorTexts
namespace Go.Proofs.YtlcfijkegdlfcaaGreatDoor
open Go.RowKit Go.PlainAid
set_option linter.all false
set_option linter.deprecated false
set_option maxRecDepth 100000
theorem bne_f {α : Type} [BEq α] [LawfulBEq α] {a b : α} (h : a = b) : (a != b) = false := by subst h; simp
theorem bne_t {α : Type} [BEq α] [LawfulBEq α] {a b : α} (h : ¬ a = b) : (a != b) = true := bne_iff_ne.2 h
theorem bne_ts {a b : ByteArray} (h : ¬ a = b) : (a.toList != b.toList) = true := by
  have := beq_f h
  unfold bne
  rw [this]; rfl
theorem drew_rd {w wr : World} {v : Value} {ds : List D} (h : ∃ q, wr = w.drewN q) (hr : Rd (· < w.heap.size) w v ds) : Rd (· < wr.heap.size) wr v ds := by
  obtain ⟨q, rfl⟩ := h; exact hr.drewN q
theorem drew_more {w wr : World} (h : ∃ q, wr = w.drewN q) (n : Nat) : ∃ q, wr.drewN n = w.drewN q := by
  obtain ⟨q, rfl⟩ := h; exact ⟨_, World.drewN_drewN _ _ _⟩
set_option maxHeartbeats 4000000 in
theorem RSame07_calls : ∀ (N : Nat) (a b : List Sp) (_ : D.bulks (dSps a) < N) (va vb : Value) (w : World) (_ : Rd (· < w.heap.size) w va (dSps a)) (_ : Rd (· < w.heap.size) w vb (dSps b)),
    Calls Tryz.prog 31 #[va, vb] w fun e w' => e = .returned (.bool (eqSps a b)) ∧ ∃ q, w' = w.drewN q := by
  intro N
  induction N with
  | zero => intro _ _ h; exact absurd h (Nat.not_lt_zero _)
  | succ N ih =>
    have IH := Lib.hid ih
    clear ih
    intro a b hN va vb w hA hB
    obtain ⟨A, ca, rfl, hca, hma⟩ := hA.form
    obtain ⟨A', cb, rfl, hcb, hmb⟩ := hB.form
    rw [dSps_len] at *
    rw [dSps_len] at *
    by_cases hl : a.length = b.length
    · have hz : ((a.length : Int) == (b.length : Int)) = true := by simp [hl]
      have HA := Lib.hid hA
      have HB := Lib.hid hB
      have HL := Lib.hid hl
      clear hA hB hl
      go_enter Tryz.func31, Tryz.ntmps31
      go_wp2
      go_loopw [13] (fun vi wr => ∃ i : Nat, i ≤ a.length ∧ vi = .int .i64 i ∧ Hid (eqSps (a.take i) (b.take i) = true) ∧ ∃ q, wr = w.drewN q) (fun vi _ => a.length - (intOf vi).toNat)
      case atStart => exact ⟨0, Nat.zero_le _, rfl, Lib.hid (by simp [eqSps]), 0, rfl⟩
      case round =>
        obtain ⟨i, hi, rfl, hq, hdr⟩ := hrel
        have HDR := Lib.hid hdr
        have hAr := drew_rd hdr HA.out
        have hBr := drew_rd hdr HB.out
        clear hdr
        by_cases hlt : i < a.length
        · have hltb : i < b.length := by have := HL.out; omega
          obtain ⟨ba, oa, u, rfl, _, _, x0, x1, x2, hk⟩ := hAr.sp_at hlt
          obtain ⟨bb, ob, u', rfl, _, _, y0, y1, y2, hk'⟩ := hBr.sp_at hltb
          have hbk : (dSp a[i]).bulk ≤ D.bulks (dSps a) := by rw [dSps_map]; exact D.bulk_mem (List.mem_map.2 ⟨_, List.getElem_mem hlt, rfl⟩)
          have HAT := Lib.hid (eqSps_at hq.out hlt hltb)
          have HNO := Lib.hid (fun h => eqSps_no (a := a) (b := b) (i := i) h)
          generalize a[i] = x at *
          generalize b[i] = y at *
          obtain ⟨K, s, L⟩ := x
          obtain ⟨K', s', L'⟩ := y
          simp only [Sp.kind, Sp.s, Sp.kids] at x0 x1 x2 y0 y1 y2 hk hk'
          obtain ⟨T, tc, rfl, _, _⟩ := hk.form
          obtain ⟨T', tc', rfl, _, _⟩ := hk'.form
          rw [dSps_len] at x2 y2 hk hk'
          have hbL : D.bulks (dSps L) < N := by simp only [dSp, D.bulk, D.bulks] at hbk; omega
          have HR := Lib.hid (fun q' => IH.out L L' hbL _ _ (wr.drewN q') (hk.drewN q') (hk'.drewN q'))
          clear hk hk' hbk hAr hBr
          by_cases hkk : K = K'
          · have bk : (K != K') = false := bne_f hkk
            by_cases hss : s = s'
            · have bs := beq_t hss
              have bs2 : (!(s.toList == s'.toList)) = false := by rw [bs]; rfl
              cases hv : eqSps L L' with
              | true =>
                rw [hv] at HR
                have HE : eqSps (a.take (i + 1)) (b.take (i + 1)) = true := by rw [HAT.out, eqSp, hv]; simp [hkk, hss]
                have HN := Lib.hid HE
                clear HE hkk hss hv
                go_wp2
                go_quiet (first | (go_at_call 31; go_must (exact Calls.quiet_of (HR.out _))))
                go_wp2
                go_roundw
                case rel => exact ⟨i + 1, by omega, by go_num, HN, drew_more HDR.out _⟩
                case measure => simp [intOf]; omega
              | false =>
                rw [hv] at HR
                have HE : eqSps a b = false := HNO.out (by rw [HAT.out, eqSp, hv]; simp)
                have HN := Lib.hid HE
                clear HE hkk hss hv
                go_wp2
                go_quiet (first | (go_at_call 31; go_must (exact Calls.quiet_of (HR.out _))))
                go_wp2
                go_ret
                exact ⟨ret_bool HN.out.symm, drew_more HDR.out _⟩
            · have bs := beq_f hss
              have bs2 : (!(s.toList == s'.toList)) = true := by rw [bs]; rfl
              have HE : eqSps a b = false := HNO.out (by rw [HAT.out, eqSp]; simp [hss])
              have HN := Lib.hid HE
              clear HE hkk hss HR
              go_wp2
              go_quiet (fail)
              go_wp2
              go_ret
              exact ⟨ret_bool HN.out.symm, drew_more HDR.out _⟩
          · have bk : (K != K') = true := bne_t hkk
            have HE : eqSps a b = false := HNO.out (by rw [HAT.out, eqSp]; simp [hkk])
            have HN := Lib.hid HE
            clear HE hkk HR
            go_wp2
            go_quiet (fail)
            go_wp2
            go_ret
            exact ⟨ret_bool HN.out.symm, drew_more HDR.out _⟩
        · have hie : i = a.length := by omega
          have hq2 := hq.out
          rw [hie, List.take_length, HL.out, List.take_length] at hq2
          have HQ := Lib.hid hq2
          clear hq2 hie
          go_wp2
          go_ret
          exact ⟨ret_bool HQ.out.symm, HDR.out⟩
    · rw [eqSps_len hl]
      have hz : ((a.length : Int) == (b.length : Int)) = false := beq_eq_false_iff_ne.2 (by omega)
      clear hA hB hl
      go_enter Tryz.func31, Tryz.ntmps31
      go_wp2
      go_ret
      exact ⟨rfl, 0, rfl⟩
set_option maxRecDepth 100000 in
theorem texts10_calls {ok ok' : Nat → Prop} (va vb : Value) (a b : List ByteArray) (w : World) (hA : Rd ok w va (a.map D.str)) (hB : Rd ok' w vb (b.map D.str)) :
    Calls Tryz.prog 30 #[va, vb] w fun e w' => e = .returned (.bool (decide (a = b))) ∧ ∃ q, w' = w.drewN q := by
  obtain ⟨A, ca, rfl, hca, hma⟩ := hA.form
  obtain ⟨B, cb, rfl, hcb, hmb⟩ := hB.form
  simp only [List.length_map] at *
  by_cases hl : a.length = b.length
  · have HA := Lib.hid hA
    have HB := Lib.hid hB
    have HL := Lib.hid hl
    have hz : ((a.length : Int) == (b.length : Int)) = true := by simp [hl]
    clear hA hB hl
    go_enter Tryz.func30, Tryz.ntmps30
    go_wp2
    go_loopw [13] (fun vi wr => ∃ i : Nat, i ≤ a.length ∧ vi = .int .i64 i ∧ (∀ j, j < i → a[j]? = b[j]?) ∧ ∃ q, wr = w.drewN q)
      (fun vi _ => a.length - (intOf vi).toNat)
    case atStart => exact ⟨0, Nat.zero_le _, rfl, fun j hj => absurd hj (Nat.not_lt_zero _), 0, rfl⟩
    case round =>
      obtain ⟨i, hi, rfl, hall, q, rfl⟩ := hrel
      by_cases hlt : i < a.length
      · have hltb : i < b.length := by have := HL.out; omega
        obtain ⟨ba, oa, rfl, _, _, hc1⟩ := HA.out.str_cell hlt
        obtain ⟨bb, ob, rfl, _, _, hc2⟩ := HB.out.str_cell hltb
        have e1 : a[i]? = some a[i] := List.getElem?_eq_getElem hlt
        have e2 : b[i]? = some b[i] := List.getElem?_eq_getElem hltb
        generalize a[i] = x at *
        generalize b[i] = y at *
        by_cases hxy : x = y
        · have bq := beq_t hxy
          have hnext : ∀ j, j < i + 1 → a[j]? = b[j]? := fun j hj => by
            by_cases e : j = i
            · subst e; rw [e1, e2, hxy]
            · exact hall j (by omega)
          have HN := Lib.hid hnext
          clear hall hxy e1 e2 hnext
          go_wp2
          go_quiet (fail)
          go_wp2
          go_roundw
          case rel => exact ⟨i + 1, by omega, by go_num, HN.out, _, rfl⟩
          case measure => simp [intOf]; omega
        · have bq := beq_f hxy
          have hne : a ≠ b := fun e => by
            subst e
            rw [e1] at e2
            exact hxy (Option.some.inj e2)
          have HN := Lib.hid hne
          clear hall hxy e1 e2 hne
          go_wp2
          go_quiet (fail)
          go_wp2
          go_ret
          exact ⟨ret_bool (by rw [decide_eq_false HN.out]), _, (by first | rfl | rw [World.drewN_drewN])⟩
      · have hab : a = b := eq_of_take HL.out (fun j hj => hall j (by omega))
        have HE := Lib.hid hab
        clear hall hab
        go_wp2
        go_ret
        exact ⟨ret_bool (by rw [decide_eq_true HE.out]), _, rfl⟩
  · have hz : ((a.length : Int) == (b.length : Int)) = false := beq_eq_false_iff_ne.2 (by omega)
    have hne : a ≠ b := fun e => hl (by rw [e])
    rw [decide_eq_false hne]
    clear hA hB hl hne
    go_enter Tryz.func30, Tryz.ntmps30
    go_wp2
    go_ret
    exact ⟨rfl, 0, rfl⟩
end Go.Proofs.YtlcfijkegdlfcaaGreatDoor
