/- The walk of the document's Same (layer 2). -/
import Derived.Test.YtjglehhkaeckmaaGreatDoorKit2
import Derived.Test.YtjglehhkaeckmaaGreatDoorStr
import Derived.Test.YtjglehhkaeckmaaGreatDoorTok
import Derived.Laws.OwnMore
namespace Go.Proofs.YtjglehhkaeckmaaGreatDoor
open Go.RowKit Go.PlainAid
set_option linter.all false
set_option linter.deprecated false
/-- The cell of a text at a place. -/
theorem Rd.str_cell {ok : Nat → Prop} {w : World} {A : Option Addr} {n c : Nat} {l : List ByteArray} (h : Rd ok w (.slice A n c) (l.map D.str)) {i : Nat} (hi : i < l.length) :
    ∃ b o, A = some ⟨b, o, none⟩ ∧ ok b ∧ b < w.heap.size ∧ w.cell? ⟨b, o + i, none⟩ = some (.string l[i]) := by
  obtain ⟨b, o, hA, hb, hlt, hc⟩ := h.strs (by omega)
  have := hc i hi
  refine ⟨b, o, hA, hb, hlt, ?_⟩
  rw [this]
  simp [hi]
theorem Rd.below' {w w1 : World} {v : Value} {ds : List D} (h : Rd (· < w.heap.size) w v ds) (hb : Below w.heap.size w w1) : Rd (· < w1.heap.size) w1 v ds := h.lt_below hb
theorem rd_row {w0 w1 : World} {base n : Nat} {v : Value} {l : List ByteArray} (h : w0.ownsRow base 9 1 v n (l.map Value.string)) (hn : l.length = n) (hb : Below w0.heap.size w0 w1) : Rd (· < w1.heap.size) w1 v (l.map D.str) :=
  (Rd.of_own (ok := (· < _)) h (by simpa using hn) (RepAll.strs _ _ _) (fun k hk => (h.lt k hk).2)).step (fun k hk _ => hb.block k hk) (fun k hk _ => Nat.lt_of_lt_of_le hk hb.size)
theorem eq_of_take {a b : List ByteArray} (hl : a.length = b.length) (h : ∀ i, i < a.length → a[i]? = b[i]?) : a = b := by
  apply List.ext_getElem?
  intro i
  by_cases hi : i < a.length
  · exact h i hi
  · rw [List.getElem?_eq_none (by omega), List.getElem?_eq_none (by omega)]
set_option maxRecDepth 100000 in
theorem Same_calls {ok ok' : Nat → Prop} (va vb : Value) (a b : List ByteArray) (w : World) (hA : Rd ok w va (a.map D.str)) (hB : Rd ok' w vb (b.map D.str)) :
    Calls Tryz.prog 11 #[va, vb] w fun e w' => e = .returned (.bool (decide (a = b))) ∧ ∃ q, w' = w.drewN q := by
  obtain ⟨A, ca, rfl, hca, hma⟩ := hA.form
  obtain ⟨B, cb, rfl, hcb, hmb⟩ := hB.form
  simp only [List.length_map] at *
  by_cases hl : a.length = b.length
  · have HA := Lib.hid hA
    have HB := Lib.hid hB
    have HL := Lib.hid hl
    have hz : ((a.length : Int) == (b.length : Int)) = true := by simp [hl]
    clear hA hB hl
    go_enter Tryz.func11, Tryz.ntmps11
    go_wp2
    go_loopw [13] (fun vi wr => ∃ i : Nat, i ≤ a.length ∧ vi = .int .i64 i ∧ (∀ j, j < i → a[j]? = b[j]?) ∧ ∃ q, wr = w.drewN q)
      (fun vi _ => a.length - (intOf vi).toNat)
    case atStart => exact ⟨0, Nat.zero_le _, rfl, fun j hj => absurd hj (Nat.not_lt_zero _), 0, rfl⟩
    case round =>
      obtain ⟨i, hi, rfl, hall, q, rfl⟩ := hrel
      by_cases hlt : i < a.length
      · have hltb : i < b.length := by have := HL.out; omega
        obtain ⟨ba, oa, rfl, _, _, hc1⟩ := HA.out.str_cell hlt
        obtain ⟨bb, ob, rfl, _, _, hc2⟩ := HB.out.str_cell hltb
        have e1 : a[i]? = some a[i] := List.getElem?_eq_getElem hlt
        have e2 : b[i]? = some b[i] := List.getElem?_eq_getElem hltb
        generalize a[i] = x at *
        generalize b[i] = y at *
        by_cases hxy : x = y
        · have bq := beq_t hxy
          have hnext : ∀ j, j < i + 1 → a[j]? = b[j]? := fun j hj => by
            by_cases e : j = i
            · subst e; rw [e1, e2, hxy]
            · exact hall j (by omega)
          have HN := Lib.hid hnext
          clear hall hxy e1 e2 hnext
          go_wp2
          go_quiet (fail)
          go_wp2
          go_roundw
          case rel => exact ⟨i + 1, by omega, by go_num, HN.out, _, rfl⟩
          case measure => simp [intOf]; omega
        · have bq := beq_f hxy
          have hne : a ≠ b := fun e => by
            subst e
            rw [e1] at e2
            exact hxy (Option.some.inj e2)
          have HN := Lib.hid hne
          clear hall hxy e1 e2 hne
          go_wp2
          go_quiet (fail)
          go_wp2
          go_ret
          exact ⟨ret_bool (by rw [decide_eq_false HN.out]), _, (by first | rfl | rw [World.drewN_drewN])⟩
      · have hab : a = b := eq_of_take HL.out (fun j hj => hall j (by omega))
        have HE := Lib.hid hab
        clear hall hab
        go_wp2
        go_ret
        exact ⟨ret_bool (by rw [decide_eq_true HE.out]), _, rfl⟩
  · have hz : ((a.length : Int) == (b.length : Int)) = false := beq_eq_false_iff_ne.2 (by omega)
    have hne : a ≠ b := fun e => hl (by rw [e])
    rw [decide_eq_false hne]
    clear hA hB hl hne
    go_enter Tryz.func11, Tryz.ntmps11
    go_wp2
    go_ret
    exact ⟨rfl, 0, rfl⟩
end Go.Proofs.YtjglehhkaeckmaaGreatDoor
