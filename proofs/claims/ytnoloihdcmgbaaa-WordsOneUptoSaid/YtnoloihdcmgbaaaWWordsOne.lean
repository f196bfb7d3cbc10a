/- The walk of the law WordsOne. -/
import Derived.Test.YtnoloihdcmgbaaaAwake17
namespace Go.Proofs.Ytnoloihdcmgbaaa
open Go.RowKit Go.PlainAid
set_option linter.all false
set_option linter.deprecated false
theorem WOne_is (b o t x : ByteArray) (k : Bool) (h : oneV b o t = (x, k)) (w : World) : Calls Try.prog 14 #[.string b, .string o, .string t] w fun e w' => e = .returned (.tuple #[.string x, .bool k]) ∧ w' = w := by
  have := WOne_calls b o t w
  rw [h] at this
  exact this
theorem wordsOne_long (b o t : ByteArray) (w : World) (h : ¬ (b.size ≤ 120 ∧ o.size ≤ 120 ∧ t.size ≤ 120)) :
    Calls Try.prog 6 #[.string b, .string o, .string t] w fun e w' => e = .returned (.bool true) ∧ Below w.heap.size w w' := by
  have hs := short_calls b o t
  rw [decide_eq_false h] at hs
  clear h
  have HS := Lib.hid hs
  clear hs
  go_enter Try.func6, Try.ntmps6
  go_wp2_with fail
  refine (awake_calls _).mono ?_
  rintro e w1 ⟨rfl, hb1⟩
  go_wp2_with fail
  refine (HS.out _).mono ?_
  rintro e w2 ⟨rfl, rfl⟩
  go_wp2_with fail
  refine (awake_calls _).mono ?_
  rintro e w3 ⟨rfl, hb3⟩
  go_wp2_with fail
  go_ret
  exact ⟨rfl, below_to hb1 hb1.size hb3⟩
set_option maxRecDepth 100000 in
set_option maxHeartbeats 1000000 in
theorem wordsOne_walk (b o t : ByteArray) (w : World) (_ : b.size ≤ maxLen) (_ : o.size ≤ maxLen) (_ : t.size ≤ maxLen) (_ : (b.size + 1) + (o.size + 1) + (t.size + 1) ≤ 1048576) :
    Calls Try.prog 6 #[.string b, .string o, .string t] w fun e w' => e = .returned (.bool true) ∧ Below w.heap.size w w' := by
  by_cases hs : b.size ≤ 120 ∧ o.size ≤ 120 ∧ t.size ≤ 120
  rotate_left
  · exact wordsOne_long b o t w hs
  have hc := short_calls b o t
  rw [decide_eq_true hs] at hc
  have HS := Lib.hid hc
  clear hs hc
  by_cases h1 : t = b
  · subst h1
    by_cases h2 : o = t
    · subst h2
      have e1 : oneV o o o = (o, true) := by simp [oneV]
      go_enter Try.func6, Try.ntmps6
      go_wp2_with (first
        | (go_at_call 7; go_must (refine (awake_calls _).mono ?_); rintro e w1 ⟨rfl, hb1⟩)
        | (go_at_call 12; go_must (refine (HS.out _).mono ?_); rintro e w2 ⟨rfl, rfl⟩)
        | (go_at_call 14; go_must (refine (WOne_is _ _ _ _ _ (by assumption) _).mono ?_); rintro e w2 ⟨rfl, rfl⟩))
      go_ret
      exact ⟨rfl, hb1⟩
    · have e1 : oneV t o t = (o, true) := by simp [oneV]
      have e2 : oneV t t o = (o, true) := by unfold oneV; rw [if_neg h2]; simp
      have e3 : oneV t t t = (t, true) := by simp [oneV]
      have b1 := beq_f h2
      clear h2
      go_enter Try.func6, Try.ntmps6
      go_wp2_with (first
        | (go_at_call 7; go_must (refine (awake_calls _).mono ?_); rintro e w1 ⟨rfl, hb1⟩)
        | (go_at_call 12; go_must (refine (HS.out _).mono ?_); rintro e w2 ⟨rfl, rfl⟩)
        | (go_at_call 14; go_must (refine (WOne_is _ _ _ _ _ (by assumption) _).mono ?_); rintro e w2 ⟨rfl, rfl⟩))
      go_ret
      exact ⟨rfl, hb1⟩
  · by_cases h2 : o = b
    · subst h2
      have e1 : oneV o o t = (t, true) := by unfold oneV; rw [if_neg h1]; simp
      have e2 : oneV o t o = (t, true) := by simp [oneV]
      have e3 : oneV o o o = (o, true) := by simp [oneV]
      have b1 := beq_f h1
      have b2 := beq_f (fun e => h1 e.symm)
      clear h1
      go_enter Try.func6, Try.ntmps6
      go_wp2_with (first
        | (go_at_call 7; go_must (refine (awake_calls _).mono ?_); rintro e w1 ⟨rfl, hb1⟩)
        | (go_at_call 12; go_must (refine (HS.out _).mono ?_); rintro e w2 ⟨rfl, rfl⟩)
        | (go_at_call 14; go_must (refine (WOne_is _ _ _ _ _ (by assumption) _).mono ?_); rintro e w2 ⟨rfl, rfl⟩))
      go_ret
      exact ⟨rfl, hb1⟩
    · by_cases h3 : o = t
      · subst h3
        have e1 : oneV b o o = (o, true) := by unfold oneV; rw [if_neg h1]; simp
        have e3 : oneV b b o = (o, true) := by unfold oneV; rw [if_neg h1]; simp
        have e4 : oneV b o b = (o, true) := by simp [oneV]
        have b1 := beq_f h1
        clear h1 h2
        go_enter Try.func6, Try.ntmps6
        go_wp2_with (first
          | (go_at_call 7; go_must (refine (awake_calls _).mono ?_); rintro e w1 ⟨rfl, hb1⟩)
          | (go_at_call 12; go_must (refine (HS.out _).mono ?_); rintro e w2 ⟨rfl, rfl⟩)
          | (go_at_call 14; go_must (refine (WOne_is _ _ _ _ _ (by assumption) _).mono ?_); rintro e w2 ⟨rfl, rfl⟩))
        go_ret
        exact ⟨rfl, hb1⟩
      · have e1 : oneV b o t = (ByteArray.empty, false) := by unfold oneV; rw [if_neg h1, if_neg (fun h => h.elim h2 h3)]
        have e2 : oneV b t o = (ByteArray.empty, false) := by unfold oneV; rw [if_neg h2, if_neg (fun h => h.elim h1 (fun e => h3 e.symm))]
        have e3 : oneV b b t = (t, true) := by unfold oneV; rw [if_neg h1]; simp
        have e4 : oneV b o b = (o, true) := by simp [oneV]
        have b1 := beq_f h1
        have b2 := beq_f h2
        have b3 := beq_f h3
        clear h1 h2 h3
        go_enter Try.func6, Try.ntmps6
        go_wp2_with (first
          | (go_at_call 7; go_must (refine (awake_calls _).mono ?_); rintro e w1 ⟨rfl, hb1⟩)
          | (go_at_call 12; go_must (refine (HS.out _).mono ?_); rintro e w2 ⟨rfl, rfl⟩)
          | (go_at_call 14; go_must (refine (WOne_is _ _ _ _ _ (by assumption) _).mono ?_); rintro e w2 ⟨rfl, rfl⟩))
        go_ret
        exact ⟨rfl, hb1⟩
end Go.Proofs.Ytnoloihdcmgbaaa
