/- The walks of awake and short (layer 17's statements). -/
import Derived.Test.YtnoloihdcmgbaaaWords2
namespace Go.Proofs.Ytnoloihdcmgbaaa
open Go.RowKit Go.PlainAid
set_option linter.all false
set_option linter.deprecated false
theorem awake_text : textL ⟨#[97, 32, 98, 32, 99]⟩ ⟨#[120, 32, 98, 32, 99]⟩ ⟨#[97, 32, 98, 32, 121]⟩ = some [⟨#[120]⟩, ⟨#[32]⟩, ⟨#[98]⟩, ⟨#[32]⟩, ⟨#[121]⟩] := by decide +kernel
set_option maxRecDepth 100000 in
theorem awake_calls (w : World) : Calls Try.prog 7 #[] w fun e w' => e = .returned (.bool true) ∧ Below w.heap.size w w' := by
  have ht := WText_calls ⟨#[97, 32, 98, 32, 99]⟩ ⟨#[120, 32, 98, 32, 99]⟩ ⟨#[97, 32, 98, 32, 121]⟩ w (by decide) (by decide) (by decide)
  rw [awake_text] at ht
  have he : catB ((some [⟨#[120]⟩, ⟨#[32]⟩, ⟨#[98]⟩, ⟨#[32]⟩, ⟨#[121]⟩] : Option (List ByteArray)).getD []) = ⟨#[120, 32, 98, 32, 121]⟩ := by decide +kernel
  rw [he] at ht
  have HT := Lib.hid ht
  clear ht he
  have hb := beq_t (rfl : (⟨#[120, 32, 98, 32, 121]⟩ : ByteArray) = ⟨#[120, 32, 98, 32, 121]⟩)
  go_enter Try.func7, Try.ntmps7
  go_wp2_with (go_at_call 8; go_must (refine (HT.out).mono ?_); rintro e w1 ⟨rfl, hb1⟩)
  go_ret
  exact ⟨rfl, hb1⟩
set_option maxRecDepth 100000 in
theorem short_calls (a b c : ByteArray) (w : World) : Calls Try.prog 12 #[.string a, .string b, .string c] w fun e w' => e = .returned (.bool (decide (a.size ≤ 120 ∧ b.size ≤ 120 ∧ c.size ≤ 120))) ∧ w' = w := by
  by_cases h1 : a.size ≤ 120
  · by_cases h2 : b.size ≤ 120
    · by_cases h3 : c.size ≤ 120
      · have e : decide (a.size ≤ 120 ∧ b.size ≤ 120 ∧ c.size ≤ 120) = true := by simp [h1, h2, h3]
        rw [e]
        have z1 : (a.size : Int) ≤ 120 := by omega
        have z2 : (b.size : Int) ≤ 120 := by omega
        have z3 : (c.size : Int) ≤ 120 := by omega
        clear e h1 h2 h3
        go_enter Try.func12, Try.ntmps12
        go_wp2
        go_ret
        exact ⟨rfl, rfl⟩
      · have e : decide (a.size ≤ 120 ∧ b.size ≤ 120 ∧ c.size ≤ 120) = false := by simp [h3]
        rw [e]
        have z1 : (a.size : Int) ≤ 120 := by omega
        have z2 : (b.size : Int) ≤ 120 := by omega
        have z3 : ¬ (c.size : Int) ≤ 120 := by omega
        clear e h1 h2 h3
        go_enter Try.func12, Try.ntmps12
        go_wp2
        go_ret
        exact ⟨rfl, rfl⟩
    · have e : decide (a.size ≤ 120 ∧ b.size ≤ 120 ∧ c.size ≤ 120) = false := by simp [h2]
      rw [e]
      have z1 : (a.size : Int) ≤ 120 := by omega
      have z2 : ¬ (b.size : Int) ≤ 120 := by omega
      clear e h1 h2
      go_enter Try.func12, Try.ntmps12
      go_wp2
      go_ret
      exact ⟨rfl, rfl⟩
  · have e : decide (a.size ≤ 120 ∧ b.size ≤ 120 ∧ c.size ≤ 120) = false := by simp [h1]
    rw [e]
    have z1 : ¬ (a.size : Int) ≤ 120 := by omega
    clear e h1
    go_enter Try.func12, Try.ntmps12
    go_wp2
    go_ret
    exact ⟨rfl, rfl⟩
end Go.Proofs.Ytnoloihdcmgbaaa
