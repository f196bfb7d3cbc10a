/- The walks of utf.gap, utf.lower. -/
import Derived.Test.YtnoloihdcmgbaaaDoorTok
namespace Go.Proofs.YtnoloihdcmgbaaaDoor
open Go.RowKit Go.PlainAid
set_option linter.all false
set_option linter.deprecated false
set_option maxRecDepth 100000
/-- Is a character a space or a break? -/
def gapI (c : Int) : Bool := cls c == 2 || cls c == 3
def gapB (c : UInt8) : Bool := gapI (c.toNat : Int)
/-- A letter as a small one. -/
def lowB (c : UInt8) : UInt8 := if 65 ≤ c.toNat ∧ c.toNat ≤ 90 then c + 32 else c
theorem gapI_iff (c : Int) : gapI c = true ↔ c = 9 ∨ c = 10 ∨ c = 13 ∨ c = 32 := by
  unfold gapI cls
  repeat' split
  all_goals simp
  all_goals omega
theorem utfgap_calls (c : Int) (w : World) (h0 : -2147483648 ≤ c) (h1 : c ≤ 2147483647) : Calls Tryd.prog 56 #[.int .i32 c] w fun e w' => e = .returned (.bool (gapI c)) ∧ w' = w := by
  have hc := class_calls c
  have hd : gapI c = (cls c == 2 || cls c == 3) := rfl
  rw [hd]
  generalize cls c = k at *
  have HC := Lib.hid hc
  clear hc hd
  have e1 : IntKind.i64.wrap c = c := IntWalk.i64_in _ (by omega)
  by_cases h2 : k = 2
  · have z : (k == 2) = true := by simp [h2]
    rw [z]
    clear h2
    go_enter Tryd.func56, Tryd.ntmps56
    go_wp2_with (go_at_call 87; go_must (refine (HC.out _).mono ?_); rintro e w' ⟨rfl, rfl⟩)
    go_ret
    exact ⟨rfl, rfl⟩
  · have z : (k == 2) = false := beq_eq_false_iff_ne.2 h2
    rw [z, Bool.false_or]
    clear h2
    go_enter Tryd.func56, Tryd.ntmps56
    go_wp2_with (go_at_call 87; go_must (refine (HC.out _).mono ?_); rintro e w' ⟨rfl, rfl⟩)
    go_ret
    exact ⟨rfl, rfl⟩
theorem utflower_calls (c : UInt8) (w : World) : Calls Tryd.prog 57 #[.int .u8 c.toNat] w fun e w' => e = .returned (.int .u8 (lowB c).toNat) ∧ w' = w := by
  have hl : c.toNat < 256 := c.toNat_lt
  have hd : lowB c = if 65 ≤ c.toNat ∧ c.toNat ≤ 90 then c + 32 else c := rfl
  by_cases h1 : 65 ≤ c.toNat
  · have z1 : (65 : Int) ≤ c.toNat := by omega
    by_cases h2 : c.toNat ≤ 90
    · have z2 : (c.toNat : Int) ≤ 90 := by omega
      rw [if_pos ⟨h1, h2⟩] at hd
      have hn : (lowB c).toNat = c.toNat + 32 := by rw [hd, UInt8.toNat_add]; simp; omega
      have HN := Lib.hid hn
      clear hd hn h1 h2
      go_enter Tryd.func57, Tryd.ntmps57
      go_wp2
      go_ret
      refine ⟨ret_int ?_, rfl⟩
      have := HN.out
      omega
    · have z2 : ¬ (c.toNat : Int) ≤ 90 := by omega
      rw [if_neg (fun h => h2 h.2)] at hd
      rw [hd]
      clear hd h1 h2
      go_enter Tryd.func57, Tryd.ntmps57
      go_wp2
      go_ret
      exact ⟨rfl, rfl⟩
  · have z1 : ¬ (65 : Int) ≤ c.toNat := by omega
    rw [if_neg (fun h => h1 h.1)] at hd
    rw [hd]
    clear hd h1
    go_enter Tryd.func57, Tryd.ntmps57
    go_wp2
    go_ret
    exact ⟨rfl, rfl⟩
end Go.Proofs.YtnoloihdcmgbaaaDoor
